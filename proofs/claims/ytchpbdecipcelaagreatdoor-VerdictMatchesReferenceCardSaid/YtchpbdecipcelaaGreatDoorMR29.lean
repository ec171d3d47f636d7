import Derived.Test.YtchpbdecipcelaaGreatDoorMR01
import Derived.Test.YtchpbdecipcelaaGreatDoorMR23
import Derived.Test.YtchpbdecipcelaaGreatDoorMR28
namespace Go.Proofs.YtchpbdecipcelaaGreatDoor
set_option linter.unusedVariables false
set_option linter.unusedSimpArgs false
set_option maxHeartbeats 4000000
set_option maxRecDepth 100000
open Go.RowKit
structure yN where
 chain : Int
 round : Int
 at_ : Int
 replies : List zN
 deriving Inhabited, DecidableEq
@[go_sem] def yN.av (x : yN) : List AV := [.raw (.int .i64 x.chain), .raw (.int .i64 x.round), .raw (.int .i64 x.at_), lA 10 zN.av x.replies]
@[simp] theorem yN.free (x : yN) : AV.freeL x.av := ⟨trivial, trivial, trivial, zC (fun y => zN.free y) _, trivial⟩
def xM (i : Nat) (rs : List yK) (at0 : Int) : Nat → List yN × Int
 | 0 => ([], at0)
 | k + 1 => ((xM i rs at0 k).1 ++ [⟨i, k, (xM i rs at0 k).2, (rs.getD k default).replies⟩], (xM i rs at0 k).2 + (1 + 2 * ((rs.getD k default).replies.length : Int)))
def evM (cs : List xA) : Nat → List yN × Int
 | 0 => ([], 1)
 | i + 1 => ((evM cs i).1 ++ (xM i (cs.getD i default).rounds (evM cs i).2 (cs.getD i default).rounds.length).1, (xM i (cs.getD i default).rounds (evM cs i).2 (cs.getD i default).rounds.length).2)
theorem zK7 {st : ASt} : ∀ {xs : List AV}, AV.freeL xs → zWi st xs xs
 | [], _ => rfl
 | _ :: _, h => ⟨_, _, rfl, zV.free h.1, zK7 h.2⟩
def itE (e : yN) : List AV := [.agg e.av]
def zG5 (m : zL) : AV := .fn (.func 77) [] [.elt m.av 0]
theorem zY6 (m : zL) : FnA Tryz.prog 31 [.agg m.av] (zG5 m) := by
 have hfr := zL.free m
 refine en Tryz.func31 Tryz.ntmps31 [.tmp 2] rfl ?_
 try (refine wg ?_; try refine sM fun K hK => ?_)
 refine zM (by simp) ⟨_, _, _, evl, ob0, ?_⟩
 exact zV.fn rfl ⟨_, _, rfl, zV.box rfl (zK7 hfr), rfl⟩
def isA (id : Int) (a : qV) : Bool := decide (a.id = id)
theorem zW6 (a : qV) (r : zN) : FnG Tryz.prog 128 [.agg a.av, .box 0 0] [r.av] [] (.raw (.bool (isA r.auth a))) [r.av] [] := by
 refine enG Tryz.func128 Tryz.ntmps128 [.tmp 3] 1 rfl ?_
 repeat' first
  | refine wkg trivial ?_
  | (refine cS (fun hb => ?_) fun hb => ?_ <;> try (cases hb; done))
  | refine sM fun K hK => ?_
  | fail
 all_goals (refine yG (by simp) ⟨_, _, _, evl, obq, jD.bel ?_ obb, by simp, ?_, rfl, obb, obb⟩)
 all_goals first | rfl | (simp [isA]; done) | (simp_all [isA]; done) | (simp_all [isA]; omega) | (simp [isA]; grind) | (split <;> simp_all) | skip
theorem zSb (w : wU) (r : zN) : FnG Tryz.prog 130 [.agg w.av, .box 0 0] [r.av] [] (.raw (.bool (isW r.host r.auth w))) [r.av] [] := by
 refine enG Tryz.func130 Tryz.ntmps130 [.tmp 3] 1 rfl ?_
 repeat' first
  | refine wkg trivial ?_
  | (refine cS (fun hb => ?_) fun hb => ?_ <;> try (cases hb; done))
  | refine sM fun K hK => ?_
  | fail
 all_goals (refine yG (by simp) ⟨_, _, _, evl, obq, jD.bel ?_ obb, by simp, ?_, rfl, obb, obb⟩)
 all_goals first | rfl | (simp [isW]; done) | (simp_all [isW]; done) | (simp_all [isW]; omega) | (simp [isW]; grind) | (split <;> simp_all) | skip
theorem zUo (l : List qV) (hl : l.length ≤ 4611686018427387904) (r : zN) : FnG Tryz.prog 127 [lA 4 qV.av l, .fn (.func 128) [] [.box 0 0]] [r.av] [] (.raw (.int .i64 (vA (isA r.auth) l))) [r.av] [] := by
 refine enG Tryz.func127 Tryz.ntmps127 [.tmp 4] 1 rfl ?_
 try (refine wg ?_; try refine sM fun K hK => ?_)
 refine zF (fun k : Nat => ⟨19, 1, [(0, true, lA 4 qV.av l), (1, true, .fn (.func 128) [] [.box 0 0]), (7, true, .raw (.int .i64 l.length)), (8, true, .raw (.int .i64 k))], [r.av], [], ((0, []), [], true)⟩)
  (fun k => k ≤ l.length ∧ ∀ i, i < k → (isA r.auth) (l.getD i default) = false) (fun k => l.length - k) 0 ?_ ⟨by omega, fun i h => by omega⟩ ?_
 ·exact wkZ
 ·rintro k ⟨hk, hall⟩
  have hpk := zW6 (l.getD k default) r
  generalize hpb : (isA r.auth) (l.getD k default) = pb at *
  try (refine wg ?_; try refine sM fun K hK => ?_)
  refine zA ⟨_, evl, fun hlt => ?_, fun hge => ?_⟩
  ·simp only [yLr] at hlt
   try (first | refine wkM hK trivial ?_ | refine wkg trivial ?_)
   try clear hK K
   try refine sM fun K hK => ?_
   refine xW [0] [] (hpk) rfl rfl rfl ⟨_, evl, _, evl, _, evl, obl, by decide, by decide, hlT, hlT, zWv, _, evl, _, evl, _, evl, ?_⟩
   try (first | refine wkM hK trivial ?_ | refine wkg trivial ?_)
   try clear hK K
   try refine sM fun K hK => ?_
   refine zA ⟨_, evl, fun hb => ?_, fun hb => ?_⟩
   ·try (refine wg ?_; try refine sM fun K hK => ?_)
    rw [wQ (show k < l.length by omega) hall (hpb.trans hb)]
    all_goals (refine yG (by simp) ⟨_, _, _, evl, obq, jD.bel ?_ obb, by simp, ?_, rfl, obb, obb⟩)
    all_goals first | rfl | (simp []; done) | (simp_all []; done) | (simp_all []; omega) | (simp []; grind) | (split <;> simp_all) | skip
   ·try (refine wg ?_; try refine sM fun K hK => ?_)
    refine ⟨k + 1, ⟨by omega, fun i hi => ?_⟩, by omega, ?_⟩
    ·rcases yNv.1 hi with h | rfl
     ·exact hall i h
     ·exact hpb.trans hb
    ·exact wkZ
  ·simp only [yMz] at hge
   try (refine wg ?_; try refine sM fun K hK => ?_)
   rw [xI (fun i hi => hall i (by omega))]
   all_goals (refine yG (by simp) ⟨_, _, _, evl, obq, jD.bel ?_ obb, by simp, ?_, rfl, obb, obb⟩)
   all_goals first | rfl | (simp []; done) | (simp_all []; done) | (simp_all []; omega) | (simp []; grind) | (split <;> simp_all) | skip
theorem zUn (l : List wU) (hl : l.length ≤ 4611686018427387904) (r : zN) : FnG Tryz.prog 129 [lA 3 wU.av l, .fn (.func 130) [] [.box 0 0]] [r.av] [] (.raw (.int .i64 (vA (isW r.host r.auth) l))) [r.av] [] := by
 refine enG Tryz.func129 Tryz.ntmps129 [.tmp 4] 1 rfl ?_
 try (refine wg ?_; try refine sM fun K hK => ?_)
 refine zF (fun k : Nat => ⟨19, 1, [(0, true, lA 3 wU.av l), (1, true, .fn (.func 130) [] [.box 0 0]), (7, true, .raw (.int .i64 l.length)), (8, true, .raw (.int .i64 k))], [r.av], [], ((0, []), [], true)⟩)
  (fun k => k ≤ l.length ∧ ∀ i, i < k → (isW r.host r.auth) (l.getD i default) = false) (fun k => l.length - k) 0 ?_ ⟨by omega, fun i h => by omega⟩ ?_
 ·exact wkZ
 ·rintro k ⟨hk, hall⟩
  have hpk := zSb (l.getD k default) r
  generalize hpb : (isW r.host r.auth) (l.getD k default) = pb at *
  try (refine wg ?_; try refine sM fun K hK => ?_)
  refine zA ⟨_, evl, fun hlt => ?_, fun hge => ?_⟩
  ·simp only [yLr] at hlt
   try (first | refine wkM hK trivial ?_ | refine wkg trivial ?_)
   try clear hK K
   try refine sM fun K hK => ?_
   refine xW [0] [] (hpk) rfl rfl rfl ⟨_, evl, _, evl, _, evl, obl, by decide, by decide, hlT, hlT, zWv, _, evl, _, evl, _, evl, ?_⟩
   try (first | refine wkM hK trivial ?_ | refine wkg trivial ?_)
   try clear hK K
   try refine sM fun K hK => ?_
   refine zA ⟨_, evl, fun hb => ?_, fun hb => ?_⟩
   ·try (refine wg ?_; try refine sM fun K hK => ?_)
    rw [wQ (show k < l.length by omega) hall (hpb.trans hb)]
    all_goals (refine yG (by simp) ⟨_, _, _, evl, obq, jD.bel ?_ obb, by simp, ?_, rfl, obb, obb⟩)
    all_goals first | rfl | (simp []; done) | (simp_all []; done) | (simp_all []; omega) | (simp []; grind) | (split <;> simp_all) | skip
   ·try (refine wg ?_; try refine sM fun K hK => ?_)
    refine ⟨k + 1, ⟨by omega, fun i hi => ?_⟩, by omega, ?_⟩
    ·rcases yNv.1 hi with h | rfl
     ·exact hall i h
     ·exact hpb.trans hb
    ·exact wkZ
  ·simp only [yMz] at hge
   try (refine wg ?_; try refine sM fun K hK => ?_)
   rw [xI (fun i hi => hall i (by omega))]
   all_goals (refine yG (by simp) ⟨_, _, _, evl, obq, jD.bel ?_ obb, by simp, ?_, rfl, obb, obb⟩)
   all_goals first | rfl | (simp []; done) | (simp_all []; done) | (simp_all []; omega) | (simp []; grind) | (split <;> simp_all) | skip
abbrev vL (l : List zH) : yD := ⟨36, 4, l.length, els zH.av l⟩
abbrev yF (m : zL) (n : Nat) : List AV := [lA 7 zI.av m.evidence.keys, lA 4 qV.av m.evidence.auths, .raw (.int .i64 m.evidence.f), lA 2 xA.av m.evidence.chains, lA 4 vS.av m.diaries, lA 3 wU.av m.wires, .row 0 n]
structure yKg (m : zL) : Prop where
 k : (lA 7 zI.av m.evidence.keys).free
 a : (lA 4 qV.av m.evidence.auths).free
 c : (lA 2 xA.av m.evidence.chains).free
 d : (lA 4 vS.av m.diaries).free
 w : (lA 3 wU.av m.wires).free
theorem zDl (m : zL) : yKg m := ⟨zC (fun y => zI.free y) _, zC (fun y => qV.free y) _, zC (fun y => xA.free y) _, zC (fun y => vS.free y) _, zC (fun y => wU.free y) _⟩
theorem zEc {m : Nat} (l : List zH) : zLy m [vL l] := by
 intro r hr q _
 simp only [yLf, yMo, yMv] at hr
 subst hr
 exact AV.belL_free _ (zH.free _)
theorem yJf {m : zL} {l : List zH} {n n' : Nat} {l' : List zH} {args : List AV} (ha : AV.subL 1 1 args) : (∀ cs ∈ [yF m n], AV.subL 1 1 cs) ∧ (∀ r ∈ [vL l], ∀ q, q < r.n → AV.subL 1 1 (r.el q)) ∧ AV.subL 1 1 args ∧ 1 ≤ [yF m n'].length ∧ 1 ≤ [vL l'].length := by
 obtain ⟨f1, f2, f3, f4, f5⟩ := zDl m
 refine ⟨fun cs hc => ?_, fun r hr q _ => ?_, ha, yKq _, yKq _⟩
 ·simp only [yLf, yMo, yMv] at hc
  subst hc
  exact ⟨AV.sub_free _ f1, AV.sub_free _ f2, trivial, AV.sub_free _ f3, AV.sub_free _ f4, AV.sub_free _ f5, yOh, trivial⟩
 ·simp only [yLf, yMo, yMv] at hr
  subst hr
  exact AV.subL_free _ (zH.free _)
theorem kU (l : List zH) (q : Nat) : AV.freeL (els zH.av l q) := zH.free _
def zCu (l : List qV) (id : Int) : qV × Bool := if vA (isA id) l < 0 then (⟨0, 0, 0, 0⟩, false) else (l.getD (vA (isA id) l).toNat default, true)
theorem zPv (m : zL) (h : m.evidence.auths.length ≤ 4611686018427387904) (l : List zH) (r : zN) :
  FnG Tryz.prog 78 [.box 0 0, .agg r.av] [yF m l.length] [vL l] (.tup [.agg (zCu m.evidence.auths r.auth).1.av, .raw (.bool (zCu m.evidence.auths r.auth).2)]) [yF m l.length] [vL l] := by
 obtain ⟨f1, f2, f3, f4, f5⟩ := zDl m
 have hi := zUo m.evidence.auths h r
 have hr := wC (isA r.auth) m.evidence.auths
 have hrf := kU l
 unfold zCu
 generalize vA (isA r.auth) m.evidence.auths = q at *
 refine enG Tryz.func78 Tryz.ntmps78 [.cell 4 132, .tmp 5] 1 rfl ?_
 try (first | refine wkM hK trivial ?_ | refine wkg trivial ?_)
 try clear hK K
 try refine sM fun K hK => ?_
 refine xW [1] [] (hi) rfl rfl rfl ⟨_, evl, _, evl, _, evl, obl, by decide, by decide, hlT, hlT, zWv, _, evl, _, evl, _, evl, ?_⟩
 try (first | refine wkM hK trivial ?_ | refine wkg trivial ?_)
 try clear hK K
 try refine sM fun K hK => ?_
 refine zA ⟨_, evl, fun hb => ?_, fun hb => ?_⟩
 ·rw [if_pos (yNw hb)]
  try (refine wg ?_; try refine sM fun K hK => ?_)
  all_goals (refine yG (by simp) ⟨_, _, _, evl, obq, jD.bel ?_ obb, by simp, ?_, rfl, obb, zEc _⟩)
  all_goals first | rfl | (simp; done) | (simp_all; done) | (simp_all; omega) | skip
 ·simp only [yMz] at hb
  rw [if_neg hb]
  try (refine wg ?_; try refine sM fun K hK => ?_)
  all_goals (refine yG (by simp) ⟨_, _, _, evl, obq, jD.bel ?_ obb, by simp, ?_, rfl, obb, zEc _⟩)
  all_goals first | rfl | (simp; done) | (simp_all; done) | (simp_all; omega) | skip
def wZ (l : List wU) (host auth : Int) : Change × Bool := if vA (isW host auth) l < 0 then (⟨0, 0, 0, 0, 0⟩, false) else ((Lk.linkBoundsM (l.getD (vA (isW host auth) l).toNat default).changes ⟨0, 3000000000000000⟩).1, decide ((Lk.linkBoundsM (l.getD (vA (isW host auth) l).toNat default).changes ⟨0, 3000000000000000⟩).2 = 0))
theorem zNz (m : zL) (h : m.wires.length ≤ 4611686018427387904) (hc : ∀ w ∈ m.wires, w.changes.length ≤ 4611686018427387904) (l : List zH) (r : zN) :
  FnG Tryz.prog 79 [.box 0 0, .agg r.av] [yF m l.length] [vL l] (.tup [.agg (wZ m.wires r.host r.auth).1.av, .raw (.bool (wZ m.wires r.host r.auth).2)]) [yF m l.length] [vL l] := by
 obtain ⟨f1, f2, f3, f4, f5⟩ := zDl m
 have hi := zUn m.wires h r
 have hr := wC (isW r.host r.auth) m.wires
 have hrf := kU l
 unfold wZ
 generalize vA (isW r.host r.auth) m.wires = q at *
 refine enG Tryz.func79 Tryz.ntmps79 [.cell 4 125, .tmp 5] 1 rfl ?_
 try (first | refine wkM hK trivial ?_ | refine wkg trivial ?_)
 try clear hK K
 try refine sM fun K hK => ?_
 refine xW [1] [] (hi) rfl rfl rfl ⟨_, evl, _, evl, _, evl, obl, by decide, by decide, hlT, hlT, zWv, _, evl, _, evl, _, evl, ?_⟩
 try (first | refine wkM hK trivial ?_ | refine wkg trivial ?_)
 try clear hK K
 try refine sM fun K hK => ?_
 refine zA ⟨_, evl, fun hb => ?_, fun hb => ?_⟩
 ·rw [if_pos (yNw hb)]
  try (refine wg ?_; try refine sM fun K hK => ?_)
  all_goals (refine yG (by simp) ⟨_, _, _, evl, obq, jD.bel ?_ obb, by simp, ?_, rfl, obb, zEc _⟩)
  all_goals first | rfl | (simp; done) | (simp_all; done) | (simp_all; omega) | skip
 ·simp only [yMz] at hb
  have hb2 := zKn (m.wires.getD q.toNat default).changes ⟨0, 3000000000000000⟩ (hc _ (w9 (by omega)))
  have hcf : (lA 5 Change.av (m.wires.getD q.toNat default).changes).free := zC (fun y => Change.free y) _
  rw [if_neg hb]
  generalize Lk.linkBoundsM (m.wires.getD q.toNat default).changes ⟨0, 3000000000000000⟩ = B at *
  try (refine wkg hb2 ?_; try refine sM fun K hK => ?_)
  all_goals (refine yG (by simp) ⟨_, _, _, evl, obq, jD.bel ?_ obb, by simp, ?_, rfl, obb, zEc _⟩)
  all_goals first | rfl | (simp; done) | (simp_all; done) | (simp_all; omega) | skip
def v7 (m : zL) (r : zN) : Int := if (zCu m.evidence.auths r.auth).2 = true ∧ (wZ m.wires r.host r.auth).2 = true then (if (decide (ValidP m.evidence.keys) && decide (z9 r) && qW m.evidence.keys r) = true then 0 else 32) else 4
theorem yBo (m : zL) (h : OkM m) (l : List zH) (r : zN) (hr : r.fits) :
  FnG Tryz.prog 33 [.box 0 0, .agg r.av] [yF m l.length] [vL l] (.raw (.int .i64 (v7 m r))) [yF m l.length] [vL l] := by
 obtain ⟨f1, f2, f3, f4, f5⟩ := zDl m
 have hrf := kU l
 have ha := zPv m h.al l r
 have hw := zNz m h.wl h.wc l r
 have hR := zX4 m.evidence.keys h.kl h.kf r hr
 unfold v7
 generalize zCu m.evidence.auths r.auth = A at *
 generalize wZ m.wires r.host r.auth = W at *
 generalize (decide (ValidP m.evidence.keys) && decide (z9 r) && qW m.evidence.keys r) = b at *
 refine enG Tryz.func33 Tryz.ntmps33 [.tmp 4] 1 rfl ?_
 try (first | refine wkM hK trivial ?_ | refine wkg trivial ?_)
 try clear hK K
 try refine sM fun K hK => ?_
 refine xW [0] [0] (ha) rfl rfl rfl ⟨_, evl, _, evl, _, evl, obl, by decide, by decide, hlT, hlT, yJf ⟨yOh, AV.subL_free _ (zN.free r), trivial⟩, _, evl, _, evl, _, evl, ?_⟩
 try (first | refine wkM hK trivial ?_ | refine wkg trivial ?_)
 try clear hK K
 try refine sM fun K hK => ?_
 refine xW [0] [0] (hw) rfl rfl rfl ⟨_, evl, _, evl, _, evl, obl, by decide, by decide, hlT, hlT, yJf ⟨yOh, AV.subL_free _ (zN.free r), trivial⟩, _, evl, _, evl, _, evl, ?_⟩
 try (first | refine wkM hK trivial ?_ | refine wkg trivial ?_)
 try clear hK K
 try refine sM fun K hK => ?_
 refine yE1 ⟨_, evl, ⟨cb, cb⟩, fun hb => ?_, fun hb => ?_⟩
 ·rw [if_neg fun h => by obtain ⟨h1, h2⟩ := h; rw [h1, h2] at hb; rcases hb with hb | hb <;> cases hb]
  try (refine wg ?_; try refine sM fun K hK => ?_)
  all_goals (refine yG (by simp) ⟨_, _, _, evl, obq, jD.bel ?_ obb, by simp, ?_, rfl, obb, zEc _⟩)
  all_goals first | rfl | (simp; done) | (simp_all; done) | (simp_all; omega) | skip
 ·rw [if_pos hb]
  try (refine wkg hR ?_; try refine sM fun K hK => ?_)
  cases b with
  | true =>
   refine zA ⟨_, evl, fun hb => absurd hb (by decide), fun _ => ?_⟩
   try (refine wg ?_; try refine sM fun K hK => ?_)
   all_goals (refine yG (by simp) ⟨_, _, _, evl, obq, jD.bel ?_ obb, by simp, ?_, rfl, obb, zEc _⟩)
   all_goals first | rfl | (simp; done) | (simp_all; done) | (simp_all; omega) | skip
  | false =>
   refine zA ⟨_, evl, fun _ => ?_, fun hb => absurd hb (by decide)⟩
   try (refine wg ?_; try refine sM fun K hK => ?_)
   all_goals (refine yG (by simp) ⟨_, _, _, evl, obq, jD.bel ?_ obb, by simp, ?_, rfl, obb, zEc _⟩)
   all_goals first | rfl | (simp; done) | (simp_all; done) | (simp_all; omega) | skip
theorem zAj {P : Program} {c : Code} {Q : Exit → ASt → Prop} {st : ASt} (h : wpA P c (fun e s => ∃ s', xE s s' ∧ Q e s') st) : wpA P c Q st := fun C G a w hs =>
 wpIn_mono (h C G a w hs) fun e a' w' ⟨G', s, h1, s', h2, h3⟩ => let ⟨G'', h4⟩ := h2 P C G' a' w' h1; ⟨G'', s', h4, h3⟩
def zQ (a b : Int) (r : Rg) (who : List zB) : List zH := [⟨b, a, -r.lo, who⟩, ⟨a, b, r.hi, who⟩]
theorem zAc (m : zL) (l : List zH) (hl : l.length ≤ 100000000000) (a b : Int) (r : Rg) (hr : IntKind.i64.wrap (-r.lo) = -r.lo) (who : List zB) (el : Nat → List AV) (hel : ∀ i, i < who.length → el i = els zB.av who i) :
  FnG Tryz.prog 34 [.box 0 0, .raw (.int .i64 a), .raw (.int .i64 b), .agg [.raw (.int .i64 r.lo), .raw (.int .i64 r.hi)], .lst 2 who.length el] [yF m l.length] [vL l] (.tup []) [yF m (l ++ zQ a b r who).length] [vL (l ++ zQ a b r who)] := by
 obtain ⟨f1, f2, f3, f4, f5⟩ := zDl m
 have hrf := kU l
 have hwf : (AV.lst 2 who.length el).free := fun i hi => by rw [hel i hi]; exact zB.free _
 refine enG Tryz.func34 Tryz.ntmps34 [] 1 rfl ?_
 refine zAj ?_
 repeat (refine stG ?_)
 refine zE (fun K hK => ?_)
 iterate 1 (refine stG ?_)
 refine z0 1 obf ⟨_, evl, _, evl, ?_⟩
 try (first | refine wkN hK trivial ?_ | refine wkR trivial ?_)
 try clear hK K
 try refine sM fun K hK => ?_
 have hlen : l.length + 2 = (l ++ zQ a b r who).length := by simp [zQ]
 refine ⟨⟨32, 1 + 64 * 1, [], [yF m (l ++ zQ a b r who).length], [vL (l ++ zQ a b r who)], ((0, []), [], true)⟩, ?_, ?_⟩
 ·refine wkn ?_ ?_ ?_
  all_goals first | exact wk0 | refine wkS ?_ | skip
  all_goals (try trivial)
  all_goals ((repeat' apply And.intro) <;> first | exact wkL | skip)
  all_goals first | exact z5.rowN hlen | exact hlen | skip
  intro q hq
  rw [← yT (l := l) (n := l.length) rfl]
  rcases yKt q l.length with hb | hb
  ·rw [xJ hb, xJ hb]
   exact z8.refl _
  ·rw [y6 hb, y6 hb]
   rw [← hlen] at hq
   rcases yKt (q - l.length) 1 with h1 | h1
   ·obtain h0 : q - l.length = 0 := by omega
    rw [h0]
    exact ⟨z5.refl _, z5.refl _, z5.refl _, (Sim.lstE rfl hel).s, trivial⟩
   ·obtain h0 : q - l.length = 1 := by omega
    rw [h0]
    exact ⟨z5.refl _, z5.refl _, z5.refl _, (Sim.lstE rfl hel).s, trivial⟩
 ·all_goals (refine yG (by simp) ⟨_, _, _, evl, obq, jD.bel ?_ obb, by simp, ?_, rfl, obb, zEc _⟩)
  all_goals first | rfl | (simp; done) | (simp_all; done) | (simp_all; omega) | skip
theorem zRt (m : zL) (l : List zH) (hl : l.length ≤ 100000000000) (a b : Int) (r : Rg) (hr : IntKind.i64.wrap (-r.lo) = -r.lo) :
  FnG Tryz.prog 34 [.box 0 0, .raw (.int .i64 a), .raw (.int .i64 b), .agg [.raw (.int .i64 r.lo), .raw (.int .i64 r.hi)], .raw (.slice none 0 0)] [yF m l.length] [vL l] (.tup []) [yF m (l ++ zQ a b r []).length] [vL (l ++ zQ a b r [])] := by
 obtain ⟨f1, f2, f3, f4, f5⟩ := zDl m
 have hrf := kU l
 refine enG Tryz.func34 Tryz.ntmps34 [] 1 rfl ?_
 refine zAj ?_
 repeat (refine stG ?_)
 refine zE (fun K hK => ?_)
 iterate 1 (refine stG ?_)
 refine z0 1 obf ⟨_, evl, _, evl, ?_⟩
 try (first | refine wkN hK trivial ?_ | refine wkR trivial ?_)
 try clear hK K
 try refine sM fun K hK => ?_
 have hlen : l.length + 2 = (l ++ zQ a b r []).length := by simp [zQ]
 refine ⟨⟨32, 1 + 64 * 1, [], [yF m (l ++ zQ a b r []).length], [vL (l ++ zQ a b r [])], ((0, []), [], true)⟩, ?_, ?_⟩
 ·refine wkn ?_ ?_ ?_
  all_goals first | exact wk0 | refine wkS ?_ | skip
  all_goals (try trivial)
  all_goals ((repeat' apply And.intro) <;> first | exact wkL | skip)
  all_goals first | exact z5.rowN hlen | exact hlen | skip
  intro q hq
  rw [← yT (l := l) (n := l.length) rfl]
  rcases yKt q l.length with hb | hb
  ·rw [xJ hb, xJ hb]
   exact z8.refl _
  ·rw [y6 hb, y6 hb]
   rw [← hlen] at hq
   rcases yKt (q - l.length) 1 with h1 | h1
   ·obtain h0 : q - l.length = 0 := by omega
    rw [h0]
    exact ⟨z5.refl _, z5.refl _, z5.refl _, (Sim.nil rfl).s, trivial⟩
   ·obtain h0 : q - l.length = 1 := by omega
    rw [h0]
    exact ⟨z5.refl _, z5.refl _, z5.refl _, (Sim.nil rfl).s, trivial⟩
 ·all_goals (refine yG (by simp) ⟨_, _, _, evl, obq, jD.bel ?_ obb, by simp, ?_, rfl, obb, zEc _⟩)
  all_goals first | rfl | (simp; done) | (simp_all; done) | (simp_all; omega) | skip
theorem zS1 (p : zB) : ∀ i, i < [p].length → z7 2 p.av i = els zB.av [p] i := fun i hi => yA (enc := zB.av) (l := [p]) (fun _ => rfl) rfl hi
theorem xE.slot {nt nb : Nat} {sl : List (Nat × (Bool × AV))} {bx : List (List AV)} {rw : List yD} {ys : (Nat × List (List AV)) × List (List AV) × Bool} (d : Nat) {x y : AV} (h : xG d sl = some (true, x)) (hs : z5 bx rw x y) : xE ⟨nt, nb, sl, bx, rw, ys⟩ ⟨nt, nb, (d, (true, y)) :: sl, bx, rw, ys⟩ := fun _ _ G _ _ h' =>
 ⟨G, h'.size, h'.callers, h'.frame, h'.le, h'.fresh, h'.ownB, h'.ownR, h'.env, h'.mem, fun t c z hl => by
  simp only [ASt.look, zO] at hl
  by_cases htd : t = d
  ·subst htd
   simp only [if_true, yKj, yKy] at hl
   obtain ⟨rfl, rfl⟩ := hl
   obtain ⟨v, h1, h2, _⟩ := h'.slot t true x h
   exact ⟨v, h1, fun _ => hs _ _ _ h'.mem (h2 rfl), fun e => by cases e⟩
  ·rw [if_neg htd] at hl
   exact h'.slot t c z hl⟩
theorem vC {P : Program} {full : List Oper} {all : Bool} {o : Oper} {d nt nb : Nat} {k' : ASt → Prop} {L : List Nat} {sl : List (Nat × (Bool × AV))} {bx bx0 : List (List AV)} {rw : List yD} {ys : (Nat × List (List AV)) × List (List AV) × Bool} {ent : Bool × AV} {c : List AV} (hd : o.dst = some d) (hk : ∃ ext, bx ++ [c] = zMy all bx0 ext) (h64 : Nat.blt bx.length 64 = true) (hl : o.looksAt full.toArray = L)
  (h : ∀ nb' K, K ⟨nt, nb', (d, ent) :: zAw L sl, bx ++ [c], rw, ys⟩ → xK P full.toArray [o] K ⟨nt, nb', zAw L sl, bx, rw, ys⟩) (hk' : k' ⟨nt, nb, (d, ent) :: sl, bx ++ [c], rw, ys⟩) : zMa P full.toArray all bx0 o k' ⟨nt, nb, sl, bx, rw, ys⟩ :=
 zI9 h64 hl fun nb' => h nb' _ ⟨ent, _, _, by rw [hd]; rfl, hk, fun _ => ⟨rfl, _, rfl⟩, by rw [hd]; exact hk'⟩
theorem zAk {nt nb : Nat} {sl : List (Nat × (Bool × AV))} {bx : List (List AV)} {rw : List yD} {ys : (Nat × List (List AV)) × List (List AV) × Bool} {st2 : ASt} (m : Nat)
  (h1 : nb % 64 ≤ m ∧ j6 m (bx.take m) ∧ zLy m rw ∧ zZ6 m bx sl) (h : ∃ sl', zXx m bx sl = sl' ∧ ∃ bx', bx.take m = bx' ∧ xE ⟨nt, nb, sl', bx', rw, ys⟩ st2) : xE ⟨nt, nb, sl, bx, rw, ys⟩ st2 := by
 obtain ⟨_, rfl, _, rfl, h⟩ := h
 exact xE.trans (xE.freeze m h1.1 h1.2.1 h1.2.2.1 h1.2.2.2) h
theorem zOi (f g : Nat → Nat) (m : zL) (n : Nat) : AV.renL f g (yF m n) = [lA 7 zI.av m.evidence.keys, lA 4 qV.av m.evidence.auths, .raw (.int .i64 m.evidence.f), lA 2 xA.av m.evidence.chains, lA 4 vS.av m.diaries, lA 3 wU.av m.wires, .row (g 0) n] := rfl
theorem zZ5 (f g : Nat → Nat) (l : List zH) : yD.ren f g (vL l) = vL l := rfl
theorem jY (j : Nat) {P : Program} {ops : Array Oper} {rest : List Oper} {K : ASt → Prop} {nt nb : Nat} {sl : List (Nat × (Bool × AV))} {bx bx1 : List (List AV)} {ys : (Nat × List (List AV)) × List (List AV) × Bool} {o : Oper} {d : Nat} {f : FuncId} {args : List AV} {m : zL} {l l' : List zH} {r : AV} (F : FnG P f args [yF m l.length] [vL l] r [yF m l'.length] [vL l'])
  (hg : o.guard = none) (hd : o.dst = some d) (hn : Nat.blt d nt = true) (hs : AV.subL 1 1 args)
  (h : ∃ n, bx.length = n ∧ ∃ cs, jW ⟨nt, nb, sl, bx, [vL l], ys⟩ o.op = some (cs, f, AV.renL (idx [j] n) (idx [0] 1) args) ∧ (∀ c ∈ cs, c = true) ∧ bx[j]? = some (yF m l.length) ∧ r.ren (idx [j] n) (idx [0] 1) = r ∧ bx.set j (yF m l'.length) = bx1 ∧
   xK P ops rest K ⟨nt, nb, (d, (true, r)) :: sl, bx1, [vL l'], ys⟩) : xK P ops (o :: rest) K ⟨nt, nb, sl, bx, [vL l], ys⟩ := by
 obtain ⟨n, rfl, cs, h1, h2, h3, h4, rfl, h5⟩ := h
 refine xW [j] [0] F hg hd hn ⟨_, rfl, _, rfl, cs, h1, h2, by simp, by simp, ⟨by rw [h3, zOi]; rfl, trivial⟩, ⟨by rw [zZ5]; rfl, trivial⟩, yJf hs, r, h4, bx.set j (yF m l'.length), ?_, [vL l'], ?_, h5⟩
 ·simp only [yLt, yMk, zOi]
  simp [wI, idx]
 ·simp only [yLt, yMk, zZ5]
  simp [wI]
theorem zLs {l : List qV} (h : qS l) (id : Int) : 0 ≤ (zCu l id).1.err ∧ (zCu l id).1.err ≤ 1000000 := by
 have hr := wC (isA id) l
 unfold zCu
 split
 ·exact ⟨by decide, by decide⟩
 ·exact (h _ (by omega)).2
theorem zB6 (l : List wU) (host auth : Int) : (0 ≤ (wZ l host auth).1.outLo ∧ (wZ l host auth).1.outLo ≤ (wZ l host auth).1.outHi ∧ (wZ l host auth).1.outHi ≤ 1000000) ∧ (0 ≤ (wZ l host auth).1.backLo ∧ (wZ l host auth).1.backLo ≤ (wZ l host auth).1.backHi ∧ (wZ l host auth).1.backHi ≤ 1000000) := by
 unfold wZ
 split
 ·exact ⟨by decide, by decide⟩
 ·have hb : Lk.formedM (Lk.linkBoundsM (l.getD (vA (isW host auth) l).toNat default).changes ⟨0, 3000000000000000⟩).1 = true := by
   by_cases hv : Lk.validM (l.getD (vA (isW host auth) l).toNat default).changes = true
   ·exact Lk.bounds_formed hv (by decide)
   ·unfold Lk.linkBoundsM
    rw [if_neg fun h => hv h.1]
    decide
  rw [Lk.formed_iff] at hb
  simp only
  omega
theorem wD (rate count : Int) : 0 ≤ (yL rate count).1.lo ∧ (yL rate count).1.lo ≤ 1000000000000001 ∧ (yL rate count).1.hi ≤ 2000000000000000 ∧ -1 ≤ (yL rate count).1.hi := by
 unfold yL
 split
 ·rename_i hc
  obtain ⟨⟨r1, r2⟩, r3, r4⟩ := hc
  simp only
  have d2 : (count + 1) * 1000000000 / (1000000000 - rate) < 1999999999999999 := by
   refine yOg (by omega) ?_
   have : 1999999999999999 * (1000000000 - rate) ≥ 1999999999999999 * 999000000 := yOe (by omega) (by decide)
   omega
  have c2 := zBn (p := (count + 1) * 1000000000) (d := 1000000000 - rate) (by omega) (by omega)
  refine ⟨?_, ?_, by omega, by omega⟩
  ·split
   ·have := yOf (a := (count - 1) * 1000000000) (b := 1000000000 + rate) (by omega) (by omega)
    omega
   ·exact yO8 _
  ·split
   ·have : (count - 1) * 1000000000 / (1000000000 + rate) ≤ 1000000000000000 := by
     refine Int.le_of_lt (yOg (by omega) ?_)
     have : 1000000000000000 * (1000000000 + rate) ≥ 1000000000000000 * 1000000000 := yOe (by omega) (by decide)
     omega
    omega
   ·decide
 ·decide
def jZ (m : zL) (r : zN) (rate count s t : Int) : List zH :=
 zQ 0 t ⟨r.stamp.lo, r.stamp.hi⟩ [⟨1, r.auth⟩] ++ (if 2 * (zCu m.evidence.auths r.auth).1.err < r.stamp.hi - r.stamp.lo then [⟨0, 0, -1, [⟨1, r.auth⟩]⟩] else []) ++
 zQ s t ⟨(wZ m.wires r.host r.auth).1.outLo, (wZ m.wires r.host r.auth).1.outHi⟩ [⟨3, 0⟩] ++ zQ t (t + 1) ⟨(wZ m.wires r.host r.auth).1.backLo, (wZ m.wires r.host r.auth).1.backHi⟩ [⟨3, 0⟩] ++
 zQ s (t + 1) (yL rate count).1 [⟨2, r.host⟩]
theorem yA6 (m : zL) (h : OkM m) (l : List zH) (hl : l.length ≤ 90000000000) (r : zN) (hr : z9 r) (rate count s t : Int) (hs : 0 ≤ s ∧ s ≤ 100000) (ht : 0 ≤ t ∧ t ≤ 100000) (hau : qS m.evidence.auths) :
  FnG Tryz.prog 82 [.box 0 0, .agg r.av, .raw (.int .i64 rate), .raw (.int .i64 count), .raw (.int .i64 s), .raw (.int .i64 t)] [yF m l.length] [vL l] (.tup []) [yF m (l ++ jZ m r rate count s t).length] [vL (l ++ jZ m r rate count s t)] := by
 obtain ⟨f1, f2, f3, f4, f5⟩ := zDl m
 have hrf := kU l
 refine enG Tryz.func82 Tryz.ntmps82 [] 1 rfl ?_
 refine zAj ?_
 repeat (refine stG ?_)
 refine zE (fun K hK => ?_)
 iterate 1 (refine stG ?_)
 refine z0 1 obf ⟨_, evl, _, evl, ?_⟩
 refine zG (hK _ ?_); clear hK K
 repeat refine stR ?_
 refine zBw ⟨107, 1 + 64 * 1, [(0, true, .box 0 0), (2, true, .raw (.int .i64 rate)), (3, true, .raw (.int .i64 count)), (4, true, .raw (.int .i64 s)), (5, true, .raw (.int .i64 t)), (7, true, .elt r.av 0), (12, true, .elt (zB.av ⟨1, r.auth⟩) 0), (13, true, .elt (zB.av ⟨2, r.host⟩) 0), (14, true, .elt (zB.av ⟨3, 0⟩) 0)], [yF m l.length], [vL l], ((0, []), [], true)⟩ ?_ ?_
 ·refine zD true rfl (by kernel_rfl) (by kernel_rfl) (fun K hK => ?_)
  try (first | refine wkN hK trivial ?_ | refine wkR trivial ?_)
  try clear hK K
  try refine sM fun K hK => ?_
  refine zFf ⟨_, evl, _, evl, by decide +kernel, ?_⟩
  refine zFa (rem := [7, 8, 9, 10, 11, 12]) (m := 5) (cs := [7, 8, 9]) rfl (by decide +kernel) ?_
  refine yMn.2 ⟨fun o ho => ?_, yMn.2 ⟨fun o ho => ?_, yMn.2 ⟨fun o ho => ?_, fun _ h => by cases h⟩⟩⟩
  ·cases yOi ho
   refine vC (d := 12) (ent := (true, .box 1 0)) (c := zB.av ⟨0, 0⟩) rfl ⟨_, rfl⟩ rfl evl (fun nb' K hk => ?_) ?_
   ·refine stG ?_
    exact zG hk
   ·refine zFa (rem := [8, 9, 10, 11, 12]) (m := 4) (cs := [8, 9]) rfl (by decide +kernel) ?_
    refine yMn.2 ⟨fun o ho => ?_, yMn.2 ⟨fun o ho => ?_, fun _ h => by cases h⟩⟩
    ·cases yOi ho
     refine vC (d := 13) (ent := (true, .box 2 0)) (c := zB.av ⟨0, 0⟩) rfl ⟨_, rfl⟩ rfl evl (fun nb' K hk => ?_) ?_
     ·refine stG ?_
      exact zG hk
     ·refine xN (rem := [9, 10, 11, 12]) (by decide +kernel) ?_
      rw [xO]
      dsimp only [List.cons_append, List.nil_append]

      try (first | refine wkN hK trivial ?_ | refine wkR trivial ?_)
      try clear hK K
      try refine sM fun K hK => ?_
      refine zAk 1 obf ⟨_, evl, _, evl, ?_⟩
      exact wkZ
    ·cases yOi ho
     refine vC (d := 14) (ent := (true, .box 2 0)) (c := zB.av ⟨0, 0⟩) rfl ⟨_, rfl⟩ rfl evl (fun nb' K hk => ?_) ?_
     ·refine stG ?_
      exact zG hk
     ·refine xN (rem := [8, 10, 11, 12]) (by decide +kernel) ?_
      rw [xO]
      dsimp only [List.cons_append, List.nil_append]

      try (first | refine wkN hK trivial ?_ | refine wkR trivial ?_)
      try clear hK K
      try refine sM fun K hK => ?_
      refine zAk 1 obf ⟨_, evl, _, evl, ?_⟩
      exact wkZ
  ·cases yOi ho
   refine vC (d := 13) (ent := (true, .box 1 0)) (c := zB.av ⟨0, 0⟩) rfl ⟨_, rfl⟩ rfl evl (fun nb' K hk => ?_) ?_
   ·refine stG ?_
    exact zG hk
   ·refine zFa (rem := [7, 9, 10, 11, 12]) (m := 4) (cs := [7, 9]) rfl (by decide +kernel) ?_
    refine yMn.2 ⟨fun o ho => ?_, yMn.2 ⟨fun o ho => ?_, fun _ h => by cases h⟩⟩
    ·cases yOi ho
     refine vC (d := 12) (ent := (true, .box 2 0)) (c := zB.av ⟨0, 0⟩) rfl ⟨_, rfl⟩ rfl evl (fun nb' K hk => ?_) ?_
     ·refine stG ?_
      exact zG hk
     ·refine xN (rem := [9, 10, 11, 12]) (by decide +kernel) ?_
      rw [xO]
      dsimp only [List.cons_append, List.nil_append]

      try (first | refine wkN hK trivial ?_ | refine wkR trivial ?_)
      try clear hK K
      try refine sM fun K hK => ?_
      refine zAk 1 obf ⟨_, evl, _, evl, ?_⟩
      exact wkZ
    ·cases yOi ho
     refine vC (d := 14) (ent := (true, .box 2 0)) (c := zB.av ⟨0, 0⟩) rfl ⟨_, rfl⟩ rfl evl (fun nb' K hk => ?_) ?_
     ·refine stG ?_
      exact zG hk
     ·refine xN (rem := [7, 10, 11, 12]) (by decide +kernel) ?_
      rw [xO]
      dsimp only [List.cons_append, List.nil_append]

      try (first | refine wkN hK trivial ?_ | refine wkR trivial ?_)
      try clear hK K
      try refine sM fun K hK => ?_
      refine zAk 1 obf ⟨_, evl, _, evl, ?_⟩
      exact wkZ
  ·cases yOi ho
   refine vC (d := 14) (ent := (true, .box 1 0)) (c := zB.av ⟨0, 0⟩) rfl ⟨_, rfl⟩ rfl evl (fun nb' K hk => ?_) ?_
   ·refine stG ?_
    exact zG hk
   ·refine zFa (rem := [7, 8, 10, 11, 12]) (m := 4) (cs := [7, 8]) rfl (by decide +kernel) ?_
    refine yMn.2 ⟨fun o ho => ?_, yMn.2 ⟨fun o ho => ?_, fun _ h => by cases h⟩⟩
    ·cases yOi ho
     refine vC (d := 12) (ent := (true, .box 2 0)) (c := zB.av ⟨0, 0⟩) rfl ⟨_, rfl⟩ rfl evl (fun nb' K hk => ?_) ?_
     ·refine stG ?_
      exact zG hk
     ·refine xN (rem := [8, 10, 11, 12]) (by decide +kernel) ?_
      rw [xO]
      dsimp only [List.cons_append, List.nil_append]

      try (first | refine wkN hK trivial ?_ | refine wkR trivial ?_)
      try clear hK K
      try refine sM fun K hK => ?_
      refine zAk 1 obf ⟨_, evl, _, evl, ?_⟩
      exact wkZ
    ·cases yOi ho
     refine vC (d := 13) (ent := (true, .box 2 0)) (c := zB.av ⟨0, 0⟩) rfl ⟨_, rfl⟩ rfl evl (fun nb' K hk => ?_) ?_
     ·refine stG ?_
      exact zG hk
     ·refine xN (rem := [7, 10, 11, 12]) (by decide +kernel) ?_
      rw [xO]
      dsimp only [List.cons_append, List.nil_append]

      try (first | refine wkN hK trivial ?_ | refine wkR trivial ?_)
      try clear hK K
      try refine sM fun K hK => ?_
      refine zAk 1 obf ⟨_, evl, _, evl, ?_⟩
      exact wkZ
 obtain ⟨⟨h1, h2, h3⟩, h4, h5, h6, h7⟩ := id hr
 have hn : ∀ x : Int, -3000000000000000 ≤ x ∧ x ≤ 3000000000000000 → IntKind.i64.wrap (-x) = -x := fun x hx => yX (k := .i64) (by simp only [inK]; omega)
 have b1 := zAc m l (by omega) 0 t ⟨r.stamp.lo, r.stamp.hi⟩ (hn _ (by simp only; omega)) [⟨1, r.auth⟩] _ (fun _ _ => rfl)
 obtain ⟨l1, hl1⟩ : ∃ l1, l1 = l ++ zQ 0 t ⟨r.stamp.lo, r.stamp.hi⟩ [⟨1, r.auth⟩] := ⟨_, rfl⟩
 have hc1 : l1.length = l.length + 2 := by rw [hl1]; simp [zQ]
 rw [← hl1] at b1
 have a1 := zPv m h.al l1 r
 have hA := zLs hau r.auth
 have hW := zB6 m.wires r.host r.auth
 have hE := wD rate count
 have el := zL9 rate count
 unfold jZ
 generalize zCu m.evidence.auths r.auth = A at *
 have w1 := fun (l : List zH) => zNz m h.wl h.wc l r
 generalize wZ m.wires r.host r.auth = W at *
 generalize yL rate count = E at *
 obtain ⟨l2, hl2⟩ : ∃ l2, l2 = l1 ++ (if 2 * A.1.err < r.stamp.hi - r.stamp.lo then [(⟨0, 0, -1, [⟨1, r.auth⟩]⟩ : zH)] else []) := ⟨_, rfl⟩
 have hc2 : l1.length ≤ l2.length ∧ l2.length ≤ l1.length + 1 := by rw [hl2]; split <;> simp
 try (first | refine wkM hK trivial ?_ | refine wkg trivial ?_)
 try clear hK K
 try refine sM fun K hK => ?_
 refine xX (xE.slot 33 evl (Sim.lstE rfl (zS1 ⟨1, r.auth⟩)).s) ?_
 refine jY 0 (bx1 := [yF m _]) b1 rfl rfl rfl ⟨yOh, trivial, trivial, ⟨trivial, trivial, trivial⟩, AV.sub_free _ (zC (fun y => zB.free y) _), trivial⟩ ⟨_, rfl, _, evl, obl, rfl, rfl, rfl, ?_⟩

 try (first | refine wkM hK trivial ?_ | refine wkg trivial ?_)
 try clear hK K
 try refine sM fun K hK => ?_
 refine jY 0 (bx1 := [yF m _]) a1 rfl rfl rfl ⟨yOh, AV.subL_free _ (zN.free r), trivial⟩ ⟨_, rfl, _, evl, obl, rfl, rfl, rfl, ?_⟩

 try (first | refine wkM hK trivial ?_ | refine wkg trivial ?_)
 try clear hK K
 try refine sM fun K hK => ?_
 refine zBw ⟨107, 1 + 64 * 1, [(0, true, .box 0 0), (2, true, .raw (.int .i64 rate)), (3, true, .raw (.int .i64 count)), (4, true, .raw (.int .i64 s)), (5, true, .raw (.int .i64 t)), (7, true, .elt r.av 0), (12, true, .elt (zB.av ⟨1, r.auth⟩) 0), (13, true, .elt (zB.av ⟨2, r.host⟩) 0), (14, true, .elt (zB.av ⟨3, 0⟩) 0)], [yF m l2.length], [vL l2], ((0, []), [], true)⟩ ?_ ?_
 ·refine zA ⟨_, evl, fun hb => ?_, fun hb => ?_⟩
  ·simp only [yLr] at hb
   rw [if_pos hb] at hl2
   have hlen : l1.length + 1 = l2.length := by rw [hl2]; simp
   try (refine wg ?_; try refine sM fun K hK => ?_)
   refine wkn ?_ ?_ ?_
   all_goals first | exact wk0 | refine wkS ?_ | skip
   all_goals (try trivial)
   all_goals ((repeat' apply And.intro) <;> first | exact wkL | skip)
   all_goals first | exact z5.rowN hlen | exact hlen | skip
   intro q hq
   rw [hl2, ← yT (l := l1) (n := l1.length) rfl]
   rcases yKt q l1.length with hb | hb
   ·rw [xJ hb, xJ hb]
    exact z8.refl _
   ·obtain h0 : q - l1.length = 0 := by omega
    rw [y6 hb, y6 hb, h0]
    exact ⟨z5.refl _, z5.refl _, z5.refl _, (Sim.lstE rfl (zS1 ⟨1, r.auth⟩)).s, trivial⟩
  ·simp only [yMz] at hb
   rw [if_neg hb, yMj] at hl2
   rw [hl2]
   try (refine wg ?_; try refine sM fun K hK => ?_)
   exact wkZ
 ·obtain ⟨l3, hl3⟩ : ∃ l3, l3 = l2 ++ zQ s t ⟨W.1.outLo, W.1.outHi⟩ [⟨3, 0⟩] := ⟨_, rfl⟩
  have hc3 : l3.length = l2.length + 2 := by rw [hl3]; simp [zQ]
  obtain ⟨l4, hl4⟩ : ∃ l4, l4 = l3 ++ zQ t (t + 1) ⟨W.1.backLo, W.1.backHi⟩ [⟨3, 0⟩] := ⟨_, rfl⟩
  have hc4 : l4.length = l3.length + 2 := by rw [hl4]; simp [zQ]
  have b2 := zAc m l2 (by omega) s t ⟨W.1.outLo, W.1.outHi⟩ (hn _ (by simp only; omega)) [⟨3, 0⟩] _ (fun _ _ => rfl)
  have b3 := zAc m l3 (by omega) t (t + 1) ⟨W.1.backLo, W.1.backHi⟩ (hn _ (by simp only; omega)) [⟨3, 0⟩] _ (fun _ _ => rfl)
  have b4 := zAc m l4 (by omega) s (t + 1) E.1 (hn _ (by omega)) [⟨2, r.host⟩] _ (fun _ _ => rfl)
  rw [← hl3] at b2
  rw [← hl4] at b3
  have hfin : l ++ (zQ 0 t ⟨r.stamp.lo, r.stamp.hi⟩ [⟨1, r.auth⟩] ++ (if 2 * A.1.err < r.stamp.hi - r.stamp.lo then [(⟨0, 0, -1, [⟨1, r.auth⟩]⟩ : zH)] else []) ++ zQ s t ⟨W.1.outLo, W.1.outHi⟩ [⟨3, 0⟩] ++ zQ t (t + 1) ⟨W.1.backLo, W.1.backHi⟩ [⟨3, 0⟩] ++ zQ s (t + 1) E.1 [⟨2, r.host⟩]) = l4 ++ zQ s (t + 1) E.1 [⟨2, r.host⟩] := by
   rw [hl4, hl3, hl2, hl1]
   simp only [yN2]
  rw [hfin]
  clear hfin b1 a1 hl1 hl2 hl3 hl4
  generalize l4 ++ zQ s (t + 1) E.1 [⟨2, r.host⟩] = l5 at *
  have hw := w1 l2
  try (first | refine wkM hK trivial ?_ | refine wkg trivial ?_)
  try clear hK K
  try refine sM fun K hK => ?_
  refine jY 0 (bx1 := [yF m _]) hw rfl rfl rfl ⟨yOh, AV.subL_free _ (zN.free r), trivial⟩ ⟨_, rfl, _, evl, obl, rfl, rfl, rfl, ?_⟩

  iterate 5 (refine stG ?_)
  refine z0 1 obf ⟨_, evl, _, evl, ?_⟩
  try (first | refine wkM hK trivial ?_ | refine wkg trivial ?_)
  try clear hK K
  try refine sM fun K hK => ?_
  refine xX (xE.slot 79 evl (Sim.lstE rfl (zS1 ⟨3, 0⟩)).s) ?_
  refine jY 0 (bx1 := [yF m _]) b2 rfl rfl rfl ⟨yOh, trivial, trivial, ⟨trivial, trivial, trivial⟩, AV.sub_free _ (zC (fun y => zB.free y) _), trivial⟩ ⟨_, rfl, _, evl, obl, rfl, rfl, rfl, ?_⟩

  try (first | refine wkM hK trivial ?_ | refine wkg trivial ?_)
  try clear hK K
  try refine sM fun K hK => ?_
  refine xX (xE.slot 91 evl (Sim.lstE rfl (zS1 ⟨3, 0⟩)).s) ?_
  refine jY 0 (bx1 := [yF m _]) b3 rfl rfl rfl ⟨yOh, trivial, trivial, ⟨trivial, trivial, trivial⟩, AV.sub_free _ (zC (fun y => zB.free y) _), trivial⟩ ⟨_, rfl, _, evl, obl, rfl, rfl, rfl, ?_⟩

  try (first | refine wkM hK el ?_ | refine wkg el ?_)
  try clear hK K
  try refine sM fun K hK => ?_
  refine xX (xE.slot 105 evl (Sim.lstE rfl (zS1 ⟨2, r.host⟩)).s) ?_
  refine z0 1 obf ⟨_, evl, _, evl, ?_⟩
  refine jY 0 (bx1 := [yF m _]) b4 rfl rfl rfl ⟨yOh, trivial, trivial, ⟨trivial, trivial, trivial⟩, AV.sub_free _ (zC (fun y => zB.free y) _), trivial⟩ ⟨_, rfl, _, evl, obl, rfl, rfl, rfl, ?_⟩

  try (first | refine wkM hK trivial ?_ | refine wkg trivial ?_)
  try clear hK K
  try refine sM fun K hK => ?_
  refine ⟨_, xE.refl _, ?_⟩
  all_goals (refine yG (by simp) ⟨_, _, _, evl, obq, jD.bel ?_ obb, by simp, ?_, rfl, obb, zEc _⟩)
  all_goals first | rfl | (simp; done) | (simp_all; done) | (simp_all; omega) | skip
end Go.Proofs.YtchpbdecipcelaaGreatDoor
