import Derived.Test.YtchpbdecipcelaaGreatDoorHO01
import Derived.Test.YtchpbdecipcelaaGreatDoorHO25
import Derived.Test.YtchpbdecipcelaaGreatDoorHO32
namespace Go.Proofs.YtchpbdecipcelaaGreatDoor
set_option linter.unusedVariables false
set_option linter.unusedSimpArgs false
set_option maxHeartbeats 4000000
set_option maxRecDepth 100000
open Go.RowKit
structure y7 where
 chain : Int
 round : Int
 at_ : Int
 replies : List zM
 deriving Inhabited, DecidableEq
@[go_sem] def y7.av (x : y7) : List AV := [.raw (.int .i64 x.chain), .raw (.int .i64 x.round), .raw (.int .i64 x.at_), lA 10 zM.av x.replies]
@[simp] theorem y7.free (x : y7) : AV.freeL x.av := ⟨trivial, trivial, trivial, zE (fun y => zM.free y) _, trivial⟩
def qP (i : Nat) (rs : List yP) (at0 : Int) : Nat → List y7 × Int
 | 0 => ([], at0)
 | k + 1 => ((qP i rs at0 k).1 ++ [⟨i, k, (qP i rs at0 k).2, (rs.getD k default).replies⟩], (qP i rs at0 k).2 + (1 + 2 * ((rs.getD k default).replies.length : Int)))
def evM (cs : List xS) : Nat → List y7 × Int
 | 0 => ([], 1)
 | i + 1 => ((evM cs i).1 ++ (qP i (cs.getD i default).rounds (evM cs i).2 (cs.getD i default).rounds.length).1, (qP i (cs.getD i default).rounds (evM cs i).2 (cs.getD i default).rounds.length).2)
theorem zJf {st : ASt} : ∀ {xs : List AV}, AV.freeL xs → zUq st xs xs
 | [], _ => rfl
 | _ :: _, h => ⟨_, _, rfl, zV.free h.1, zJf h.2⟩
def itE (e : y7) : List AV := [.agg e.av]
def zFj (m : zQ) : AV := .fn (.func 77) [] [.elt m.av 0]
theorem zWc (m : zQ) : FnA Tryz.prog 31 [.agg m.av] (zFj m) := by
 have hfr := zQ.free m
 refine en Tryz.func31 Tryz.ntmps31 [.tmp 2] rfl ?_
 try (refine wg ?_; try refine sM fun K hK => ?_)
 refine zR (by simp) ⟨_, _, _, evl, ob0, ?_⟩
 exact zV.fn rfl ⟨_, _, rfl, zV.box rfl (zJf hfr), rfl⟩
def isA (id : Int) (a : q9) : Bool := decide (a.id = id)
theorem zUc (a : q9) (r : zM) : FnG Tryz.prog 128 [.agg a.av, .box 0 0] [r.av] [] (.raw (.bool (isA r.auth a))) [r.av] [] := by
 refine enG Tryz.func128 Tryz.ntmps128 [.tmp 3] 1 rfl ?_
 repeat' first
  | refine wkg trivial ?_
  | (refine cS (fun hb => ?_) fun hb => ?_ <;> try (cases hb; done))
  | refine sM fun K hK => ?_
  | fail
 all_goals (refine yE (by simp) ⟨_, _, _, evl, obq, jB.bel ?_ obb, by simp, ?_, rfl, obb, obb⟩)
 all_goals first | rfl | (simp [isA]; done) | (simp_all [isA]; done) | (simp_all [isA]; omega) | (simp [isA]; grind) | (split <;> simp_all) | skip
theorem zQz (w : wY) (r : zM) : FnG Tryz.prog 130 [.agg w.av, .box 0 0] [r.av] [] (.raw (.bool (isW r.host r.auth w))) [r.av] [] := by
 refine enG Tryz.func130 Tryz.ntmps130 [.tmp 3] 1 rfl ?_
 repeat' first
  | refine wkg trivial ?_
  | (refine cS (fun hb => ?_) fun hb => ?_ <;> try (cases hb; done))
  | refine sM fun K hK => ?_
  | fail
 all_goals (refine yE (by simp) ⟨_, _, _, evl, obq, jB.bel ?_ obb, by simp, ?_, rfl, obb, obb⟩)
 all_goals first | rfl | (simp [isW]; done) | (simp_all [isW]; done) | (simp_all [isW]; omega) | (simp [isW]; grind) | (split <;> simp_all) | skip
theorem zT4 (l : List q9) (hl : l.length ≤ 4611686018427387904) (r : zM) : FnG Tryz.prog 127 [lA 4 q9.av l, .fn (.func 128) [] [.box 0 0]] [r.av] [] (.raw (.int .i64 (jU (isA r.auth) l))) [r.av] [] := by
 refine enG Tryz.func127 Tryz.ntmps127 [.tmp 4] 1 rfl ?_
 try (refine wg ?_; try refine sM fun K hK => ?_)
 refine zJ (fun k : Nat => ⟨19, 1, [(0, true, lA 4 q9.av l), (1, true, .fn (.func 128) [] [.box 0 0]), (7, true, .raw (.int .i64 l.length)), (8, true, .raw (.int .i64 k))], [r.av], [], ((0, []), [], true)⟩)
  (fun k => k ≤ l.length ∧ ∀ i, i < k → (isA r.auth) (l.getD i default) = false) (fun k => l.length - k) 0 ?_ ⟨by omega, fun i h => by omega⟩ ?_
 ·exact wkZ
 ·rintro k ⟨hk, hall⟩
  have hpk := zUc (l.getD k default) r
  generalize hpb : (isA r.auth) (l.getD k default) = pb at *
  try (refine wg ?_; try refine sM fun K hK => ?_)
  refine zA ⟨_, evl, fun hlt => ?_, fun hge => ?_⟩
  ·simp only [yJm] at hlt
   try (first | refine wkM hK trivial ?_ | refine wkg trivial ?_)
   try clear hK K
   try refine sM fun K hK => ?_
   refine xV [0] [] (hpk) rfl rfl rfl ⟨_, evl, _, evl, _, evl, obl, by decide, by decide, hlT, hlT, zX1, _, evl, _, evl, _, evl, ?_⟩
   try (first | refine wkM hK trivial ?_ | refine wkg trivial ?_)
   try clear hK K
   try refine sM fun K hK => ?_
   refine zA ⟨_, evl, fun hb => ?_, fun hb => ?_⟩
   ·try (refine wg ?_; try refine sM fun K hK => ?_)
    rw [vH (show k < l.length by omega) hall (hpb.trans hb)]
    all_goals (refine yE (by simp) ⟨_, _, _, evl, obq, jB.bel ?_ obb, by simp, ?_, rfl, obb, obb⟩)
    all_goals first | rfl | (simp []; done) | (simp_all []; done) | (simp_all []; omega) | (simp []; grind) | (split <;> simp_all) | skip
   ·try (refine wg ?_; try refine sM fun K hK => ?_)
    refine ⟨k + 1, ⟨by omega, fun i hi => ?_⟩, by omega, ?_⟩
    ·rcases yLu.1 hi with h | rfl
     ·exact hall i h
     ·exact hpb.trans hb
    ·exact wkZ
  ·simp only [yKu] at hge
   try (refine wg ?_; try refine sM fun K hK => ?_)
   rw [xY (fun i hi => hall i (by omega))]
   all_goals (refine yE (by simp) ⟨_, _, _, evl, obq, jB.bel ?_ obb, by simp, ?_, rfl, obb, obb⟩)
   all_goals first | rfl | (simp []; done) | (simp_all []; done) | (simp_all []; omega) | (simp []; grind) | (split <;> simp_all) | skip
theorem zT3 (l : List wY) (hl : l.length ≤ 4611686018427387904) (r : zM) : FnG Tryz.prog 129 [lA 3 wY.av l, .fn (.func 130) [] [.box 0 0]] [r.av] [] (.raw (.int .i64 (jU (isW r.host r.auth) l))) [r.av] [] := by
 refine enG Tryz.func129 Tryz.ntmps129 [.tmp 4] 1 rfl ?_
 try (refine wg ?_; try refine sM fun K hK => ?_)
 refine zJ (fun k : Nat => ⟨19, 1, [(0, true, lA 3 wY.av l), (1, true, .fn (.func 130) [] [.box 0 0]), (7, true, .raw (.int .i64 l.length)), (8, true, .raw (.int .i64 k))], [r.av], [], ((0, []), [], true)⟩)
  (fun k => k ≤ l.length ∧ ∀ i, i < k → (isW r.host r.auth) (l.getD i default) = false) (fun k => l.length - k) 0 ?_ ⟨by omega, fun i h => by omega⟩ ?_
 ·exact wkZ
 ·rintro k ⟨hk, hall⟩
  have hpk := zQz (l.getD k default) r
  generalize hpb : (isW r.host r.auth) (l.getD k default) = pb at *
  try (refine wg ?_; try refine sM fun K hK => ?_)
  refine zA ⟨_, evl, fun hlt => ?_, fun hge => ?_⟩
  ·simp only [yJm] at hlt
   try (first | refine wkM hK trivial ?_ | refine wkg trivial ?_)
   try clear hK K
   try refine sM fun K hK => ?_
   refine xV [0] [] (hpk) rfl rfl rfl ⟨_, evl, _, evl, _, evl, obl, by decide, by decide, hlT, hlT, zX1, _, evl, _, evl, _, evl, ?_⟩
   try (first | refine wkM hK trivial ?_ | refine wkg trivial ?_)
   try clear hK K
   try refine sM fun K hK => ?_
   refine zA ⟨_, evl, fun hb => ?_, fun hb => ?_⟩
   ·try (refine wg ?_; try refine sM fun K hK => ?_)
    rw [vH (show k < l.length by omega) hall (hpb.trans hb)]
    all_goals (refine yE (by simp) ⟨_, _, _, evl, obq, jB.bel ?_ obb, by simp, ?_, rfl, obb, obb⟩)
    all_goals first | rfl | (simp []; done) | (simp_all []; done) | (simp_all []; omega) | (simp []; grind) | (split <;> simp_all) | skip
   ·try (refine wg ?_; try refine sM fun K hK => ?_)
    refine ⟨k + 1, ⟨by omega, fun i hi => ?_⟩, by omega, ?_⟩
    ·rcases yLu.1 hi with h | rfl
     ·exact hall i h
     ·exact hpb.trans hb
    ·exact wkZ
  ·simp only [yKu] at hge
   try (refine wg ?_; try refine sM fun K hK => ?_)
   rw [xY (fun i hi => hall i (by omega))]
   all_goals (refine yE (by simp) ⟨_, _, _, evl, obq, jB.bel ?_ obb, by simp, ?_, rfl, obb, obb⟩)
   all_goals first | rfl | (simp []; done) | (simp_all []; done) | (simp_all []; omega) | (simp []; grind) | (split <;> simp_all) | skip
abbrev qL (l : List zO) : z9 := ⟨36, 4, l.length, els zO.av l⟩
abbrev yD (m : zQ) (n : Nat) : List AV := [lA 7 zH.av m.evidence.keys, lA 4 q9.av m.evidence.auths, .raw (.int .i64 m.evidence.f), lA 2 xS.av m.evidence.chains, lA 4 qM.av m.diaries, lA 3 wY.av m.wires, .row 0 n]
structure yId (m : zQ) : Prop where
 k : (lA 7 zH.av m.evidence.keys).free
 a : (lA 4 q9.av m.evidence.auths).free
 c : (lA 2 xS.av m.evidence.chains).free
 d : (lA 4 qM.av m.diaries).free
 w : (lA 3 wY.av m.wires).free
theorem zG6 (m : zQ) : yId m := ⟨zE (fun y => zH.free y) _, zE (fun y => q9.free y) _, zE (fun y => xS.free y) _, zE (fun y => qM.free y) _, zE (fun y => wY.free y) _⟩
theorem zFw {m : Nat} (l : List zO) : zMp m [qL l] := by
 intro r hr q _
 simp only [yJb, yKj, yKq] at hr
 subst hr
 exact AV.belL_free _ (zO.free _)
theorem yHe {m : zQ} {l : List zO} {n n' : Nat} {l' : List zO} {args : List AV} (ha : AV.subL 1 1 args) : (∀ cs ∈ [yD m n], AV.subL 1 1 cs) ∧ (∀ r ∈ [qL l], ∀ q, q < r.n → AV.subL 1 1 (r.el q)) ∧ AV.subL 1 1 args ∧ 1 ≤ [yD m n'].length ∧ 1 ≤ [qL l'].length := by
 obtain ⟨f1, f2, f3, f4, f5⟩ := zG6 m
 refine ⟨fun cs hc => ?_, fun r hr q _ => ?_, ha, yIn _, yIn _⟩
 ·simp only [yJb, yKj, yKq] at hc
  subst hc
  exact ⟨AV.sub_free _ f1, AV.sub_free _ f2, trivial, AV.sub_free _ f3, AV.sub_free _ f4, AV.sub_free _ f5, yMf, trivial⟩
 ·simp only [yJb, yKj, yKq] at hr
  subst hr
  exact AV.subL_free _ (zO.free _)
theorem kO (l : List zO) (q : Nat) : AV.freeL (els zO.av l q) := zO.free _
def zE3 (l : List q9) (id : Int) : q9 × Bool := if jU (isA id) l < 0 then (⟨0, 0, 0, 0⟩, false) else (l.getD (jU (isA id) l).toNat default, true)
theorem zOv (m : zQ) (h : m.evidence.auths.length ≤ 4611686018427387904) (l : List zO) (r : zM) :
  FnG Tryz.prog 78 [.box 0 0, .agg r.av] [yD m l.length] [qL l] (.tup [.agg (zE3 m.evidence.auths r.auth).1.av, .raw (.bool (zE3 m.evidence.auths r.auth).2)]) [yD m l.length] [qL l] := by
 obtain ⟨f1, f2, f3, f4, f5⟩ := zG6 m
 have hi := zT4 m.evidence.auths h r
 have hr := kU (isA r.auth) m.evidence.auths
 have hrf := kO l
 unfold zE3
 generalize jU (isA r.auth) m.evidence.auths = q at *
 refine enG Tryz.func78 Tryz.ntmps78 [.cell 4 132, .tmp 5] 1 rfl ?_
 try (first | refine wkM hK trivial ?_ | refine wkg trivial ?_)
 try clear hK K
 try refine sM fun K hK => ?_
 refine xV [1] [] (hi) rfl rfl rfl ⟨_, evl, _, evl, _, evl, obl, by decide, by decide, hlT, hlT, zX1, _, evl, _, evl, _, evl, ?_⟩
 try (first | refine wkM hK trivial ?_ | refine wkg trivial ?_)
 try clear hK K
 try refine sM fun K hK => ?_
 refine zA ⟨_, evl, fun hb => ?_, fun hb => ?_⟩
 ·rw [if_pos (yLv hb)]
  try (refine wg ?_; try refine sM fun K hK => ?_)
  all_goals (refine yE (by simp) ⟨_, _, _, evl, obq, jB.bel ?_ obb, by simp, ?_, rfl, obb, zFw _⟩)
  all_goals first | rfl | (simp; done) | (simp_all; done) | (simp_all; omega) | skip
 ·simp only [yKu] at hb
  rw [if_neg hb]
  try (refine wg ?_; try refine sM fun K hK => ?_)
  all_goals (refine yE (by simp) ⟨_, _, _, evl, obq, jB.bel ?_ obb, by simp, ?_, rfl, obb, zFw _⟩)
  all_goals first | rfl | (simp; done) | (simp_all; done) | (simp_all; omega) | skip
def qS (l : List wY) (host auth : Int) : Change × Bool := if jU (isW host auth) l < 0 then (⟨0, 0, 0, 0, 0⟩, false) else ((Lk.linkBoundsM (l.getD (jU (isW host auth) l).toNat default).changes ⟨0, 3000000000000000⟩).1, decide ((Lk.linkBoundsM (l.getD (jU (isW host auth) l).toNat default).changes ⟨0, 3000000000000000⟩).2 = 0))
theorem zMw (m : zQ) (h : m.wires.length ≤ 4611686018427387904) (hc : ∀ w ∈ m.wires, w.changes.length ≤ 4611686018427387904) (l : List zO) (r : zM) :
  FnG Tryz.prog 79 [.box 0 0, .agg r.av] [yD m l.length] [qL l] (.tup [.agg (qS m.wires r.host r.auth).1.av, .raw (.bool (qS m.wires r.host r.auth).2)]) [yD m l.length] [qL l] := by
 obtain ⟨f1, f2, f3, f4, f5⟩ := zG6 m
 have hi := zT3 m.wires h r
 have hr := kU (isW r.host r.auth) m.wires
 have hrf := kO l
 unfold qS
 generalize jU (isW r.host r.auth) m.wires = q at *
 refine enG Tryz.func79 Tryz.ntmps79 [.cell 4 125, .tmp 5] 1 rfl ?_
 try (first | refine wkM hK trivial ?_ | refine wkg trivial ?_)
 try clear hK K
 try refine sM fun K hK => ?_
 refine xV [1] [] (hi) rfl rfl rfl ⟨_, evl, _, evl, _, evl, obl, by decide, by decide, hlT, hlT, zX1, _, evl, _, evl, _, evl, ?_⟩
 try (first | refine wkM hK trivial ?_ | refine wkg trivial ?_)
 try clear hK K
 try refine sM fun K hK => ?_
 refine zA ⟨_, evl, fun hb => ?_, fun hb => ?_⟩
 ·rw [if_pos (yLv hb)]
  try (refine wg ?_; try refine sM fun K hK => ?_)
  all_goals (refine yE (by simp) ⟨_, _, _, evl, obq, jB.bel ?_ obb, by simp, ?_, rfl, obb, zFw _⟩)
  all_goals first | rfl | (simp; done) | (simp_all; done) | (simp_all; omega) | skip
 ·simp only [yKu] at hb
  have hb2 := zJt (m.wires.getD q.toNat default).changes ⟨0, 3000000000000000⟩ (hc _ (zAn (by omega)))
  have hcf : (lA 5 Change.av (m.wires.getD q.toNat default).changes).free := zE (fun y => Change.free y) _
  rw [if_neg hb]
  generalize Lk.linkBoundsM (m.wires.getD q.toNat default).changes ⟨0, 3000000000000000⟩ = B at *
  try (refine wkg hb2 ?_; try refine sM fun K hK => ?_)
  all_goals (refine yE (by simp) ⟨_, _, _, evl, obq, jB.bel ?_ obb, by simp, ?_, rfl, obb, zFw _⟩)
  all_goals first | rfl | (simp; done) | (simp_all; done) | (simp_all; omega) | skip
def zCs (m : zQ) (r : zM) : Int := if (zE3 m.evidence.auths r.auth).2 = true ∧ (qS m.wires r.host r.auth).2 = true then (if (decide (ValidP m.evidence.keys) && decide (yJ r) && zAr m.evidence.keys r) = true then 0 else 32) else 4
theorem zZq (m : zQ) (h : OkM m) (l : List zO) (r : zM) (hr : r.fits) :
  FnG Tryz.prog 33 [.box 0 0, .agg r.av] [yD m l.length] [qL l] (.raw (.int .i64 (zCs m r))) [yD m l.length] [qL l] := by
 obtain ⟨f1, f2, f3, f4, f5⟩ := zG6 m
 have hrf := kO l
 have ha := zOv m h.al l r
 have hw := zMw m h.wl h.wc l r
 have hR := zVb m.evidence.keys h.kl h.kf r hr
 unfold zCs
 generalize zE3 m.evidence.auths r.auth = A at *
 generalize qS m.wires r.host r.auth = W at *
 generalize (decide (ValidP m.evidence.keys) && decide (yJ r) && zAr m.evidence.keys r) = b at *
 refine enG Tryz.func33 Tryz.ntmps33 [.tmp 4] 1 rfl ?_
 try (first | refine wkM hK trivial ?_ | refine wkg trivial ?_)
 try clear hK K
 try refine sM fun K hK => ?_
 refine xV [0] [0] (ha) rfl rfl rfl ⟨_, evl, _, evl, _, evl, obl, by decide, by decide, hlT, hlT, yHe ⟨yMf, AV.subL_free _ (zM.free r), trivial⟩, _, evl, _, evl, _, evl, ?_⟩
 try (first | refine wkM hK trivial ?_ | refine wkg trivial ?_)
 try clear hK K
 try refine sM fun K hK => ?_
 refine xV [0] [0] (hw) rfl rfl rfl ⟨_, evl, _, evl, _, evl, obl, by decide, by decide, hlT, hlT, yHe ⟨yMf, AV.subL_free _ (zM.free r), trivial⟩, _, evl, _, evl, _, evl, ?_⟩
 try (first | refine wkM hK trivial ?_ | refine wkg trivial ?_)
 try clear hK K
 try refine sM fun K hK => ?_
 refine yFd ⟨_, evl, ⟨cb, cb⟩, fun hb => ?_, fun hb => ?_⟩
 ·rw [if_neg fun h => by obtain ⟨h1, h2⟩ := h; rw [h1, h2] at hb; rcases hb with hb | hb <;> cases hb]
  try (refine wg ?_; try refine sM fun K hK => ?_)
  all_goals (refine yE (by simp) ⟨_, _, _, evl, obq, jB.bel ?_ obb, by simp, ?_, rfl, obb, zFw _⟩)
  all_goals first | rfl | (simp; done) | (simp_all; done) | (simp_all; omega) | skip
 ·rw [if_pos hb]
  try (refine wkg hR ?_; try refine sM fun K hK => ?_)
  cases b with
  | true =>
   refine zA ⟨_, evl, fun hb => absurd hb (by decide), fun _ => ?_⟩
   try (refine wg ?_; try refine sM fun K hK => ?_)
   all_goals (refine yE (by simp) ⟨_, _, _, evl, obq, jB.bel ?_ obb, by simp, ?_, rfl, obb, zFw _⟩)
   all_goals first | rfl | (simp; done) | (simp_all; done) | (simp_all; omega) | skip
  | false =>
   refine zA ⟨_, evl, fun _ => ?_, fun hb => absurd hb (by decide)⟩
   try (refine wg ?_; try refine sM fun K hK => ?_)
   all_goals (refine yE (by simp) ⟨_, _, _, evl, obq, jB.bel ?_ obb, by simp, ?_, rfl, obb, zFw _⟩)
   all_goals first | rfl | (simp; done) | (simp_all; done) | (simp_all; omega) | skip
theorem zBs {P : Program} {c : Code} {Q : Exit → ASt → Prop} {st : ASt} (h : wpA P c (fun e s => ∃ s', xJ s s' ∧ Q e s') st) : wpA P c Q st := fun C G a w hs =>
 wpIn_mono (h C G a w hs) fun e a' w' ⟨G', s, h1, s', h2, h3⟩ => let ⟨G'', h4⟩ := h2 P C G' a' w' h1; ⟨G'', s', h4, h3⟩
def zZ (a b : Int) (r : Rg) (who : List zB) : List zO := [⟨b, a, -r.lo, who⟩, ⟨a, b, r.hi, who⟩]
theorem zA1 (m : zQ) (l : List zO) (hl : l.length ≤ 100000000000) (a b : Int) (r : Rg) (hr : IntKind.i64.wrap (-r.lo) = -r.lo) (who : List zB) (el : Nat → List AV) (hel : ∀ i, i < who.length → el i = els zB.av who i) :
  FnG Tryz.prog 34 [.box 0 0, .raw (.int .i64 a), .raw (.int .i64 b), .agg [.raw (.int .i64 r.lo), .raw (.int .i64 r.hi)], .lst 2 who.length el] [yD m l.length] [qL l] (.tup []) [yD m (l ++ zZ a b r who).length] [qL (l ++ zZ a b r who)] := by
 obtain ⟨f1, f2, f3, f4, f5⟩ := zG6 m
 have hrf := kO l
 have hwf : (AV.lst 2 who.length el).free := fun i hi => by rw [hel i hi]; exact zB.free _
 refine enG Tryz.func34 Tryz.ntmps34 [] 1 rfl ?_
 refine zBs ?_
 repeat (refine stG ?_)
 refine zD (fun K hK => ?_)
 iterate 1 (refine stG ?_)
 refine zX 1 obf ⟨_, evl, _, evl, ?_⟩
 try (first | refine wkN hK trivial ?_ | refine wkR trivial ?_)
 try clear hK K
 try refine sM fun K hK => ?_
 have hlen : l.length + 2 = (l ++ zZ a b r who).length := by simp [zZ]
 refine ⟨⟨32, 1 + 64 * 1, [], [yD m (l ++ zZ a b r who).length], [qL (l ++ zZ a b r who)], ((0, []), [], true)⟩, ?_, ?_⟩
 ·refine wkn ?_ ?_ ?_
  all_goals first | exact wk0 | refine wkS ?_ | skip
  all_goals (try trivial)
  all_goals ((repeat' apply And.intro) <;> first | exact wkL | skip)
  all_goals first | exact z6.rowN hlen | exact hlen | skip
  intro q hq
  rw [← xE (l := l) (n := l.length) rfl]
  rcases yIq q l.length with hb | hb
  ·rw [xL hb, xL hb]
   exact z8.refl _
  ·rw [yV hb, yV hb]
   rw [← hlen] at hq
   rcases yIq (q - l.length) 1 with h1 | h1
   ·obtain h0 : q - l.length = 0 := by omega
    rw [h0]
    exact ⟨z6.refl _, z6.refl _, z6.refl _, (Sim.lstE rfl hel).s, trivial⟩
   ·obtain h0 : q - l.length = 1 := by omega
    rw [h0]
    exact ⟨z6.refl _, z6.refl _, z6.refl _, (Sim.lstE rfl hel).s, trivial⟩
 ·all_goals (refine yE (by simp) ⟨_, _, _, evl, obq, jB.bel ?_ obb, by simp, ?_, rfl, obb, zFw _⟩)
  all_goals first | rfl | (simp; done) | (simp_all; done) | (simp_all; omega) | skip
theorem zQj (m : zQ) (l : List zO) (hl : l.length ≤ 100000000000) (a b : Int) (r : Rg) (hr : IntKind.i64.wrap (-r.lo) = -r.lo) :
  FnG Tryz.prog 34 [.box 0 0, .raw (.int .i64 a), .raw (.int .i64 b), .agg [.raw (.int .i64 r.lo), .raw (.int .i64 r.hi)], .raw (.slice none 0 0)] [yD m l.length] [qL l] (.tup []) [yD m (l ++ zZ a b r []).length] [qL (l ++ zZ a b r [])] := by
 obtain ⟨f1, f2, f3, f4, f5⟩ := zG6 m
 have hrf := kO l
 refine enG Tryz.func34 Tryz.ntmps34 [] 1 rfl ?_
 refine zBs ?_
 repeat (refine stG ?_)
 refine zD (fun K hK => ?_)
 iterate 1 (refine stG ?_)
 refine zX 1 obf ⟨_, evl, _, evl, ?_⟩
 try (first | refine wkN hK trivial ?_ | refine wkR trivial ?_)
 try clear hK K
 try refine sM fun K hK => ?_
 have hlen : l.length + 2 = (l ++ zZ a b r []).length := by simp [zZ]
 refine ⟨⟨32, 1 + 64 * 1, [], [yD m (l ++ zZ a b r []).length], [qL (l ++ zZ a b r [])], ((0, []), [], true)⟩, ?_, ?_⟩
 ·refine wkn ?_ ?_ ?_
  all_goals first | exact wk0 | refine wkS ?_ | skip
  all_goals (try trivial)
  all_goals ((repeat' apply And.intro) <;> first | exact wkL | skip)
  all_goals first | exact z6.rowN hlen | exact hlen | skip
  intro q hq
  rw [← xE (l := l) (n := l.length) rfl]
  rcases yIq q l.length with hb | hb
  ·rw [xL hb, xL hb]
   exact z8.refl _
  ·rw [yV hb, yV hb]
   rw [← hlen] at hq
   rcases yIq (q - l.length) 1 with h1 | h1
   ·obtain h0 : q - l.length = 0 := by omega
    rw [h0]
    exact ⟨z6.refl _, z6.refl _, z6.refl _, (Sim.nil rfl).s, trivial⟩
   ·obtain h0 : q - l.length = 1 := by omega
    rw [h0]
    exact ⟨z6.refl _, z6.refl _, z6.refl _, (Sim.nil rfl).s, trivial⟩
 ·all_goals (refine yE (by simp) ⟨_, _, _, evl, obq, jB.bel ?_ obb, by simp, ?_, rfl, obb, zFw _⟩)
  all_goals first | rfl | (simp; done) | (simp_all; done) | (simp_all; omega) | skip
theorem yA5 (p : zB) : ∀ i, i < [p].length → yA 2 p.av i = els zB.av [p] i := fun i hi => yB (enc := zB.av) (l := [p]) (fun _ => rfl) rfl hi
theorem xJ.slot {nt nb : Nat} {sl : List (Nat × (Bool × AV))} {bx : List (List AV)} {rw : List z9} {ys : (Nat × List (List AV)) × List (List AV) × Bool} (d : Nat) {x y : AV} (h : xG d sl = some (true, x)) (hs : z6 bx rw x y) : xJ ⟨nt, nb, sl, bx, rw, ys⟩ ⟨nt, nb, (d, (true, y)) :: sl, bx, rw, ys⟩ := fun _ _ G _ _ h' =>
 ⟨G, h'.size, h'.callers, h'.frame, h'.le, h'.fresh, h'.ownB, h'.ownR, h'.env, h'.mem, fun t c z hl => by
  simp only [ASt.look, zL] at hl
  by_cases htd : t = d
  ·subst htd
   simp only [if_true, yIg, yIv] at hl
   obtain ⟨rfl, rfl⟩ := hl
   obtain ⟨v, h1, h2, _⟩ := h'.slot t true x h
   exact ⟨v, h1, fun _ => hs _ _ _ h'.mem (h2 rfl), fun e => by cases e⟩
  ·rw [if_neg htd] at hl
   exact h'.slot t c z hl⟩
theorem xT {P : Program} {full : List Oper} {all : Bool} {o : Oper} {d nt nb : Nat} {k' : ASt → Prop} {L : List Nat} {sl : List (Nat × (Bool × AV))} {bx bx0 : List (List AV)} {rw : List z9} {ys : (Nat × List (List AV)) × List (List AV) × Bool} {ent : Bool × AV} {c : List AV} (hd : o.dst = some d) (hk : ∃ ext, bx ++ [c] = zLw all bx0 ext) (h64 : Nat.blt bx.length 64 = true) (hl : o.looksAt full.toArray = L)
  (h : ∀ nb' K, K ⟨nt, nb', (d, ent) :: kQ L sl, bx ++ [c], rw, ys⟩ → xM P full.toArray [o] K ⟨nt, nb', kQ L sl, bx, rw, ys⟩) (hk' : k' ⟨nt, nb, (d, ent) :: sl, bx ++ [c], rw, ys⟩) : zHn P full.toArray all bx0 o k' ⟨nt, nb, sl, bx, rw, ys⟩ :=
 zBw h64 hl fun nb' => h nb' _ ⟨ent, _, _, by rw [hd]; rfl, hk, fun _ => ⟨rfl, _, rfl⟩, by rw [hd]; exact hk'⟩
theorem zA8 {nt nb : Nat} {sl : List (Nat × (Bool × AV))} {bx : List (List AV)} {rw : List z9} {ys : (Nat × List (List AV)) × List (List AV) × Bool} {st2 : ASt} (m : Nat)
  (h1 : nb % 64 ≤ m ∧ jY m (bx.take m) ∧ zMp m rw ∧ zX5 m bx sl) (h : ∃ sl', zXd m bx sl = sl' ∧ ∃ bx', bx.take m = bx' ∧ xJ ⟨nt, nb, sl', bx', rw, ys⟩ st2) : xJ ⟨nt, nb, sl, bx, rw, ys⟩ st2 := by
 obtain ⟨_, rfl, _, rfl, h⟩ := h
 exact xJ.trans (xJ.freeze m h1.1 h1.2.1 h1.2.2.1 h1.2.2.2) h
theorem zNf (f g : Nat → Nat) (m : zQ) (n : Nat) : AV.renL f g (yD m n) = [lA 7 zH.av m.evidence.keys, lA 4 q9.av m.evidence.auths, .raw (.int .i64 m.evidence.f), lA 2 xS.av m.evidence.chains, lA 4 qM.av m.diaries, lA 3 wY.av m.wires, .row (g 0) n] := rfl
theorem zX4 (f g : Nat → Nat) (l : List zO) : z9.ren f g (qL l) = qL l := rfl
theorem jT (j : Nat) {P : Program} {ops : Array Oper} {rest : List Oper} {K : ASt → Prop} {nt nb : Nat} {sl : List (Nat × (Bool × AV))} {bx bx1 : List (List AV)} {ys : (Nat × List (List AV)) × List (List AV) × Bool} {o : Oper} {d : Nat} {f : FuncId} {args : List AV} {m : zQ} {l l' : List zO} {r : AV} (F : FnG P f args [yD m l.length] [qL l] r [yD m l'.length] [qL l'])
  (hg : o.guard = none) (hd : o.dst = some d) (hn : Nat.blt d nt = true) (hs : AV.subL 1 1 args)
  (h : ∃ n, bx.length = n ∧ ∃ cs, jQ ⟨nt, nb, sl, bx, [qL l], ys⟩ o.op = some (cs, f, AV.renL (idx [j] n) (idx [0] 1) args) ∧ (∀ c ∈ cs, c = true) ∧ bx[j]? = some (yD m l.length) ∧ r.ren (idx [j] n) (idx [0] 1) = r ∧ bx.set j (yD m l'.length) = bx1 ∧
   xM P ops rest K ⟨nt, nb, (d, (true, r)) :: sl, bx1, [qL l'], ys⟩) : xM P ops (o :: rest) K ⟨nt, nb, sl, bx, [qL l], ys⟩ := by
 obtain ⟨n, rfl, cs, h1, h2, h3, h4, rfl, h5⟩ := h
 refine xV [j] [0] F hg hd hn ⟨_, rfl, _, rfl, cs, h1, h2, by simp, by simp, ⟨by rw [h3, zNf]; rfl, trivial⟩, ⟨by rw [zX4]; rfl, trivial⟩, yHe hs, r, h4, bx.set j (yD m l'.length), ?_, [qL l'], ?_, h5⟩
 ·simp only [yJo, yKf, zNf]
  simp [wC, idx]
 ·simp only [yJo, yKf, zX4]
  simp [wC]
theorem zUd {l : List q9} (h : jV l) (id : Int) : 0 ≤ (zE3 l id).1.err ∧ (zE3 l id).1.err ≤ 1000000 := by
 have hr := kU (isA id) l
 unfold zE3
 split
 ·exact ⟨by decide, by decide⟩
 ·exact (h _ (by omega)).2
theorem zEm (l : List wY) (host auth : Int) : (0 ≤ (qS l host auth).1.outLo ∧ (qS l host auth).1.outLo ≤ (qS l host auth).1.outHi ∧ (qS l host auth).1.outHi ≤ 1000000) ∧ (0 ≤ (qS l host auth).1.backLo ∧ (qS l host auth).1.backLo ≤ (qS l host auth).1.backHi ∧ (qS l host auth).1.backHi ≤ 1000000) := by
 unfold qS
 split
 ·exact ⟨by decide, by decide⟩
 ·have hb : Lk.formedM (Lk.linkBoundsM (l.getD (jU (isW host auth) l).toNat default).changes ⟨0, 3000000000000000⟩).1 = true := by
   by_cases hv : Lk.validM (l.getD (jU (isW host auth) l).toNat default).changes = true
   ·exact Lk.bounds_formed hv (by decide)
   ·unfold Lk.linkBoundsM
    rw [if_neg fun h => hv h.1]
    decide
  rw [Lk.formed_iff] at hb
  simp only
  omega
theorem vT (rate count : Int) : 0 ≤ (xK rate count).1.lo ∧ (xK rate count).1.lo ≤ 1000000000000001 ∧ (xK rate count).1.hi ≤ 2000000000000000 ∧ -1 ≤ (xK rate count).1.hi := by
 unfold xK
 split
 ·rename_i hc
  obtain ⟨⟨r1, r2⟩, r3, r4⟩ := hc
  simp only
  have d2 : (count + 1) * 1000000000 / (1000000000 - rate) < 1999999999999999 := by
   refine yMe (by omega) ?_
   have : 1999999999999999 * (1000000000 - rate) ≥ 1999999999999999 * 999000000 := yMc (by omega) (by decide)
   omega
  have c2 := zFu (p := (count + 1) * 1000000000) (d := 1000000000 - rate) (by omega) (by omega)
  refine ⟨?_, ?_, by omega, by omega⟩
  ·split
   ·have := yMd (a := (count - 1) * 1000000000) (b := 1000000000 + rate) (by omega) (by omega)
    omega
   ·exact yM6 _
  ·split
   ·have : (count - 1) * 1000000000 / (1000000000 + rate) ≤ 1000000000000000 := by
     refine Int.le_of_lt (yMe (by omega) ?_)
     have : 1000000000000000 * (1000000000 + rate) ≥ 1000000000000000 * 1000000000 := yMc (by omega) (by decide)
     omega
    omega
   ·decide
 ·decide
def zAs (m : zQ) (r : zM) (rate count s t : Int) : List zO :=
 zZ 0 t ⟨r.stamp.lo, r.stamp.hi⟩ [⟨1, r.auth⟩] ++ (if 2 * (zE3 m.evidence.auths r.auth).1.err < r.stamp.hi - r.stamp.lo then [⟨0, 0, -1, [⟨1, r.auth⟩]⟩] else []) ++
 zZ s t ⟨(qS m.wires r.host r.auth).1.outLo, (qS m.wires r.host r.auth).1.outHi⟩ [⟨3, 0⟩] ++ zZ t (t + 1) ⟨(qS m.wires r.host r.auth).1.backLo, (qS m.wires r.host r.auth).1.backHi⟩ [⟨3, 0⟩] ++
 zZ s (t + 1) (xK rate count).1 [⟨2, r.host⟩]
theorem zY8 (m : zQ) (h : OkM m) (l : List zO) (hl : l.length ≤ 90000000000) (r : zM) (hr : yJ r) (rate count s t : Int) (hs : 0 ≤ s ∧ s ≤ 100000) (ht : 0 ≤ t ∧ t ≤ 100000) (hau : jV m.evidence.auths) :
  FnG Tryz.prog 82 [.box 0 0, .agg r.av, .raw (.int .i64 rate), .raw (.int .i64 count), .raw (.int .i64 s), .raw (.int .i64 t)] [yD m l.length] [qL l] (.tup []) [yD m (l ++ zAs m r rate count s t).length] [qL (l ++ zAs m r rate count s t)] := by
 obtain ⟨f1, f2, f3, f4, f5⟩ := zG6 m
 have hrf := kO l
 refine enG Tryz.func82 Tryz.ntmps82 [] 1 rfl ?_
 refine zBs ?_
 repeat (refine stG ?_)
 refine zD (fun K hK => ?_)
 iterate 1 (refine stG ?_)
 refine zX 1 obf ⟨_, evl, _, evl, ?_⟩
 refine zF (hK _ ?_); clear hK K
 repeat refine stR ?_
 refine zBr ⟨107, 1 + 64 * 1, [(0, true, .box 0 0), (2, true, .raw (.int .i64 rate)), (3, true, .raw (.int .i64 count)), (4, true, .raw (.int .i64 s)), (5, true, .raw (.int .i64 t)), (7, true, .elt r.av 0), (12, true, .elt (zB.av ⟨1, r.auth⟩) 0), (13, true, .elt (zB.av ⟨2, r.host⟩) 0), (14, true, .elt (zB.av ⟨3, 0⟩) 0)], [yD m l.length], [qL l], ((0, []), [], true)⟩ ?_ ?_
 ·refine zC true rfl (by kernel_rfl) (by kernel_rfl) (fun K hK => ?_)
  try (first | refine wkN hK trivial ?_ | refine wkR trivial ?_)
  try clear hK K
  try refine sM fun K hK => ?_
  refine zC0 ⟨_, evl, _, evl, by decide +kernel, ?_⟩
  refine qV (rem := [7, 8, 9, 10, 11, 12]) (m := 5) (cs := [7, 8, 9]) rfl (by decide +kernel) ?_
  refine yKi.2 ⟨fun o ho => ?_, yKi.2 ⟨fun o ho => ?_, yKi.2 ⟨fun o ho => ?_, fun _ h => by cases h⟩⟩⟩
  ·cases yMg ho
   refine xT (d := 12) (ent := (true, .box 1 0)) (c := zB.av ⟨0, 0⟩) rfl ⟨_, rfl⟩ rfl evl (fun nb' K hk => ?_) ?_
   ·refine stG ?_
    exact zF hk
   ·refine qV (rem := [8, 9, 10, 11, 12]) (m := 4) (cs := [8, 9]) rfl (by decide +kernel) ?_
    refine yKi.2 ⟨fun o ho => ?_, yKi.2 ⟨fun o ho => ?_, fun _ h => by cases h⟩⟩
    ·cases yMg ho
     refine xT (d := 13) (ent := (true, .box 2 0)) (c := zB.av ⟨0, 0⟩) rfl ⟨_, rfl⟩ rfl evl (fun nb' K hk => ?_) ?_
     ·refine stG ?_
      exact zF hk
     ·refine yM (rem := [9, 10, 11, 12]) (by decide +kernel) ?_
      rw [yN]
      dsimp only [List.cons_append, List.nil_append]

      try (first | refine wkN hK trivial ?_ | refine wkR trivial ?_)
      try clear hK K
      try refine sM fun K hK => ?_
      refine zA8 1 obf ⟨_, evl, _, evl, ?_⟩
      exact wkZ
    ·cases yMg ho
     refine xT (d := 14) (ent := (true, .box 2 0)) (c := zB.av ⟨0, 0⟩) rfl ⟨_, rfl⟩ rfl evl (fun nb' K hk => ?_) ?_
     ·refine stG ?_
      exact zF hk
     ·refine yM (rem := [8, 10, 11, 12]) (by decide +kernel) ?_
      rw [yN]
      dsimp only [List.cons_append, List.nil_append]

      try (first | refine wkN hK trivial ?_ | refine wkR trivial ?_)
      try clear hK K
      try refine sM fun K hK => ?_
      refine zA8 1 obf ⟨_, evl, _, evl, ?_⟩
      exact wkZ
  ·cases yMg ho
   refine xT (d := 13) (ent := (true, .box 1 0)) (c := zB.av ⟨0, 0⟩) rfl ⟨_, rfl⟩ rfl evl (fun nb' K hk => ?_) ?_
   ·refine stG ?_
    exact zF hk
   ·refine qV (rem := [7, 9, 10, 11, 12]) (m := 4) (cs := [7, 9]) rfl (by decide +kernel) ?_
    refine yKi.2 ⟨fun o ho => ?_, yKi.2 ⟨fun o ho => ?_, fun _ h => by cases h⟩⟩
    ·cases yMg ho
     refine xT (d := 12) (ent := (true, .box 2 0)) (c := zB.av ⟨0, 0⟩) rfl ⟨_, rfl⟩ rfl evl (fun nb' K hk => ?_) ?_
     ·refine stG ?_
      exact zF hk
     ·refine yM (rem := [9, 10, 11, 12]) (by decide +kernel) ?_
      rw [yN]
      dsimp only [List.cons_append, List.nil_append]

      try (first | refine wkN hK trivial ?_ | refine wkR trivial ?_)
      try clear hK K
      try refine sM fun K hK => ?_
      refine zA8 1 obf ⟨_, evl, _, evl, ?_⟩
      exact wkZ
    ·cases yMg ho
     refine xT (d := 14) (ent := (true, .box 2 0)) (c := zB.av ⟨0, 0⟩) rfl ⟨_, rfl⟩ rfl evl (fun nb' K hk => ?_) ?_
     ·refine stG ?_
      exact zF hk
     ·refine yM (rem := [7, 10, 11, 12]) (by decide +kernel) ?_
      rw [yN]
      dsimp only [List.cons_append, List.nil_append]

      try (first | refine wkN hK trivial ?_ | refine wkR trivial ?_)
      try clear hK K
      try refine sM fun K hK => ?_
      refine zA8 1 obf ⟨_, evl, _, evl, ?_⟩
      exact wkZ
  ·cases yMg ho
   refine xT (d := 14) (ent := (true, .box 1 0)) (c := zB.av ⟨0, 0⟩) rfl ⟨_, rfl⟩ rfl evl (fun nb' K hk => ?_) ?_
   ·refine stG ?_
    exact zF hk
   ·refine qV (rem := [7, 8, 10, 11, 12]) (m := 4) (cs := [7, 8]) rfl (by decide +kernel) ?_
    refine yKi.2 ⟨fun o ho => ?_, yKi.2 ⟨fun o ho => ?_, fun _ h => by cases h⟩⟩
    ·cases yMg ho
     refine xT (d := 12) (ent := (true, .box 2 0)) (c := zB.av ⟨0, 0⟩) rfl ⟨_, rfl⟩ rfl evl (fun nb' K hk => ?_) ?_
     ·refine stG ?_
      exact zF hk
     ·refine yM (rem := [8, 10, 11, 12]) (by decide +kernel) ?_
      rw [yN]
      dsimp only [List.cons_append, List.nil_append]

      try (first | refine wkN hK trivial ?_ | refine wkR trivial ?_)
      try clear hK K
      try refine sM fun K hK => ?_
      refine zA8 1 obf ⟨_, evl, _, evl, ?_⟩
      exact wkZ
    ·cases yMg ho
     refine xT (d := 13) (ent := (true, .box 2 0)) (c := zB.av ⟨0, 0⟩) rfl ⟨_, rfl⟩ rfl evl (fun nb' K hk => ?_) ?_
     ·refine stG ?_
      exact zF hk
     ·refine yM (rem := [7, 10, 11, 12]) (by decide +kernel) ?_
      rw [yN]
      dsimp only [List.cons_append, List.nil_append]

      try (first | refine wkN hK trivial ?_ | refine wkR trivial ?_)
      try clear hK K
      try refine sM fun K hK => ?_
      refine zA8 1 obf ⟨_, evl, _, evl, ?_⟩
      exact wkZ
 obtain ⟨⟨h1, h2, h3⟩, h4, h5, h6, h7⟩ := id hr
 have hn : ∀ x : Int, -3000000000000000 ≤ x ∧ x ≤ 3000000000000000 → IntKind.i64.wrap (-x) = -x := fun x hx => y8 (k := .i64) (by simp only [inK]; omega)
 have b1 := zA1 m l (by omega) 0 t ⟨r.stamp.lo, r.stamp.hi⟩ (hn _ (by simp only; omega)) [⟨1, r.auth⟩] _ (fun _ _ => rfl)
 obtain ⟨l1, hl1⟩ : ∃ l1, l1 = l ++ zZ 0 t ⟨r.stamp.lo, r.stamp.hi⟩ [⟨1, r.auth⟩] := ⟨_, rfl⟩
 have hc1 : l1.length = l.length + 2 := by rw [hl1]; simp [zZ]
 rw [← hl1] at b1
 have a1 := zOv m h.al l1 r
 have hA := zUd hau r.auth
 have hW := zEm m.wires r.host r.auth
 have hE := vT rate count
 have el := zKf rate count
 unfold zAs
 generalize zE3 m.evidence.auths r.auth = A at *
 have w1 := fun (l : List zO) => zMw m h.wl h.wc l r
 generalize qS m.wires r.host r.auth = W at *
 generalize xK rate count = E at *
 obtain ⟨l2, hl2⟩ : ∃ l2, l2 = l1 ++ (if 2 * A.1.err < r.stamp.hi - r.stamp.lo then [(⟨0, 0, -1, [⟨1, r.auth⟩]⟩ : zO)] else []) := ⟨_, rfl⟩
 have hc2 : l1.length ≤ l2.length ∧ l2.length ≤ l1.length + 1 := by rw [hl2]; split <;> simp
 try (first | refine wkM hK trivial ?_ | refine wkg trivial ?_)
 try clear hK K
 try refine sM fun K hK => ?_
 refine kL (xJ.slot 33 evl (Sim.lstE rfl (yA5 ⟨1, r.auth⟩)).s) ?_
 refine jT 0 (bx1 := [yD m _]) b1 rfl rfl rfl ⟨yMf, trivial, trivial, ⟨trivial, trivial, trivial⟩, AV.sub_free _ (zE (fun y => zB.free y) _), trivial⟩ ⟨_, rfl, _, evl, obl, rfl, rfl, rfl, ?_⟩

 try (first | refine wkM hK trivial ?_ | refine wkg trivial ?_)
 try clear hK K
 try refine sM fun K hK => ?_
 refine jT 0 (bx1 := [yD m _]) a1 rfl rfl rfl ⟨yMf, AV.subL_free _ (zM.free r), trivial⟩ ⟨_, rfl, _, evl, obl, rfl, rfl, rfl, ?_⟩

 try (first | refine wkM hK trivial ?_ | refine wkg trivial ?_)
 try clear hK K
 try refine sM fun K hK => ?_
 refine zBr ⟨107, 1 + 64 * 1, [(0, true, .box 0 0), (2, true, .raw (.int .i64 rate)), (3, true, .raw (.int .i64 count)), (4, true, .raw (.int .i64 s)), (5, true, .raw (.int .i64 t)), (7, true, .elt r.av 0), (12, true, .elt (zB.av ⟨1, r.auth⟩) 0), (13, true, .elt (zB.av ⟨2, r.host⟩) 0), (14, true, .elt (zB.av ⟨3, 0⟩) 0)], [yD m l2.length], [qL l2], ((0, []), [], true)⟩ ?_ ?_
 ·refine zA ⟨_, evl, fun hb => ?_, fun hb => ?_⟩
  ·simp only [yJm] at hb
   rw [if_pos hb] at hl2
   have hlen : l1.length + 1 = l2.length := by rw [hl2]; simp
   try (refine wg ?_; try refine sM fun K hK => ?_)
   refine wkn ?_ ?_ ?_
   all_goals first | exact wk0 | refine wkS ?_ | skip
   all_goals (try trivial)
   all_goals ((repeat' apply And.intro) <;> first | exact wkL | skip)
   all_goals first | exact z6.rowN hlen | exact hlen | skip
   intro q hq
   rw [hl2, ← xE (l := l1) (n := l1.length) rfl]
   rcases yIq q l1.length with hb | hb
   ·rw [xL hb, xL hb]
    exact z8.refl _
   ·obtain h0 : q - l1.length = 0 := by omega
    rw [yV hb, yV hb, h0]
    exact ⟨z6.refl _, z6.refl _, z6.refl _, (Sim.lstE rfl (yA5 ⟨1, r.auth⟩)).s, trivial⟩
  ·simp only [yKu] at hb
   rw [if_neg hb, yKe] at hl2
   rw [hl2]
   try (refine wg ?_; try refine sM fun K hK => ?_)
   exact wkZ
 ·obtain ⟨l3, hl3⟩ : ∃ l3, l3 = l2 ++ zZ s t ⟨W.1.outLo, W.1.outHi⟩ [⟨3, 0⟩] := ⟨_, rfl⟩
  have hc3 : l3.length = l2.length + 2 := by rw [hl3]; simp [zZ]
  obtain ⟨l4, hl4⟩ : ∃ l4, l4 = l3 ++ zZ t (t + 1) ⟨W.1.backLo, W.1.backHi⟩ [⟨3, 0⟩] := ⟨_, rfl⟩
  have hc4 : l4.length = l3.length + 2 := by rw [hl4]; simp [zZ]
  have b2 := zA1 m l2 (by omega) s t ⟨W.1.outLo, W.1.outHi⟩ (hn _ (by simp only; omega)) [⟨3, 0⟩] _ (fun _ _ => rfl)
  have b3 := zA1 m l3 (by omega) t (t + 1) ⟨W.1.backLo, W.1.backHi⟩ (hn _ (by simp only; omega)) [⟨3, 0⟩] _ (fun _ _ => rfl)
  have b4 := zA1 m l4 (by omega) s (t + 1) E.1 (hn _ (by omega)) [⟨2, r.host⟩] _ (fun _ _ => rfl)
  rw [← hl3] at b2
  rw [← hl4] at b3
  have hfin : l ++ (zZ 0 t ⟨r.stamp.lo, r.stamp.hi⟩ [⟨1, r.auth⟩] ++ (if 2 * A.1.err < r.stamp.hi - r.stamp.lo then [(⟨0, 0, -1, [⟨1, r.auth⟩]⟩ : zO)] else []) ++ zZ s t ⟨W.1.outLo, W.1.outHi⟩ [⟨3, 0⟩] ++ zZ t (t + 1) ⟨W.1.backLo, W.1.backHi⟩ [⟨3, 0⟩] ++ zZ s (t + 1) E.1 [⟨2, r.host⟩]) = l4 ++ zZ s (t + 1) E.1 [⟨2, r.host⟩] := by
   rw [hl4, hl3, hl2, hl1]
   simp only [yKx]
  rw [hfin]
  clear hfin b1 a1 hl1 hl2 hl3 hl4
  generalize l4 ++ zZ s (t + 1) E.1 [⟨2, r.host⟩] = l5 at *
  have hw := w1 l2
  try (first | refine wkM hK trivial ?_ | refine wkg trivial ?_)
  try clear hK K
  try refine sM fun K hK => ?_
  refine jT 0 (bx1 := [yD m _]) hw rfl rfl rfl ⟨yMf, AV.subL_free _ (zM.free r), trivial⟩ ⟨_, rfl, _, evl, obl, rfl, rfl, rfl, ?_⟩

  iterate 5 (refine stG ?_)
  refine zX 1 obf ⟨_, evl, _, evl, ?_⟩
  try (first | refine wkM hK trivial ?_ | refine wkg trivial ?_)
  try clear hK K
  try refine sM fun K hK => ?_
  refine kL (xJ.slot 79 evl (Sim.lstE rfl (yA5 ⟨3, 0⟩)).s) ?_
  refine jT 0 (bx1 := [yD m _]) b2 rfl rfl rfl ⟨yMf, trivial, trivial, ⟨trivial, trivial, trivial⟩, AV.sub_free _ (zE (fun y => zB.free y) _), trivial⟩ ⟨_, rfl, _, evl, obl, rfl, rfl, rfl, ?_⟩

  try (first | refine wkM hK trivial ?_ | refine wkg trivial ?_)
  try clear hK K
  try refine sM fun K hK => ?_
  refine kL (xJ.slot 91 evl (Sim.lstE rfl (yA5 ⟨3, 0⟩)).s) ?_
  refine jT 0 (bx1 := [yD m _]) b3 rfl rfl rfl ⟨yMf, trivial, trivial, ⟨trivial, trivial, trivial⟩, AV.sub_free _ (zE (fun y => zB.free y) _), trivial⟩ ⟨_, rfl, _, evl, obl, rfl, rfl, rfl, ?_⟩

  try (first | refine wkM hK el ?_ | refine wkg el ?_)
  try clear hK K
  try refine sM fun K hK => ?_
  refine kL (xJ.slot 105 evl (Sim.lstE rfl (yA5 ⟨2, r.host⟩)).s) ?_
  refine zX 1 obf ⟨_, evl, _, evl, ?_⟩
  refine jT 0 (bx1 := [yD m _]) b4 rfl rfl rfl ⟨yMf, trivial, trivial, ⟨trivial, trivial, trivial⟩, AV.sub_free _ (zE (fun y => zB.free y) _), trivial⟩ ⟨_, rfl, _, evl, obl, rfl, rfl, rfl, ?_⟩

  try (first | refine wkM hK trivial ?_ | refine wkg trivial ?_)
  try clear hK K
  try refine sM fun K hK => ?_
  refine ⟨_, xJ.refl _, ?_⟩
  all_goals (refine yE (by simp) ⟨_, _, _, evl, obq, jB.bel ?_ obb, by simp, ?_, rfl, obb, zFw _⟩)
  all_goals first | rfl | (simp; done) | (simp_all; done) | (simp_all; omega) | skip
end Go.Proofs.YtchpbdecipcelaaGreatDoor
