import Derived.Test.YtchpbdecipcelaaGreatDoorHO01
import Derived.Test.YtchpbdecipcelaaGreatDoorHO41
namespace Go.Proofs.YtchpbdecipcelaaGreatDoor
set_option linter.unusedVariables false
set_option linter.unusedSimpArgs false
set_option maxHeartbeats 4000000
set_option maxRecDepth 100000
open Go.RowKit
theorem zZp (l : List zB) (hl : l.length ≤ 1000000000000) : FnA Tryz.prog 103 [lA 2 zB.av l] (lA 2 zB.av l) := by
 have hfr : (lA 2 zB.av l).free := zE (fun y => zB.free y) _
 refine en Tryz.func103 Tryz.ntmps103 [.tmp 2] rfl ?_
 repeat (refine stG ?_)
 refine zD (fun K hK => ?_)
 iterate 1 (refine stG ?_)
 refine zF (hK _ ?_); clear hK K
 repeat (refine stG ?_)
 refine zD (fun K hK => ?_)
 iterate 1 (refine stG ?_)
 refine zPm yQ rfl rfl rfl rfl ⟨_, _, _, evl, evl, ⟨_, _, _, _, _, evl⟩, fun b hnil => ⟨_, evl, ?_⟩⟩
 refine zF (hK _ ?_); clear hK K
 try (first | refine wkN hK trivial ?_ | refine wkR trivial ?_)
 try clear hK K
 try refine sM fun K hK => ?_
 refine zA ⟨_, evl, fun hb => ?_, fun hb => ?_⟩
 ·have hn := hnil hb
  obtain rfl := yM7.1 hn
  try (refine wkR trivial ?_; try refine sM fun K hK => ?_)
  refine rt ?_
  exact (Sim.nil rfl).s
 ·try (refine wkR trivial ?_; try refine sM fun K hK => ?_)
  refine rt ?_
  exact z6.row rfl rfl rfl rfl fun i hi => show vL 0 (yA 2 []) (els zB.av l) i = _ by rw [yV (yIl i)]; rfl
theorem zFs {α : Type} [Inhabited α] : ∀ (l : List α) (n : Nat), Vd.choose l (n + 1) = (List.range l.length).flatMap fun i => (Vd.choose (l.drop (i + 1)) n).map (l.getD i default :: ·)
 | [], n => rfl
 | x :: l, n => by
  rw [Vd.choose, zFs l n, yIz, List.range_succ_eq_map, yL7, List.flatMap_map]
  rfl
def upI (l : List zB) (n i : Nat) : List (List zB) := (List.range i).flatMap fun j => (Vd.choose (l.drop (j + 1)) n).map (l.getD j default :: ·)
theorem zHh (l : List zB) (n i : Nat) : upI l n (i + 1) = upI l n i ++ (Vd.choose (l.drop (i + 1)) n).map (l.getD i default :: ·) := by
 unfold upI
 rw [yLc, yLd]
 simp
theorem yAf (l : List zB) (n : Nat) {i j : Nat} (h : i ≤ j) : (upI l n i).length ≤ (upI l n j).length := by
 induction j with
 | zero => rw [Nat.le_zero.1 h]; exact yIn _
 | succ j ih =>
  rcases yIq i (j + 1) with hlt | hge
  ·rw [zHh, yJ2]
   have := ih (by omega)
   omega
  ·rw [show i = j + 1 by omega]; exact yIn _
theorem zXo (l : List zB) (n i : Nat) {s : List zB} (h : s ∈ upI l n i) : s.length = n + 1 := by
 unfold upI at h
 rw [yM9] at h
 obtain ⟨j, _, hs⟩ := h
 obtain ⟨t, ht, rfl⟩ := yKb.1 hs
 rw [yIz, ((Vd.choose_mem _ _ _).1 ht).2]
theorem yBn (L : List zB) (i j : Nat) : [AV.raw (.int .i64 (L.getD (((i : Int) + 1).toNat + j) default).kind), .raw (.int .i64 (L.getD (((i : Int) + 1).toNat + j) default).id)] = els zB.av (L.drop (i + 1)) j := by
 unfold els
 rw [yJk (l := List.drop _ _), yIj, show ((i : Int) + 1).toNat = i + 1 from by omega, yJk]
 rfl
abbrev yAp : AV := .fn (.func 55) [] [.box 0 0, .box 1 0, .box 2 0, .box 3 0]
theorem yHd {m : zQ} {O O' : List (List zB)} {l : List zO} {n : Nat} {args : List AV} (ha : AV.subL 4 1 args) :
  (∀ cs ∈ zEt m O l n, AV.subL 4 1 cs) ∧ (∀ r ∈ [zNe O], ∀ q, q < r.n → AV.subL 4 1 (r.el q)) ∧ AV.subL 4 1 args ∧ 4 ≤ (zEt m O' l n).length ∧ 1 ≤ [zNe O'].length := by
 refine ⟨fun cs hc => ?_, fun r hr q _ => ?_, ha, yIn _, yIn _⟩
 ·simp only [yJb, yKj, yKq] at hc
  rcases hc with rfl | rfl | rfl | rfl
  ·exact AV.subL_free _ (zQ.free m)
  ·exact ⟨yMf, trivial⟩
  ·exact ⟨AV.sub_free _ (zE (fun y => zO.free y) _), trivial⟩
  ·exact ⟨trivial, trivial⟩
 ·simp only [yJb, yKj, yKq] at hr
  subst hr
  exact AV.subL_free _ ⟨zE (fun z => zB.free z) _, trivial⟩
theorem yI7 : AV.subL 4 1 [.box 0 0, .box 1 0, .box 2 0, .box 3 0] := ⟨show 0 < 4 by decide, show 1 < 4 by decide, show 2 < 4 by decide, show 3 < 4 by decide, trivial⟩
theorem kG {a b : Nat} (l : List zB) : AV.sub a b (lA 2 zB.av l) := AV.sub_free _ (zE (fun z => zB.free z) _)
theorem zRk (ib ir : List Nat) {P : Program} {ops : Array Oper} {rest : List Oper} {K : ASt → Prop} {nt nb : Nat} {sl : List (Nat × (Bool × AV))} {bx : List (List AV)} {rw : List z9} {ys : (Nat × List (List AV)) × List (List AV) × Bool} {o : Oper} {d : Nat} {f : FuncId} {args : List AV} {sub sub' : List (List AV)} {rsub rsub' : List z9} {r : AV}
  (hgd : xP ops ⟨nt, nb, sl, bx, rw, ys⟩ o = some true) (F : FnG P f args sub rsub r sub' rsub') (hd : o.dst = some d) (hn : Nat.blt d nt = true)
  (h : ∃ m, bx.length = m ∧ ∃ n, rw.length = n ∧ ∃ cs args0, jQ ⟨nt, nb, sl, bx, rw, ys⟩ o.op = some (cs, f, args0) ∧ jX args0 (AV.renL (idx ib m) (idx ir n) args) ∧ (∀ c ∈ cs, c = true) ∧ ib.Nodup ∧ ir.Nodup ∧ zCd bx (AV.renL (idx ib m) (idx ir n)) ib sub ∧ zCd rw (z9.ren (idx ib m) (idx ir n)) ir rsub ∧
   ((∀ cs ∈ sub, AV.subL ib.length ir.length cs) ∧ (∀ r ∈ rsub, ∀ q, q < r.n → AV.subL ib.length ir.length (r.el q)) ∧ AV.subL ib.length ir.length args ∧ ib.length ≤ sub'.length ∧ ir.length ≤ rsub'.length) ∧
   ∃ r1, r.ren (idx ib m) (idx ir n) = r1 ∧ ∃ bx1, wC bx ib (sub'.map (AV.renL (idx ib m) (idx ir n))) = bx1 ∧ ∃ rw1, wC rw ir (rsub'.map (z9.ren (idx ib m) (idx ir n))) = rw1 ∧
   xM P ops rest K ⟨nt, nb, (d, (true, r1)) :: sl, bx1, rw1, ys⟩) : xM P ops (o :: rest) K ⟨nt, nb, sl, bx, rw, ys⟩ := by
 obtain ⟨m, rfl, n, rfl, cs, args0, h1, hsim, h2, h3, h4, h5, h6, ⟨h7, h8, h9, h10, h11⟩, r1, rfl, bx1, rfl, rw1, rfl, h14⟩ := h
 intro C G a w Q hs hQ
 have hw := xA hgd (G := G) (w := w) (a := a) (fun t _ => hs.slot t)
 have hdl : d < nt := by simpa [yK2] using hn
 unfold wpListIn
 rw [hw]
 simp only [if_true]
 have F' := F.frame ib ir (zFc h3 h4 h5 h6 h7 h8) h9 h10 h11
 obtain ⟨vs, g1, g2⟩ := qJ (P := P) (a := a) h1 (fun y hy => yX fun t ht => hs.slot t) h2 F'.ok
 refine z0 (fun c hc => by rw [hc] at h1; simp [jQ] at h1) ?_
 rw [g2, Oper.uponIn_enter]
 refine ⟨fun h => by simp [fen] at h, wN ?_⟩
 refine (F'.calls G w vs hs.tabs hs.tabs_own hs.mem (hsim.rel g1)).mono ?_
 rintro e w' ⟨v, G', rfl, hout, hle, hfr, hB, hR', hm1, hv⟩
 rw [hd]
 exact h14 C G' _ w' Q ((hs.called hout hle hfr hB hR' hm1).put hdl (fun _ => hv) (fun h => by cases h)) hQ
structure yC6 (l : List zO) (n : Nat) (O : List (List zB)) (k : Nat) (X : List (List zB)) : Prop where
 poss : ∀ s : List zB, s.length ≤ 1000 → FnA Tryz.prog 49 [lA 4 zO.av l, .raw (.int .i64 n), lA 2 zB.av s] (.raw (.bool (zDz l n s)))
 out : ∀ s ∈ O, s.length ≤ 1000
 len : O.length + X.length ≤ 100000000000
theorem zN6 {ok : List zB → Bool} (X O : List (List zB)) : (Vd.pick ok X O).length ≤ O.length + X.length := by
 induction X generalizing O with
 | nil => simp [Vd.pick]
 | cons s X ih =>
  have := ih (Vd.stepS ok O s)
  have h2 : (Vd.stepS ok O s).length ≤ O.length + 1 := by
   unfold Vd.stepS
   split <;> simp
  rw [Vd.pick, yJ1, ← Vd.pick, yIz]
  omega
theorem zNo {ok : List zB → Bool} (X O : List (List zB)) : ∀ s ∈ Vd.pick ok X O, s ∈ O ∨ s ∈ X := by
 induction X generalizing O with
 | nil => exact fun s hs => .inl hs
 | cons x X ih =>
  intro s hs
  rw [Vd.pick, yJ1, ← Vd.pick] at hs
  rcases ih _ s hs with h | h
  ·unfold Vd.stepS at h
   split at h
   ·rcases yK6.1 h with h | h
    ·exact .inl h
    ·exact .inr (by rw [yK4.1 h]; simp)
   ·exact .inl h
  ·exact .inr (by simp [h])
theorem zIw (m : zQ) (l : List zO) (n : Nat) : ∀ (k : Nat) (L ch : List zB) (O : List (List zB)), ch.length + k ≤ 1000 → L.length ≤ 1000000000000 → yC6 l n O k (Vd.choose L k) →
  FnG Tryz.prog 54 [lA 2 zB.av L, .raw (.int .i64 k), lA 2 zB.av ch, yAp] (zEt m O l n) [zNe O] (.tup []) (zEt m (Vd.pick (okS m.evidence.f l n) ((Vd.choose L k).map (ch ++ ·)) O) l n) [zNe (Vd.pick (okS m.evidence.f l n) ((Vd.choose L k).map (ch ++ ·)) O)]
 | 0, L, ch, O, hc, hL, h => by
  have hcl := zZp ch (by omega)
  have htk := yAo m O l n ch (by omega) (fun s hs => by have := h.out s hs; omega) (by have := h.len; omega) (h.poss ch (by omega))
  have hm := zQ.free m
  have hfl : (lA 4 zO.av l).free := zE (fun y => zO.free y) _
  have hfc : (lA 2 zB.av ch).free := zE (fun y => zB.free y) _
  have e : Vd.pick (okS m.evidence.f l n) ((Vd.choose L 0).map (ch ++ ·)) O = Vd.stepS (okS m.evidence.f l n) O ch := by
   cases L <;> simp [Vd.choose, Vd.pick]
  rw [e]
  clear e h
  generalize Vd.stepS (okS m.evidence.f l n) O ch = O' at *
  refine enG Tryz.func54 Tryz.ntmps54 [] 4 rfl ?_
  try (refine wkg hcl ?_; try refine sM fun K hK => ?_)
  refine zA ⟨_, evl, fun _ => ?_, fun hb => absurd (yMa hb) (by simp)⟩
  try (first | refine wkM hK hcl ?_ | refine wkg hcl ?_)
  try clear hK K
  try refine sM fun K hK => ?_
  refine xV [0, 1, 2, 3] [0] htk rfl rfl rfl ⟨_, rfl, _, rfl, _, evl, obl, by decide, by decide, ⟨rfl, rfl, rfl, rfl, trivial⟩, ⟨rfl, trivial⟩, yHd ⟨kG _, yI7⟩, _, rfl, zEt m O' l n, rfl, [zNe O'], rfl, ?_⟩
  refine zF (hK _ ?_); clear hK K
  try (first | refine wkM hK trivial ?_ | refine wkg trivial ?_)
  try clear hK K
  try refine sM fun K hK => ?_
  refine yE (by simp) ⟨_, _, _, evl, obq, jB.bel rfl obb, by simp, rfl, rfl, obb, zWp _⟩
 | k + 1, L, ch, O, hc, hL, h => by
  have ih := zIw m l n k
  have hm := zQ.free m
  have hfl : (lA 4 zO.av l).free := zE (fun y => zO.free y) _
  have hfc : (lA 2 zB.av ch).free := zE (fun y => zB.free y) _
  have hfL : (lA 2 zB.av L).free := zE (fun y => zB.free y) _
  have eU : Vd.choose L (k + 1) = upI L k L.length := zFs L k
  refine enG Tryz.func54 Tryz.ntmps54 [] 4 rfl ?_
  try (refine wg ?_; try refine sM fun K hK => ?_)
  refine zA ⟨_, evl, fun hb => absurd (yLv hb) (by omega), fun _ => ?_⟩
  try (refine wg ?_; try refine sM fun K hK => ?_)
  refine zJ (fun i : Nat => ⟨41, 4 + 64 * 1, [(0, true, lA 2 zB.av L), (1, true, .raw (.int .i64 (k + 1))), (2, true, lA 2 zB.av ch), (3, true, yAp), (16, true, lA 2 zB.av L), (17, true, .raw (.int .i64 L.length)), (18, true, .raw (.int .i64 i))],
    zEt m (Vd.pick (okS m.evidence.f l n) ((upI L k i).map (ch ++ ·)) O) l n, [zNe (Vd.pick (okS m.evidence.f l n) ((upI L k i).map (ch ++ ·)) O)], ((0, []), [], true)⟩)
   (fun i => i ≤ L.length) (fun i => L.length - i) 0 ?_ (by omega) ?_
  ·rw [show (upI L k 0).map (ch ++ ·) = [] from rfl, show Vd.pick (okS m.evidence.f l n) [] O = O from rfl]
   exact wkZ
  ·intro i hi
   rcases yIq i L.length with hlt | hge
   ·have hF := ih (L.drop (i + 1)) (ch ++ [L.getD i default]) (Vd.pick (okS m.evidence.f l n) ((upI L k i).map (ch ++ ·)) O) (by rw [yJ2]; simp; omega) (by rw [yKz]; omega) ⟨h.poss, fun s hs => ?_, ?_⟩
    ·have hst : Vd.pick (okS m.evidence.f l n) ((upI L k (i + 1)).map (ch ++ ·)) O = Vd.pick (okS m.evidence.f l n) ((Vd.choose (L.drop (i + 1)) k).map ((ch ++ [L.getD i default]) ++ ·)) (Vd.pick (okS m.evidence.f l n) ((upI L k i).map (ch ++ ·)) O) := by
      rw [zHh, yLh, Vd.pick_app, List.map_map]
      congr 2
      funext t
      simp
     have hnx : ∀ (i2 : Nat), i2 = i + 1 → Vd.pick (okS m.evidence.f l n) ((upI L k i2).map (ch ++ ·)) O = Vd.pick (okS m.evidence.f l n) ((Vd.choose (L.drop (i + 1)) k).map ((ch ++ [L.getD i default]) ++ ·)) (Vd.pick (okS m.evidence.f l n) ((upI L k i).map (ch ++ ·)) O) := fun i2 e => e ▸ hst
     clear hst ih h
     generalize Vd.pick (okS m.evidence.f l n) ((Vd.choose (L.drop (i + 1)) k).map ((ch ++ [L.getD i default]) ++ ·)) (Vd.pick (okS m.evidence.f l n) ((upI L k i).map (ch ++ ·)) O) = O2 at *
     generalize Vd.pick (okS m.evidence.f l n) ((upI L k i).map (ch ++ ·)) O = O1 at *
     try (refine wg ?_; try refine sM fun K hK => ?_)
     refine zA ⟨_, evl, fun _ => ?_, fun hb => absurd (yMa hb) (by omega)⟩
     repeat (refine stG ?_)
     refine zD (fun K hK => ?_)
     iterate 6 (refine stG ?_)
     refine zX 4 obf ⟨_, evl, _, evl, ?_⟩
     refine zF (hK _ ?_); clear hK K
     repeat (refine stG ?_)
     refine xW true (by kernel_rfl) (by kernel_rfl) (fun K hK => ?_)
     repeat
      first
       | (refine zF (hK _ ?_); clear hK K)
       | refine stG ?_
       | (refine zS 1 rfl ?_; refine zG ?_)
       | (refine z7 ?_; first | (refine zK (hK _ ?_); clear hK K) | (refine zT rfl ⟨_, evl, fun nb' => ?_⟩))
       | refine zD (fun K hK => ?_)
       | (refine xD ?_; first | (refine zC false rfl (by kernel_rfl) (by kernel_rfl) (fun K hK => ?_)) | (refine zC true rfl (by kernel_rfl) (by kernel_rfl) (fun K hK => ?_)))
     refine jF yQ rfl rfl ⟨_, evl, _, _, _, evl, (by exact fun _ => ⟨by simp, ⟨trivial, Nat.one_pos⟩, ⟨rfl, rfl, Nat.zero_lt_two, rfl⟩, (show ch.length + 1 ≤ 9223372036854775807 by omega), (show (ch.length + 1) * 16 ≤ 140737488355328 by omega)⟩), ?_⟩
     repeat
      first
       | (refine zF (hK _ ?_); clear hK K)
       | refine stG ?_
       | (refine zS 1 rfl ?_; refine zG ?_)
       | (refine z7 ?_; first | (refine zK (hK _ ?_); clear hK K) | (refine zT rfl ⟨_, evl, fun nb' => ?_⟩))
       | refine zD (fun K hK => ?_)
       | (refine xD ?_; first | (refine zC false rfl (by kernel_rfl) (by kernel_rfl) (fun K hK => ?_)) | (refine zC true rfl (by kernel_rfl) (by kernel_rfl) (fun K hK => ?_)))
     refine zRk [0, 1, 2, 3] [0] evl hF rfl rfl ⟨_, rfl, _, rfl, _, _, evl, (by exact ⟨Sim.lstE (show L.length - ((i : Int) + 1).toNat = (L.drop (i + 1)).length by rw [yKz]; omega) fun j hj => yBn L i j, Sim.of_eq (show AV.raw (.int .i64 ((k : Int) + 1 - 1)) = .raw (.int .i64 k) by congr 2; omega), Sim.lstE (show ch.length + 1 = (ch ++ [L.getD i default]).length by simp) fun j hj => jM rfl hj rfl, Sim.refl _, trivial⟩), obl, by decide, by decide, ⟨rfl, rfl, rfl, rfl, trivial⟩, ⟨rfl, trivial⟩, yHd ⟨kG _, trivial, kG _, ⟨trivial, yI7⟩, trivial⟩, .tup [], rfl, zEt m O2 l n, rfl, [zNe O2], rfl, ?_⟩
     refine zAa rfl (zBc _ _) (fun h => by cases h) ?_
     refine zK (hK _ ?_); clear hK K
     try (first | refine wkM hK trivial ?_ | refine wkg trivial ?_)
     try clear hK K
     try refine sM fun K hK => ?_
     refine ⟨i + 1, by omega, by omega, ?_⟩
     rw [hnx (i + 1) rfl]
     exact wkZ
    ·rcases zNo _ _ s hs with hs | hs
     ·exact h.out s hs
     ·obtain ⟨t, ht, rfl⟩ := yKb.1 hs
      rw [yJ2, zXo L k i ht]
      omega
    ·have h1 := zN6 (ok := okS m.evidence.f l n) ((upI L k i).map (ch ++ ·)) O
     have h2 := h.len
     have h3 := yAf L k (show i + 1 ≤ L.length from hlt)
     rw [eU] at h2
     rw [zHh, yJ2] at h3
     simp only [yKc] at h1 h3
     omega
   ·obtain rfl : i = L.length := by omega
    rw [← eU]
    clear ih h eU
    generalize Vd.pick (okS m.evidence.f l n) ((Vd.choose L (k + 1)).map (ch ++ ·)) O = O' at *
    try (refine wg ?_; try refine sM fun K hK => ?_)
    refine zA ⟨_, evl, fun hb => absurd (yLv hb) (by omega), fun _ => ?_⟩
    try (refine wg ?_; try refine sM fun K hK => ?_)
    refine yE (by simp) ⟨_, _, _, evl, obq, jB.bel rfl obb, by simp, rfl, rfl, obb, zWp _⟩
end Go.Proofs.YtchpbdecipcelaaGreatDoor
