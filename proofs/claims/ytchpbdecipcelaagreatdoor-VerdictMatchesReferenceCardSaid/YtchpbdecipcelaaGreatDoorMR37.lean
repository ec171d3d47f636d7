import Derived.Test.YtchpbdecipcelaaGreatDoorMR01
import Derived.Test.YtchpbdecipcelaaGreatDoorMR36
namespace Go.Proofs.YtchpbdecipcelaaGreatDoor
set_option linter.unusedVariables false
set_option linter.unusedSimpArgs false
set_option maxHeartbeats 4000000
set_option maxRecDepth 100000
open Go.RowKit
theorem yBn (l : List zB) (hl : l.length ≤ 1000000000000) : FnA Tryz.prog 103 [lA 2 zB.av l] (lA 2 zB.av l) := by
 have hfr : (lA 2 zB.av l).free := zC (fun y => zB.free y) _
 refine en Tryz.func103 Tryz.ntmps103 [.tmp 2] rfl ?_
 repeat (refine stG ?_)
 refine zE (fun K hK => ?_)
 iterate 1 (refine stG ?_)
 refine zG (hK _ ?_); clear hK K
 repeat (refine stG ?_)
 refine zE (fun K hK => ?_)
 iterate 1 (refine stG ?_)
 refine zQl yH rfl rfl rfl rfl ⟨_, _, _, evl, evl, ⟨_, _, _, _, _, evl⟩, fun b hnil => ⟨_, evl, ?_⟩⟩
 refine zG (hK _ ?_); clear hK K
 try (first | refine wkN hK trivial ?_ | refine wkR trivial ?_)
 try clear hK K
 try refine sM fun K hK => ?_
 refine zA ⟨_, evl, fun hb => ?_, fun hb => ?_⟩
 ·have hn := hnil hb
  obtain rfl := yO9.1 hn
  try (refine wkR trivial ?_; try refine sM fun K hK => ?_)
  refine rt ?_
  exact (Sim.nil rfl).s
 ·try (refine wkR trivial ?_; try refine sM fun K hK => ?_)
  refine rt ?_
  exact z5.row rfl rfl rfl rfl fun i hi => show vX 0 (z7 2 []) (els zB.av l) i = _ by rw [y6 (yKo i)]; rfl
theorem jV {α : Type} [Inhabited α] : ∀ (l : List α) (n : Nat), Vd.choose l (n + 1) = (List.range l.length).flatMap fun i => (Vd.choose (l.drop (i + 1)) n).map (l.getD i default :: ·)
 | [], n => rfl
 | x :: l, n => by
  rw [Vd.choose, jV l n, yL2, List.range_succ_eq_map, yNa, List.flatMap_map]
  rfl
def upI (l : List zB) (n i : Nat) : List (List zB) := (List.range i).flatMap fun j => (Vd.choose (l.drop (j + 1)) n).map (l.getD j default :: ·)
theorem zEf (l : List zB) (n i : Nat) : upI l n (i + 1) = upI l n i ++ (Vd.choose (l.drop (i + 1)) n).map (l.getD i default :: ·) := by
 unfold upI
 rw [yNf, yNg]
 simp
theorem zYy (l : List zB) (n : Nat) {i j : Nat} (h : i ≤ j) : (upI l n i).length ≤ (upI l n j).length := by
 induction j with
 | zero => rw [Nat.le_zero.1 h]; exact yKq _
 | succ j ih =>
  rcases yKt i (j + 1) with hlt | hge
  ·rw [zEf, yL5]
   have := ih (by omega)
   omega
  ·rw [show i = j + 1 by omega]; exact yKq _
theorem zZn (l : List zB) (n i : Nat) {s : List zB} (h : s ∈ upI l n i) : s.length = n + 1 := by
 unfold upI at h
 rw [yOb] at h
 obtain ⟨j, _, hs⟩ := h
 obtain ⟨t, ht, rfl⟩ := yMf.1 hs
 rw [yL2, ((Vd.choose_mem _ _ _).1 ht).2]
theorem zZf (L : List zB) (i j : Nat) : [AV.raw (.int .i64 (L.getD (((i : Int) + 1).toNat + j) default).kind), .raw (.int .i64 (L.getD (((i : Int) + 1).toNat + j) default).id)] = els zB.av (L.drop (i + 1)) j := by
 unfold els
 rw [yLp (l := List.drop _ _), yKm, show ((i : Int) + 1).toNat = i + 1 from by omega, yLp]
 rfl
abbrev yCz : AV := .fn (.func 55) [] [.box 0 0, .box 1 0, .box 2 0, .box 3 0]
theorem yJe {m : zL} {O O' : List (List zB)} {l : List zH} {n : Nat} {args : List AV} (ha : AV.subL 4 1 args) :
  (∀ cs ∈ zF9 m O l n, AV.subL 4 1 cs) ∧ (∀ r ∈ [zIi O], ∀ q, q < r.n → AV.subL 4 1 (r.el q)) ∧ AV.subL 4 1 args ∧ 4 ≤ (zF9 m O' l n).length ∧ 1 ≤ [zIi O'].length := by
 refine ⟨fun cs hc => ?_, fun r hr q _ => ?_, ha, yKq _, yKq _⟩
 ·simp only [yLf, yMo, yMv] at hc
  rcases hc with rfl | rfl | rfl | rfl
  ·exact AV.subL_free _ (zL.free m)
  ·exact ⟨yOh, trivial⟩
  ·exact ⟨AV.sub_free _ (zC (fun y => zH.free y) _), trivial⟩
  ·exact ⟨trivial, trivial⟩
 ·simp only [yLf, yMo, yMv] at hr
  subst hr
  exact AV.subL_free _ ⟨zC (fun z => zB.free z) _, trivial⟩
theorem yK8 : AV.subL 4 1 [.box 0 0, .box 1 0, .box 2 0, .box 3 0] := ⟨show 0 < 4 by decide, show 1 < 4 by decide, show 2 < 4 by decide, show 3 < 4 by decide, trivial⟩
theorem kO {a b : Nat} (l : List zB) : AV.sub a b (lA 2 zB.av l) := AV.sub_free _ (zC (fun z => zB.free z) _)
theorem zSy (ib ir : List Nat) {P : Program} {ops : Array Oper} {rest : List Oper} {K : ASt → Prop} {nt nb : Nat} {sl : List (Nat × (Bool × AV))} {bx : List (List AV)} {rw : List yD} {ys : (Nat × List (List AV)) × List (List AV) × Bool} {o : Oper} {d : Nat} {f : FuncId} {args : List AV} {sub sub' : List (List AV)} {rsub rsub' : List yD} {r : AV}
  (hgd : xL ops ⟨nt, nb, sl, bx, rw, ys⟩ o = some true) (F : FnG P f args sub rsub r sub' rsub') (hd : o.dst = some d) (hn : Nat.blt d nt = true)
  (h : ∃ m, bx.length = m ∧ ∃ n, rw.length = n ∧ ∃ cs args0, jW ⟨nt, nb, sl, bx, rw, ys⟩ o.op = some (cs, f, args0) ∧ jC args0 (AV.renL (idx ib m) (idx ir n) args) ∧ (∀ c ∈ cs, c = true) ∧ ib.Nodup ∧ ir.Nodup ∧ zCe bx (AV.renL (idx ib m) (idx ir n)) ib sub ∧ zCe rw (yD.ren (idx ib m) (idx ir n)) ir rsub ∧
   ((∀ cs ∈ sub, AV.subL ib.length ir.length cs) ∧ (∀ r ∈ rsub, ∀ q, q < r.n → AV.subL ib.length ir.length (r.el q)) ∧ AV.subL ib.length ir.length args ∧ ib.length ≤ sub'.length ∧ ir.length ≤ rsub'.length) ∧
   ∃ r1, r.ren (idx ib m) (idx ir n) = r1 ∧ ∃ bx1, wI bx ib (sub'.map (AV.renL (idx ib m) (idx ir n))) = bx1 ∧ ∃ rw1, wI rw ir (rsub'.map (yD.ren (idx ib m) (idx ir n))) = rw1 ∧
   xK P ops rest K ⟨nt, nb, (d, (true, r1)) :: sl, bx1, rw1, ys⟩) : xK P ops (o :: rest) K ⟨nt, nb, sl, bx, rw, ys⟩ := by
 obtain ⟨m, rfl, n, rfl, cs, args0, h1, hsim, h2, h3, h4, h5, h6, ⟨h7, h8, h9, h10, h11⟩, r1, rfl, bx1, rfl, rw1, rfl, h14⟩ := h
 intro C G a w Q hs hQ
 have hw := y7 hgd (G := G) (w := w) (a := a) (fun t _ => hs.slot t)
 have hdl : d < nt := by simpa [yM6] using hn
 unfold wpListIn
 rw [hw]
 simp only [if_true]
 have F' := F.frame ib ir (zG0 h3 h4 h5 h6 h7 h8) h9 h10 h11
 obtain ⟨vs, g1, g2⟩ := qR (P := P) (a := a) h1 (fun y hy => yU fun t ht => hs.slot t) h2 F'.ok
 refine zZ (fun c hc => by rw [hc] at h1; simp [jW] at h1) ?_
 rw [g2, Oper.uponIn_enter]
 refine ⟨fun h => by simp [fen] at h, wT ?_⟩
 refine (F'.calls G w vs hs.tabs hs.tabs_own hs.mem (hsim.rel g1)).mono ?_
 rintro e w' ⟨v, G', rfl, hout, hle, hfr, hB, hR', hm1, hv⟩
 rw [hd]
 exact h14 C G' _ w' Q ((hs.called hout hle hfr hB hR' hm1).put hdl (fun _ => hv) (fun h => by cases h)) hQ
structure yEd (l : List zH) (n : Nat) (O : List (List zB)) (k : Nat) (X : List (List zB)) : Prop where
 poss : ∀ s : List zB, s.length ≤ 1000 → FnA Tryz.prog 49 [lA 4 zH.av l, .raw (.int .i64 n), lA 2 zB.av s] (.raw (.bool (zBe l n s)))
 out : ∀ s ∈ O, s.length ≤ 1000
 len : O.length + X.length ≤ 100000000000
theorem zEi {ok : List zB → Bool} (X O : List (List zB)) : (Vd.pick ok X O).length ≤ O.length + X.length := by
 induction X generalizing O with
 | nil => simp [Vd.pick]
 | cons s X ih =>
  have := ih (Vd.stepS ok O s)
  have h2 : (Vd.stepS ok O s).length ≤ O.length + 1 := by
   unfold Vd.stepS
   split <;> simp
  rw [Vd.pick, yL4, ← Vd.pick, yL2]
  omega
theorem zEn {ok : List zB → Bool} (X O : List (List zB)) : ∀ s ∈ Vd.pick ok X O, s ∈ O ∨ s ∈ X := by
 induction X generalizing O with
 | nil => exact fun s hs => .inl hs
 | cons x X ih =>
  intro s hs
  rw [Vd.pick, yL4, ← Vd.pick] at hs
  rcases ih _ s hs with h | h
  ·unfold Vd.stepS at h
   split at h
   ·rcases yMa.1 h with h | h
    ·exact .inl h
    ·exact .inr (by rw [yM8.1 h]; simp)
   ·exact .inl h
  ·exact .inr (by simp [h])
theorem zJp (m : zL) (l : List zH) (n : Nat) : ∀ (k : Nat) (L ch : List zB) (O : List (List zB)), ch.length + k ≤ 1000 → L.length ≤ 1000000000000 → yEd l n O k (Vd.choose L k) →
  FnG Tryz.prog 54 [lA 2 zB.av L, .raw (.int .i64 k), lA 2 zB.av ch, yCz] (zF9 m O l n) [zIi O] (.tup []) (zF9 m (Vd.pick (okS m.evidence.f l n) ((Vd.choose L k).map (ch ++ ·)) O) l n) [zIi (Vd.pick (okS m.evidence.f l n) ((Vd.choose L k).map (ch ++ ·)) O)]
 | 0, L, ch, O, hc, hL, h => by
  have hcl := yBn ch (by omega)
  have htk := yCy m O l n ch (by omega) (fun s hs => by have := h.out s hs; omega) (by have := h.len; omega) (h.poss ch (by omega))
  have hm := zL.free m
  have hfl : (lA 4 zH.av l).free := zC (fun y => zH.free y) _
  have hfc : (lA 2 zB.av ch).free := zC (fun y => zB.free y) _
  have e : Vd.pick (okS m.evidence.f l n) ((Vd.choose L 0).map (ch ++ ·)) O = Vd.stepS (okS m.evidence.f l n) O ch := by
   cases L <;> simp [Vd.choose, Vd.pick]
  rw [e]
  clear e h
  generalize Vd.stepS (okS m.evidence.f l n) O ch = O' at *
  refine enG Tryz.func54 Tryz.ntmps54 [] 4 rfl ?_
  try (refine wkg hcl ?_; try refine sM fun K hK => ?_)
  refine zA ⟨_, evl, fun _ => ?_, fun hb => absurd (yOc hb) (by simp)⟩
  try (first | refine wkM hK hcl ?_ | refine wkg hcl ?_)
  try clear hK K
  try refine sM fun K hK => ?_
  refine xW [0, 1, 2, 3] [0] htk rfl rfl rfl ⟨_, rfl, _, rfl, _, evl, obl, by decide, by decide, ⟨rfl, rfl, rfl, rfl, trivial⟩, ⟨rfl, trivial⟩, yJe ⟨kO _, yK8⟩, _, rfl, zF9 m O' l n, rfl, [zIi O'], rfl, ?_⟩
  refine zG (hK _ ?_); clear hK K
  try (first | refine wkM hK trivial ?_ | refine wkg trivial ?_)
  try clear hK K
  try refine sM fun K hK => ?_
  refine yG (by simp) ⟨_, _, _, evl, obq, jD.bel rfl obb, by simp, rfl, rfl, obb, zYl _⟩
 | k + 1, L, ch, O, hc, hL, h => by
  have ih := zJp m l n k
  have hm := zL.free m
  have hfl : (lA 4 zH.av l).free := zC (fun y => zH.free y) _
  have hfc : (lA 2 zB.av ch).free := zC (fun y => zB.free y) _
  have hfL : (lA 2 zB.av L).free := zC (fun y => zB.free y) _
  have eU : Vd.choose L (k + 1) = upI L k L.length := jV L k
  refine enG Tryz.func54 Tryz.ntmps54 [] 4 rfl ?_
  try (refine wg ?_; try refine sM fun K hK => ?_)
  refine zA ⟨_, evl, fun hb => absurd (yNw hb) (by omega), fun _ => ?_⟩
  try (refine wg ?_; try refine sM fun K hK => ?_)
  refine zF (fun i : Nat => ⟨41, 4 + 64 * 1, [(0, true, lA 2 zB.av L), (1, true, .raw (.int .i64 (k + 1))), (2, true, lA 2 zB.av ch), (3, true, yCz), (16, true, lA 2 zB.av L), (17, true, .raw (.int .i64 L.length)), (18, true, .raw (.int .i64 i))],
    zF9 m (Vd.pick (okS m.evidence.f l n) ((upI L k i).map (ch ++ ·)) O) l n, [zIi (Vd.pick (okS m.evidence.f l n) ((upI L k i).map (ch ++ ·)) O)], ((0, []), [], true)⟩)
   (fun i => i ≤ L.length) (fun i => L.length - i) 0 ?_ (by omega) ?_
  ·rw [show (upI L k 0).map (ch ++ ·) = [] from rfl, show Vd.pick (okS m.evidence.f l n) [] O = O from rfl]
   exact wkZ
  ·intro i hi
   rcases yKt i L.length with hlt | hge
   ·have hF := ih (L.drop (i + 1)) (ch ++ [L.getD i default]) (Vd.pick (okS m.evidence.f l n) ((upI L k i).map (ch ++ ·)) O) (by rw [yL5]; simp; omega) (by rw [yN4]; omega) ⟨h.poss, fun s hs => ?_, ?_⟩
    ·have hst : Vd.pick (okS m.evidence.f l n) ((upI L k (i + 1)).map (ch ++ ·)) O = Vd.pick (okS m.evidence.f l n) ((Vd.choose (L.drop (i + 1)) k).map ((ch ++ [L.getD i default]) ++ ·)) (Vd.pick (okS m.evidence.f l n) ((upI L k i).map (ch ++ ·)) O) := by
      rw [zEf, yNk, Vd.pick_app, List.map_map]
      congr 2
      funext t
      simp
     have hnx : ∀ (i2 : Nat), i2 = i + 1 → Vd.pick (okS m.evidence.f l n) ((upI L k i2).map (ch ++ ·)) O = Vd.pick (okS m.evidence.f l n) ((Vd.choose (L.drop (i + 1)) k).map ((ch ++ [L.getD i default]) ++ ·)) (Vd.pick (okS m.evidence.f l n) ((upI L k i).map (ch ++ ·)) O) := fun i2 e => e ▸ hst
     clear hst ih h
     generalize Vd.pick (okS m.evidence.f l n) ((Vd.choose (L.drop (i + 1)) k).map ((ch ++ [L.getD i default]) ++ ·)) (Vd.pick (okS m.evidence.f l n) ((upI L k i).map (ch ++ ·)) O) = O2 at *
     generalize Vd.pick (okS m.evidence.f l n) ((upI L k i).map (ch ++ ·)) O = O1 at *
     try (refine wg ?_; try refine sM fun K hK => ?_)
     refine zA ⟨_, evl, fun _ => ?_, fun hb => absurd (yOc hb) (by omega)⟩
     repeat (refine stG ?_)
     refine zE (fun K hK => ?_)
     iterate 6 (refine stG ?_)
     refine z0 4 obf ⟨_, evl, _, evl, ?_⟩
     refine zG (hK _ ?_); clear hK K
     repeat (refine stG ?_)
     refine kJ true (by kernel_rfl) (by kernel_rfl) (fun K hK => ?_)
     repeat
      first
       | (refine zG (hK _ ?_); clear hK K)
       | refine stG ?_
       | (refine zW 1 rfl ?_; refine zJ ?_)
       | (refine yB ?_; first | (refine zP (hK _ ?_); clear hK K) | (refine zX rfl ⟨_, evl, fun nb' => ?_⟩))
       | refine zE (fun K hK => ?_)
       | (refine yZ ?_; first | (refine zD false rfl (by kernel_rfl) (by kernel_rfl) (fun K hK => ?_)) | (refine zD true rfl (by kernel_rfl) (by kernel_rfl) (fun K hK => ?_)))
     refine qK yH rfl rfl ⟨_, evl, _, _, _, evl, (by exact fun _ => ⟨by simp, ⟨trivial, Nat.one_pos⟩, ⟨rfl, rfl, Nat.zero_lt_two, rfl⟩, (show ch.length + 1 ≤ 9223372036854775807 by omega), (show (ch.length + 1) * 16 ≤ 140737488355328 by omega)⟩), ?_⟩
     repeat
      first
       | (refine zG (hK _ ?_); clear hK K)
       | refine stG ?_
       | (refine zW 1 rfl ?_; refine zJ ?_)
       | (refine yB ?_; first | (refine zP (hK _ ?_); clear hK K) | (refine zX rfl ⟨_, evl, fun nb' => ?_⟩))
       | refine zE (fun K hK => ?_)
       | (refine yZ ?_; first | (refine zD false rfl (by kernel_rfl) (by kernel_rfl) (fun K hK => ?_)) | (refine zD true rfl (by kernel_rfl) (by kernel_rfl) (fun K hK => ?_)))
     refine zSy [0, 1, 2, 3] [0] evl hF rfl rfl ⟨_, rfl, _, rfl, _, _, evl, (by exact ⟨Sim.lstE (show L.length - ((i : Int) + 1).toNat = (L.drop (i + 1)).length by rw [yN4]; omega) fun j hj => zZf L i j, Sim.of_eq (show AV.raw (.int .i64 ((k : Int) + 1 - 1)) = .raw (.int .i64 k) by congr 2; omega), Sim.lstE (show ch.length + 1 = (ch ++ [L.getD i default]).length by simp) fun j hj => kA rfl hj rfl, Sim.refl _, trivial⟩), obl, by decide, by decide, ⟨rfl, rfl, rfl, rfl, trivial⟩, ⟨rfl, trivial⟩, yJe ⟨kO _, trivial, kO _, ⟨trivial, yK8⟩, trivial⟩, .tup [], rfl, zF9 m O2 l n, rfl, [zIi O2], rfl, ?_⟩
     refine zAm rfl (zFx _ _) (fun h => by cases h) ?_
     refine zP (hK _ ?_); clear hK K
     try (first | refine wkM hK trivial ?_ | refine wkg trivial ?_)
     try clear hK K
     try refine sM fun K hK => ?_
     refine ⟨i + 1, by omega, by omega, ?_⟩
     rw [hnx (i + 1) rfl]
     exact wkZ
    ·rcases zEn _ _ s hs with hs | hs
     ·exact h.out s hs
     ·obtain ⟨t, ht, rfl⟩ := yMf.1 hs
      rw [yL5, zZn L k i ht]
      omega
    ·have h1 := zEi (ok := okS m.evidence.f l n) ((upI L k i).map (ch ++ ·)) O
     have h2 := h.len
     have h3 := zYy L k (show i + 1 ≤ L.length from hlt)
     rw [eU] at h2
     rw [zEf, yL5] at h3
     simp only [yMg] at h1 h3
     omega
   ·obtain rfl : i = L.length := by omega
    rw [← eU]
    clear ih h eU
    generalize Vd.pick (okS m.evidence.f l n) ((Vd.choose L (k + 1)).map (ch ++ ·)) O = O' at *
    try (refine wg ?_; try refine sM fun K hK => ?_)
    refine zA ⟨_, evl, fun hb => absurd (yNw hb) (by omega), fun _ => ?_⟩
    try (refine wg ?_; try refine sM fun K hK => ?_)
    refine yG (by simp) ⟨_, _, _, evl, obq, jD.bel rfl obb, by simp, rfl, rfl, obb, zYl _⟩
end Go.Proofs.YtchpbdecipcelaaGreatDoor
