import Derived.Test.YtchpbdecipcelaaGreatDoorHO01
import Derived.Test.YtchpbdecipcelaaGreatDoorHO40
import Derived.Test.YtchpbdecipcelaaGreatDoorHO41
import Derived.Test.YtchpbdecipcelaaGreatDoorHO42
namespace Go.Proofs.YtchpbdecipcelaaGreatDoor
set_option linter.unusedVariables false
set_option linter.unusedSimpArgs false
set_option maxHeartbeats 4000000
set_option maxRecDepth 100000
open Go.RowKit
theorem zDe {α : Type} : ∀ (l : List α) (k : Nat), (Vd.choose l k).length ≤ l.length ^ k
 | l, 0 => by cases l <;> simp [Vd.choose]
 | [], k + 1 => by simp [Vd.choose]
 | x :: l, k + 1 => by
  have h1 := zDe l k
  have h2 := zDe l (k + 1)
  rw [Vd.choose, yJ2, yKc, yIz, Nat.pow_succ, Nat.mul_succ]
  have h3 : l.length ^ k ≤ (l.length + 1) ^ k := Nat.pow_le_pow_left (Nat.le_succ _) k
  have h4 : l.length ^ k * l.length ≤ (l.length + 1) ^ k * l.length := yJg _ h3
  rw [Nat.pow_succ] at h2
  omega
def zIa : List zB := (List.range 17).map (fun i : Nat => ⟨1, i⟩) ++ (List.range 65).map (fun i : Nat => ⟨2, i⟩) ++ [⟨3, 0⟩]
theorem zTp {p : zB} (h : wU p) : p ∈ zIa := by
 obtain ⟨k, i⟩ := p
 unfold zIa
 simp only [yK6, yKb, yL1, yK4, zB.mk.injEq]
 rcases h with ⟨rfl, h1, h2⟩ | ⟨rfl, h1, h2⟩ | ⟨rfl, rfl⟩
 ·simp only at h1 h2
  exact .inl (.inl ⟨i.toNat, by omega, rfl, by omega⟩)
 ·simp only at h1 h2
  exact .inl (.inr ⟨i.toNat, by omega, rfl, by omega⟩)
 ·exact .inr ⟨rfl, rfl⟩
def qT (l : List zO) : List zB := l.flatMap fun b => b.who
def zIi (l : List zO) : List zB := Vd.insAll ltP (qT l)
theorem zUl (l : List zO) : Vd.compact (kI (qT l)) = zIi l :=
 Vd.compact_eq yA7 (zBx _).2 fun x => (zBx _).1.mem_iff
theorem zWv {l : List zO} {p : zB} : p ∈ zIi l ↔ ∃ b ∈ l, p ∈ b.who := by
 rw [zIi, (Vd.insAll_ok yA7 _).2, qT, yM9]
theorem zHe (l : List zO) : (zIi l).Nodup := Vd.sorted_nodup yA7 (Vd.insAll_ok yA7 _).1
theorem zWw {l : List zO} (h : ∀ b ∈ l, qI b.who) : (zIi l).length ≤ 83 := by
 refine Vd.nodup_len (t := zIa) (zHe l) fun x hx => ?_
 obtain ⟨b, hb, hx⟩ := zWv.1 hx
 exact zTp ((h b hb).2 x hx)
theorem zXm {l : List zO} (h : ∀ b ∈ l, qI b.who) : (qT l).length ≤ 100 * l.length := by
 induction l with
 | nil => simp [qT]
 | cons b l ih =>
  have h1 := (h b (by simp)).1
  have h2 := ih fun b hb => h b (by simp [hb])
  unfold qT at h2 ⊢
  rw [yL7, yJ2, yIz]
  omega
def zAl (m : zQ) (most : Int) : List (List zB) × Int :=
 if (z4 m).2.2 ≠ 0 then ([], (z4 m).2.2)
 else if ¬ (0 ≤ most ∧ most ≤ 3) then ([], 1)
 else if 200 < (Vd.setsOf (okS m.evidence.f (z4 m).1 (z4 m).2.1.toNat) (zIi (z4 m).1) most.toNat).length then ([], 2)
 else (Vd.setsOf (okS m.evidence.f (z4 m).1 (z4 m).2.1.toNat) (zIi (z4 m).1) most.toNat, 0)
def BOk (m : zQ) : Prop := (z4 m).2.2 = 0 → (z4 m).1.length ≤ 1000000 ∧ (1 ≤ (z4 m).2.1 ∧ (z4 m).2.1 ≤ 1000) ∧ ∀ b ∈ (z4 m).1, wK (z4 m).2.1 b
theorem zUv (l : List zO) {k : Nat} (h : k < l.length) : qT (l.take (k + 1)) = qT (l.take k) ++ (l.getD k default).who := by
 unfold qT
 rw [yLq h, yLd, z5 h]
 simp
theorem zS6 (st : ASt) (l : List zB) : AV.oneL st (pcs l) := by
 induction l with
 | nil => trivial
 | cons x l ih => exact ⟨rfl, rfl, ih⟩
theorem zCg (l : List zB) : (List.range l.length).flatMap (els zB.av l) = pcs l := zW9 zB.av l
theorem yCc {W W' : List zB} {zs : List AV} [FreeZ zs] {args : List AV} (ha : AV.subL 1 0 args) : (∀ cs ∈ [pcs W ++ zs], AV.subL 1 0 cs) ∧ (∀ r ∈ ([] : List z9), ∀ q, q < r.n → AV.subL 1 0 (r.el q)) ∧ AV.subL 1 0 args ∧ 1 ≤ [pcs W' ++ zs].length ∧ 0 ≤ ([] : List z9).length := by
 refine ⟨fun cs hc => ?_, fun r hr => (by cases hr), ha, yIn _, yIn _⟩
 simp only [yJb, yKj, yKq] at hc
 subst hc
 exact yAr _ _ _ _
theorem yBt {G : Gh} {w : World} {v : Value} {sz b : Nat} {el : Nat → List AV} (h : AV.rel G w (.bsl sz b 0 0 0) v) : AV.rel G w (.lst sz 0 el) v := by
 obtain ⟨blk, A, h1, h2, h3, h4, h5⟩ := h
 exact ⟨A, 0, h2, h3, h4, fun h => absurd h (Nat.lt_irrefl 0)⟩
instance (Z : List zB) : FreeZ (pcs Z) := ⟨zNq Z⟩
theorem renP (f g : Nat → Nat) (l : List zB) : AV.renL f g (pcs l) = pcs l := by
 induction l with
 | nil => rfl
 | cons x l ih => rw [qN]; simp only [AV.renL, AV.ren, ih]
theorem zVa (f g : Nat → Nat) (l z : List zB) : AV.renL f g (pcs l ++ pcs z) = pcs l ++ pcs z := by rw [← zB5, renP]
theorem zR3 {L : List zB} (hL : L.length ≤ 83) : ∀ i, i ≤ 4 → ((List.range i).flatMap (Vd.choose L)).length ≤ i * 571787
 | 0, _ => by simp
 | i + 1, h => by
  have h1 := zR3 hL i (by omega)
  have h2 := zDe L i
  have h3 : L.length ^ i ≤ 83 ^ i := Nat.pow_le_pow_left hL i
  have h4 : 83 ^ i ≤ 83 ^ 3 := Nat.pow_le_pow_right (by decide) (by omega)
  have h5 : 83 ^ 3 = 571787 := by decide
  rw [yLc, yLd, yJ2]
  simp only [yL7, yMh, yKe]
  omega
theorem yAq {l : List zO} {N : Nat} {ok : List zB → Bool} {L : List zB} {i : Nat} (hp : ∀ s : List zB, s.length ≤ 1000 → FnA Tryz.prog 49 [lA 4 zO.av l, .raw (.int .i64 N), lA 2 zB.av s] (.raw (.bool (zDz l N s)))) (hL : L.length ≤ 83) (hi : i ≤ 3) :
  yC6 l N (Vd.pick ok ((List.range i).flatMap (Vd.choose L)) []) i (Vd.choose L i) := by
 refine ⟨hp, fun s hs => ?_, ?_⟩
 ·rcases zNo _ _ s hs with h | h
  ·cases h
  ·obtain ⟨j, hj, h⟩ := yM9.1 h
   have := ((Vd.choose_mem _ _ _).1 h).2
   have := yL1.1 hj
   omega
 ·have h1 := zN6 (ok := ok) ((List.range i).flatMap (Vd.choose L)) []
  have h2 := zR3 hL i (by omega)
  have h3 := zR3 hL (i + 1) (by omega)
  rw [yLc, yLd, yJ2] at h3
  simp only [yL7, yMh, yKe, yK8] at h1 h3
  omega
theorem zLt (st : ASt) (a : Int) : zV st (.tup [.raw (.slice none 0 0), .raw (.int .i64 a)]) (.tup [lA 1 sC2 [], .raw (.int .i64 a)]) :=
 zV.sims (z6.tup (show z8 _ _ [_, _] [_, _] from ⟨(Sim.nil rfl).s, z6.refl _, trivial⟩)) ⟨fun i h => absurd h (Nat.not_lt_zero _), trivial, trivial⟩
def zEs (l : List zO) (k : Nat) : Option (Nat × List zB) → AV
 | none => .bsl 2 0 0 0 0
 | some (c, _) => .bsl 2 3 0 (qT (l.take k)).length c
def j3 (l : List zO) (k : Nat) : Option (Nat × List zB) → List (List AV)
 | none => []
 | some (_, zs) => [pcs (qT (l.take k)) ++ pcs zs]
def zAq (l : List zO) (k : Nat) : Option (Nat × List zB) → Prop
 | none => qT (l.take k) = []
 | some (c, zs) => (qT (l.take k)).length ≤ c ∧ c ≤ maxLen ∧ zs.length = c - (qT (l.take k)).length
theorem zOy (m : zQ) (h : OkM m) (hB : BOk m) (most : Int) : FnA Tryz.prog 17 [.agg m.av, .raw (.int .i64 most)] (.tup [lA 1 sC2 (zAl m most).1, .raw (.int .i64 (zAl m most).2)]) := by
 have hb := zHc m h
 have hm := zQ.free m
 have hw := yK most 0 3
 unfold zAl
 unfold BOk at hB
 generalize hE : z4 m = E at *
 obtain ⟨l, n, e⟩ := E
 simp only at hb hB ⊢
 have hfl : (lA 4 zO.av l).free := zE (fun y => zO.free y) _
 refine en Tryz.func17 Tryz.ntmps17 [.tmp 4, .tmp 5] rfl ?_
 repeat
  first
   | (refine zF (hK _ ?_); clear hK K)
   | refine stG ?_
   | (refine yH 1 rfl ?_; refine zN rfl rfl ⟨_, evl, _, _, _, evl, yR, ?_⟩; apply Exists.intro; refine ⟨fun hg => ?_, ?_⟩; · first | exact FnA.at_ (hb) rfl rfl | exact FnA.at_s (hb) rfl xB | exact FnA.at_s (hb) rfl xC)
   | (refine zS 1 rfl ?_; refine zP rfl ⟨_, evl, _, _, _, (fun _ _ => w7), yR, ?_⟩; apply Exists.intro; refine ⟨fun hg => ?_, ?_⟩; · first | exact FnA.at_ (hb) rfl rfl | exact FnA.at_s (hb) rfl xB | exact FnA.at_s (hb) rfl xC)
   | (refine zS 1 rfl ?_; refine zG ?_)
   | (refine z7 ?_; first | (refine zK (hK _ ?_); clear hK K) | (refine zT rfl ⟨_, evl, fun nb' => ?_⟩))
   | refine zD (fun K hK => ?_)
   | (refine xD ?_; first | (refine zC false rfl (by kernel_rfl) (by kernel_rfl) (fun K hK => ?_)) | (refine zC true rfl (by kernel_rfl) (by kernel_rfl) (fun K hK => ?_)))
 refine zA ⟨_, evl, fun he => ?_, fun he => ?_⟩
 ·simp only [yJn, yKu] at he
  rw [if_pos he]
  try (refine wg ?_; try refine sM fun K hK => ?_)
  exact zR (by simp) ⟨_, _, _, evl, ob0, zLt _ _⟩
 ·simp only [yKs, yJm] at he
  subst he
  simp only [ne_eq, not_true_eq_false, if_false]
  obtain ⟨hlen, hn, hbs⟩ := hB rfl
  try (refine wkg hw ?_; try refine sM fun K hK => ?_)
  refine zA ⟨_, evl, fun he => ?_, fun he => ?_⟩
  ·rw [if_pos (by simp at he; omega)]
   try (refine wg ?_; try refine sM fun K hK => ?_)
   exact zR (by simp) ⟨_, _, _, evl, ob0, zLt _ _⟩
  ·have hmost : 0 ≤ most ∧ most ≤ 3 := by simpa using he
   rw [if_neg (not_not_intro hmost)]
   repeat (refine stG ?_)
   refine zD (fun K hK => ?_)
   iterate 1 (refine stG ?_)
   refine zF (hK _ ?_); clear hK K
   refine yI (xJ.nilBsl 9 2 0 rfl (by simp)) ?_
   try (refine wg ?_; try refine sM fun K hK => ?_)
   have hcr := fun b hb => (hbs b hb).2.2.2
   have hwl := fun k => yIo (zXm (l := l.take k) fun b hb => hcr b (yKd hb)) (Nat.mul_le_mul_left 100 (show (l.take k).length ≤ 1000000 by rw [yKy]; omega))
   refine zJ (fun p : Nat × Option (Nat × List zB) => ⟨55, 0, [(1, true, .raw (.int .i64 most)), (2, true, .box 0 0), (6, true, .box 1 0), (7, true, .box 2 0), (9, true, zEs l p.1 p.2), (26, true, lA 4 zO.av l), (27, true, .raw (.int .i64 l.length)), (28, true, .raw (.int .i64 p.1))], [m.av, [lA 4 zO.av l], [.raw (.int .i64 n)]] ++ j3 l p.1 p.2, [], ((0, []), [], true)⟩)
    (fun p => p.1 ≤ l.length ∧ zAq l p.1 p.2) (fun p => l.length - p.1) (0, none) ?_ ⟨by simp, rfl⟩ ?_
   ·simp only [zEs, j3, yKe]
    exact wkZ
   ·rintro ⟨k, o⟩ ⟨hk, hp⟩
    simp only at hk hp ⊢
    rcases yIq k l.length with hlt | hge
    ·have hst := zUv l hlt
     have hl0 := hwl k
     have hl1 := hwl (k + 1)
     have hws : (lA 2 zB.av (l.getD k default).who).free := zE (fun y => zB.free y) _
     have hbw : (l.getD k default).who.length ≤ 100 := (hcr _ (zAn hlt)).1
     cases o with
     | none =>
      simp only [zEs, j3, zAq, yKe] at hp ⊢
      try (refine wg ?_; try refine sM fun K hK => ?_)
      refine zA ⟨_, evl, fun _ => ?_, fun hb => absurd (yMa hb) (by omega)⟩
      repeat (refine stG ?_)
      refine zD (fun K hK => ?_)
      iterate 4 (refine stG ?_)
      refine zX 3 obf ⟨_, evl, _, evl, ?_⟩
      refine zF (hK _ ?_); clear hK K
      rw [hp, yJ9] at hst
      repeat (refine stG ?_)
      refine zD (fun K hK => ?_)
      iterate 3 (refine stG ?_)
      generalize (l.getD k default).who = bw at *
      rcases yJe bw.length with h0 | h0
      ·obtain rfl := yM7.1 h0
       refine zGm yQ rfl rfl rfl evl (by simp) (by trivial) (by rfl) (by rfl) (by rfl) (by exact ⟨rfl, rfl, by decide, rfl⟩) ?_
       refine stG ?_
       refine zF (hK _ ?_); clear hK K
       try (first | refine wkM hK trivial ?_ | refine wkg trivial ?_)
       try clear hK K
       try refine sM fun K hK => ?_
       refine ⟨(k + 1, none), ⟨by simp only; omega, by simp only [zAq]; exact hst⟩, by simp only; omega, ?_⟩
       simp only [zEs, j3, yKe]
       exact wkZ
      ·refine zJ1 (cl := m.av) yQ rfl rfl rfl evl (by simp) (by trivial) (by rfl) (by rfl) (by rfl) (by exact ⟨rfl, rfl, by decide, rfl⟩) h0 (by rfl) ?_ (by simp) ⟨?_, ?_⟩ (fun hr => absurd hr (by omega)) ?_
       ·rw [zCg]; exact zS6 _ _
       ·simp only [maxLen]; omega
       ·show (0 + bw.length) * 16 ≤ 140737488355328
        omega
       ·intro _ c' hc1 hc2 bx' bn hbn hb'
        have hbn : bn = 3 := hbn.symm
        subst hbn
        have e2 : [m.av, [lA 4 zO.av l], [.raw (.int .i64 n)], ((m.av.drop 0).take (0 * 2) ++ (List.range bw.length).flatMap (els zB.av bw)) ++ w5 (c' - (0 + bw.length)) [.int .i64 0, .int .i64 0]] = bx' := hb'
        rw [Nat.zero_mul, List.take_zero, yJ9, zCg, yJa, ← hst] at e2
        rw [zBq] at e2
        subst e2
        rw [yJa, ← hst] at hc1 ⊢
        refine stG ?_
        refine zF (hK _ ?_); clear hK K
        try (first | refine wkM hK trivial ?_ | refine wkg trivial ?_)
        try clear hK K
        try refine sM fun K hK => ?_
        refine ⟨(k + 1, some (c', List.replicate (c' - (qT (l.take (k + 1))).length) default)), ⟨by simp only; omega, by simp only [zAq, List.length_replicate]; exact ⟨hc1, hc2, trivial⟩⟩, by simp only; omega, ?_⟩
        simp only [zEs, j3]
        exact wkZ
     | some cz =>
      obtain ⟨c, zs⟩ := cz
      simp only [zEs, j3, zAq] at hp ⊢
      obtain ⟨hc, hcm, hz⟩ := hp
      try (refine wg ?_; try refine sM fun K hK => ?_)
      refine zA ⟨_, evl, fun _ => ?_, fun hb => absurd (yMa hb) (by omega)⟩
      repeat (refine stG ?_)
      refine zD (fun K hK => ?_)
      iterate 4 (refine stG ?_)
      refine zX 4 obf ⟨_, evl, _, evl, ?_⟩
      refine zF (hK _ ?_); clear hK K
      repeat (refine stG ?_)
      refine zD (fun K hK => ?_)
      iterate 3 (refine stG ?_)
      generalize (l.getD k default).who = bw at *
      have hcl : (pcs (qT (l.take k)) ++ pcs zs).length = c * 2 := by rw [yJ2, vN, vN, hz]; omega
      rcases yJe bw.length with h0 | h0
      ·obtain rfl := yM7.1 h0
       rw [yKe] at hst
       refine zGm yQ rfl rfl rfl evl (by simp) (by trivial) (by rfl) (by rfl) (by rfl) (by exact ⟨rfl, rfl, by decide, rfl⟩) ?_
       refine stG ?_
       refine zF (hK _ ?_); clear hK K
       try (first | refine wkM hK trivial ?_ | refine wkg trivial ?_)
       try clear hK K
       try refine sM fun K hK => ?_
       refine ⟨(k + 1, some (c, zs)), ⟨by simp only; omega, by simp only [zAq, hst]; exact ⟨hc, hcm, hz⟩⟩, by simp only; omega, ?_⟩
       simp only [zEs, j3, hst]
       exact wkZ
      ·have hW1 : (qT (l.take (k + 1))).length = (qT (l.take k)).length + bw.length := by rw [hst, yJ2]
       refine zJ1 (cl := pcs (qT (l.take k)) ++ pcs zs) yQ rfl rfl rfl evl (by simp) (by trivial) (by rfl) (by rfl) (by rfl) (by exact ⟨rfl, rfl, by decide, rfl⟩) h0 (by rfl) ?_ (by rw [hcl]; omega) ⟨?_, ?_⟩ ?_ ?_
       ·rw [zCg]; exact zS6 _ _
       ·simp only [maxLen]; omega
       ·show ((qT (l.take k)).length + bw.length) * 16 ≤ 140737488355328
        omega
       ·intro hr bx' hb'
        have e2 : [m.av, [lA 4 zO.av l], [.raw (.int .i64 n)], vG (pcs (qT (l.take k)) ++ pcs zs) (0 + (qT (l.take k)).length * 2) ((List.range bw.length).flatMap (els zB.av bw))] = bx' := hb'
        have e3 : vG (pcs (qT (l.take k)) ++ pcs zs) (0 + (qT (l.take k)).length * 2) (pcs bw) = pcs (qT (l.take (k + 1))) ++ pcs (zs.drop bw.length) := by
         conv => lhs; rw [← yLe bw.length zs, zB5]
         rw [zRx (by rw [vN]; omega) (by rw [vN, vN, yKy, hz]; omega), hst, zB5, yKx]
        rw [zCg, e3] at e2
        clear e3
        subst e2
        rw [← hW1] at hr ⊢
        refine stG ?_
        refine zF (hK _ ?_); clear hK K
        try (first | refine wkM hK trivial ?_ | refine wkg trivial ?_)
        try clear hK K
        try refine sM fun K hK => ?_
        refine ⟨(k + 1, some (c, zs.drop bw.length)), ⟨by simp only; omega, by simp only [zAq, yKz]; exact ⟨hr, hcm, by omega⟩⟩, by simp only; omega, ?_⟩
        simp only [zEs, j3]
        exact wkZ
       ·intro hr c' hc1 hc2 bx' bn hbn hb'
        have hbn : bn = 4 := hbn.symm
        subst hbn
        have e2 : [m.av, [lA 4 zO.av l], [.raw (.int .i64 n)], pcs (qT (l.take k)) ++ pcs zs, (((pcs (qT (l.take k)) ++ pcs zs).drop 0).take ((qT (l.take k)).length * 2) ++ (List.range bw.length).flatMap (els zB.av bw)) ++ w5 (c' - ((qT (l.take k)).length + bw.length)) [.int .i64 0, .int .i64 0]] = bx' := hb'
        rw [List.drop_zero, List.take_left' (vN _), zCg, ← zB5 (qT (l.take k)) bw, ← hst, ← hW1, zBq] at e2
        subst e2
        rw [← hW1] at hc1 ⊢
        refine stG ?_
        refine zF (hK _ ?_); clear hK K
        try (first | refine wkM hK trivial ?_ | refine wkg trivial ?_)
        try clear hK K
        try refine sM fun K hK => ?_
        refine ⟨(k + 1, some (c', List.replicate (c' - (qT (l.take (k + 1))).length) default)), ⟨by simp only; omega, by simp only [zAq, List.length_replicate]; exact ⟨hc1, hc2, trivial⟩⟩, by simp only; omega, ?_⟩
        simp only [zEs, j3]
        refine xJ.dropB (bx1 := [m.av, [lA 4 zO.av l], [.raw (.int .i64 n)]]) (by simp) ?_ ?_
        ·intro cs hcs
         simp only [yJ0, yJ9, yJb, yKj, yKq] at hcs
         rcases hcs with rfl | rfl | rfl | rfl
         ·exact hm
         ·exact ⟨hfl, trivial⟩
         ·exact ⟨trivial, trivial⟩
         ·exact zLo _ _
        ·simp only [yKi, yKj, yKk, yKl, yKn]
         exact ⟨⟨rfl, trivial⟩, ⟨rfl, show 0 < 4 by decide⟩, ⟨rfl, show 1 < 4 by decide⟩, ⟨rfl, show 2 < 4 by decide⟩, ⟨rfl, show 3 < 4 by decide⟩, ⟨rfl, AV.sub_free _ hfl⟩, ⟨rfl, trivial⟩, ⟨rfl, trivial⟩⟩
    ·obtain rfl : k = l.length := by omega
     have hwl0 := hwl l.length
     have hall := zUl l
     rw [yLr] at hwl0
     cases o
     case' none =>
      simp only [zEs, j3, zAq, yKe, yLr] at hp ⊢
      try (refine wg ?_; try refine sM fun K hK => ?_)
      refine zA ⟨_, evl, fun hb => absurd (yLv hb) (by omega), fun _ => ?_⟩
      have hs0 : kI [] = [] := yM7.1 (zBx []).1.length_eq
      have hso := zX0 [] (by simp) 0 m.av
      rw [hs0] at hso
      haveI : FreeZ m.av := ⟨hm⟩
      have hco := zL2 [] (by simp) 0 (yIn _) m.av
      repeat (refine stG ?_)
      refine zD (fun K hK => ?_)
      iterate 1 (refine stG ?_)
      refine xV [0] [] hso rfl rfl rfl ⟨_, rfl, _, rfl, _, evl, obl, by decide, by decide, ⟨rfl, trivial⟩, trivial, yCc (W' := []) ⟨yMf, trivial, trivial⟩, .tup [], rfl, [m.av, [lA 4 zO.av l], [.raw (.int .i64 n)]], rfl, [], rfl, ?_⟩
      refine zF (hK _ ?_); clear hK K
      repeat (refine stG ?_)
      refine zD (fun K hK => ?_)
      iterate 1 (refine stG ?_)
      refine xV [0] [] hco rfl rfl rfl ⟨_, rfl, _, rfl, _, evl, obl, by decide, by decide, ⟨rfl, trivial⟩, trivial, yCc (W' := []) ⟨yMf, trivial⟩, .bsl 2 0 0 0 0, rfl, [m.av, [lA 4 zO.av l], [.raw (.int .i64 n)]], rfl, [], rfl, ?_⟩
      refine stG ?_
      refine zF (hK _ ?_); clear hK K
      repeat (refine stG ?_)
      rw [hp, hs0] at hall
      refine yI (xJ.slot (y := lA 2 zB.av (zIi l)) 9 rfl (fun G w v hm hr => hall ▸ yBt hr)) ?_
      refine yI (st' := ⟨55, 0, [(1, true, .raw (.int .i64 most)), (2, true, .box 0 0), (6, true, .box 1 0), (7, true, .box 2 0), (9, true, lA 2 zB.av (zIi l))], [m.av, [lA 4 zO.av l], [.raw (.int .i64 n)]], [], ((0, []), [], true)⟩) ?_ ?_
      ·exact wkZ
     case' some cz =>
      obtain ⟨c, zs⟩ := cz
      simp only [zEs, j3, zAq, yLr] at hp ⊢
      obtain ⟨hc, hcm, hz⟩ := hp
      try (refine wg ?_; try refine sM fun K hK => ?_)
      refine zA ⟨_, evl, fun hb => absurd (yLv hb) (by omega), fun _ => ?_⟩
      have hsl : (kI (qT l)).length = (qT l).length := (zBx _).1.length_eq
      have hso := zX0 (qT l) (by omega) c (pcs zs)
      have hco := zL2 (kI (qT l)) (by omega) c (by omega) (pcs zs)
      rw [hsl, hall] at hco
      repeat (refine stG ?_)
      refine zD (fun K hK => ?_)
      iterate 1 (refine stG ?_)
      refine xV [3] [] hso rfl rfl rfl ⟨_, rfl, _, rfl, _, evl, obl, by decide, by decide, ⟨by rw [zVa]; rfl, trivial⟩, trivial, yCc (W' := kI (qT l)) ⟨yMf, trivial, trivial⟩, .tup [], rfl, [m.av, [lA 4 zO.av l], [.raw (.int .i64 n)], pcs (kI (qT l)) ++ pcs zs], by simp only [yJo, yKf, zVa]; rfl, [], rfl, ?_⟩
      refine zF (hK _ ?_); clear hK K
      repeat (refine stG ?_)
      refine zD (fun K hK => ?_)
      iterate 1 (refine stG ?_)
      refine xV [3] [] hco rfl rfl rfl ⟨_, rfl, _, rfl, _, evl, obl, by decide, by decide, ⟨by rw [zVa]; rfl, trivial⟩, trivial, yCc (W' := kY (kI (qT l))) ⟨yMf, trivial⟩, .bsl 2 3 0 (zIi l).length c, rfl, [m.av, [lA 4 zO.av l], [.raw (.int .i64 n)], pcs (kY (kI (qT l))) ++ pcs zs], by simp only [yJo, yKf, zVa]; rfl, [], rfl, ?_⟩
      refine stG ?_
      refine zF (hK _ ?_); clear hK K
      refine yI (st' := ⟨55, 0, [(1, true, .raw (.int .i64 most)), (2, true, .box 0 0), (6, true, .box 1 0), (7, true, .box 2 0), (9, true, .bsl 2 3 0 (zIi l).length c)], [m.av, [lA 4 zO.av l], [.raw (.int .i64 n)], pcs (kY (kI (qT l))) ++ pcs zs], [], ((0, []), [], true)⟩) ?_ ?_
      ·exact wkZ
      have hlc : (zIi l).length * 2 ≤ (pcs (kY (kI (qT l))) ++ pcs zs).length := by
       rw [yJ2, vN, kY, yJ2, hall]
       omega
      refine zCy 3 ⟨by simp, ⟨AV.belL_free _ hm, ⟨AV.bel_free _ hfl, trivial⟩, ⟨trivial, trivial⟩, trivial⟩, (fun r hr => by cases hr), ⟨trivial, .inl (by decide), .inl (by decide), .inl (by decide), .inr ⟨by simp, yAs _ _ _, by simpa using hlc⟩, trivial⟩⟩ ⟨_, evl, _, evl, ?_⟩
      refine yI (xJ.slot (y := lA 2 zB.av (zIi l)) 9 rfl (Sim.lstE rfl fun i hi => ?_).s) ?_
      ·have hcp : kY (kI (qT l)) = zIi l ++ List.replicate ((kI (qT l)).length - (zIi l).length) default := by rw [kY, hall]
       rw [hcp, zB5, yKx]
       exact zLs (zIi l) _ i hi
      refine yI (st' := ⟨55, 0, [(1, true, .raw (.int .i64 most)), (2, true, .box 0 0), (6, true, .box 1 0), (7, true, .box 2 0), (9, true, lA 2 zB.av (zIi l))], [m.av, [lA 4 zO.av l], [.raw (.int .i64 n)]], [], ((0, []), [], true)⟩) ?_ ?_
      ·exact wkZ
     all_goals
      clear hb hw hall hwl hwl0
      have hLl := zWw hcr
      have hfL : (lA 2 zB.av (zIi l)).free := zE (fun y => zB.free y) _
      obtain ⟨N, rfl⟩ : ∃ N : Nat, n = N := ⟨n.toNat, by omega⟩
      obtain ⟨mo, rfl⟩ : ∃ mo : Nat, most = mo := ⟨most.toNat, by omega⟩
      have hps := fun s (hs : s.length ≤ 1000) => zGq l (by omega) N (by omega) hbs s (by omega)
      simp only [yJs]
      generalize hL : zIi l = L at *
      repeat (refine stG ?_)
      refine zD (fun K hK => ?_)
      iterate 1 (refine stG ?_)
      refine zF (hK _ ?_); clear hK K
      refine yI (xJ.nilRowV 3 0 32 1 rfl rfl) ?_
      simp only [List.set_cons_succ, List.set_cons_zero, yJ9, yK8]
      try (refine wg ?_; try refine sM fun K hK => ?_)
      refine zJ (fun i : Nat => ⟨55, 0, [(1, true, .raw (.int .i64 mo)), (2, true, .box 0 0), (6, true, .box 1 0), (7, true, .box 2 0), (9, true, lA 2 zB.av L), (12, true, .box 3 0), (42, true, .raw (.int .i64 (mo + 1))), (43, true, .raw (.int .i64 i))],
        [m.av, [lA 4 zO.av l], [.raw (.int .i64 N)], [.row 0 (Vd.pick (okS m.evidence.f l N) ((List.range i).flatMap (Vd.choose L)) []).length]], [zNe (Vd.pick (okS m.evidence.f l N) ((List.range i).flatMap (Vd.choose L)) [])], ((0, []), [], true)⟩)
       (fun i => i ≤ mo + 1) (fun i => mo + 1 - i) 0 ?_ (by omega) ?_
      ·rw [show Vd.pick (okS m.evidence.f l N) ((List.range 0).flatMap (Vd.choose L)) [] = [] from rfl]
       exact wkZ
      ·intro i hi
       rcases yIq i (mo + 1) with hlt | hge
       ·have hF := zIw m l N i L [] (Vd.pick (okS m.evidence.f l N) ((List.range i).flatMap (Vd.choose L)) []) (by simp; omega) (by omega) (yAq hps hLl (by omega))
        have hst : ∀ i2, i2 = i + 1 → Vd.pick (okS m.evidence.f l N) ((List.range i2).flatMap (Vd.choose L)) [] = Vd.pick (okS m.evidence.f l N) ((Vd.choose L i).map ([] ++ ·)) (Vd.pick (okS m.evidence.f l N) ((List.range i).flatMap (Vd.choose L)) []) := fun i2 e => by
         subst e
         rw [yLc, yLd, Vd.pick_app]
         simp
        generalize Vd.pick (okS m.evidence.f l N) ((Vd.choose L i).map ([] ++ ·)) (Vd.pick (okS m.evidence.f l N) ((List.range i).flatMap (Vd.choose L)) []) = O2 at *
        generalize Vd.pick (okS m.evidence.f l N) ((List.range i).flatMap (Vd.choose L)) [] = O1 at *
        try (refine wg ?_; try refine sM fun K hK => ?_)
        refine zA ⟨_, evl, fun _ => ?_, fun hb => absurd (yMa hb) (by omega)⟩
        try (first | refine wkM hK trivial ?_ | refine wkg trivial ?_)
        try clear hK K
        try refine sM fun K hK => ?_
        refine zRk [0, 3, 1, 2] [0] evl hF rfl rfl ⟨_, rfl, _, rfl, _, _, evl, (by exact ⟨Sim.refl _, Sim.refl _, Sim.nil rfl, Sim.refl _, trivial⟩), obl, by decide, by decide, ⟨rfl, rfl, rfl, rfl, trivial⟩, ⟨rfl, trivial⟩, yHd ⟨kG _, trivial, kG _, ⟨trivial, yI7⟩, trivial⟩, .tup [], rfl, [m.av, [lA 4 zO.av l], [.raw (.int .i64 N)], [.row 0 O2.length]], rfl, [zNe O2], rfl, ?_⟩
        refine zF (hK _ ?_); clear hK K
        try (first | refine wkM hK trivial ?_ | refine wkg trivial ?_)
        try clear hK K
        try refine sM fun K hK => ?_
        refine ⟨i + 1, by omega, by omega, ?_⟩
        rw [hst (i + 1) rfl]
        exact wkZ
       ·obtain rfl : i = mo + 1 := by omega
        rw [show Vd.pick (okS m.evidence.f l N) ((List.range (mo + 1)).flatMap (Vd.choose L)) [] = Vd.setsOf (okS m.evidence.f l N) L mo from rfl]
        generalize Vd.setsOf (okS m.evidence.f l N) L mo = O at *
        have hfO : (lA 1 sC2 O).free := zE (fun y => show AV.freeL (sC2 y) from ⟨zE (fun z => zB.free z) _, trivial⟩) _
        try (refine wg ?_; try refine sM fun K hK => ?_)
        refine zA ⟨_, evl, fun hb => absurd (yLv hb) (by omega), fun _ => ?_⟩
        try (refine wg ?_; try refine sM fun K hK => ?_)
        refine zA ⟨_, evl, fun hb => ?_, fun hb => ?_⟩
        ·rw [if_pos (by simp at hb; omega)]
         try (refine wg ?_; try refine sM fun K hK => ?_)
         exact zR (by simp) ⟨_, _, _, evl, ob0, zLt _ _⟩
        ·rw [if_neg (by simp at hb; omega)]
         try (refine wg ?_; try refine sM fun K hK => ?_)
         refine zR (by simp) ⟨_, _, _, evl, ob0, zV.sims ?_ ?_⟩
         ·exact z6.tup ⟨z6.row rfl rfl rfl rfl fun i hi => rfl, z6.refl _, trivial⟩
         ·exact ⟨hfO, trivial, trivial⟩
end Go.Proofs.YtchpbdecipcelaaGreatDoor
