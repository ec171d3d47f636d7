import Derived.Test.YtchpbdecipcelaaGreatDoorMR01
import Derived.Test.YtchpbdecipcelaaGreatDoorMR35
import Derived.Test.YtchpbdecipcelaaGreatDoorMR36
import Derived.Test.YtchpbdecipcelaaGreatDoorMR37
namespace Go.Proofs.YtchpbdecipcelaaGreatDoor
set_option linter.unusedVariables false
set_option linter.unusedSimpArgs false
set_option maxHeartbeats 4000000
set_option maxRecDepth 100000
open Go.RowKit
theorem qH {α : Type} : ∀ (l : List α) (k : Nat), (Vd.choose l k).length ≤ l.length ^ k
 | l, 0 => by cases l <;> simp [Vd.choose]
 | [], k + 1 => by simp [Vd.choose]
 | x :: l, k + 1 => by
  have h1 := qH l k
  have h2 := qH l (k + 1)
  rw [Vd.choose, yL5, yMg, yL2, Nat.pow_succ, Nat.mul_succ]
  have h3 : l.length ^ k ≤ (l.length + 1) ^ k := Nat.pow_le_pow_left (Nat.le_succ _) k
  have h4 : l.length ^ k * l.length ≤ (l.length + 1) ^ k * l.length := yLl _ h3
  rw [Nat.pow_succ] at h2
  omega
def zEt : List zB := (List.range 17).map (fun i : Nat => ⟨1, i⟩) ++ (List.range 65).map (fun i : Nat => ⟨2, i⟩) ++ [⟨3, 0⟩]
theorem zL6 {p : zB} (h : xS p) : p ∈ zEt := by
 obtain ⟨k, i⟩ := p
 unfold zEt
 simp only [yMa, yMf, yN5, yM8, zB.mk.injEq]
 rcases h with ⟨rfl, h1, h2⟩ | ⟨rfl, h1, h2⟩ | ⟨rfl, rfl⟩
 ·simp only at h1 h2
  exact .inl (.inl ⟨i.toNat, by omega, rfl, by omega⟩)
 ·simp only at h1 h2
  exact .inl (.inr ⟨i.toNat, by omega, rfl, by omega⟩)
 ·exact .inr ⟨rfl, rfl⟩
def qU (l : List zH) : List zB := l.flatMap fun b => b.who
def zGo (l : List zH) : List zB := Vd.insAll ltP (qU l)
theorem zWe (l : List zH) : Vd.compact (kP (qU l)) = zGo l :=
 Vd.compact_eq zX9 (zC2 _).2 fun x => (zC2 _).1.mem_iff
theorem zYv {l : List zH} {p : zB} : p ∈ zGo l ↔ ∃ b ∈ l, p ∈ b.who := by
 rw [zGo, (Vd.insAll_ok zX9 _).2, qU, yOb]
theorem zRz (l : List zH) : (zGo l).Nodup := Vd.sorted_nodup zX9 (Vd.insAll_ok zX9 _).1
theorem zPx {l : List zH} (h : ∀ b ∈ l, wJ b.who) : (zGo l).length ≤ 83 := by
 refine Vd.nodup_len (t := zEt) (zRz l) fun x hx => ?_
 obtain ⟨b, hb, hx⟩ := zYv.1 hx
 exact zL6 ((h b hb).2 x hx)
theorem zZk {l : List zH} (h : ∀ b ∈ l, wJ b.who) : (qU l).length ≤ 100 * l.length := by
 induction l with
 | nil => simp [qU]
 | cons b l ih =>
  have h1 := (h b (by simp)).1
  have h2 := ih fun b hb => h b (by simp [hb])
  unfold qU at h2 ⊢
  rw [yNa, yL5, yL2]
  omega
def qA (m : zL) (most : Int) : List (List zB) × Int :=
 if (zT m).2.2 ≠ 0 then ([], (zT m).2.2)
 else if ¬ (0 ≤ most ∧ most ≤ 3) then ([], 1)
 else if 200 < (Vd.setsOf (okS m.evidence.f (zT m).1 (zT m).2.1.toNat) (zGo (zT m).1) most.toNat).length then ([], 2)
 else (Vd.setsOf (okS m.evidence.f (zT m).1 (zT m).2.1.toNat) (zGo (zT m).1) most.toNat, 0)
def BOk (m : zL) : Prop := (zT m).2.2 = 0 → (zT m).1.length ≤ 1000000 ∧ (1 ≤ (zT m).2.1 ∧ (zT m).2.1 ≤ 1000) ∧ ∀ b ∈ (zT m).1, xQ (zT m).2.1 b
theorem zO0 (l : List zH) {k : Nat} (h : k < l.length) : qU (l.take (k + 1)) = qU (l.take k) ++ (l.getD k default).who := by
 unfold qU
 rw [yNs h, yNg, zU h]
 simp
theorem zMo (st : ASt) (l : List zB) : AV.oneL st (pcs l) := by
 induction l with
 | nil => trivial
 | cons x l ih => exact ⟨rfl, rfl, ih⟩
theorem jP (l : List zB) : (List.range l.length).flatMap (els zB.av l) = pcs l := zY3 zB.av l
theorem yEj {W W' : List zB} {zs : List AV} [FreeZ zs] {args : List AV} (ha : AV.subL 1 0 args) : (∀ cs ∈ [pcs W ++ zs], AV.subL 1 0 cs) ∧ (∀ r ∈ ([] : List yD), ∀ q, q < r.n → AV.subL 1 0 (r.el q)) ∧ AV.subL 1 0 args ∧ 1 ≤ [pcs W' ++ zs].length ∧ 0 ≤ ([] : List yD).length := by
 refine ⟨fun cs hc => ?_, fun r hr => (by cases hr), ha, yKq _, yKq _⟩
 simp only [yLf, yMo, yMv] at hc
 subst hc
 exact yD2 _ _ _ _
theorem yE4 {G : Gh} {w : World} {v : Value} {sz b : Nat} {el : Nat → List AV} (h : AV.rel G w (.bsl sz b 0 0 0) v) : AV.rel G w (.lst sz 0 el) v := by
 obtain ⟨blk, A, h1, h2, h3, h4, h5⟩ := h
 exact ⟨A, 0, h2, h3, h4, fun h => absurd h (Nat.lt_irrefl 0)⟩
instance (Z : List zB) : FreeZ (pcs Z) := ⟨zEo Z⟩
theorem renP (f g : Nat → Nat) (l : List zB) : AV.renL f g (pcs l) = pcs l := by
 induction l with
 | nil => rfl
 | cons x l ih => rw [qX]; simp only [AV.renL, AV.ren, ih]
theorem zX3 (f g : Nat → Nat) (l z : List zB) : AV.renL f g (pcs l ++ pcs z) = pcs l ++ pcs z := by rw [← jL, renP]
theorem zO5 {L : List zB} (hL : L.length ≤ 83) : ∀ i, i ≤ 4 → ((List.range i).flatMap (Vd.choose L)).length ≤ i * 571787
 | 0, _ => by simp
 | i + 1, h => by
  have h1 := zO5 hL i (by omega)
  have h2 := qH L i
  have h3 : L.length ^ i ≤ 83 ^ i := Nat.pow_le_pow_left hL i
  have h4 : 83 ^ i ≤ 83 ^ 3 := Nat.pow_le_pow_right (by decide) (by omega)
  have h5 : 83 ^ 3 = 571787 := by decide
  rw [yNf, yNg, yL5]
  simp only [yNa, List.flatMap_nil, yMj]
  omega
theorem yD0 {l : List zH} {N : Nat} {ok : List zB → Bool} {L : List zB} {i : Nat} (hp : ∀ s : List zB, s.length ≤ 1000 → FnA Tryz.prog 49 [lA 4 zH.av l, .raw (.int .i64 N), lA 2 zB.av s] (.raw (.bool (zBe l N s)))) (hL : L.length ≤ 83) (hi : i ≤ 3) :
  yEd l N (Vd.pick ok ((List.range i).flatMap (Vd.choose L)) []) i (Vd.choose L i) := by
 refine ⟨hp, fun s hs => ?_, ?_⟩
 ·rcases zEn _ _ s hs with h | h
  ·cases h
  ·obtain ⟨j, hj, h⟩ := yOb.1 h
   have := ((Vd.choose_mem _ _ _).1 h).2
   have := yN5.1 hj
   omega
 ·have h1 := zEi (ok := ok) ((List.range i).flatMap (Vd.choose L)) []
  have h2 := zO5 hL i (by omega)
  have h3 := zO5 hL (i + 1) (by omega)
  rw [yNf, yNg, yL5] at h3
  simp only [yNa, List.flatMap_nil, yMj, yMc] at h1 h3
  omega
theorem zDh (st : ASt) (a : Int) : zV st (.tup [.raw (.slice none 0 0), .raw (.int .i64 a)]) (.tup [lA 1 sC2 [], .raw (.int .i64 a)]) :=
 zV.sims (z5.tup (show z8 _ _ [_, _] [_, _] from ⟨(Sim.nil rfl).s, z5.refl _, trivial⟩)) ⟨fun i h => absurd h (Nat.not_lt_zero _), trivial, trivial⟩
def zF8 (l : List zH) (k : Nat) : Option (Nat × List zB) → AV
 | none => .bsl 2 0 0 0 0
 | some (c, _) => .bsl 2 3 0 (qU (l.take k)).length c
def j9 (l : List zH) (k : Nat) : Option (Nat × List zB) → List (List AV)
 | none => []
 | some (_, zs) => [pcs (qU (l.take k)) ++ pcs zs]
def zB0 (l : List zH) (k : Nat) : Option (Nat × List zB) → Prop
 | none => qU (l.take k) = []
 | some (c, zs) => (qU (l.take k)).length ≤ c ∧ c ≤ maxLen ∧ zs.length = c - (qU (l.take k)).length
theorem zQ0 (m : zL) (h : OkM m) (hB : BOk m) (most : Int) : FnA Tryz.prog 17 [.agg m.av, .raw (.int .i64 most)] (.tup [lA 1 sC2 (qA m most).1, .raw (.int .i64 (qA m most).2)]) := by
 have hb := zDq m h
 have hm := zL.free m
 have hw := yO most 0 3
 unfold qA
 unfold BOk at hB
 generalize hE : zT m = E at *
 obtain ⟨l, n, e⟩ := E
 simp only at hb hB ⊢
 have hfl : (lA 4 zH.av l).free := zC (fun y => zH.free y) _
 refine en Tryz.func17 Tryz.ntmps17 [.tmp 4, .tmp 5] rfl ?_
 repeat
  first
   | (refine zG (hK _ ?_); clear hK K)
   | refine stG ?_
   | (refine yJ 1 rfl ?_; refine zR rfl rfl ⟨_, evl, _, _, _, evl, yR, ?_⟩; apply Exists.intro; refine ⟨fun hg => ?_, ?_⟩; · first | exact FnA.at_ (hb) rfl rfl | exact FnA.at_s (hb) rfl yV | exact FnA.at_s (hb) rfl yW)
   | (refine zW 1 rfl ?_; refine zS rfl ⟨_, evl, _, _, _, (fun _ _ => vH), yR, ?_⟩; apply Exists.intro; refine ⟨fun hg => ?_, ?_⟩; · first | exact FnA.at_ (hb) rfl rfl | exact FnA.at_s (hb) rfl yV | exact FnA.at_s (hb) rfl yW)
   | (refine zW 1 rfl ?_; refine zJ ?_)
   | (refine yB ?_; first | (refine zP (hK _ ?_); clear hK K) | (refine zX rfl ⟨_, evl, fun nb' => ?_⟩))
   | refine zE (fun K hK => ?_)
   | (refine yZ ?_; first | (refine zD false rfl (by kernel_rfl) (by kernel_rfl) (fun K hK => ?_)) | (refine zD true rfl (by kernel_rfl) (by kernel_rfl) (fun K hK => ?_)))
 refine zA ⟨_, evl, fun he => ?_, fun he => ?_⟩
 ·simp only [yLs, yMz] at he
  rw [if_pos he]
  try (refine wg ?_; try refine sM fun K hK => ?_)
  exact zM (by simp) ⟨_, _, _, evl, ob0, zDh _ _⟩
 ·simp only [yMx, yLr] at he
  subst he
  simp only [ne_eq, yLg, if_false]
  obtain ⟨hlen, hn, hbs⟩ := hB rfl
  try (refine wkg hw ?_; try refine sM fun K hK => ?_)
  refine zA ⟨_, evl, fun he => ?_, fun he => ?_⟩
  ·rw [if_pos (by simp at he; omega)]
   try (refine wg ?_; try refine sM fun K hK => ?_)
   exact zM (by simp) ⟨_, _, _, evl, ob0, zDh _ _⟩
  ·have hmost : 0 ≤ most ∧ most ≤ 3 := by simpa using he
   rw [if_neg (not_not_intro hmost)]
   repeat (refine stG ?_)
   refine zE (fun K hK => ?_)
   iterate 1 (refine stG ?_)
   refine zG (hK _ ?_); clear hK K
   refine yP (xE.nilBsl 9 2 0 rfl (by simp)) ?_
   try (refine wg ?_; try refine sM fun K hK => ?_)
   have hcr := fun b hb => (hbs b hb).2.2.2
   have hwl := fun k => yKr (zZk (l := l.take k) fun b hb => hcr b (yMh hb)) (Nat.mul_le_mul_left 100 (show (l.take k).length ≤ 1000000 by rw [yN3]; omega))
   refine zF (fun p : Nat × Option (Nat × List zB) => ⟨55, 0, [(1, true, .raw (.int .i64 most)), (2, true, .box 0 0), (6, true, .box 1 0), (7, true, .box 2 0), (9, true, zF8 l p.1 p.2), (26, true, lA 4 zH.av l), (27, true, .raw (.int .i64 l.length)), (28, true, .raw (.int .i64 p.1))], [m.av, [lA 4 zH.av l], [.raw (.int .i64 n)]] ++ j9 l p.1 p.2, [], ((0, []), [], true)⟩)
    (fun p => p.1 ≤ l.length ∧ zB0 l p.1 p.2) (fun p => l.length - p.1) (0, none) ?_ ⟨by simp, rfl⟩ ?_
   ·simp only [zF8, j9, yMj]
    exact wkZ
   ·rintro ⟨k, o⟩ ⟨hk, hp⟩
    simp only at hk hp ⊢
    rcases yKt k l.length with hlt | hge
    ·have hst := zO0 l hlt
     have hl0 := hwl k
     have hl1 := hwl (k + 1)
     have hws : (lA 2 zB.av (l.getD k default).who).free := zC (fun y => zB.free y) _
     have hbw : (l.getD k default).who.length ≤ 100 := (hcr _ (w9 hlt)).1
     cases o with
     | none =>
      simp only [zF8, j9, zB0, yMj] at hp ⊢
      try (refine wg ?_; try refine sM fun K hK => ?_)
      refine zA ⟨_, evl, fun _ => ?_, fun hb => absurd (yOc hb) (by omega)⟩
      repeat (refine stG ?_)
      refine zE (fun K hK => ?_)
      iterate 4 (refine stG ?_)
      refine z0 3 obf ⟨_, evl, _, evl, ?_⟩
      refine zG (hK _ ?_); clear hK K
      rw [hp, yLc] at hst
      repeat (refine stG ?_)
      refine zE (fun K hK => ?_)
      iterate 3 (refine stG ?_)
      generalize (l.getD k default).who = bw at *
      rcases yLj bw.length with h0 | h0
      ·obtain rfl := yO9.1 h0
       refine zDa yH rfl rfl rfl evl (by simp) (by trivial) (by rfl) (by rfl) (by rfl) (by exact ⟨rfl, rfl, by decide, rfl⟩) ?_
       refine stG ?_
       refine zG (hK _ ?_); clear hK K
       try (first | refine wkM hK trivial ?_ | refine wkg trivial ?_)
       try clear hK K
       try refine sM fun K hK => ?_
       refine ⟨(k + 1, none), ⟨by simp only; omega, by simp only [zB0]; exact hst⟩, by simp only; omega, ?_⟩
       simp only [zF8, j9, yMj]
       exact wkZ
      ·refine zFd (cl := m.av) yH rfl rfl rfl evl (by simp) (by trivial) (by rfl) (by rfl) (by rfl) (by exact ⟨rfl, rfl, by decide, rfl⟩) h0 (by rfl) ?_ (by simp) ⟨?_, ?_⟩ (fun hr => absurd hr (by omega)) ?_
       ·rw [jP]; exact zMo _ _
       ·simp only [maxLen]; omega
       ·show (0 + bw.length) * 16 ≤ 140737488355328
        omega
       ·intro _ c' hc1 hc2 bx' bn hbn hb'
        have hbn : bn = 3 := hbn.symm
        subst hbn
        have e2 : [m.av, [lA 4 zH.av l], [.raw (.int .i64 n)], ((m.av.drop 0).take (0 * 2) ++ (List.range bw.length).flatMap (els zB.av bw)) ++ vB (c' - (0 + bw.length)) [.int .i64 0, .int .i64 0]] = bx' := hb'
        rw [Nat.zero_mul, yMi, yLc, jP, yLe, ← hst] at e2
        rw [j8] at e2
        subst e2
        rw [yLe, ← hst] at hc1 ⊢
        refine stG ?_
        refine zG (hK _ ?_); clear hK K
        try (first | refine wkM hK trivial ?_ | refine wkg trivial ?_)
        try clear hK K
        try refine sM fun K hK => ?_
        refine ⟨(k + 1, some (c', List.replicate (c' - (qU (l.take (k + 1))).length) default)), ⟨by simp only; omega, by simp only [zB0, List.length_replicate]; exact ⟨hc1, hc2, trivial⟩⟩, by simp only; omega, ?_⟩
        simp only [zF8, j9]
        exact wkZ
     | some cz =>
      obtain ⟨c, zs⟩ := cz
      simp only [zF8, j9, zB0] at hp ⊢
      obtain ⟨hc, hcm, hz⟩ := hp
      try (refine wg ?_; try refine sM fun K hK => ?_)
      refine zA ⟨_, evl, fun _ => ?_, fun hb => absurd (yOc hb) (by omega)⟩
      repeat (refine stG ?_)
      refine zE (fun K hK => ?_)
      iterate 4 (refine stG ?_)
      refine z0 4 obf ⟨_, evl, _, evl, ?_⟩
      refine zG (hK _ ?_); clear hK K
      repeat (refine stG ?_)
      refine zE (fun K hK => ?_)
      iterate 3 (refine stG ?_)
      generalize (l.getD k default).who = bw at *
      have hcl : (pcs (qU (l.take k)) ++ pcs zs).length = c * 2 := by rw [yL5, xP, xP, hz]; omega
      rcases yLj bw.length with h0 | h0
      ·obtain rfl := yO9.1 h0
       rw [yMj] at hst
       refine zDa yH rfl rfl rfl evl (by simp) (by trivial) (by rfl) (by rfl) (by rfl) (by exact ⟨rfl, rfl, by decide, rfl⟩) ?_
       refine stG ?_
       refine zG (hK _ ?_); clear hK K
       try (first | refine wkM hK trivial ?_ | refine wkg trivial ?_)
       try clear hK K
       try refine sM fun K hK => ?_
       refine ⟨(k + 1, some (c, zs)), ⟨by simp only; omega, by simp only [zB0, hst]; exact ⟨hc, hcm, hz⟩⟩, by simp only; omega, ?_⟩
       simp only [zF8, j9, hst]
       exact wkZ
      ·have hW1 : (qU (l.take (k + 1))).length = (qU (l.take k)).length + bw.length := by rw [hst, yL5]
       refine zFd (cl := pcs (qU (l.take k)) ++ pcs zs) yH rfl rfl rfl evl (by simp) (by trivial) (by rfl) (by rfl) (by rfl) (by exact ⟨rfl, rfl, by decide, rfl⟩) h0 (by rfl) ?_ (by rw [hcl]; omega) ⟨?_, ?_⟩ ?_ ?_
       ·rw [jP]; exact zMo _ _
       ·simp only [maxLen]; omega
       ·show ((qU (l.take k)).length + bw.length) * 16 ≤ 140737488355328
        omega
       ·intro hr bx' hb'
        have e2 : [m.av, [lA 4 zH.av l], [.raw (.int .i64 n)], vU (pcs (qU (l.take k)) ++ pcs zs) (0 + (qU (l.take k)).length * 2) ((List.range bw.length).flatMap (els zB.av bw))] = bx' := hb'
        have e3 : vU (pcs (qU (l.take k)) ++ pcs zs) (0 + (qU (l.take k)).length * 2) (pcs bw) = pcs (qU (l.take (k + 1))) ++ pcs (zs.drop bw.length) := by
         conv => lhs; rw [← yNh bw.length zs, jL]
         rw [zMm (by rw [xP]; omega) (by rw [xP, xP, yN3, hz]; omega), hst, jL, yN2]
        rw [jP, e3] at e2
        clear e3
        subst e2
        rw [← hW1] at hr ⊢
        refine stG ?_
        refine zG (hK _ ?_); clear hK K
        try (first | refine wkM hK trivial ?_ | refine wkg trivial ?_)
        try clear hK K
        try refine sM fun K hK => ?_
        refine ⟨(k + 1, some (c, zs.drop bw.length)), ⟨by simp only; omega, by simp only [zB0, yN4]; exact ⟨hr, hcm, by omega⟩⟩, by simp only; omega, ?_⟩
        simp only [zF8, j9]
        exact wkZ
       ·intro hr c' hc1 hc2 bx' bn hbn hb'
        have hbn : bn = 4 := hbn.symm
        subst hbn
        have e2 : [m.av, [lA 4 zH.av l], [.raw (.int .i64 n)], pcs (qU (l.take k)) ++ pcs zs, (((pcs (qU (l.take k)) ++ pcs zs).drop 0).take ((qU (l.take k)).length * 2) ++ (List.range bw.length).flatMap (els zB.av bw)) ++ vB (c' - ((qU (l.take k)).length + bw.length)) [.int .i64 0, .int .i64 0]] = bx' := hb'
        rw [List.drop_zero, List.take_left' (xP _), jP, ← jL (qU (l.take k)) bw, ← hst, ← hW1, j8] at e2
        subst e2
        rw [← hW1] at hc1 ⊢
        refine stG ?_
        refine zG (hK _ ?_); clear hK K
        try (first | refine wkM hK trivial ?_ | refine wkg trivial ?_)
        try clear hK K
        try refine sM fun K hK => ?_
        refine ⟨(k + 1, some (c', List.replicate (c' - (qU (l.take (k + 1))).length) default)), ⟨by simp only; omega, by simp only [zB0, List.length_replicate]; exact ⟨hc1, hc2, trivial⟩⟩, by simp only; omega, ?_⟩
        simp only [zF8, j9]
        refine xE.dropB (bx1 := [m.av, [lA 4 zH.av l], [.raw (.int .i64 n)]]) (by simp) ?_ ?_
        ·intro cs hcs
         simp only [yL3, yLc, yLf, yMo, yMv] at hcs
         rcases hcs with rfl | rfl | rfl | rfl
         ·exact hm
         ·exact ⟨hfl, trivial⟩
         ·exact ⟨trivial, trivial⟩
         ·exact zMl _ _
        ·simp only [yMn, yMo, yMp, yMq, yMs]
         exact ⟨⟨rfl, trivial⟩, ⟨rfl, show 0 < 4 by decide⟩, ⟨rfl, show 1 < 4 by decide⟩, ⟨rfl, show 2 < 4 by decide⟩, ⟨rfl, show 3 < 4 by decide⟩, ⟨rfl, AV.sub_free _ hfl⟩, ⟨rfl, trivial⟩, ⟨rfl, trivial⟩⟩
    ·obtain rfl : k = l.length := by omega
     have hwl0 := hwl l.length
     have hall := zWe l
     rw [yNt] at hwl0
     cases o
     case' none =>
      simp only [zF8, j9, zB0, yMj, yNt] at hp ⊢
      try (refine wg ?_; try refine sM fun K hK => ?_)
      refine zA ⟨_, evl, fun hb => absurd (yNw hb) (by omega), fun _ => ?_⟩
      have hs0 : kP [] = [] := yO9.1 (zC2 []).1.length_eq
      have hso := zZ1 [] (by simp) 0 m.av
      rw [hs0] at hso
      haveI : FreeZ m.av := ⟨hm⟩
      have hco := zLx [] (by simp) 0 (yKq _) m.av
      repeat (refine stG ?_)
      refine zE (fun K hK => ?_)
      iterate 1 (refine stG ?_)
      refine xW [0] [] hso rfl rfl rfl ⟨_, rfl, _, rfl, _, evl, obl, by decide, by decide, ⟨rfl, trivial⟩, trivial, yEj (W' := []) ⟨yOh, trivial, trivial⟩, .tup [], rfl, [m.av, [lA 4 zH.av l], [.raw (.int .i64 n)]], rfl, [], rfl, ?_⟩
      refine zG (hK _ ?_); clear hK K
      repeat (refine stG ?_)
      refine zE (fun K hK => ?_)
      iterate 1 (refine stG ?_)
      refine xW [0] [] hco rfl rfl rfl ⟨_, rfl, _, rfl, _, evl, obl, by decide, by decide, ⟨rfl, trivial⟩, trivial, yEj (W' := []) ⟨yOh, trivial⟩, .bsl 2 0 0 0 0, rfl, [m.av, [lA 4 zH.av l], [.raw (.int .i64 n)]], rfl, [], rfl, ?_⟩
      refine stG ?_
      refine zG (hK _ ?_); clear hK K
      repeat (refine stG ?_)
      rw [hp, hs0] at hall
      refine yP (xE.slot (y := lA 2 zB.av (zGo l)) 9 rfl (fun G w v hm hr => hall ▸ yE4 hr)) ?_
      refine yP (st' := ⟨55, 0, [(1, true, .raw (.int .i64 most)), (2, true, .box 0 0), (6, true, .box 1 0), (7, true, .box 2 0), (9, true, lA 2 zB.av (zGo l))], [m.av, [lA 4 zH.av l], [.raw (.int .i64 n)]], [], ((0, []), [], true)⟩) ?_ ?_
      ·exact wkZ
     case' some cz =>
      obtain ⟨c, zs⟩ := cz
      simp only [zF8, j9, zB0, yNt] at hp ⊢
      obtain ⟨hc, hcm, hz⟩ := hp
      try (refine wg ?_; try refine sM fun K hK => ?_)
      refine zA ⟨_, evl, fun hb => absurd (yNw hb) (by omega), fun _ => ?_⟩
      have hsl : (kP (qU l)).length = (qU l).length := (zC2 _).1.length_eq
      have hso := zZ1 (qU l) (by omega) c (pcs zs)
      have hco := zLx (kP (qU l)) (by omega) c (by omega) (pcs zs)
      rw [hsl, hall] at hco
      repeat (refine stG ?_)
      refine zE (fun K hK => ?_)
      iterate 1 (refine stG ?_)
      refine xW [3] [] hso rfl rfl rfl ⟨_, rfl, _, rfl, _, evl, obl, by decide, by decide, ⟨by rw [zX3]; rfl, trivial⟩, trivial, yEj (W' := kP (qU l)) ⟨yOh, trivial, trivial⟩, .tup [], rfl, [m.av, [lA 4 zH.av l], [.raw (.int .i64 n)], pcs (kP (qU l)) ++ pcs zs], by simp only [yLt, yMk, zX3]; rfl, [], rfl, ?_⟩
      refine zG (hK _ ?_); clear hK K
      repeat (refine stG ?_)
      refine zE (fun K hK => ?_)
      iterate 1 (refine stG ?_)
      refine xW [3] [] hco rfl rfl rfl ⟨_, rfl, _, rfl, _, evl, obl, by decide, by decide, ⟨by rw [zX3]; rfl, trivial⟩, trivial, yEj (W' := kZ (kP (qU l))) ⟨yOh, trivial⟩, .bsl 2 3 0 (zGo l).length c, rfl, [m.av, [lA 4 zH.av l], [.raw (.int .i64 n)], pcs (kZ (kP (qU l))) ++ pcs zs], by simp only [yLt, yMk, zX3]; rfl, [], rfl, ?_⟩
      refine stG ?_
      refine zG (hK _ ?_); clear hK K
      refine yP (st' := ⟨55, 0, [(1, true, .raw (.int .i64 most)), (2, true, .box 0 0), (6, true, .box 1 0), (7, true, .box 2 0), (9, true, .bsl 2 3 0 (zGo l).length c)], [m.av, [lA 4 zH.av l], [.raw (.int .i64 n)], pcs (kZ (kP (qU l))) ++ pcs zs], [], ((0, []), [], true)⟩) ?_ ?_
      ·exact wkZ
      have hlc : (zGo l).length * 2 ≤ (pcs (kZ (kP (qU l))) ++ pcs zs).length := by
       rw [yL5, xP, kZ, yL5, hall]
       omega
      refine zAh 3 ⟨by simp, ⟨AV.belL_free _ hm, ⟨AV.bel_free _ hfl, trivial⟩, ⟨trivial, trivial⟩, trivial⟩, (fun r hr => by cases hr), ⟨trivial, .inl (by decide), .inl (by decide), .inl (by decide), .inr ⟨by simp, yD3 _ _ _, by simpa using hlc⟩, trivial⟩⟩ ⟨_, evl, _, evl, ?_⟩
      refine yP (xE.slot (y := lA 2 zB.av (zGo l)) 9 rfl (Sim.lstE rfl fun i hi => ?_).s) ?_
      ·have hcp : kZ (kP (qU l)) = zGo l ++ List.replicate ((kP (qU l)).length - (zGo l).length) default := by rw [kZ, hall]
       rw [hcp, jL, yN2]
       exact zMp (zGo l) _ i hi
      refine yP (st' := ⟨55, 0, [(1, true, .raw (.int .i64 most)), (2, true, .box 0 0), (6, true, .box 1 0), (7, true, .box 2 0), (9, true, lA 2 zB.av (zGo l))], [m.av, [lA 4 zH.av l], [.raw (.int .i64 n)]], [], ((0, []), [], true)⟩) ?_ ?_
      ·exact wkZ
     all_goals
      clear hb hw hall hwl hwl0
      have hLl := zPx hcr
      have hfL : (lA 2 zB.av (zGo l)).free := zC (fun y => zB.free y) _
      obtain ⟨N, rfl⟩ : ∃ N : Nat, n = N := ⟨n.toNat, by omega⟩
      obtain ⟨mo, rfl⟩ : ∃ mo : Nat, most = mo := ⟨most.toNat, by omega⟩
      have hps := fun s (hs : s.length ≤ 1000) => zHc l (by omega) N (by omega) hbs s (by omega)
      simp only [yLx]
      generalize hL : zGo l = L at *
      repeat (refine stG ?_)
      refine zE (fun K hK => ?_)
      iterate 1 (refine stG ?_)
      refine zG (hK _ ?_); clear hK K
      refine yP (xE.nilRowV 3 0 32 1 rfl rfl) ?_
      simp only [yLd, List.set_cons_zero, yLc, yMc]
      try (refine wg ?_; try refine sM fun K hK => ?_)
      refine zF (fun i : Nat => ⟨55, 0, [(1, true, .raw (.int .i64 mo)), (2, true, .box 0 0), (6, true, .box 1 0), (7, true, .box 2 0), (9, true, lA 2 zB.av L), (12, true, .box 3 0), (42, true, .raw (.int .i64 (mo + 1))), (43, true, .raw (.int .i64 i))],
        [m.av, [lA 4 zH.av l], [.raw (.int .i64 N)], [.row 0 (Vd.pick (okS m.evidence.f l N) ((List.range i).flatMap (Vd.choose L)) []).length]], [zIi (Vd.pick (okS m.evidence.f l N) ((List.range i).flatMap (Vd.choose L)) [])], ((0, []), [], true)⟩)
       (fun i => i ≤ mo + 1) (fun i => mo + 1 - i) 0 ?_ (by omega) ?_
      ·rw [show Vd.pick (okS m.evidence.f l N) ((List.range 0).flatMap (Vd.choose L)) [] = [] from rfl]
       exact wkZ
      ·intro i hi
       rcases yKt i (mo + 1) with hlt | hge
       ·have hF := zJp m l N i L [] (Vd.pick (okS m.evidence.f l N) ((List.range i).flatMap (Vd.choose L)) []) (by simp; omega) (by omega) (yD0 hps hLl (by omega))
        have hst : ∀ i2, i2 = i + 1 → Vd.pick (okS m.evidence.f l N) ((List.range i2).flatMap (Vd.choose L)) [] = Vd.pick (okS m.evidence.f l N) ((Vd.choose L i).map ([] ++ ·)) (Vd.pick (okS m.evidence.f l N) ((List.range i).flatMap (Vd.choose L)) []) := fun i2 e => by
         subst e
         rw [yNf, yNg, Vd.pick_app]
         simp
        generalize Vd.pick (okS m.evidence.f l N) ((Vd.choose L i).map ([] ++ ·)) (Vd.pick (okS m.evidence.f l N) ((List.range i).flatMap (Vd.choose L)) []) = O2 at *
        generalize Vd.pick (okS m.evidence.f l N) ((List.range i).flatMap (Vd.choose L)) [] = O1 at *
        try (refine wg ?_; try refine sM fun K hK => ?_)
        refine zA ⟨_, evl, fun _ => ?_, fun hb => absurd (yOc hb) (by omega)⟩
        try (first | refine wkM hK trivial ?_ | refine wkg trivial ?_)
        try clear hK K
        try refine sM fun K hK => ?_
        refine zSy [0, 3, 1, 2] [0] evl hF rfl rfl ⟨_, rfl, _, rfl, _, _, evl, (by exact ⟨Sim.refl _, Sim.refl _, Sim.nil rfl, Sim.refl _, trivial⟩), obl, by decide, by decide, ⟨rfl, rfl, rfl, rfl, trivial⟩, ⟨rfl, trivial⟩, yJe ⟨kO _, trivial, kO _, ⟨trivial, yK8⟩, trivial⟩, .tup [], rfl, [m.av, [lA 4 zH.av l], [.raw (.int .i64 N)], [.row 0 O2.length]], rfl, [zIi O2], rfl, ?_⟩
        refine zG (hK _ ?_); clear hK K
        try (first | refine wkM hK trivial ?_ | refine wkg trivial ?_)
        try clear hK K
        try refine sM fun K hK => ?_
        refine ⟨i + 1, by omega, by omega, ?_⟩
        rw [hst (i + 1) rfl]
        exact wkZ
       ·obtain rfl : i = mo + 1 := by omega
        rw [show Vd.pick (okS m.evidence.f l N) ((List.range (mo + 1)).flatMap (Vd.choose L)) [] = Vd.setsOf (okS m.evidence.f l N) L mo from rfl]
        generalize Vd.setsOf (okS m.evidence.f l N) L mo = O at *
        have hfO : (lA 1 sC2 O).free := zC (fun y => show AV.freeL (sC2 y) from ⟨zC (fun z => zB.free z) _, trivial⟩) _
        try (refine wg ?_; try refine sM fun K hK => ?_)
        refine zA ⟨_, evl, fun hb => absurd (yNw hb) (by omega), fun _ => ?_⟩
        try (refine wg ?_; try refine sM fun K hK => ?_)
        refine zA ⟨_, evl, fun hb => ?_, fun hb => ?_⟩
        ·rw [if_pos (by simp at hb; omega)]
         try (refine wg ?_; try refine sM fun K hK => ?_)
         exact zM (by simp) ⟨_, _, _, evl, ob0, zDh _ _⟩
        ·rw [if_neg (by simp at hb; omega)]
         try (refine wg ?_; try refine sM fun K hK => ?_)
         refine zM (by simp) ⟨_, _, _, evl, ob0, zV.sims ?_ ?_⟩
         ·exact z5.tup ⟨z5.row rfl rfl rfl rfl fun i hi => rfl, z5.refl _, trivial⟩
         ·exact ⟨hfO, trivial, trivial⟩
end Go.Proofs.YtchpbdecipcelaaGreatDoor
