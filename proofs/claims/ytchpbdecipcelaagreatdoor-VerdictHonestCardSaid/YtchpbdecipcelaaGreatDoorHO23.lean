import Derived.Test.YtchpbdecipcelaaGreatDoorHO01
import Derived.Test.YtchpbdecipcelaaGreatDoorHO17
namespace Go.Proofs.YtchpbdecipcelaaGreatDoor
set_option linter.unusedVariables false
set_option linter.unusedSimpArgs false
set_option maxHeartbeats 4000000
set_option maxRecDepth 100000
open Go.RowKit
namespace Lk
theorem zKl (lo hi : Int) : FnA Tryz.prog 160 [.raw (.int .i64 lo), .raw (.int .i64 hi)] (.raw (.bool (zBi lo hi))) := by
 refine en Tryz.func160 Tryz.ntmps160 [.tmp 4] rfl ?_
 try (refine wg ?_; try refine sM fun K hK => ?_)
 refine rq ?_ ?_
 ·simp [zBi]
 ·simp [AV.free]
theorem formR_A (c : Change) : FnA Tryz.prog 106 [.agg c.c] (.raw (.bool (formedM c))) := by
 refine en Tryz.func106 Tryz.ntmps106 [.tmp 2] rfl ?_
 try (first | refine wkM hK zKl ?_ | refine wkg zKl ?_)
 try clear hK K
 try refine sM fun K hK => ?_
 refine rq ?_ ?_
 ·simp [formedM]
 ·simp [AV.free]
theorem validIR_A (i : Iv) : FnA Tryz.prog 107 [.agg i.c] (.raw (.bool (qA i))) := by
 refine en Tryz.func107 Tryz.ntmps107 [.tmp 2] rfl ?_
 try (refine wg ?_; try refine sM fun K hK => ?_)
 refine rq ?_ ?_
 ·simp [qA]
 ·simp [AV.free]
def vR (l : List Change) (i : Nat) : Prop := formedM (gD l i) = true ∧ (i = 0 → (gD l i).at_ = 0) ∧ (0 < i → (gD l (i - 1)).at_ < (gD l i).at_) ∧ (gD l i).at_ ≤ 3000000000000000
theorem zUe {l : List Change} (h : ∀ i, i < l.length → vOk l i) : ∀ i j, i ≤ j → j < l.length → (gD l i).at_ ≤ (gD l j).at_ := by
 intro i j hij
 induction j with
 | zero =>
  intro _; obtain rfl : i = 0 := by omega
  exact yM6 _
 | succ j ih =>
  intro hj
  by_cases e : i = j + 1
  ·subst e; exact yM6 _
  ·have h1 := ih (by omega) (by omega)
   have h2 := (h (j + 1) hj).2 (by omega)
   rw [Nat.add_sub_cancel] at h2
   omega
theorem zGd (l : List Change) : ValidP l ↔ 1 ≤ l.length ∧ l.length ≤ 20 ∧ ∀ i, i < l.length → vR l i := by
 constructor
 ·rintro ⟨h1, h2, h3, h4, h5⟩
  refine ⟨h1, h2, fun i hi => ⟨(h5 i hi).1, fun e => by rw [e]; exact h3, (h5 i hi).2, ?_⟩⟩
  have := zUe h5 i (l.length - 1) (by omega) (by omega)
  omega
 ·rintro ⟨h1, h2, h3⟩
  exact ⟨h1, h2, (h3 0 (by omega)).2.1 rfl, (h3 (l.length - 1) (by omega)).2.2.2, fun i hi => ⟨(h3 i hi).1, (h3 i hi).2.2.1⟩⟩
theorem validR_A (l : List Change) (hmax : l.length ≤ 4611686018427387904) : FnA Tryz.prog 65 [chL l] (.raw (.bool (validM l))) := by
 unfold chL
 refine en Tryz.func65 Tryz.ntmps65 [.tmp 2] rfl ?_
 try (refine wg ?_; try refine sM fun K hK => ?_)
 refine zJ (fun k : Nat => ⟨64, 0, [(0, true, .lst 5 l.length fun i => (gD l i).c), (3, true, .raw (.int .i64 k))], [], [], ((0, []), [], true)⟩)
  (fun k => k ≤ l.length ∧ ∀ i, i < k → vR l i) (fun k => l.length - k) 0 ?_ ⟨by omega, fun i h => by omega⟩ ?_
 ·refine xJ.sl ?_
  (try simp only [vX, zL, ↓reduceIte, Nat.reduceEqDiff, yKn, yIw, yIg, yIv, AV.raw.injEq, Value.int.injEq, Value.bool.injEq])
  all_goals ((repeat' apply And.intro) <;> first | rfl | omega | (simp; done))
 ·rintro k ⟨hk, hall⟩
  try (refine wg ?_; try refine sM fun K hK => ?_)
  refine zA ⟨_, evl, ?_, ?_⟩
  ·intro hlt
   simp only [yJm] at hlt
   try (first | refine wkM hK formR_A ?_ | refine wkg formR_A ?_)
   try clear hK K
   try refine sM fun K hK => ?_
   refine zA ⟨_, evl, ?_, ?_⟩
   ·intro hbad
    try (refine wg ?_; try refine sM fun K hK => ?_)
    refine rq ?_ ?_
    ·simp only [AV.raw.injEq, Value.bool.injEq]
     rw [eq_comm, validM, yKu, zGd]
     rintro ⟨_, _, h5⟩
     obtain ⟨h6, h7, h8, h9⟩ := h5 k (by omega)
     have e : ((k : Int) - 1).toNat = k - 1 := by omega
     simp [h6, e] at hbad
     omega
    ·simp [AV.free]
   ·intro hgood
    try (refine wg ?_; try refine sM fun K hK => ?_)
    refine ⟨k + 1, ⟨by omega, fun i hi => ?_⟩, by omega, ?_⟩
    ·by_cases hik : i < k
     ·exact hall i hik
     ·obtain rfl : i = k := by omega
      have e : ((i : Int) - 1).toNat = i - 1 := by omega
      simp [e] at hgood
      refine ⟨by simp [hgood], fun h => by omega, fun h => by omega, by omega⟩
    ·refine xJ.mk rfl ?_ ?_
     rotate_left
     ·simp [zKw, jY, AV.bel, AV.belL, go_sem]
     (try simp only [vX, zL, ↓reduceIte, Nat.reduceEqDiff, yKn, yIw, yIg, yIv, AV.raw.injEq, Value.int.injEq, Value.bool.injEq])
     all_goals ((repeat' apply And.intro) <;> first | rfl | omega | (simp; done))
  ·intro hge
   simp only [yKu] at hge
   try (refine wg ?_; try refine sM fun K hK => ?_)
   refine rq ?_ ?_
   ·simp only [AV.raw.injEq, Value.bool.injEq]
    have hv : ValidP l ↔ 1 ≤ l.length ∧ l.length ≤ 20 := by
     rw [zGd]
     exact ⟨fun h => ⟨h.1, h.2.1⟩, fun h => ⟨h.1, h.2, fun i hi => hall i (by omega)⟩⟩
    rw [validM, yJ8, yM3, hv]
    simp only [yJl, yJm]
    omega
   ·simp [AV.free]
def zQ3 (a b : Change) : Change := ⟨a.at_, min a.outLo b.outLo, max a.outHi b.outHi, min a.backLo b.backLo, max a.backHi b.backHi⟩
theorem zYw (a b : Change) : FnA Tryz.prog 109 [.agg a.c, .agg b.c] (.agg (zQ3 a b).c) := by
 refine en Tryz.func109 Tryz.ntmps109 [.cell 4 125] rfl ?_
 try (refine wg ?_; try refine sM fun K hK => ?_)
 refine rq ?_ ?_
 ·rfl
 ·simp [AV.free, AV.freeL]
def atM (l : List Change) (t : Int) (n : Nat) : Change := (List.range n).foldl (fun o k => if (gD l k).at_ ≤ t then gD l k else o) (gD l 0)
theorem zEk (l : List Change) (t : Int) (n : Nat) : atM l t (n + 1) = if (gD l n).at_ ≤ t then gD l n else atM l t n := by simp [atM, yLc]
theorem yIa (l : List Change) (t : Int) (hmax : l.length ≤ 4611686018427387904) (h1 : 1 ≤ l.length) : FnA Tryz.prog 108 [chL l, .raw (.int .i64 t)] (.agg (atM l t l.length).c) := by
 unfold chL
 refine en Tryz.func108 Tryz.ntmps108 [.cell 4 125] rfl ?_
 try (refine wg ?_; try refine sM fun K hK => ?_)
 refine zJ (fun k : Nat => ⟨28, 0, [(0, true, .lst 5 l.length fun i => (gD l i).c), (1, true, .raw (.int .i64 t)), (4, true, .box 0 0), (5, true, .box 1 0), (6, true, .raw (.int .i64 k))], [Change.c ⟨0, 0, 0, 0, 0⟩, (atM l t k).c], [], ((0, []), [], true)⟩)
  (fun k => k ≤ l.length) (fun k => l.length - k) 0 ?_ (by omega) ?_
 ·refine xJ.sl ?_
  (try simp only [vX, zL, ↓reduceIte, Nat.reduceEqDiff, yKn, yIw, yIg, yIv, AV.raw.injEq, Value.int.injEq, Value.bool.injEq])
  all_goals ((repeat' apply And.intro) <;> first | rfl | omega | (simp; done))
 ·intro k hk
  try (refine wg ?_; try refine sM fun K hK => ?_)
  refine zA ⟨_, evl, ?_, ?_⟩
  ·intro hlt
   simp only [yJm] at hlt
   try (refine wg ?_; try refine sM fun K hK => ?_)
   refine zA ⟨_, evl, ?_, ?_⟩
   ·intro hc
    simp at hc
    try (refine wg ?_; try refine sM fun K hK => ?_)
    refine ⟨k + 1, by omega, by omega, ?_⟩
    rw [zEk, if_pos hc]
    refine xJ.mk rfl ?_ ?_
    rotate_left
    ·simp [zKw, jY, AV.bel, AV.belL, go_sem]
    (try simp only [vX, zL, ↓reduceIte, Nat.reduceEqDiff, yKn, yIw, yIg, yIv, AV.raw.injEq, Value.int.injEq, Value.bool.injEq])
    all_goals ((repeat' apply And.intro) <;> first | rfl | omega | (simp; done))
   ·intro hc
    simp at hc
    try (refine wg ?_; try refine sM fun K hK => ?_)
    refine ⟨k + 1, by omega, by omega, ?_⟩
    rw [zEk, if_neg (by omega)]
    refine xJ.mk rfl ?_ ?_
    rotate_left
    ·simp [zKw, jY, AV.bel, AV.belL, go_sem]
    (try simp only [vX, zL, ↓reduceIte, Nat.reduceEqDiff, yKn, yIw, yIg, yIv, AV.raw.injEq, Value.int.injEq, Value.bool.injEq])
    all_goals ((repeat' apply And.intro) <;> first | rfl | omega | (simp; done))
  ·intro hge
   simp only [yKu] at hge
   have : k = l.length := by omega
   subst this
   try (refine wg ?_; try refine sM fun K hK => ?_)
   refine rq ?_ ?_
   ·rfl
   ·simp [AV.free, AV.freeL]
def zDw (l : List Change) (i : Iv) (n : Nat) : Change := (List.range n).foldl (fun o k => if i.lo < (gD l k).at_ ∧ (gD l k).at_ ≤ i.hi then zQ3 o (gD l k) else o) { atM l i.lo l.length with at_ := i.lo }
theorem zBj (l : List Change) (i : Iv) (n : Nat) : zDw l i (n + 1) = if i.lo < (gD l n).at_ ∧ (gD l n).at_ ≤ i.hi then zQ3 (zDw l i n) (gD l n) else zDw l i n := by simp [zDw, yLc]
def vZ (l : List Change) (i : Iv) : Change × Int := if validM l = true ∧ qA i = true then (zDw l i l.length, 0) else (⟨0, 0, 0, 0, 0⟩, 1)
theorem boundsR_A (l : List Change) (i : Iv) (hmax : l.length ≤ 4611686018427387904) : FnA Tryz.prog 66 [chL l, .agg i.c] (.tup [.agg (vZ l i).1.c, .raw (.int .i64 (vZ l i).2)]) := by
 have hv := validR_A l hmax
 have ha := yIa l i.lo hmax
 unfold chL at hv ha ⊢
 refine en Tryz.func66 Tryz.ntmps66 [.cell 4 125, .tmp 5] rfl ?_
 try (refine wkg (And.intro hv (validIR_A i)) ?_; try refine sM fun K hK => ?_)
 refine zA ⟨_, evl, ?_, ?_⟩
 ·intro hb
  try (refine wg ?_; try refine sM fun K hK => ?_)
  refine rq ?_ ?_
  ·rw [vZ, if_neg (by simp at hb; rcases hb with h | h <;> simp [h])]; rfl
  ·simp [AV.free, AV.freeL]
 ·intro hb
  have hf : validM l = true ∧ qA i = true := by simpa using hb
  have hl : 1 ≤ l.length := by
   have := hf.1
   rw [validM, yJm] at this
   exact this.1
  have ha := ha hl
  try (refine wkg ha ?_; try refine sM fun K hK => ?_)
  refine zJ (fun k : Nat => ⟨59, 0, [(0, true, .lst 5 l.length fun i => (gD l i).c), (3, true, .box 0 0), (4, true, .box 1 0), (8, true, .box 2 0), (9, true, .raw (.int .i64 k)), (5, true, .raw (.int .i64 0))], [i.c, Change.c ⟨0, 0, 0, 0, 0⟩, (zDw l i k).c], [], ((0, []), [], true)⟩)
   (fun k => k ≤ l.length) (fun k => l.length - k) 0 ?_ (by omega) ?_
  ·refine xJ.sl ?_
   (try simp only [vX, zL, ↓reduceIte, Nat.reduceEqDiff, yKn, yIw, yIg, yIv, AV.raw.injEq, Value.int.injEq, Value.bool.injEq])
   all_goals ((repeat' apply And.intro) <;> first | rfl | omega | (simp; done))
  ·intro k hk
   try (refine wg ?_; try refine sM fun K hK => ?_)
   refine zA ⟨_, evl, ?_, ?_⟩
   ·intro hlt
    simp only [yJm] at hlt
    try (refine wg ?_; try refine sM fun K hK => ?_)
    refine zA ⟨_, evl, ?_, ?_⟩
    ·intro hc
     simp at hc
     try (refine wkg (zYw (zDw l i k) (gD l k)) ?_; try refine sM fun K hK => ?_)
     refine ⟨k + 1, by omega, by omega, ?_⟩
     rw [zBj, if_pos hc]
     refine xJ.mk rfl ?_ ?_
     rotate_left
     ·simp [zKw, jY, AV.bel, AV.belL, go_sem]
     (try simp only [vX, zL, ↓reduceIte, Nat.reduceEqDiff, yKn, yIw, yIg, yIv, AV.raw.injEq, Value.int.injEq, Value.bool.injEq])
     all_goals ((repeat' apply And.intro) <;> first | rfl | omega | (simp; done))
    ·intro hc
     simp at hc
     try (refine wg ?_; try refine sM fun K hK => ?_)
     refine ⟨k + 1, by omega, by omega, ?_⟩
     rw [zBj, if_neg (by intro h; have := hc h.1; omega)]
     refine xJ.mk rfl ?_ ?_
     rotate_left
     ·simp [zKw, jY, AV.bel, AV.belL, go_sem]
     (try simp only [vX, zL, ↓reduceIte, Nat.reduceEqDiff, yKn, yIw, yIg, yIv, AV.raw.injEq, Value.int.injEq, Value.bool.injEq])
     all_goals ((repeat' apply And.intro) <;> first | rfl | omega | (simp; done))
   ·intro hge
    simp only [yKu] at hge
    have : k = l.length := by omega
    subst this
    try (refine wg ?_; try refine sM fun K hK => ?_)
    refine rq ?_ ?_
    ·rw [vZ, if_pos hf]; rfl
    ·simp [AV.free, AV.freeL]
theorem zKy {l : List Change} (h : ∀ i, i < l.length → vOk l i) : ∀ i j, i < j → j < l.length → (gD l i).at_ < (gD l j).at_ := by
 intro i j hij hj
 have h1 := zUe h i (j - 1) (by omega) (by omega)
 have h2 := (h j hj).2 (by omega)
 omega
theorem zM9 (p : Change → Int) (b : Int) (c : Change) : wH 1 p (b, false) c = (min b (p c), false) := by
 unfold wH zUt
 by_cases h : p c < b
 ·simp [h]; try omega
 ·by_cases h2 : b < p c
  ·simp [h, h2]; try omega
  ·simp [h, h2]; try omega
theorem zMa (p : Change → Int) (b : Int) (c : Change) : wH (-1) p (b, false) c = (max b (p c), false) := by
 unfold wH zUt
 by_cases h : p c < b
 ·simp [h]; try omega
 ·by_cases h2 : b < p c
  ·simp [h, h2]; try omega
  ·simp [h, h2]; try omega
theorem zCm (p : Change → Int) (c : Change) (r : List Change) : zFi 1 p (c :: r) = (r.foldl (fun b x => min b (p x)) (p c), false) := by
 have : ∀ (r : List Change) (b : Int), r.foldl (wH 1 p) (b, false) = (r.foldl (fun b x => min b (p x)) b, false) := by
  intro r
  induction r with
  | nil => intro b; rfl
  | cons x r ih => intro b; simp only [yJ1, zM9, ih]
 simp only [zFi, yJ1]
 rw [show wH 1 p (0, true) c = (p c, false) from by simp [wH], this]
theorem zCn (p : Change → Int) (c : Change) (r : List Change) : zFi (-1) p (c :: r) = (r.foldl (fun b x => max b (p x)) (p c), false) := by
 have : ∀ (r : List Change) (b : Int), r.foldl (wH (-1) p) (b, false) = (r.foldl (fun b x => max b (p x)) b, false) := by
  intro r
  induction r with
  | nil => intro b; rfl
  | cons x r ih => intro b; simp only [yJ1, zMa, ih]
 simp only [zFi, yJ1]
 rw [show wH (-1) p (0, true) c = (p c, false) from by simp [wH], this]
def zGw (l : List Change) (i : Iv) (n : Nat) : List Change := ((List.range n).filter fun k => decide (i.lo < (gD l k).at_ ∧ (gD l k).at_ ≤ i.hi)).map (gD l)
theorem zUa (l : List Change) (i : Iv) (n : Nat) : zDw l i n = (zGw l i n).foldl zQ3 { atM l i.lo l.length with at_ := i.lo } := by
 induction n with
 | zero => rfl
 | succ n ih =>
  rw [zBj, zGw, yLc, List.filter_append, yLh, List.foldl_append]
  rw [show (((List.range n).filter fun k => decide (i.lo < (gD l k).at_ ∧ (gD l k).at_ ≤ i.hi)).map (gD l)) = zGw l i n from rfl, ← ih]
  by_cases h : i.lo < (gD l n).at_ ∧ (gD l n).at_ ≤ i.hi <;> simp [h]
theorem zSu (r : List Change) : ∀ a : Change, r.foldl zQ3 a = ⟨a.at_, r.foldl (fun b x => min b x.outLo) a.outLo, r.foldl (fun b x => max b x.outHi) a.outHi, r.foldl (fun b x => min b x.backLo) a.backLo, r.foldl (fun b x => max b x.backHi) a.backHi⟩ := by
 induction r with
 | nil => intro a; rfl
 | cons x r ih => intro a; simp only [yJ1, ih, zQ3]
theorem zX8 {l : List Change} {lo : Int} (h1 : 1 ≤ l.length) (h0 : (gD l 0).at_ ≤ lo) (hs : ∀ i j, i < j → j < l.length → (gD l i).at_ < (gD l j).at_) : ∃ a, a < l.length ∧ (gD l a).at_ ≤ lo ∧ ∀ k, a < k → k < l.length → lo < (gD l k).at_ := by
 have : ∀ n, n < l.length → ∃ a, a ≤ n ∧ (gD l a).at_ ≤ lo ∧ ∀ k, a < k → k ≤ n → lo < (gD l k).at_ := by
  intro n
  induction n with
  | zero => intro _; exact ⟨0, yIn _, h0, fun k h h' => by omega⟩
  | succ n ih =>
   intro hn
   obtain ⟨a, e1, e2, e3⟩ := ih (by omega)
   by_cases hc : (gD l (n + 1)).at_ ≤ lo
   ·exact ⟨n + 1, yIn _, hc, fun k h h' => by omega⟩
   ·refine ⟨a, by omega, e2, fun k h h' => ?_⟩
    by_cases hk : k = n + 1
    ·subst hk; omega
    ·exact e3 k h (by omega)
 obtain ⟨a, e1, e2, e3⟩ := this (l.length - 1) (by omega)
 exact ⟨a, by omega, e2, fun k h h' => e3 k h (by omega)⟩
theorem zO6 {l : List Change} {i : Iv} (h1 : 1 ≤ l.length) (h0 : (gD l 0).at_ ≤ i.lo) (hi : i.lo ≤ i.hi) (hs : ∀ i j, i < j → j < l.length → (gD l i).at_ < (gD l j).at_) : qO l i l.length = atM l i.lo l.length :: zGw l i l.length := by
 obtain ⟨a, e1, e2, e3⟩ := zX8 h1 h0 hs
 have hP : ∀ k, k < l.length → (inF l i k = true ↔ k = a ∨ (i.lo < (gD l k).at_ ∧ (gD l k).at_ ≤ i.hi)) := by
  intro k hk
  have e : ((k : Int) + 1).toNat = k + 1 := by omega
  simp only [inF, e, yJl, yJn, yKv, yKu, yJm]
  rcases Nat.lt_trichotomy k a with h | h | h
  ·have h2 := hs k a h e1
   have h3 : (gD l (k + 1)).at_ ≤ i.lo := by
    by_cases hka : k + 1 = a
    ·rw [hka]; exact e2
    ·have := hs (k + 1) a (by omega) e1; omega
   constructor
   ·rintro ⟨h4 | h4, _⟩ <;> omega
   ·rintro (h4 | h4) <;> omega
  ·subst h
   refine ⟨fun _ => .inl rfl, fun _ => ⟨?_, by omega⟩⟩
   by_cases hn : k + 1 < l.length
   ·have := e3 (k + 1) (by omega) hn; omega
   ·omega
  ·have h2 := e3 k h hk
   constructor
   ·rintro ⟨_, h4⟩; exact .inr ⟨h2, h4⟩
   ·rintro (h4 | h4)
    ·omega
    ·refine ⟨?_, h4.2⟩
     by_cases hn : k + 1 < l.length
     ·have := e3 (k + 1) (by omega) hn; omega
     ·omega
 have key : ∀ n, n ≤ l.length → (List.range n).filter (inF l i) = (if a < n then [a] else []) ++ (List.range n).filter (fun k => decide (i.lo < (gD l k).at_ ∧ (gD l k).at_ ≤ i.hi)) ∧ (a < n → atM l i.lo n = gD l a) := by
  intro n
  induction n with
  | zero => intro _; simp
  | succ n ih =>
   intro hn
   obtain ⟨i1, i2⟩ := ih (by omega)
   have hp := hP n (by omega)
   rw [yLc, List.filter_append, List.filter_append, i1, zEk]
   rcases Nat.lt_trichotomy n a with h | h | h
   ·have hq : ¬ i.lo < (gD l n).at_ := by have := hs n a h e1; omega
    have hf : inF l i n = false := by rw [Bool.eq_false_iff]; intro h4; rcases hp.1 h4 with h5 | h5 <;> omega
    refine ⟨by simp [hf, hq, show ¬ a < n from by omega, show ¬ a < n + 1 from by omega], fun h => by omega⟩
   ·subst h
    have hq : ¬ i.lo < (gD l n).at_ := by omega
    have hnil : (List.range n).filter (fun k => decide (i.lo < (gD l k).at_ ∧ (gD l k).at_ ≤ i.hi)) = [] := by
     rw [List.filter_eq_nil_iff]
     intro k hk
     have := hs k n (yL1.1 hk) e1
     simp; omega
    refine ⟨by rw [hnil]; simp [hp.2 (.inl rfl), hq], fun _ => by rw [if_pos e2]⟩
   ·have h2 := e3 n h (by omega)
    have hb : inF l i n = decide (i.lo < (gD l n).at_ ∧ (gD l n).at_ ≤ i.hi) := by
     rw [yJ8, yM3, hp]
     exact ⟨fun h => h.resolve_left (by omega), .inr⟩
    refine ⟨by simp [hb, h, show a < n + 1 from by omega, yKx, List.filter_cons], fun _ => by rw [if_neg (by omega)]; exact i2 h⟩
 obtain ⟨k1, k2⟩ := key l.length (yIn _)
 rw [qO, k1, if_pos e1, k2 e1]
 rfl
theorem refBounds_eq (l : List Change) (i : Iv) : vZ l i = linkBoundsM l i := by
 unfold vZ linkBoundsM
 split
 ·rename_i h
  have hv := h.1
  rw [validM, yJm] at hv
  obtain ⟨v1, v2, v3, v4, v5⟩ := hv
  have hi := (kD i).1 h.2
  rw [zO6 v1 (by omega) hi.2.1 (zKy v5), zUa, zSu]
  simp only [zCm, zCn]
 ·rfl
end Lk
end Go.Proofs.YtchpbdecipcelaaGreatDoor
