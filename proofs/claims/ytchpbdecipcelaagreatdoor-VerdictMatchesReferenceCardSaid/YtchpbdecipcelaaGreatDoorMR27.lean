import Derived.Test.YtchpbdecipcelaaGreatDoorMR01
import Derived.Test.YtchpbdecipcelaaGreatDoorMR26
namespace Go.Proofs.YtchpbdecipcelaaGreatDoor
set_option linter.unusedVariables false
set_option linter.unusedSimpArgs false
set_option maxHeartbeats 4000000
set_option maxRecDepth 100000
open Go.RowKit
theorem zPk (n : Int) : FnA Tryz.prog 211 [.raw (.int .i64 n)] (.raw (.bool (decide (-3000000000000000 ≤ n) && decide (n ≤ 3000000000000000)))) := by
 refine en Tryz.func211 Tryz.ntmps211 [.tmp 2] rfl ?_
 repeat' first
  | refine wkg trivial ?_
  | (refine cS (fun hb => ?_) fun hb => ?_ <;> try (cases hb; done))
  | refine sM fun K hK => ?_
  | fail
 all_goals exact fA
theorem zHz (n : Int) : FnA Tryz.prog 212 [.raw (.int .i64 n)] (.raw (.bool (decide (0 ≤ n) && decide (n ≤ 2000000000)))) := by
 refine en Tryz.func212 Tryz.ntmps212 [.tmp 2] rfl ?_
 repeat' first
  | refine wkg trivial ?_
  | (refine cS (fun hb => ?_) fun hb => ?_ <;> try (cases hb; done))
  | refine sM fun K hK => ?_
  | fail
 all_goals exact fA
theorem zLa (a n d : Int) (ha : 0 ≤ a ∧ a ≤ 3000000000000000) (hn : 0 ≤ n ∧ n ≤ 2000000000) (hd : 1 ≤ d ∧ d ≤ 2000000000) : FnA Tryz.prog 145 [.raw (.int .i64 a), .raw (.int .i64 n), .raw (.int .i64 d)] (.raw (.bool true)) := by
 have h1 := zPk a
 have h2 := zHz n
 have h3 := zHz d
 rw [yO3 (by omega : -3000000000000000 ≤ a), yO3 ha.2] at h1
 rw [yO3 hn.1, yO3 hn.2] at h2
 rw [yO3 (by omega : 0 ≤ d), yO3 hd.2] at h3
 refine en Tryz.func145 Tryz.ntmps145 [.tmp 6] rfl ?_
 repeat' first
  | refine wkg (And.intro h1 (And.intro h2 h3)) ?_
  | (refine cS (fun hb => ?_) fun hb => ?_ <;> try (cases hb; done))
  | refine sM fun K hK => ?_
  | fail
 refine rq ?_ ?_
 ·simp [hd.1]
 ·simp [AV.free]
theorem zSr {a n d : Int} (ha : 0 ≤ a) (hd : 0 < d) : a / d * n + a % d * n / d = a * n / d ∧ a % d * n % d = a * n % d := by
 have h1 := Int.mul_ediv_add_emod a d
 have e : a * n = a % d * n + a / d * n * d := by
  conv => lhs; rw [← h1]
  rw [Int.add_mul, Int.mul_comm d (a / d), Int.mul_assoc, Int.mul_comm d n, ← Int.mul_assoc, Int.add_comm]
 rw [e, Int.add_mul_ediv_right _ _ (by omega), Int.add_mul_emod_self_right]
 exact ⟨by omega, rfl⟩
theorem zOc (a n d : Int) (ha : 0 ≤ a ∧ a ≤ 3000000000000000) (hn : 1 ≤ n ∧ n ≤ 2000000000) (hd : 1 ≤ d ∧ d ≤ 2000000000) (hq : a / d ≤ 3000000000000000 / n) : FnA Tryz.prog 146 [.raw (.int .i64 a), .raw (.int .i64 n), .raw (.int .i64 d)] (.tup [.raw (.int .i64 (a * n / d)), .raw (.int .i64 (a * n % d)), .raw (.bool true)]) := by
 obtain ⟨s1, s2⟩ := zSr (n := n) ha.1 (by omega : 0 < d)
 have e1 : a.tdiv d = a / d := yO0 ha.1
 have e2 : a.tmod d = a % d := yNu ha.1
 have hr := Int.emod_lt_of_pos a (by omega : 0 < d)
 have hr0 := Int.emod_nonneg a (by omega : d ≠ 0)
 have hq0 : 0 ≤ a / d := yOf ha.1 (by omega)
 have e5 : (3000000000000000 : Int).tdiv n = 3000000000000000 / n := yO0 (by decide)
 have h0 : 0 ≤ a % d * n := Int.mul_nonneg hr0 (by omega)
 have h1 : a % d * n ≤ 4000000000000000000 := by
  calc a % d * n ≤ 2000000000 * n := yOa (by omega) (by omega)
   _ ≤ 2000000000 * 2000000000 := yOe hn.2 (by decide)
 have e3 : (a % d * n).tdiv d = a % d * n / d := yO0 h0
 have e4 : (a % d * n).tmod d = a % d * n % d := yNu h0
 have h3 : a / d * n ≤ 3000000000000000 := by
  calc a / d * n ≤ 3000000000000000 / n * n := yOa hq (by omega)
   _ ≤ 3000000000000000 := Int.ediv_mul_le _ (by omega)
 have h4 : 0 ≤ a / d * n := Int.mul_nonneg hq0 (by omega)
 have h5 : 0 ≤ a % d * n / d := yOf h0 (by omega)
 have h6 : a % d * n / d ≤ a % d * n := Int.ediv_le_self _ h0
 have f1 : IntKind.i64.wrap (-(a.tdiv d)) = -(a.tdiv d) := yX (k := .i64) (by rw [e1]; simp only [inK]; have := Int.ediv_le_self d ha.1; omega)
 have f2 : a.tdiv d * n = a / d * n := by rw [e1]
 have f3 : a.tmod d * n = a % d * n := by rw [e2]
 have f4 : (a.tmod d * n).tdiv d = a % d * n / d := by rw [f3, e3]
 have f5 : (a.tmod d * n).tmod d = a * n % d := by rw [f3, e4, s2]
 have f6 : a.tdiv d ≤ (3000000000000000 : Int).tdiv n := by rw [e1, e5]; exact hq
 have f7 : 0 ≤ a.tdiv d := by rw [e1]; exact hq0
 have f8 : 0 ≤ (3000000000000000 : Int).tdiv n ∧ (3000000000000000 : Int).tdiv n ≤ 3000000000000000 := by
  rw [e5]; exact ⟨yOf (by decide) (by omega), Int.ediv_le_self _ (by decide)⟩
 have f9 : 0 ≤ a.tmod d := by rw [e2]; exact hr0
 rw [← s1]
 clear hq e5 s1 s2
 generalize a * n % d = Y at *
 generalize a % d * n / d = X at *
 generalize a / d * n = V at *
 generalize a % d * n = Z at *
 clear e1 e2 hr hr0 hq0 e3 e4
 refine en Tryz.func146 Tryz.ntmps146 [.tmp 6, .tmp 7, .tmp 8] rfl ?_
 repeat' first
  | refine wkg trivial ?_
  | (refine cS (fun hb => ?_) fun hb => ?_ <;> try (cases hb; done))
  | refine sM fun K hK => ?_
  | fail
 all_goals first
  | (exfalso; omega)
  | (refine zM (by simp) ⟨_, _, _, evl, ob0, zV.eq ?_ (by simp [AV.free, AV.freeL])⟩; rw [f2, f4, f5])
theorem zDn (n : Int) (h : 0 ≤ n ∧ n ≤ 3000000000000000) : FnA Tryz.prog 147 [.raw (.int .i64 n), .raw (.bool true)] (.tup [.raw (.int .i64 n), .raw (.int .i64 0)]) := by
 have h1 := zPk n
 rw [yO3 (by omega : -3000000000000000 ≤ n), yO3 h.2] at h1
 refine en Tryz.func147 Tryz.ntmps147 [.tmp 4, .tmp 5] rfl ?_
 repeat' first
  | refine wkg h1 ?_
  | (refine cS (fun hb => ?_) fun hb => ?_ <;> try (cases hb; done))
  | refine sM fun K hK => ?_
  | fail
 refine rq ?_ ?_
 ·rfl
 ·simp [AV.free, AV.freeL]
theorem zV8 (a n d : Int) (ha : 0 ≤ a ∧ a ≤ 3000000000000000) (hn : 1 ≤ n ∧ n ≤ 2000000000) (hd : 1 ≤ d ∧ d ≤ 2000000000) (hq : a / d ≤ 3000000000000000 / n) (hw : a * n / d < 3000000000000000) : FnA Tryz.prog 93 [.raw (.int .i64 a), .raw (.int .i64 n), .raw (.int .i64 d)] (.tup [.raw (.int .i64 (a * n / d)), .raw (.int .i64 0)]) := by
 have h1 := zLa a n d ha (by omega) hd
 have h2 := zOc a n d ha hn hd hq
 have h3 := zDn (a * n / d) ⟨yOf (Int.mul_nonneg ha.1 (by omega)) (by omega), by omega⟩
 clear hq hw
 generalize a * n / d = X at *
 generalize a * n % d = Y at *
 refine en Tryz.func93 Tryz.ntmps93 [.tmp 6, .tmp 7] rfl ?_
 repeat' first
  | refine wkg (And.intro h1 (And.intro h2 h3)) ?_
  | (refine cS (fun hb => ?_) fun hb => ?_ <;> try (cases hb; done))
  | refine sM fun K hK => ?_
  | fail
 refine rq ?_ ?_
 ·rfl
 ·simp [AV.free, AV.freeL]
theorem zYj (a n d : Int) (ha : 0 ≤ a ∧ a ≤ 3000000000000000) (hn : 1 ≤ n ∧ n ≤ 2000000000) (hd : 1 ≤ d ∧ d ≤ 2000000000) (hq : a / d ≤ 3000000000000000 / n) (hw : a * n / d < 3000000000000000) : FnA Tryz.prog 94 [.raw (.int .i64 a), .raw (.int .i64 n), .raw (.int .i64 d)] (.tup [.raw (.int .i64 (zDp (a * n) d)), .raw (.int .i64 0)]) := by
 have h1 := zLa a n d ha (by omega) hd
 have h2 := zOc a n d ha hn hd hq
 have w : 0 ≤ a * n / d := yOf (Int.mul_nonneg ha.1 (by omega)) (by omega)
 have h3 := zDn (a * n / d) ⟨w, by omega⟩
 have h4 := zDn (a * n / d + 1) ⟨by omega, by omega⟩
 unfold zDp
 clear hq
 generalize a * n / d = X at *
 generalize a * n % d = Y at *
 refine en Tryz.func94 Tryz.ntmps94 [.tmp 6, .tmp 7] rfl ?_
 repeat' first
  | refine wkg (And.intro h1 (And.intro h2 (And.intro h3 h4))) ?_
  | (refine cS (fun hb => ?_) fun hb => ?_ <;> try (cases hb; done))
  | refine sM fun K hK => ?_
  | fail
 ·refine rq ?_ ?_
  ·rw [if_pos hb]
  ·simp [AV.free, AV.freeL]
 ·refine rq ?_ ?_
  ·rw [if_neg (by omega), Int.add_zero]
  ·simp [AV.free, AV.freeL]
theorem zVm (n : Int) : FnA Tryz.prog 91 [.raw (.int .i64 n)] (.raw (.bool (decide (0 ≤ n) && decide (n ≤ 1000000)))) := by
 refine en Tryz.func91 Tryz.ntmps91 [.tmp 2] rfl ?_
 repeat' first
  | refine wkg trivial ?_
  | (refine cS (fun hb => ?_) fun hb => ?_ <;> try (cases hb; done))
  | refine sM fun K hK => ?_
  | fail
 all_goals exact fA
theorem zNj (n : Int) : FnA Tryz.prog 92 [.raw (.int .i64 n)] (.raw (.bool (decide (0 ≤ n) && decide (n ≤ 1000000000000000)))) := by
 refine en Tryz.func92 Tryz.ntmps92 [.tmp 2] rfl ?_
 repeat' first
  | refine wkg trivial ?_
  | (refine cS (fun hb => ?_) fun hb => ?_ <;> try (cases hb; done))
  | refine sM fun K hK => ?_
  | fail
 all_goals exact fA
theorem zHy (rate count : Int) : FnA Tryz.prog 40 [.raw (.int .i64 rate), .raw (.int .i64 count)] (.tup [.agg (yL rate count).1.av, .raw (.int .i64 (yL rate count).2)]) := by
 have h1 := zVm rate
 have h2 := zNj count
 by_cases hc : (0 ≤ rate ∧ rate ≤ 1000000) ∧ 0 ≤ count ∧ count ≤ 1000000000000000
 ·rw [yL, if_pos hc]
  rw [yO3 hc.1.1, yO3 hc.1.2] at h1
  rw [yO3 hc.2.1, yO3 hc.2.2] at h2
  obtain ⟨⟨r1, r2⟩, r3, r4⟩ := hc
  have d2 : (count + 1) * 1000000000 / (1000000000 - rate) < 2000000000000000 := by
   refine yOg (by omega) ?_
   have : 2000000000000000 * (1000000000 - rate) ≥ 2000000000000000 * 999000000 := yOe (by omega) (by decide)
   omega
  have q2 : (count + 1) / (1000000000 - rate) ≤ 3000000000000000 / 1000000000 := by
   refine Int.le_of_lt_add_one (yOg (by omega) ?_)
   have : (3000000000000000 / 1000000000 + 1 : Int) * (1000000000 - rate) ≥ (3000000000000000 / 1000000000 + 1) * 999000000 := yOe (by omega) (by decide)
   omega
  have f2 := zYj (count + 1) 1000000000 (1000000000 - rate) (by omega) (by decide) (by omega) q2 (by omega)
  have c2 := zBn (p := (count + 1) * 1000000000) (d := 1000000000 - rate) (by omega) (by omega)
  by_cases h0 : 0 < count
  ·have d1 : (count - 1) * 1000000000 / (1000000000 + rate) < 2000000000000000 := by
    refine yOg (by omega) ?_
    have : 2000000000000000 * (1000000000 + rate) ≥ 2000000000000000 * 1000000000 := yOe (by omega) (by decide)
    omega
   have q1 : (count - 1) / (1000000000 + rate) ≤ 3000000000000000 / 1000000000 := by
    refine Int.le_of_lt_add_one (yOg (by omega) ?_)
    have : (3000000000000000 / 1000000000 + 1 : Int) * (1000000000 + rate) ≥ (3000000000000000 / 1000000000 + 1) * 1000000000 := yOe (by omega) (by decide)
    omega
   have f1 := zV8 (count - 1) 1000000000 (1000000000 + rate) (by omega) (by decide) (by omega) q1 (by omega)
   have hx0 := yOf (a := (count - 1) * 1000000000) (b := 1000000000 + rate) (by omega) (by omega)
   rw [if_pos h0]
   clear q1 q2
   generalize (count - 1) * 1000000000 / (1000000000 + rate) = X at *
   generalize zDp ((count + 1) * 1000000000) (1000000000 - rate) = Y at *
   generalize (count + 1) * 1000000000 / (1000000000 - rate) = Z at *
   refine en Tryz.func40 Tryz.ntmps40 [.cell 4 98, .tmp 5] rfl ?_
   repeat' first
    | refine wkg (And.intro h1 (And.intro h2 (And.intro f1 f2))) ?_
    | (refine cS (fun hb => ?_) fun hb => ?_ <;> try (cases hb; done))
    | refine sM fun K hK => ?_
    | fail
   ·refine rq ?_ ?_
    ·rfl
    ·simp [AV.free, AV.freeL, go_sem]
   ·exfalso; omega
  ·rw [if_neg h0]
   clear q2
   generalize zDp ((count + 1) * 1000000000) (1000000000 - rate) = Y at *
   generalize (count + 1) * 1000000000 / (1000000000 - rate) = Z at *
   refine en Tryz.func40 Tryz.ntmps40 [.cell 4 98, .tmp 5] rfl ?_
   repeat' first
    | refine wkg (And.intro h1 (And.intro h2 f2)) ?_
    | (refine cS (fun hb => ?_) fun hb => ?_ <;> try (cases hb; done))
    | refine sM fun K hK => ?_
    | fail
   ·exfalso; omega
   ·refine rq ?_ ?_
    ·rfl
    ·simp [AV.free, AV.freeL, go_sem]
 ·rw [yL, if_neg hc]
  refine en Tryz.func40 Tryz.ntmps40 [.cell 4 98, .tmp 5] rfl ?_
  repeat' first
   | refine wkg (And.intro h1 h2) ?_
   | (refine cS (fun hb => ?_) fun hb => ?_ <;> try (cases hb; done))
   | refine sM fun K hK => ?_
   | fail
  ·refine rq ?_ ?_
   ·rfl
   ·simp [AV.free, AV.freeL, go_sem]
  all_goals exact absurd ⟨⟨by omega, by omega⟩, by omega, by omega⟩ hc
end Go.Proofs.YtchpbdecipcelaaGreatDoor
