import Derived.Test.YtchpbdecipcelaaGreatDoorHO01
import Derived.Test.YtchpbdecipcelaaGreatDoorHO30
namespace Go.Proofs.YtchpbdecipcelaaGreatDoor
set_option linter.unusedVariables false
set_option linter.unusedSimpArgs false
set_option maxHeartbeats 4000000
set_option maxRecDepth 100000
open Go.RowKit
theorem zOj (n : Int) : FnA Tryz.prog 211 [.raw (.int .i64 n)] (.raw (.bool (decide (-3000000000000000 ≤ n) && decide (n ≤ 3000000000000000)))) := by
 refine en Tryz.func211 Tryz.ntmps211 [.tmp 2] rfl ?_
 repeat' first
  | refine wkg trivial ?_
  | (refine cS (fun hb => ?_) fun hb => ?_ <;> try (cases hb; done))
  | refine sM fun K hK => ?_
  | fail
 all_goals exact fA
theorem zHa (n : Int) : FnA Tryz.prog 212 [.raw (.int .i64 n)] (.raw (.bool (decide (0 ≤ n) && decide (n ≤ 2000000000)))) := by
 refine en Tryz.func212 Tryz.ntmps212 [.tmp 2] rfl ?_
 repeat' first
  | refine wkg trivial ?_
  | (refine cS (fun hb => ?_) fun hb => ?_ <;> try (cases hb; done))
  | refine sM fun K hK => ?_
  | fail
 all_goals exact fA
theorem zKg (a n d : Int) (ha : 0 ≤ a ∧ a ≤ 3000000000000000) (hn : 0 ≤ n ∧ n ≤ 2000000000) (hd : 1 ≤ d ∧ d ≤ 2000000000) : FnA Tryz.prog 145 [.raw (.int .i64 a), .raw (.int .i64 n), .raw (.int .i64 d)] (.raw (.bool true)) := by
 have h1 := zOj a
 have h2 := zHa n
 have h3 := zHa d
 rw [yM1 (by omega : -3000000000000000 ≤ a), yM1 ha.2] at h1
 rw [yM1 hn.1, yM1 hn.2] at h2
 rw [yM1 (by omega : 0 ≤ d), yM1 hd.2] at h3
 refine en Tryz.func145 Tryz.ntmps145 [.tmp 6] rfl ?_
 repeat' first
  | refine wkg (And.intro h1 (And.intro h2 h3)) ?_
  | (refine cS (fun hb => ?_) fun hb => ?_ <;> try (cases hb; done))
  | refine sM fun K hK => ?_
  | fail
 refine rq ?_ ?_
 ·simp [hd.1]
 ·simp [AV.free]
theorem zRb {a n d : Int} (ha : 0 ≤ a) (hd : 0 < d) : a / d * n + a % d * n / d = a * n / d ∧ a % d * n % d = a * n % d := by
 have h1 := Int.mul_ediv_add_emod a d
 have e : a * n = a % d * n + a / d * n * d := by
  conv => lhs; rw [← h1]
  rw [Int.add_mul, Int.mul_comm d (a / d), Int.mul_assoc, Int.mul_comm d n, ← Int.mul_assoc, Int.add_comm]
 rw [e, Int.add_mul_ediv_right _ _ (by omega), Int.add_mul_emod_self_right]
 exact ⟨by omega, rfl⟩
theorem zN7 (a n d : Int) (ha : 0 ≤ a ∧ a ≤ 3000000000000000) (hn : 1 ≤ n ∧ n ≤ 2000000000) (hd : 1 ≤ d ∧ d ≤ 2000000000) (hq : a / d ≤ 3000000000000000 / n) : FnA Tryz.prog 146 [.raw (.int .i64 a), .raw (.int .i64 n), .raw (.int .i64 d)] (.tup [.raw (.int .i64 (a * n / d)), .raw (.int .i64 (a * n % d)), .raw (.bool true)]) := by
 obtain ⟨s1, s2⟩ := zRb (n := n) ha.1 (by omega : 0 < d)
 have e1 : a.tdiv d = a / d := yLy ha.1
 have e2 : a.tmod d = a % d := yLs ha.1
 have hr := yLz a (by omega : 0 < d)
 have hr0 := Int.emod_nonneg a (by omega : d ≠ 0)
 have hq0 : 0 ≤ a / d := yMd ha.1 (by omega)
 have e5 : (3000000000000000 : Int).tdiv n = 3000000000000000 / n := yLy (by decide)
 have h0 : 0 ≤ a % d * n := yLt hr0 (by omega)
 have h1 : a % d * n ≤ 4000000000000000000 := by
  calc a % d * n ≤ 2000000000 * n := yM8 (by omega) (by omega)
   _ ≤ 2000000000 * 2000000000 := yMc hn.2 (by decide)
 have e3 : (a % d * n).tdiv d = a % d * n / d := yLy h0
 have e4 : (a % d * n).tmod d = a % d * n % d := yLs h0
 have h3 : a / d * n ≤ 3000000000000000 := by
  calc a / d * n ≤ 3000000000000000 / n * n := yM8 hq (by omega)
   _ ≤ 3000000000000000 := Int.ediv_mul_le _ (by omega)
 have h4 : 0 ≤ a / d * n := yLt hq0 (by omega)
 have h5 : 0 ≤ a % d * n / d := yMd h0 (by omega)
 have h6 : a % d * n / d ≤ a % d * n := Int.ediv_le_self _ h0
 have f1 : IntKind.i64.wrap (-(a.tdiv d)) = -(a.tdiv d) := y8 (k := .i64) (by rw [e1]; simp only [inK]; have := Int.ediv_le_self d ha.1; omega)
 have f2 : a.tdiv d * n = a / d * n := by rw [e1]
 have f3 : a.tmod d * n = a % d * n := by rw [e2]
 have f4 : (a.tmod d * n).tdiv d = a % d * n / d := by rw [f3, e3]
 have f5 : (a.tmod d * n).tmod d = a * n % d := by rw [f3, e4, s2]
 have f6 : a.tdiv d ≤ (3000000000000000 : Int).tdiv n := by rw [e1, e5]; exact hq
 have f7 : 0 ≤ a.tdiv d := by rw [e1]; exact hq0
 have f8 : 0 ≤ (3000000000000000 : Int).tdiv n ∧ (3000000000000000 : Int).tdiv n ≤ 3000000000000000 := by
  rw [e5]; exact ⟨yMd (by decide) (by omega), Int.ediv_le_self _ (by decide)⟩
 have f9 : 0 ≤ a.tmod d := by rw [e2]; exact hr0
 rw [← s1]
 clear hq e5 s1 s2
 generalize a * n % d = Y at *
 generalize a % d * n / d = X at *
 generalize a / d * n = V at *
 generalize a % d * n = Z at *
 clear e1 e2 hr hr0 hq0 e3 e4
 refine en Tryz.func146 Tryz.ntmps146 [.tmp 6, .tmp 7, .tmp 8] rfl ?_
 repeat' first
  | refine wkg trivial ?_
  | (refine cS (fun hb => ?_) fun hb => ?_ <;> try (cases hb; done))
  | refine sM fun K hK => ?_
  | fail
 all_goals first
  | (exfalso; omega)
  | (refine zR (by simp) ⟨_, _, _, evl, ob0, zV.eq ?_ (by simp [AV.free, AV.freeL])⟩; rw [f2, f4, f5])
theorem zDc (n : Int) (h : 0 ≤ n ∧ n ≤ 3000000000000000) : FnA Tryz.prog 147 [.raw (.int .i64 n), .raw (.bool true)] (.tup [.raw (.int .i64 n), .raw (.int .i64 0)]) := by
 have h1 := zOj n
 rw [yM1 (by omega : -3000000000000000 ≤ n), yM1 h.2] at h1
 refine en Tryz.func147 Tryz.ntmps147 [.tmp 4, .tmp 5] rfl ?_
 repeat' first
  | refine wkg h1 ?_
  | (refine cS (fun hb => ?_) fun hb => ?_ <;> try (cases hb; done))
  | refine sM fun K hK => ?_
  | fail
 refine rq ?_ ?_
 ·rfl
 ·simp [AV.free, AV.freeL]
theorem zTl (a n d : Int) (ha : 0 ≤ a ∧ a ≤ 3000000000000000) (hn : 1 ≤ n ∧ n ≤ 2000000000) (hd : 1 ≤ d ∧ d ≤ 2000000000) (hq : a / d ≤ 3000000000000000 / n) (hw : a * n / d < 3000000000000000) : FnA Tryz.prog 93 [.raw (.int .i64 a), .raw (.int .i64 n), .raw (.int .i64 d)] (.tup [.raw (.int .i64 (a * n / d)), .raw (.int .i64 0)]) := by
 have h1 := zKg a n d ha (by omega) hd
 have h2 := zN7 a n d ha hn hd hq
 have h3 := zDc (a * n / d) ⟨yMd (yLt ha.1 (by omega)) (by omega), by omega⟩
 clear hq hw
 generalize a * n / d = X at *
 generalize a * n % d = Y at *
 refine en Tryz.func93 Tryz.ntmps93 [.tmp 6, .tmp 7] rfl ?_
 repeat' first
  | refine wkg (And.intro h1 (And.intro h2 h3)) ?_
  | (refine cS (fun hb => ?_) fun hb => ?_ <;> try (cases hb; done))
  | refine sM fun K hK => ?_
  | fail
 refine rq ?_ ?_
 ·rfl
 ·simp [AV.free, AV.freeL]
theorem zWo (a n d : Int) (ha : 0 ≤ a ∧ a ≤ 3000000000000000) (hn : 1 ≤ n ∧ n ≤ 2000000000) (hd : 1 ≤ d ∧ d ≤ 2000000000) (hq : a / d ≤ 3000000000000000 / n) (hw : a * n / d < 3000000000000000) : FnA Tryz.prog 94 [.raw (.int .i64 a), .raw (.int .i64 n), .raw (.int .i64 d)] (.tup [.raw (.int .i64 (jP (a * n) d)), .raw (.int .i64 0)]) := by
 have h1 := zKg a n d ha (by omega) hd
 have h2 := zN7 a n d ha hn hd hq
 have w : 0 ≤ a * n / d := yMd (yLt ha.1 (by omega)) (by omega)
 have h3 := zDc (a * n / d) ⟨w, by omega⟩
 have h4 := zDc (a * n / d + 1) ⟨by omega, by omega⟩
 unfold jP
 clear hq
 generalize a * n / d = X at *
 generalize a * n % d = Y at *
 refine en Tryz.func94 Tryz.ntmps94 [.tmp 6, .tmp 7] rfl ?_
 repeat' first
  | refine wkg (And.intro h1 (And.intro h2 (And.intro h3 h4))) ?_
  | (refine cS (fun hb => ?_) fun hb => ?_ <;> try (cases hb; done))
  | refine sM fun K hK => ?_
  | fail
 ·refine rq ?_ ?_
  ·rw [if_pos hb]
  ·simp [AV.free, AV.freeL]
 ·refine rq ?_ ?_
  ·rw [if_neg (by omega), Int.add_zero]
  ·simp [AV.free, AV.freeL]
theorem zTv (n : Int) : FnA Tryz.prog 91 [.raw (.int .i64 n)] (.raw (.bool (decide (0 ≤ n) && decide (n ≤ 1000000)))) := by
 refine en Tryz.func91 Tryz.ntmps91 [.tmp 2] rfl ?_
 repeat' first
  | refine wkg trivial ?_
  | (refine cS (fun hb => ?_) fun hb => ?_ <;> try (cases hb; done))
  | refine sM fun K hK => ?_
  | fail
 all_goals exact fA
theorem zMi (n : Int) : FnA Tryz.prog 92 [.raw (.int .i64 n)] (.raw (.bool (decide (0 ≤ n) && decide (n ≤ 1000000000000000)))) := by
 refine en Tryz.func92 Tryz.ntmps92 [.tmp 2] rfl ?_
 repeat' first
  | refine wkg trivial ?_
  | (refine cS (fun hb => ?_) fun hb => ?_ <;> try (cases hb; done))
  | refine sM fun K hK => ?_
  | fail
 all_goals exact fA
end Go.Proofs.YtchpbdecipcelaaGreatDoor
