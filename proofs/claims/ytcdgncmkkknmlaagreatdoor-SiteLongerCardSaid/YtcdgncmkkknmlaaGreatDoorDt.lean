/- The reference of chapters 1 and 7: counts. -/
import Derived.Test.YtcdgncmkkknmlaaGreatDoorDs
namespace Go.Proofs.YtcdgncmkkknmlaaGreatDoor
set_option linter.unusedVariables false
set_option linter.unusedSimpArgs false
set_option maxHeartbeats 4000000
set_option maxRecDepth 100000
open Go.RowKit
theorem timeR_A (n : Int) : FnA Tryz.prog 137 [.raw (.int .i64 n)] (.raw (.bool (decide (-3000000000000000 ≤ n) && decide (n ≤ 3000000000000000)))) := by
  refine fnA_of tblOk Tryz.func137 rfl (by kernel_rfl) 9 Tryz.ntmps137 (by simp only [List.length_cons, List.length_nil]; omega) [.tmp 2] rfl ?_
  simp only [entrySt, argSl, Nat.zero_add, Nat.reduceAdd]
  repeat' first
    | refine wkG trivial ?_
    | (refine cndS ⟨_, evl, ⟨cb, cb⟩, fun hb => ?_, fun hb => ?_⟩ <;> try (cases hb; done))
    | (refine Stop.mk ?_; intro K hK)
    | fail
  all_goals (try (refine ret_of (by simp) ⟨_, _, _, evl, ob0, OutOk.sims ?_ fre⟩))
  all_goals first | exact Sims.refl _ | (refine Sims.of_eq ?_; first | rfl | (simp []; done) | (simp_all []; done) | (simp_all []; omega) | (simp []; grind) | (split <;> simp_all)) | exact simsF | (refine Sims.tup ?_; simp only [SimsL, and_true]; (repeat' apply And.intro) <;> first | exact simsF | skip) | (exfalso; first | omega | (simp_all; done) | (simp_all; omega)) | skip
theorem factorR_A (n : Int) : FnA Tryz.prog 138 [.raw (.int .i64 n)] (.raw (.bool (decide (0 ≤ n) && decide (n ≤ 2000000000)))) := by
  refine fnA_of tblOk Tryz.func138 rfl (by kernel_rfl) 9 Tryz.ntmps138 (by simp only [List.length_cons, List.length_nil]; omega) [.tmp 2] rfl ?_
  simp only [entrySt, argSl, Nat.zero_add, Nat.reduceAdd]
  repeat' first
    | refine wkG trivial ?_
    | (refine cndS ⟨_, evl, ⟨cb, cb⟩, fun hb => ?_, fun hb => ?_⟩ <;> try (cases hb; done))
    | (refine Stop.mk ?_; intro K hK)
    | fail
  all_goals (try (refine ret_of (by simp) ⟨_, _, _, evl, ob0, OutOk.sims ?_ fre⟩))
  all_goals first | exact Sims.refl _ | (refine Sims.of_eq ?_; first | rfl | (simp []; done) | (simp_all []; done) | (simp_all []; omega) | (simp []; grind) | (split <;> simp_all)) | exact simsF | (refine Sims.tup ?_; simp only [SimsL, and_true]; (repeat' apply And.intro) <;> first | exact simsF | skip) | (exfalso; first | omega | (simp_all; done) | (simp_all; omega)) | skip
theorem rightR01_A (a n d : Int) (ha : 0 ≤ a ∧ a ≤ 3000000000000000) (hn : 0 ≤ n ∧ n ≤ 2000000000) (hd : 1 ≤ d ∧ d ≤ 2000000000) : FnA Tryz.prog 126 [.raw (.int .i64 a), .raw (.int .i64 n), .raw (.int .i64 d)] (.raw (.bool true)) := by
  have h1 := timeR_A a
  have h2 := factorR_A n
  have h3 := factorR_A d
  rw [decide_eq_true (by omega : -3000000000000000 ≤ a), decide_eq_true ha.2] at h1
  rw [decide_eq_true hn.1, decide_eq_true hn.2] at h2
  rw [decide_eq_true (by omega : 0 ≤ d), decide_eq_true hd.2] at h3
  refine fnA_of tblOk Tryz.func126 rfl (by kernel_rfl) 21 Tryz.ntmps126 (by simp only [List.length_cons, List.length_nil]; omega) [.tmp 6] rfl ?_
  simp only [entrySt, argSl, Nat.zero_add, Nat.reduceAdd]
  repeat' first
    | refine wkG (And.intro h1 (And.intro h2 h3)) ?_
    | (refine cndS ⟨_, evl, ⟨cb, cb⟩, fun hb => ?_, fun hb => ?_⟩ <;> try (cases hb; done))
    | (refine Stop.mk ?_; intro K hK)
    | fail
  refine ret_of (by simp) ⟨_, _, _, evl, ob0, OutOk.eq ?_ ?_⟩
  · simp [hd.1]
  · simp [AV.free]
theorem splitR_A (a n d : Int) (ha : 0 ≤ a ∧ a < d) (hn : 0 ≤ n ∧ n ≤ 2000000000) (hd : 1 ≤ d ∧ d ≤ 2000000000) : FnA Tryz.prog 127 [.raw (.int .i64 a), .raw (.int .i64 n), .raw (.int .i64 d)] (.tup [.raw (.int .i64 (a * n / d)), .raw (.int .i64 (a * n % d)), .raw (.bool true)]) := by
  have e1 : a.tdiv d = 0 := Int.tdiv_eq_zero_of_lt ha.1 ha.2
  have e2 : a.tmod d = a := by rw [Int.tmod_eq_emod_of_nonneg ha.1, Int.emod_eq_of_lt ha.1 ha.2]
  have h0 : 0 ≤ a * n := Int.mul_nonneg ha.1 hn.1
  have h1 : a * n ≤ 4000000000000000000 := by
    calc a * n ≤ 2000000000 * n := Int.mul_le_mul_of_nonneg_right (by omega) hn.1
      _ ≤ 2000000000 * 2000000000 := Int.mul_le_mul_of_nonneg_left hn.2 (by decide)
  have e3 : (a * n).tdiv d = a * n / d := Int.tdiv_eq_ediv_of_nonneg h0
  have e4 : (a * n).tmod d = a * n % d := Int.tmod_eq_emod_of_nonneg h0
  have e5 : 0 ≤ (3000000000000000 : Int).tdiv n := Int.tdiv_nonneg (by decide) hn.1
  have e6 : (3000000000000000 : Int).tdiv n ≤ 3000000000000000 := by rw [Int.tdiv_eq_ediv_of_nonneg (by decide)]; exact Int.ediv_le_self _ (by decide)
  have w1 : 0 ≤ a * n / d := Int.ediv_nonneg h0 (by omega)
  have w2 : a * n / d ≤ a * n := Int.ediv_le_self _ h0
  have f3 : a.tdiv d * n = 0 := by rw [e1, Int.zero_mul]
  have f4 : a.tmod d * n = a * n := by rw [e2]
  have f5 : IntKind.i64.wrap (-(a.tdiv d)) = -(a.tdiv d) := by rw [e1]; rfl
  have f6 : (a.tmod d * n).tdiv d = a * n / d := by rw [f4, e3]
  have f7 : (a.tmod d * n).tmod d = a * n % d := by rw [f4, e4]
  generalize a * n / d = X at *
  generalize a * n % d = Y at *
  generalize a * n = Z at *
  refine fnA_of tblOk Tryz.func127 rfl (by kernel_rfl) 54 Tryz.ntmps127 (by simp only [List.length_cons, List.length_nil]; omega) [.tmp 6, .tmp 7, .tmp 8] rfl ?_
  simp only [entrySt, argSl, Nat.zero_add, Nat.reduceAdd]
  repeat' first
    | refine wkG trivial ?_
    | (refine cndS ⟨_, evl, ⟨cb, cb⟩, fun hb => ?_, fun hb => ?_⟩ <;> try (cases hb; done))
    | (refine Stop.mk ?_; intro K hK)
    | fail
  all_goals first
    | (exfalso; omega)
    | (refine ret_of (by simp) ⟨_, _, _, evl, ob0, OutOk.eq ?_ (by simp [AV.free, AV.freeL])⟩; rw [f3, f6, f7, Int.zero_add])
theorem resultR_A (n : Int) (h : 0 ≤ n ∧ n ≤ 3000000000000000) : FnA Tryz.prog 128 [.raw (.int .i64 n), .raw (.bool true)] (.tup [.raw (.int .i64 n), .raw (.int .i64 0)]) := by
  have h1 := timeR_A n
  rw [decide_eq_true (by omega : -3000000000000000 ≤ n), decide_eq_true h.2] at h1
  refine fnA_of tblOk Tryz.func128 rfl (by kernel_rfl) 14 Tryz.ntmps128 (by simp only [List.length_cons, List.length_nil]; omega) [.tmp 4, .tmp 5] rfl ?_
  simp only [entrySt, argSl, Nat.zero_add, Nat.reduceAdd]
  repeat' first
    | refine wkG h1 ?_
    | (refine cndS ⟨_, evl, ⟨cb, cb⟩, fun hb => ?_, fun hb => ?_⟩ <;> try (cases hb; done))
    | (refine Stop.mk ?_; intro K hK)
    | fail
  refine ret_of (by simp) ⟨_, _, _, evl, ob0, OutOk.eq ?_ ?_⟩
  · rfl
  · simp [AV.free, AV.freeL]
theorem floorR_A (a n d : Int) (ha : 0 ≤ a ∧ a < d) (hn : 0 ≤ n ∧ n ≤ 2000000000) (hd : 1 ≤ d ∧ d ≤ 2000000000) (hq : a * n / d < 3000000000000000) : FnA Tryz.prog 100 [.raw (.int .i64 a), .raw (.int .i64 n), .raw (.int .i64 d)] (.tup [.raw (.int .i64 (a * n / d)), .raw (.int .i64 0)]) := by
  have h1 := rightR01_A a n d (by omega) hn hd
  have h2 := splitR_A a n d ha hn hd
  have h3 := resultR_A (a * n / d) ⟨Int.ediv_nonneg (Int.mul_nonneg ha.1 hn.1) (by omega), by omega⟩
  generalize a * n / d = X at *
  generalize a * n % d = Y at *
  refine fnA_of tblOk Tryz.func100 rfl (by kernel_rfl) 34 Tryz.ntmps100 (by simp only [List.length_cons, List.length_nil]; omega) [.tmp 6, .tmp 7] rfl ?_
  simp only [entrySt, argSl, Nat.zero_add, Nat.reduceAdd]
  repeat' first
    | refine wkG (And.intro h1 (And.intro h2 h3)) ?_
    | (refine cndS ⟨_, evl, ⟨cb, cb⟩, fun hb => ?_, fun hb => ?_⟩ <;> try (cases hb; done))
    | (refine Stop.mk ?_; intro K hK)
    | fail
  refine ret_of (by simp) ⟨_, _, _, evl, ob0, OutOk.eq ?_ ?_⟩
  · rfl
  · simp [AV.free, AV.freeL]
theorem ceilR_A (a n d : Int) (ha : 0 ≤ a ∧ a < d) (hn : 0 ≤ n ∧ n ≤ 2000000000) (hd : 1 ≤ d ∧ d ≤ 2000000000) (hq : a * n / d < 3000000000000000) : FnA Tryz.prog 101 [.raw (.int .i64 a), .raw (.int .i64 n), .raw (.int .i64 d)] (.tup [.raw (.int .i64 (ceilD (a * n) d)), .raw (.int .i64 0)]) := by
  have h1 := rightR01_A a n d (by omega) hn hd
  have h2 := splitR_A a n d ha hn hd
  have w : 0 ≤ a * n / d := Int.ediv_nonneg (Int.mul_nonneg ha.1 hn.1) (by omega)
  have h3 := resultR_A (a * n / d) ⟨w, by omega⟩
  have h4 := resultR_A (a * n / d + 1) ⟨by omega, by omega⟩
  unfold ceilD
  generalize a * n / d = X at *
  generalize a * n % d = Y at *
  refine fnA_of tblOk Tryz.func101 rfl (by kernel_rfl) 38 Tryz.ntmps101 (by simp only [List.length_cons, List.length_nil]; omega) [.tmp 6, .tmp 7] rfl ?_
  simp only [entrySt, argSl, Nat.zero_add, Nat.reduceAdd]
  repeat' first
    | refine wkG (And.intro h1 (And.intro h2 (And.intro h3 h4))) ?_
    | (refine cndS ⟨_, evl, ⟨cb, cb⟩, fun hb => ?_, fun hb => ?_⟩ <;> try (cases hb; done))
    | (refine Stop.mk ?_; intro K hK)
    | fail
  · refine ret_of (by simp) ⟨_, _, _, evl, ob0, OutOk.eq ?_ ?_⟩
    · rw [if_pos hb]
    · simp [AV.free, AV.freeL]
  · refine ret_of (by simp) ⟨_, _, _, evl, ob0, OutOk.eq ?_ ?_⟩
    · rw [if_neg (by omega), Int.add_zero]
    · simp [AV.free, AV.freeL]
theorem countsR_A (rate e : Int) (he : e ≤ 10000000) : FnA Tryz.prog 62 [.raw (.int .i64 rate), .raw (.int .i64 e)] (.tup [.agg (countsM rate e).1.av, .raw (.int .i64 (countsM rate e).2)]) := by
  have h1 := boundR_A rate
  have h2 := stretchR_A e
  by_cases hc : (0 ≤ rate ∧ rate ≤ 1000000) ∧ 0 ≤ e ∧ e ≤ 1000000000000000
  · rw [countsM, if_pos hc]
    rw [decide_eq_true hc.1.1, decide_eq_true hc.1.2] at h1
    rw [decide_eq_true hc.2.1, decide_eq_true hc.2.2] at h2
    obtain ⟨⟨r1, r2⟩, r3, r4⟩ := hc
    have m1 := small_mul (e := e) (r := 1000000000 - rate) ⟨r3, he⟩ (by omega)
    have m2 := small_mul (e := e) (r := 1000000000 + rate) ⟨r3, he⟩ (by omega)
    have f1 := floorR_A e (1000000000 - rate) 1000000000 (by omega) (by omega) (by omega) (by omega)
    have f2 := ceilR_A e (1000000000 + rate) 1000000000 (by omega) (by omega) (by omega) (by omega)
    generalize e * (1000000000 - rate) / 1000000000 = X at *
    generalize ceilD (e * (1000000000 + rate)) 1000000000 = Y at *
    clear m1 m2
    refine fnA_of tblOk Tryz.func62 rfl (by kernel_rfl) 36 Tryz.ntmps62 (by simp only [List.length_cons, List.length_nil]; omega) [.cell 4 47, .tmp 5] rfl ?_
    simp only [entrySt, argSl, Nat.zero_add, Nat.reduceAdd]
    repeat' first
      | refine wkG (And.intro h1 (And.intro h2 (And.intro f1 f2))) ?_
      | (refine cndS ⟨_, evl, ⟨cb, cb⟩, fun hb => ?_, fun hb => ?_⟩ <;> try (cases hb; done))
      | (refine Stop.mk ?_; intro K hK)
      | fail
    refine ret_of (by simp) ⟨_, _, _, evl, ob0, OutOk.eq ?_ ?_⟩
    · rfl
    · simp [AV.free, AV.freeL, go_sem]
  · rw [countsM, if_neg hc]
    refine fnA_of tblOk Tryz.func62 rfl (by kernel_rfl) 36 Tryz.ntmps62 (by simp only [List.length_cons, List.length_nil]; omega) [.cell 4 47, .tmp 5] rfl ?_
    simp only [entrySt, argSl, Nat.zero_add, Nat.reduceAdd]
    repeat' first
      | refine wkG (And.intro h1 h2) ?_
      | (refine cndS ⟨_, evl, ⟨cb, cb⟩, fun hb => ?_, fun hb => ?_⟩ <;> try (cases hb; done))
      | (refine Stop.mk ?_; intro K hK)
      | fail
    · refine ret_of (by simp) ⟨_, _, _, evl, ob0, OutOk.eq ?_ ?_⟩
      · rfl
      · simp [AV.free, AV.freeL, go_sem]
    · exact absurd ⟨hb.1, hb.2⟩ hc
end Go.Proofs.YtcdgncmkkknmlaaGreatDoor
