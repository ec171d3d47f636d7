/- The references of layers 3 and 6. -/
import Derived.Test.YtcdgncmkkknmlaaGreatDoorGrq
namespace Go.Proofs.YtcdgncmkkknmlaaGreatDoor
set_option linter.unusedVariables false
set_option linter.unusedSimpArgs false
set_option maxHeartbeats 4000000
set_option maxRecDepth 100000
open Go.RowKit
theorem powerR_A (a x m : Nat) (hm : 1 < m) (hm2 : m < 2147483648) (ha : a < m) (hx : x < 9223372036854775808) : FnA Tryz.prog 80 [.raw (.int .i64 a), .raw (.int .i64 x), .raw (.int .i64 m)] (.raw (.int .i64 ((a ^ x % m : Nat) : Int))) := by
  have hmul : ∀ b c : Nat, b < m → c < m → b * c < 4611686018427387904 := fun b c hb hc => by
    have h1 : b * c ≤ 2147483647 * c := Nat.mul_le_mul_right _ (by omega)
    omega
  refine fnA_of tblOk Tryz.func80 rfl (by kernel_rfl) 26 Tryz.ntmps80 (by simp only [List.length_cons, List.length_nil]; omega) [.tmp 6] rfl ?_
  simp only [entrySt, argSl, Nat.zero_add, Nat.reduceAdd]
  try refine wkG trivial ?_
  try (refine Stop.mk ?_; intro K hK)
  refine wpA_loop (fun s : Nat × Nat × Nat => ⟨26, 0, [(0, true, .raw (.int .i64 s.1)), (1, true, .raw (.int .i64 s.2.1)), (2, true, .raw (.int .i64 m)), (7, true, .raw (.int .i64 s.2.2))], [], [], ((0, []), [], true)⟩)
      (fun s => s.1 < m ∧ s.2.1 < 9223372036854775808 ∧ s.2.2 < m ∧ s.2.2 * s.1 ^ s.2.1 % m = a ^ x % m) (fun s => s.2.1) (a, x, 1) ?_ ⟨ha, hx, hm, by simp⟩ ?_
  · refine wkn ?_ ?_ ?_
    all_goals first | exact wk0 | refine wkS ?_ | skip
    all_goals (try trivial)
    all_goals ((repeat' apply And.intro) <;> first | exact wkL | skip)
  · rintro ⟨b, y, o⟩ ⟨h1, h2, h3, h4⟩
    dsimp only at h1 h2 h3 h4 ⊢
    have hy2 : b ^ y = b ^ (y % 2) * (b * b) ^ (y / 2) := by
      rw [← Nat.pow_two, ← Nat.pow_mul, ← Nat.pow_add]; congr 1; omega
    have e1 : (b : Int) * b = ((b * b : Nat) : Int) := by simp
    have e2 : (o : Int) * b = ((o * b : Nat) : Int) := by simp
    have k1 := hmul b b h1 h1
    have k2 := hmul o b h3 h1
    have e3 : ∀ c : Nat, (c : Int).tmod m = ((c % m : Nat) : Int) := fun c => rfl
    have e4 : (y : Int).tmod 2 = ((y % 2 : Nat) : Int) := rfl
    have e5 : (y : Int).tdiv 2 = ((y / 2 : Nat) : Int) := rfl
    try refine wkG trivial ?_
    try (refine Stop.mk ?_; intro K hK)
    refine wpA_cond' ⟨_, evl, ?_, ?_⟩
    · intro hb
      simp only [decide_eq_true_eq] at hb
      try refine wkG trivial ?_
      try (refine Stop.mk ?_; intro K hK)
      refine wpA_cond' ⟨_, evl, ?_, ?_⟩
      · intro hc
        simp only [decide_eq_true_eq, e4] at hc
        try refine wkG trivial ?_
        try (refine Stop.mk ?_; intro K hK)
        refine ⟨(b * b % m, y / 2, o * b % m), ⟨Nat.mod_lt _ (by omega), by show y / 2 < _; omega, Nat.mod_lt _ (by omega), ?_⟩, by show y / 2 < y; omega, ?_⟩
        · rw [← h4, hy2, show y % 2 = 1 from by omega]
          show o * b % m * (b * b % m) ^ (y / 2) % m = _
          rw [Nat.pow_one, ← Nat.mul_assoc, Nat.mul_mod, Nat.mod_mod, ← Nat.pow_mod, ← Nat.mul_mod]
        · refine wkn ?_ ?_ ?_
          all_goals first | exact wk0 | refine wkS ?_ | skip
          all_goals (try trivial)
          all_goals ((repeat' apply And.intro) <;> first | exact wkL | skip)
      · intro hc
        simp only [decide_eq_false_iff_not, e4] at hc
        try refine wkG trivial ?_
        try (refine Stop.mk ?_; intro K hK)
        refine ⟨(b * b % m, y / 2, o), ⟨Nat.mod_lt _ (by omega), by show y / 2 < _; omega, h3, ?_⟩, by show y / 2 < y; omega, ?_⟩
        · rw [← h4, hy2, show y % 2 = 0 from by omega]
          show o * (b * b % m) ^ (y / 2) % m = _
          rw [Nat.pow_zero, Nat.one_mul, Nat.mul_mod, ← Nat.pow_mod, ← Nat.mul_mod]
        · refine wkn ?_ ?_ ?_
          all_goals first | exact wk0 | refine wkS ?_ | skip
          all_goals (try trivial)
          all_goals ((repeat' apply And.intro) <;> first | exact wkL | skip)
    · intro hb
      simp only [decide_eq_false_iff_not] at hb
      try refine wkG trivial ?_
      try (refine Stop.mk ?_; intro K hK)
      refine ret_of (by simp) ⟨_, _, _, evl, ob0, OutOk.eq ?_ ?_⟩
      · rw [← h4, show y = 0 from by omega, Nat.pow_zero, Nat.mul_one, Nat.mod_eq_of_lt h3]
      · simp [AV.free]
theorem powR_A (a x : Int) (ha : 0 ≤ a ∧ a < 2147483579) (hx : 0 ≤ x ∧ x < 9223372036854775808) : FnA Tryz.prog 80 [.raw (.int .i64 a), .raw (.int .i64 x), .raw (.int .i64 2147483579)] (.raw (.int .i64 (powM a.toNat x.toNat))) := by
  have h := powerR_A a.toNat x.toNat 2147483579 (by omega) (by omega) (by omega) (by omega)
  rw [← powM_eq _ _ (by omega)] at h
  rwa [Int.toNat_of_nonneg ha.1, Int.toNat_of_nonneg hx.1] at h
theorem keyR_A (x : Int) : FnA Tryz.prog 93 [.raw (.int .i64 x)] (.raw (.bool (withinM x 1))) := by
  refine fnA_of tblOk Tryz.func93 rfl (by kernel_rfl) 9 Tryz.ntmps93 (by simp only [List.length_cons, List.length_nil]; omega) [.tmp 2] rfl ?_
  simp only [entrySt, argSl, Nat.zero_add, Nat.reduceAdd]
  repeat' first
    | refine wkG trivial ?_
    | (refine cndS ⟨_, evl, ⟨cb, cb⟩, fun hb => ?_, fun hb => ?_⟩ <;> try (cases hb; done))
    | (refine Stop.mk ?_; intro K hK)
    | fail
  all_goals (try (refine ret_of (by simp) ⟨_, _, _, evl, ob0, OutOk.sims ?_ fre⟩))
  all_goals first | exact Sims.refl _ | (refine Sims.of_eq ?_; first | rfl | (simp [withinM]; done) | (simp_all [withinM]; done) | (simp_all [withinM]; omega) | (simp [withinM]; grind) | (split <;> simp_all)) | exact simsF | (refine Sims.tup ?_; simp only [SimsL, and_true]; (repeat' apply And.intro) <;> first | exact simsF | skip) | (exfalso; first | omega | (simp_all; done) | (simp_all; omega)) | skip
end Go.Proofs.YtcdgncmkkknmlaaGreatDoor
