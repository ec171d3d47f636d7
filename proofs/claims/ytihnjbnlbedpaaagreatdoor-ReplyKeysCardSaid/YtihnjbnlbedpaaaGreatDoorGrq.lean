/- package group: its functions. -/
import Derived.Test.YtihnjbnlbedpaaaGreatDoorGrp
import Derived.Test.YtihnjbnlbedpaaaGreatDoorA6
namespace Go.Proofs.YtihnjbnlbedpaaaGreatDoor
set_option linter.unusedVariables false
set_option linter.unusedSimpArgs false
set_option maxHeartbeats 4000000
set_option maxRecDepth 100000
open Go.RowKit
/-- a to the power of x, modulo P, by squaring. -/
def powF : Nat → Nat → Nat → Nat → Nat
  | 0, _, _, o => o
  | f + 1, a, x, o => if x = 0 then o else powF f (a * a % 2147483579) (x / 2) (if x % 2 = 1 then o * a % 2147483579 else o)
def powM (a x : Nat) : Nat := powF 64 (a % 2147483579) x 1
theorem powF_eq : ∀ (f a x o : Nat), x < 2 ^ f → o < 2147483579 → powF f a x o = o * a ^ x % 2147483579
  | 0, a, x, o, h, ho => by
    have : x = 0 := by simpa using h
    subst this
    simp [powF, Nat.mod_eq_of_lt ho]
  | f + 1, a, x, o, h, ho => by
    unfold powF
    split
    · rename_i h0; subst h0; simp [Nat.mod_eq_of_lt ho]
    · have hx : x / 2 < 2 ^ f := by rw [Nat.pow_succ] at h; omega
      have hy2 : a ^ x = a ^ (x % 2) * (a * a) ^ (x / 2) := by
        rw [← Nat.pow_two, ← Nat.pow_mul, ← Nat.pow_add]; congr 1; omega
      split
      · rename_i h1
        rw [powF_eq f _ _ _ hx (Nat.mod_lt _ (by omega)), hy2, h1, Nat.pow_one, ← Nat.mul_assoc, Nat.mul_mod, Nat.mod_mod, ← Nat.pow_mod, ← Nat.mul_mod]
      · rename_i h1
        rw [powF_eq f _ _ _ hx ho, hy2, show x % 2 = 0 from by omega, Nat.pow_zero, Nat.one_mul, Nat.mul_mod, ← Nat.pow_mod, ← Nat.mul_mod]
theorem powM_eq (a x : Nat) (h : x < 18446744073709551616) : powM a x = a ^ x % 2147483579 := by
  rw [powM, powF_eq _ _ _ _ (by simpa using h) (by omega), Nat.one_mul, ← Nat.pow_mod]
theorem powM_lt (a x : Nat) (h : x < 18446744073709551616) : powM a x < 2147483579 := by rw [powM_eq a x h]; exact Nat.mod_lt _ (by omega)
theorem pow_A (a x : Int) (ha : 0 ≤ a ∧ a < 2147483579) (hx : 0 ≤ x ∧ x < 9223372036854775808) : FnA Tryz.prog 133 [.raw (.int .i64 a), .raw (.int .i64 x)] (.raw (.int .i64 (powM a.toNat x.toNat))) := by
  have h := power_A a.toNat x.toNat (by omega) (by omega)
  rw [← powM_eq _ _ (by omega)] at h
  rwa [Int.toNat_of_nonneg ha.1, Int.toNat_of_nonneg hx.1] at h
def withinM (x low : Int) : Bool := decide (low ≤ x) && decide (x < 1073741789)
theorem within_A (x low : Int) : FnA Tryz.prog 131 [.raw (.int .i64 x), .raw (.int .i64 low)] (.raw (.bool (withinM x low))) := by
  refine fnA_of tblOk Tryz.func131 rfl (by kernel_rfl) 12 Tryz.ntmps131 (by simp only [List.length_cons, List.length_nil]; omega) [.tmp 4] rfl ?_
  simp only [entrySt, argSl, Nat.zero_add, Nat.reduceAdd]
  repeat'
    first
      | first
        | (refine runS_nil (hK _ ?_); clear hK K)
        | refine stG ?_
        | (refine gateA 1 rfl ?_; refine runA_put ?_)
        | (refine gateBc ?_; first | (refine runB_nil (hK _ ?_); clear hK K) | (refine runB_op rfl ⟨_, evl, fun nb' => ?_⟩))
        | refine wpA_region (fun K hK => ?_)
        | (refine gateD ?_; first | (refine wpA_drawG false rfl (by kernel_rfl) (by kernel_rfl) (fun K hK => ?_)) | (refine wpA_drawG true rfl (by kernel_rfl) (by kernel_rfl) (fun K hK => ?_)))
        | (refine wpA_cond' ⟨_, evl, fun hb => ?_, fun hb => ?_⟩ <;> (try simp only [Bool.or_eq_true, Bool.and_eq_true, Bool.or_eq_false_iff, Bool.and_eq_false_iff, Bool.not_eq_true', Bool.not_eq_false', Bool.not_eq_true, Bool.not_eq_false, decide_eq_true_eq, decide_eq_false_iff_not, Bool.true_eq_false, Bool.false_eq_true, ne_eq, Classical.not_not, Int.not_lt, Int.not_le, Bool.not_true, Bool.not_false] at hb))
      | fail
  all_goals (try (refine ret_of (by simp) ⟨_, _, _, evl, ob0, OutOk.sims ?_ (by first | (simp [AV.free, AV.freeL, go_sem]; done) | exact lA_free (fun _ => by simp [AV.free, AV.freeL, u8C, iC]) _ | (simp_all [AV.free, AV.freeL, sA, u8C, iC]; done))⟩))
  all_goals first | exact Sims.refl _ | (refine Sims.of_eq ?_; first | rfl | (simp [withinM]; done) | (simp_all [withinM]; done) | (simp_all [withinM]; omega) | (simp [withinM]; grind) | (split <;> simp_all)) | exact simsF | (refine Sims.tup ?_; simp only [SimsL, and_true]; (repeat' apply And.intro) <;> first | exact simsF | skip) | (exfalso; first | omega | (simp_all; done) | (simp_all; omega)) | skip
def memberM (a : Int) : Bool := decide (0 < a) && decide (a < 2147483579) && decide ((powM a.toNat 1073741789 : Int) = 1)
theorem member_A (a : Int) : FnA Tryz.prog 170 [.raw (.int .i64 a)] (.raw (.bool (memberM a))) := by
  refine fnA_of tblOk Tryz.func170 rfl (by kernel_rfl) 14 Tryz.ntmps170 (by simp only [List.length_cons, List.length_nil]; omega) [.tmp 2] rfl ?_
  simp only [entrySt, argSl, Nat.zero_add, Nat.reduceAdd]
  repeat'
    first
      | first
        | (refine runS_nil (hK _ ?_); clear hK K)
        | refine stG ?_
        | (refine gateS 1 rfl ?_; refine runS_call rfl rfl ⟨_, evl, _, _, _, evl, oblF, ?_⟩; apply Exists.intro; refine ⟨fun hg => ?_, ?_⟩; · first | exact FnA.at_ (pow_A a 1073741789 (by simp at hg; omega) (by omega)) rfl rfl | exact FnA.at_s (pow_A a 1073741789 (by simp at hg; omega) (by omega)) rfl simT | exact FnA.at_s (pow_A a 1073741789 (by simp at hg; omega) (by omega)) rfl simF)
        | (refine gateA 1 rfl ?_; refine runA_call rfl ⟨_, evl, _, _, _, (fun _ _ => evlA), oblF, ?_⟩; apply Exists.intro; refine ⟨fun hg => ?_, ?_⟩; · first | exact FnA.at_ (pow_A a 1073741789 (by simp at hg; omega) (by omega)) rfl rfl | exact FnA.at_s (pow_A a 1073741789 (by simp at hg; omega) (by omega)) rfl simT | exact FnA.at_s (pow_A a 1073741789 (by simp at hg; omega) (by omega)) rfl simF)
        | (refine gateA 1 rfl ?_; refine runA_put ?_)
        | (refine gateBc ?_; first | (refine runB_nil (hK _ ?_); clear hK K) | (refine runB_op rfl ⟨_, evl, fun nb' => ?_⟩))
        | refine wpA_region (fun K hK => ?_)
        | (refine gateD ?_; first | (refine wpA_drawG false rfl (by kernel_rfl) (by kernel_rfl) (fun K hK => ?_)) | (refine wpA_drawG true rfl (by kernel_rfl) (by kernel_rfl) (fun K hK => ?_)))
        | (refine wpA_cond' ⟨_, evl, fun hb => ?_, fun hb => ?_⟩ <;> (try simp only [Bool.or_eq_true, Bool.and_eq_true, Bool.or_eq_false_iff, Bool.and_eq_false_iff, Bool.not_eq_true', Bool.not_eq_false', Bool.not_eq_true, Bool.not_eq_false, decide_eq_true_eq, decide_eq_false_iff_not, Bool.true_eq_false, Bool.false_eq_true, ne_eq, Classical.not_not, Int.not_lt, Int.not_le, Bool.not_true, Bool.not_false] at hb))
      | fail
  all_goals (try (refine ret_of (by simp) ⟨_, _, _, evl, ob0, OutOk.sims ?_ (by first | (simp [AV.free, AV.freeL, go_sem]; done) | exact lA_free (fun _ => by simp [AV.free, AV.freeL, u8C, iC]) _ | (simp_all [AV.free, AV.freeL, sA, u8C, iC]; done))⟩))
  all_goals first | exact Sims.refl _ | (refine Sims.of_eq ?_; first | rfl | (simp [memberM]; done) | (simp_all [memberM]; done) | (simp_all [memberM]; omega) | rfl | (simp [memberM]; grind) | (split <;> simp_all)) | exact simsF | (refine Sims.tup ?_; simp only [SimsL, and_true]; (repeat' apply And.intro) <;> first | exact simsF | skip) | (exfalso; first | omega | (simp_all; done) | (simp_all; omega)) | skip
theorem memberM_iff (a : Int) : memberM a = true ↔ 0 < a ∧ a < 2147483579 ∧ powM a.toNat 1073741789 = 1 := by
  simp [memberM]; omega
def expM (a x : Int) : Int × Int := if memberM a && withinM x 0 then ((powM a.toNat x.toNat : Int), 0) else (0, 1)
theorem exp_A (a x : Int) : FnA Tryz.prog 120 [.raw (.int .i64 a), .raw (.int .i64 x)] (.tup [.raw (.int .i64 (expM a x).1), .raw (.int .i64 (expM a x).2)]) := by
  refine fnA_of tblOk Tryz.func120 rfl (by kernel_rfl) 17 Tryz.ntmps120 (by simp only [List.length_cons, List.length_nil]; omega) [.tmp 4, .tmp 5] rfl ?_
  simp only [entrySt, argSl, Nat.zero_add, Nat.reduceAdd]
  repeat'
    first
      | first
        | (refine runS_nil (hK _ ?_); clear hK K)
        | refine stG ?_
        | (refine gateS 1 rfl ?_; refine runS_call rfl rfl ⟨_, evl, _, _, _, evl, oblF, ?_⟩; apply Exists.intro; refine ⟨fun hg => ?_, ?_⟩; · first | exact FnA.at_ (member_A a) rfl rfl | exact FnA.at_ (within_A x 0) rfl rfl | exact FnA.at_ (pow_A a x (by simp [memberM] at hb; omega) (by simp [withinM] at hb; omega)) rfl rfl | exact FnA.at_s (member_A a) rfl simT | exact FnA.at_s (member_A a) rfl simF | exact FnA.at_s (within_A x 0) rfl simT | exact FnA.at_s (within_A x 0) rfl simF | exact FnA.at_s (pow_A a x (by simp [memberM] at hb; omega) (by simp [withinM] at hb; omega)) rfl simT | exact FnA.at_s (pow_A a x (by simp [memberM] at hb; omega) (by simp [withinM] at hb; omega)) rfl simF)
        | (refine gateA 1 rfl ?_; refine runA_call rfl ⟨_, evl, _, _, _, (fun _ _ => evlA), oblF, ?_⟩; apply Exists.intro; refine ⟨fun hg => ?_, ?_⟩; · first | exact FnA.at_ (member_A a) rfl rfl | exact FnA.at_ (within_A x 0) rfl rfl | exact FnA.at_ (pow_A a x (by simp [memberM] at hb; omega) (by simp [withinM] at hb; omega)) rfl rfl | exact FnA.at_s (member_A a) rfl simT | exact FnA.at_s (member_A a) rfl simF | exact FnA.at_s (within_A x 0) rfl simT | exact FnA.at_s (within_A x 0) rfl simF | exact FnA.at_s (pow_A a x (by simp [memberM] at hb; omega) (by simp [withinM] at hb; omega)) rfl simT | exact FnA.at_s (pow_A a x (by simp [memberM] at hb; omega) (by simp [withinM] at hb; omega)) rfl simF)
        | (refine gateA 1 rfl ?_; refine runA_put ?_)
        | (refine gateBc ?_; first | (refine runB_nil (hK _ ?_); clear hK K) | (refine runB_op rfl ⟨_, evl, fun nb' => ?_⟩))
        | refine wpA_region (fun K hK => ?_)
        | (refine gateD ?_; first | (refine wpA_drawG false rfl (by kernel_rfl) (by kernel_rfl) (fun K hK => ?_)) | (refine wpA_drawG true rfl (by kernel_rfl) (by kernel_rfl) (fun K hK => ?_)))
        | (refine wpA_cond' ⟨_, evl, fun hb => ?_, fun hb => ?_⟩ <;> (try simp only [Bool.or_eq_true, Bool.and_eq_true, Bool.or_eq_false_iff, Bool.and_eq_false_iff, Bool.not_eq_true', Bool.not_eq_false', Bool.not_eq_true, Bool.not_eq_false, decide_eq_true_eq, decide_eq_false_iff_not, Bool.true_eq_false, Bool.false_eq_true, ne_eq, Classical.not_not, Int.not_lt, Int.not_le, Bool.not_true, Bool.not_false] at hb))
      | fail
  all_goals (try (refine ret_of (by simp) ⟨_, _, _, evl, ob0, OutOk.sims ?_ (by first | (simp [AV.free, AV.freeL, go_sem]; done) | exact lA_free (fun _ => by simp [AV.free, AV.freeL, u8C, iC]) _ | (simp_all [AV.free, AV.freeL, sA, u8C, iC]; done))⟩))
  all_goals first | exact Sims.refl _ | (refine Sims.of_eq ?_; first | rfl | (simp [expM]; done) | (simp_all [expM]; done) | (simp_all [expM]; omega) | (simp [expM]; grind) | (split <;> simp_all)) | exact simsF | (refine Sims.tup ?_; simp only [SimsL, and_true]; (repeat' apply And.intro) <;> first | exact simsF | skip) | (exfalso; first | omega | (simp_all; done) | (simp_all; omega)) | skip
end Go.Proofs.YtihnjbnlbedpaaaGreatDoor
