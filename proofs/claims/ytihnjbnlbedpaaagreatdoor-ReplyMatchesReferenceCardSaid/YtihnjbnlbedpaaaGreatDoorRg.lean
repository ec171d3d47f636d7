/- The reference of chapter 23: what the statements on signed replies need. -/
import Derived.Test.YtihnjbnlbedpaaaGreatDoorRh
namespace Go.Proofs.YtihnjbnlbedpaaaGreatDoor
set_option linter.unusedVariables false
set_option linter.unusedSimpArgs false
set_option maxHeartbeats 4000000
set_option maxRecDepth 100000
open Go.RowKit
def secM (n : Int) : Int := 1 + n.tmod 1073741788
theorem secM_range {n : Int} (h : inK .u64 n) : 1 ≤ secM n ∧ secM n < 1073741789 := by
  simp only [inK] at h
  unfold secM
  rw [Int.tmod_eq_emod_of_nonneg h.1]
  omega
theorem secretR_A (n : Int) (h : inK .u64 n) : FnA Tryz.prog 28 [.raw (.int .u64 n)] (.raw (.int .i64 (secM n))) := by
  have hr := secM_range h
  unfold secM at *
  have h1 : inK .i64 (n.tmod 1073741788) := by simp only [inK]; omega
  simp only [inK] at h
  refine fnA_of tblOk Tryz.func28 rfl (by kernel_rfl) 7 Tryz.ntmps28 (by simp only [List.length_cons, List.length_nil]; omega) [.tmp 2] rfl ?_
  simp only [entrySt, argSl, Nat.zero_add, Nat.reduceAdd]
  repeat' first
    | refine wkG trivial ?_
    | (refine cndS ⟨_, evl, ⟨cb, cb⟩, fun hb => ?_, fun hb => ?_⟩ <;> try (cases hb; done))
    | (refine Stop.mk ?_; intro K hK)
    | fail
  all_goals (try (refine ret_of (by simp) ⟨_, _, _, evl, ob0, OutOk.sims ?_ fre⟩))
  all_goals first | exact Sims.refl _ | (refine Sims.of_eq ?_; first | rfl | (simp []; done) | (simp_all []; done) | (simp_all []; omega) | (simp []; grind) | (split <;> simp_all)) | exact simsF | (refine Sims.tup ?_; simp only [SimsL, and_true]; (repeat' apply And.intro) <;> first | exact simsF | skip) | (exfalso; first | omega | (simp_all; done) | (simp_all; omega)) | skip
theorem upperR_A (n : Int) (hn : inK .u64 n) : FnA Tryz.prog 57 [.raw (.int .u64 n)] (.raw (.int .i64 (n / 4294967296))) := by
  simp only [inK] at hn
  have h1 : inK .i64 (n.fdiv (2 ^ min (Int.toNat 32) 64)) := by rw [hi_eq]; simp only [inK]; omega
  refine fnA_of tblOk Tryz.func57 rfl (by kernel_rfl) 6 Tryz.ntmps57 (by simp only [List.length_cons, List.length_nil]; omega) [.tmp 2] rfl ?_
  simp only [entrySt, argSl, Nat.zero_add, Nat.reduceAdd]
  repeat' first
    | refine wkG trivial ?_
    | (refine cndS ⟨_, evl, ⟨cb, cb⟩, fun hb => ?_, fun hb => ?_⟩ <;> try (cases hb; done))
    | (refine Stop.mk ?_; intro K hK)
    | fail
  refine ret_of (by simp) ⟨_, _, _, evl, ob0, OutOk.eq ?_ ?_⟩
  · rw [hi_eq]
  · simp [AV.free, AV.freeL]
theorem lowerR_A (n : Int) (hn : inK .u64 n) : FnA Tryz.prog 58 [.raw (.int .u64 n)] (.raw (.int .i64 (n % 4294967296))) := by
  have h2 := lo_eq hn
  simp only [inK] at hn
  have h3 : inK .i64 (bitI .and .u64 n 4294967295) := by rw [h2]; simp only [inK]; omega
  refine fnA_of tblOk Tryz.func58 rfl (by kernel_rfl) 6 Tryz.ntmps58 (by simp only [List.length_cons, List.length_nil]; omega) [.tmp 2] rfl ?_
  simp only [entrySt, argSl, Nat.zero_add, Nat.reduceAdd]
  repeat' first
    | refine wkG trivial ?_
    | (refine cndS ⟨_, evl, ⟨cb, cb⟩, fun hb => ?_, fun hb => ?_⟩ <;> try (cases hb; done))
    | (refine Stop.mk ?_; intro K hK)
    | fail
  refine ret_of (by simp) ⟨_, _, _, evl, ob0, OutOk.eq ?_ ?_⟩
  · rw [h2]
  · simp [AV.free, AV.freeL]
theorem rmessageR_A (r : Reply) (hn : inK .u64 r.nonce) : FnA Tryz.prog 17 [.agg r.av] (liA (msgR r)) := by
  have h1 := upperR_A r.nonce hn
  have h2 := lowerR_A r.nonce hn
  refine fnA_of tblOk Tryz.func17 rfl (by kernel_rfl) 26 Tryz.ntmps17 (by simp only [List.length_cons, List.length_nil]; omega) [.tmp 2] rfl ?_
  simp only [entrySt, argSl, Nat.zero_add, Nat.reduceAdd]
  repeat' first
    | refine wkG (And.intro h1 h2) ?_
    | (refine cndS ⟨_, evl, ⟨cb, cb⟩, fun hb => ?_, fun hb => ?_⟩ <;> try (cases hb; done))
    | (refine Stop.mk ?_; intro K hK)
    | fail
  refine ret_of (by simp) ⟨_, _, _, evl, ob0, OutOk.sims ?_ fre⟩
  exact (Sim.lstE rfl fun i hi => chunk_lit (enc := iC) (l := msgR r) (fun _ => rfl) rfl hi).s
theorem has02_A (i : Iv) (x : Int) : FnA Tryz.prog 36 [.agg i.av, .raw (.int .i64 x)] (.raw (.bool (decide (i.lo ≤ x) && decide (x ≤ i.hi)))) := by
  refine fnA_of tblOk Tryz.func36 rfl (by kernel_rfl) 15 Tryz.ntmps36 (by simp only [List.length_cons, List.length_nil]; omega) [.tmp 4] rfl ?_
  simp only [entrySt, argSl, Nat.zero_add, Nat.reduceAdd]
  repeat' first
    | refine wkG trivial ?_
    | (refine cndS ⟨_, evl, ⟨cb, cb⟩, fun hb => ?_, fun hb => ?_⟩ <;> try (cases hb; done))
    | (refine Stop.mk ?_; intro K hK)
    | fail
  all_goals (try (refine ret_of (by simp) ⟨_, _, _, evl, ob0, OutOk.sims ?_ fre⟩))
  all_goals first | exact Sims.refl _ | (refine Sims.of_eq ?_; first | rfl | (simp []; done) | (simp_all []; done) | (simp_all []; omega) | (simp []; grind) | (split <;> simp_all)) | exact simsF | (refine Sims.tup ?_; simp only [SimsL, and_true]; (repeat' apply And.intro) <;> first | exact simsF | skip) | (exfalso; first | omega | (simp_all; done) | (simp_all; omega)) | skip
end Go.Proofs.YtihnjbnlbedpaaaGreatDoor
