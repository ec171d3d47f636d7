/- The reference of chapter 23: Sign. -/
import Derived.Test.YtihnjbnlbedpaaaGreatDoorRg
namespace Go.Proofs.YtihnjbnlbedpaaaGreatDoor
set_option linter.unusedVariables false
set_option linter.unusedSimpArgs false
set_option maxHeartbeats 4000000
set_option maxRecDepth 100000
open Go.RowKit
theorem signM_ok {key once : Int} {m : List Int} (hk : withinM key 1 = true) (ho : withinM once 1 = true) : (signM key once m).2 = 0 := by
  unfold signM; rw [hk, ho]; rfl
theorem rsignR_A (key once : Int) (r : Reply) (hf : r.fits) : FnA Tryz.prog 19 [.raw (.int .i64 key), .raw (.int .i64 once), .agg r.av] (.tup [.agg (rsignM key once r).1.av, .raw (.int .i64 (rsignM key once r).2)]) := by
  have hb : (bare r).fits := ⟨hf.1, hf.2.1, hf.2.2.1, hf.2.2.2.1, hf.2.2.2.2.1, hf.2.2.2.2.2.1, hf.2.2.2.2.2.2.1, by simp [Sig.fits, inK]⟩
  have hv := reply11_A (bare r)
  have hm := rmessageR_A (bare r) hf.2.2.2.1
  have hs := signR_A key once (msgR (bare r)) (okI_msgR hb) (by simp [msgR])
  have k1 := keyR_A key
  have k2 := keyR_A once
  have hfm : (liA (msgR (bare r))).free := lA_free (fun _ => by simp [AV.free, AV.freeL, iC]) _
  have e0 : ¬ (withinM key 1 = true ∧ withinM once 1 = true) → signM key once (msgR (bare r)) = (⟨0, 0⟩, 1) := fun h => by
    rw [signM, if_neg (by simpa using h)]
  have e1 : withinM key 1 = true ∧ withinM once 1 = true → (signM key once (msgR (bare r))).2 = 0 := fun h => by
    exact signM_ok h.1 h.2
  unfold rsignM
  rw [show msgR r = msgR (bare r) from rfl]
  by_cases h1 : replyP (bare r)
  · rw [if_pos h1]
    rw [decide_eq_true h1] at hv
    by_cases h2 : withinM key 1 = true ∧ withinM once 1 = true
    · rw [if_pos (e1 h2)]
      rw [e1 h2] at hs
      rw [h2.1] at k1
      rw [h2.2] at k2
      clear e0 e1 h1 hb
      generalize signM key once (msgR (bare r)) = s at *
      generalize liA (msgR (bare r)) = M at *
      refine fnA_of tblOk Tryz.func19 rfl (by kernel_rfl) 43 Tryz.ntmps19 (by simp only [List.length_cons, List.length_nil]; omega) [.cell 6 31, .tmp 7] rfl ?_
      simp only [entrySt, argSl, Nat.zero_add, Nat.reduceAdd]
      repeat' first
        | refine wkG (And.intro hv (And.intro k1 (And.intro k2 (And.intro hm hs)))) ?_
        | (refine cndS ⟨_, evl, ⟨cb, cb⟩, fun hb => ?_, fun hb => ?_⟩ <;> try (cases hb; done))
        | (refine Stop.mk ?_; intro K hK)
        | fail
      refine ret_of (by simp) ⟨_, _, _, evl, ob0, OutOk.eq ?_ ?_⟩
      · rfl
      · simp [AV.free, AV.freeL, go_sem]
    · rw [e0 h2, if_neg (by decide)]
      clear hs hm e0 e1 hb h1
      generalize withinM key 1 = b1 at *
      generalize withinM once 1 = b2 at *
      refine fnA_of tblOk Tryz.func19 rfl (by kernel_rfl) 43 Tryz.ntmps19 (by simp only [List.length_cons, List.length_nil]; omega) [.cell 6 31, .tmp 7] rfl ?_
      simp only [entrySt, argSl, Nat.zero_add, Nat.reduceAdd]
      repeat' first
        | refine wkG (And.intro hv (And.intro k1 k2)) ?_
        | (refine cndS ⟨_, evl, ⟨cb, cb⟩, fun hb => ?_, fun hb => ?_⟩ <;> try (cases hb; done))
        | (refine Stop.mk ?_; intro K hK)
        | fail
      · refine ret_of (by simp) ⟨_, _, _, evl, ob0, OutOk.eq ?_ ?_⟩
        · rfl
        · simp [AV.free, AV.freeL, go_sem]
      · exact absurd hb h2
  · rw [if_neg h1]
    rw [decide_eq_false h1] at hv
    refine fnA_of tblOk Tryz.func19 rfl (by kernel_rfl) 43 Tryz.ntmps19 (by simp only [List.length_cons, List.length_nil]; omega) [.cell 6 31, .tmp 7] rfl ?_
    simp only [entrySt, argSl, Nat.zero_add, Nat.reduceAdd]
    repeat' first
      | refine wkG (And.intro hv (And.intro k1 k2)) ?_
      | (refine cndS ⟨_, evl, ⟨cb, cb⟩, fun hb => ?_, fun hb => ?_⟩ <;> try (cases hb; done))
      | (refine Stop.mk ?_; intro K hK)
      | fail
    refine ret_of (by simp) ⟨_, _, _, evl, ob0, OutOk.eq ?_ ?_⟩
    · rfl
    · simp [AV.free, AV.freeL, go_sem]
end Go.Proofs.YtihnjbnlbedpaaaGreatDoor
