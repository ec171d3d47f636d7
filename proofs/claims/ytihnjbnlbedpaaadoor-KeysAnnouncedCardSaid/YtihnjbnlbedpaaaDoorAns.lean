/- The reference of layer 22: Announce. -/
import Derived.Test.YtihnjbnlbedpaaaDoorAnr
namespace Go.Proofs.YtihnjbnlbedpaaaDoor
set_option linter.unusedVariables false
set_option linter.unusedSimpArgs false
set_option maxHeartbeats 4000000
set_option maxRecDepth 100000
open Go.RowKit
theorem announceR_A (l : List KeyWin) (hl : l.length ≤ 4611686018427387904) (hf : ∀ k ∈ l, k.fits) (key once : Int) (next : KeyWin) (hn : next.fits) :
    FnA Tryd.prog 15 [lA 7 KeyWin.av l, .raw (.int .i64 key), .raw (.int .i64 once), .agg next.av] (.tup [lA 7 KeyWin.av (annM l key once next).1, .raw (.int .i64 (annM l key once next).2)]) := by
  have hfr : (lA 7 KeyWin.av l).free := lA_free (fun y => KeyWin.free y) _
  have hv := validR_A l hf
  have hfo := formR_A (next0 next)
  have hk := keyR_A key
  have ho := keyR_A once
  have hla := lastR_A l hl next.auth
  by_cases c1 : ((ValidP l ∧ formedP (next0 next)) ∧ withinM key 1 = true) ∧ withinM once 1 = true
  · have hle := findN_le l next.auth 1001
    rw [last_find c1.1.1.1] at hla
    have hb0 : (!decide (ValidP l) || !decide (formedP (next0 next)) || !withinM key 1 || !withinM once 1) = false := by
      rw [decide_eq_true c1.1.1.1, decide_eq_true c1.1.1.2, c1.1.2, c1.2]; rfl
    by_cases c2 : l.length = 100
    · rw [show annM l key once next = ([], 2) from by unfold annM; rw [if_neg (fun h => h c1), if_pos c2]]
      refine fnA_of tblOk Tryd.func15 rfl (by kernel_rfl) 92 Tryd.ntmps15 (by simp only [List.length_cons, List.length_nil]; omega) [.tmp 8, .tmp 9] rfl ?_
      simp only [entrySt, argSl, Nat.zero_add, Nat.reduceAdd]
      repeat'
        first
          | first
            | (refine runS_nil (hK _ ?_); clear hK K)
            | refine stR ?_
            | (refine gateS 1 rfl ?_; first | (refine runS_call rfl rfl ⟨_, evl, _, _, _, evl, oblF, ?_⟩; apply Exists.intro; refine ⟨fun hg => ?_, ?_⟩; · first | exact FnA.at_ (hv) rfl rfl | exact FnA.at_ (hfo) rfl rfl | exact FnA.at_ (hk) rfl rfl | exact FnA.at_ (ho) rfl rfl | exact FnA.at_s (hv) rfl simT | exact FnA.at_s (hv) rfl simF | exact FnA.at_s (hfo) rfl simT | exact FnA.at_s (hfo) rfl simF | exact FnA.at_s (hk) rfl simT | exact FnA.at_s (hk) rfl simF | exact FnA.at_s (ho) rfl simT | exact FnA.at_s (ho) rfl simF) | (refine runS_callR rfl rfl ⟨_, evl, _, _, _, evl, _, _, evl, oblF, ?_⟩; apply Exists.intro; refine ⟨fun hg => ?_, ?_⟩; · first | exact FnA.at_ (hv) rfl rfl | exact FnA.at_ (hfo) rfl rfl | exact FnA.at_ (hk) rfl rfl | exact FnA.at_ (ho) rfl rfl | exact FnA.at_s (hv) rfl simT | exact FnA.at_s (hv) rfl simF | exact FnA.at_s (hfo) rfl simT | exact FnA.at_s (hfo) rfl simF | exact FnA.at_s (hk) rfl simT | exact FnA.at_s (hk) rfl simF | exact FnA.at_s (ho) rfl simT | exact FnA.at_s (ho) rfl simF))
            | (refine gateA 1 rfl ?_; refine runA_call rfl ⟨_, evl, _, _, _, (fun _ _ => evlA), oblF, ?_⟩; apply Exists.intro; refine ⟨fun hg => ?_, ?_⟩; · first | exact FnA.at_ (hv) rfl rfl | exact FnA.at_ (hfo) rfl rfl | exact FnA.at_ (hk) rfl rfl | exact FnA.at_ (ho) rfl rfl | exact FnA.at_s (hv) rfl simT | exact FnA.at_s (hv) rfl simF | exact FnA.at_s (hfo) rfl simT | exact FnA.at_s (hfo) rfl simF | exact FnA.at_s (hk) rfl simT | exact FnA.at_s (hk) rfl simF | exact FnA.at_s (ho) rfl simT | exact FnA.at_s (ho) rfl simF)
            | (refine gateA 1 rfl ?_; refine runA_put ?_)
            | (refine gateBc ?_; first | (refine runB_nil (hK _ ?_); clear hK K) | (refine runB_op rfl ⟨_, evl, fun nb' => ?_⟩))
            | refine wpA_region (fun K hK => ?_)
            | (refine gateD ?_; first | (refine wpA_drawG false rfl (by kernel_rfl) (by kernel_rfl) (fun K hK => ?_)) | (refine wpA_drawG true rfl (by kernel_rfl) (by kernel_rfl) (fun K hK => ?_)))
            | (refine wpA_cond' ⟨_, evl, fun hb => ?_, fun hb => ?_⟩ <;> (try simp only [Bool.or_eq_true, Bool.and_eq_true, Bool.or_eq_false_iff, Bool.and_eq_false_iff, Bool.not_eq_true', Bool.not_eq_false', Bool.not_eq_true, Bool.not_eq_false, decide_eq_true_eq, decide_eq_false_iff_not, Bool.true_eq_false, Bool.false_eq_true, ne_eq, Classical.not_not, Int.not_lt, Int.not_le, Bool.not_true, Bool.not_false] at hb))
          | fail
      · exfalso; simp_all
      · refine ret_of (by simp) ⟨_, _, _, evl, ob0, outErr _ _ _⟩
      · exfalso; omega
    by_cases c3 : findN l next.auth 1001 = 0 ∨ ¬ (prevK l next.auth).auth = next.auth
    · rw [if_pos c3] at hla
      rw [show annM l key once next = ([], 4) from by unfold annM; rw [if_neg (fun h => h c1), if_neg c2, if_pos c3]]
      refine fnA_of tblOk Tryd.func15 rfl (by kernel_rfl) 92 Tryd.ntmps15 (by simp only [List.length_cons, List.length_nil]; omega) [.tmp 8, .tmp 9] rfl ?_
      simp only [entrySt, argSl, Nat.zero_add, Nat.reduceAdd]
      repeat'
        first
          | first
            | (refine runS_nil (hK _ ?_); clear hK K)
            | refine stR ?_
            | (refine gateS 1 rfl ?_; first | (refine runS_call rfl rfl ⟨_, evl, _, _, _, evl, oblF, ?_⟩; apply Exists.intro; refine ⟨fun hg => ?_, ?_⟩; · first | exact FnA.at_ (hv) rfl rfl | exact FnA.at_ (hfo) rfl rfl | exact FnA.at_ (hk) rfl rfl | exact FnA.at_ (ho) rfl rfl | exact FnA.at_ (hla) rfl rfl | exact FnA.at_s (hv) rfl simT | exact FnA.at_s (hv) rfl simF | exact FnA.at_s (hfo) rfl simT | exact FnA.at_s (hfo) rfl simF | exact FnA.at_s (hk) rfl simT | exact FnA.at_s (hk) rfl simF | exact FnA.at_s (ho) rfl simT | exact FnA.at_s (ho) rfl simF | exact FnA.at_s (hla) rfl simT | exact FnA.at_s (hla) rfl simF) | (refine runS_callR rfl rfl ⟨_, evl, _, _, _, evl, _, _, evl, oblF, ?_⟩; apply Exists.intro; refine ⟨fun hg => ?_, ?_⟩; · first | exact FnA.at_ (hv) rfl rfl | exact FnA.at_ (hfo) rfl rfl | exact FnA.at_ (hk) rfl rfl | exact FnA.at_ (ho) rfl rfl | exact FnA.at_ (hla) rfl rfl | exact FnA.at_s (hv) rfl simT | exact FnA.at_s (hv) rfl simF | exact FnA.at_s (hfo) rfl simT | exact FnA.at_s (hfo) rfl simF | exact FnA.at_s (hk) rfl simT | exact FnA.at_s (hk) rfl simF | exact FnA.at_s (ho) rfl simT | exact FnA.at_s (ho) rfl simF | exact FnA.at_s (hla) rfl simT | exact FnA.at_s (hla) rfl simF))
            | (refine gateA 1 rfl ?_; refine runA_call rfl ⟨_, evl, _, _, _, (fun _ _ => evlA), oblF, ?_⟩; apply Exists.intro; refine ⟨fun hg => ?_, ?_⟩; · first | exact FnA.at_ (hv) rfl rfl | exact FnA.at_ (hfo) rfl rfl | exact FnA.at_ (hk) rfl rfl | exact FnA.at_ (ho) rfl rfl | exact FnA.at_ (hla) rfl rfl | exact FnA.at_s (hv) rfl simT | exact FnA.at_s (hv) rfl simF | exact FnA.at_s (hfo) rfl simT | exact FnA.at_s (hfo) rfl simF | exact FnA.at_s (hk) rfl simT | exact FnA.at_s (hk) rfl simF | exact FnA.at_s (ho) rfl simT | exact FnA.at_s (ho) rfl simF | exact FnA.at_s (hla) rfl simT | exact FnA.at_s (hla) rfl simF)
            | (refine gateA 1 rfl ?_; refine runA_put ?_)
            | (refine gateBc ?_; first | (refine runB_nil (hK _ ?_); clear hK K) | (refine runB_op rfl ⟨_, evl, fun nb' => ?_⟩))
            | refine wpA_region (fun K hK => ?_)
            | (refine gateD ?_; first | (refine wpA_drawG false rfl (by kernel_rfl) (by kernel_rfl) (fun K hK => ?_)) | (refine wpA_drawG true rfl (by kernel_rfl) (by kernel_rfl) (fun K hK => ?_)))
            | (refine wpA_cond' ⟨_, evl, fun hb => ?_, fun hb => ?_⟩ <;> (try simp only [Bool.or_eq_true, Bool.and_eq_true, Bool.or_eq_false_iff, Bool.and_eq_false_iff, Bool.not_eq_true', Bool.not_eq_false', Bool.not_eq_true, Bool.not_eq_false, decide_eq_true_eq, decide_eq_false_iff_not, Bool.true_eq_false, Bool.false_eq_true, ne_eq, Classical.not_not, Int.not_lt, Int.not_le, Bool.not_true, Bool.not_false] at hb))
          | fail
      · exfalso; simp_all
      · exfalso; omega
      · refine ret_of (by simp) ⟨_, _, _, evl, ob0, outErr _ _ _⟩
      · exfalso; omega
    rw [if_neg c3] at hla
    have hn0 : findN l next.auth 1001 ≠ 0 := fun h => c3 (.inl h)
    have mp : l.getD ((findN l next.auth 1001 : Int) - 1).toNat default ∈ l := by rw [getD_get (by omega)]; exact List.getElem_mem _
    have hpf := c1.1.1.1.2.1 _ mp
    have hfol := followsR_A (l.getD ((findN l next.auth 1001 : Int) - 1).toNat default) (next0 next) ⟨hpf.2.2.2.1, hpf.2.2.1⟩
    have hkr := (withinM_iff key 1).1 c1.1.2
    have hpub := publicR_A key (by omega)
    have h100 := c1.1.1.1.1
    by_cases c4 : followsP (prevK l next.auth) (next0 next)
    · rw [decide_eq_true c4] at hfol
      by_cases c5 : (powM 4 key.toNat : Int) = (prevK l next.auth).pub
      · exact announceR_main l hl hf key once next hn hfr hv hfo hk ho hla c1 hle c2 c3 hn0 hfol hpub h100 c4 c5
      · rw [show annM l key once next = ([], 31) from by unfold annM; rw [if_neg (fun h => h c1), if_neg c2, if_neg c3, if_neg (fun h => h c4), if_pos (fun h => c5 (by have := h.2; rw [expM4 c1.1.2] at this; exact this))]]
        refine fnA_of tblOk Tryd.func15 rfl (by kernel_rfl) 92 Tryd.ntmps15 (by simp only [List.length_cons, List.length_nil]; omega) [.tmp 8, .tmp 9] rfl ?_
        simp only [entrySt, argSl, Nat.zero_add, Nat.reduceAdd]
        repeat'
          first
            | first
              | (refine runS_nil (hK _ ?_); clear hK K)
              | refine stR ?_
              | (refine gateS 1 rfl ?_; first | (refine runS_call rfl rfl ⟨_, evl, _, _, _, evl, oblF, ?_⟩; apply Exists.intro; refine ⟨fun hg => ?_, ?_⟩; · first | exact FnA.at_ (hv) rfl rfl | exact FnA.at_ (hfo) rfl rfl | exact FnA.at_ (hk) rfl rfl | exact FnA.at_ (ho) rfl rfl | exact FnA.at_ (hla) rfl rfl | exact FnA.at_ (hfol) rfl rfl | exact FnA.at_ (hpub) rfl rfl | exact FnA.at_s (hv) rfl simT | exact FnA.at_s (hv) rfl simF | exact FnA.at_s (hfo) rfl simT | exact FnA.at_s (hfo) rfl simF | exact FnA.at_s (hk) rfl simT | exact FnA.at_s (hk) rfl simF | exact FnA.at_s (ho) rfl simT | exact FnA.at_s (ho) rfl simF | exact FnA.at_s (hla) rfl simT | exact FnA.at_s (hla) rfl simF | exact FnA.at_s (hfol) rfl simT | exact FnA.at_s (hfol) rfl simF | exact FnA.at_s (hpub) rfl simT | exact FnA.at_s (hpub) rfl simF) | (refine runS_callR rfl rfl ⟨_, evl, _, _, _, evl, _, _, evl, oblF, ?_⟩; apply Exists.intro; refine ⟨fun hg => ?_, ?_⟩; · first | exact FnA.at_ (hv) rfl rfl | exact FnA.at_ (hfo) rfl rfl | exact FnA.at_ (hk) rfl rfl | exact FnA.at_ (ho) rfl rfl | exact FnA.at_ (hla) rfl rfl | exact FnA.at_ (hfol) rfl rfl | exact FnA.at_ (hpub) rfl rfl | exact FnA.at_s (hv) rfl simT | exact FnA.at_s (hv) rfl simF | exact FnA.at_s (hfo) rfl simT | exact FnA.at_s (hfo) rfl simF | exact FnA.at_s (hk) rfl simT | exact FnA.at_s (hk) rfl simF | exact FnA.at_s (ho) rfl simT | exact FnA.at_s (ho) rfl simF | exact FnA.at_s (hla) rfl simT | exact FnA.at_s (hla) rfl simF | exact FnA.at_s (hfol) rfl simT | exact FnA.at_s (hfol) rfl simF | exact FnA.at_s (hpub) rfl simT | exact FnA.at_s (hpub) rfl simF))
              | (refine gateA 1 rfl ?_; refine runA_call rfl ⟨_, evl, _, _, _, (fun _ _ => evlA), oblF, ?_⟩; apply Exists.intro; refine ⟨fun hg => ?_, ?_⟩; · first | exact FnA.at_ (hv) rfl rfl | exact FnA.at_ (hfo) rfl rfl | exact FnA.at_ (hk) rfl rfl | exact FnA.at_ (ho) rfl rfl | exact FnA.at_ (hla) rfl rfl | exact FnA.at_ (hfol) rfl rfl | exact FnA.at_ (hpub) rfl rfl | exact FnA.at_s (hv) rfl simT | exact FnA.at_s (hv) rfl simF | exact FnA.at_s (hfo) rfl simT | exact FnA.at_s (hfo) rfl simF | exact FnA.at_s (hk) rfl simT | exact FnA.at_s (hk) rfl simF | exact FnA.at_s (ho) rfl simT | exact FnA.at_s (ho) rfl simF | exact FnA.at_s (hla) rfl simT | exact FnA.at_s (hla) rfl simF | exact FnA.at_s (hfol) rfl simT | exact FnA.at_s (hfol) rfl simF | exact FnA.at_s (hpub) rfl simT | exact FnA.at_s (hpub) rfl simF)
              | (refine gateA 1 rfl ?_; refine runA_put ?_)
              | (refine gateBc ?_; first | (refine runB_nil (hK _ ?_); clear hK K) | (refine runB_op rfl ⟨_, evl, fun nb' => ?_⟩))
              | refine wpA_region (fun K hK => ?_)
              | (refine gateD ?_; first | (refine wpA_drawG false rfl (by kernel_rfl) (by kernel_rfl) (fun K hK => ?_)) | (refine wpA_drawG true rfl (by kernel_rfl) (by kernel_rfl) (fun K hK => ?_)))
              | (refine wpA_cond' ⟨_, evl, fun hb => ?_, fun hb => ?_⟩ <;> (try simp only [Bool.or_eq_true, Bool.and_eq_true, Bool.or_eq_false_iff, Bool.and_eq_false_iff, Bool.not_eq_true', Bool.not_eq_false', Bool.not_eq_true, Bool.not_eq_false, decide_eq_true_eq, decide_eq_false_iff_not, Bool.true_eq_false, Bool.false_eq_true, ne_eq, Classical.not_not, Int.not_lt, Int.not_le, Bool.not_true, Bool.not_false] at hb))
            | fail
        all_goals first | (refine ret_of (by simp) ⟨_, _, _, evl, ob0, outErr _ _ _⟩; done) | (exfalso; first | omega | (simp_all; done)) | skip
    · rw [show annM l key once next = ([], 30) from by unfold annM; rw [if_neg (fun h => h c1), if_neg c2, if_neg c3, if_pos c4]]
      rw [decide_eq_false c4] at hfol
      refine fnA_of tblOk Tryd.func15 rfl (by kernel_rfl) 92 Tryd.ntmps15 (by simp only [List.length_cons, List.length_nil]; omega) [.tmp 8, .tmp 9] rfl ?_
      simp only [entrySt, argSl, Nat.zero_add, Nat.reduceAdd]
      repeat'
        first
          | first
            | (refine runS_nil (hK _ ?_); clear hK K)
            | refine stR ?_
            | (refine gateS 1 rfl ?_; first | (refine runS_call rfl rfl ⟨_, evl, _, _, _, evl, oblF, ?_⟩; apply Exists.intro; refine ⟨fun hg => ?_, ?_⟩; · first | exact FnA.at_ (hv) rfl rfl | exact FnA.at_ (hfo) rfl rfl | exact FnA.at_ (hk) rfl rfl | exact FnA.at_ (ho) rfl rfl | exact FnA.at_ (hla) rfl rfl | exact FnA.at_ (hfol) rfl rfl | exact FnA.at_s (hv) rfl simT | exact FnA.at_s (hv) rfl simF | exact FnA.at_s (hfo) rfl simT | exact FnA.at_s (hfo) rfl simF | exact FnA.at_s (hk) rfl simT | exact FnA.at_s (hk) rfl simF | exact FnA.at_s (ho) rfl simT | exact FnA.at_s (ho) rfl simF | exact FnA.at_s (hla) rfl simT | exact FnA.at_s (hla) rfl simF | exact FnA.at_s (hfol) rfl simT | exact FnA.at_s (hfol) rfl simF) | (refine runS_callR rfl rfl ⟨_, evl, _, _, _, evl, _, _, evl, oblF, ?_⟩; apply Exists.intro; refine ⟨fun hg => ?_, ?_⟩; · first | exact FnA.at_ (hv) rfl rfl | exact FnA.at_ (hfo) rfl rfl | exact FnA.at_ (hk) rfl rfl | exact FnA.at_ (ho) rfl rfl | exact FnA.at_ (hla) rfl rfl | exact FnA.at_ (hfol) rfl rfl | exact FnA.at_s (hv) rfl simT | exact FnA.at_s (hv) rfl simF | exact FnA.at_s (hfo) rfl simT | exact FnA.at_s (hfo) rfl simF | exact FnA.at_s (hk) rfl simT | exact FnA.at_s (hk) rfl simF | exact FnA.at_s (ho) rfl simT | exact FnA.at_s (ho) rfl simF | exact FnA.at_s (hla) rfl simT | exact FnA.at_s (hla) rfl simF | exact FnA.at_s (hfol) rfl simT | exact FnA.at_s (hfol) rfl simF))
            | (refine gateA 1 rfl ?_; refine runA_call rfl ⟨_, evl, _, _, _, (fun _ _ => evlA), oblF, ?_⟩; apply Exists.intro; refine ⟨fun hg => ?_, ?_⟩; · first | exact FnA.at_ (hv) rfl rfl | exact FnA.at_ (hfo) rfl rfl | exact FnA.at_ (hk) rfl rfl | exact FnA.at_ (ho) rfl rfl | exact FnA.at_ (hla) rfl rfl | exact FnA.at_ (hfol) rfl rfl | exact FnA.at_s (hv) rfl simT | exact FnA.at_s (hv) rfl simF | exact FnA.at_s (hfo) rfl simT | exact FnA.at_s (hfo) rfl simF | exact FnA.at_s (hk) rfl simT | exact FnA.at_s (hk) rfl simF | exact FnA.at_s (ho) rfl simT | exact FnA.at_s (ho) rfl simF | exact FnA.at_s (hla) rfl simT | exact FnA.at_s (hla) rfl simF | exact FnA.at_s (hfol) rfl simT | exact FnA.at_s (hfol) rfl simF)
            | (refine gateA 1 rfl ?_; refine runA_put ?_)
            | (refine gateBc ?_; first | (refine runB_nil (hK _ ?_); clear hK K) | (refine runB_op rfl ⟨_, evl, fun nb' => ?_⟩))
            | refine wpA_region (fun K hK => ?_)
            | (refine gateD ?_; first | (refine wpA_drawG false rfl (by kernel_rfl) (by kernel_rfl) (fun K hK => ?_)) | (refine wpA_drawG true rfl (by kernel_rfl) (by kernel_rfl) (fun K hK => ?_)))
            | (refine wpA_cond' ⟨_, evl, fun hb => ?_, fun hb => ?_⟩ <;> (try simp only [Bool.or_eq_true, Bool.and_eq_true, Bool.or_eq_false_iff, Bool.and_eq_false_iff, Bool.not_eq_true', Bool.not_eq_false', Bool.not_eq_true, Bool.not_eq_false, decide_eq_true_eq, decide_eq_false_iff_not, Bool.true_eq_false, Bool.false_eq_true, ne_eq, Classical.not_not, Int.not_lt, Int.not_le, Bool.not_true, Bool.not_false] at hb))
          | fail
      all_goals first | (refine ret_of (by simp) ⟨_, _, _, evl, ob0, outErr _ _ _⟩; done) | (exfalso; first | omega | (simp_all; done)) | skip
  · rw [show annM l key once next = ([], 1) from by unfold annM; rw [if_pos c1]]
    refine fnA_of tblOk Tryd.func15 rfl (by kernel_rfl) 92 Tryd.ntmps15 (by simp only [List.length_cons, List.length_nil]; omega) [.tmp 8, .tmp 9] rfl ?_
    simp only [entrySt, argSl, Nat.zero_add, Nat.reduceAdd]
    repeat'
      first
        | first
          | (refine runS_nil (hK _ ?_); clear hK K)
          | refine stR ?_
          | (refine gateS 1 rfl ?_; first | (refine runS_call rfl rfl ⟨_, evl, _, _, _, evl, oblF, ?_⟩; apply Exists.intro; refine ⟨fun hg => ?_, ?_⟩; · first | exact FnA.at_ (hv) rfl rfl | exact FnA.at_ (hfo) rfl rfl | exact FnA.at_ (hk) rfl rfl | exact FnA.at_ (ho) rfl rfl | exact FnA.at_s (hv) rfl simT | exact FnA.at_s (hv) rfl simF | exact FnA.at_s (hfo) rfl simT | exact FnA.at_s (hfo) rfl simF | exact FnA.at_s (hk) rfl simT | exact FnA.at_s (hk) rfl simF | exact FnA.at_s (ho) rfl simT | exact FnA.at_s (ho) rfl simF) | (refine runS_callR rfl rfl ⟨_, evl, _, _, _, evl, _, _, evl, oblF, ?_⟩; apply Exists.intro; refine ⟨fun hg => ?_, ?_⟩; · first | exact FnA.at_ (hv) rfl rfl | exact FnA.at_ (hfo) rfl rfl | exact FnA.at_ (hk) rfl rfl | exact FnA.at_ (ho) rfl rfl | exact FnA.at_s (hv) rfl simT | exact FnA.at_s (hv) rfl simF | exact FnA.at_s (hfo) rfl simT | exact FnA.at_s (hfo) rfl simF | exact FnA.at_s (hk) rfl simT | exact FnA.at_s (hk) rfl simF | exact FnA.at_s (ho) rfl simT | exact FnA.at_s (ho) rfl simF))
          | (refine gateA 1 rfl ?_; refine runA_call rfl ⟨_, evl, _, _, _, (fun _ _ => evlA), oblF, ?_⟩; apply Exists.intro; refine ⟨fun hg => ?_, ?_⟩; · first | exact FnA.at_ (hv) rfl rfl | exact FnA.at_ (hfo) rfl rfl | exact FnA.at_ (hk) rfl rfl | exact FnA.at_ (ho) rfl rfl | exact FnA.at_s (hv) rfl simT | exact FnA.at_s (hv) rfl simF | exact FnA.at_s (hfo) rfl simT | exact FnA.at_s (hfo) rfl simF | exact FnA.at_s (hk) rfl simT | exact FnA.at_s (hk) rfl simF | exact FnA.at_s (ho) rfl simT | exact FnA.at_s (ho) rfl simF)
          | (refine gateA 1 rfl ?_; refine runA_put ?_)
          | (refine gateBc ?_; first | (refine runB_nil (hK _ ?_); clear hK K) | (refine runB_op rfl ⟨_, evl, fun nb' => ?_⟩))
          | refine wpA_region (fun K hK => ?_)
          | (refine gateD ?_; first | (refine wpA_drawG false rfl (by kernel_rfl) (by kernel_rfl) (fun K hK => ?_)) | (refine wpA_drawG true rfl (by kernel_rfl) (by kernel_rfl) (fun K hK => ?_)))
          | (refine wpA_cond' ⟨_, evl, fun hb => ?_, fun hb => ?_⟩ <;> (try simp only [Bool.or_eq_true, Bool.and_eq_true, Bool.or_eq_false_iff, Bool.and_eq_false_iff, Bool.not_eq_true', Bool.not_eq_false', Bool.not_eq_true, Bool.not_eq_false, decide_eq_true_eq, decide_eq_false_iff_not, Bool.true_eq_false, Bool.false_eq_true, ne_eq, Classical.not_not, Int.not_lt, Int.not_le, Bool.not_true, Bool.not_false] at hb))
        | fail
    · refine ret_of (by simp) ⟨_, _, _, evl, ob0, outErr _ _ _⟩
    · exfalso; exact c1 (by simp_all)
    · exfalso; exact c1 (by simp_all)
end Go.Proofs.YtihnjbnlbedpaaaDoor
