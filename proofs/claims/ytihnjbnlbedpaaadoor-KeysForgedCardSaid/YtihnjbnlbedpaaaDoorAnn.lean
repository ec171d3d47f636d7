/- package keys: Announce: its closures. -/
import Derived.Test.YtihnjbnlbedpaaaDoorKeyD
import Derived.Test.YtihnjbnlbedpaaaDoorIns
namespace Go.Proofs.YtihnjbnlbedpaaaDoor
set_option linter.unusedVariables false
set_option linter.unusedSimpArgs false
set_option maxHeartbeats 4000000
set_option maxRecDepth 100000
open Go.RowKit
theorem zerosA_oneL (st : ASt) (n : Nat) : AV.oneL st (zerosA n (List.replicate 7 (Value.int .i64 0))) := by
  induction n with
  | zero => trivial
  | succ n ih => exact ⟨rfl, rfl, rfl, rfl, rfl, rfl, rfl, ih⟩
theorem clone_X (l : List KeyWin) (hl : 0 < l.length ∧ l.length ≤ 1000) :
    FnX Tryd.prog 54 [lA 7 KeyWin.av l] [] [] (fun r bx' rw' => rw' = [] ∧ ∃ c zs, r = .bsl 7 1 0 l.length c ∧ bx' = [[], kcs l ++ zs] ∧ (l.length ≤ c ∧ c ≤ maxLen) ∧ zs.length = (c - l.length) * 7 ∧ rawL zs ∧ ∀ st, AV.oneL st zs) := by
  refine fnX_of tblOk Tryd.func54 rfl (by kernel_rfl) 8 Tryd.ntmps54 (by simp only [List.length_cons, List.length_nil]; omega) [.tmp 2] rfl (by simp) ?_
  simp only [entryG, argSl, Nat.zero_add, Nat.reduceAdd, List.length_cons, List.length_nil]
  repeat'
    first
      | first
        | (refine runS_nil (hK _ ?_); clear hK K)
        | refine stB ?_
        | (refine gateS 2 rfl ?_; refine runS_appBsl tblOk rfl rfl rfl ⟨_, _, _, _, _, _, _, evl, obq, _, _, _, _, _, evl, _, evl, obq, obq, obs, _, evl, fun c hc1 hc2 => ⟨_, evl, ?_⟩⟩)
        | (refine gateA 1 rfl ?_; refine runA_put ?_)
        | (refine gateBc ?_; first | (refine runB_nil (hK _ ?_); clear hK K) | (refine runB_op rfl ⟨_, evl, fun nb' => ?_⟩))
        | refine wpA_region (fun K hK => ?_)
        | (refine gateD ?_; first | (refine wpA_drawG false rfl (by kernel_rfl) (by kernel_rfl) (fun K hK => ?_)) | (refine wpA_drawG true rfl (by kernel_rfl) (by kernel_rfl) (fun K hK => ?_)))
        | (refine wpA_cond' ⟨_, evl, fun hb => ?_, fun hb => ?_⟩ <;> (try simp only [Bool.or_eq_true, Bool.and_eq_true, Bool.or_eq_false_iff, Bool.and_eq_false_iff, Bool.not_eq_true', Bool.not_eq_false', Bool.not_eq_true, Bool.not_eq_false, decide_eq_true_eq, decide_eq_false_iff_not, Bool.true_eq_false, Bool.false_eq_true, ne_eq, Classical.not_not, Int.not_lt, Int.not_le, Bool.not_true, Bool.not_false] at hb))
      | fail
  refine retX_of 2 (.bsl 7 1 0 l.length _) [[], kcs l ++ zerosA (c - l.length) (List.replicate 7 (Value.int .i64 0))] [] ⟨rfl, c, _, rfl, rfl, ⟨by assumption, by assumption⟩, by rw [zerosA_len]; rfl, rawL_zeros _ _, fun st => zerosA_oneL st _⟩ (by simp) ⟨_, _, _, evl, obq, OutG.bel rfl (by simp [AV.bel]), by simp, ?_, rfl, ⟨trivial, belL_raw _ (rawL_app (kcs_raw _) (rawL_zeros _ _)), trivial⟩, fun r hr => by cases hr⟩
  show [[], (List.range l.length).flatMap (els KeyWin.av l) ++ _] = _
  rw [flat_els]
  rfl
theorem before_G (l : List KeyWin) (at_ : Int) (h : 1 ≤ at_ ∧ at_ ≤ l.length ∧ l.length ≤ 1000) : FnG Tryd.prog 41 [.box 0 0, .box 1 0] [[lA 7 KeyWin.av l], [.raw (.int .i64 at_)]] [] (.agg (KeyWin.av (l.getD (at_ - 1).toNat default))) [[lA 7 KeyWin.av l], [.raw (.int .i64 at_)]] [] := by
  refine fnG_of tblOk Tryd.func41 rfl (by kernel_rfl) 8 Tryd.ntmps41 (by simp only [List.length_cons, List.length_nil]; omega) [.cell 2 26] rfl 2 (by simp) ?_
  simp only [entryG, argSl, Nat.zero_add, Nat.reduceAdd, List.length_cons, List.length_nil]
  repeat'
    first
      | first
        | (refine runS_nil (hK _ ?_); clear hK K)
        | refine stR ?_
        | (refine gateA 1 rfl ?_; refine runA_put ?_)
        | (refine gateBc ?_; first | (refine runB_nil (hK _ ?_); clear hK K) | (refine runB_op rfl ⟨_, evl, fun nb' => ?_⟩))
        | refine wpA_region (fun K hK => ?_)
        | (refine gateD ?_; first | (refine wpA_drawG false rfl (by kernel_rfl) (by kernel_rfl) (fun K hK => ?_)) | (refine wpA_drawG true rfl (by kernel_rfl) (by kernel_rfl) (fun K hK => ?_)))
        | (refine wpA_cond' ⟨_, evl, fun hb => ?_, fun hb => ?_⟩ <;> (try simp only [Bool.or_eq_true, Bool.and_eq_true, Bool.or_eq_false_iff, Bool.and_eq_false_iff, Bool.not_eq_true', Bool.not_eq_false', Bool.not_eq_true, Bool.not_eq_false, decide_eq_true_eq, decide_eq_false_iff_not, Bool.true_eq_false, Bool.false_eq_true, ne_eq, Classical.not_not, Int.not_lt, Int.not_le, Bool.not_true, Bool.not_false] at hb))
      | fail
  all_goals (refine retG_of (by simp) ⟨_, _, _, evl, obq, OutG.bel ?_ obb, by simp, ?_, rfl, obb, obb⟩)
  all_goals first | rfl | (simp []; done) | (simp_all []; done) | (simp_all []; omega) | (simp []; grind) | (split <;> simp_all) | skip
theorem ann2_G (l : List KeyWin) (hl : l.length ≤ 4611686018427387904) (hf : ∀ k ∈ l, k.fits) (next : KeyWin) (key once : Int) : FnG Tryd.prog 42 [.box 0 0, .box 1 0, .box 2 0, .box 3 0] [[lA 7 KeyWin.av l], KeyWin.av next, [.raw (.int .i64 key)], [.raw (.int .i64 once)]] []
    (.raw (.bool (!decide (ValidP l) || !decide (formedP next) || !withinM key 1 || !withinM once 1))) [[lA 7 KeyWin.av l], KeyWin.av next, [.raw (.int .i64 key)], [.raw (.int .i64 once)]] [] := by
  have hv := valid_A l hl hf
  have hfr : (lA 7 KeyWin.av l).free := lA_free (fun y => KeyWin.free y) _
  refine fnG_of tblOk Tryd.func42 rfl (by kernel_rfl) 23 Tryd.ntmps42 (by simp only [List.length_cons, List.length_nil]; omega) [.tmp 4] rfl 4 (by simp) ?_
  simp only [entryG, argSl, Nat.zero_add, Nat.reduceAdd, List.length_cons, List.length_nil]
  repeat'
    first
      | first
        | (refine runS_nil (hK _ ?_); clear hK K)
        | refine stR ?_
        | (refine gateS 1 rfl ?_; first | (refine runS_call rfl rfl ⟨_, evl, _, _, _, evl, oblF, ?_⟩; apply Exists.intro; refine ⟨fun hg => ?_, ?_⟩; · first | exact FnA.at_ (hv) rfl rfl | exact FnA.at_ (formed_A next) rfl rfl | exact FnA.at_ (isKey_A key) rfl rfl | exact FnA.at_ (isKey_A once) rfl rfl | exact FnA.at_s (hv) rfl simT | exact FnA.at_s (hv) rfl simF | exact FnA.at_s (formed_A next) rfl simT | exact FnA.at_s (formed_A next) rfl simF | exact FnA.at_s (isKey_A key) rfl simT | exact FnA.at_s (isKey_A key) rfl simF | exact FnA.at_s (isKey_A once) rfl simT | exact FnA.at_s (isKey_A once) rfl simF) | (refine runS_callR rfl rfl ⟨_, evl, _, _, _, evl, _, _, evl, oblF, ?_⟩; apply Exists.intro; refine ⟨fun hg => ?_, ?_⟩; · first | exact FnA.at_ (hv) rfl rfl | exact FnA.at_ (formed_A next) rfl rfl | exact FnA.at_ (isKey_A key) rfl rfl | exact FnA.at_ (isKey_A once) rfl rfl | exact FnA.at_s (hv) rfl simT | exact FnA.at_s (hv) rfl simF | exact FnA.at_s (formed_A next) rfl simT | exact FnA.at_s (formed_A next) rfl simF | exact FnA.at_s (isKey_A key) rfl simT | exact FnA.at_s (isKey_A key) rfl simF | exact FnA.at_s (isKey_A once) rfl simT | exact FnA.at_s (isKey_A once) rfl simF))
        | (refine gateA 1 rfl ?_; refine runA_call rfl ⟨_, evl, _, _, _, (fun _ _ => evlA), oblF, ?_⟩; apply Exists.intro; refine ⟨fun hg => ?_, ?_⟩; · first | exact FnA.at_ (hv) rfl rfl | exact FnA.at_ (formed_A next) rfl rfl | exact FnA.at_ (isKey_A key) rfl rfl | exact FnA.at_ (isKey_A once) rfl rfl | exact FnA.at_s (hv) rfl simT | exact FnA.at_s (hv) rfl simF | exact FnA.at_s (formed_A next) rfl simT | exact FnA.at_s (formed_A next) rfl simF | exact FnA.at_s (isKey_A key) rfl simT | exact FnA.at_s (isKey_A key) rfl simF | exact FnA.at_s (isKey_A once) rfl simT | exact FnA.at_s (isKey_A once) rfl simF)
        | (refine gateA 1 rfl ?_; refine runA_put ?_)
        | (refine gateBc ?_; first | (refine runB_nil (hK _ ?_); clear hK K) | (refine runB_op rfl ⟨_, evl, fun nb' => ?_⟩))
        | refine wpA_region (fun K hK => ?_)
        | (refine gateD ?_; first | (refine wpA_drawG false rfl (by kernel_rfl) (by kernel_rfl) (fun K hK => ?_)) | (refine wpA_drawG true rfl (by kernel_rfl) (by kernel_rfl) (fun K hK => ?_)))
        | (refine wpA_cond' ⟨_, evl, fun hb => ?_, fun hb => ?_⟩ <;> (try simp only [Bool.or_eq_true, Bool.and_eq_true, Bool.or_eq_false_iff, Bool.and_eq_false_iff, Bool.not_eq_true', Bool.not_eq_false', Bool.not_eq_true, Bool.not_eq_false, decide_eq_true_eq, decide_eq_false_iff_not, Bool.true_eq_false, Bool.false_eq_true, ne_eq, Classical.not_not, Int.not_lt, Int.not_le, Bool.not_true, Bool.not_false] at hb))
      | fail
  all_goals (refine retG_of (by simp) ⟨_, _, _, evl, obq, OutG.bel ?_ obb, by simp, ?_, rfl, obb, obb⟩)
  all_goals first | rfl | (simp []; done) | (simp_all []; done) | (simp_all []; omega) | (simp []; grind) | (split <;> simp_all) | skip
theorem ann3_G (l : List KeyWin) : FnG Tryd.prog 45 [.box 0 0] [[lA 7 KeyWin.av l]] [] (.raw (.bool (decide (l.length = 100)))) [[lA 7 KeyWin.av l]] [] := by
  refine fnG_of tblOk Tryd.func45 rfl (by kernel_rfl) 5 Tryd.ntmps45 (by simp only [List.length_cons, List.length_nil]; omega) [.tmp 1] rfl 1 (by simp) ?_
  simp only [entryG, argSl, Nat.zero_add, Nat.reduceAdd, List.length_cons, List.length_nil]
  repeat'
    first
      | first
        | (refine runS_nil (hK _ ?_); clear hK K)
        | refine stR ?_
        | (refine gateA 1 rfl ?_; refine runA_put ?_)
        | (refine gateBc ?_; first | (refine runB_nil (hK _ ?_); clear hK K) | (refine runB_op rfl ⟨_, evl, fun nb' => ?_⟩))
        | refine wpA_region (fun K hK => ?_)
        | (refine gateD ?_; first | (refine wpA_drawG false rfl (by kernel_rfl) (by kernel_rfl) (fun K hK => ?_)) | (refine wpA_drawG true rfl (by kernel_rfl) (by kernel_rfl) (fun K hK => ?_)))
        | (refine wpA_cond' ⟨_, evl, fun hb => ?_, fun hb => ?_⟩ <;> (try simp only [Bool.or_eq_true, Bool.and_eq_true, Bool.or_eq_false_iff, Bool.and_eq_false_iff, Bool.not_eq_true', Bool.not_eq_false', Bool.not_eq_true, Bool.not_eq_false, decide_eq_true_eq, decide_eq_false_iff_not, Bool.true_eq_false, Bool.false_eq_true, ne_eq, Classical.not_not, Int.not_lt, Int.not_le, Bool.not_true, Bool.not_false] at hb))
      | fail
  all_goals (refine retG_of (by simp) ⟨_, _, _, evl, obq, OutG.bel ?_ obb, by simp, ?_, rfl, obb, obb⟩)
  all_goals first | rfl | (simp []; done) | (simp_all []; done) | (simp_all []; omega) | (simp []; grind) | (split <;> simp_all) | skip
abbrev befC : List AV := [.fn (.func 41) [] [.box 0 0, .box 2 0]]
theorem findN_le (l : List KeyWin) (a i : Int) : findN l a i ≤ l.length := lowN_le _ _
theorem ann4_G (l : List KeyWin) (h : ValidP l) (next : KeyWin) (at0 : Int) : FnG Tryd.prog 46 [.box 0 0, .box 1 0, .box 2 0, .box 3 0] [[lA 7 KeyWin.av l], KeyWin.av next, [.raw (.int .i64 at0)], befC] []
    (.raw (.bool (decide (findN l next.auth 1001 = 0) || !decide ((l.getD ((findN l next.auth 1001 : Int) - 1).toNat default).auth = next.auth)))) [[lA 7 KeyWin.av l], KeyWin.av next, [.raw (.int .i64 (findN l next.auth 1001))], befC] [] := by
  have hfi := find_A l h next.auth 1001
  have hle := findN_le l next.auth 1001
  have h100 := h.1
  generalize findN l next.auth 1001 = n at *
  refine fnG_of tblOk Tryd.func46 rfl (by kernel_rfl) 22 Tryd.ntmps46 (by simp only [List.length_cons, List.length_nil]; omega) [.tmp 4] rfl 4 (by simp) ?_
  simp only [entryG, argSl, Nat.zero_add, Nat.reduceAdd, List.length_cons, List.length_nil]
  repeat'
    first
      | first
        | (refine runS_nil (hK _ ?_); clear hK K)
        | refine stR ?_
        | (refine gateS 1 rfl ?_; first | (refine runS_call rfl rfl ⟨_, evl, _, _, _, evl, oblF, ?_⟩; apply Exists.intro; refine ⟨fun hg => ?_, ?_⟩; · first | exact FnA.at_ (hfi) rfl rfl | exact FnA.at_s (hfi) rfl simT | exact FnA.at_s (hfi) rfl simF) | (refine runS_callR rfl rfl ⟨_, evl, _, _, _, evl, _, _, evl, oblF, ?_⟩; apply Exists.intro; refine ⟨fun hg => ?_, ?_⟩; · first | exact FnA.at_ (hfi) rfl rfl | exact FnA.at_s (hfi) rfl simT | exact FnA.at_s (hfi) rfl simF))
        | (refine gateA 1 rfl ?_; refine runA_call rfl ⟨_, evl, _, _, _, (fun _ _ => evlA), oblF, ?_⟩; apply Exists.intro; refine ⟨fun hg => ?_, ?_⟩; · first | exact FnA.at_ (hfi) rfl rfl | exact FnA.at_s (hfi) rfl simT | exact FnA.at_s (hfi) rfl simF)
        | (refine gateA 1 rfl ?_; refine runA_put ?_)
        | (refine gateBc ?_; first | (refine runB_nil (hK _ ?_); clear hK K) | (refine runB_op rfl ⟨_, evl, fun nb' => ?_⟩))
        | refine wpA_region (fun K hK => ?_)
        | (refine gateD ?_; first | (refine wpA_drawG false rfl (by kernel_rfl) (by kernel_rfl) (fun K hK => ?_)) | (refine wpA_drawG true rfl (by kernel_rfl) (by kernel_rfl) (fun K hK => ?_)))
        | (refine wpA_cond' ⟨_, evl, fun hb => ?_, fun hb => ?_⟩ <;> (try simp only [Bool.or_eq_true, Bool.and_eq_true, Bool.or_eq_false_iff, Bool.and_eq_false_iff, Bool.not_eq_true', Bool.not_eq_false', Bool.not_eq_true, Bool.not_eq_false, decide_eq_true_eq, decide_eq_false_iff_not, Bool.true_eq_false, Bool.false_eq_true, ne_eq, Classical.not_not, Int.not_lt, Int.not_le, Bool.not_true, Bool.not_false] at hb))
      | fail
  refine sCallGq [0, 2] [] evl (fun hg => before_G l n (by simp at hg; omega)) rfl rfl ⟨_, evl, _, evl, _, evl, obl, by decide, by decide, by first | trivial | exact ⟨rfl, trivial⟩ | exact ⟨rfl, rfl, trivial⟩ | exact ⟨rfl, rfl, rfl, trivial⟩ | simp [handL, AV.renL, AV.ren, ARow.ren], by first | trivial | exact ⟨rfl, trivial⟩ | exact ⟨rfl, rfl, trivial⟩ | exact ⟨rfl, rfl, rfl, trivial⟩ | simp [handL, AV.renL, AV.ren, ARow.ren], (by first | (simp [AV.subL, AV.sub]; done) | (simp only [List.forall_mem_cons, List.not_mem_nil, false_implies, implies_true, and_true, true_and, AV.subL, AV.sub, List.length_cons, List.length_nil, Nat.zero_add, Nat.reduceAdd]; (repeat' apply And.intro) <;> first | trivial | omega | (simp; done) | (refine AV.sub_free _ ?_; exact lA_free (fun _ => by simp) _) | (refine AV.subL_free _ ?_; simp; done) | (intro r hr; cases hr; done))), _, evl, rfl, rfl, ?_⟩
  repeat'
    first
      | first
        | (refine runS_nil (hK _ ?_); clear hK K)
        | refine stR ?_
        | (refine gateS 1 rfl ?_; first | (refine runS_call rfl rfl ⟨_, evl, _, _, _, evl, oblF, ?_⟩; apply Exists.intro; refine ⟨fun hg => ?_, ?_⟩; · first | exact FnA.at_ (hfi) rfl rfl | exact FnA.at_s (hfi) rfl simT | exact FnA.at_s (hfi) rfl simF) | (refine runS_callR rfl rfl ⟨_, evl, _, _, _, evl, _, _, evl, oblF, ?_⟩; apply Exists.intro; refine ⟨fun hg => ?_, ?_⟩; · first | exact FnA.at_ (hfi) rfl rfl | exact FnA.at_s (hfi) rfl simT | exact FnA.at_s (hfi) rfl simF))
        | (refine gateA 1 rfl ?_; refine runA_call rfl ⟨_, evl, _, _, _, (fun _ _ => evlA), oblF, ?_⟩; apply Exists.intro; refine ⟨fun hg => ?_, ?_⟩; · first | exact FnA.at_ (hfi) rfl rfl | exact FnA.at_s (hfi) rfl simT | exact FnA.at_s (hfi) rfl simF)
        | (refine gateA 1 rfl ?_; refine runA_put ?_)
        | (refine gateBc ?_; first | (refine runB_nil (hK _ ?_); clear hK K) | (refine runB_op rfl ⟨_, evl, fun nb' => ?_⟩))
        | refine wpA_region (fun K hK => ?_)
        | (refine gateD ?_; first | (refine wpA_drawG false rfl (by kernel_rfl) (by kernel_rfl) (fun K hK => ?_)) | (refine wpA_drawG true rfl (by kernel_rfl) (by kernel_rfl) (fun K hK => ?_)))
        | (refine wpA_cond' ⟨_, evl, fun hb => ?_, fun hb => ?_⟩ <;> (try simp only [Bool.or_eq_true, Bool.and_eq_true, Bool.or_eq_false_iff, Bool.and_eq_false_iff, Bool.not_eq_true', Bool.not_eq_false', Bool.not_eq_true, Bool.not_eq_false, decide_eq_true_eq, decide_eq_false_iff_not, Bool.true_eq_false, Bool.false_eq_true, ne_eq, Classical.not_not, Int.not_lt, Int.not_le, Bool.not_true, Bool.not_false] at hb))
      | fail
  all_goals (refine retG_of (by simp) ⟨_, _, _, evl, obq, OutG.bel ?_ obb, by simp, ?_, rfl, obb, obb⟩)
  all_goals first | rfl | (simp []; done) | (simp_all []; done) | (simp_all []; omega) | (simp []; grind) | (split <;> simp_all) | skip
theorem ann5_G (l : List KeyWin) (next : KeyWin) (at_ : Int) (h : 1 ≤ at_ ∧ at_ ≤ l.length ∧ l.length ≤ 1000) (hk : ∀ k ∈ l, 1 ≤ k.id ∧ k.id ≤ 1000) : FnG Tryd.prog 48 [.box 3 0, .box 1 0] [[lA 7 KeyWin.av l], KeyWin.av next, [.raw (.int .i64 at_)], befC] []
    (.raw (.bool (!decide (followsP (l.getD (at_ - 1).toNat default) next)))) [[lA 7 KeyWin.av l], KeyWin.av next, [.raw (.int .i64 at_)], befC] [] := by
  have m1 : l.getD (at_ - 1).toNat default ∈ l := by rw [getD_get (by omega)]; exact List.getElem_mem _
  have hfo := follows_A (l.getD (at_ - 1).toNat default) next ⟨(hk _ m1).2, (hk _ m1).1⟩
  refine fnG_of tblOk Tryd.func48 rfl (by kernel_rfl) 8 Tryd.ntmps48 (by simp only [List.length_cons, List.length_nil]; omega) [.tmp 2] rfl 4 (by simp) ?_
  simp only [entryG, argSl, Nat.zero_add, Nat.reduceAdd, List.length_cons, List.length_nil]
  repeat'
    first
      | first
        | (refine runS_nil (hK _ ?_); clear hK K)
        | refine stR ?_
        | (refine gateS 1 rfl ?_; first | (refine runS_call rfl rfl ⟨_, evl, _, _, _, evl, oblF, ?_⟩; apply Exists.intro; refine ⟨fun hg => ?_, ?_⟩; · first | exact FnA.at_ (hfo) rfl rfl | exact FnA.at_s (hfo) rfl simT | exact FnA.at_s (hfo) rfl simF) | (refine runS_callR rfl rfl ⟨_, evl, _, _, _, evl, _, _, evl, oblF, ?_⟩; apply Exists.intro; refine ⟨fun hg => ?_, ?_⟩; · first | exact FnA.at_ (hfo) rfl rfl | exact FnA.at_s (hfo) rfl simT | exact FnA.at_s (hfo) rfl simF))
        | (refine gateA 1 rfl ?_; refine runA_call rfl ⟨_, evl, _, _, _, (fun _ _ => evlA), oblF, ?_⟩; apply Exists.intro; refine ⟨fun hg => ?_, ?_⟩; · first | exact FnA.at_ (hfo) rfl rfl | exact FnA.at_s (hfo) rfl simT | exact FnA.at_s (hfo) rfl simF)
        | (refine gateA 1 rfl ?_; refine runA_put ?_)
        | (refine gateBc ?_; first | (refine runB_nil (hK _ ?_); clear hK K) | (refine runB_op rfl ⟨_, evl, fun nb' => ?_⟩))
        | refine wpA_region (fun K hK => ?_)
        | (refine gateD ?_; first | (refine wpA_drawG false rfl (by kernel_rfl) (by kernel_rfl) (fun K hK => ?_)) | (refine wpA_drawG true rfl (by kernel_rfl) (by kernel_rfl) (fun K hK => ?_)))
        | (refine wpA_cond' ⟨_, evl, fun hb => ?_, fun hb => ?_⟩ <;> (try simp only [Bool.or_eq_true, Bool.and_eq_true, Bool.or_eq_false_iff, Bool.and_eq_false_iff, Bool.not_eq_true', Bool.not_eq_false', Bool.not_eq_true, Bool.not_eq_false, decide_eq_true_eq, decide_eq_false_iff_not, Bool.true_eq_false, Bool.false_eq_true, ne_eq, Classical.not_not, Int.not_lt, Int.not_le, Bool.not_true, Bool.not_false] at hb))
      | fail
  refine sCallGq [0, 2] [] evl (fun hg => before_G l at_ h) rfl rfl ⟨_, evl, _, evl, _, evl, obl, by decide, by decide, by first | trivial | exact ⟨rfl, trivial⟩ | exact ⟨rfl, rfl, trivial⟩ | exact ⟨rfl, rfl, rfl, trivial⟩ | simp [handL, AV.renL, AV.ren, ARow.ren], by first | trivial | exact ⟨rfl, trivial⟩ | exact ⟨rfl, rfl, trivial⟩ | exact ⟨rfl, rfl, rfl, trivial⟩ | simp [handL, AV.renL, AV.ren, ARow.ren], (by first | (simp [AV.subL, AV.sub]; done) | (simp only [List.forall_mem_cons, List.not_mem_nil, false_implies, implies_true, and_true, true_and, AV.subL, AV.sub, List.length_cons, List.length_nil, Nat.zero_add, Nat.reduceAdd]; (repeat' apply And.intro) <;> first | trivial | omega | (simp; done) | (refine AV.sub_free _ ?_; exact lA_free (fun _ => by simp) _) | (refine AV.subL_free _ ?_; simp; done) | (intro r hr; cases hr; done))), _, evl, rfl, rfl, ?_⟩
  repeat'
    first
      | first
        | (refine runS_nil (hK _ ?_); clear hK K)
        | refine stR ?_
        | (refine gateS 1 rfl ?_; first | (refine runS_call rfl rfl ⟨_, evl, _, _, _, evl, oblF, ?_⟩; apply Exists.intro; refine ⟨fun hg => ?_, ?_⟩; · first | exact FnA.at_ (hfo) rfl rfl | exact FnA.at_s (hfo) rfl simT | exact FnA.at_s (hfo) rfl simF) | (refine runS_callR rfl rfl ⟨_, evl, _, _, _, evl, _, _, evl, oblF, ?_⟩; apply Exists.intro; refine ⟨fun hg => ?_, ?_⟩; · first | exact FnA.at_ (hfo) rfl rfl | exact FnA.at_s (hfo) rfl simT | exact FnA.at_s (hfo) rfl simF))
        | (refine gateA 1 rfl ?_; refine runA_call rfl ⟨_, evl, _, _, _, (fun _ _ => evlA), oblF, ?_⟩; apply Exists.intro; refine ⟨fun hg => ?_, ?_⟩; · first | exact FnA.at_ (hfo) rfl rfl | exact FnA.at_s (hfo) rfl simT | exact FnA.at_s (hfo) rfl simF)
        | (refine gateA 1 rfl ?_; refine runA_put ?_)
        | (refine gateBc ?_; first | (refine runB_nil (hK _ ?_); clear hK K) | (refine runB_op rfl ⟨_, evl, fun nb' => ?_⟩))
        | refine wpA_region (fun K hK => ?_)
        | (refine gateD ?_; first | (refine wpA_drawG false rfl (by kernel_rfl) (by kernel_rfl) (fun K hK => ?_)) | (refine wpA_drawG true rfl (by kernel_rfl) (by kernel_rfl) (fun K hK => ?_)))
        | (refine wpA_cond' ⟨_, evl, fun hb => ?_, fun hb => ?_⟩ <;> (try simp only [Bool.or_eq_true, Bool.and_eq_true, Bool.or_eq_false_iff, Bool.and_eq_false_iff, Bool.not_eq_true', Bool.not_eq_false', Bool.not_eq_true, Bool.not_eq_false, decide_eq_true_eq, decide_eq_false_iff_not, Bool.true_eq_false, Bool.false_eq_true, ne_eq, Classical.not_not, Int.not_lt, Int.not_le, Bool.not_true, Bool.not_false] at hb))
      | fail
  all_goals (refine retG_of (by simp) ⟨_, _, _, evl, obq, OutG.bel ?_ obb, by simp, ?_, rfl, obb, obb⟩)
  all_goals first | rfl | (simp []; done) | (simp_all []; done) | (simp_all []; omega) | (simp []; grind) | (split <;> simp_all) | skip
theorem ann6_G (l : List KeyWin) (key : Int) (at_ : Int) (h : 1 ≤ at_ ∧ at_ ≤ l.length ∧ l.length ≤ 1000) : FnG Tryd.prog 50 [.box 1 0, .box 3 0] [[lA 7 KeyWin.av l], [.raw (.int .i64 key)], [.raw (.int .i64 at_)], befC] []
    (.raw (.bool (!decide ((expM 4 key).2 = 0) || !decide ((expM 4 key).1 = (l.getD (at_ - 1).toNat default).pub)))) [[lA 7 KeyWin.av l], [.raw (.int .i64 key)], [.raw (.int .i64 at_)], befC] [] := by
  have he := exp_A 4 key
  generalize expM 4 key = e at *
  refine fnG_of tblOk Tryd.func50 rfl (by kernel_rfl) 19 Tryd.ntmps50 (by simp only [List.length_cons, List.length_nil]; omega) [.tmp 2] rfl 4 (by simp) ?_
  simp only [entryG, argSl, Nat.zero_add, Nat.reduceAdd, List.length_cons, List.length_nil]
  repeat'
    first
      | first
        | (refine runS_nil (hK _ ?_); clear hK K)
        | refine stR ?_
        | (refine gateS 1 rfl ?_; first | (refine runS_call rfl rfl ⟨_, evl, _, _, _, evl, oblF, ?_⟩; apply Exists.intro; refine ⟨fun hg => ?_, ?_⟩; · first | exact FnA.at_ (he) rfl rfl | exact FnA.at_s (he) rfl simT | exact FnA.at_s (he) rfl simF) | (refine runS_callR rfl rfl ⟨_, evl, _, _, _, evl, _, _, evl, oblF, ?_⟩; apply Exists.intro; refine ⟨fun hg => ?_, ?_⟩; · first | exact FnA.at_ (he) rfl rfl | exact FnA.at_s (he) rfl simT | exact FnA.at_s (he) rfl simF))
        | (refine gateA 1 rfl ?_; refine runA_call rfl ⟨_, evl, _, _, _, (fun _ _ => evlA), oblF, ?_⟩; apply Exists.intro; refine ⟨fun hg => ?_, ?_⟩; · first | exact FnA.at_ (he) rfl rfl | exact FnA.at_s (he) rfl simT | exact FnA.at_s (he) rfl simF)
        | (refine gateA 1 rfl ?_; refine runA_put ?_)
        | (refine gateBc ?_; first | (refine runB_nil (hK _ ?_); clear hK K) | (refine runB_op rfl ⟨_, evl, fun nb' => ?_⟩))
        | refine wpA_region (fun K hK => ?_)
        | (refine gateD ?_; first | (refine wpA_drawG false rfl (by kernel_rfl) (by kernel_rfl) (fun K hK => ?_)) | (refine wpA_drawG true rfl (by kernel_rfl) (by kernel_rfl) (fun K hK => ?_)))
        | (refine wpA_cond' ⟨_, evl, fun hb => ?_, fun hb => ?_⟩ <;> (try simp only [Bool.or_eq_true, Bool.and_eq_true, Bool.or_eq_false_iff, Bool.and_eq_false_iff, Bool.not_eq_true', Bool.not_eq_false', Bool.not_eq_true, Bool.not_eq_false, decide_eq_true_eq, decide_eq_false_iff_not, Bool.true_eq_false, Bool.false_eq_true, ne_eq, Classical.not_not, Int.not_lt, Int.not_le, Bool.not_true, Bool.not_false] at hb))
      | fail
  refine sCallGq [0, 2] [] evl (fun hg => before_G l at_ h) rfl rfl ⟨_, evl, _, evl, _, evl, obl, by decide, by decide, by first | trivial | exact ⟨rfl, trivial⟩ | exact ⟨rfl, rfl, trivial⟩ | exact ⟨rfl, rfl, rfl, trivial⟩ | simp [handL, AV.renL, AV.ren, ARow.ren], by first | trivial | exact ⟨rfl, trivial⟩ | exact ⟨rfl, rfl, trivial⟩ | exact ⟨rfl, rfl, rfl, trivial⟩ | simp [handL, AV.renL, AV.ren, ARow.ren], (by first | (simp [AV.subL, AV.sub]; done) | (simp only [List.forall_mem_cons, List.not_mem_nil, false_implies, implies_true, and_true, true_and, AV.subL, AV.sub, List.length_cons, List.length_nil, Nat.zero_add, Nat.reduceAdd]; (repeat' apply And.intro) <;> first | trivial | omega | (simp; done) | (refine AV.sub_free _ ?_; exact lA_free (fun _ => by simp) _) | (refine AV.subL_free _ ?_; simp; done) | (intro r hr; cases hr; done))), _, evl, rfl, rfl, ?_⟩
  repeat'
    first
      | first
        | (refine runS_nil (hK _ ?_); clear hK K)
        | refine stR ?_
        | (refine gateS 1 rfl ?_; first | (refine runS_call rfl rfl ⟨_, evl, _, _, _, evl, oblF, ?_⟩; apply Exists.intro; refine ⟨fun hg => ?_, ?_⟩; · first | exact FnA.at_ (he) rfl rfl | exact FnA.at_s (he) rfl simT | exact FnA.at_s (he) rfl simF) | (refine runS_callR rfl rfl ⟨_, evl, _, _, _, evl, _, _, evl, oblF, ?_⟩; apply Exists.intro; refine ⟨fun hg => ?_, ?_⟩; · first | exact FnA.at_ (he) rfl rfl | exact FnA.at_s (he) rfl simT | exact FnA.at_s (he) rfl simF))
        | (refine gateA 1 rfl ?_; refine runA_call rfl ⟨_, evl, _, _, _, (fun _ _ => evlA), oblF, ?_⟩; apply Exists.intro; refine ⟨fun hg => ?_, ?_⟩; · first | exact FnA.at_ (he) rfl rfl | exact FnA.at_s (he) rfl simT | exact FnA.at_s (he) rfl simF)
        | (refine gateA 1 rfl ?_; refine runA_put ?_)
        | (refine gateBc ?_; first | (refine runB_nil (hK _ ?_); clear hK K) | (refine runB_op rfl ⟨_, evl, fun nb' => ?_⟩))
        | refine wpA_region (fun K hK => ?_)
        | (refine gateD ?_; first | (refine wpA_drawG false rfl (by kernel_rfl) (by kernel_rfl) (fun K hK => ?_)) | (refine wpA_drawG true rfl (by kernel_rfl) (by kernel_rfl) (fun K hK => ?_)))
        | (refine wpA_cond' ⟨_, evl, fun hb => ?_, fun hb => ?_⟩ <;> (try simp only [Bool.or_eq_true, Bool.and_eq_true, Bool.or_eq_false_iff, Bool.and_eq_false_iff, Bool.not_eq_true', Bool.not_eq_false', Bool.not_eq_true, Bool.not_eq_false, decide_eq_true_eq, decide_eq_false_iff_not, Bool.true_eq_false, Bool.false_eq_true, ne_eq, Classical.not_not, Int.not_lt, Int.not_le, Bool.not_true, Bool.not_false] at hb))
      | fail
  all_goals (refine retG_of (by simp) ⟨_, _, _, evl, obq, OutG.bel ?_ obb, by simp, ?_, rfl, obb, obb⟩)
  all_goals first | rfl | (simp []; done) | (simp_all []; done) | (simp_all []; omega) | (simp []; grind) | (split <;> simp_all) | skip
end Go.Proofs.YtihnjbnlbedpaaaDoor
