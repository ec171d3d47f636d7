/- package keys: Pub. -/
import Derived.Test.YtihnjbnlbedpaaaGreatDoorKeyC
namespace Go.Proofs.YtihnjbnlbedpaaaGreatDoor
set_option linter.unusedVariables false
set_option linter.unusedSimpArgs false
set_option maxHeartbeats 4000000
set_option maxRecDepth 100000
open Go.RowKit
/-- What a valid list is: by rising authorities and IDs. -/
theorem valid_step {l : List KeyWin} (h : ValidP l) {i : Nat} (h0 : 0 < i) (hi : i < l.length) : (l.getD (i - 1) default).auth < (l.getD i default).auth ∨ (l.getD i default).auth = (l.getD (i - 1) default).auth ∧ (l.getD i default).id = (l.getD (i - 1) default).id + 1 := by
  have h1 := h.2.2 i hi
  unfold rightP at h1
  split at h1
  · rename_i h2
    rcases h2 with h2 | h2
    · omega
    · exact .inl h2
  · exact .inr ⟨h1.1.1, h1.1.2.1⟩
theorem valid_lex {l : List KeyWin} (h : ValidP l) : ∀ (j i : Nat), i < j → j < l.length → (l.getD i default).auth < (l.getD j default).auth ∨ (l.getD i default).auth = (l.getD j default).auth ∧ (l.getD i default).id < (l.getD j default).id
  | 0, i, hi, _ => by omega
  | j + 1, i, hi, hj => by
    have h1 := valid_step h (i := j + 1) (by omega) hj
    rw [Nat.add_sub_cancel] at h1
    rcases Nat.lt_succ_iff_lt_or_eq.1 hi with h2 | rfl
    · have h3 := valid_lex h j i h2 (by omega)
      omega
    · omega
theorem cmpK_lt (k : KeyWin) (auth id : Int) : cmpK k auth id < 0 ↔ k.auth < auth ∨ k.auth = auth ∧ k.id < id := by
  unfold cmpK cmpI; grind
theorem cmpK_eq (k : KeyWin) (auth id : Int) : cmpK k auth id = 0 ↔ k.auth = auth ∧ k.id = id := by
  unfold cmpK cmpI; grind
theorem valid_rises {l : List KeyWin} (h : ValidP l) (auth id : Int) : risesC l fun k => cmpK k auth id := by
  intro i j hij hj hc
  rcases Nat.lt_or_eq_of_le hij with h1 | rfl
  · have := valid_lex h j i h1 hj
    rw [cmpK_lt] at hc ⊢
    omega
  · exact hc
def findN (l : List KeyWin) (auth id : Int) : Nat := lowN l fun k => cmpK k auth id
def foundM (l : List KeyWin) (auth id : Int) : Bool := decide (findN l auth id < l.length) && decide (cmpK (l.getD (findN l auth id) default) auth id = 0)
theorem find_A (l : List KeyWin) (h : ValidP l) (auth id : Int) : FnA Tryz.prog 126 [lA 7 KeyWin.av l, .raw (.int .i64 auth), .raw (.int .i64 id)] (.tup [.raw (.int .i64 (findN l auth id)), .raw (.bool (foundM l auth id))]) := by
  have hl : l.length ≤ 4611686018427387904 := by have := h.1; omega
  have hb := bsearch_A l hl (liA [auth, id]) (lA_free (fun _ => by simp) _) _ _ (fun k => find1_A k auth id) (valid_rises h auth id)
  have hi := ints_KA [auth, id]
  have hfr : (lA 7 KeyWin.av l).free := lA_free (fun y => KeyWin.free y) _
  have e1 : foundM l auth id = (decide (lowN l (fun k => cmpK k auth id) < l.length) && decide (cmpK (l.getD (lowN l fun k => cmpK k auth id) default) auth id = 0)) := rfl
  rw [← e1] at hb
  have e2 : findN l auth id = lowN l (fun k => cmpK k auth id) := rfl
  rw [← e2] at hb
  clear e1 e2
  generalize lA 7 KeyWin.av l = L at *
  generalize foundM l auth id = f at *
  refine fnA_of tblOk Tryz.func126 rfl (by kernel_rfl) 16 Tryz.ntmps126 (by simp only [List.length_cons, List.length_nil]; omega) [.tmp 6, .tmp 7] rfl ?_
  simp only [entrySt, argSl, Nat.zero_add, Nat.reduceAdd]
  repeat'
    first
      | first
        | (refine runS_nil (hK _ ?_); clear hK K)
        | refine stG ?_
        | (refine gateS 1 rfl ?_; refine runS_call rfl rfl ⟨_, evl, _, _, _, evl, oblF, ?_⟩; apply Exists.intro; refine ⟨fun hg => ?_, ?_⟩; · first | exact FnA.at_ (hb) rfl rfl | exact FnA.at_ (hi) rfl rfl | exact FnA.at_s (hb) rfl simT | exact FnA.at_s (hb) rfl simF | exact FnA.at_s (hi) rfl simT | exact FnA.at_s (hi) rfl simF)
        | (refine gateA 1 rfl ?_; refine runA_call rfl ⟨_, evl, _, _, _, (fun _ _ => evlA), oblF, ?_⟩; apply Exists.intro; refine ⟨fun hg => ?_, ?_⟩; · first | exact FnA.at_ (hb) rfl rfl | exact FnA.at_ (hi) rfl rfl | exact FnA.at_s (hb) rfl simT | exact FnA.at_s (hb) rfl simF | exact FnA.at_s (hi) rfl simT | exact FnA.at_s (hi) rfl simF)
        | (refine gateA 1 rfl ?_; refine runA_put ?_)
        | (refine gateBc ?_; first | (refine runB_nil (hK _ ?_); clear hK K) | (refine runB_op rfl ⟨_, evl, fun nb' => ?_⟩))
        | refine wpA_region (fun K hK => ?_)
        | (refine gateD ?_; first | (refine wpA_drawG false rfl (by kernel_rfl) (by kernel_rfl) (fun K hK => ?_)) | (refine wpA_drawG true rfl (by kernel_rfl) (by kernel_rfl) (fun K hK => ?_)))
        | (refine wpA_cond' ⟨_, evl, fun hb => ?_, fun hb => ?_⟩ <;> (try simp only [Bool.or_eq_true, Bool.and_eq_true, Bool.or_eq_false_iff, Bool.and_eq_false_iff, Bool.not_eq_true', Bool.not_eq_false', Bool.not_eq_true, Bool.not_eq_false, decide_eq_true_eq, decide_eq_false_iff_not, Bool.true_eq_false, Bool.false_eq_true, ne_eq, Classical.not_not, Int.not_lt, Int.not_le, Bool.not_true, Bool.not_false] at hb))
      | fail
  all_goals (try (refine ret_of (by simp) ⟨_, _, _, evl, ob0, OutOk.sims ?_ (by first | (simp [AV.free, AV.freeL, go_sem]; done) | exact lA_free (fun _ => by simp [AV.free, AV.freeL, u8C, iC]) _ | (simp_all [AV.free, AV.freeL, sA, u8C, iC]; done))⟩))
  all_goals first | exact Sims.refl _ | (refine Sims.of_eq ?_; first | rfl | (simp []; done) | (simp_all []; done) | (simp_all []; omega) | (simp []; grind) | (split <;> simp_all)) | exact simsF | (refine Sims.tup ?_; simp only [SimsL, and_true]; (repeat' apply And.intro) <;> first | exact simsF | skip) | (exfalso; first | omega | (simp_all; done) | (simp_all; omega)) | skip
def pubM (l : List KeyWin) (auth id : Int) (i : Iv) : Int × Int :=
  if ValidP l ∧ (0 ≤ i.lo ∧ i.lo ≤ i.hi ∧ i.hi ≤ 3000000000000000) then
    if foundM l auth id then
      if i.lo < (l.getD (findN l auth id) default).from_ ∨ (l.getD (findN l auth id) default).until_ ≤ i.hi then (0, 31) else ((l.getD (findN l auth id) default).pub, 0)
    else (0, 4)
  else (0, 1)
theorem pub_A (l : List KeyWin) (hl : l.length ≤ 4611686018427387904) (hf : ∀ k ∈ l, k.fits) (auth id : Int) (i : Iv) : FnA Tryz.prog 55 [lA 7 KeyWin.av l, .raw (.int .i64 auth), .raw (.int .i64 id), .agg i.av] (.tup [.raw (.int .i64 (pubM l auth id i).1), .raw (.int .i64 (pubM l auth id i).2)]) := by
  have hv := valid_A l hl hf
  have hi := validI_A' i.lo i.hi
  have hn : foundM l auth id = true → findN l auth id < l.length := by
    unfold foundM; simp; intro h _; exact h
  refine fnA_of tblOk Tryz.func55 rfl (by kernel_rfl) 54 Tryz.ntmps55 (by simp only [List.length_cons, List.length_nil]; omega) [.tmp 8, .tmp 9] rfl ?_
  simp only [entrySt, argSl, Nat.zero_add, Nat.reduceAdd]
  repeat'
    first
      | first
        | (refine runS_nil (hK _ ?_); clear hK K)
        | refine stG ?_
        | (refine gateS 1 rfl ?_; refine runS_call rfl rfl ⟨_, evl, _, _, _, evl, oblF, ?_⟩; apply Exists.intro; refine ⟨fun hg => ?_, ?_⟩; · first | exact FnA.at_ (hv) rfl rfl | exact FnA.at_ (hi) rfl rfl | exact FnA.at_ (find_A l (by simp_all) auth id) rfl rfl | exact FnA.at_s (hv) rfl simT | exact FnA.at_s (hv) rfl simF | exact FnA.at_s (hi) rfl simT | exact FnA.at_s (hi) rfl simF | exact FnA.at_s (find_A l (by simp_all) auth id) rfl simT | exact FnA.at_s (find_A l (by simp_all) auth id) rfl simF)
        | (refine gateA 1 rfl ?_; refine runA_call rfl ⟨_, evl, _, _, _, (fun _ _ => evlA), oblF, ?_⟩; apply Exists.intro; refine ⟨fun hg => ?_, ?_⟩; · first | exact FnA.at_ (hv) rfl rfl | exact FnA.at_ (hi) rfl rfl | exact FnA.at_ (find_A l (by simp_all) auth id) rfl rfl | exact FnA.at_s (hv) rfl simT | exact FnA.at_s (hv) rfl simF | exact FnA.at_s (hi) rfl simT | exact FnA.at_s (hi) rfl simF | exact FnA.at_s (find_A l (by simp_all) auth id) rfl simT | exact FnA.at_s (find_A l (by simp_all) auth id) rfl simF)
        | (refine gateA 1 rfl ?_; refine runA_put ?_)
        | (refine gateBc ?_; first | (refine runB_nil (hK _ ?_); clear hK K) | (refine runB_op rfl ⟨_, evl, fun nb' => ?_⟩))
        | refine wpA_region (fun K hK => ?_)
        | (refine gateD ?_; first | (refine wpA_drawG false rfl (by kernel_rfl) (by kernel_rfl) (fun K hK => ?_)) | (refine wpA_drawG true rfl (by kernel_rfl) (by kernel_rfl) (fun K hK => ?_)))
        | (refine wpA_cond' ⟨_, evl, fun hb => ?_, fun hb => ?_⟩ <;> (try simp only [Bool.or_eq_true, Bool.and_eq_true, Bool.or_eq_false_iff, Bool.and_eq_false_iff, Bool.not_eq_true', Bool.not_eq_false', Bool.not_eq_true, Bool.not_eq_false, decide_eq_true_eq, decide_eq_false_iff_not, Bool.true_eq_false, Bool.false_eq_true, ne_eq, Classical.not_not, Int.not_lt, Int.not_le, Bool.not_true, Bool.not_false] at hb))
      | fail
  all_goals (try (refine ret_of (by simp) ⟨_, _, _, evl, ob0, OutOk.sims ?_ (by first | (simp [AV.free, AV.freeL, go_sem]; done) | exact lA_free (fun _ => by simp [AV.free, AV.freeL, u8C, iC]) _ | (simp_all [AV.free, AV.freeL, sA, u8C, iC]; done))⟩))
  all_goals first | exact Sims.refl _ | (refine Sims.of_eq ?_; first | rfl | (simp [pubM]; done) | (simp_all [pubM]; done) | (simp_all [pubM]; omega) | (simp [pubM]; grind) | (split <;> simp_all)) | exact simsF | (refine Sims.tup ?_; simp only [SimsL, and_true]; (repeat' apply And.intro) <;> first | exact simsF | skip) | (exfalso; first | omega | (simp_all; done) | (simp_all; omega)) | skip
end Go.Proofs.YtihnjbnlbedpaaaGreatDoor
