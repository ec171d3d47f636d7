/- The statement KeysPub, walked. -/
import Derived.Test.YtihnjbnlbedpaaaDoorOp22
namespace Go.Proofs.YtihnjbnlbedpaaaDoor
set_option linter.unusedVariables false
set_option linter.unusedSimpArgs false
set_option maxHeartbeats 4000000
set_option maxRecDepth 100000
open Go.RowKit
theorem lastM_spec {α : Type} [Inhabited α] (p : α → Bool) (l : List α) : ∀ (n j : Nat), j < n → p (l.getD j default) = true → (j : Int) ≤ lastM p l n ∧ p (l.getD (lastM p l n).toNat default) = true
  | n + 1, j, hj, hp => by
    unfold lastM
    split
    · rename_i h
      exact ⟨by omega, by simpa using h⟩
    · rename_i h
      have hjn : j < n := by
        rcases Nat.lt_succ_iff_lt_or_eq.1 hj with h' | rfl
        · exact h'
        · exact absurd hp h
      exact lastM_spec p l n j hjn hp
theorem id_range {l : List KeyWin} (h : ValidP l) {t : Nat} (ht : t < l.length) (id : Int) (hn : ¬ (1 ≤ id ∧ id ≤ (l.getD (lastM (fun k : KeyWin => decide (k.auth = (l.getD t default).auth)) l l.length).toNat default).id)) :
    ∀ i, i < l.length → ¬ ((l.getD i default).auth = (l.getD t default).auth ∧ (l.getD i default).id = id) := by
  intro i hi ⟨h1, h2⟩
  have hr := lastM_range (fun k : KeyWin => decide (k.auth = (l.getD t default).auth)) l l.length
  obtain ⟨h3, h4⟩ := lastM_spec (fun k : KeyWin => decide (k.auth = (l.getD t default).auth)) l l.length i hi (by simpa using h1)
  generalize lastM (fun k : KeyWin => decide (k.auth = (l.getD t default).auth)) l l.length = m at *
  have hf := h.2.1 (l.getD i default) (by rw [getD_get hi]; exact List.getElem_mem _)
  have h5 : 1 ≤ id := by rw [← h2]; exact hf.2.2.1
  simp only [decide_eq_true_eq] at h4
  rcases Nat.lt_or_ge i m.toNat with h6 | h6
  · have := valid_lex h _ _ h6 (by omega)
    omega
  · have : m.toNat = i := by omega
    rw [this] at hn
    omega
theorem keysPub_A (l : List KeyWin) (hf : ∀ k ∈ l, k.fits) (which : Int) (hw : inK .u8 which) (i : Iv) (id : Int) :
    FnA Tryd.prog 8 [lA 7 KeyWin.av l, .raw (.int .u8 which), .agg i.av, .raw (.int .i64 id)] (.raw (.bool true)) := by
  simp only [inK] at hw
  have hv := validR_A l hf
  have hi := validIR_A i
  have hfew := fewR_A l
  have hh := head_A
  by_cases hc : ValidP l ∧ (0 ≤ i.lo ∧ i.lo ≤ i.hi ∧ i.hi ≤ 3000000000000000) ∧ 0 < l.length
  · obtain ⟨hV, hI, h0⟩ := hc
    have hl : l.length ≤ 4611686018427387904 := by have := hV.1; omega
    have et : which.tmod l.length = which % l.length := Int.tmod_eq_emod_of_nonneg hw.1
    have ht : (which.tmod l.length).toNat < l.length ∧ 0 ≤ which.tmod l.length ∧ which.tmod l.length < l.length := by
      rw [et]
      have h1 := Int.emod_nonneg which (show (l.length : Int) ≠ 0 by omega)
      have h2 := Int.emod_lt_of_pos which (show (0 : Int) < l.length by omega)
      omega
    have p1 := pub_A l hl hf (l.getD (which.tmod l.length).toNat default).auth (l.getD (which.tmod l.length).toNat default).id i
    have p2 := pub_A l hl hf (l.getD (which.tmod l.length).toNat default).auth id i
    have hla := lastR_A l hl (l.getD (which.tmod l.length).toNat default).auth
    have q1 := pubM_at (auth := (l.getD (which.tmod l.length).toNat default).auth) (id := (l.getD (which.tmod l.length).toNat default).id) ⟨hV, hI⟩ ht.1 ⟨rfl, rfl⟩
    have q2 := fun hn => pubM_none (auth := (l.getD (which.tmod l.length).toNat default).auth) (id := id) (i := i) ⟨hV, hI⟩ (id_range hV ht.1 id hn)
    have hr := lastM_range (fun k : KeyWin => decide (k.auth = (l.getD (which.tmod l.length).toNat default).auth)) l l.length
    obtain ⟨h3, h4⟩ := lastM_spec (fun k : KeyWin => decide (k.auth = (l.getD (which.tmod l.length).toNat default).auth)) l l.length _ ht.1 (by simp)
    generalize lastM (fun k : KeyWin => decide (k.auth = (l.getD (which.tmod l.length).toNat default).auth)) l l.length = m at *
    have hm0 : 0 ≤ m := by omega
    clear h3 h4
    clear et hI hV hf
    rw [q1] at p1
    clear q1
    generalize pubM l (l.getD (which.tmod l.length).toNat default).auth id i = r2 at *
    have q3 : (decide (1 ≤ id) && decide (id ≤ (l.getD m.toNat default).id) || decide (r2.2 = 4) && decide (r2.1 = 0)) = true := by
      by_cases hn : 1 ≤ id ∧ id ≤ (l.getD m.toNat default).id
      · rw [decide_eq_true hn.1, decide_eq_true hn.2]; rfl
      · rw [q2 hn]; simp
    clear q2
    refine fnA_of tblOk Tryd.func8 rfl (by kernel_rfl) 121 Tryd.ntmps8 (by simp only [List.length_cons, List.length_nil]; omega) [.tmp 8] rfl ?_
    simp only [entrySt, argSl, Nat.zero_add, Nat.reduceAdd]
    repeat'
      first
        | first
          | (refine runS_nil (hK _ ?_); clear hK K)
          | refine stG ?_
          | (refine gateS 1 rfl ?_; refine runS_call rfl rfl ⟨_, evl, _, _, _, evl, oblF, ?_⟩; apply Exists.intro; refine ⟨fun hg => ?_, ?_⟩; · first | exact FnA.at_ (hh) rfl rfl | exact FnA.at_ (hfew) rfl rfl | exact FnA.at_ (hv) rfl rfl | exact FnA.at_ (hi) rfl rfl | exact FnA.at_ (p1) rfl rfl | exact FnA.at_ (p2) rfl rfl | exact FnA.at_ (hla) rfl rfl | exact FnA.at_s (hh) rfl simT | exact FnA.at_s (hh) rfl simF | exact FnA.at_s (hfew) rfl simT | exact FnA.at_s (hfew) rfl simF | exact FnA.at_s (hv) rfl simT | exact FnA.at_s (hv) rfl simF | exact FnA.at_s (hi) rfl simT | exact FnA.at_s (hi) rfl simF | exact FnA.at_s (p1) rfl simT | exact FnA.at_s (p1) rfl simF | exact FnA.at_s (p2) rfl simT | exact FnA.at_s (p2) rfl simF | exact FnA.at_s (hla) rfl simT | exact FnA.at_s (hla) rfl simF)
          | (refine gateA 1 rfl ?_; refine runA_call rfl ⟨_, evl, _, _, _, (fun _ _ => evlA), oblF, ?_⟩; apply Exists.intro; refine ⟨fun hg => ?_, ?_⟩; · first | exact FnA.at_ (hh) rfl rfl | exact FnA.at_ (hfew) rfl rfl | exact FnA.at_ (hv) rfl rfl | exact FnA.at_ (hi) rfl rfl | exact FnA.at_ (p1) rfl rfl | exact FnA.at_ (p2) rfl rfl | exact FnA.at_ (hla) rfl rfl | exact FnA.at_s (hh) rfl simT | exact FnA.at_s (hh) rfl simF | exact FnA.at_s (hfew) rfl simT | exact FnA.at_s (hfew) rfl simF | exact FnA.at_s (hv) rfl simT | exact FnA.at_s (hv) rfl simF | exact FnA.at_s (hi) rfl simT | exact FnA.at_s (hi) rfl simF | exact FnA.at_s (p1) rfl simT | exact FnA.at_s (p1) rfl simF | exact FnA.at_s (p2) rfl simT | exact FnA.at_s (p2) rfl simF | exact FnA.at_s (hla) rfl simT | exact FnA.at_s (hla) rfl simF)
          | (refine gateA 1 rfl ?_; refine runA_put ?_)
          | (refine gateBc ?_; first | (refine runB_nil (hK _ ?_); clear hK K) | (refine runB_op rfl ⟨_, evl, fun nb' => ?_⟩))
          | refine wpA_region (fun K hK => ?_)
          | (refine gateD ?_; first | (refine wpA_drawG false rfl (by kernel_rfl) (by kernel_rfl) (fun K hK => ?_)) | (refine wpA_drawG true rfl (by kernel_rfl) (by kernel_rfl) (fun K hK => ?_)))
          | (refine wpA_cond' ⟨_, evl, fun hb => ?_, fun hb => ?_⟩ <;> (try simp only [Bool.or_eq_true, Bool.and_eq_true, Bool.or_eq_false_iff, Bool.and_eq_false_iff, Bool.not_eq_true', Bool.not_eq_false', Bool.not_eq_true, Bool.not_eq_false, decide_eq_true_eq, decide_eq_false_iff_not, Bool.true_eq_false, Bool.false_eq_true, ne_eq, Classical.not_not, Int.not_lt, Int.not_le, Bool.not_true, Bool.not_false] at hb))
        | fail
    · refine ret_of (by simp) ⟨_, _, _, evl, ob0, OutOk.eq ?_ ?_⟩
      · rfl
      · simp [AV.free]
    · refine ret_of (by simp) ⟨_, _, _, evl, ob0, OutOk.eq ?_ ?_⟩
      · rw [if_neg (by omega), q3]; simp
      · simp [AV.free]
    · refine ret_of (by simp) ⟨_, _, _, evl, ob0, OutOk.eq ?_ ?_⟩
      · rw [if_pos (by omega), q3]; simp
      · simp [AV.free]
  · refine fnA_of tblOk Tryd.func8 rfl (by kernel_rfl) 121 Tryd.ntmps8 (by simp only [List.length_cons, List.length_nil]; omega) [.tmp 8] rfl ?_
    simp only [entrySt, argSl, Nat.zero_add, Nat.reduceAdd]
    repeat'
      first
        | first
          | (refine runS_nil (hK _ ?_); clear hK K)
          | refine stG ?_
          | (refine gateS 1 rfl ?_; refine runS_call rfl rfl ⟨_, evl, _, _, _, evl, oblF, ?_⟩; apply Exists.intro; refine ⟨fun hg => ?_, ?_⟩; · first | exact FnA.at_ (hh) rfl rfl | exact FnA.at_ (hfew) rfl rfl | exact FnA.at_ (hv) rfl rfl | exact FnA.at_ (hi) rfl rfl | exact FnA.at_s (hh) rfl simT | exact FnA.at_s (hh) rfl simF | exact FnA.at_s (hfew) rfl simT | exact FnA.at_s (hfew) rfl simF | exact FnA.at_s (hv) rfl simT | exact FnA.at_s (hv) rfl simF | exact FnA.at_s (hi) rfl simT | exact FnA.at_s (hi) rfl simF)
          | (refine gateA 1 rfl ?_; refine runA_call rfl ⟨_, evl, _, _, _, (fun _ _ => evlA), oblF, ?_⟩; apply Exists.intro; refine ⟨fun hg => ?_, ?_⟩; · first | exact FnA.at_ (hh) rfl rfl | exact FnA.at_ (hfew) rfl rfl | exact FnA.at_ (hv) rfl rfl | exact FnA.at_ (hi) rfl rfl | exact FnA.at_s (hh) rfl simT | exact FnA.at_s (hh) rfl simF | exact FnA.at_s (hfew) rfl simT | exact FnA.at_s (hfew) rfl simF | exact FnA.at_s (hv) rfl simT | exact FnA.at_s (hv) rfl simF | exact FnA.at_s (hi) rfl simT | exact FnA.at_s (hi) rfl simF)
          | (refine gateA 1 rfl ?_; refine runA_put ?_)
          | (refine gateBc ?_; first | (refine runB_nil (hK _ ?_); clear hK K) | (refine runB_op rfl ⟨_, evl, fun nb' => ?_⟩))
          | refine wpA_region (fun K hK => ?_)
          | (refine gateD ?_; first | (refine wpA_drawG false rfl (by kernel_rfl) (by kernel_rfl) (fun K hK => ?_)) | (refine wpA_drawG true rfl (by kernel_rfl) (by kernel_rfl) (fun K hK => ?_)))
          | (refine wpA_cond' ⟨_, evl, fun hb => ?_, fun hb => ?_⟩ <;> (try simp only [Bool.or_eq_true, Bool.and_eq_true, Bool.or_eq_false_iff, Bool.and_eq_false_iff, Bool.not_eq_true', Bool.not_eq_false', Bool.not_eq_true, Bool.not_eq_false, decide_eq_true_eq, decide_eq_false_iff_not, Bool.true_eq_false, Bool.false_eq_true, ne_eq, Classical.not_not, Int.not_lt, Int.not_le, Bool.not_true, Bool.not_false] at hb))
        | fail
    · refine ret_of (by simp) ⟨_, _, _, evl, ob0, OutOk.eq ?_ ?_⟩
      · rfl
      · simp [AV.free]
    · exfalso
      apply hc
      simp_all
theorem keysPub_B {x0 x1 x2 x3 : List AV} (k0 : CellsOk tbl 30 22 x0) (k1 : CellsOk tbl 30 5 x1) (k2 : CellsOk tbl 30 28 x2) (k3 : CellsOk tbl 30 3 x3) :
    FnA Tryd.prog 8 [valA false x0, valA false x1, valA true x2, valA false x3] (.raw (.bool true)) := by
  obtain ⟨l, h0, hf, _⟩ := open_KeyWins k0
  obtain ⟨w, rfl, hw⟩ := open_u8 k1
  obtain ⟨i, rfl, _⟩ := open_Iv k2
  obtain ⟨d, rfl, _⟩ := open_int k3
  exact FnA.sim (keysPub_A l hf w hw i d) ⟨h0, Sim.of_eq rfl, Sim.of_eq rfl, Sim.of_eq rfl, trivial⟩
end Go.Proofs.YtihnjbnlbedpaaaDoor
