/- The statement KeysLast, walked. -/
import Derived.Test.YtihnjbnlbedpaaaDoorOp22
namespace Go.Proofs.YtihnjbnlbedpaaaDoor
set_option linter.unusedVariables false
set_option linter.unusedSimpArgs false
set_option maxHeartbeats 4000000
set_option maxRecDepth 100000
open Go.RowKit
def without (l : List KeyWin) (i : Nat) : List KeyWin := l.take i ++ l.drop (i + 1)
theorem without_len {l : List KeyWin} {i : Nat} (hi : i < l.length) : (without l i).length = l.length - 1 := by
  simp only [without, List.length_append, List.length_take, List.length_drop]; omega
theorem without_get {l : List KeyWin} {i : Nat} (hi : i < l.length) (j : Nat) : (without l i).getD j default = if j < i then l.getD j default else l.getD (j + 1) default := by
  simp only [without, List.getD_eq_getElem?_getD]
  split
  · rename_i h
    rw [List.getElem?_append_left (by rw [List.length_take]; omega), List.getElem?_take, if_pos h]
  · rename_i h
    rw [List.getElem?_append_right (by rw [List.length_take]; omega), List.length_take, List.getElem?_drop]
    congr 2
    omega
theorem valid_without {l : List KeyWin} (h : ValidP l) {i : Nat} (hi : i < l.length) : ValidP (without l i) ↔ ¬ (i + 1 < l.length ∧ (l.getD (i + 1) default).auth = (l.getD i default).auth) := by
  have hlen := without_len hi
  have hget := without_get hi
  have right0 := h.2.2
  constructor
  · rintro hv ⟨h1, h2⟩
    have r := hv.2.2 i (by omega)
    have r1 := valid_step h (i := i + 1) (by omega) h1
    rw [Nat.add_sub_cancel] at r1
    have r2 := right0 i hi
    simp only [rightP, hget] at r r2
    rw [if_neg (by omega : ¬ i < i)] at r
    rcases Nat.eq_zero_or_pos i with rfl | h0
    · simp only [true_or, if_true] at r r2
      omega
    · rw [if_pos (by omega : i - 1 < i)] at r
      have r3 := valid_step h h0 hi
      split at r
      · rename_i h3
        split at r2
        · omega
        · omega
      · have := r.1.2.1
        omega
  · intro hn
    refine ⟨by have := h.1; omega, fun k hk => ?_, fun j hj => ?_⟩
    · refine h.2.1 k ?_
      rcases List.mem_append.1 hk with hk | hk
      · exact List.mem_of_mem_take hk
      · exact List.mem_of_mem_drop hk
    · rcases Nat.lt_trichotomy j i with h1 | rfl | h1
      · have := right0 j (by omega)
        simp only [rightP, hget] at this ⊢
        rwa [if_pos h1, if_pos (by omega : j - 1 < i)]
      · have h2 : (l.getD (j + 1) default).auth ≠ (l.getD j default).auth := fun h2 => hn ⟨by omega, h2⟩
        have r1 := valid_step h (i := j + 1) (by omega) (by omega)
        rw [Nat.add_sub_cancel] at r1
        have r2 := right0 (j + 1) (by omega)
        simp only [rightP, hget, Nat.add_sub_cancel] at r2 ⊢
        rw [if_neg (by omega : ¬ j < j)]
        rw [if_pos (by omega)] at r2
        rw [if_pos ?_]
        · exact r2
        · rcases Nat.eq_zero_or_pos j with h0 | h0
          · exact .inl h0
          · rw [if_pos (by omega : j - 1 < j)]
            have r3 := valid_step h h0 hi
            omega
      · have := right0 (j + 1) (by omega)
        simp only [rightP, hget, Nat.add_sub_cancel] at this ⊢
        rw [if_neg (by omega : ¬ j < i), if_neg (by omega : ¬ j - 1 < i), show j - 1 + 1 = j from by omega]
        simp only [show ¬ j = 0 from by omega, show ¬ j + 1 = 0 from by omega, false_or] at this ⊢
        exact this
theorem without_el {l : List KeyWin} {t u : Nat} (hu : u = t + 1) (ht : t < l.length) (j : Nat) : appEl t (appEl 0 (chunkA 7 []) (els KeyWin.av l)) (fun i => KeyWin.av (l.getD (u + i) default)) j = els KeyWin.av (without l t) j := by
  subst hu
  unfold els
  rw [without_get ht]
  by_cases h : j < t
  · rw [appEl_lt h, if_pos h, appEl_ge (Nat.zero_le _)]; rfl
  · rw [appEl_ge (by omega), if_neg h]
    show KeyWin.av (l.getD (t + 1 + (j - t)) default) = _
    rw [show t + 1 + (j - t) = j + 1 from by omega]
theorem keysLast_A (l : List KeyWin) (hf : ∀ k ∈ l, k.fits) (which : Int) (hw : inK .u8 which) :
    FnA Tryd.prog 7 [lA 7 KeyWin.av l, .raw (.int .u8 which)] (.raw (.bool true)) := by
  simp only [inK] at hw
  have hv := validR_A l hf
  have hfew := fewR_A l
  have hh := head_A
  by_cases hc : ValidP l ∧ 0 < l.length
  · obtain ⟨hV, h0⟩ := hc
    have hl : l.length ≤ 4611686018427387904 := by have := hV.1; omega
    have et : which.tmod l.length = which % l.length := Int.tmod_eq_emod_of_nonneg hw.1
    have ht : (which.tmod l.length).toNat < l.length ∧ 0 ≤ which.tmod l.length ∧ which.tmod l.length < l.length := by
      rw [et]
      have h1 := Int.emod_nonneg which (show (l.length : Int) ≠ 0 by omega)
      have h2 := Int.emod_lt_of_pos which (show (0 : Int) < l.length by omega)
      omega
    have q := valid_without hV ht.1
    have hlen := without_len ht.1
    have hv2 := valid_A (without l (which.tmod l.length).toNat) (by omega) (fun k hk => by
      refine hf k ?_
      rcases List.mem_append.1 hk with hk | hk
      · exact List.mem_of_mem_take hk
      · exact List.mem_of_mem_drop hk)
    have e2 : (which.tmod l.length + 1).toNat = (which.tmod l.length).toNat + 1 := by omega
    rw [← e2] at q
    have hV2 : decide (ValidP (without l (which.tmod l.length).toNat)) = !(decide (which.tmod l.length + 1 < l.length) && decide ((l.getD (which.tmod l.length + 1).toNat default).auth = (l.getD (which.tmod l.length).toNat default).auth)) := by
      rw [← Bool.decide_and, ← decide_not, decide_eq_decide, q]
      constructor <;> intro h <;> rintro ⟨h1, h2⟩ <;> exact h ⟨by omega, h2⟩
    rw [hV2] at hv2
    clear hV2 q et hf hV
    refine fnA_of tblOk Tryd.func7 rfl (by kernel_rfl) 66 Tryd.ntmps7 (by simp only [List.length_cons, List.length_nil]; omega) [.tmp 4] rfl ?_
    simp only [entrySt, argSl, Nat.zero_add, Nat.reduceAdd]
    repeat'
      first
        | first
          | (refine runS_nil (hK _ ?_); clear hK K)
          | refine stR ?_
          | (refine gateS 1 rfl ?_; first | (refine runS_call rfl rfl ⟨_, evl, _, _, _, evl, oblF, ?_⟩; apply Exists.intro; refine ⟨fun hg => ?_, ?_⟩; · first | exact FnA.at_ (hh) rfl rfl | exact FnA.at_ (hfew) rfl rfl | exact FnA.at_ (hv) rfl rfl | exact FnA.sim hv2 ⟨Sim.lstE (by rw [hlen]; omega) (fun j _ => without_el e2 ht.1 j), trivial⟩ | exact FnA.at_s (hh) rfl simT | exact FnA.at_s (hh) rfl simF | exact FnA.at_s (hfew) rfl simT | exact FnA.at_s (hfew) rfl simF | exact FnA.at_s (hv) rfl simT | exact FnA.at_s (hv) rfl simF) | (refine runS_callR rfl rfl ⟨_, evl, _, _, _, evl, _, _, evl, oblF, ?_⟩; apply Exists.intro; refine ⟨fun hg => ?_, ?_⟩; · first | exact FnA.at_ (hh) rfl rfl | exact FnA.at_ (hfew) rfl rfl | exact FnA.at_ (hv) rfl rfl | exact FnA.sim hv2 ⟨Sim.lstE (by rw [hlen]; omega) (fun j _ => without_el e2 ht.1 j), trivial⟩ | exact FnA.at_s (hh) rfl simT | exact FnA.at_s (hh) rfl simF | exact FnA.at_s (hfew) rfl simT | exact FnA.at_s (hfew) rfl simF | exact FnA.at_s (hv) rfl simT | exact FnA.at_s (hv) rfl simF))
          | (refine gateA 1 rfl ?_; refine runA_call rfl ⟨_, evl, _, _, _, (fun _ _ => evlA), oblF, ?_⟩; apply Exists.intro; refine ⟨fun hg => ?_, ?_⟩; · first | exact FnA.at_ (hh) rfl rfl | exact FnA.at_ (hfew) rfl rfl | exact FnA.at_ (hv) rfl rfl | exact FnA.sim hv2 ⟨Sim.lstE (by rw [hlen]; omega) (fun j _ => without_el e2 ht.1 j), trivial⟩ | exact FnA.at_s (hh) rfl simT | exact FnA.at_s (hh) rfl simF | exact FnA.at_s (hfew) rfl simT | exact FnA.at_s (hfew) rfl simF | exact FnA.at_s (hv) rfl simT | exact FnA.at_s (hv) rfl simF)
          | (refine gateA 1 rfl ?_; refine runA_put ?_)
          | (refine gateBc ?_; first | (refine runB_nil (hK _ ?_); clear hK K) | (refine runB_op rfl ⟨_, evl, fun nb' => ?_⟩))
          | refine wpA_region (fun K hK => ?_)
          | (refine gateD ?_; first | (refine wpA_drawG false rfl (by kernel_rfl) (by kernel_rfl) (fun K hK => ?_)) | (refine wpA_drawG true rfl (by kernel_rfl) (by kernel_rfl) (fun K hK => ?_)))
          | (refine wpA_cond' ⟨_, evl, fun hb => ?_, fun hb => ?_⟩ <;> (try simp only [Bool.or_eq_true, Bool.and_eq_true, Bool.or_eq_false_iff, Bool.and_eq_false_iff, Bool.not_eq_true', Bool.not_eq_false', Bool.not_eq_true, Bool.not_eq_false, decide_eq_true_eq, decide_eq_false_iff_not, Bool.true_eq_false, Bool.false_eq_true, ne_eq, Classical.not_not, Int.not_lt, Int.not_le, Bool.not_true, Bool.not_false] at hb))
        | fail
    · refine ret_of (by simp) ⟨_, _, _, evl, ob0, OutOk.eq ?_ ?_⟩
      · rfl
      · simp [AV.free]
    · refine ret_of (by simp) ⟨_, _, _, evl, ob0, OutOk.eq ?_ ?_⟩
      · simp
      · simp [AV.free]
  · refine fnA_of tblOk Tryd.func7 rfl (by kernel_rfl) 66 Tryd.ntmps7 (by simp only [List.length_cons, List.length_nil]; omega) [.tmp 4] rfl ?_
    simp only [entrySt, argSl, Nat.zero_add, Nat.reduceAdd]
    repeat'
      first
        | first
          | (refine runS_nil (hK _ ?_); clear hK K)
          | refine stR ?_
          | (refine gateS 1 rfl ?_; first | (refine runS_call rfl rfl ⟨_, evl, _, _, _, evl, oblF, ?_⟩; apply Exists.intro; refine ⟨fun hg => ?_, ?_⟩; · first | exact FnA.at_ (hh) rfl rfl | exact FnA.at_ (hfew) rfl rfl | exact FnA.at_ (hv) rfl rfl | exact FnA.at_s (hh) rfl simT | exact FnA.at_s (hh) rfl simF | exact FnA.at_s (hfew) rfl simT | exact FnA.at_s (hfew) rfl simF | exact FnA.at_s (hv) rfl simT | exact FnA.at_s (hv) rfl simF) | (refine runS_callR rfl rfl ⟨_, evl, _, _, _, evl, _, _, evl, oblF, ?_⟩; apply Exists.intro; refine ⟨fun hg => ?_, ?_⟩; · first | exact FnA.at_ (hh) rfl rfl | exact FnA.at_ (hfew) rfl rfl | exact FnA.at_ (hv) rfl rfl | exact FnA.at_s (hh) rfl simT | exact FnA.at_s (hh) rfl simF | exact FnA.at_s (hfew) rfl simT | exact FnA.at_s (hfew) rfl simF | exact FnA.at_s (hv) rfl simT | exact FnA.at_s (hv) rfl simF))
          | (refine gateA 1 rfl ?_; refine runA_call rfl ⟨_, evl, _, _, _, (fun _ _ => evlA), oblF, ?_⟩; apply Exists.intro; refine ⟨fun hg => ?_, ?_⟩; · first | exact FnA.at_ (hh) rfl rfl | exact FnA.at_ (hfew) rfl rfl | exact FnA.at_ (hv) rfl rfl | exact FnA.at_s (hh) rfl simT | exact FnA.at_s (hh) rfl simF | exact FnA.at_s (hfew) rfl simT | exact FnA.at_s (hfew) rfl simF | exact FnA.at_s (hv) rfl simT | exact FnA.at_s (hv) rfl simF)
          | (refine gateA 1 rfl ?_; refine runA_put ?_)
          | (refine gateBc ?_; first | (refine runB_nil (hK _ ?_); clear hK K) | (refine runB_op rfl ⟨_, evl, fun nb' => ?_⟩))
          | refine wpA_region (fun K hK => ?_)
          | (refine gateD ?_; first | (refine wpA_drawG false rfl (by kernel_rfl) (by kernel_rfl) (fun K hK => ?_)) | (refine wpA_drawG true rfl (by kernel_rfl) (by kernel_rfl) (fun K hK => ?_)))
          | (refine wpA_cond' ⟨_, evl, fun hb => ?_, fun hb => ?_⟩ <;> (try simp only [Bool.or_eq_true, Bool.and_eq_true, Bool.or_eq_false_iff, Bool.and_eq_false_iff, Bool.not_eq_true', Bool.not_eq_false', Bool.not_eq_true, Bool.not_eq_false, decide_eq_true_eq, decide_eq_false_iff_not, Bool.true_eq_false, Bool.false_eq_true, ne_eq, Classical.not_not, Int.not_lt, Int.not_le, Bool.not_true, Bool.not_false] at hb))
        | fail
    · refine ret_of (by simp) ⟨_, _, _, evl, ob0, OutOk.eq ?_ ?_⟩
      · rfl
      · simp [AV.free]
    · exfalso
      apply hc
      simp_all
theorem keysLast_B {x0 x1 : List AV} (k0 : CellsOk tbl 30 22 x0) (k1 : CellsOk tbl 30 5 x1) :
    FnA Tryd.prog 7 [valA false x0, valA false x1] (.raw (.bool true)) := by
  obtain ⟨l, h0, hf, _⟩ := open_KeyWins k0
  obtain ⟨w, rfl, hw⟩ := open_u8 k1
  exact FnA.sim (keysLast_A l hf w hw) ⟨h0, Sim.of_eq rfl, trivial⟩
end Go.Proofs.YtihnjbnlbedpaaaDoor
