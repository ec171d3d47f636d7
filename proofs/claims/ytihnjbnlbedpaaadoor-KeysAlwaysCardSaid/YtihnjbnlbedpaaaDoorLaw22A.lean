/- The statement KeysAlways, walked. -/
import Derived.Test.YtihnjbnlbedpaaaDoorOp22
namespace Go.Proofs.YtihnjbnlbedpaaaDoor
set_option linter.unusedVariables false
set_option linter.unusedSimpArgs false
set_option maxHeartbeats 4000000
set_option maxRecDepth 100000
open Go.RowKit
def fromM (l : List KeyWin) (auth : Int) : Nat → Int
  | 0 => 3000000000000000
  | k + 1 => if (l.getD k default).auth = auth then min (fromM l auth k) (l.getD k default).from_ else fromM l auth k
def untilM (l : List KeyWin) (auth : Int) : Nat → Int
  | 0 => 0
  | k + 1 => if (l.getD k default).auth = auth then max (untilM l auth k) (l.getD k default).until_ else untilM l auth k
theorem fromM_le {l : List KeyWin} {auth : Int} {P : Int → Prop} (h0 : P 3000000000000000) (h : ∀ i, i < l.length → (l.getD i default).auth = auth → P (l.getD i default).from_) : ∀ n, n ≤ l.length → P (fromM l auth n)
  | 0, _ => h0
  | n + 1, hn => by
    have ih := fromM_le h0 h n (by omega)
    unfold fromM
    split
    · rename_i e
      rcases Int.le_total (fromM l auth n) (l.getD n default).from_ with h1 | h1
      · rw [Int.min_eq_left h1]; exact ih
      · rw [Int.min_eq_right h1]; exact h n (by omega) e
    · exact ih
theorem untilM_le {l : List KeyWin} {auth : Int} {P : Int → Prop} (h0 : P 0) (h : ∀ i, i < l.length → (l.getD i default).auth = auth → P (l.getD i default).until_) : ∀ n, n ≤ l.length → P (untilM l auth n)
  | 0, _ => h0
  | n + 1, hn => by
    have ih := untilM_le h0 h n (by omega)
    unfold untilM
    split
    · rename_i e
      rcases Int.le_total (untilM l auth n) (l.getD n default).until_ with h1 | h1
      · rw [Int.max_eq_right h1]; exact h n (by omega) e
      · rw [Int.max_eq_left h1]; exact ih
    · exact ih
/-- One of the windows of an authority has each time between. -/
theorem always {l : List KeyWin} (h : ValidP l) {auth at_ : Int} (h1 : fromM l auth l.length ≤ at_) (h2 : at_ < untilM l auth l.length) : ∃ i, i < l.length ∧ (l.getD i default).auth = auth ∧ (l.getD i default).from_ ≤ at_ ∧ at_ < (l.getD i default).until_ := by
  have hform : ∀ i, i < l.length → formedP (l.getD i default) := fun i hi => h.2.1 _ (by rw [getD_get hi]; exact List.getElem_mem _)
  -- a window that begins at the time or before
  have hbeg : ∃ i, i < l.length ∧ (l.getD i default).auth = auth ∧ (l.getD i default).from_ ≤ at_ := by
    refine Classical.byContradiction fun hc => ?_
    have h3 := fromM_le (l := l) (auth := auth) (P := fun x => at_ < x) ?_ (fun i hi e => ?_) l.length (Nat.le_refl _)
    · omega
    · have h4 := untilM_le (l := l) (auth := auth) (P := fun x => x ≤ 3000000000000000) (by omega) (fun i hi _ => (hform i hi).2.2.2.2.2.2.1) l.length (Nat.le_refl _)
      omega
    · rcases Int.lt_or_le at_ (l.getD i default).from_ with h4 | h4
      · exact h4
      · exact absurd ⟨i, hi, e, h4⟩ hc
  -- the last of these
  refine Classical.byContradiction fun hc => ?_
  have hall : ∀ n i, i + n = l.length → (l.getD i default).auth = auth → (l.getD i default).from_ ≤ at_ → i < l.length → (∀ j, j < l.length → (l.getD j default).auth = auth → j ≤ i → (l.getD j default).until_ ≤ at_) → False := by
    intro n
    induction n with
    | zero => intro i hi _ _ hl; omega
    | succ n ih =>
      intro i hi he hf hl hu
      by_cases hnext : i + 1 < l.length ∧ (l.getD (i + 1) default).auth = auth
      · have r := h.2.2 (i + 1) hnext.1
        simp only [rightP, Nat.add_sub_cancel] at r
        rw [if_neg (by omega)] at r
        obtain ⟨⟨_, _, f1, f2, f3⟩, _⟩ := r
        have hui := hu i hl he (Nat.le_refl _)
        refine ih (i + 1) (by omega) hnext.2 (by omega) hnext.1 fun j hj hje hji => ?_
        rcases Nat.lt_or_eq_of_le hji with h5 | rfl
        · exact hu j hj hje (by omega)
        · rcases Int.lt_or_le at_ (l.getD (i + 1) default).until_ with h6 | h6
          · exact absurd ⟨i + 1, hj, hje, by omega, h6⟩ hc
          · exact h6
      · have h3 := untilM_le (l := l) (auth := auth) (P := fun x => x ≤ at_) ?_ (fun j hj e => ?_) l.length (Nat.le_refl _)
        · omega
        · have := (hform i hl).2.2.2.2.1; omega
        · rcases Nat.lt_or_ge i j with h4 | h4
          · exfalso
            -- an authority's windows lie side by side
            have h5 := valid_lex h j i h4 hj
            have h6 := valid_step h (i := i + 1) (by omega) (by omega)
            rw [Nat.add_sub_cancel] at h6
            rcases h6 with h6 | h6
            · rcases Nat.lt_or_ge (i + 1) j with h7 | h7
              · have := valid_lex h j (i + 1) h7 hj; omega
              · have : j = i + 1 := by omega
                subst this; omega
            · exact hnext ⟨by omega, by omega⟩
          · exact hu j hj e h4
  -- the first window of the authority
  obtain ⟨i, hi, he, hf⟩ := hbeg
  have step : ∀ i, i < l.length → (l.getD i default).auth = auth → (l.getD i default).from_ ≤ at_ → ∀ j, j ≤ i → (l.getD j default).auth = auth → (l.getD j default).from_ ≤ at_ ∧ (l.getD j default).until_ ≤ at_ := by
    intro i
    induction i using Nat.strongRecOn with
    | _ i ih =>
      intro hi he hf j hj hje
      have hui : (l.getD i default).until_ ≤ at_ := by
        rcases Int.lt_or_le at_ (l.getD i default).until_ with h6 | h6
        · exact absurd ⟨i, hi, he, hf, h6⟩ hc
        · exact h6
      rcases Nat.lt_or_eq_of_le hj with h5 | rfl
      · have r := h.2.2 i hi
        have hs := valid_step h (i := i) (by omega) hi
        have hpa : (l.getD (i - 1) default).auth = auth := by
          rcases Nat.lt_or_ge j (i - 1) with h7 | h7
          · have := valid_lex h (i - 1) j h7 (by omega)
            have := valid_lex h i (i - 1) (by omega) hi
            omega
          · have : j = i - 1 := by omega
            rw [← this]; exact hje
        simp only [rightP] at r
        rw [if_neg (by omega)] at r
        obtain ⟨⟨_, _, f1, f2, f3⟩, _⟩ := r
        exact ih (i - 1) (by omega) (by omega) hpa (by omega) j (by omega) hje
      · exact ⟨hf, hui⟩
  exact hall (l.length - i) i (by omega) he hf hi fun j hj hje hji => (step i hi he hf j hji hje).2
theorem keysAlways_A (l : List KeyWin) (hf : ∀ k ∈ l, k.fits) (which : Int) (hw : inK .u8 which) (at_ : Int) (ha : inK .i64 at_) :
    FnA Tryd.prog 5 [lA 7 KeyWin.av l, .raw (.int .u8 which), .raw (.int .i64 at_)] (.raw (.bool true)) := by
  simp only [inK] at hw ha
  have hv := validR_A l hf
  have hfew := fewR_A l
  have hh := head_A
  by_cases hc : ValidP l ∧ 0 < l.length
  · obtain ⟨hV, h0⟩ := hc
    have hl : l.length ≤ 4611686018427387904 := by have := hV.1; omega
    have et : which.tmod l.length = which % l.length := Int.tmod_eq_emod_of_nonneg hw.1
    have ht : (which.tmod l.length).toNat < l.length ∧ 0 ≤ which.tmod l.length ∧ which.tmod l.length < l.length := by
      rw [et]
      have h1 := Int.emod_nonneg which (show (l.length : Int) ≠ 0 by omega)
      have h2 := Int.emod_lt_of_pos which (show (0 : Int) < l.length by omega)
      omega
    have hform : ∀ i, i < l.length → formedP (l.getD i default) := fun i hi => hV.2.1 _ (by rw [getD_get hi]; exact List.getElem_mem _)
    have hp := fun auth id => pub_A l hl hf auth id ⟨at_, at_⟩
    have hal := fun auth => always (auth := auth) (at_ := at_) hV
    have hfr := fun auth => fromM_le (l := l) (auth := auth) (P := fun x => 0 ≤ x) (by omega) (fun i hi _ => (hform i hi).2.2.2.2.1) l.length (Nat.le_refl _)
    have hun := fun auth => untilM_le (l := l) (auth := auth) (P := fun x => x ≤ 3000000000000000) (by omega) (fun i hi _ => (hform i hi).2.2.2.2.2.2.1) l.length (Nat.le_refl _)
    have hat := fun hI auth id k hk he => pubM_at (l := l) (auth := auth) (id := id) (i := ⟨at_, at_⟩) ⟨hV, hI⟩ (k := k) hk he
    simp only at hat hfr hun
    clear hf et
    refine fnA_of tblOk Tryd.func5 rfl (by kernel_rfl) 114 Tryd.ntmps5 (by simp only [List.length_cons, List.length_nil]; omega) [.tmp 6] rfl ?_
    simp only [entrySt, argSl, Nat.zero_add, Nat.reduceAdd]
    repeat'
      first
        | first
          | (refine runS_nil (hK _ ?_); clear hK K)
          | refine stG ?_
          | (refine gateS 1 rfl ?_; refine runS_call rfl rfl ⟨_, evl, _, _, _, evl, oblF, ?_⟩; apply Exists.intro; refine ⟨fun hg => ?_, ?_⟩; · first | exact FnA.at_ (hh) rfl rfl | exact FnA.at_ (hfew) rfl rfl | exact FnA.at_ (hv) rfl rfl | exact FnA.at_s (hh) rfl simT | exact FnA.at_s (hh) rfl simF | exact FnA.at_s (hfew) rfl simT | exact FnA.at_s (hfew) rfl simF | exact FnA.at_s (hv) rfl simT | exact FnA.at_s (hv) rfl simF)
          | (refine gateA 1 rfl ?_; refine runA_call rfl ⟨_, evl, _, _, _, (fun _ _ => evlA), oblF, ?_⟩; apply Exists.intro; refine ⟨fun hg => ?_, ?_⟩; · first | exact FnA.at_ (hh) rfl rfl | exact FnA.at_ (hfew) rfl rfl | exact FnA.at_ (hv) rfl rfl | exact FnA.at_s (hh) rfl simT | exact FnA.at_s (hh) rfl simF | exact FnA.at_s (hfew) rfl simT | exact FnA.at_s (hfew) rfl simF | exact FnA.at_s (hv) rfl simT | exact FnA.at_s (hv) rfl simF)
          | (refine gateA 1 rfl ?_; refine runA_put ?_)
          | (refine gateBc ?_; first | (refine runB_nil (hK _ ?_); clear hK K) | (refine runB_op rfl ⟨_, evl, fun nb' => ?_⟩))
          | refine wpA_region (fun K hK => ?_)
          | (refine gateD ?_; first | (refine wpA_drawG false rfl (by kernel_rfl) (by kernel_rfl) (fun K hK => ?_)) | (refine wpA_drawG true rfl (by kernel_rfl) (by kernel_rfl) (fun K hK => ?_)))
          | (refine wpA_cond' ⟨_, evl, fun hb => ?_, fun hb => ?_⟩ <;> (try simp only [Bool.or_eq_true, Bool.and_eq_true, Bool.or_eq_false_iff, Bool.and_eq_false_iff, Bool.not_eq_true', Bool.not_eq_false', Bool.not_eq_true, Bool.not_eq_false, decide_eq_true_eq, decide_eq_false_iff_not, Bool.true_eq_false, Bool.false_eq_true, ne_eq, Classical.not_not, Int.not_lt, Int.not_le, Bool.not_true, Bool.not_false] at hb))
        | fail
    · refine ret_of (by simp) ⟨_, _, _, evl, ob0, OutOk.eq ?_ ?_⟩
      · rfl
      · simp [AV.free]
    generalize (l.getD (which.tmod l.length).toNat default).auth = au
    clear ht
    refine wpA_loop (fun k : Nat => ⟨114, 0, [(0, true, lA 7 KeyWin.av l), (2, true, .raw (.int .i64 at_)), (7, true, .raw (.bool true)), (8, true, .raw (.int .i64 au)), (9, true, .raw (.int .i64 (fromM l au k))), (10, true, .raw (.int .i64 (untilM l au k))), (41, true, lA 7 KeyWin.av l), (42, true, .raw (.int .i64 l.length)), (43, true, .raw (.int .i64 k))], [], [], ((0, []), [], true)⟩)
      (fun k => k ≤ l.length) (fun k => l.length - k) 0 ?_ (by omega) ?_
    · refine Weak.gen ?_ ?_ ?_ (by simp) ?_
      rotate_left 3
      · first | (simp [subSl, subB, subR, AV.sub, AV.subL, go_sem]; done) | (simp [subSl, subB, subR, AV.sub, AV.subL, go_sem, AV.subL_free, AV.sub_free, *]; done) | (simp_all [subSl, subB, subR, AV.sub, AV.subL, go_sem]; done)
      all_goals (try simp only [SlSim, BxSim, RwSim, SimsL, lookN_cons, ↓reduceIte, Nat.reduceEqDiff, Option.some.injEq, Prod.mk.injEq, true_and, and_true, exists_eq_left', and_self])
      all_goals (try trivial)
      all_goals ((repeat' apply And.intro) <;> first | exact simsT | (intro _ _; exact simsT) | omega | (simp; done) | (simp; omega) | (intro _ _; refine SimsL.of_eq (els_snoc ?_ (by assumption) rfl) <;> first | rfl | omega | (simp; done) | (simp; omega)) | skip)
    · rintro k hk
      have s1 : fromM l au (k + 1) = if (l.getD k default).auth = au then min (fromM l au k) (l.getD k default).from_ else fromM l au k := rfl
      have s2 : untilM l au (k + 1) = if (l.getD k default).auth = au then max (untilM l au k) (l.getD k default).until_ else untilM l au k := rfl
      repeat'
        first
          | first
            | (refine runS_nil (hK _ ?_); clear hK K)
            | refine stG ?_
            | (refine gateA 1 rfl ?_; refine runA_put ?_)
            | (refine gateBc ?_; first | (refine runB_nil (hK _ ?_); clear hK K) | (refine runB_op rfl ⟨_, evl, fun nb' => ?_⟩))
            | refine wpA_region (fun K hK => ?_)
            | (refine gateD ?_; first | (refine wpA_drawG false rfl (by kernel_rfl) (by kernel_rfl) (fun K hK => ?_)) | (refine wpA_drawG true rfl (by kernel_rfl) (by kernel_rfl) (fun K hK => ?_)))
            | (refine wpA_cond' ⟨_, evl, fun hb => ?_, fun hb => ?_⟩ <;> (try simp only [Bool.or_eq_true, Bool.and_eq_true, Bool.or_eq_false_iff, Bool.and_eq_false_iff, Bool.not_eq_true', Bool.not_eq_false', Bool.not_eq_true, Bool.not_eq_false, decide_eq_true_eq, decide_eq_false_iff_not, Bool.true_eq_false, Bool.false_eq_true, ne_eq, Classical.not_not, Int.not_lt, Int.not_le, Bool.not_true, Bool.not_false] at hb))
          | fail
      · refine ⟨k + 1, by omega, by omega, ?_⟩
        rw [s1, s2, if_pos hb, if_pos hb]
        refine Weak.gen ?_ ?_ ?_ (by simp) ?_
        rotate_left 3
        · first | (simp [subSl, subB, subR, AV.sub, AV.subL, go_sem]; done) | (simp [subSl, subB, subR, AV.sub, AV.subL, go_sem, AV.subL_free, AV.sub_free, *]; done) | (simp_all [subSl, subB, subR, AV.sub, AV.subL, go_sem]; done)
        all_goals (try simp only [SlSim, BxSim, RwSim, SimsL, lookN_cons, ↓reduceIte, Nat.reduceEqDiff, Option.some.injEq, Prod.mk.injEq, true_and, and_true, exists_eq_left', and_self])
        all_goals (try trivial)
        all_goals ((repeat' apply And.intro) <;> first | exact simsT | (intro _ _; exact simsT) | omega | (simp; done) | (simp; omega) | (intro _ _; refine SimsL.of_eq (els_snoc ?_ (by assumption) rfl) <;> first | rfl | omega | (simp; done) | (simp; omega)) | skip)
      · refine ⟨k + 1, by omega, by omega, ?_⟩
        rw [s1, s2, if_neg hb, if_neg hb]
        refine Weak.gen ?_ ?_ ?_ (by simp) ?_
        rotate_left 3
        · first | (simp [subSl, subB, subR, AV.sub, AV.subL, go_sem]; done) | (simp [subSl, subB, subR, AV.sub, AV.subL, go_sem, AV.subL_free, AV.sub_free, *]; done) | (simp_all [subSl, subB, subR, AV.sub, AV.subL, go_sem]; done)
        all_goals (try simp only [SlSim, BxSim, RwSim, SimsL, lookN_cons, ↓reduceIte, Nat.reduceEqDiff, Option.some.injEq, Prod.mk.injEq, true_and, and_true, exists_eq_left', and_self])
        all_goals (try trivial)
        all_goals ((repeat' apply And.intro) <;> first | exact simsT | (intro _ _; exact simsT) | omega | (simp; done) | (simp; omega) | (intro _ _; refine SimsL.of_eq (els_snoc ?_ (by assumption) rfl) <;> first | rfl | omega | (simp; done) | (simp; omega)) | skip)
      · refine ret_of (by simp) ⟨_, _, _, evl, ob0, OutOk.eq ?_ ?_⟩
        · rfl
        · simp [AV.free]
      · obtain rfl : k = l.length := by omega
        obtain ⟨i0, hi0, ha0, hin0⟩ := hal au hb.1 hb.2
        have hI : 0 ≤ at_ ∧ at_ ≤ at_ ∧ at_ ≤ 3000000000000000 := by have := hfr au; have := hun au; omega
        have hat := fun id k hk he => hat hI au id k hk he
        have hp := fun id => hp au id
        clear hal hfr hun s1 s2 hform
        refine wpA_loop (fun j : Nat => ⟨114, 0, [(0, true, lA 7 KeyWin.av l), (2, true, .raw (.int .i64 at_)), (7, true, .raw (.bool true)), (8, true, .raw (.int .i64 au)), (69, true, lA 7 KeyWin.av l), (70, true, .raw (.int .i64 l.length)), (71, true, .raw (.int .i64 j))], [], [], ((0, []), [], true)⟩)
          (fun j => j ≤ l.length ∧ ∀ i, i < j → (l.getD i default).auth = au → ¬ ((l.getD i default).from_ ≤ at_ ∧ at_ < (l.getD i default).until_)) (fun j => l.length - j) 0 ?_ ⟨by omega, fun i h => by omega⟩ ?_
        · refine Weak.gen ?_ ?_ ?_ (by simp) ?_
          rotate_left 3
          · first | (simp [subSl, subB, subR, AV.sub, AV.subL, go_sem]; done) | (simp [subSl, subB, subR, AV.sub, AV.subL, go_sem, AV.subL_free, AV.sub_free, *]; done) | (simp_all [subSl, subB, subR, AV.sub, AV.subL, go_sem]; done)
          all_goals (try simp only [SlSim, BxSim, RwSim, SimsL, lookN_cons, ↓reduceIte, Nat.reduceEqDiff, Option.some.injEq, Prod.mk.injEq, true_and, and_true, exists_eq_left', and_self])
          all_goals (try trivial)
          all_goals ((repeat' apply And.intro) <;> first | exact simsT | (intro _ _; exact simsT) | omega | (simp; done) | (simp; omega) | (intro _ _; refine SimsL.of_eq (els_snoc ?_ (by assumption) rfl) <;> first | rfl | omega | (simp; done) | (simp; omega)) | skip)
        · rintro j ⟨hj, hall⟩
          have hpa := hp (l.getD j default).id
          have hq := fun hlt he => hat (l.getD j default).id j hlt ⟨he, rfl⟩
          have next : j < l.length → ((l.getD j default).auth = au → ¬ ((l.getD j default).from_ ≤ at_ ∧ at_ < (l.getD j default).until_)) → ∀ i, i < j + 1 → (l.getD i default).auth = au → ¬ ((l.getD i default).from_ ≤ at_ ∧ at_ < (l.getD i default).until_) := fun _ h i hi => by
            rcases Nat.lt_succ_iff_lt_or_eq.1 hi with h' | rfl
            · exact hall i h'
            · exact h
          clear hp hat
          rcases Nat.lt_or_ge j l.length with hlt | hge
          · by_cases he : (l.getD j default).auth = au
            · have hq := hq hlt he
              by_cases hin : (l.getD j default).from_ ≤ at_ ∧ at_ < (l.getD j default).until_
              · rw [if_neg (by omega)] at hq
                rw [hq] at hpa
                clear hq next hall
                repeat'
                  first
                    | first
                      | (refine runS_nil (hK _ ?_); clear hK K)
                      | refine stG ?_
                      | (refine gateS 1 rfl ?_; refine runS_call rfl rfl ⟨_, evl, _, _, _, evl, oblF, ?_⟩; apply Exists.intro; refine ⟨fun hg => ?_, ?_⟩; · first | exact FnA.at_ (hpa) rfl rfl | exact FnA.at_s (hpa) rfl simT | exact FnA.at_s (hpa) rfl simF)
                      | (refine gateA 1 rfl ?_; refine runA_call rfl ⟨_, evl, _, _, _, (fun _ _ => evlA), oblF, ?_⟩; apply Exists.intro; refine ⟨fun hg => ?_, ?_⟩; · first | exact FnA.at_ (hpa) rfl rfl | exact FnA.at_s (hpa) rfl simT | exact FnA.at_s (hpa) rfl simF)
                      | (refine gateA 1 rfl ?_; refine runA_put ?_)
                      | (refine gateBc ?_; first | (refine runB_nil (hK _ ?_); clear hK K) | (refine runB_op rfl ⟨_, evl, fun nb' => ?_⟩))
                      | refine wpA_region (fun K hK => ?_)
                      | (refine gateD ?_; first | (refine wpA_drawG false rfl (by kernel_rfl) (by kernel_rfl) (fun K hK => ?_)) | (refine wpA_drawG true rfl (by kernel_rfl) (by kernel_rfl) (fun K hK => ?_)))
                      | (refine wpA_cond' ⟨_, evl, fun hb => ?_, fun hb => ?_⟩ <;> (try simp only [Bool.or_eq_true, Bool.and_eq_true, Bool.or_eq_false_iff, Bool.and_eq_false_iff, Bool.not_eq_true', Bool.not_eq_false', Bool.not_eq_true, Bool.not_eq_false, decide_eq_true_eq, decide_eq_false_iff_not, Bool.true_eq_false, Bool.false_eq_true, ne_eq, Classical.not_not, Int.not_lt, Int.not_le, Bool.not_true, Bool.not_false] at hb))
                    | fail
                all_goals first | (exfalso; omega) | skip
                refine ret_of (by simp) ⟨_, _, _, evl, ob0, OutOk.eq ?_ ?_⟩
                · simp only [decide_eq_true hin.1, decide_eq_true hin.2, Bool.and_true, decide_true]
                · simp [AV.free]
              · rw [if_pos (by omega)] at hq
                rw [hq] at hpa
                have next := next hlt fun _ => hin
                clear hq hall
                repeat'
                  first
                    | first
                      | (refine runS_nil (hK _ ?_); clear hK K)
                      | refine stG ?_
                      | (refine gateS 1 rfl ?_; refine runS_call rfl rfl ⟨_, evl, _, _, _, evl, oblF, ?_⟩; apply Exists.intro; refine ⟨fun hg => ?_, ?_⟩; · first | exact FnA.at_ (hpa) rfl rfl | exact FnA.at_s (hpa) rfl simT | exact FnA.at_s (hpa) rfl simF)
                      | (refine gateA 1 rfl ?_; refine runA_call rfl ⟨_, evl, _, _, _, (fun _ _ => evlA), oblF, ?_⟩; apply Exists.intro; refine ⟨fun hg => ?_, ?_⟩; · first | exact FnA.at_ (hpa) rfl rfl | exact FnA.at_s (hpa) rfl simT | exact FnA.at_s (hpa) rfl simF)
                      | (refine gateA 1 rfl ?_; refine runA_put ?_)
                      | (refine gateBc ?_; first | (refine runB_nil (hK _ ?_); clear hK K) | (refine runB_op rfl ⟨_, evl, fun nb' => ?_⟩))
                      | refine wpA_region (fun K hK => ?_)
                      | (refine gateD ?_; first | (refine wpA_drawG false rfl (by kernel_rfl) (by kernel_rfl) (fun K hK => ?_)) | (refine wpA_drawG true rfl (by kernel_rfl) (by kernel_rfl) (fun K hK => ?_)))
                      | (refine wpA_cond' ⟨_, evl, fun hb => ?_, fun hb => ?_⟩ <;> (try simp only [Bool.or_eq_true, Bool.and_eq_true, Bool.or_eq_false_iff, Bool.and_eq_false_iff, Bool.not_eq_true', Bool.not_eq_false', Bool.not_eq_true, Bool.not_eq_false, decide_eq_true_eq, decide_eq_false_iff_not, Bool.true_eq_false, Bool.false_eq_true, ne_eq, Classical.not_not, Int.not_lt, Int.not_le, Bool.not_true, Bool.not_false] at hb))
                    | fail
                all_goals first | (exfalso; omega) | skip
                refine ⟨j + 1, ⟨by omega, next⟩, by omega, ?_⟩
                refine Weak.gen ?_ ?_ ?_ (by simp) ?_
                rotate_left 3
                · first | (simp [subSl, subB, subR, AV.sub, AV.subL, go_sem]; done) | (simp [subSl, subB, subR, AV.sub, AV.subL, go_sem, AV.subL_free, AV.sub_free, *]; done) | (simp_all [subSl, subB, subR, AV.sub, AV.subL, go_sem]; done)
                all_goals (try simp only [SlSim, BxSim, RwSim, SimsL, lookN_cons, ↓reduceIte, Nat.reduceEqDiff, Option.some.injEq, Prod.mk.injEq, true_and, and_true, exists_eq_left', and_self])
                all_goals (try trivial)
                all_goals ((repeat' apply And.intro) <;> first | exact simsT | (intro _ _; exact simsT) | omega | (simp; done) | (simp; omega) | (intro _ _; refine SimsL.of_eq (els_snoc ?_ (by assumption) rfl) <;> first | rfl | omega | (simp; done) | (simp; omega)) | skip)
            · have next := next hlt fun h => absurd h he
              clear hq hpa hall
              repeat'
                first
                  | first
                    | (refine runS_nil (hK _ ?_); clear hK K)
                    | refine stG ?_
                    | (refine gateA 1 rfl ?_; refine runA_put ?_)
                    | (refine gateBc ?_; first | (refine runB_nil (hK _ ?_); clear hK K) | (refine runB_op rfl ⟨_, evl, fun nb' => ?_⟩))
                    | refine wpA_region (fun K hK => ?_)
                    | (refine gateD ?_; first | (refine wpA_drawG false rfl (by kernel_rfl) (by kernel_rfl) (fun K hK => ?_)) | (refine wpA_drawG true rfl (by kernel_rfl) (by kernel_rfl) (fun K hK => ?_)))
                    | (refine wpA_cond' ⟨_, evl, fun hb => ?_, fun hb => ?_⟩ <;> (try simp only [Bool.or_eq_true, Bool.and_eq_true, Bool.or_eq_false_iff, Bool.and_eq_false_iff, Bool.not_eq_true', Bool.not_eq_false', Bool.not_eq_true, Bool.not_eq_false, decide_eq_true_eq, decide_eq_false_iff_not, Bool.true_eq_false, Bool.false_eq_true, ne_eq, Classical.not_not, Int.not_lt, Int.not_le, Bool.not_true, Bool.not_false] at hb))
                  | fail
              all_goals first | (exfalso; omega) | skip
              refine ⟨j + 1, ⟨by omega, next⟩, by omega, ?_⟩
              refine Weak.gen ?_ ?_ ?_ (by simp) ?_
              rotate_left 3
              · first | (simp [subSl, subB, subR, AV.sub, AV.subL, go_sem]; done) | (simp [subSl, subB, subR, AV.sub, AV.subL, go_sem, AV.subL_free, AV.sub_free, *]; done) | (simp_all [subSl, subB, subR, AV.sub, AV.subL, go_sem]; done)
              all_goals (try simp only [SlSim, BxSim, RwSim, SimsL, lookN_cons, ↓reduceIte, Nat.reduceEqDiff, Option.some.injEq, Prod.mk.injEq, true_and, and_true, exists_eq_left', and_self])
              all_goals (try trivial)
              all_goals ((repeat' apply And.intro) <;> first | exact simsT | (intro _ _; exact simsT) | omega | (simp; done) | (simp; omega) | (intro _ _; refine SimsL.of_eq (els_snoc ?_ (by assumption) rfl) <;> first | rfl | omega | (simp; done) | (simp; omega)) | skip)
          · exact absurd hin0 (hall i0 (by omega) ha0)
  · refine fnA_of tblOk Tryd.func5 rfl (by kernel_rfl) 114 Tryd.ntmps5 (by simp only [List.length_cons, List.length_nil]; omega) [.tmp 6] rfl ?_
    simp only [entrySt, argSl, Nat.zero_add, Nat.reduceAdd]
    repeat'
      first
        | first
          | (refine runS_nil (hK _ ?_); clear hK K)
          | refine stG ?_
          | (refine gateS 1 rfl ?_; refine runS_call rfl rfl ⟨_, evl, _, _, _, evl, oblF, ?_⟩; apply Exists.intro; refine ⟨fun hg => ?_, ?_⟩; · first | exact FnA.at_ (hh) rfl rfl | exact FnA.at_ (hfew) rfl rfl | exact FnA.at_ (hv) rfl rfl | exact FnA.at_s (hh) rfl simT | exact FnA.at_s (hh) rfl simF | exact FnA.at_s (hfew) rfl simT | exact FnA.at_s (hfew) rfl simF | exact FnA.at_s (hv) rfl simT | exact FnA.at_s (hv) rfl simF)
          | (refine gateA 1 rfl ?_; refine runA_call rfl ⟨_, evl, _, _, _, (fun _ _ => evlA), oblF, ?_⟩; apply Exists.intro; refine ⟨fun hg => ?_, ?_⟩; · first | exact FnA.at_ (hh) rfl rfl | exact FnA.at_ (hfew) rfl rfl | exact FnA.at_ (hv) rfl rfl | exact FnA.at_s (hh) rfl simT | exact FnA.at_s (hh) rfl simF | exact FnA.at_s (hfew) rfl simT | exact FnA.at_s (hfew) rfl simF | exact FnA.at_s (hv) rfl simT | exact FnA.at_s (hv) rfl simF)
          | (refine gateA 1 rfl ?_; refine runA_put ?_)
          | (refine gateBc ?_; first | (refine runB_nil (hK _ ?_); clear hK K) | (refine runB_op rfl ⟨_, evl, fun nb' => ?_⟩))
          | refine wpA_region (fun K hK => ?_)
          | (refine gateD ?_; first | (refine wpA_drawG false rfl (by kernel_rfl) (by kernel_rfl) (fun K hK => ?_)) | (refine wpA_drawG true rfl (by kernel_rfl) (by kernel_rfl) (fun K hK => ?_)))
          | (refine wpA_cond' ⟨_, evl, fun hb => ?_, fun hb => ?_⟩ <;> (try simp only [Bool.or_eq_true, Bool.and_eq_true, Bool.or_eq_false_iff, Bool.and_eq_false_iff, Bool.not_eq_true', Bool.not_eq_false', Bool.not_eq_true, Bool.not_eq_false, decide_eq_true_eq, decide_eq_false_iff_not, Bool.true_eq_false, Bool.false_eq_true, ne_eq, Classical.not_not, Int.not_lt, Int.not_le, Bool.not_true, Bool.not_false] at hb))
        | fail
    · refine ret_of (by simp) ⟨_, _, _, evl, ob0, OutOk.eq ?_ ?_⟩
      · rfl
      · simp [AV.free]
    · exfalso
      apply hc
      simp_all
theorem keysAlways_B {x0 x1 x2 : List AV} (k0 : CellsOk tbl 30 22 x0) (k1 : CellsOk tbl 30 5 x1) (k2 : CellsOk tbl 30 3 x2) :
    FnA Tryd.prog 5 [valA false x0, valA false x1, valA false x2] (.raw (.bool true)) := by
  obtain ⟨l, h0, hf, _⟩ := open_KeyWins k0
  obtain ⟨w, rfl, hw⟩ := open_u8 k1
  obtain ⟨d, rfl, hd⟩ := open_int k2
  exact FnA.sim (keysAlways_A l hf w hw d hd) ⟨h0, Sim.of_eq rfl, Sim.of_eq rfl, trivial⟩
end Go.Proofs.YtihnjbnlbedpaaaDoor
