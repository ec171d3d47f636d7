/- The reference of chapter 10: Valid and Bounds. -/
import Derived.Test.YticlpcgkaffdmaaLinkR
namespace Go.Proofs.Yticlpcgkaffdmaa
set_option linter.unusedSectionVars false
set_option linter.unusedVariables false
set_option linter.unusedSimpArgs false
open Go.RowKit
def vR (l : List Change) (i : Nat) : Prop := formedM (gD l i) = true ∧ (i = 0 → (gD l i).at_ = 0) ∧ (0 < i → (gD l (i - 1)).at_ < (gD l i).at_) ∧ (gD l i).at_ ≤ 3000000000000000
theorem at_mono {l : List Change} (h : ∀ i, i < l.length → vOk l i) : ∀ i j, i ≤ j → j < l.length → (gD l i).at_ ≤ (gD l j).at_ := by
  intro i j hij
  induction j with
  | zero => intro _; obtain rfl : i = 0 := by omega
            exact Int.le_refl _
  | succ j ih =>
    intro hj
    by_cases e : i = j + 1
    · subst e; exact Int.le_refl _
    · have h1 := ih (by omega) (by omega)
      have h2 := (h (j + 1) hj).2 (by omega)
      rw [Nat.add_sub_cancel] at h2
      omega
theorem validP_iff (l : List Change) : ValidP l ↔ 1 ≤ l.length ∧ l.length ≤ 20 ∧ ∀ i, i < l.length → vR l i := by
  constructor
  · rintro ⟨h1, h2, h3, h4, h5⟩
    refine ⟨h1, h2, fun i hi => ⟨(h5 i hi).1, fun e => by rw [e]; exact h3, (h5 i hi).2, ?_⟩⟩
    have := at_mono h5 i (l.length - 1) (by omega) (by omega)
    omega
  · rintro ⟨h1, h2, h3⟩
    exact ⟨h1, h2, (h3 0 (by omega)).2.1 rfl, (h3 (l.length - 1) (by omega)).2.2.2, fun i hi => ⟨(h3 i hi).1, (h3 i hi).2.2.1⟩⟩
theorem validR_A (l : List Change) (hmax : l.length ≤ 1000) : FnA Try.prog 14 [chL l] (.raw (.bool (validM l))) := by
  unfold chL
  refine fnA_of tblOk Try.func14 rfl (by kernel_rfl) 64 Try.ntmps14 (by simp only [List.length_cons, List.length_nil]; omega) [.tmp 2] rfl ?_
  simp only [entrySt, argSl, Nat.zero_add, Nat.reduceAdd]
  repeat
    first
      | refine thenA_n ?_
      | refine thenA_r ?_
      | refine thenA_e ?_
      | refine inBlockA_n ?_
      | refine inBlockA_r ?_
      | refine inBlockA_hit ?_
      | refine inBlockA_miss rfl ?_
      | refine wpA_seq' ?_
      | refine wpA_block ?_
      | refine wpA_skip ?_
      | refine wpA_ret ?_
      | refine wpA_exit ?_
      | refine wpA_label ?_
      | refine wpA_region (fun K hK => ?_)
      | (refine runS_nil (hK _ ?_); clear hK K)
      | refine wpA_drawE (by kernel_rfl) (by kernel_rfl) (fun K hK => ?_)
      | refine runS_pure tblOk rfl rfl ⟨_, evl, _, _, _, evl, obl, ?_⟩
      | refine runS_mk tblOk rfl rfl ⟨_, evl, _, _, _, evl, obl, ?_⟩
      | refine runE_pure tblOk rfl ⟨_, evl, _, _, _, evl, obl, ?_⟩
      | refine runE_mk tblOk rfl ⟨_, evl, _, _, _, evl, obl, ?_⟩
      | refine sBox rfl rfl rfl rfl ⟨_, evl, ob1, _, evl, _, evl, ?_⟩
      | refine sAlloc tblOk rfl rfl rfl rfl ⟨_, evl, _, evl, _, evl, ?_⟩
      | refine sStore tblOk rfl rfl rfl ⟨_, _, evl, _, evl, _, evl, _, evl, ob1, _, evl, ?_⟩
      | refine runE_tail rfl (by kernel_rfl) ?_
  refine wpA_loop (fun k : Nat => ⟨64, 0, [(0, true, .lst 5 l.length fun i => (gD l i).c), (3, true, .raw (.int .i64 k))], [], [], ((0, []), [], true)⟩)
    (fun k => k ≤ l.length ∧ ∀ i, i < k → vR l i) (fun k => l.length - k) 0 ?_ ⟨by omega, fun i h => by omega⟩ ?_
  · refine Weak.sl ?_
    (try simp only [SubSl, lookN_cons, ↓reduceIte, Nat.reduceEqDiff, and_true, true_and, Option.some.injEq, Prod.mk.injEq, AV.raw.injEq, Value.int.injEq, Value.bool.injEq])
    all_goals ((repeat' apply And.intro) <;> first | rfl | omega | (simp; done))
  · rintro k ⟨hk, hall⟩
    repeat
      first
        | refine thenA_n ?_
        | refine thenA_r ?_
        | refine thenA_e ?_
        | refine inBlockA_n ?_
        | refine inBlockA_r ?_
        | refine inBlockA_hit ?_
        | refine inBlockA_miss rfl ?_
        | refine wpA_seq' ?_
        | refine wpA_block ?_
        | refine wpA_skip ?_
        | refine wpA_ret ?_
        | refine wpA_exit ?_
        | refine wpA_label ?_
        | refine wpA_region (fun K hK => ?_)
        | (refine runS_nil (hK _ ?_); clear hK K)
        | refine wpA_drawE (by kernel_rfl) (by kernel_rfl) (fun K hK => ?_)
        | refine runS_pure tblOk rfl rfl ⟨_, evl, _, _, _, evl, obl, ?_⟩
        | refine runS_mk tblOk rfl rfl ⟨_, evl, _, _, _, evl, obl, ?_⟩
        | refine runE_pure tblOk rfl ⟨_, evl, _, _, _, evl, obl, ?_⟩
        | refine runE_mk tblOk rfl ⟨_, evl, _, _, _, evl, obl, ?_⟩
        | refine sBox rfl rfl rfl rfl ⟨_, evl, ob1, _, evl, _, evl, ?_⟩
        | refine sAlloc tblOk rfl rfl rfl rfl ⟨_, evl, _, evl, _, evl, ?_⟩
        | refine sStore tblOk rfl rfl rfl ⟨_, _, evl, _, evl, _, evl, _, evl, ob1, _, evl, ?_⟩
        | refine runE_tail rfl (by kernel_rfl) ?_
    refine wpA_cond' ⟨_, evl, ?_, ?_⟩
    · intro hlt
      simp only [decide_eq_true_eq] at hlt
      repeat
        first
          | refine thenA_n ?_
          | refine thenA_r ?_
          | refine thenA_e ?_
          | refine inBlockA_n ?_
          | refine inBlockA_r ?_
          | refine inBlockA_hit ?_
          | refine inBlockA_miss rfl ?_
          | refine wpA_seq' ?_
          | refine wpA_block ?_
          | refine wpA_skip ?_
          | refine wpA_ret ?_
          | refine wpA_exit ?_
          | refine wpA_label ?_
          | refine wpA_region (fun K hK => ?_)
          | (refine runS_nil (hK _ ?_); clear hK K)
          | refine wpA_drawE (by kernel_rfl) (by kernel_rfl) (fun K hK => ?_)
          | refine runS_pure tblOk rfl rfl ⟨_, evl, _, _, _, evl, obl, ?_⟩
          | refine runS_mk tblOk rfl rfl ⟨_, evl, _, _, _, evl, obl, ?_⟩
          | (refine runS_call rfl rfl ⟨_, evl, _, _, _, evl, obl, ?_⟩; apply Exists.intro; refine ⟨fun hg => ?_, ?_⟩; · first | exact formR_A _)
          | refine runE_pure tblOk rfl ⟨_, evl, _, _, _, evl, obl, ?_⟩
          | refine runE_mk tblOk rfl ⟨_, evl, _, _, _, evl, obl, ?_⟩
          | (refine runE_call rfl ⟨_, evl, _, _, _, evl, obl, ?_⟩; apply Exists.intro; refine ⟨fun hg => ?_, ?_⟩; · first | exact formR_A _)
          | refine sBox rfl rfl rfl rfl ⟨_, evl, ob1, _, evl, _, evl, ?_⟩
          | refine sAlloc tblOk rfl rfl rfl rfl ⟨_, evl, _, evl, _, evl, ?_⟩
          | refine sStore tblOk rfl rfl rfl ⟨_, _, evl, _, evl, _, evl, _, evl, ob1, _, evl, ?_⟩
          | refine runE_tail rfl (by kernel_rfl) ?_
      refine wpA_cond' ⟨_, evl, ?_, ?_⟩
      · intro hbad
        repeat
          first
            | refine thenA_n ?_
            | refine thenA_r ?_
            | refine thenA_e ?_
            | refine inBlockA_n ?_
            | refine inBlockA_r ?_
            | refine inBlockA_hit ?_
            | refine inBlockA_miss rfl ?_
            | refine wpA_seq' ?_
            | refine wpA_block ?_
            | refine wpA_skip ?_
            | refine wpA_ret ?_
            | refine wpA_exit ?_
            | refine wpA_label ?_
            | refine wpA_region (fun K hK => ?_)
            | (refine runS_nil (hK _ ?_); clear hK K)
            | refine wpA_drawE (by kernel_rfl) (by kernel_rfl) (fun K hK => ?_)
            | refine runS_pure tblOk rfl rfl ⟨_, evl, _, _, _, evl, obl, ?_⟩
            | refine runS_mk tblOk rfl rfl ⟨_, evl, _, _, _, evl, obl, ?_⟩
            | refine runE_pure tblOk rfl ⟨_, evl, _, _, _, evl, obl, ?_⟩
            | refine runE_mk tblOk rfl ⟨_, evl, _, _, _, evl, obl, ?_⟩
            | refine sBox rfl rfl rfl rfl ⟨_, evl, ob1, _, evl, _, evl, ?_⟩
            | refine sAlloc tblOk rfl rfl rfl rfl ⟨_, evl, _, evl, _, evl, ?_⟩
            | refine sStore tblOk rfl rfl rfl ⟨_, _, evl, _, evl, _, evl, _, evl, ob1, _, evl, ?_⟩
            | refine runE_tail rfl (by kernel_rfl) ?_
        refine ret_of (by simp) ⟨_, _, _, evl, ob0, OutOk.eq ?_ ?_⟩
        · simp only [AV.raw.injEq, Value.bool.injEq]
          rw [eq_comm, validM, decide_eq_false_iff_not, validP_iff]
          rintro ⟨_, _, h5⟩
          obtain ⟨h6, h7, h8, h9⟩ := h5 k (by omega)
          have e : ((k : Int) - 1).toNat = k - 1 := by omega
          simp [h6, e] at hbad
          omega
        · simp [AV.free]
      · intro hgood
        repeat
          first
            | refine thenA_n ?_
            | refine thenA_r ?_
            | refine thenA_e ?_
            | refine inBlockA_n ?_
            | refine inBlockA_r ?_
            | refine inBlockA_hit ?_
            | refine inBlockA_miss rfl ?_
            | refine wpA_seq' ?_
            | refine wpA_block ?_
            | refine wpA_skip ?_
            | refine wpA_ret ?_
            | refine wpA_exit ?_
            | refine wpA_label ?_
            | refine wpA_region (fun K hK => ?_)
            | (refine runS_nil (hK _ ?_); clear hK K)
            | refine wpA_drawE (by kernel_rfl) (by kernel_rfl) (fun K hK => ?_)
            | refine runS_pure tblOk rfl rfl ⟨_, evl, _, _, _, evl, obl, ?_⟩
            | refine runS_mk tblOk rfl rfl ⟨_, evl, _, _, _, evl, obl, ?_⟩
            | refine runE_pure tblOk rfl ⟨_, evl, _, _, _, evl, obl, ?_⟩
            | refine runE_mk tblOk rfl ⟨_, evl, _, _, _, evl, obl, ?_⟩
            | refine sBox rfl rfl rfl rfl ⟨_, evl, ob1, _, evl, _, evl, ?_⟩
            | refine sAlloc tblOk rfl rfl rfl rfl ⟨_, evl, _, evl, _, evl, ?_⟩
            | refine sStore tblOk rfl rfl rfl ⟨_, _, evl, _, evl, _, evl, _, evl, ob1, _, evl, ?_⟩
            | refine runE_tail rfl (by kernel_rfl) ?_
        refine ⟨k + 1, ⟨by omega, fun i hi => ?_⟩, by omega, ?_⟩
        · by_cases hik : i < k
          · exact hall i hik
          · obtain rfl : i = k := by omega
            have e : ((i : Int) - 1).toNat = i - 1 := by omega
            simp [e] at hgood
            refine ⟨by simp [hgood], fun h => by omega, fun h => by omega, by omega⟩
        · refine Weak.mk rfl ?_ ?_
          rotate_left
          · simp [belS, belB, AV.bel, AV.belL, go_sem]
          (try simp only [SubSl, lookN_cons, ↓reduceIte, Nat.reduceEqDiff, and_true, true_and, Option.some.injEq, Prod.mk.injEq, AV.raw.injEq, Value.int.injEq, Value.bool.injEq])
          all_goals ((repeat' apply And.intro) <;> first | rfl | omega | (simp; done))
    · intro hge
      simp only [decide_eq_false_iff_not] at hge
      repeat
        first
          | refine thenA_n ?_
          | refine thenA_r ?_
          | refine thenA_e ?_
          | refine inBlockA_n ?_
          | refine inBlockA_r ?_
          | refine inBlockA_hit ?_
          | refine inBlockA_miss rfl ?_
          | refine wpA_seq' ?_
          | refine wpA_block ?_
          | refine wpA_skip ?_
          | refine wpA_ret ?_
          | refine wpA_exit ?_
          | refine wpA_label ?_
          | refine wpA_region (fun K hK => ?_)
          | (refine runS_nil (hK _ ?_); clear hK K)
          | refine wpA_drawE (by kernel_rfl) (by kernel_rfl) (fun K hK => ?_)
          | refine runS_pure tblOk rfl rfl ⟨_, evl, _, _, _, evl, obl, ?_⟩
          | refine runS_mk tblOk rfl rfl ⟨_, evl, _, _, _, evl, obl, ?_⟩
          | refine runE_pure tblOk rfl ⟨_, evl, _, _, _, evl, obl, ?_⟩
          | refine runE_mk tblOk rfl ⟨_, evl, _, _, _, evl, obl, ?_⟩
          | refine sBox rfl rfl rfl rfl ⟨_, evl, ob1, _, evl, _, evl, ?_⟩
          | refine sAlloc tblOk rfl rfl rfl rfl ⟨_, evl, _, evl, _, evl, ?_⟩
          | refine sStore tblOk rfl rfl rfl ⟨_, _, evl, _, evl, _, evl, _, evl, ob1, _, evl, ?_⟩
          | refine runE_tail rfl (by kernel_rfl) ?_
      refine ret_of (by simp) ⟨_, _, _, evl, ob0, OutOk.eq ?_ ?_⟩
      · simp only [AV.raw.injEq, Value.bool.injEq]
        have hv : ValidP l ↔ 1 ≤ l.length ∧ l.length ≤ 20 := by
          rw [validP_iff]
          exact ⟨fun h => ⟨h.1, h.2.1⟩, fun h => ⟨h.1, h.2, fun i hi => hall i (by omega)⟩⟩
        rw [validM, Bool.eq_iff_iff, decide_eq_true_iff, hv]
        simp only [Bool.and_eq_true, decide_eq_true_eq]
        omega
      · simp [AV.free]
end Go.Proofs.Yticlpcgkaffdmaa
