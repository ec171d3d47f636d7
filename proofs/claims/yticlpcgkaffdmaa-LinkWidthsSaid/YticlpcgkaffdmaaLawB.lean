/- The function some of the statements of chapter 10. -/
import Derived.Test.YticlpcgkaffdmaaEnc
namespace Go.Proofs.Yticlpcgkaffdmaa
set_option linter.unusedSectionVars false
set_option linter.unusedVariables false
set_option linter.unusedSimpArgs false
open Go.RowKit
def ints (l : List Int) : AV := .lst 1 l.length fun i => [.raw (.int .i64 (gD l i))]
theorem ints_free (l : List Int) : (ints l).free := by simp [ints, AV.free, AV.freeL]
def someP (l m : List Int) : Prop := ∀ i, i < l.length → ∀ j, j < m.length → gD l i ≤ gD m j
instance (l m : List Int) : Decidable (someP l m) := by unfold someP; infer_instance
theorem some_A (l m : List Int) (hl : l.length ≤ 1000) (hm : m.length ≤ 1000) : FnA Try.prog 24 [ints l, ints m] (.raw (.bool (decide (someP l m)))) := by
  unfold ints
  refine fnA_of tblOk Try.func24 rfl (by kernel_rfl) 26 Try.ntmps24 (by simp only [List.length_cons, List.length_nil]; omega) [.tmp 4] rfl ?_
  simp only [entrySt, argSl, Nat.zero_add, Nat.reduceAdd]
  repeat
    first
      | refine thenA_n ?_
      | refine thenA_r ?_
      | refine thenA_e ?_
      | refine inBlockA_n ?_
      | refine inBlockA_r ?_
      | refine inBlockA_hit ?_
      | refine inBlockA_miss rfl ?_
      | refine wpA_seq' ?_
      | refine wpA_block ?_
      | refine wpA_skip ?_
      | refine wpA_ret ?_
      | refine wpA_exit ?_
      | refine wpA_label ?_
      | refine wpA_region (fun K hK => ?_)
      | (refine runS_nil (hK _ ?_); clear hK K)
      | refine wpA_drawE (by kernel_rfl) (by kernel_rfl) (fun K hK => ?_)
      | refine runS_pure tblOk rfl rfl ⟨_, evl, _, _, _, evl, obl, ?_⟩
      | refine runS_mk tblOk rfl rfl ⟨_, evl, _, _, _, evl, obl, ?_⟩
      | refine runE_pure tblOk rfl ⟨_, evl, _, _, _, evl, obl, ?_⟩
      | refine runE_mk tblOk rfl ⟨_, evl, _, _, _, evl, obl, ?_⟩
      | refine sBox rfl rfl rfl rfl ⟨_, evl, ob1, _, evl, _, evl, ?_⟩
      | refine sAlloc tblOk rfl rfl rfl rfl ⟨_, evl, _, evl, _, evl, ?_⟩
      | refine sStore tblOk rfl rfl rfl ⟨_, _, evl, _, evl, _, evl, _, evl, ob1, _, evl, ?_⟩
      | refine runE_tail rfl (by kernel_rfl) ?_
  refine wpA_loop (fun k : Nat => ⟨26, 0, [(1, true, .lst 1 m.length fun i => [.raw (.int .i64 (gD m i))]), (9, true, .lst 1 l.length fun i => [.raw (.int .i64 (gD l i))]), (10, true, .raw (.int .i64 l.length)), (11, true, .raw (.int .i64 k))], [], [], ((0, []), [], true)⟩)
    (fun k => k ≤ l.length ∧ ∀ i, i < k → ∀ j, j < m.length → gD l i ≤ gD m j) (fun k => l.length - k) 0 ?_ ⟨by omega, fun i h => by omega⟩ ?_
  · refine Weak.sl ?_
    (try simp only [SubSl, lookN_cons, ↓reduceIte, Nat.reduceEqDiff, and_true, true_and, Option.some.injEq, Prod.mk.injEq, AV.raw.injEq, Value.int.injEq, Value.bool.injEq])
    all_goals ((repeat' apply And.intro) <;> first | rfl | omega | (simp; done))
  · rintro k ⟨hk, hall⟩
    repeat
      first
        | refine thenA_n ?_
        | refine thenA_r ?_
        | refine thenA_e ?_
        | refine inBlockA_n ?_
        | refine inBlockA_r ?_
        | refine inBlockA_hit ?_
        | refine inBlockA_miss rfl ?_
        | refine wpA_seq' ?_
        | refine wpA_block ?_
        | refine wpA_skip ?_
        | refine wpA_ret ?_
        | refine wpA_exit ?_
        | refine wpA_label ?_
        | refine wpA_region (fun K hK => ?_)
        | (refine runS_nil (hK _ ?_); clear hK K)
        | refine wpA_drawE (by kernel_rfl) (by kernel_rfl) (fun K hK => ?_)
        | refine runS_pure tblOk rfl rfl ⟨_, evl, _, _, _, evl, obl, ?_⟩
        | refine runS_mk tblOk rfl rfl ⟨_, evl, _, _, _, evl, obl, ?_⟩
        | refine runE_pure tblOk rfl ⟨_, evl, _, _, _, evl, obl, ?_⟩
        | refine runE_mk tblOk rfl ⟨_, evl, _, _, _, evl, obl, ?_⟩
        | refine sBox rfl rfl rfl rfl ⟨_, evl, ob1, _, evl, _, evl, ?_⟩
        | refine sAlloc tblOk rfl rfl rfl rfl ⟨_, evl, _, evl, _, evl, ?_⟩
        | refine sStore tblOk rfl rfl rfl ⟨_, _, evl, _, evl, _, evl, _, evl, ob1, _, evl, ?_⟩
        | refine runE_tail rfl (by kernel_rfl) ?_
    refine wpA_cond' ⟨_, evl, ?_, ?_⟩
    · intro hlt
      simp only [decide_eq_true_eq] at hlt
      repeat
        first
          | refine thenA_n ?_
          | refine thenA_r ?_
          | refine thenA_e ?_
          | refine inBlockA_n ?_
          | refine inBlockA_r ?_
          | refine inBlockA_hit ?_
          | refine inBlockA_miss rfl ?_
          | refine wpA_seq' ?_
          | refine wpA_block ?_
          | refine wpA_skip ?_
          | refine wpA_ret ?_
          | refine wpA_exit ?_
          | refine wpA_label ?_
          | refine wpA_region (fun K hK => ?_)
          | (refine runS_nil (hK _ ?_); clear hK K)
          | refine wpA_drawE (by kernel_rfl) (by kernel_rfl) (fun K hK => ?_)
          | refine runS_pure tblOk rfl rfl ⟨_, evl, _, _, _, evl, obl, ?_⟩
          | refine runS_mk tblOk rfl rfl ⟨_, evl, _, _, _, evl, obl, ?_⟩
          | refine runE_pure tblOk rfl ⟨_, evl, _, _, _, evl, obl, ?_⟩
          | refine runE_mk tblOk rfl ⟨_, evl, _, _, _, evl, obl, ?_⟩
          | refine sBox rfl rfl rfl rfl ⟨_, evl, ob1, _, evl, _, evl, ?_⟩
          | refine sAlloc tblOk rfl rfl rfl rfl ⟨_, evl, _, evl, _, evl, ?_⟩
          | refine sStore tblOk rfl rfl rfl ⟨_, _, evl, _, evl, _, evl, _, evl, ob1, _, evl, ?_⟩
          | refine runE_tail rfl (by kernel_rfl) ?_
      refine wpA_loop (fun q : Nat => ⟨26, 0, [(1, true, .lst 1 m.length fun i => [.raw (.int .i64 (gD m i))]), (9, true, .lst 1 l.length fun i => [.raw (.int .i64 (gD l i))]), (10, true, .raw (.int .i64 l.length)), (11, true, .raw (.int .i64 k)), (6, true, .raw (.int .i64 (gD l k))), (15, true, .lst 1 m.length fun i => [.raw (.int .i64 (gD m i))]), (16, true, .raw (.int .i64 m.length)), (17, true, .raw (.int .i64 q))], [], [], ((0, []), [], true)⟩)
        (fun q => q ≤ m.length ∧ ∀ j, j < q → gD l k ≤ gD m j) (fun q => m.length - q) 0 ?_ ⟨by omega, fun i h => by omega⟩ ?_
      · refine Weak.sl ?_
        (try simp only [SubSl, lookN_cons, ↓reduceIte, Nat.reduceEqDiff, and_true, true_and, Option.some.injEq, Prod.mk.injEq, AV.raw.injEq, Value.int.injEq, Value.bool.injEq])
        all_goals ((repeat' apply And.intro) <;> first | rfl | omega | (simp; done))
      · rintro q ⟨hq, hq2⟩
        repeat
          first
            | refine thenA_n ?_
            | refine thenA_r ?_
            | refine thenA_e ?_
            | refine inBlockA_n ?_
            | refine inBlockA_r ?_
            | refine inBlockA_hit ?_
            | refine inBlockA_miss rfl ?_
            | refine wpA_seq' ?_
            | refine wpA_block ?_
            | refine wpA_skip ?_
            | refine wpA_ret ?_
            | refine wpA_exit ?_
            | refine wpA_label ?_
            | refine wpA_region (fun K hK => ?_)
            | (refine runS_nil (hK _ ?_); clear hK K)
            | refine wpA_drawE (by kernel_rfl) (by kernel_rfl) (fun K hK => ?_)
            | refine runS_pure tblOk rfl rfl ⟨_, evl, _, _, _, evl, obl, ?_⟩
            | refine runS_mk tblOk rfl rfl ⟨_, evl, _, _, _, evl, obl, ?_⟩
            | refine runE_pure tblOk rfl ⟨_, evl, _, _, _, evl, obl, ?_⟩
            | refine runE_mk tblOk rfl ⟨_, evl, _, _, _, evl, obl, ?_⟩
            | refine sBox rfl rfl rfl rfl ⟨_, evl, ob1, _, evl, _, evl, ?_⟩
            | refine sAlloc tblOk rfl rfl rfl rfl ⟨_, evl, _, evl, _, evl, ?_⟩
            | refine sStore tblOk rfl rfl rfl ⟨_, _, evl, _, evl, _, evl, _, evl, ob1, _, evl, ?_⟩
            | refine runE_tail rfl (by kernel_rfl) ?_
        refine wpA_cond' ⟨_, evl, ?_, ?_⟩
        · intro hlt2
          simp only [decide_eq_true_eq] at hlt2
          repeat
            first
              | refine thenA_n ?_
              | refine thenA_r ?_
              | refine thenA_e ?_
              | refine inBlockA_n ?_
              | refine inBlockA_r ?_
              | refine inBlockA_hit ?_
              | refine inBlockA_miss rfl ?_
              | refine wpA_seq' ?_
              | refine wpA_block ?_
              | refine wpA_skip ?_
              | refine wpA_ret ?_
              | refine wpA_exit ?_
              | refine wpA_label ?_
              | refine wpA_region (fun K hK => ?_)
              | (refine runS_nil (hK _ ?_); clear hK K)
              | refine wpA_drawE (by kernel_rfl) (by kernel_rfl) (fun K hK => ?_)
              | refine runS_pure tblOk rfl rfl ⟨_, evl, _, _, _, evl, obl, ?_⟩
              | refine runS_mk tblOk rfl rfl ⟨_, evl, _, _, _, evl, obl, ?_⟩
              | refine runE_pure tblOk rfl ⟨_, evl, _, _, _, evl, obl, ?_⟩
              | refine runE_mk tblOk rfl ⟨_, evl, _, _, _, evl, obl, ?_⟩
              | refine sBox rfl rfl rfl rfl ⟨_, evl, ob1, _, evl, _, evl, ?_⟩
              | refine sAlloc tblOk rfl rfl rfl rfl ⟨_, evl, _, evl, _, evl, ?_⟩
              | refine sStore tblOk rfl rfl rfl ⟨_, _, evl, _, evl, _, evl, _, evl, ob1, _, evl, ?_⟩
              | refine runE_tail rfl (by kernel_rfl) ?_
          refine wpA_cond' ⟨_, evl, ?_, ?_⟩
          · intro hbad
            simp at hbad
            repeat
              first
                | refine thenA_n ?_
                | refine thenA_r ?_
                | refine thenA_e ?_
                | refine inBlockA_n ?_
                | refine inBlockA_r ?_
                | refine inBlockA_hit ?_
                | refine inBlockA_miss rfl ?_
                | refine wpA_seq' ?_
                | refine wpA_block ?_
                | refine wpA_skip ?_
                | refine wpA_ret ?_
                | refine wpA_exit ?_
                | refine wpA_label ?_
                | refine wpA_region (fun K hK => ?_)
                | (refine runS_nil (hK _ ?_); clear hK K)
                | refine wpA_drawE (by kernel_rfl) (by kernel_rfl) (fun K hK => ?_)
                | refine runS_pure tblOk rfl rfl ⟨_, evl, _, _, _, evl, obl, ?_⟩
                | refine runS_mk tblOk rfl rfl ⟨_, evl, _, _, _, evl, obl, ?_⟩
                | refine runE_pure tblOk rfl ⟨_, evl, _, _, _, evl, obl, ?_⟩
                | refine runE_mk tblOk rfl ⟨_, evl, _, _, _, evl, obl, ?_⟩
                | refine sBox rfl rfl rfl rfl ⟨_, evl, ob1, _, evl, _, evl, ?_⟩
                | refine sAlloc tblOk rfl rfl rfl rfl ⟨_, evl, _, evl, _, evl, ?_⟩
                | refine sStore tblOk rfl rfl rfl ⟨_, _, evl, _, evl, _, evl, _, evl, ob1, _, evl, ?_⟩
                | refine runE_tail rfl (by kernel_rfl) ?_
            refine ret_of (by simp) ⟨_, _, _, evl, ob0, OutOk.eq ?_ ?_⟩
            · simp only [AV.raw.injEq, Value.bool.injEq]
              rw [eq_comm, decide_eq_false_iff_not]
              intro h
              have := h k (by omega) q (by omega)
              omega
            · simp [AV.free]
          · intro hgood
            simp at hgood
            repeat
              first
                | refine thenA_n ?_
                | refine thenA_r ?_
                | refine thenA_e ?_
                | refine inBlockA_n ?_
                | refine inBlockA_r ?_
                | refine inBlockA_hit ?_
                | refine inBlockA_miss rfl ?_
                | refine wpA_seq' ?_
                | refine wpA_block ?_
                | refine wpA_skip ?_
                | refine wpA_ret ?_
                | refine wpA_exit ?_
                | refine wpA_label ?_
                | refine wpA_region (fun K hK => ?_)
                | (refine runS_nil (hK _ ?_); clear hK K)
                | refine wpA_drawE (by kernel_rfl) (by kernel_rfl) (fun K hK => ?_)
                | refine runS_pure tblOk rfl rfl ⟨_, evl, _, _, _, evl, obl, ?_⟩
                | refine runS_mk tblOk rfl rfl ⟨_, evl, _, _, _, evl, obl, ?_⟩
                | refine runE_pure tblOk rfl ⟨_, evl, _, _, _, evl, obl, ?_⟩
                | refine runE_mk tblOk rfl ⟨_, evl, _, _, _, evl, obl, ?_⟩
                | refine sBox rfl rfl rfl rfl ⟨_, evl, ob1, _, evl, _, evl, ?_⟩
                | refine sAlloc tblOk rfl rfl rfl rfl ⟨_, evl, _, evl, _, evl, ?_⟩
                | refine sStore tblOk rfl rfl rfl ⟨_, _, evl, _, evl, _, evl, _, evl, ob1, _, evl, ?_⟩
                | refine runE_tail rfl (by kernel_rfl) ?_
            refine ⟨q + 1, ⟨by omega, fun j hj => ?_⟩, by omega, ?_⟩
            · by_cases hjq : j < q
              · exact hq2 j hjq
              · obtain rfl : j = q := by omega
                exact hgood
            · refine Weak.mk rfl ?_ ?_
              rotate_left
              · simp [belS, belB, AV.bel, AV.belL, go_sem]
              (try simp only [SubSl, lookN_cons, ↓reduceIte, Nat.reduceEqDiff, and_true, true_and, Option.some.injEq, Prod.mk.injEq, AV.raw.injEq, Value.int.injEq, Value.bool.injEq])
              all_goals ((repeat' apply And.intro) <;> first | rfl | omega | (simp; done))
        · intro hge
          simp only [decide_eq_false_iff_not] at hge
          repeat
            first
              | refine thenA_n ?_
              | refine thenA_r ?_
              | refine thenA_e ?_
              | refine inBlockA_n ?_
              | refine inBlockA_r ?_
              | refine inBlockA_hit ?_
              | refine inBlockA_miss rfl ?_
              | refine wpA_seq' ?_
              | refine wpA_block ?_
              | refine wpA_skip ?_
              | refine wpA_ret ?_
              | refine wpA_exit ?_
              | refine wpA_label ?_
              | refine wpA_region (fun K hK => ?_)
              | (refine runS_nil (hK _ ?_); clear hK K)
              | refine wpA_drawE (by kernel_rfl) (by kernel_rfl) (fun K hK => ?_)
              | refine runS_pure tblOk rfl rfl ⟨_, evl, _, _, _, evl, obl, ?_⟩
              | refine runS_mk tblOk rfl rfl ⟨_, evl, _, _, _, evl, obl, ?_⟩
              | refine runE_pure tblOk rfl ⟨_, evl, _, _, _, evl, obl, ?_⟩
              | refine runE_mk tblOk rfl ⟨_, evl, _, _, _, evl, obl, ?_⟩
              | refine sBox rfl rfl rfl rfl ⟨_, evl, ob1, _, evl, _, evl, ?_⟩
              | refine sAlloc tblOk rfl rfl rfl rfl ⟨_, evl, _, evl, _, evl, ?_⟩
              | refine sStore tblOk rfl rfl rfl ⟨_, _, evl, _, evl, _, evl, _, evl, ob1, _, evl, ?_⟩
              | refine runE_tail rfl (by kernel_rfl) ?_
          refine ⟨k + 1, ⟨by omega, fun i hi j hj => ?_⟩, by omega, ?_⟩
          · by_cases hik : i < k
            · exact hall i hik j hj
            · obtain rfl : i = k := by omega
              exact hq2 j (by omega)
          · refine Weak.mk rfl ?_ ?_
            rotate_left
            · simp [belS, belB, AV.bel, AV.belL, go_sem]
            (try simp only [SubSl, lookN_cons, ↓reduceIte, Nat.reduceEqDiff, and_true, true_and, Option.some.injEq, Prod.mk.injEq, AV.raw.injEq, Value.int.injEq, Value.bool.injEq])
            all_goals ((repeat' apply And.intro) <;> first | rfl | omega | (simp; done))
    · intro hge
      simp only [decide_eq_false_iff_not] at hge
      repeat
        first
          | refine thenA_n ?_
          | refine thenA_r ?_
          | refine thenA_e ?_
          | refine inBlockA_n ?_
          | refine inBlockA_r ?_
          | refine inBlockA_hit ?_
          | refine inBlockA_miss rfl ?_
          | refine wpA_seq' ?_
          | refine wpA_block ?_
          | refine wpA_skip ?_
          | refine wpA_ret ?_
          | refine wpA_exit ?_
          | refine wpA_label ?_
          | refine wpA_region (fun K hK => ?_)
          | (refine runS_nil (hK _ ?_); clear hK K)
          | refine wpA_drawE (by kernel_rfl) (by kernel_rfl) (fun K hK => ?_)
          | refine runS_pure tblOk rfl rfl ⟨_, evl, _, _, _, evl, obl, ?_⟩
          | refine runS_mk tblOk rfl rfl ⟨_, evl, _, _, _, evl, obl, ?_⟩
          | refine runE_pure tblOk rfl ⟨_, evl, _, _, _, evl, obl, ?_⟩
          | refine runE_mk tblOk rfl ⟨_, evl, _, _, _, evl, obl, ?_⟩
          | refine sBox rfl rfl rfl rfl ⟨_, evl, ob1, _, evl, _, evl, ?_⟩
          | refine sAlloc tblOk rfl rfl rfl rfl ⟨_, evl, _, evl, _, evl, ?_⟩
          | refine sStore tblOk rfl rfl rfl ⟨_, _, evl, _, evl, _, evl, _, evl, ob1, _, evl, ?_⟩
          | refine runE_tail rfl (by kernel_rfl) ?_
      refine ret_of (by simp) ⟨_, _, _, evl, ob0, OutOk.eq ?_ ?_⟩
      · simp only [AV.raw.injEq, Value.bool.injEq]
        rw [eq_comm, decide_eq_true_eq]
        intro i hi j hj
        exact hall i (by omega) j hj
      · simp [AV.free]
end Go.Proofs.Yticlpcgkaffdmaa
