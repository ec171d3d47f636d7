/- The functions of package link. -/
import Derived.Test.YticlpcgkaffdmaaEnc
namespace Go.Proofs.Yticlpcgkaffdmaa
set_option linter.unusedSectionVars false
set_option linter.unusedVariables false
set_option linter.unusedSimpArgs false
open Go.RowKit
def boundsM (lo hi : Int) : Bool := decide (0 ≤ lo) && decide (lo ≤ hi) && decide (hi ≤ 1000000)
theorem bounds_A (lo hi : Int) : FnA Try.prog 42 [.raw (.int .i64 lo), .raw (.int .i64 hi)] (.raw (.bool (boundsM lo hi))) := by
  refine fnA_of tblOk Try.func42 rfl (by kernel_rfl) 16 Try.ntmps42 (by simp only [List.length_cons, List.length_nil]; omega) [.tmp 4] rfl ?_
  simp only [entrySt, argSl, Nat.zero_add, Nat.reduceAdd]
  repeat
    first
      | refine thenA_n ?_
      | refine thenA_r ?_
      | refine thenA_e ?_
      | refine inBlockA_n ?_
      | refine inBlockA_r ?_
      | refine inBlockA_hit ?_
      | refine inBlockA_miss rfl ?_
      | refine wpA_seq' ?_
      | refine wpA_block ?_
      | refine wpA_skip ?_
      | refine wpA_ret ?_
      | refine wpA_exit ?_
      | refine wpA_label ?_
      | refine wpA_region (fun K hK => ?_)
      | (refine runS_nil (hK _ ?_); clear hK K)
      | refine wpA_drawE (by kernel_rfl) (by kernel_rfl) (fun K hK => ?_)
      | refine runS_pure tblOk rfl rfl ⟨_, evl, _, _, _, evl, obl, ?_⟩
      | refine runS_mk tblOk rfl rfl ⟨_, evl, _, _, _, evl, obl, ?_⟩
      | refine runE_pure tblOk rfl ⟨_, evl, _, _, _, evl, obl, ?_⟩
      | refine runE_mk tblOk rfl ⟨_, evl, _, _, _, evl, obl, ?_⟩
      | refine sBox rfl rfl rfl rfl ⟨_, evl, ob1, _, evl, _, evl, ?_⟩
      | refine sAlloc tblOk rfl rfl rfl rfl ⟨_, evl, _, evl, _, evl, ?_⟩
      | refine sStore tblOk rfl rfl rfl ⟨_, _, evl, _, evl, _, evl, _, evl, ob1, _, evl, ?_⟩
      | refine runE_tail rfl (by kernel_rfl) ?_
  refine ret_of (by simp) ⟨_, _, _, evl, ob0, OutOk.eq ?_ ?_⟩
  · simp [boundsM]
  · simp [AV.free]
def formedM (c : Change) : Bool := boundsM c.outLo c.outHi && boundsM c.backLo c.backHi
theorem formed_A (c : Change) : FnA Try.prog 37 [.agg c.c] (.raw (.bool (formedM c))) := by
  refine fnA_of tblOk Try.func37 rfl (by kernel_rfl) 15 Try.ntmps37 (by simp only [List.length_cons, List.length_nil]; omega) [.tmp 2] rfl ?_
  simp only [entrySt, argSl, Nat.zero_add, Nat.reduceAdd]
  repeat
    first
      | refine thenA_n ?_
      | refine thenA_r ?_
      | refine thenA_e ?_
      | refine inBlockA_n ?_
      | refine inBlockA_r ?_
      | refine inBlockA_hit ?_
      | refine inBlockA_miss rfl ?_
      | refine wpA_seq' ?_
      | refine wpA_block ?_
      | refine wpA_skip ?_
      | refine wpA_ret ?_
      | refine wpA_exit ?_
      | refine wpA_label ?_
      | refine wpA_region (fun K hK => ?_)
      | (refine runS_nil (hK _ ?_); clear hK K)
      | refine wpA_drawE (by kernel_rfl) (by kernel_rfl) (fun K hK => ?_)
      | refine runS_pure tblOk rfl rfl ⟨_, evl, _, _, _, evl, obl, ?_⟩
      | refine runS_mk tblOk rfl rfl ⟨_, evl, _, _, _, evl, obl, ?_⟩
      | (refine runS_call rfl rfl ⟨_, evl, _, _, _, evl, obl, ?_⟩; apply Exists.intro; refine ⟨fun hg => ?_, ?_⟩; · first | exact bounds_A _ _)
      | refine runE_pure tblOk rfl ⟨_, evl, _, _, _, evl, obl, ?_⟩
      | refine runE_mk tblOk rfl ⟨_, evl, _, _, _, evl, obl, ?_⟩
      | (refine runE_call rfl ⟨_, evl, _, _, _, evl, obl, ?_⟩; apply Exists.intro; refine ⟨fun hg => ?_, ?_⟩; · first | exact bounds_A _ _)
      | refine sBox rfl rfl rfl rfl ⟨_, evl, ob1, _, evl, _, evl, ?_⟩
      | refine sAlloc tblOk rfl rfl rfl rfl ⟨_, evl, _, evl, _, evl, ?_⟩
      | refine sStore tblOk rfl rfl rfl ⟨_, _, evl, _, evl, _, evl, _, evl, ob1, _, evl, ?_⟩
      | refine runE_tail rfl (by kernel_rfl) ?_
  refine ret_of (by simp) ⟨_, _, _, evl, ob0, OutOk.eq ?_ ?_⟩
  · simp [formedM]
  · simp [AV.free]
def vOk (l : List Change) (i : Nat) : Prop := formedM (gD l i) = true ∧ (0 < i → (gD l (i - 1)).at_ < (gD l i).at_)
instance (l : List Change) (i : Nat) : Decidable (vOk l i) := by unfold vOk; infer_instance
def ValidP (l : List Change) : Prop := 1 ≤ l.length ∧ l.length ≤ 20 ∧ (gD l 0).at_ = 0 ∧ (gD l (l.length - 1)).at_ ≤ 3000000000000000 ∧ ∀ i, i < l.length → vOk l i
instance (l : List Change) : Decidable (ValidP l) := by unfold ValidP; infer_instance
def validM (l : List Change) : Bool := decide (ValidP l)
theorem valid_A (l : List Change) (hmax : l.length ≤ 1000) : FnA Try.prog 13 [chL l] (.raw (.bool (validM l))) := by
  unfold chL
  refine fnA_of tblOk Try.func13 rfl (by kernel_rfl) 56 Try.ntmps13 (by simp only [List.length_cons, List.length_nil]; omega) [.tmp 2] rfl ?_
  simp only [entrySt, argSl, Nat.zero_add, Nat.reduceAdd]
  repeat
    first
      | refine thenA_n ?_
      | refine thenA_r ?_
      | refine thenA_e ?_
      | refine inBlockA_n ?_
      | refine inBlockA_r ?_
      | refine inBlockA_hit ?_
      | refine inBlockA_miss rfl ?_
      | refine wpA_seq' ?_
      | refine wpA_block ?_
      | refine wpA_skip ?_
      | refine wpA_ret ?_
      | refine wpA_exit ?_
      | refine wpA_label ?_
      | refine wpA_region (fun K hK => ?_)
      | (refine runS_nil (hK _ ?_); clear hK K)
      | refine wpA_drawE (by kernel_rfl) (by kernel_rfl) (fun K hK => ?_)
      | refine runS_pure tblOk rfl rfl ⟨_, evl, _, _, _, evl, obl, ?_⟩
      | refine runS_mk tblOk rfl rfl ⟨_, evl, _, _, _, evl, obl, ?_⟩
      | (refine runS_call rfl rfl ⟨_, evl, _, _, _, evl, obl, ?_⟩; apply Exists.intro; refine ⟨fun hg => ?_, ?_⟩; · first | exact formed_A _)
      | refine runE_pure tblOk rfl ⟨_, evl, _, _, _, evl, obl, ?_⟩
      | refine runE_mk tblOk rfl ⟨_, evl, _, _, _, evl, obl, ?_⟩
      | (refine runE_call rfl ⟨_, evl, _, _, _, evl, obl, ?_⟩; apply Exists.intro; refine ⟨fun hg => ?_, ?_⟩; · first | exact formed_A _)
      | refine sBox rfl rfl rfl rfl ⟨_, evl, ob1, _, evl, _, evl, ?_⟩
      | refine sAlloc tblOk rfl rfl rfl rfl ⟨_, evl, _, evl, _, evl, ?_⟩
      | refine sStore tblOk rfl rfl rfl ⟨_, _, evl, _, evl, _, evl, _, evl, ob1, _, evl, ?_⟩
      | refine runE_tail rfl (by kernel_rfl) ?_
  refine wpA_cond' ⟨_, evl, ?_, ?_⟩
  · intro hb
    repeat
      first
        | refine thenA_n ?_
        | refine thenA_r ?_
        | refine thenA_e ?_
        | refine inBlockA_n ?_
        | refine inBlockA_r ?_
        | refine inBlockA_hit ?_
        | refine inBlockA_miss rfl ?_
        | refine wpA_seq' ?_
        | refine wpA_block ?_
        | refine wpA_skip ?_
        | refine wpA_ret ?_
        | refine wpA_exit ?_
        | refine wpA_label ?_
        | refine wpA_region (fun K hK => ?_)
        | (refine runS_nil (hK _ ?_); clear hK K)
        | refine wpA_drawE (by kernel_rfl) (by kernel_rfl) (fun K hK => ?_)
        | refine runS_pure tblOk rfl rfl ⟨_, evl, _, _, _, evl, obl, ?_⟩
        | refine runS_mk tblOk rfl rfl ⟨_, evl, _, _, _, evl, obl, ?_⟩
        | refine runE_pure tblOk rfl ⟨_, evl, _, _, _, evl, obl, ?_⟩
        | refine runE_mk tblOk rfl ⟨_, evl, _, _, _, evl, obl, ?_⟩
        | refine sBox rfl rfl rfl rfl ⟨_, evl, ob1, _, evl, _, evl, ?_⟩
        | refine sAlloc tblOk rfl rfl rfl rfl ⟨_, evl, _, evl, _, evl, ?_⟩
        | refine sStore tblOk rfl rfl rfl ⟨_, _, evl, _, evl, _, evl, _, evl, ob1, _, evl, ?_⟩
        | refine runE_tail rfl (by kernel_rfl) ?_
    refine ret_of (by simp) ⟨_, _, _, evl, ob0, OutOk.eq ?_ ?_⟩
    · simp only [AV.raw.injEq, Value.bool.injEq]
      rw [eq_comm, validM, decide_eq_false_iff_not]
      rintro ⟨h1, h2, h3, h4, h5⟩
      have e : ((l.length : Int) - 1).toNat = l.length - 1 := by omega
      rw [e] at hb
      simp at hb
      omega
    · simp [AV.free]
  · intro hb
    simp only [Bool.or_eq_false_iff, decide_eq_false_iff_not, Bool.not_eq_false', decide_eq_true_eq] at hb
    obtain ⟨⟨⟨hb1, hb2⟩, hb3⟩, hb4⟩ := hb
    repeat
      first
        | refine thenA_n ?_
        | refine thenA_r ?_
        | refine thenA_e ?_
        | refine inBlockA_n ?_
        | refine inBlockA_r ?_
        | refine inBlockA_hit ?_
        | refine inBlockA_miss rfl ?_
        | refine wpA_seq' ?_
        | refine wpA_block ?_
        | refine wpA_skip ?_
        | refine wpA_ret ?_
        | refine wpA_exit ?_
        | refine wpA_label ?_
        | refine wpA_region (fun K hK => ?_)
        | (refine runS_nil (hK _ ?_); clear hK K)
        | refine wpA_drawE (by kernel_rfl) (by kernel_rfl) (fun K hK => ?_)
        | refine runS_pure tblOk rfl rfl ⟨_, evl, _, _, _, evl, obl, ?_⟩
        | refine runS_mk tblOk rfl rfl ⟨_, evl, _, _, _, evl, obl, ?_⟩
        | (refine runS_call rfl rfl ⟨_, evl, _, _, _, evl, obl, ?_⟩; apply Exists.intro; refine ⟨fun hg => ?_, ?_⟩; · first | exact formed_A _)
        | refine runE_pure tblOk rfl ⟨_, evl, _, _, _, evl, obl, ?_⟩
        | refine runE_mk tblOk rfl ⟨_, evl, _, _, _, evl, obl, ?_⟩
        | (refine runE_call rfl ⟨_, evl, _, _, _, evl, obl, ?_⟩; apply Exists.intro; refine ⟨fun hg => ?_, ?_⟩; · first | exact formed_A _)
        | refine sBox rfl rfl rfl rfl ⟨_, evl, ob1, _, evl, _, evl, ?_⟩
        | refine sAlloc tblOk rfl rfl rfl rfl ⟨_, evl, _, evl, _, evl, ?_⟩
        | refine sStore tblOk rfl rfl rfl ⟨_, _, evl, _, evl, _, evl, _, evl, ob1, _, evl, ?_⟩
        | refine runE_tail rfl (by kernel_rfl) ?_
    refine wpA_loop (fun k : Nat => ⟨56, 0, [(0, true, .lst 5 l.length fun i => (gD l i).c), (30, true, .lst 5 l.length fun i => (gD l i).c), (31, true, .raw (.int .i64 l.length)), (32, true, .raw (.int .i64 k))], [], [], ((0, []), [], true)⟩)
      (fun k => k ≤ l.length ∧ ∀ i, i < k → vOk l i) (fun k => l.length - k) 0 ?_ ⟨by omega, fun i h => by omega⟩ ?_
    · refine Weak.sl ?_
      (try simp only [SubSl, lookN_cons, ↓reduceIte, Nat.reduceEqDiff, and_true, true_and, Option.some.injEq, Prod.mk.injEq, AV.raw.injEq, Value.int.injEq, Value.bool.injEq])
      all_goals ((repeat' apply And.intro) <;> first | rfl | omega | (simp; done))
    · rintro k ⟨hk, hall⟩
      repeat
        first
          | refine thenA_n ?_
          | refine thenA_r ?_
          | refine thenA_e ?_
          | refine inBlockA_n ?_
          | refine inBlockA_r ?_
          | refine inBlockA_hit ?_
          | refine inBlockA_miss rfl ?_
          | refine wpA_seq' ?_
          | refine wpA_block ?_
          | refine wpA_skip ?_
          | refine wpA_ret ?_
          | refine wpA_exit ?_
          | refine wpA_label ?_
          | refine wpA_region (fun K hK => ?_)
          | (refine runS_nil (hK _ ?_); clear hK K)
          | refine wpA_drawE (by kernel_rfl) (by kernel_rfl) (fun K hK => ?_)
          | refine runS_pure tblOk rfl rfl ⟨_, evl, _, _, _, evl, obl, ?_⟩
          | refine runS_mk tblOk rfl rfl ⟨_, evl, _, _, _, evl, obl, ?_⟩
          | (refine runS_call rfl rfl ⟨_, evl, _, _, _, evl, obl, ?_⟩; apply Exists.intro; refine ⟨fun hg => ?_, ?_⟩; · first | exact formed_A _)
          | refine runE_pure tblOk rfl ⟨_, evl, _, _, _, evl, obl, ?_⟩
          | refine runE_mk tblOk rfl ⟨_, evl, _, _, _, evl, obl, ?_⟩
          | (refine runE_call rfl ⟨_, evl, _, _, _, evl, obl, ?_⟩; apply Exists.intro; refine ⟨fun hg => ?_, ?_⟩; · first | exact formed_A _)
          | refine sBox rfl rfl rfl rfl ⟨_, evl, ob1, _, evl, _, evl, ?_⟩
          | refine sAlloc tblOk rfl rfl rfl rfl ⟨_, evl, _, evl, _, evl, ?_⟩
          | refine sStore tblOk rfl rfl rfl ⟨_, _, evl, _, evl, _, evl, _, evl, ob1, _, evl, ?_⟩
          | refine runE_tail rfl (by kernel_rfl) ?_
      refine wpA_cond' ⟨_, evl, ?_, ?_⟩
      · intro hlt
        simp only [decide_eq_true_eq] at hlt
        repeat
          first
            | refine thenA_n ?_
            | refine thenA_r ?_
            | refine thenA_e ?_
            | refine inBlockA_n ?_
            | refine inBlockA_r ?_
            | refine inBlockA_hit ?_
            | refine inBlockA_miss rfl ?_
            | refine wpA_seq' ?_
            | refine wpA_block ?_
            | refine wpA_skip ?_
            | refine wpA_ret ?_
            | refine wpA_exit ?_
            | refine wpA_label ?_
            | refine wpA_region (fun K hK => ?_)
            | (refine runS_nil (hK _ ?_); clear hK K)
            | refine wpA_drawE (by kernel_rfl) (by kernel_rfl) (fun K hK => ?_)
            | refine runS_pure tblOk rfl rfl ⟨_, evl, _, _, _, evl, obl, ?_⟩
            | refine runS_mk tblOk rfl rfl ⟨_, evl, _, _, _, evl, obl, ?_⟩
            | (refine runS_call rfl rfl ⟨_, evl, _, _, _, evl, obl, ?_⟩; apply Exists.intro; refine ⟨fun hg => ?_, ?_⟩; · first | exact formed_A _)
            | refine runE_pure tblOk rfl ⟨_, evl, _, _, _, evl, obl, ?_⟩
            | refine runE_mk tblOk rfl ⟨_, evl, _, _, _, evl, obl, ?_⟩
            | (refine runE_call rfl ⟨_, evl, _, _, _, evl, obl, ?_⟩; apply Exists.intro; refine ⟨fun hg => ?_, ?_⟩; · first | exact formed_A _)
            | refine sBox rfl rfl rfl rfl ⟨_, evl, ob1, _, evl, _, evl, ?_⟩
            | refine sAlloc tblOk rfl rfl rfl rfl ⟨_, evl, _, evl, _, evl, ?_⟩
            | refine sStore tblOk rfl rfl rfl ⟨_, _, evl, _, evl, _, evl, _, evl, ob1, _, evl, ?_⟩
            | refine runE_tail rfl (by kernel_rfl) ?_
        refine wpA_cond' ⟨_, evl, ?_, ?_⟩
        · intro hbad
          repeat
            first
              | refine thenA_n ?_
              | refine thenA_r ?_
              | refine thenA_e ?_
              | refine inBlockA_n ?_
              | refine inBlockA_r ?_
              | refine inBlockA_hit ?_
              | refine inBlockA_miss rfl ?_
              | refine wpA_seq' ?_
              | refine wpA_block ?_
              | refine wpA_skip ?_
              | refine wpA_ret ?_
              | refine wpA_exit ?_
              | refine wpA_label ?_
              | refine wpA_region (fun K hK => ?_)
              | (refine runS_nil (hK _ ?_); clear hK K)
              | refine wpA_drawE (by kernel_rfl) (by kernel_rfl) (fun K hK => ?_)
              | refine runS_pure tblOk rfl rfl ⟨_, evl, _, _, _, evl, obl, ?_⟩
              | refine runS_mk tblOk rfl rfl ⟨_, evl, _, _, _, evl, obl, ?_⟩
              | refine runE_pure tblOk rfl ⟨_, evl, _, _, _, evl, obl, ?_⟩
              | refine runE_mk tblOk rfl ⟨_, evl, _, _, _, evl, obl, ?_⟩
              | refine sBox rfl rfl rfl rfl ⟨_, evl, ob1, _, evl, _, evl, ?_⟩
              | refine sAlloc tblOk rfl rfl rfl rfl ⟨_, evl, _, evl, _, evl, ?_⟩
              | refine sStore tblOk rfl rfl rfl ⟨_, _, evl, _, evl, _, evl, _, evl, ob1, _, evl, ?_⟩
              | refine runE_tail rfl (by kernel_rfl) ?_
          refine ret_of (by simp) ⟨_, _, _, evl, ob0, OutOk.eq ?_ ?_⟩
          · simp only [AV.raw.injEq, Value.bool.injEq]
            rw [eq_comm, validM, decide_eq_false_iff_not]
            rintro ⟨_, _, _, _, h5⟩
            obtain ⟨h6, h7⟩ := h5 k (by omega)
            have e : ((k : Int) - 1).toNat = k - 1 := by omega
            rw [h6, e] at hbad
            simp at hbad
            have := h7 (by omega)
            omega
          · simp [AV.free]
        · intro hgood
          repeat
            first
              | refine thenA_n ?_
              | refine thenA_r ?_
              | refine thenA_e ?_
              | refine inBlockA_n ?_
              | refine inBlockA_r ?_
              | refine inBlockA_hit ?_
              | refine inBlockA_miss rfl ?_
              | refine wpA_seq' ?_
              | refine wpA_block ?_
              | refine wpA_skip ?_
              | refine wpA_ret ?_
              | refine wpA_exit ?_
              | refine wpA_label ?_
              | refine wpA_region (fun K hK => ?_)
              | (refine runS_nil (hK _ ?_); clear hK K)
              | refine wpA_drawE (by kernel_rfl) (by kernel_rfl) (fun K hK => ?_)
              | refine runS_pure tblOk rfl rfl ⟨_, evl, _, _, _, evl, obl, ?_⟩
              | refine runS_mk tblOk rfl rfl ⟨_, evl, _, _, _, evl, obl, ?_⟩
              | refine runE_pure tblOk rfl ⟨_, evl, _, _, _, evl, obl, ?_⟩
              | refine runE_mk tblOk rfl ⟨_, evl, _, _, _, evl, obl, ?_⟩
              | refine sBox rfl rfl rfl rfl ⟨_, evl, ob1, _, evl, _, evl, ?_⟩
              | refine sAlloc tblOk rfl rfl rfl rfl ⟨_, evl, _, evl, _, evl, ?_⟩
              | refine sStore tblOk rfl rfl rfl ⟨_, _, evl, _, evl, _, evl, _, evl, ob1, _, evl, ?_⟩
              | refine runE_tail rfl (by kernel_rfl) ?_
          refine ⟨k + 1, ⟨by omega, fun i hi => ?_⟩, by omega, ?_⟩
          · by_cases hik : i < k
            · exact hall i hik
            · obtain rfl : i = k := by omega
              have e : ((i : Int) - 1).toNat = i - 1 := by omega
              rw [e] at hgood
              simp at hgood
              exact ⟨hgood.1, fun h => by have := hgood.2 h; omega⟩
          · refine Weak.mk rfl ?_ ?_
            rotate_left
            · simp [belS, belB, AV.bel, AV.belL, go_sem]
            (try simp only [SubSl, lookN_cons, ↓reduceIte, Nat.reduceEqDiff, and_true, true_and, Option.some.injEq, Prod.mk.injEq, AV.raw.injEq, Value.int.injEq, Value.bool.injEq])
            all_goals ((repeat' apply And.intro) <;> first | rfl | omega | (simp; done))
      · intro hge
        simp only [decide_eq_false_iff_not] at hge
        repeat
          first
            | refine thenA_n ?_
            | refine thenA_r ?_
            | refine thenA_e ?_
            | refine inBlockA_n ?_
            | refine inBlockA_r ?_
            | refine inBlockA_hit ?_
            | refine inBlockA_miss rfl ?_
            | refine wpA_seq' ?_
            | refine wpA_block ?_
            | refine wpA_skip ?_
            | refine wpA_ret ?_
            | refine wpA_exit ?_
            | refine wpA_label ?_
            | refine wpA_region (fun K hK => ?_)
            | (refine runS_nil (hK _ ?_); clear hK K)
            | refine wpA_drawE (by kernel_rfl) (by kernel_rfl) (fun K hK => ?_)
            | refine runS_pure tblOk rfl rfl ⟨_, evl, _, _, _, evl, obl, ?_⟩
            | refine runS_mk tblOk rfl rfl ⟨_, evl, _, _, _, evl, obl, ?_⟩
            | (refine runS_call rfl rfl ⟨_, evl, _, _, _, evl, obl, ?_⟩; apply Exists.intro; refine ⟨fun hg => ?_, ?_⟩; · first | exact formed_A _)
            | refine runE_pure tblOk rfl ⟨_, evl, _, _, _, evl, obl, ?_⟩
            | refine runE_mk tblOk rfl ⟨_, evl, _, _, _, evl, obl, ?_⟩
            | (refine runE_call rfl ⟨_, evl, _, _, _, evl, obl, ?_⟩; apply Exists.intro; refine ⟨fun hg => ?_, ?_⟩; · first | exact formed_A _)
            | refine sBox rfl rfl rfl rfl ⟨_, evl, ob1, _, evl, _, evl, ?_⟩
            | refine sAlloc tblOk rfl rfl rfl rfl ⟨_, evl, _, evl, _, evl, ?_⟩
            | refine sStore tblOk rfl rfl rfl ⟨_, _, evl, _, evl, _, evl, _, evl, ob1, _, evl, ?_⟩
            | refine runE_tail rfl (by kernel_rfl) ?_
        refine ret_of (by simp) ⟨_, _, _, evl, ob0, OutOk.eq ?_ ?_⟩
        · simp only [AV.raw.injEq, Value.bool.injEq]
          rw [eq_comm, validM, decide_eq_true_eq]
          have e : ((l.length : Int) - 1).toNat = l.length - 1 := by omega
          rw [e] at hb4
          exact ⟨by omega, by omega, hb3, by omega, fun i hi => hall i (by omega)⟩
        · simp [AV.free]
end Go.Proofs.Yticlpcgkaffdmaa
