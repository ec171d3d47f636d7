/- The small functions of the statements of chapter 10. -/
import Derived.Test.YticlpcgkaffdmaaLinkB
namespace Go.Proofs.Yticlpcgkaffdmaa
set_option linter.unusedSectionVars false
set_option linter.unusedVariables false
set_option linter.unusedSimpArgs false
open Go.RowKit
def inM (x : Int) (i : Iv) : Bool := decide (i.lo ≤ x) && decide (x ≤ i.hi)
theorem in_A (x : Int) (i : Iv) : FnA Try.prog 22 [.raw (.int .i64 x), .agg i.c] (.raw (.bool (inM x i))) := by
  refine fnA_of tblOk Try.func22 rfl (by kernel_rfl) 15 Try.ntmps22 (by simp only [List.length_cons, List.length_nil]; omega) [.tmp 4] rfl ?_
  simp only [entrySt, argSl, Nat.zero_add, Nat.reduceAdd]
  repeat
    first
      | refine thenA_n ?_
      | refine thenA_r ?_
      | refine thenA_e ?_
      | refine inBlockA_n ?_
      | refine inBlockA_r ?_
      | refine inBlockA_hit ?_
      | refine inBlockA_miss rfl ?_
      | refine wpA_seq' ?_
      | refine wpA_block ?_
      | refine wpA_skip ?_
      | refine wpA_ret ?_
      | refine wpA_exit ?_
      | refine wpA_label ?_
      | refine wpA_region (fun K hK => ?_)
      | (refine runS_nil (hK _ ?_); clear hK K)
      | refine wpA_drawE (by kernel_rfl) (by kernel_rfl) (fun K hK => ?_)
      | refine runS_pure tblOk rfl rfl ⟨_, evl, _, _, _, evl, obl, ?_⟩
      | refine runS_mk tblOk rfl rfl ⟨_, evl, _, _, _, evl, obl, ?_⟩
      | refine runE_pure tblOk rfl ⟨_, evl, _, _, _, evl, obl, ?_⟩
      | refine runE_mk tblOk rfl ⟨_, evl, _, _, _, evl, obl, ?_⟩
      | refine sBox rfl rfl rfl rfl ⟨_, evl, ob1, _, evl, _, evl, ?_⟩
      | refine sAlloc tblOk rfl rfl rfl rfl ⟨_, evl, _, evl, _, evl, ?_⟩
      | refine sStore tblOk rfl rfl rfl ⟨_, _, evl, _, evl, _, evl, _, evl, ob1, _, evl, ?_⟩
      | refine runE_tail rfl (by kernel_rfl) ?_
  refine ret_of (by simp) ⟨_, _, _, evl, ob0, OutOk.eq ?_ ?_⟩
  · simp [inM]
  · simp [AV.free]
def withinM (a b : Iv) : Bool := decide (b.lo ≤ a.lo) && decide (a.hi ≤ b.hi)
theorem within_A (a b : Iv) : FnA Try.prog 27 [.agg a.c, .agg b.c] (.raw (.bool (withinM a b))) := by
  refine fnA_of tblOk Try.func27 rfl (by kernel_rfl) 17 Try.ntmps27 (by simp only [List.length_cons, List.length_nil]; omega) [.tmp 4] rfl ?_
  simp only [entrySt, argSl, Nat.zero_add, Nat.reduceAdd]
  repeat
    first
      | refine thenA_n ?_
      | refine thenA_r ?_
      | refine thenA_e ?_
      | refine inBlockA_n ?_
      | refine inBlockA_r ?_
      | refine inBlockA_hit ?_
      | refine inBlockA_miss rfl ?_
      | refine wpA_seq' ?_
      | refine wpA_block ?_
      | refine wpA_skip ?_
      | refine wpA_ret ?_
      | refine wpA_exit ?_
      | refine wpA_label ?_
      | refine wpA_region (fun K hK => ?_)
      | (refine runS_nil (hK _ ?_); clear hK K)
      | refine wpA_drawE (by kernel_rfl) (by kernel_rfl) (fun K hK => ?_)
      | refine runS_pure tblOk rfl rfl ⟨_, evl, _, _, _, evl, obl, ?_⟩
      | refine runS_mk tblOk rfl rfl ⟨_, evl, _, _, _, evl, obl, ?_⟩
      | refine runE_pure tblOk rfl ⟨_, evl, _, _, _, evl, obl, ?_⟩
      | refine runE_mk tblOk rfl ⟨_, evl, _, _, _, evl, obl, ?_⟩
      | refine sBox rfl rfl rfl rfl ⟨_, evl, ob1, _, evl, _, evl, ?_⟩
      | refine sAlloc tblOk rfl rfl rfl rfl ⟨_, evl, _, evl, _, evl, ?_⟩
      | refine sStore tblOk rfl rfl rfl ⟨_, _, evl, _, evl, _, evl, _, evl, ob1, _, evl, ?_⟩
      | refine runE_tail rfl (by kernel_rfl) ?_
  refine ret_of (by simp) ⟨_, _, _, evl, ob0, OutOk.eq ?_ ?_⟩
  · simp [withinM]
  · simp [AV.free]
def placeM (i : Iv) (n : Int) : Int := i.lo + n % (i.hi - i.lo + 1)
theorem place_A (i : Iv) (n : Int) (h : 0 ≤ i.lo ∧ i.lo ≤ i.hi ∧ i.hi ≤ 3000000000000000) (hn : inK .i64 n) : FnA Try.prog 23 [.agg i.c, .raw (.int .i64 n)] (.raw (.int .i64 (placeM i n))) := by
  simp only [inK] at hn
  have h1 := Int.emod_nonneg n (b := i.hi - i.lo + 1) (by omega)
  have h2 := Int.emod_lt_of_pos n (b := i.hi - i.lo + 1) (by omega)
  have h3 := Int.tmod_eq_emod (a := n) (b := i.hi - i.lo + 1)
  have h4 : ((i.hi - i.lo + 1).natAbs : Int) = i.hi - i.lo + 1 := by omega
  have h5 : (n.tmod (i.hi - i.lo + 1) < 0 → n % (i.hi - i.lo + 1) = n.tmod (i.hi - i.lo + 1) + (i.hi - i.lo + 1)) ∧ (0 ≤ n.tmod (i.hi - i.lo + 1) → n % (i.hi - i.lo + 1) = n.tmod (i.hi - i.lo + 1)) := by
    split at h3 <;> omega
  have h6 : -(i.hi - i.lo + 1) < n.tmod (i.hi - i.lo + 1) ∧ n.tmod (i.hi - i.lo + 1) < i.hi - i.lo + 1 := by
    split at h3 <;> omega
  clear h3
  refine fnA_of tblOk Try.func23 rfl (by kernel_rfl) 29 Try.ntmps23 (by simp only [List.length_cons, List.length_nil]; omega) [.tmp 4] rfl ?_
  simp only [entrySt, argSl, Nat.zero_add, Nat.reduceAdd]
  repeat
    first
      | refine thenA_n ?_
      | refine thenA_r ?_
      | refine thenA_e ?_
      | refine inBlockA_n ?_
      | refine inBlockA_r ?_
      | refine inBlockA_hit ?_
      | refine inBlockA_miss rfl ?_
      | refine wpA_seq' ?_
      | refine wpA_block ?_
      | refine wpA_skip ?_
      | refine wpA_ret ?_
      | refine wpA_exit ?_
      | refine wpA_label ?_
      | refine wpA_region (fun K hK => ?_)
      | (refine runS_nil (hK _ ?_); clear hK K)
      | refine wpA_drawE (by kernel_rfl) (by kernel_rfl) (fun K hK => ?_)
      | refine runS_pure tblOk rfl rfl ⟨_, evl, _, _, _, evl, obl, ?_⟩
      | refine runS_mk tblOk rfl rfl ⟨_, evl, _, _, _, evl, obl, ?_⟩
      | refine runE_pure tblOk rfl ⟨_, evl, _, _, _, evl, obl, ?_⟩
      | refine runE_mk tblOk rfl ⟨_, evl, _, _, _, evl, obl, ?_⟩
      | refine sBox rfl rfl rfl rfl ⟨_, evl, ob1, _, evl, _, evl, ?_⟩
      | refine sAlloc tblOk rfl rfl rfl rfl ⟨_, evl, _, evl, _, evl, ?_⟩
      | refine sStore tblOk rfl rfl rfl ⟨_, _, evl, _, evl, _, evl, _, evl, ob1, _, evl, ?_⟩
      | refine runE_tail rfl (by kernel_rfl) ?_
  refine wpA_cond' ⟨_, evl, ?_, ?_⟩
  · intro hb
    simp at hb
    omega
  · intro hb
    clear hb
    repeat
      first
        | refine thenA_n ?_
        | refine thenA_r ?_
        | refine thenA_e ?_
        | refine inBlockA_n ?_
        | refine inBlockA_r ?_
        | refine inBlockA_hit ?_
        | refine inBlockA_miss rfl ?_
        | refine wpA_seq' ?_
        | refine wpA_block ?_
        | refine wpA_skip ?_
        | refine wpA_ret ?_
        | refine wpA_exit ?_
        | refine wpA_label ?_
        | refine wpA_region (fun K hK => ?_)
        | (refine runS_nil (hK _ ?_); clear hK K)
        | refine wpA_drawE (by kernel_rfl) (by kernel_rfl) (fun K hK => ?_)
        | refine runS_pure tblOk rfl rfl ⟨_, evl, _, _, _, evl, obl, ?_⟩
        | refine runS_mk tblOk rfl rfl ⟨_, evl, _, _, _, evl, obl, ?_⟩
        | refine runE_pure tblOk rfl ⟨_, evl, _, _, _, evl, obl, ?_⟩
        | refine runE_mk tblOk rfl ⟨_, evl, _, _, _, evl, obl, ?_⟩
        | refine sBox rfl rfl rfl rfl ⟨_, evl, ob1, _, evl, _, evl, ?_⟩
        | refine sAlloc tblOk rfl rfl rfl rfl ⟨_, evl, _, evl, _, evl, ?_⟩
        | refine sStore tblOk rfl rfl rfl ⟨_, _, evl, _, evl, _, evl, _, evl, ob1, _, evl, ?_⟩
        | refine runE_tail rfl (by kernel_rfl) ?_
    refine wpA_cond' ⟨_, evl, ?_, ?_⟩
    · intro hb
      simp at hb
      repeat
        first
          | refine thenA_n ?_
          | refine thenA_r ?_
          | refine thenA_e ?_
          | refine inBlockA_n ?_
          | refine inBlockA_r ?_
          | refine inBlockA_hit ?_
          | refine inBlockA_miss rfl ?_
          | refine wpA_seq' ?_
          | refine wpA_block ?_
          | refine wpA_skip ?_
          | refine wpA_ret ?_
          | refine wpA_exit ?_
          | refine wpA_label ?_
          | refine wpA_region (fun K hK => ?_)
          | (refine runS_nil (hK _ ?_); clear hK K)
          | refine wpA_drawE (by kernel_rfl) (by kernel_rfl) (fun K hK => ?_)
          | refine runS_pure tblOk rfl rfl ⟨_, evl, _, _, _, evl, obl, ?_⟩
          | refine runS_mk tblOk rfl rfl ⟨_, evl, _, _, _, evl, obl, ?_⟩
          | refine runE_pure tblOk rfl ⟨_, evl, _, _, _, evl, obl, ?_⟩
          | refine runE_mk tblOk rfl ⟨_, evl, _, _, _, evl, obl, ?_⟩
          | refine sBox rfl rfl rfl rfl ⟨_, evl, ob1, _, evl, _, evl, ?_⟩
          | refine sAlloc tblOk rfl rfl rfl rfl ⟨_, evl, _, evl, _, evl, ?_⟩
          | refine sStore tblOk rfl rfl rfl ⟨_, _, evl, _, evl, _, evl, _, evl, ob1, _, evl, ?_⟩
          | refine runE_tail rfl (by kernel_rfl) ?_
      refine ret_of (by simp) ⟨_, _, _, evl, ob0, OutOk.eq ?_ ?_⟩
      · rw [placeM, h5.1 hb, Int.add_comm (n.tmod _)]
      · simp [AV.free]
    · intro hb
      simp at hb
      repeat
        first
          | refine thenA_n ?_
          | refine thenA_r ?_
          | refine thenA_e ?_
          | refine inBlockA_n ?_
          | refine inBlockA_r ?_
          | refine inBlockA_hit ?_
          | refine inBlockA_miss rfl ?_
          | refine wpA_seq' ?_
          | refine wpA_block ?_
          | refine wpA_skip ?_
          | refine wpA_ret ?_
          | refine wpA_exit ?_
          | refine wpA_label ?_
          | refine wpA_region (fun K hK => ?_)
          | (refine runS_nil (hK _ ?_); clear hK K)
          | refine wpA_drawE (by kernel_rfl) (by kernel_rfl) (fun K hK => ?_)
          | refine runS_pure tblOk rfl rfl ⟨_, evl, _, _, _, evl, obl, ?_⟩
          | refine runS_mk tblOk rfl rfl ⟨_, evl, _, _, _, evl, obl, ?_⟩
          | refine runE_pure tblOk rfl ⟨_, evl, _, _, _, evl, obl, ?_⟩
          | refine runE_mk tblOk rfl ⟨_, evl, _, _, _, evl, obl, ?_⟩
          | refine sBox rfl rfl rfl rfl ⟨_, evl, ob1, _, evl, _, evl, ?_⟩
          | refine sAlloc tblOk rfl rfl rfl rfl ⟨_, evl, _, evl, _, evl, ?_⟩
          | refine sStore tblOk rfl rfl rfl ⟨_, _, evl, _, evl, _, evl, _, evl, ob1, _, evl, ?_⟩
          | refine runE_tail rfl (by kernel_rfl) ?_
      refine ret_of (by simp) ⟨_, _, _, evl, ob0, OutOk.eq ?_ ?_⟩
      · rw [placeM, h5.2 hb]
      · simp [AV.free]
def bySub (by_ : Nat → Int) (c : Change) : Change :=
  let ol := min c.outHi (c.outLo + by_ 0)
  let oh := max ol (c.outHi - by_ 1)
  let bl := min c.backHi (c.backLo + by_ 2)
  ⟨c.at_, ol, oh, bl, max bl (c.backHi - by_ 3)⟩
theorem narrow_A (c : Change) (b0 b1 b2 b3 : Int) (hc : formedM c = true) (h : ∀ x ∈ [b0, b1, b2, b3], inK .u16 x) :
    FnA Try.prog 26 [.agg c.c, .agg [.raw (.int .u16 b0), .raw (.int .u16 b1), .raw (.int .u16 b2), .raw (.int .u16 b3)]] (.agg (bySub (fun i => [b0, b1, b2, b3].getD i 0) c).c) := by
  have h1 := (formed_iff c).1 hc
  simp only [List.forall_mem_cons, inK, List.not_mem_nil, false_implies, implies_true, and_true] at h
  refine fnA_of tblOk Try.func26 rfl (by kernel_rfl) 46 Try.ntmps26 (by simp only [List.length_cons, List.length_nil]; omega) [.cell 4 24] rfl ?_
  simp only [entrySt, argSl, Nat.zero_add, Nat.reduceAdd]
  repeat
    first
      | refine thenA_n ?_
      | refine thenA_r ?_
      | refine thenA_e ?_
      | refine inBlockA_n ?_
      | refine inBlockA_r ?_
      | refine inBlockA_hit ?_
      | refine inBlockA_miss rfl ?_
      | refine wpA_seq' ?_
      | refine wpA_block ?_
      | refine wpA_skip ?_
      | refine wpA_ret ?_
      | refine wpA_exit ?_
      | refine wpA_label ?_
      | refine wpA_region (fun K hK => ?_)
      | (refine runS_nil (hK _ ?_); clear hK K)
      | refine wpA_drawE (by kernel_rfl) (by kernel_rfl) (fun K hK => ?_)
      | refine runS_pure tblOk rfl rfl ⟨_, evl, _, _, _, evl, obl, ?_⟩
      | refine runS_mk tblOk rfl rfl ⟨_, evl, _, _, _, evl, obl, ?_⟩
      | refine runE_pure tblOk rfl ⟨_, evl, _, _, _, evl, obl, ?_⟩
      | refine runE_mk tblOk rfl ⟨_, evl, _, _, _, evl, obl, ?_⟩
      | refine sBox rfl rfl rfl rfl ⟨_, evl, ob1, _, evl, _, evl, ?_⟩
      | refine sAlloc tblOk rfl rfl rfl rfl ⟨_, evl, _, evl, _, evl, ?_⟩
      | refine sStore tblOk rfl rfl rfl ⟨_, _, evl, _, evl, _, evl, _, evl, ob1, _, evl, ?_⟩
      | refine runE_tail rfl (by kernel_rfl) ?_
  refine ret_of (by simp) ⟨_, _, _, evl, ob0, OutOk.eq ?_ ?_⟩
  · rfl
  · simp [AV.free, AV.freeL]
end Go.Proofs.Yticlpcgkaffdmaa
