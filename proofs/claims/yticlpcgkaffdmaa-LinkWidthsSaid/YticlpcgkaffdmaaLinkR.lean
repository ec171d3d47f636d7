/- The reference of chapter 10: it computes the same. -/
import Derived.Test.YticlpcgkaffdmaaLinkB
import Derived.Test.YticlpcgkaffdmaaAlLoop
namespace Go.Proofs.Yticlpcgkaffdmaa
set_option linter.unusedSectionVars false
set_option linter.unusedVariables false
set_option linter.unusedSimpArgs false
open Go.RowKit
theorem delaysR_A (lo hi : Int) : FnA Try.prog 39 [.raw (.int .i64 lo), .raw (.int .i64 hi)] (.raw (.bool (boundsM lo hi))) := by
  refine fnA_of tblOk Try.func39 rfl (by kernel_rfl) 16 Try.ntmps39 (by simp only [List.length_cons, List.length_nil]; omega) [.tmp 4] rfl ?_
  simp only [entrySt, argSl, Nat.zero_add, Nat.reduceAdd]
  repeat
    first
      | refine thenA_n ?_
      | refine thenA_r ?_
      | refine thenA_e ?_
      | refine inBlockA_n ?_
      | refine inBlockA_r ?_
      | refine inBlockA_hit ?_
      | refine inBlockA_miss rfl ?_
      | refine wpA_seq' ?_
      | refine wpA_block ?_
      | refine wpA_skip ?_
      | refine wpA_ret ?_
      | refine wpA_exit ?_
      | refine wpA_label ?_
      | refine wpA_region (fun K hK => ?_)
      | (refine runS_nil (hK _ ?_); clear hK K)
      | refine wpA_drawE (by kernel_rfl) (by kernel_rfl) (fun K hK => ?_)
      | refine runS_pure tblOk rfl rfl ⟨_, evl, _, _, _, evl, obl, ?_⟩
      | refine runS_mk tblOk rfl rfl ⟨_, evl, _, _, _, evl, obl, ?_⟩
      | refine runE_pure tblOk rfl ⟨_, evl, _, _, _, evl, obl, ?_⟩
      | refine runE_mk tblOk rfl ⟨_, evl, _, _, _, evl, obl, ?_⟩
      | refine sBox rfl rfl rfl rfl ⟨_, evl, ob1, _, evl, _, evl, ?_⟩
      | refine sAlloc tblOk rfl rfl rfl rfl ⟨_, evl, _, evl, _, evl, ?_⟩
      | refine sStore tblOk rfl rfl rfl ⟨_, _, evl, _, evl, _, evl, _, evl, ob1, _, evl, ?_⟩
      | refine runE_tail rfl (by kernel_rfl) ?_
  refine ret_of (by simp) ⟨_, _, _, evl, ob0, OutOk.eq ?_ ?_⟩
  · simp [boundsM]
  · simp [AV.free]
theorem formR_A (c : Change) : FnA Try.prog 21 [.agg c.c] (.raw (.bool (formedM c))) := by
  refine fnA_of tblOk Try.func21 rfl (by kernel_rfl) 15 Try.ntmps21 (by simp only [List.length_cons, List.length_nil]; omega) [.tmp 2] rfl ?_
  simp only [entrySt, argSl, Nat.zero_add, Nat.reduceAdd]
  repeat
    first
      | refine thenA_n ?_
      | refine thenA_r ?_
      | refine thenA_e ?_
      | refine inBlockA_n ?_
      | refine inBlockA_r ?_
      | refine inBlockA_hit ?_
      | refine inBlockA_miss rfl ?_
      | refine wpA_seq' ?_
      | refine wpA_block ?_
      | refine wpA_skip ?_
      | refine wpA_ret ?_
      | refine wpA_exit ?_
      | refine wpA_label ?_
      | refine wpA_region (fun K hK => ?_)
      | (refine runS_nil (hK _ ?_); clear hK K)
      | refine wpA_drawE (by kernel_rfl) (by kernel_rfl) (fun K hK => ?_)
      | refine runS_pure tblOk rfl rfl ⟨_, evl, _, _, _, evl, obl, ?_⟩
      | refine runS_mk tblOk rfl rfl ⟨_, evl, _, _, _, evl, obl, ?_⟩
      | (refine runS_call rfl rfl ⟨_, evl, _, _, _, evl, obl, ?_⟩; apply Exists.intro; refine ⟨fun hg => ?_, ?_⟩; · first | exact delaysR_A _ _)
      | refine runE_pure tblOk rfl ⟨_, evl, _, _, _, evl, obl, ?_⟩
      | refine runE_mk tblOk rfl ⟨_, evl, _, _, _, evl, obl, ?_⟩
      | (refine runE_call rfl ⟨_, evl, _, _, _, evl, obl, ?_⟩; apply Exists.intro; refine ⟨fun hg => ?_, ?_⟩; · first | exact delaysR_A _ _)
      | refine sBox rfl rfl rfl rfl ⟨_, evl, ob1, _, evl, _, evl, ?_⟩
      | refine sAlloc tblOk rfl rfl rfl rfl ⟨_, evl, _, evl, _, evl, ?_⟩
      | refine sStore tblOk rfl rfl rfl ⟨_, _, evl, _, evl, _, evl, _, evl, ob1, _, evl, ?_⟩
      | refine runE_tail rfl (by kernel_rfl) ?_
  refine ret_of (by simp) ⟨_, _, _, evl, ob0, OutOk.eq ?_ ?_⟩
  · simp [formedM]
  · simp [AV.free]
theorem validIR_A (i : Iv) : FnA Try.prog 25 [.agg i.c] (.raw (.bool (validI i))) := by
  refine fnA_of tblOk Try.func25 rfl (by kernel_rfl) 18 Try.ntmps25 (by simp only [List.length_cons, List.length_nil]; omega) [.tmp 2] rfl ?_
  simp only [entrySt, argSl, Nat.zero_add, Nat.reduceAdd]
  repeat
    first
      | refine thenA_n ?_
      | refine thenA_r ?_
      | refine thenA_e ?_
      | refine inBlockA_n ?_
      | refine inBlockA_r ?_
      | refine inBlockA_hit ?_
      | refine inBlockA_miss rfl ?_
      | refine wpA_seq' ?_
      | refine wpA_block ?_
      | refine wpA_skip ?_
      | refine wpA_ret ?_
      | refine wpA_exit ?_
      | refine wpA_label ?_
      | refine wpA_region (fun K hK => ?_)
      | (refine runS_nil (hK _ ?_); clear hK K)
      | refine wpA_drawE (by kernel_rfl) (by kernel_rfl) (fun K hK => ?_)
      | refine runS_pure tblOk rfl rfl ⟨_, evl, _, _, _, evl, obl, ?_⟩
      | refine runS_mk tblOk rfl rfl ⟨_, evl, _, _, _, evl, obl, ?_⟩
      | refine runE_pure tblOk rfl ⟨_, evl, _, _, _, evl, obl, ?_⟩
      | refine runE_mk tblOk rfl ⟨_, evl, _, _, _, evl, obl, ?_⟩
      | refine sBox rfl rfl rfl rfl ⟨_, evl, ob1, _, evl, _, evl, ?_⟩
      | refine sAlloc tblOk rfl rfl rfl rfl ⟨_, evl, _, evl, _, evl, ?_⟩
      | refine sStore tblOk rfl rfl rfl ⟨_, _, evl, _, evl, _, evl, _, evl, ob1, _, evl, ?_⟩
      | refine runE_tail rfl (by kernel_rfl) ?_
  refine ret_of (by simp) ⟨_, _, _, evl, ob0, OutOk.eq ?_ ?_⟩
  · simp [validI]
  · simp [AV.free]
theorem few_A (l : List Change) : FnA Try.prog 10 [chL l] (.raw (.bool (decide (l.length ≤ 30)))) := by
  unfold chL
  refine fnA_of tblOk Try.func10 rfl (by kernel_rfl) 6 Try.ntmps10 (by simp only [List.length_cons, List.length_nil]; omega) [.tmp 2] rfl ?_
  simp only [entrySt, argSl, Nat.zero_add, Nat.reduceAdd]
  repeat
    first
      | refine thenA_n ?_
      | refine thenA_r ?_
      | refine thenA_e ?_
      | refine inBlockA_n ?_
      | refine inBlockA_r ?_
      | refine inBlockA_hit ?_
      | refine inBlockA_miss rfl ?_
      | refine wpA_seq' ?_
      | refine wpA_block ?_
      | refine wpA_skip ?_
      | refine wpA_ret ?_
      | refine wpA_exit ?_
      | refine wpA_label ?_
      | refine wpA_region (fun K hK => ?_)
      | (refine runS_nil (hK _ ?_); clear hK K)
      | refine wpA_drawE (by kernel_rfl) (by kernel_rfl) (fun K hK => ?_)
      | refine runS_pure tblOk rfl rfl ⟨_, evl, _, _, _, evl, obl, ?_⟩
      | refine runS_mk tblOk rfl rfl ⟨_, evl, _, _, _, evl, obl, ?_⟩
      | refine runE_pure tblOk rfl ⟨_, evl, _, _, _, evl, obl, ?_⟩
      | refine runE_mk tblOk rfl ⟨_, evl, _, _, _, evl, obl, ?_⟩
      | refine sBox rfl rfl rfl rfl ⟨_, evl, ob1, _, evl, _, evl, ?_⟩
      | refine sAlloc tblOk rfl rfl rfl rfl ⟨_, evl, _, evl, _, evl, ?_⟩
      | refine sStore tblOk rfl rfl rfl ⟨_, _, evl, _, evl, _, evl, _, evl, ob1, _, evl, ?_⟩
      | refine runE_tail rfl (by kernel_rfl) ?_
  refine ret_of (by simp) ⟨_, _, _, evl, ob0, OutOk.eq ?_ ?_⟩
  · simp; omega
  · simp [AV.free]
theorem sentR_A (c : Change) (s : Iv) : FnA Try.prog 16 [.agg c.c, .agg s.c] (.tup [.agg (sentM c s).1.c, .raw (.int .i64 (sentM c s).2)]) := by
  refine fnA_of tblOk Try.func16 rfl (by kernel_rfl) 38 Try.ntmps16 (by simp only [List.length_cons, List.length_nil]; omega) [.cell 4 26, .tmp 5] rfl ?_
  simp only [entrySt, argSl, Nat.zero_add, Nat.reduceAdd]
  repeat
    first
      | refine thenA_n ?_
      | refine thenA_r ?_
      | refine thenA_e ?_
      | refine inBlockA_n ?_
      | refine inBlockA_r ?_
      | refine inBlockA_hit ?_
      | refine inBlockA_miss rfl ?_
      | refine wpA_seq' ?_
      | refine wpA_block ?_
      | refine wpA_skip ?_
      | refine wpA_ret ?_
      | refine wpA_exit ?_
      | refine wpA_label ?_
      | refine wpA_region (fun K hK => ?_)
      | (refine runS_nil (hK _ ?_); clear hK K)
      | refine wpA_drawE (by kernel_rfl) (by kernel_rfl) (fun K hK => ?_)
      | refine runS_pure tblOk rfl rfl ⟨_, evl, _, _, _, evl, obl, ?_⟩
      | refine runS_mk tblOk rfl rfl ⟨_, evl, _, _, _, evl, obl, ?_⟩
      | (refine runS_call rfl rfl ⟨_, evl, _, _, _, evl, obl, ?_⟩; apply Exists.intro; refine ⟨fun hg => ?_, ?_⟩; · first | exact formR_A c | exact validIR_A s)
      | refine runE_pure tblOk rfl ⟨_, evl, _, _, _, evl, obl, ?_⟩
      | refine runE_mk tblOk rfl ⟨_, evl, _, _, _, evl, obl, ?_⟩
      | (refine runE_call rfl ⟨_, evl, _, _, _, evl, obl, ?_⟩; apply Exists.intro; refine ⟨fun hg => ?_, ?_⟩; · first | exact formR_A c | exact validIR_A s)
      | refine sBox rfl rfl rfl rfl ⟨_, evl, ob1, _, evl, _, evl, ?_⟩
      | refine sAlloc tblOk rfl rfl rfl rfl ⟨_, evl, _, evl, _, evl, ?_⟩
      | refine sStore tblOk rfl rfl rfl ⟨_, _, evl, _, evl, _, evl, _, evl, ob1, _, evl, ?_⟩
      | refine runE_tail rfl (by kernel_rfl) ?_
  refine wpA_cond' ⟨_, evl, ?_, ?_⟩
  · intro hb
    repeat
      first
        | refine thenA_n ?_
        | refine thenA_r ?_
        | refine thenA_e ?_
        | refine inBlockA_n ?_
        | refine inBlockA_r ?_
        | refine inBlockA_hit ?_
        | refine inBlockA_miss rfl ?_
        | refine wpA_seq' ?_
        | refine wpA_block ?_
        | refine wpA_skip ?_
        | refine wpA_ret ?_
        | refine wpA_exit ?_
        | refine wpA_label ?_
        | refine wpA_region (fun K hK => ?_)
        | (refine runS_nil (hK _ ?_); clear hK K)
        | refine wpA_drawE (by kernel_rfl) (by kernel_rfl) (fun K hK => ?_)
        | refine runS_pure tblOk rfl rfl ⟨_, evl, _, _, _, evl, obl, ?_⟩
        | refine runS_mk tblOk rfl rfl ⟨_, evl, _, _, _, evl, obl, ?_⟩
        | refine runE_pure tblOk rfl ⟨_, evl, _, _, _, evl, obl, ?_⟩
        | refine runE_mk tblOk rfl ⟨_, evl, _, _, _, evl, obl, ?_⟩
        | refine sBox rfl rfl rfl rfl ⟨_, evl, ob1, _, evl, _, evl, ?_⟩
        | refine sAlloc tblOk rfl rfl rfl rfl ⟨_, evl, _, evl, _, evl, ?_⟩
        | refine sStore tblOk rfl rfl rfl ⟨_, _, evl, _, evl, _, evl, _, evl, ob1, _, evl, ?_⟩
        | refine runE_tail rfl (by kernel_rfl) ?_
    refine ret_of (by simp) ⟨_, _, _, evl, ob0, OutOk.eq ?_ ?_⟩
    · rw [sentM, if_neg (by simp at hb; rcases hb with h | h <;> simp [h])]; rfl
    · simp [AV.free, AV.freeL]
  · intro hb
    have hf : formedM c = true ∧ validI s = true := by simpa using hb
    have h1 := (formed_iff c).1 hf.1
    have h2 := (validI_iff s).1 hf.2
    repeat
      first
        | refine thenA_n ?_
        | refine thenA_r ?_
        | refine thenA_e ?_
        | refine inBlockA_n ?_
        | refine inBlockA_r ?_
        | refine inBlockA_hit ?_
        | refine inBlockA_miss rfl ?_
        | refine wpA_seq' ?_
        | refine wpA_block ?_
        | refine wpA_skip ?_
        | refine wpA_ret ?_
        | refine wpA_exit ?_
        | refine wpA_label ?_
        | refine wpA_region (fun K hK => ?_)
        | (refine runS_nil (hK _ ?_); clear hK K)
        | refine wpA_drawE (by kernel_rfl) (by kernel_rfl) (fun K hK => ?_)
        | refine runS_pure tblOk rfl rfl ⟨_, evl, _, _, _, evl, obl, ?_⟩
        | refine runS_mk tblOk rfl rfl ⟨_, evl, _, _, _, evl, obl, ?_⟩
        | refine runE_pure tblOk rfl ⟨_, evl, _, _, _, evl, obl, ?_⟩
        | refine runE_mk tblOk rfl ⟨_, evl, _, _, _, evl, obl, ?_⟩
        | refine sBox rfl rfl rfl rfl ⟨_, evl, ob1, _, evl, _, evl, ?_⟩
        | refine sAlloc tblOk rfl rfl rfl rfl ⟨_, evl, _, evl, _, evl, ?_⟩
        | refine sStore tblOk rfl rfl rfl ⟨_, _, evl, _, evl, _, evl, _, evl, ob1, _, evl, ?_⟩
        | refine runE_tail rfl (by kernel_rfl) ?_
    refine wpA_cond' ⟨_, evl, ?_, ?_⟩
    · intro hc
      simp at hc
      repeat
        first
          | refine thenA_n ?_
          | refine thenA_r ?_
          | refine thenA_e ?_
          | refine inBlockA_n ?_
          | refine inBlockA_r ?_
          | refine inBlockA_hit ?_
          | refine inBlockA_miss rfl ?_
          | refine wpA_seq' ?_
          | refine wpA_block ?_
          | refine wpA_skip ?_
          | refine wpA_ret ?_
          | refine wpA_exit ?_
          | refine wpA_label ?_
          | refine wpA_region (fun K hK => ?_)
          | (refine runS_nil (hK _ ?_); clear hK K)
          | refine wpA_drawE (by kernel_rfl) (by kernel_rfl) (fun K hK => ?_)
          | refine runS_pure tblOk rfl rfl ⟨_, evl, _, _, _, evl, obl, ?_⟩
          | refine runS_mk tblOk rfl rfl ⟨_, evl, _, _, _, evl, obl, ?_⟩
          | refine runE_pure tblOk rfl ⟨_, evl, _, _, _, evl, obl, ?_⟩
          | refine runE_mk tblOk rfl ⟨_, evl, _, _, _, evl, obl, ?_⟩
          | refine sBox rfl rfl rfl rfl ⟨_, evl, ob1, _, evl, _, evl, ?_⟩
          | refine sAlloc tblOk rfl rfl rfl rfl ⟨_, evl, _, evl, _, evl, ?_⟩
          | refine sStore tblOk rfl rfl rfl ⟨_, _, evl, _, evl, _, evl, _, evl, ob1, _, evl, ?_⟩
          | refine runE_tail rfl (by kernel_rfl) ?_
      refine ret_of (by simp) ⟨_, _, _, evl, ob0, OutOk.eq ?_ ?_⟩
      · rw [sentM, if_pos hf, beforeM, if_pos (by omega)]; rfl
      · simp [AV.free, AV.freeL]
    · intro hc
      simp at hc
      repeat
        first
          | refine thenA_n ?_
          | refine thenA_r ?_
          | refine thenA_e ?_
          | refine inBlockA_n ?_
          | refine inBlockA_r ?_
          | refine inBlockA_hit ?_
          | refine inBlockA_miss rfl ?_
          | refine wpA_seq' ?_
          | refine wpA_block ?_
          | refine wpA_skip ?_
          | refine wpA_ret ?_
          | refine wpA_exit ?_
          | refine wpA_label ?_
          | refine wpA_region (fun K hK => ?_)
          | (refine runS_nil (hK _ ?_); clear hK K)
          | refine wpA_drawE (by kernel_rfl) (by kernel_rfl) (fun K hK => ?_)
          | refine runS_pure tblOk rfl rfl ⟨_, evl, _, _, _, evl, obl, ?_⟩
          | refine runS_mk tblOk rfl rfl ⟨_, evl, _, _, _, evl, obl, ?_⟩
          | refine runE_pure tblOk rfl ⟨_, evl, _, _, _, evl, obl, ?_⟩
          | refine runE_mk tblOk rfl ⟨_, evl, _, _, _, evl, obl, ?_⟩
          | refine sBox rfl rfl rfl rfl ⟨_, evl, ob1, _, evl, _, evl, ?_⟩
          | refine sAlloc tblOk rfl rfl rfl rfl ⟨_, evl, _, evl, _, evl, ?_⟩
          | refine sStore tblOk rfl rfl rfl ⟨_, _, evl, _, evl, _, evl, _, evl, ob1, _, evl, ?_⟩
          | refine runE_tail rfl (by kernel_rfl) ?_
      refine ret_of (by simp) ⟨_, _, _, evl, ob0, OutOk.eq ?_ ?_⟩
      · rw [sentM, if_pos hf, beforeM, if_neg (by omega)]; rfl
      · simp [AV.free, AV.freeL]
theorem gotR_A (c : Change) (s : Iv) : FnA Try.prog 18 [.agg c.c, .agg s.c] (.tup [.agg (gotM c s).1.c, .raw (.int .i64 (gotM c s).2)]) := by
  refine fnA_of tblOk Try.func18 rfl (by kernel_rfl) 37 Try.ntmps18 (by simp only [List.length_cons, List.length_nil]; omega) [.cell 4 26, .tmp 5] rfl ?_
  simp only [entrySt, argSl, Nat.zero_add, Nat.reduceAdd]
  repeat
    first
      | refine thenA_n ?_
      | refine thenA_r ?_
      | refine thenA_e ?_
      | refine inBlockA_n ?_
      | refine inBlockA_r ?_
      | refine inBlockA_hit ?_
      | refine inBlockA_miss rfl ?_
      | refine wpA_seq' ?_
      | refine wpA_block ?_
      | refine wpA_skip ?_
      | refine wpA_ret ?_
      | refine wpA_exit ?_
      | refine wpA_label ?_
      | refine wpA_region (fun K hK => ?_)
      | (refine runS_nil (hK _ ?_); clear hK K)
      | refine wpA_drawE (by kernel_rfl) (by kernel_rfl) (fun K hK => ?_)
      | refine runS_pure tblOk rfl rfl ⟨_, evl, _, _, _, evl, obl, ?_⟩
      | refine runS_mk tblOk rfl rfl ⟨_, evl, _, _, _, evl, obl, ?_⟩
      | (refine runS_call rfl rfl ⟨_, evl, _, _, _, evl, obl, ?_⟩; apply Exists.intro; refine ⟨fun hg => ?_, ?_⟩; · first | exact formR_A c | exact validIR_A s)
      | refine runE_pure tblOk rfl ⟨_, evl, _, _, _, evl, obl, ?_⟩
      | refine runE_mk tblOk rfl ⟨_, evl, _, _, _, evl, obl, ?_⟩
      | (refine runE_call rfl ⟨_, evl, _, _, _, evl, obl, ?_⟩; apply Exists.intro; refine ⟨fun hg => ?_, ?_⟩; · first | exact formR_A c | exact validIR_A s)
      | refine sBox rfl rfl rfl rfl ⟨_, evl, ob1, _, evl, _, evl, ?_⟩
      | refine sAlloc tblOk rfl rfl rfl rfl ⟨_, evl, _, evl, _, evl, ?_⟩
      | refine sStore tblOk rfl rfl rfl ⟨_, _, evl, _, evl, _, evl, _, evl, ob1, _, evl, ?_⟩
      | refine runE_tail rfl (by kernel_rfl) ?_
  refine wpA_cond' ⟨_, evl, ?_, ?_⟩
  · intro hb
    repeat
      first
        | refine thenA_n ?_
        | refine thenA_r ?_
        | refine thenA_e ?_
        | refine inBlockA_n ?_
        | refine inBlockA_r ?_
        | refine inBlockA_hit ?_
        | refine inBlockA_miss rfl ?_
        | refine wpA_seq' ?_
        | refine wpA_block ?_
        | refine wpA_skip ?_
        | refine wpA_ret ?_
        | refine wpA_exit ?_
        | refine wpA_label ?_
        | refine wpA_region (fun K hK => ?_)
        | (refine runS_nil (hK _ ?_); clear hK K)
        | refine wpA_drawE (by kernel_rfl) (by kernel_rfl) (fun K hK => ?_)
        | refine runS_pure tblOk rfl rfl ⟨_, evl, _, _, _, evl, obl, ?_⟩
        | refine runS_mk tblOk rfl rfl ⟨_, evl, _, _, _, evl, obl, ?_⟩
        | refine runE_pure tblOk rfl ⟨_, evl, _, _, _, evl, obl, ?_⟩
        | refine runE_mk tblOk rfl ⟨_, evl, _, _, _, evl, obl, ?_⟩
        | refine sBox rfl rfl rfl rfl ⟨_, evl, ob1, _, evl, _, evl, ?_⟩
        | refine sAlloc tblOk rfl rfl rfl rfl ⟨_, evl, _, evl, _, evl, ?_⟩
        | refine sStore tblOk rfl rfl rfl ⟨_, _, evl, _, evl, _, evl, _, evl, ob1, _, evl, ?_⟩
        | refine runE_tail rfl (by kernel_rfl) ?_
    refine ret_of (by simp) ⟨_, _, _, evl, ob0, OutOk.eq ?_ ?_⟩
    · rw [gotM, if_neg (by simp at hb; rcases hb with h | h <;> simp [h])]; rfl
    · simp [AV.free, AV.freeL]
  · intro hb
    have hf : formedM c = true ∧ validI s = true := by simpa using hb
    have h1 := (formed_iff c).1 hf.1
    have h2 := (validI_iff s).1 hf.2
    repeat
      first
        | refine thenA_n ?_
        | refine thenA_r ?_
        | refine thenA_e ?_
        | refine inBlockA_n ?_
        | refine inBlockA_r ?_
        | refine inBlockA_hit ?_
        | refine inBlockA_miss rfl ?_
        | refine wpA_seq' ?_
        | refine wpA_block ?_
        | refine wpA_skip ?_
        | refine wpA_ret ?_
        | refine wpA_exit ?_
        | refine wpA_label ?_
        | refine wpA_region (fun K hK => ?_)
        | (refine runS_nil (hK _ ?_); clear hK K)
        | refine wpA_drawE (by kernel_rfl) (by kernel_rfl) (fun K hK => ?_)
        | refine runS_pure tblOk rfl rfl ⟨_, evl, _, _, _, evl, obl, ?_⟩
        | refine runS_mk tblOk rfl rfl ⟨_, evl, _, _, _, evl, obl, ?_⟩
        | refine runE_pure tblOk rfl ⟨_, evl, _, _, _, evl, obl, ?_⟩
        | refine runE_mk tblOk rfl ⟨_, evl, _, _, _, evl, obl, ?_⟩
        | refine sBox rfl rfl rfl rfl ⟨_, evl, ob1, _, evl, _, evl, ?_⟩
        | refine sAlloc tblOk rfl rfl rfl rfl ⟨_, evl, _, evl, _, evl, ?_⟩
        | refine sStore tblOk rfl rfl rfl ⟨_, _, evl, _, evl, _, evl, _, evl, ob1, _, evl, ?_⟩
        | refine runE_tail rfl (by kernel_rfl) ?_
    refine wpA_cond' ⟨_, evl, ?_, ?_⟩
    · intro hc
      simp at hc
      repeat
        first
          | refine thenA_n ?_
          | refine thenA_r ?_
          | refine thenA_e ?_
          | refine inBlockA_n ?_
          | refine inBlockA_r ?_
          | refine inBlockA_hit ?_
          | refine inBlockA_miss rfl ?_
          | refine wpA_seq' ?_
          | refine wpA_block ?_
          | refine wpA_skip ?_
          | refine wpA_ret ?_
          | refine wpA_exit ?_
          | refine wpA_label ?_
          | refine wpA_region (fun K hK => ?_)
          | (refine runS_nil (hK _ ?_); clear hK K)
          | refine wpA_drawE (by kernel_rfl) (by kernel_rfl) (fun K hK => ?_)
          | refine runS_pure tblOk rfl rfl ⟨_, evl, _, _, _, evl, obl, ?_⟩
          | refine runS_mk tblOk rfl rfl ⟨_, evl, _, _, _, evl, obl, ?_⟩
          | refine runE_pure tblOk rfl ⟨_, evl, _, _, _, evl, obl, ?_⟩
          | refine runE_mk tblOk rfl ⟨_, evl, _, _, _, evl, obl, ?_⟩
          | refine sBox rfl rfl rfl rfl ⟨_, evl, ob1, _, evl, _, evl, ?_⟩
          | refine sAlloc tblOk rfl rfl rfl rfl ⟨_, evl, _, evl, _, evl, ?_⟩
          | refine sStore tblOk rfl rfl rfl ⟨_, _, evl, _, evl, _, evl, _, evl, ob1, _, evl, ?_⟩
          | refine runE_tail rfl (by kernel_rfl) ?_
      refine ret_of (by simp) ⟨_, _, _, evl, ob0, OutOk.eq ?_ ?_⟩
      · rw [gotM, if_pos hf, if_pos hc]; rfl
      · simp [AV.free, AV.freeL]
    · intro hc
      simp at hc
      repeat
        first
          | refine thenA_n ?_
          | refine thenA_r ?_
          | refine thenA_e ?_
          | refine inBlockA_n ?_
          | refine inBlockA_r ?_
          | refine inBlockA_hit ?_
          | refine inBlockA_miss rfl ?_
          | refine wpA_seq' ?_
          | refine wpA_block ?_
          | refine wpA_skip ?_
          | refine wpA_ret ?_
          | refine wpA_exit ?_
          | refine wpA_label ?_
          | refine wpA_region (fun K hK => ?_)
          | (refine runS_nil (hK _ ?_); clear hK K)
          | refine wpA_drawE (by kernel_rfl) (by kernel_rfl) (fun K hK => ?_)
          | refine runS_pure tblOk rfl rfl ⟨_, evl, _, _, _, evl, obl, ?_⟩
          | refine runS_mk tblOk rfl rfl ⟨_, evl, _, _, _, evl, obl, ?_⟩
          | refine runE_pure tblOk rfl ⟨_, evl, _, _, _, evl, obl, ?_⟩
          | refine runE_mk tblOk rfl ⟨_, evl, _, _, _, evl, obl, ?_⟩
          | refine sBox rfl rfl rfl rfl ⟨_, evl, ob1, _, evl, _, evl, ?_⟩
          | refine sAlloc tblOk rfl rfl rfl rfl ⟨_, evl, _, evl, _, evl, ?_⟩
          | refine sStore tblOk rfl rfl rfl ⟨_, _, evl, _, evl, _, evl, _, evl, ob1, _, evl, ?_⟩
          | refine runE_tail rfl (by kernel_rfl) ?_
      refine ret_of (by simp) ⟨_, _, _, evl, ob0, OutOk.eq ?_ ?_⟩
      · rw [gotM, if_pos hf, if_neg (by omega)]; rfl
      · simp [AV.free, AV.freeL]
theorem roundR_A (c : Change) (s : Iv) (e : Rg) : FnA Try.prog 20 [.agg c.c, .agg s.c, .agg e.c] (.tup [.agg (roundM c s e).1.c, .raw (.int .i64 (roundM c s e).2)]) := by
  refine fnA_of tblOk Try.func20 rfl (by kernel_rfl) 77 Try.ntmps20 (by simp only [List.length_cons, List.length_nil]; omega) [.cell 6 26, .tmp 7] rfl ?_
  simp only [entrySt, argSl, Nat.zero_add, Nat.reduceAdd]
  repeat
    first
      | refine thenA_n ?_
      | refine thenA_r ?_
      | refine thenA_e ?_
      | refine inBlockA_n ?_
      | refine inBlockA_r ?_
      | refine inBlockA_hit ?_
      | refine inBlockA_miss rfl ?_
      | refine wpA_seq' ?_
      | refine wpA_block ?_
      | refine wpA_skip ?_
      | refine wpA_ret ?_
      | refine wpA_exit ?_
      | refine wpA_label ?_
      | refine wpA_region (fun K hK => ?_)
      | (refine runS_nil (hK _ ?_); clear hK K)
      | refine wpA_drawE (by kernel_rfl) (by kernel_rfl) (fun K hK => ?_)
      | refine runS_pure tblOk rfl rfl ⟨_, evl, _, _, _, evl, obl, ?_⟩
      | refine runS_mk tblOk rfl rfl ⟨_, evl, _, _, _, evl, obl, ?_⟩
      | (refine runS_call rfl rfl ⟨_, evl, _, _, _, evl, obl, ?_⟩; apply Exists.intro; refine ⟨fun hg => ?_, ?_⟩; · first | exact formR_A c | exact validIR_A s)
      | refine runE_pure tblOk rfl ⟨_, evl, _, _, _, evl, obl, ?_⟩
      | refine runE_mk tblOk rfl ⟨_, evl, _, _, _, evl, obl, ?_⟩
      | (refine runE_call rfl ⟨_, evl, _, _, _, evl, obl, ?_⟩; apply Exists.intro; refine ⟨fun hg => ?_, ?_⟩; · first | exact formR_A c | exact validIR_A s)
      | refine sBox rfl rfl rfl rfl ⟨_, evl, ob1, _, evl, _, evl, ?_⟩
      | refine sAlloc tblOk rfl rfl rfl rfl ⟨_, evl, _, evl, _, evl, ?_⟩
      | refine sStore tblOk rfl rfl rfl ⟨_, _, evl, _, evl, _, evl, _, evl, ob1, _, evl, ?_⟩
      | refine runE_tail rfl (by kernel_rfl) ?_
  refine wpA_cond' ⟨_, evl, ?_, ?_⟩
  · intro hb
    repeat
      first
        | refine thenA_n ?_
        | refine thenA_r ?_
        | refine thenA_e ?_
        | refine inBlockA_n ?_
        | refine inBlockA_r ?_
        | refine inBlockA_hit ?_
        | refine inBlockA_miss rfl ?_
        | refine wpA_seq' ?_
        | refine wpA_block ?_
        | refine wpA_skip ?_
        | refine wpA_ret ?_
        | refine wpA_exit ?_
        | refine wpA_label ?_
        | refine wpA_region (fun K hK => ?_)
        | (refine runS_nil (hK _ ?_); clear hK K)
        | refine wpA_drawE (by kernel_rfl) (by kernel_rfl) (fun K hK => ?_)
        | refine runS_pure tblOk rfl rfl ⟨_, evl, _, _, _, evl, obl, ?_⟩
        | refine runS_mk tblOk rfl rfl ⟨_, evl, _, _, _, evl, obl, ?_⟩
        | refine runE_pure tblOk rfl ⟨_, evl, _, _, _, evl, obl, ?_⟩
        | refine runE_mk tblOk rfl ⟨_, evl, _, _, _, evl, obl, ?_⟩
        | refine sBox rfl rfl rfl rfl ⟨_, evl, ob1, _, evl, _, evl, ?_⟩
        | refine sAlloc tblOk rfl rfl rfl rfl ⟨_, evl, _, evl, _, evl, ?_⟩
        | refine sStore tblOk rfl rfl rfl ⟨_, _, evl, _, evl, _, evl, _, evl, ob1, _, evl, ?_⟩
        | refine runE_tail rfl (by kernel_rfl) ?_
    refine ret_of (by simp) ⟨_, _, _, evl, ob0, OutOk.eq ?_ ?_⟩
    · rw [roundM, if_neg (by
        rintro ⟨h1, h2, h3, h4, h5⟩
        simp [h1, h2] at hb
        omega)]; rfl
    · simp [AV.free, AV.freeL]
  · intro hb
    have hf : formedM c = true ∧ validI s = true ∧ elapsedOk e := by
      simp at hb
      exact ⟨hb.1.1.1.1, hb.1.1.1.2, hb.1.1.2, hb.1.2, hb.2⟩
    have h1 := (formed_iff c).1 hf.1
    have h2 := (validI_iff s).1 hf.2.1
    obtain ⟨h3, h4, h5⟩ := hf.2.2
    repeat
      first
        | refine thenA_n ?_
        | refine thenA_r ?_
        | refine thenA_e ?_
        | refine inBlockA_n ?_
        | refine inBlockA_r ?_
        | refine inBlockA_hit ?_
        | refine inBlockA_miss rfl ?_
        | refine wpA_seq' ?_
        | refine wpA_block ?_
        | refine wpA_skip ?_
        | refine wpA_ret ?_
        | refine wpA_exit ?_
        | refine wpA_label ?_
        | refine wpA_region (fun K hK => ?_)
        | (refine runS_nil (hK _ ?_); clear hK K)
        | refine wpA_drawE (by kernel_rfl) (by kernel_rfl) (fun K hK => ?_)
        | refine runS_pure tblOk rfl rfl ⟨_, evl, _, _, _, evl, obl, ?_⟩
        | refine runS_mk tblOk rfl rfl ⟨_, evl, _, _, _, evl, obl, ?_⟩
        | refine runE_pure tblOk rfl ⟨_, evl, _, _, _, evl, obl, ?_⟩
        | refine runE_mk tblOk rfl ⟨_, evl, _, _, _, evl, obl, ?_⟩
        | refine sBox rfl rfl rfl rfl ⟨_, evl, ob1, _, evl, _, evl, ?_⟩
        | refine sAlloc tblOk rfl rfl rfl rfl ⟨_, evl, _, evl, _, evl, ?_⟩
        | refine sStore tblOk rfl rfl rfl ⟨_, _, evl, _, evl, _, evl, _, evl, ob1, _, evl, ?_⟩
        | refine runE_tail rfl (by kernel_rfl) ?_
    refine wpA_cond' ⟨_, evl, ?_, ?_⟩
    · intro hc
      simp at hc
      repeat
        first
          | refine thenA_n ?_
          | refine thenA_r ?_
          | refine thenA_e ?_
          | refine inBlockA_n ?_
          | refine inBlockA_r ?_
          | refine inBlockA_hit ?_
          | refine inBlockA_miss rfl ?_
          | refine wpA_seq' ?_
          | refine wpA_block ?_
          | refine wpA_skip ?_
          | refine wpA_ret ?_
          | refine wpA_exit ?_
          | refine wpA_label ?_
          | refine wpA_region (fun K hK => ?_)
          | (refine runS_nil (hK _ ?_); clear hK K)
          | refine wpA_drawE (by kernel_rfl) (by kernel_rfl) (fun K hK => ?_)
          | refine runS_pure tblOk rfl rfl ⟨_, evl, _, _, _, evl, obl, ?_⟩
          | refine runS_mk tblOk rfl rfl ⟨_, evl, _, _, _, evl, obl, ?_⟩
          | refine runE_pure tblOk rfl ⟨_, evl, _, _, _, evl, obl, ?_⟩
          | refine runE_mk tblOk rfl ⟨_, evl, _, _, _, evl, obl, ?_⟩
          | refine sBox rfl rfl rfl rfl ⟨_, evl, ob1, _, evl, _, evl, ?_⟩
          | refine sAlloc tblOk rfl rfl rfl rfl ⟨_, evl, _, evl, _, evl, ?_⟩
          | refine sStore tblOk rfl rfl rfl ⟨_, _, evl, _, evl, _, evl, _, evl, ob1, _, evl, ?_⟩
          | refine runE_tail rfl (by kernel_rfl) ?_
      refine ret_of (by simp) ⟨_, _, _, evl, ob0, OutOk.eq ?_ ?_⟩
      · rw [roundM, if_pos hf, beforeM, if_pos (by omega)]; rfl
      · simp [AV.free, AV.freeL]
    · intro hc
      simp at hc
      repeat
        first
          | refine thenA_n ?_
          | refine thenA_r ?_
          | refine thenA_e ?_
          | refine inBlockA_n ?_
          | refine inBlockA_r ?_
          | refine inBlockA_hit ?_
          | refine inBlockA_miss rfl ?_
          | refine wpA_seq' ?_
          | refine wpA_block ?_
          | refine wpA_skip ?_
          | refine wpA_ret ?_
          | refine wpA_exit ?_
          | refine wpA_label ?_
          | refine wpA_region (fun K hK => ?_)
          | (refine runS_nil (hK _ ?_); clear hK K)
          | refine wpA_drawE (by kernel_rfl) (by kernel_rfl) (fun K hK => ?_)
          | refine runS_pure tblOk rfl rfl ⟨_, evl, _, _, _, evl, obl, ?_⟩
          | refine runS_mk tblOk rfl rfl ⟨_, evl, _, _, _, evl, obl, ?_⟩
          | refine runE_pure tblOk rfl ⟨_, evl, _, _, _, evl, obl, ?_⟩
          | refine runE_mk tblOk rfl ⟨_, evl, _, _, _, evl, obl, ?_⟩
          | refine sBox rfl rfl rfl rfl ⟨_, evl, ob1, _, evl, _, evl, ?_⟩
          | refine sAlloc tblOk rfl rfl rfl rfl ⟨_, evl, _, evl, _, evl, ?_⟩
          | refine sStore tblOk rfl rfl rfl ⟨_, _, evl, _, evl, _, evl, _, evl, ob1, _, evl, ?_⟩
          | refine runE_tail rfl (by kernel_rfl) ?_
      refine ret_of (by simp) ⟨_, _, _, evl, ob0, OutOk.eq ?_ ?_⟩
      · rw [roundM, if_pos hf, beforeM, if_neg (by omega)]; rfl
      · simp [AV.free, AV.freeL]
end Go.Proofs.Yticlpcgkaffdmaa
