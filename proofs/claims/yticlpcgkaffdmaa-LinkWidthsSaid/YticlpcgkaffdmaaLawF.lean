/- The statement LinkTight, walked. -/
import Derived.Test.YticlpcgkaffdmaaLawC
import Derived.Test.YticlpcgkaffdmaaAlMore
namespace Go.Proofs.Yticlpcgkaffdmaa
set_option linter.unusedSectionVars false
set_option linter.unusedVariables false
set_option linter.unusedSimpArgs false
open Go.RowKit
theorem chunk2 (x y : Int) : ∀ i, i < 2 → chunkA 1 [.raw (.int .i64 x), .raw (.int .i64 y)] i = [.raw (.int .i64 (gD [x, y] i))]
  | 0, _ => rfl
  | 1, _ => rfl
theorem chunk3 (x y z : Int) : ∀ i, i < 3 → chunkA 1 [.raw (.int .i64 x), .raw (.int .i64 y), .raw (.int .i64 z)] i = [.raw (.int .i64 (gD [x, y, z] i))]
  | 0, _ => rfl
  | 1, _ => rfl
  | 2, _ => rfl
theorem some2_A (x y z w : Int) (h : x ≤ z ∧ x ≤ w ∧ y ≤ z ∧ y ≤ w) : FnA Try.prog 24 [.lst 1 2 (chunkA 1 [.raw (.int .i64 x), .raw (.int .i64 y)]), .lst 1 2 (chunkA 1 [.raw (.int .i64 z), .raw (.int .i64 w)])] (.raw (.bool true)) := by
  have := some_A [x, y] [z, w] (by simp) (by simp)
  rw [decide_eq_true (p := someP [x, y] [z, w]) (by
    intro i hi j hj
    simp only [List.length_cons, List.length_nil] at hi hj
    match i, hi, j, hj with
    | 0, _, 0, _ => exact h.1
    | 0, _, 1, _ => exact h.2.1
    | 1, _, 0, _ => exact h.2.2.1
    | 1, _, 1, _ => exact h.2.2.2)] at this
  exact this.lst01 (chunk2 x y) (chunk2 z w)
theorem some3_A (x y z u v w : Int) (h : (x ≤ u ∧ x ≤ v ∧ x ≤ w) ∧ (y ≤ u ∧ y ≤ v ∧ y ≤ w) ∧ (z ≤ u ∧ z ≤ v ∧ z ≤ w)) : FnA Try.prog 24 [.lst 1 3 (chunkA 1 [.raw (.int .i64 x), .raw (.int .i64 y), .raw (.int .i64 z)]), .lst 1 3 (chunkA 1 [.raw (.int .i64 u), .raw (.int .i64 v), .raw (.int .i64 w)])] (.raw (.bool true)) := by
  have := some_A [x, y, z] [u, v, w] (by simp) (by simp)
  rw [decide_eq_true (p := someP [x, y, z] [u, v, w]) (by
    intro i hi j hj
    simp only [List.length_cons, List.length_nil] at hi hj
    obtain ⟨⟨h1, h2, h3⟩, ⟨h4, h5, h6⟩, h7, h8, h9⟩ := h
    match i, hi, j, hj with
    | 0, _, 0, _ => exact h1
    | 0, _, 1, _ => exact h2
    | 0, _, 2, _ => exact h3
    | 1, _, 0, _ => exact h4
    | 1, _, 1, _ => exact h5
    | 1, _, 2, _ => exact h6
    | 2, _, 0, _ => exact h7
    | 2, _, 1, _ => exact h8
    | 2, _, 2, _ => exact h9)] at this
  exact this.lst01 (chunk3 x y z) (chunk3 u v w)
theorem placeM_in {i : Iv} (n : Int) (h : i.lo ≤ i.hi) : i.lo ≤ placeM i n ∧ placeM i n ≤ i.hi := by
  have h1 := Int.emod_nonneg n (b := i.hi - i.lo + 1) (by omega)
  have h2 := Int.emod_lt_of_pos n (b := i.hi - i.lo + 1) (by omega)
  unfold placeM
  omega
theorem beforeM_inv {s : Iv} {lo hi : Int} (h : (beforeM s lo hi).2 = 0) : lo ≤ hi ∧ lo ≤ s.hi ∧ beforeM s lo hi = (⟨max 0 (s.lo - hi), s.hi - lo⟩, 0) := by
  unfold beforeM at h ⊢
  split at h
  · simp at h
  · rename_i hc
    rw [if_neg hc]
    exact ⟨by omega, by omega, rfl⟩
theorem sentM_inv {c : Change} {s : Iv} (h : (sentM c s).2 = 0) : formedM c = true ∧ validI s = true ∧ c.outLo ≤ s.hi ∧ sentM c s = (⟨max 0 (s.lo - c.outHi), s.hi - c.outLo⟩, 0) := by
  unfold sentM at h ⊢
  split at h
  · rename_i hc
    rw [if_pos hc]
    obtain ⟨h1, h2, h3⟩ := beforeM_inv h
    exact ⟨hc.1, hc.2, h2, h3⟩
  · simp at h
theorem gotM_inv {c : Change} {s : Iv} (h : (gotM c s).2 = 0) : formedM c = true ∧ validI s = true ∧ s.hi + c.backHi ≤ 3000000000000000 ∧ gotM c s = (⟨s.lo + c.backLo, s.hi + c.backHi⟩, 0) := by
  unfold gotM at h ⊢
  split at h
  · rename_i hc
    rw [if_pos hc]
    split at h
    · simp at h
    · rename_i hd
      rw [if_neg hd]
      exact ⟨hc.1, hc.2, by omega, rfl⟩
  · simp at h
theorem roundM_inv {c : Change} {s : Iv} {e : Rg} (h : (roundM c s e).2 = 0) : formedM c = true ∧ validI s = true ∧ elapsedOk e ∧ max c.outLo (e.lo - c.backHi) ≤ min c.outHi (e.hi - c.backLo) ∧ max c.outLo (e.lo - c.backHi) ≤ s.hi ∧
    roundM c s e = (⟨max 0 (s.lo - min c.outHi (e.hi - c.backLo)), s.hi - max c.outLo (e.lo - c.backHi)⟩, 0) := by
  unfold roundM at h ⊢
  split at h
  · rename_i hc
    rw [if_pos hc]
    obtain ⟨h1, h2, h3⟩ := beforeM_inv h
    exact ⟨hc.1, hc.2.1, hc.2.2, h1, h2, h3⟩
  · simp at h
set_option maxRecDepth 100000 in
set_option maxHeartbeats 4000000 in
theorem linkTight_A (c : Change) (s : Iv) (e : Rg) (n : Int) (hn : inK .i64 n) (hs : ∀ x ∈ [s.lo, s.hi, e.lo, e.hi], inK .i64 x) : FnA Try.prog 5 [.agg c.c, .agg s.c, .agg e.c, .raw (.int .i64 n)] (.raw (.bool true)) := by
  have s1 := sent_A c s
  have g1 := got_A c s
  have r1 := round_A c s e
  have si := sentM_inv (c := c) (s := s)
  have gi := gotM_inv (c := c) (s := s)
  have ri := roundM_inv (c := c) (s := s) (e := e)
  generalize hS : sentM c s = S at s1 si
  generalize hX : gotM c s = X at g1 gi
  generalize hR : roundM c s e = R at r1 ri
  refine fnA_of tblOk Try.func5 rfl (by kernel_rfl) 143 Try.ntmps5 (by simp only [List.length_cons, List.length_nil]; omega) [.tmp 8] rfl ?_
  simp only [entrySt, argSl, Nat.zero_add, Nat.reduceAdd]
  repeat
    first
      | refine thenA_n ?_
      | refine thenA_r ?_
      | refine thenA_e ?_
      | refine inBlockA_n ?_
      | refine inBlockA_r ?_
      | refine inBlockA_hit ?_
      | refine inBlockA_miss rfl ?_
      | refine wpA_seq' ?_
      | refine wpA_block ?_
      | refine wpA_skip ?_
      | refine wpA_ret ?_
      | refine wpA_exit ?_
      | refine wpA_label ?_
      | refine wpA_region (fun K hK => ?_)
      | (refine runS_nil (hK _ ?_); clear hK K)
      | refine wpA_drawE (by kernel_rfl) (by kernel_rfl) (fun K hK => ?_)
      | refine runS_pure tblOk rfl rfl ⟨_, evl, _, _, _, evl, obl, ?_⟩
      | refine runS_mk tblOk rfl rfl ⟨_, evl, _, _, _, evl, obl, ?_⟩
      | (refine runS_call rfl rfl ⟨_, evl, _, _, _, evl, obl, ?_⟩; apply Exists.intro; refine ⟨fun hg => ?_, ?_⟩; · first | exact head_A | exact s1)
      | refine runE_pure tblOk rfl ⟨_, evl, _, _, _, evl, obl, ?_⟩
      | refine runE_mk tblOk rfl ⟨_, evl, _, _, _, evl, obl, ?_⟩
      | (refine runE_call rfl ⟨_, evl, _, _, _, evl, obl, ?_⟩; apply Exists.intro; refine ⟨fun hg => ?_, ?_⟩; · first | exact head_A | exact s1)
      | refine sBox rfl rfl rfl rfl ⟨_, evl, ob1, _, evl, _, evl, ?_⟩
      | refine sAlloc tblOk rfl rfl rfl rfl ⟨_, evl, _, evl, _, evl, ?_⟩
      | refine sStore tblOk rfl rfl rfl ⟨_, _, evl, _, evl, _, evl, _, evl, ob1, _, evl, ?_⟩
      | refine runE_tail rfl (by kernel_rfl) ?_
  refine wpA_join ⟨143, 0, [(9, true, .raw (.bool true)), (3, true, .raw (.int .i64 n)), (4, true, .box 0 0), (5, true, .box 1 0), (6, true, .box 2 0)], [c.c, s.c, e.c], [], ((0, []), [], true)⟩ ?_ ?_
  · refine wpA_cond' ⟨_, evl, ?_, ?_⟩
    · intro hb
      obtain ⟨h1, h2, h3, rfl⟩ := si (by simpa using hb)
      have h4 := (formed_iff c).1 h1
      have h5 := (validI_iff s).1 h2
      have h6 := placeM_in (i := ⟨max 0 (s.lo - c.outHi), s.hi - c.outLo⟩) n (by simp only; omega)
      have p1 := place_A ⟨max 0 (s.lo - c.outHi), s.hi - c.outLo⟩ n (by simp only; omega) hn
      generalize placeM ⟨max 0 (s.lo - c.outHi), s.hi - c.outLo⟩ n = p at h6 p1
      simp only at h6
      repeat
        first
          | refine thenA_n ?_
          | refine thenA_r ?_
          | refine thenA_e ?_
          | refine inBlockA_n ?_
          | refine inBlockA_r ?_
          | refine inBlockA_hit ?_
          | refine inBlockA_miss rfl ?_
          | refine wpA_seq' ?_
          | refine wpA_block ?_
          | refine wpA_skip ?_
          | refine wpA_ret ?_
          | refine wpA_exit ?_
          | refine wpA_label ?_
          | refine wpA_region (fun K hK => ?_)
          | (refine runS_nil (hK _ ?_); clear hK K)
          | refine wpA_drawE (by kernel_rfl) (by kernel_rfl) (fun K hK => ?_)
          | refine runS_pure tblOk rfl rfl ⟨_, evl, _, _, _, evl, obl, ?_⟩
          | refine runS_mk tblOk rfl rfl ⟨_, evl, _, _, _, evl, obl, ?_⟩
          | (refine runS_call rfl rfl ⟨_, evl, _, _, _, evl, obl, ?_⟩; apply Exists.intro; refine ⟨fun hg => ?_, ?_⟩; · first | exact p1 | exact some2_A _ _ _ _ (by omega))
          | refine runE_pure tblOk rfl ⟨_, evl, _, _, _, evl, obl, ?_⟩
          | refine runE_mk tblOk rfl ⟨_, evl, _, _, _, evl, obl, ?_⟩
          | (refine runE_call rfl ⟨_, evl, _, _, _, evl, obl, ?_⟩; apply Exists.intro; refine ⟨fun hg => ?_, ?_⟩; · first | exact p1 | exact some2_A _ _ _ _ (by omega))
          | refine sBox rfl rfl rfl rfl ⟨_, evl, ob1, _, evl, _, evl, ?_⟩
          | refine sAlloc tblOk rfl rfl rfl rfl ⟨_, evl, _, evl, _, evl, ?_⟩
          | refine sStore tblOk rfl rfl rfl ⟨_, _, evl, _, evl, _, evl, _, evl, ob1, _, evl, ?_⟩
          | refine runE_tail rfl (by kernel_rfl) ?_
      refine Weak.mk rfl ?_ ?_
      rotate_left
      · simp [belS, belB, AV.bel, AV.belL, go_sem]
      (try simp only [SubSl, lookN_cons, ↓reduceIte, Nat.reduceEqDiff, and_true, true_and, Option.some.injEq, Prod.mk.injEq, AV.raw.injEq, Value.int.injEq, Value.bool.injEq])
      all_goals ((repeat' apply And.intro) <;> first | rfl | omega | (simp; done) | (simp; omega))
    · intro hb
      repeat
        first
          | refine thenA_n ?_
          | refine thenA_r ?_
          | refine thenA_e ?_
          | refine inBlockA_n ?_
          | refine inBlockA_r ?_
          | refine inBlockA_hit ?_
          | refine inBlockA_miss rfl ?_
          | refine wpA_seq' ?_
          | refine wpA_block ?_
          | refine wpA_skip ?_
          | refine wpA_ret ?_
          | refine wpA_exit ?_
          | refine wpA_label ?_
          | refine wpA_region (fun K hK => ?_)
          | (refine runS_nil (hK _ ?_); clear hK K)
          | refine wpA_drawE (by kernel_rfl) (by kernel_rfl) (fun K hK => ?_)
          | refine runS_pure tblOk rfl rfl ⟨_, evl, _, _, _, evl, obl, ?_⟩
          | refine runS_mk tblOk rfl rfl ⟨_, evl, _, _, _, evl, obl, ?_⟩
          | refine runE_pure tblOk rfl ⟨_, evl, _, _, _, evl, obl, ?_⟩
          | refine runE_mk tblOk rfl ⟨_, evl, _, _, _, evl, obl, ?_⟩
          | refine sBox rfl rfl rfl rfl ⟨_, evl, ob1, _, evl, _, evl, ?_⟩
          | refine sAlloc tblOk rfl rfl rfl rfl ⟨_, evl, _, evl, _, evl, ?_⟩
          | refine sStore tblOk rfl rfl rfl ⟨_, _, evl, _, evl, _, evl, _, evl, ob1, _, evl, ?_⟩
          | refine runE_tail rfl (by kernel_rfl) ?_
      refine Weak.mk rfl ?_ ?_
      rotate_left
      · simp [belS, belB, AV.bel, AV.belL, go_sem]
      (try simp only [SubSl, lookN_cons, ↓reduceIte, Nat.reduceEqDiff, and_true, true_and, Option.some.injEq, Prod.mk.injEq, AV.raw.injEq, Value.int.injEq, Value.bool.injEq])
      all_goals ((repeat' apply And.intro) <;> first | rfl | omega | (simp; done) | (simp; omega))
  clear si hS s1
  repeat
    first
      | refine thenA_n ?_
      | refine thenA_r ?_
      | refine thenA_e ?_
      | refine inBlockA_n ?_
      | refine inBlockA_r ?_
      | refine inBlockA_hit ?_
      | refine inBlockA_miss rfl ?_
      | refine wpA_seq' ?_
      | refine wpA_block ?_
      | refine wpA_skip ?_
      | refine wpA_ret ?_
      | refine wpA_exit ?_
      | refine wpA_label ?_
      | refine wpA_region (fun K hK => ?_)
      | (refine runS_nil (hK _ ?_); clear hK K)
      | refine wpA_drawE (by kernel_rfl) (by kernel_rfl) (fun K hK => ?_)
      | refine runS_pure tblOk rfl rfl ⟨_, evl, _, _, _, evl, obl, ?_⟩
      | refine runS_mk tblOk rfl rfl ⟨_, evl, _, _, _, evl, obl, ?_⟩
      | (refine runS_call rfl rfl ⟨_, evl, _, _, _, evl, obl, ?_⟩; apply Exists.intro; refine ⟨fun hg => ?_, ?_⟩; · first | exact g1)
      | refine runE_pure tblOk rfl ⟨_, evl, _, _, _, evl, obl, ?_⟩
      | refine runE_mk tblOk rfl ⟨_, evl, _, _, _, evl, obl, ?_⟩
      | (refine runE_call rfl ⟨_, evl, _, _, _, evl, obl, ?_⟩; apply Exists.intro; refine ⟨fun hg => ?_, ?_⟩; · first | exact g1)
      | refine sBox rfl rfl rfl rfl ⟨_, evl, ob1, _, evl, _, evl, ?_⟩
      | refine sAlloc tblOk rfl rfl rfl rfl ⟨_, evl, _, evl, _, evl, ?_⟩
      | refine sStore tblOk rfl rfl rfl ⟨_, _, evl, _, evl, _, evl, _, evl, ob1, _, evl, ?_⟩
      | refine runE_tail rfl (by kernel_rfl) ?_
  refine wpA_join ⟨143, 0, [(9, true, .raw (.bool true)), (3, true, .raw (.int .i64 n)), (4, true, .box 0 0), (5, true, .box 1 0), (6, true, .box 2 0)], [c.c, s.c, e.c], [], ((0, []), [], true)⟩ ?_ ?_
  · refine wpA_cond' ⟨_, evl, ?_, ?_⟩
    · intro hb
      obtain ⟨h1, h2, h3, rfl⟩ := gi (by simpa using hb)
      have h4 := (formed_iff c).1 h1
      have h5 := (validI_iff s).1 h2
      have h6 := placeM_in (i := ⟨s.lo + c.backLo, s.hi + c.backHi⟩) n (by simp only; omega)
      have p1 := place_A ⟨s.lo + c.backLo, s.hi + c.backHi⟩ n (by simp only; omega) hn
      generalize placeM ⟨s.lo + c.backLo, s.hi + c.backHi⟩ n = p at h6 p1
      simp only at h6
      repeat
        first
          | refine thenA_n ?_
          | refine thenA_r ?_
          | refine thenA_e ?_
          | refine inBlockA_n ?_
          | refine inBlockA_r ?_
          | refine inBlockA_hit ?_
          | refine inBlockA_miss rfl ?_
          | refine wpA_seq' ?_
          | refine wpA_block ?_
          | refine wpA_skip ?_
          | refine wpA_ret ?_
          | refine wpA_exit ?_
          | refine wpA_label ?_
          | refine wpA_region (fun K hK => ?_)
          | (refine runS_nil (hK _ ?_); clear hK K)
          | refine wpA_drawE (by kernel_rfl) (by kernel_rfl) (fun K hK => ?_)
          | refine runS_pure tblOk rfl rfl ⟨_, evl, _, _, _, evl, obl, ?_⟩
          | refine runS_mk tblOk rfl rfl ⟨_, evl, _, _, _, evl, obl, ?_⟩
          | (refine runS_call rfl rfl ⟨_, evl, _, _, _, evl, obl, ?_⟩; apply Exists.intro; refine ⟨fun hg => ?_, ?_⟩; · first | exact p1 | exact some2_A _ _ _ _ (by omega))
          | refine runE_pure tblOk rfl ⟨_, evl, _, _, _, evl, obl, ?_⟩
          | refine runE_mk tblOk rfl ⟨_, evl, _, _, _, evl, obl, ?_⟩
          | (refine runE_call rfl ⟨_, evl, _, _, _, evl, obl, ?_⟩; apply Exists.intro; refine ⟨fun hg => ?_, ?_⟩; · first | exact p1 | exact some2_A _ _ _ _ (by omega))
          | refine sBox rfl rfl rfl rfl ⟨_, evl, ob1, _, evl, _, evl, ?_⟩
          | refine sAlloc tblOk rfl rfl rfl rfl ⟨_, evl, _, evl, _, evl, ?_⟩
          | refine sStore tblOk rfl rfl rfl ⟨_, _, evl, _, evl, _, evl, _, evl, ob1, _, evl, ?_⟩
          | refine runE_tail rfl (by kernel_rfl) ?_
      refine Weak.mk rfl ?_ ?_
      rotate_left
      · simp [belS, belB, AV.bel, AV.belL, go_sem]
      (try simp only [SubSl, lookN_cons, ↓reduceIte, Nat.reduceEqDiff, and_true, true_and, Option.some.injEq, Prod.mk.injEq, AV.raw.injEq, Value.int.injEq, Value.bool.injEq])
      all_goals ((repeat' apply And.intro) <;> first | rfl | omega | (simp; done) | (simp; omega))
    · intro hb
      repeat
        first
          | refine thenA_n ?_
          | refine thenA_r ?_
          | refine thenA_e ?_
          | refine inBlockA_n ?_
          | refine inBlockA_r ?_
          | refine inBlockA_hit ?_
          | refine inBlockA_miss rfl ?_
          | refine wpA_seq' ?_
          | refine wpA_block ?_
          | refine wpA_skip ?_
          | refine wpA_ret ?_
          | refine wpA_exit ?_
          | refine wpA_label ?_
          | refine wpA_region (fun K hK => ?_)
          | (refine runS_nil (hK _ ?_); clear hK K)
          | refine wpA_drawE (by kernel_rfl) (by kernel_rfl) (fun K hK => ?_)
          | refine runS_pure tblOk rfl rfl ⟨_, evl, _, _, _, evl, obl, ?_⟩
          | refine runS_mk tblOk rfl rfl ⟨_, evl, _, _, _, evl, obl, ?_⟩
          | refine runE_pure tblOk rfl ⟨_, evl, _, _, _, evl, obl, ?_⟩
          | refine runE_mk tblOk rfl ⟨_, evl, _, _, _, evl, obl, ?_⟩
          | refine sBox rfl rfl rfl rfl ⟨_, evl, ob1, _, evl, _, evl, ?_⟩
          | refine sAlloc tblOk rfl rfl rfl rfl ⟨_, evl, _, evl, _, evl, ?_⟩
          | refine sStore tblOk rfl rfl rfl ⟨_, _, evl, _, evl, _, evl, _, evl, ob1, _, evl, ?_⟩
          | refine runE_tail rfl (by kernel_rfl) ?_
      refine Weak.mk rfl ?_ ?_
      rotate_left
      · simp [belS, belB, AV.bel, AV.belL, go_sem]
      (try simp only [SubSl, lookN_cons, ↓reduceIte, Nat.reduceEqDiff, and_true, true_and, Option.some.injEq, Prod.mk.injEq, AV.raw.injEq, Value.int.injEq, Value.bool.injEq])
      all_goals ((repeat' apply And.intro) <;> first | rfl | omega | (simp; done) | (simp; omega))
  clear gi hX g1
  repeat
    first
      | refine thenA_n ?_
      | refine thenA_r ?_
      | refine thenA_e ?_
      | refine inBlockA_n ?_
      | refine inBlockA_r ?_
      | refine inBlockA_hit ?_
      | refine inBlockA_miss rfl ?_
      | refine wpA_seq' ?_
      | refine wpA_block ?_
      | refine wpA_skip ?_
      | refine wpA_ret ?_
      | refine wpA_exit ?_
      | refine wpA_label ?_
      | refine wpA_region (fun K hK => ?_)
      | (refine runS_nil (hK _ ?_); clear hK K)
      | refine wpA_drawE (by kernel_rfl) (by kernel_rfl) (fun K hK => ?_)
      | refine runS_pure tblOk rfl rfl ⟨_, evl, _, _, _, evl, obl, ?_⟩
      | refine runS_mk tblOk rfl rfl ⟨_, evl, _, _, _, evl, obl, ?_⟩
      | (refine runS_call rfl rfl ⟨_, evl, _, _, _, evl, obl, ?_⟩; apply Exists.intro; refine ⟨fun hg => ?_, ?_⟩; · first | exact r1)
      | refine runE_pure tblOk rfl ⟨_, evl, _, _, _, evl, obl, ?_⟩
      | refine runE_mk tblOk rfl ⟨_, evl, _, _, _, evl, obl, ?_⟩
      | (refine runE_call rfl ⟨_, evl, _, _, _, evl, obl, ?_⟩; apply Exists.intro; refine ⟨fun hg => ?_, ?_⟩; · first | exact r1)
      | refine sBox rfl rfl rfl rfl ⟨_, evl, ob1, _, evl, _, evl, ?_⟩
      | refine sAlloc tblOk rfl rfl rfl rfl ⟨_, evl, _, evl, _, evl, ?_⟩
      | refine sStore tblOk rfl rfl rfl ⟨_, _, evl, _, evl, _, evl, _, evl, ob1, _, evl, ?_⟩
      | refine runE_tail rfl (by kernel_rfl) ?_
  refine wpA_join ⟨143, 0, [(9, true, .raw (.bool true)), (3, true, .raw (.int .i64 n)), (4, true, .box 0 0), (5, true, .box 1 0), (6, true, .box 2 0)], [c.c, s.c, e.c], [], ((0, []), [], true)⟩ ?_ ?_
  · refine wpA_cond' ⟨_, evl, ?_, ?_⟩
    · intro hb
      obtain ⟨h1, h2, ⟨e1, e2, e3⟩, h3, h8, rfl⟩ := ri (by simpa using hb)
      have h4 := (formed_iff c).1 h1
      have h5 := (validI_iff s).1 h2
      have h6 := placeM_in (i := ⟨max 0 (s.lo - min c.outHi (e.hi - c.backLo)), s.hi - max c.outLo (e.lo - c.backHi)⟩) n (by simp only; omega)
      have p1 := place_A ⟨max 0 (s.lo - min c.outHi (e.hi - c.backLo)), s.hi - max c.outLo (e.lo - c.backHi)⟩ n (by simp only; omega) hn
      generalize placeM ⟨max 0 (s.lo - min c.outHi (e.hi - c.backLo)), s.hi - max c.outLo (e.lo - c.backHi)⟩ n = p at h6 p1
      simp only at h6
      repeat
        first
          | refine thenA_n ?_
          | refine thenA_r ?_
          | refine thenA_e ?_
          | refine inBlockA_n ?_
          | refine inBlockA_r ?_
          | refine inBlockA_hit ?_
          | refine inBlockA_miss rfl ?_
          | refine wpA_seq' ?_
          | refine wpA_block ?_
          | refine wpA_skip ?_
          | refine wpA_ret ?_
          | refine wpA_exit ?_
          | refine wpA_label ?_
          | refine wpA_region (fun K hK => ?_)
          | (refine runS_nil (hK _ ?_); clear hK K)
          | refine wpA_drawE (by kernel_rfl) (by kernel_rfl) (fun K hK => ?_)
          | refine runS_pure tblOk rfl rfl ⟨_, evl, _, _, _, evl, obl, ?_⟩
          | refine runS_mk tblOk rfl rfl ⟨_, evl, _, _, _, evl, obl, ?_⟩
          | (refine runS_call rfl rfl ⟨_, evl, _, _, _, evl, obl, ?_⟩; apply Exists.intro; refine ⟨fun hg => ?_, ?_⟩; · first | exact p1 | exact some3_A _ _ _ _ _ _ (by omega))
          | refine runE_pure tblOk rfl ⟨_, evl, _, _, _, evl, obl, ?_⟩
          | refine runE_mk tblOk rfl ⟨_, evl, _, _, _, evl, obl, ?_⟩
          | (refine runE_call rfl ⟨_, evl, _, _, _, evl, obl, ?_⟩; apply Exists.intro; refine ⟨fun hg => ?_, ?_⟩; · first | exact p1 | exact some3_A _ _ _ _ _ _ (by omega))
          | refine sBox rfl rfl rfl rfl ⟨_, evl, ob1, _, evl, _, evl, ?_⟩
          | refine sAlloc tblOk rfl rfl rfl rfl ⟨_, evl, _, evl, _, evl, ?_⟩
          | refine sStore tblOk rfl rfl rfl ⟨_, _, evl, _, evl, _, evl, _, evl, ob1, _, evl, ?_⟩
          | refine runE_tail rfl (by kernel_rfl) ?_
      refine Weak.mk rfl ?_ ?_
      rotate_left
      · simp [belS, belB, AV.bel, AV.belL, go_sem]
      (try simp only [SubSl, lookN_cons, ↓reduceIte, Nat.reduceEqDiff, and_true, true_and, Option.some.injEq, Prod.mk.injEq, AV.raw.injEq, Value.int.injEq, Value.bool.injEq])
      all_goals ((repeat' apply And.intro) <;> first | rfl | omega | (simp; done) | (simp; omega))
    · intro hb
      repeat
        first
          | refine thenA_n ?_
          | refine thenA_r ?_
          | refine thenA_e ?_
          | refine inBlockA_n ?_
          | refine inBlockA_r ?_
          | refine inBlockA_hit ?_
          | refine inBlockA_miss rfl ?_
          | refine wpA_seq' ?_
          | refine wpA_block ?_
          | refine wpA_skip ?_
          | refine wpA_ret ?_
          | refine wpA_exit ?_
          | refine wpA_label ?_
          | refine wpA_region (fun K hK => ?_)
          | (refine runS_nil (hK _ ?_); clear hK K)
          | refine wpA_drawE (by kernel_rfl) (by kernel_rfl) (fun K hK => ?_)
          | refine runS_pure tblOk rfl rfl ⟨_, evl, _, _, _, evl, obl, ?_⟩
          | refine runS_mk tblOk rfl rfl ⟨_, evl, _, _, _, evl, obl, ?_⟩
          | refine runE_pure tblOk rfl ⟨_, evl, _, _, _, evl, obl, ?_⟩
          | refine runE_mk tblOk rfl ⟨_, evl, _, _, _, evl, obl, ?_⟩
          | refine sBox rfl rfl rfl rfl ⟨_, evl, ob1, _, evl, _, evl, ?_⟩
          | refine sAlloc tblOk rfl rfl rfl rfl ⟨_, evl, _, evl, _, evl, ?_⟩
          | refine sStore tblOk rfl rfl rfl ⟨_, _, evl, _, evl, _, evl, _, evl, ob1, _, evl, ?_⟩
          | refine runE_tail rfl (by kernel_rfl) ?_
      refine Weak.mk rfl ?_ ?_
      rotate_left
      · simp [belS, belB, AV.bel, AV.belL, go_sem]
      (try simp only [SubSl, lookN_cons, ↓reduceIte, Nat.reduceEqDiff, and_true, true_and, Option.some.injEq, Prod.mk.injEq, AV.raw.injEq, Value.int.injEq, Value.bool.injEq])
      all_goals ((repeat' apply And.intro) <;> first | rfl | omega | (simp; done) | (simp; omega))
  repeat
    first
      | refine thenA_n ?_
      | refine thenA_r ?_
      | refine thenA_e ?_
      | refine inBlockA_n ?_
      | refine inBlockA_r ?_
      | refine inBlockA_hit ?_
      | refine inBlockA_miss rfl ?_
      | refine wpA_seq' ?_
      | refine wpA_block ?_
      | refine wpA_skip ?_
      | refine wpA_ret ?_
      | refine wpA_exit ?_
      | refine wpA_label ?_
      | refine wpA_region (fun K hK => ?_)
      | (refine runS_nil (hK _ ?_); clear hK K)
      | refine wpA_drawE (by kernel_rfl) (by kernel_rfl) (fun K hK => ?_)
      | refine runS_pure tblOk rfl rfl ⟨_, evl, _, _, _, evl, obl, ?_⟩
      | refine runS_mk tblOk rfl rfl ⟨_, evl, _, _, _, evl, obl, ?_⟩
      | refine runE_pure tblOk rfl ⟨_, evl, _, _, _, evl, obl, ?_⟩
      | refine runE_mk tblOk rfl ⟨_, evl, _, _, _, evl, obl, ?_⟩
      | refine sBox rfl rfl rfl rfl ⟨_, evl, ob1, _, evl, _, evl, ?_⟩
      | refine sAlloc tblOk rfl rfl rfl rfl ⟨_, evl, _, evl, _, evl, ?_⟩
      | refine sStore tblOk rfl rfl rfl ⟨_, _, evl, _, evl, _, evl, _, evl, ob1, _, evl, ?_⟩
      | refine runE_tail rfl (by kernel_rfl) ?_
  refine ret_of (by simp) ⟨_, _, _, evl, ob0, OutOk.eq ?_ ?_⟩
  · rfl
  · simp [AV.free]
end Go.Proofs.Yticlpcgkaffdmaa
