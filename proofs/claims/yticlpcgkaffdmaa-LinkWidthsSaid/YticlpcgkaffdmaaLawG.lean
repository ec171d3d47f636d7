/- The statement LinkNarrow, walked. -/
import Derived.Test.YticlpcgkaffdmaaLawE
import Derived.Test.YticlpcgkaffdmaaLawF
namespace Go.Proofs.Yticlpcgkaffdmaa
set_option linter.unusedSectionVars false
set_option linter.unusedVariables false
set_option linter.unusedSimpArgs false
open Go.RowKit
structure NarrowP (c d : Change) (s t : Iv) : Prop where
  fc : formedM c = true
  fd : formedM d = true
  vs : validI s = true
  vt : validI t = true
  ol : c.outLo ≤ d.outLo
  oh : d.outHi ≤ c.outHi
  bl : c.backLo ≤ d.backLo
  bh : d.backHi ≤ c.backHi
  lo : s.lo ≤ t.lo
  hi : t.hi ≤ s.hi
theorem withinM_iff (a b : Iv) : withinM a b = true ↔ b.lo ≤ a.lo ∧ a.hi ≤ b.hi := by simp [withinM]
theorem narrow_sent {c d : Change} {s t : Iv} (h : NarrowP c d s t) : (!decide ((sentM d t).2 = 0) || (decide ((sentM c s).2 = 0) && withinM (sentM d t).1 (sentM c s).1)) = true := by
  by_cases h0 : (sentM d t).2 = 0
  · obtain ⟨h1, h2, h3, h4⟩ := sentM_inv h0
    have := h.ol; have := h.oh; have := h.lo; have := h.hi
    rw [sentM_ok h.fc h.vs (by omega), h4]
    simp [withinM]
    omega
  · simp [h0]
theorem narrow_got {c d : Change} {s t : Iv} (h : NarrowP c d s t) : (!decide ((gotM c s).2 = 0) || (decide ((gotM d t).2 = 0) && withinM (gotM d t).1 (gotM c s).1)) = true := by
  by_cases h0 : (gotM c s).2 = 0
  · obtain ⟨h1, h2, h3, h4⟩ := gotM_inv h0
    have := h.bl; have := h.bh; have := h.lo; have := h.hi
    have h5 : gotM d t = (⟨t.lo + d.backLo, t.hi + d.backHi⟩, 0) := by rw [gotM, if_pos ⟨h.fd, h.vt⟩, if_neg (by omega)]
    rw [h4, h5]
    simp [withinM]
    omega
  · simp [h0]
theorem round_sent {c d : Change} {s t : Iv} (e : Rg) (h : NarrowP c d s t) : (!decide ((roundM c s e).2 = 0) || (decide ((sentM c s).2 = 0) && withinM (roundM c s e).1 (sentM c s).1)) = true := by
  by_cases h0 : (roundM c s e).2 = 0
  · obtain ⟨h1, h2, _, h3, h5, h4⟩ := roundM_inv h0
    rw [sentM_ok h.fc h.vs (by omega), h4]
    simp [withinM]
    omega
  · simp [h0]
theorem narrow_round {c d : Change} {s t : Iv} (e : Rg) (h : NarrowP c d s t) : (!decide ((roundM d t e).2 = 0) || (decide ((roundM c s e).2 = 0) && withinM (roundM d t e).1 (roundM c s e).1)) = true := by
  by_cases h0 : (roundM d t e).2 = 0
  · obtain ⟨h1, h2, he, h3, h5, h4⟩ := roundM_inv h0
    have := h.ol; have := h.oh; have := h.lo; have := h.hi; have := h.bl; have := h.bh
    have h6 : roundM c s e = (⟨max 0 (s.lo - min c.outHi (e.hi - c.backLo)), s.hi - max c.outLo (e.lo - c.backHi)⟩, 0) := by
      rw [roundM, if_pos ⟨h.fc, h.vs, he⟩, beforeM, if_neg (by omega)]
    rw [h4, h6]
    simp [withinM]
    omega
  · simp [h0]
def cutI (s : Iv) (left right : Int) : Iv := ⟨min s.hi (s.lo + left), max (min s.hi (s.lo + left)) (s.hi - right)⟩
theorem narrowP_of {c : Change} {s : Iv} {b0 b1 b2 b3 left right : Int} (hc : formedM c = true) (hs : validI s = true) (hb : 0 ≤ b0 ∧ 0 ≤ b1 ∧ 0 ≤ b2 ∧ 0 ≤ b3 ∧ 0 ≤ left ∧ 0 ≤ right) :
    NarrowP c (bySub (fun i => [b0, b1, b2, b3].getD i 0) c) s (cutI s left right) := by
  have h1 := (formed_iff c).1 hc
  have h2 := (validI_iff s).1 hs
  refine ⟨hc, ?_, hs, ?_, ?_, ?_, ?_, ?_, ?_, ?_⟩
  · rw [formed_iff]; simp only [bySub, List.getD_cons_zero, List.getD_cons_succ]; omega
  · rw [validI_iff]; simp only [cutI]; omega
  all_goals (simp only [bySub, cutI, List.getD_cons_zero, List.getD_cons_succ]; omega)
set_option maxRecDepth 100000 in
set_option maxHeartbeats 4000000 in
theorem linkNarrow_A (c : Change) (s : Iv) (e : Rg) (b0 b1 b2 b3 left right : Int) (hb : ∀ x ∈ [b0, b1, b2, b3], inK .u16 x) (hl : inK .u16 left) (hr : inK .u16 right) :
    FnA Try.prog 6 [.agg c.c, .agg s.c, .agg e.c, .agg [.raw (.int .u16 b0), .raw (.int .u16 b1), .raw (.int .u16 b2), .raw (.int .u16 b3)], .raw (.int .u16 left), .raw (.int .u16 right)] (.raw (.bool true)) := by
  have hN := narrow_A c b0 b1 b2 b3
  have hP := narrowP_of (c := c) (s := s) (b0 := b0) (b1 := b1) (b2 := b2) (b3 := b3) (left := left) (right := right)
  have hb' := hb
  simp only [List.forall_mem_cons, inK, List.not_mem_nil, false_implies, implies_true, and_true] at hb' hl hr
  have s1 := sent_A c s
  have g1 := got_A c s
  have r1 := round_A c s e
  have fA := formR_A c
  have vA := validIR_A s
  refine fnA_of tblOk Try.func6 rfl (by kernel_rfl) 154 Try.ntmps6 (by simp only [List.length_cons, List.length_nil]; omega) [.tmp 12] rfl ?_
  simp only [entrySt, argSl, Nat.zero_add, Nat.reduceAdd]
  repeat
    first
      | refine thenA_n ?_
      | refine thenA_r ?_
      | refine thenA_e ?_
      | refine inBlockA_n ?_
      | refine inBlockA_r ?_
      | refine inBlockA_hit ?_
      | refine inBlockA_miss rfl ?_
      | refine wpA_seq' ?_
      | refine wpA_block ?_
      | refine wpA_skip ?_
      | refine wpA_ret ?_
      | refine wpA_exit ?_
      | refine wpA_label ?_
      | refine wpA_region (fun K hK => ?_)
      | (refine runS_nil (hK _ ?_); clear hK K)
      | refine wpA_drawE (by kernel_rfl) (by kernel_rfl) (fun K hK => ?_)
      | refine runS_pure tblOk rfl rfl ⟨_, evl, _, _, _, evl, obl, ?_⟩
      | refine runS_mk tblOk rfl rfl ⟨_, evl, _, _, _, evl, obl, ?_⟩
      | (refine runS_call rfl rfl ⟨_, evl, _, _, _, evl, obl, ?_⟩; apply Exists.intro; refine ⟨fun hg => ?_, ?_⟩; · first | exact head_A | exact fA | exact vA)
      | refine runE_pure tblOk rfl ⟨_, evl, _, _, _, evl, obl, ?_⟩
      | refine runE_mk tblOk rfl ⟨_, evl, _, _, _, evl, obl, ?_⟩
      | (refine runE_call rfl ⟨_, evl, _, _, _, evl, obl, ?_⟩; apply Exists.intro; refine ⟨fun hg => ?_, ?_⟩; · first | exact head_A | exact fA | exact vA)
      | refine sBox rfl rfl rfl rfl ⟨_, evl, ob1, _, evl, _, evl, ?_⟩
      | refine sAlloc tblOk rfl rfl rfl rfl ⟨_, evl, _, evl, _, evl, ?_⟩
      | refine sStore tblOk rfl rfl rfl ⟨_, _, evl, _, evl, _, evl, _, evl, ob1, _, evl, ?_⟩
      | refine runE_tail rfl (by kernel_rfl) ?_
  refine wpA_cond' ⟨_, evl, ?_, ?_⟩
  · intro hc
    repeat
      first
        | refine thenA_n ?_
        | refine thenA_r ?_
        | refine thenA_e ?_
        | refine inBlockA_n ?_
        | refine inBlockA_r ?_
        | refine inBlockA_hit ?_
        | refine inBlockA_miss rfl ?_
        | refine wpA_seq' ?_
        | refine wpA_block ?_
        | refine wpA_skip ?_
        | refine wpA_ret ?_
        | refine wpA_exit ?_
        | refine wpA_label ?_
        | refine wpA_region (fun K hK => ?_)
        | (refine runS_nil (hK _ ?_); clear hK K)
        | refine wpA_drawE (by kernel_rfl) (by kernel_rfl) (fun K hK => ?_)
        | refine runS_pure tblOk rfl rfl ⟨_, evl, _, _, _, evl, obl, ?_⟩
        | refine runS_mk tblOk rfl rfl ⟨_, evl, _, _, _, evl, obl, ?_⟩
        | refine runE_pure tblOk rfl ⟨_, evl, _, _, _, evl, obl, ?_⟩
        | refine runE_mk tblOk rfl ⟨_, evl, _, _, _, evl, obl, ?_⟩
        | refine sBox rfl rfl rfl rfl ⟨_, evl, ob1, _, evl, _, evl, ?_⟩
        | refine sAlloc tblOk rfl rfl rfl rfl ⟨_, evl, _, evl, _, evl, ?_⟩
        | refine sStore tblOk rfl rfl rfl ⟨_, _, evl, _, evl, _, evl, _, evl, ob1, _, evl, ?_⟩
        | refine runE_tail rfl (by kernel_rfl) ?_
    refine ret_of (by simp) ⟨_, _, _, evl, ob0, OutOk.eq ?_ ?_⟩
    · rfl
    · simp [AV.free]
  · intro hc
    simp at hc
    have hP := hP hc.1 hc.2 (by omega)
    have hN := hN hc.1 hb
    have h2 := (validI_iff s).1 hc.2
    generalize bySub (fun i => [b0, b1, b2, b3].getD i 0) c = d at hP hN
    repeat
      first
        | refine thenA_n ?_
        | refine thenA_r ?_
        | refine thenA_e ?_
        | refine inBlockA_n ?_
        | refine inBlockA_r ?_
        | refine inBlockA_hit ?_
        | refine inBlockA_miss rfl ?_
        | refine wpA_seq' ?_
        | refine wpA_block ?_
        | refine wpA_skip ?_
        | refine wpA_ret ?_
        | refine wpA_exit ?_
        | refine wpA_label ?_
        | refine wpA_region (fun K hK => ?_)
        | (refine runS_nil (hK _ ?_); clear hK K)
        | refine wpA_drawE (by kernel_rfl) (by kernel_rfl) (fun K hK => ?_)
        | refine runS_pure tblOk rfl rfl ⟨_, evl, _, _, _, evl, obl, ?_⟩
        | refine runS_mk tblOk rfl rfl ⟨_, evl, _, _, _, evl, obl, ?_⟩
        | (refine runS_call rfl rfl ⟨_, evl, _, _, _, evl, obl, ?_⟩; apply Exists.intro; refine ⟨fun hg => ?_, ?_⟩; · first | exact hN)
        | refine runE_pure tblOk rfl ⟨_, evl, _, _, _, evl, obl, ?_⟩
        | refine runE_mk tblOk rfl ⟨_, evl, _, _, _, evl, obl, ?_⟩
        | (refine runE_call rfl ⟨_, evl, _, _, _, evl, obl, ?_⟩; apply Exists.intro; refine ⟨fun hg => ?_, ?_⟩; · first | exact hN)
        | refine sBox rfl rfl rfl rfl ⟨_, evl, ob1, _, evl, _, evl, ?_⟩
        | refine sAlloc tblOk rfl rfl rfl rfl ⟨_, evl, _, evl, _, evl, ?_⟩
        | refine sStore tblOk rfl rfl rfl ⟨_, _, evl, _, evl, _, evl, _, evl, ob1, _, evl, ?_⟩
        | refine runE_tail rfl (by kernel_rfl) ?_
    have s2 := sent_A d (cutI s left right)
    have g2 := got_A d (cutI s left right)
    have r2 := round_A d (cutI s left right) e
    have w1 := narrow_sent hP
    have w2 := narrow_got hP
    have w3 := round_sent e hP
    have w4 := narrow_round e hP
    generalize sentM c s = S1 at s1 w1 w3
    generalize gotM c s = X1 at g1 w2
    generalize roundM c s e = R1 at r1 w3 w4
    generalize sentM d (cutI s left right) = S2 at s2 w1
    generalize gotM d (cutI s left right) = X2 at g2 w2
    generalize roundM d (cutI s left right) e = R2 at r2 w4
    repeat
      first
        | refine thenA_n ?_
        | refine thenA_r ?_
        | refine thenA_e ?_
        | refine inBlockA_n ?_
        | refine inBlockA_r ?_
        | refine inBlockA_hit ?_
        | refine inBlockA_miss rfl ?_
        | refine wpA_seq' ?_
        | refine wpA_block ?_
        | refine wpA_skip ?_
        | refine wpA_ret ?_
        | refine wpA_exit ?_
        | refine wpA_label ?_
        | refine wpA_region (fun K hK => ?_)
        | (refine runS_nil (hK _ ?_); clear hK K)
        | refine wpA_drawE (by kernel_rfl) (by kernel_rfl) (fun K hK => ?_)
        | refine runS_pure tblOk rfl rfl ⟨_, evl, _, _, _, evl, obl, ?_⟩
        | refine runS_mk tblOk rfl rfl ⟨_, evl, _, _, _, evl, obl, ?_⟩
        | (refine runS_call rfl rfl ⟨_, evl, _, _, _, evl, obl, ?_⟩; apply Exists.intro; refine ⟨fun hg => ?_, ?_⟩; · first | exact s1 | exact s2 | exact g1 | exact g2 | exact r1 | exact r2 | exact within_A S2.1 S1.1 | exact within_A X2.1 X1.1 | exact within_A R1.1 S1.1 | exact within_A R2.1 R1.1)
        | refine runE_pure tblOk rfl ⟨_, evl, _, _, _, evl, obl, ?_⟩
        | refine runE_mk tblOk rfl ⟨_, evl, _, _, _, evl, obl, ?_⟩
        | (refine runE_call rfl ⟨_, evl, _, _, _, evl, obl, ?_⟩; apply Exists.intro; refine ⟨fun hg => ?_, ?_⟩; · first | exact s1 | exact s2 | exact g1 | exact g2 | exact r1 | exact r2 | exact within_A S2.1 S1.1 | exact within_A X2.1 X1.1 | exact within_A R1.1 S1.1 | exact within_A R2.1 R1.1)
        | refine sBox rfl rfl rfl rfl ⟨_, evl, ob1, _, evl, _, evl, ?_⟩
        | refine sAlloc tblOk rfl rfl rfl rfl ⟨_, evl, _, evl, _, evl, ?_⟩
        | refine sStore tblOk rfl rfl rfl ⟨_, _, evl, _, evl, _, evl, _, evl, ob1, _, evl, ?_⟩
        | refine runE_tail rfl (by kernel_rfl) ?_
    refine ret_of (by simp) ⟨_, _, _, evl, ob0, OutOk.eq ?_ ?_⟩
    · simp only [AV.raw.injEq, Value.bool.injEq]
      simp [w1, w2, w3, w4]
    · simp [AV.free]
end Go.Proofs.Yticlpcgkaffdmaa
