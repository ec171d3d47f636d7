/- The function extreme of package link, and Bounds. -/
import Derived.Test.YticlpcgkaffdmaaLinkC
namespace Go.Proofs.Yticlpcgkaffdmaa
set_option linter.unusedSectionVars false
set_option linter.unusedVariables false
set_option linter.unusedSimpArgs false
open Go.RowKit
def extStep (sign : Int) (p : Change → Int) (s : Int × Bool) (c : Change) : Int × Bool := if (s.2 || decide (cmpM (p c) s.1 * sign < 0)) = true then (p c, false) else s
def extM (sign : Int) (p : Change → Int) (cs : List Change) : Int × Bool := cs.foldl (extStep sign p) (0, true)
theorem extM_snoc (sign : Int) (p : Change → Int) (cs : List Change) (c : Change) : extM sign p (cs ++ [c]) = extStep sign p (extM sign p cs) c := by simp [extM]
theorem cmpM_le (x y : Int) : -1 ≤ cmpM x y ∧ cmpM x y ≤ 1 := by
  unfold cmpM
  split
  · omega
  · split <;> omega
def itemsC (cs : List Change) : List (List AV) := cs.map fun c => [.agg c.c]
theorem itemsC_prefix {h : List (List AV)} {item : List AV} {pre cs : List Change} (hp : pre <+: cs) (e : h = itemsC pre) (hi : (h ++ [item]) <+: itemsC cs) : ∃ c, item = [.agg c.c] ∧ (pre ++ [c]) <+: cs := by
  subst e
  obtain ⟨r, rfl⟩ := hp
  simp only [itemsC, List.map_append] at hi
  cases r with
  | nil => exfalso; have := hi.length_le; simp at this; omega
  | cons c r =>
    rw [List.prefix_append_right_inj] at hi
    simp only [List.map_cons, List.cons_prefix_cons, List.nil_prefix, and_true] at hi
    exact ⟨c, hi, by simp⟩
theorem roundEnd_n {nt nb m : Nat} {sl : List (Nat × (Bool × AV))} {bx bx' ex : List (List AV)} {ys : (Nat × List (List AV)) × List (List AV) × Bool} {Inv : LInv} {h : List (List AV)} (hb : bx = bx' ++ ex) (h2 : nb ≤ bx'.length ∧ belB bx'.length bx') (hlen : bx'.length = m) (hi : Inv h none bx' [] ys) :
    roundEnd m Inv h .normal ⟨nt, nb, sl, bx, [], ys⟩ := ⟨nt, nb, [], bx', [], ys, Weak.mk hb trivial ⟨h2.1, trivial, h2.2⟩, hlen, hi⟩
theorem extreme_A (f : FuncId) (cap : List AV) (hcap : AV.freeL cap) (cs : List Change) (hseq : SeqA Try.prog f cap (itemsC cs)) (sign : Int) (hs : sign = 1 ∨ sign = -1) (g : FuncId) (p : Change → Int) (hp : ∀ c : Change, FnA Try.prog g [.agg c.c] (.raw (.int .i64 (p c)))) :
    FnA Try.prog 30 [.fn (.func f) [] cap, .raw (.int .i64 sign), .raw (.func (.func g) #[] #[])] (.raw (.int .i64 (extM sign p cs).1)) := by
  refine fnA_of tblOk Try.func30 rfl (by kernel_rfl) 27 Try.ntmps30 (by simp only [List.length_cons, List.length_nil]; omega) [.tmp 6] rfl ?_
  simp only [entrySt, argSl, Nat.zero_add, Nat.reduceAdd]
  repeat
    first
      | refine thenA_n ?_
      | refine thenA_r ?_
      | refine thenA_e ?_
      | refine inBlockA_n ?_
      | refine inBlockA_r ?_
      | refine inBlockA_hit ?_
      | refine inBlockA_miss rfl ?_
      | refine wpA_seq' ?_
      | refine wpA_block ?_
      | refine wpA_skip ?_
      | refine wpA_ret ?_
      | refine wpA_exit ?_
      | refine wpA_label ?_
      | refine wpA_region (fun K hK => ?_)
      | (refine runS_nil (hK _ ?_); clear hK K)
      | refine wpA_drawE (by kernel_rfl) (by kernel_rfl) (fun K hK => ?_)
      | refine runS_pure tblOk rfl rfl ⟨_, evl, _, _, _, evl, obl, ?_⟩
      | refine runS_mk tblOk rfl rfl ⟨_, evl, _, _, _, evl, obl, ?_⟩
      | (refine runS_call rfl rfl ⟨_, evl, _, _, _, evl, obl, ?_⟩; apply Exists.intro; refine ⟨fun hg => ?_, ?_⟩; · first | exact hp _)
      | refine runE_pure tblOk rfl ⟨_, evl, _, _, _, evl, obl, ?_⟩
      | refine runE_mk tblOk rfl ⟨_, evl, _, _, _, evl, obl, ?_⟩
      | (refine runE_call rfl ⟨_, evl, _, _, _, evl, obl, ?_⟩; apply Exists.intro; refine ⟨fun hg => ?_, ?_⟩; · first | exact hp _)
      | refine sBox rfl rfl rfl rfl ⟨_, evl, ob1, _, evl, _, evl, ?_⟩
      | refine sAlloc tblOk rfl rfl rfl rfl ⟨_, evl, _, evl, _, evl, ?_⟩
      | refine sStore tblOk rfl rfl rfl ⟨_, _, evl, _, evl, _, evl, _, evl, ob1, _, evl, ?_⟩
      | refine runE_tail rfl (by kernel_rfl) ?_
  refine wpA_rangeFunc (fun h j bx rw ys => j = none ∧ rw = [] ∧ ys = ((0, []), [], true) ∧ ∃ pre, pre <+: cs ∧ h = itemsC pre ∧ bx = [[.raw (.int .i64 sign)], [.raw (.func (.func g) #[] #[])], [.raw (.int .i64 (extM sign p pre).1)], [.raw (.bool (extM sign p pre).2)]]) rfl rfl hcap hseq ⟨by simp, by simp⟩ ⟨rfl, rfl, rfl, [], by simp, rfl, rfl⟩ ?_ ?_ ?_
  · rintro h item bx rw ys ⟨_, rfl, rfl, pre, hpre, rfl, rfl⟩ hpr _
    obtain ⟨c, rfl, hc⟩ := itemsC_prefix hpre rfl hpr
    refine ⟨rfl, ?_⟩
    have hcm := cmpM_le (p c) (extM sign p pre).1
    simp only [zipSl, List.cons_append, List.nil_append]
    repeat
      first
        | refine thenA_n ?_
        | refine thenA_r ?_
        | refine thenA_e ?_
        | refine inBlockA_n ?_
        | refine inBlockA_r ?_
        | refine inBlockA_hit ?_
        | refine inBlockA_miss rfl ?_
        | refine wpA_seq' ?_
        | refine wpA_block ?_
        | refine wpA_skip ?_
        | refine wpA_ret ?_
        | refine wpA_exit ?_
        | refine wpA_label ?_
        | refine wpA_region (fun K hK => ?_)
        | (refine runS_nil (hK _ ?_); clear hK K)
        | refine wpA_drawE (by kernel_rfl) (by kernel_rfl) (fun K hK => ?_)
        | refine runS_pure tblOk rfl rfl ⟨_, evl, _, _, _, evl, obl, ?_⟩
        | refine runS_mk tblOk rfl rfl ⟨_, evl, _, _, _, evl, obl, ?_⟩
        | (refine runS_call rfl rfl ⟨_, evl, _, _, _, evl, obl, ?_⟩; apply Exists.intro; refine ⟨fun hg => ?_, ?_⟩; · first | exact hp c)
        | refine runE_pure tblOk rfl ⟨_, evl, _, _, _, evl, obl, ?_⟩
        | refine runE_mk tblOk rfl ⟨_, evl, _, _, _, evl, obl, ?_⟩
        | (refine runE_call rfl ⟨_, evl, _, _, _, evl, obl, ?_⟩; apply Exists.intro; refine ⟨fun hg => ?_, ?_⟩; · first | exact hp c)
        | refine sBox rfl rfl rfl rfl ⟨_, evl, ob1, _, evl, _, evl, ?_⟩
        | refine sAlloc tblOk rfl rfl rfl rfl ⟨_, evl, _, evl, _, evl, ?_⟩
        | refine sStore tblOk rfl rfl rfl ⟨_, _, evl, _, evl, _, evl, _, evl, ob1, _, evl, ?_⟩
        | refine runE_tail rfl (by kernel_rfl) ?_
    refine ⟨rfl, ?_⟩
    rcases hs with rfl | rfl
    · repeat
        first
          | refine thenA_n ?_
          | refine thenA_r ?_
          | refine thenA_e ?_
          | refine inBlockA_n ?_
          | refine inBlockA_r ?_
          | refine inBlockA_hit ?_
          | refine inBlockA_miss rfl ?_
          | refine wpA_seq' ?_
          | refine wpA_block ?_
          | refine wpA_skip ?_
          | refine wpA_ret ?_
          | refine wpA_exit ?_
          | refine wpA_label ?_
          | refine wpA_region (fun K hK => ?_)
          | (refine runS_nil (hK _ ?_); clear hK K)
          | refine wpA_drawE (by kernel_rfl) (by kernel_rfl) (fun K hK => ?_)
          | refine runS_pure tblOk rfl rfl ⟨_, evl, _, _, _, evl, obl, ?_⟩
          | refine runS_mk tblOk rfl rfl ⟨_, evl, _, _, _, evl, obl, ?_⟩
          | (refine runS_call rfl rfl ⟨_, evl, _, _, _, evl, obl, ?_⟩; apply Exists.intro; refine ⟨fun hg => ?_, ?_⟩; · first | exact hp c | exact compare_A _ _)
          | refine runE_pure tblOk rfl ⟨_, evl, _, _, _, evl, obl, ?_⟩
          | refine runE_mk tblOk rfl ⟨_, evl, _, _, _, evl, obl, ?_⟩
          | (refine runE_call rfl ⟨_, evl, _, _, _, evl, obl, ?_⟩; apply Exists.intro; refine ⟨fun hg => ?_, ?_⟩; · first | exact hp c | exact compare_A _ _)
          | refine sBox rfl rfl rfl rfl ⟨_, evl, ob1, _, evl, _, evl, ?_⟩
          | refine sAlloc tblOk rfl rfl rfl rfl ⟨_, evl, _, evl, _, evl, ?_⟩
          | refine sStore tblOk rfl rfl rfl ⟨_, _, evl, _, evl, _, evl, _, evl, ob1, _, evl, ?_⟩
          | refine runE_tail rfl (by kernel_rfl) ?_
      refine wpA_cond' ⟨_, evl, ?_, ?_⟩
      · intro hb
        repeat
          first
            | refine thenA_n ?_
            | refine thenA_r ?_
            | refine thenA_e ?_
            | refine inBlockA_n ?_
            | refine inBlockA_r ?_
            | refine inBlockA_hit ?_
            | refine inBlockA_miss rfl ?_
            | refine wpA_seq' ?_
            | refine wpA_block ?_
            | refine wpA_skip ?_
            | refine wpA_ret ?_
            | refine wpA_exit ?_
            | refine wpA_label ?_
            | refine wpA_region (fun K hK => ?_)
            | (refine runS_nil (hK _ ?_); clear hK K)
            | refine wpA_drawE (by kernel_rfl) (by kernel_rfl) (fun K hK => ?_)
            | refine runS_pure tblOk rfl rfl ⟨_, evl, _, _, _, evl, obl, ?_⟩
            | refine runS_mk tblOk rfl rfl ⟨_, evl, _, _, _, evl, obl, ?_⟩
            | refine runE_pure tblOk rfl ⟨_, evl, _, _, _, evl, obl, ?_⟩
            | refine runE_mk tblOk rfl ⟨_, evl, _, _, _, evl, obl, ?_⟩
            | refine sBox rfl rfl rfl rfl ⟨_, evl, ob1, _, evl, _, evl, ?_⟩
            | refine sAlloc tblOk rfl rfl rfl rfl ⟨_, evl, _, evl, _, evl, ?_⟩
            | refine sStore tblOk rfl rfl rfl ⟨_, _, evl, _, evl, _, evl, _, evl, ob1, _, evl, ?_⟩
            | refine runE_tail rfl (by kernel_rfl) ?_
        refine roundEnd_n (bx' := [[AV.raw (Value.int .i64 1)], [AV.raw (.func (.func g) #[] #[])], [AV.raw (.int .i64 (p c))], [AV.raw (.bool false)]]) rfl (by simp [belB, AV.bel, AV.belL]) rfl ⟨rfl, rfl, rfl, pre ++ [c], hc, by simp [itemsC], ?_⟩
        rw [extM_snoc, extStep, if_pos hb]
      · intro hb
        repeat
          first
            | refine thenA_n ?_
            | refine thenA_r ?_
            | refine thenA_e ?_
            | refine inBlockA_n ?_
            | refine inBlockA_r ?_
            | refine inBlockA_hit ?_
            | refine inBlockA_miss rfl ?_
            | refine wpA_seq' ?_
            | refine wpA_block ?_
            | refine wpA_skip ?_
            | refine wpA_ret ?_
            | refine wpA_exit ?_
            | refine wpA_label ?_
            | refine wpA_region (fun K hK => ?_)
            | (refine runS_nil (hK _ ?_); clear hK K)
            | refine wpA_drawE (by kernel_rfl) (by kernel_rfl) (fun K hK => ?_)
            | refine runS_pure tblOk rfl rfl ⟨_, evl, _, _, _, evl, obl, ?_⟩
            | refine runS_mk tblOk rfl rfl ⟨_, evl, _, _, _, evl, obl, ?_⟩
            | refine runE_pure tblOk rfl ⟨_, evl, _, _, _, evl, obl, ?_⟩
            | refine runE_mk tblOk rfl ⟨_, evl, _, _, _, evl, obl, ?_⟩
            | refine sBox rfl rfl rfl rfl ⟨_, evl, ob1, _, evl, _, evl, ?_⟩
            | refine sAlloc tblOk rfl rfl rfl rfl ⟨_, evl, _, evl, _, evl, ?_⟩
            | refine sStore tblOk rfl rfl rfl ⟨_, _, evl, _, evl, _, evl, _, evl, ob1, _, evl, ?_⟩
            | refine runE_tail rfl (by kernel_rfl) ?_
        refine roundEnd_n (bx' := [[AV.raw (Value.int .i64 1)], [.raw (.func (.func g) #[] #[])], [.raw (.int .i64 (extM (1) p pre).1)], [.raw (.bool (extM (1) p pre).2)]]) rfl (by simp [belB, AV.bel, AV.belL]) rfl ⟨rfl, rfl, rfl, pre ++ [c], hc, by simp [itemsC], ?_⟩
        rw [extM_snoc, extStep, if_neg (by rw [hb]; simp)]
    · repeat
        first
          | refine thenA_n ?_
          | refine thenA_r ?_
          | refine thenA_e ?_
          | refine inBlockA_n ?_
          | refine inBlockA_r ?_
          | refine inBlockA_hit ?_
          | refine inBlockA_miss rfl ?_
          | refine wpA_seq' ?_
          | refine wpA_block ?_
          | refine wpA_skip ?_
          | refine wpA_ret ?_
          | refine wpA_exit ?_
          | refine wpA_label ?_
          | refine wpA_region (fun K hK => ?_)
          | (refine runS_nil (hK _ ?_); clear hK K)
          | refine wpA_drawE (by kernel_rfl) (by kernel_rfl) (fun K hK => ?_)
          | refine runS_pure tblOk rfl rfl ⟨_, evl, _, _, _, evl, obl, ?_⟩
          | refine runS_mk tblOk rfl rfl ⟨_, evl, _, _, _, evl, obl, ?_⟩
          | (refine runS_call rfl rfl ⟨_, evl, _, _, _, evl, obl, ?_⟩; apply Exists.intro; refine ⟨fun hg => ?_, ?_⟩; · first | exact hp c | exact compare_A _ _)
          | refine runE_pure tblOk rfl ⟨_, evl, _, _, _, evl, obl, ?_⟩
          | refine runE_mk tblOk rfl ⟨_, evl, _, _, _, evl, obl, ?_⟩
          | (refine runE_call rfl ⟨_, evl, _, _, _, evl, obl, ?_⟩; apply Exists.intro; refine ⟨fun hg => ?_, ?_⟩; · first | exact hp c | exact compare_A _ _)
          | refine sBox rfl rfl rfl rfl ⟨_, evl, ob1, _, evl, _, evl, ?_⟩
          | refine sAlloc tblOk rfl rfl rfl rfl ⟨_, evl, _, evl, _, evl, ?_⟩
          | refine sStore tblOk rfl rfl rfl ⟨_, _, evl, _, evl, _, evl, _, evl, ob1, _, evl, ?_⟩
          | refine runE_tail rfl (by kernel_rfl) ?_
      refine wpA_cond' ⟨_, evl, ?_, ?_⟩
      · intro hb
        repeat
          first
            | refine thenA_n ?_
            | refine thenA_r ?_
            | refine thenA_e ?_
            | refine inBlockA_n ?_
            | refine inBlockA_r ?_
            | refine inBlockA_hit ?_
            | refine inBlockA_miss rfl ?_
            | refine wpA_seq' ?_
            | refine wpA_block ?_
            | refine wpA_skip ?_
            | refine wpA_ret ?_
            | refine wpA_exit ?_
            | refine wpA_label ?_
            | refine wpA_region (fun K hK => ?_)
            | (refine runS_nil (hK _ ?_); clear hK K)
            | refine wpA_drawE (by kernel_rfl) (by kernel_rfl) (fun K hK => ?_)
            | refine runS_pure tblOk rfl rfl ⟨_, evl, _, _, _, evl, obl, ?_⟩
            | refine runS_mk tblOk rfl rfl ⟨_, evl, _, _, _, evl, obl, ?_⟩
            | refine runE_pure tblOk rfl ⟨_, evl, _, _, _, evl, obl, ?_⟩
            | refine runE_mk tblOk rfl ⟨_, evl, _, _, _, evl, obl, ?_⟩
            | refine sBox rfl rfl rfl rfl ⟨_, evl, ob1, _, evl, _, evl, ?_⟩
            | refine sAlloc tblOk rfl rfl rfl rfl ⟨_, evl, _, evl, _, evl, ?_⟩
            | refine sStore tblOk rfl rfl rfl ⟨_, _, evl, _, evl, _, evl, _, evl, ob1, _, evl, ?_⟩
            | refine runE_tail rfl (by kernel_rfl) ?_
        refine roundEnd_n (bx' := [[AV.raw (Value.int .i64 (-1))], [AV.raw (.func (.func g) #[] #[])], [AV.raw (.int .i64 (p c))], [AV.raw (.bool false)]]) rfl (by simp [belB, AV.bel, AV.belL]) rfl ⟨rfl, rfl, rfl, pre ++ [c], hc, by simp [itemsC], ?_⟩
        rw [extM_snoc, extStep, if_pos hb]
      · intro hb
        repeat
          first
            | refine thenA_n ?_
            | refine thenA_r ?_
            | refine thenA_e ?_
            | refine inBlockA_n ?_
            | refine inBlockA_r ?_
            | refine inBlockA_hit ?_
            | refine inBlockA_miss rfl ?_
            | refine wpA_seq' ?_
            | refine wpA_block ?_
            | refine wpA_skip ?_
            | refine wpA_ret ?_
            | refine wpA_exit ?_
            | refine wpA_label ?_
            | refine wpA_region (fun K hK => ?_)
            | (refine runS_nil (hK _ ?_); clear hK K)
            | refine wpA_drawE (by kernel_rfl) (by kernel_rfl) (fun K hK => ?_)
            | refine runS_pure tblOk rfl rfl ⟨_, evl, _, _, _, evl, obl, ?_⟩
            | refine runS_mk tblOk rfl rfl ⟨_, evl, _, _, _, evl, obl, ?_⟩
            | refine runE_pure tblOk rfl ⟨_, evl, _, _, _, evl, obl, ?_⟩
            | refine runE_mk tblOk rfl ⟨_, evl, _, _, _, evl, obl, ?_⟩
            | refine sBox rfl rfl rfl rfl ⟨_, evl, ob1, _, evl, _, evl, ?_⟩
            | refine sAlloc tblOk rfl rfl rfl rfl ⟨_, evl, _, evl, _, evl, ?_⟩
            | refine sStore tblOk rfl rfl rfl ⟨_, _, evl, _, evl, _, evl, _, evl, ob1, _, evl, ?_⟩
            | refine runE_tail rfl (by kernel_rfl) ?_
        refine roundEnd_n (bx' := [[AV.raw (Value.int .i64 (-1))], [.raw (.func (.func g) #[] #[])], [.raw (.int .i64 (extM (-1) p pre).1)], [.raw (.bool (extM (-1) p pre).2)]]) rfl (by simp [belB, AV.bel, AV.belL]) rfl ⟨rfl, rfl, rfl, pre ++ [c], hc, by simp [itemsC], ?_⟩
        rw [extM_snoc, extStep, if_neg (by rw [hb]; simp)]
  · rintro bx rw ys ⟨_, rfl, rfl, pre, hpre, he, rfl⟩
    have : pre = cs := by
      have := congrArg List.length he
      simp [itemsC] at this
      exact hpre.eq_of_length this.symm
    subst this
    repeat
      first
        | refine thenA_n ?_
        | refine thenA_r ?_
        | refine thenA_e ?_
        | refine inBlockA_n ?_
        | refine inBlockA_r ?_
        | refine inBlockA_hit ?_
        | refine inBlockA_miss rfl ?_
        | refine wpA_seq' ?_
        | refine wpA_block ?_
        | refine wpA_skip ?_
        | refine wpA_ret ?_
        | refine wpA_exit ?_
        | refine wpA_label ?_
        | refine wpA_region (fun K hK => ?_)
        | (refine runS_nil (hK _ ?_); clear hK K)
        | refine wpA_drawE (by kernel_rfl) (by kernel_rfl) (fun K hK => ?_)
        | refine runS_pure tblOk rfl rfl ⟨_, evl, _, _, _, evl, obl, ?_⟩
        | refine runS_mk tblOk rfl rfl ⟨_, evl, _, _, _, evl, obl, ?_⟩
        | refine runE_pure tblOk rfl ⟨_, evl, _, _, _, evl, obl, ?_⟩
        | refine runE_mk tblOk rfl ⟨_, evl, _, _, _, evl, obl, ?_⟩
        | refine sBox rfl rfl rfl rfl ⟨_, evl, ob1, _, evl, _, evl, ?_⟩
        | refine sAlloc tblOk rfl rfl rfl rfl ⟨_, evl, _, evl, _, evl, ?_⟩
        | refine sStore tblOk rfl rfl rfl ⟨_, _, evl, _, evl, _, evl, _, evl, ob1, _, evl, ?_⟩
        | refine runE_tail rfl (by kernel_rfl) ?_
    refine ret_of (by simp) ⟨_, _, _, evl, ob0, OutOk.eq ?_ ?_⟩
    · rfl
    · simp [AV.free]
  · rintro h j bx rw ys _ ⟨hj, _⟩
    cases hj
def linkBoundsM (l : List Change) (i : Iv) : Change × Int := if validM l = true ∧ validI i = true then
    (⟨i.lo, (extM 1 Change.outLo (forceL l i l.length)).1, (extM (-1) Change.outHi (forceL l i l.length)).1, (extM 1 Change.backLo (forceL l i l.length)).1, (extM (-1) Change.backHi (forceL l i l.length)).1⟩, 0) else (⟨0, 0, 0, 0, 0⟩, 1)
theorem chL_free (l : List Change) : (chL l).free := by simp [chL, AV.free, AV.freeL, Change.c]
theorem linkBounds_A (l : List Change) (i : Iv) (hmax : l.length ≤ 1000) : FnA Try.prog 11 [chL l, .agg i.c] (.tup [.agg (linkBoundsM l i).1.c, .raw (.int .i64 (linkBoundsM l i).2)]) := by
  have hcap : AV.freeL [.elt [chL l] 0, .elt i.c 0] := ⟨⟨chL_free l, trivial⟩, by simp [AV.free, AV.freeL, Iv.c], trivial⟩
  have hseq := inForce1_S l i hmax
  have hfr := chL_free l
  have e1 := extreme_A _ _ hcap _ hseq 1 (.inl rfl) _ _ outLo_A
  have e2 := extreme_A _ _ hcap _ hseq (-1) (.inr rfl) _ _ outHi_A
  have e3 := extreme_A _ _ hcap _ hseq 1 (.inl rfl) _ _ backLo_A
  have e4 := extreme_A _ _ hcap _ hseq (-1) (.inr rfl) _ _ backHi_A
  have hv := valid_A l hmax
  have hi := inForce_A l i
  unfold inForceF at hi
  generalize hL : chL l = L at hfr hv hi e1 e2 e3 e4 hcap ⊢
  refine fnA_of tblOk Try.func11 rfl (by kernel_rfl) 30 Try.ntmps11 (by simp only [List.length_cons, List.length_nil]; omega) [.cell 4 24, .tmp 5] rfl ?_
  simp only [entrySt, argSl, Nat.zero_add, Nat.reduceAdd]
  repeat
    first
      | refine thenA_n ?_
      | refine thenA_r ?_
      | refine thenA_e ?_
      | refine inBlockA_n ?_
      | refine inBlockA_r ?_
      | refine inBlockA_hit ?_
      | refine inBlockA_miss rfl ?_
      | refine wpA_seq' ?_
      | refine wpA_block ?_
      | refine wpA_skip ?_
      | refine wpA_ret ?_
      | refine wpA_exit ?_
      | refine wpA_label ?_
      | refine wpA_region (fun K hK => ?_)
      | (refine runS_nil (hK _ ?_); clear hK K)
      | refine wpA_drawE (by kernel_rfl) (by kernel_rfl) (fun K hK => ?_)
      | refine runS_pure tblOk rfl rfl ⟨_, evl, _, _, _, evl, obl, ?_⟩
      | refine runS_mk tblOk rfl rfl ⟨_, evl, _, _, _, evl, obl, ?_⟩
      | (refine runS_call rfl rfl ⟨_, evl, _, _, _, evl, obl, ?_⟩; apply Exists.intro; refine ⟨fun hg => ?_, ?_⟩; · first | exact hv | exact validI_A i)
      | refine runE_pure tblOk rfl ⟨_, evl, _, _, _, evl, obl, ?_⟩
      | refine runE_mk tblOk rfl ⟨_, evl, _, _, _, evl, obl, ?_⟩
      | (refine runE_call rfl ⟨_, evl, _, _, _, evl, obl, ?_⟩; apply Exists.intro; refine ⟨fun hg => ?_, ?_⟩; · first | exact hv | exact validI_A i)
      | refine sBox rfl rfl rfl rfl ⟨_, evl, ob1, _, evl, _, evl, ?_⟩
      | refine sAlloc tblOk rfl rfl rfl rfl ⟨_, evl, _, evl, _, evl, ?_⟩
      | refine sStore tblOk rfl rfl rfl ⟨_, _, evl, _, evl, _, evl, _, evl, ob1, _, evl, ?_⟩
      | refine runE_tail rfl (by kernel_rfl) ?_
  refine wpA_cond' ⟨_, evl, ?_, ?_⟩
  · intro hb
    repeat
      first
        | refine thenA_n ?_
        | refine thenA_r ?_
        | refine thenA_e ?_
        | refine inBlockA_n ?_
        | refine inBlockA_r ?_
        | refine inBlockA_hit ?_
        | refine inBlockA_miss rfl ?_
        | refine wpA_seq' ?_
        | refine wpA_block ?_
        | refine wpA_skip ?_
        | refine wpA_ret ?_
        | refine wpA_exit ?_
        | refine wpA_label ?_
        | refine wpA_region (fun K hK => ?_)
        | (refine runS_nil (hK _ ?_); clear hK K)
        | refine wpA_drawE (by kernel_rfl) (by kernel_rfl) (fun K hK => ?_)
        | refine runS_pure tblOk rfl rfl ⟨_, evl, _, _, _, evl, obl, ?_⟩
        | refine runS_mk tblOk rfl rfl ⟨_, evl, _, _, _, evl, obl, ?_⟩
        | refine runE_pure tblOk rfl ⟨_, evl, _, _, _, evl, obl, ?_⟩
        | refine runE_mk tblOk rfl ⟨_, evl, _, _, _, evl, obl, ?_⟩
        | refine sBox rfl rfl rfl rfl ⟨_, evl, ob1, _, evl, _, evl, ?_⟩
        | refine sAlloc tblOk rfl rfl rfl rfl ⟨_, evl, _, evl, _, evl, ?_⟩
        | refine sStore tblOk rfl rfl rfl ⟨_, _, evl, _, evl, _, evl, _, evl, ob1, _, evl, ?_⟩
        | refine runE_tail rfl (by kernel_rfl) ?_
    refine ret_of (by simp) ⟨_, _, _, evl, ob0, OutOk.eq ?_ ?_⟩
    · rw [linkBoundsM, if_neg (by simp at hb; rcases hb with h | h <;> simp [h])]; rfl
    · simp [AV.free, AV.freeL]
  · intro hb
    have hf : validM l = true ∧ validI i = true := by simpa using hb
    repeat
      first
        | refine thenA_n ?_
        | refine thenA_r ?_
        | refine thenA_e ?_
        | refine inBlockA_n ?_
        | refine inBlockA_r ?_
        | refine inBlockA_hit ?_
        | refine inBlockA_miss rfl ?_
        | refine wpA_seq' ?_
        | refine wpA_block ?_
        | refine wpA_skip ?_
        | refine wpA_ret ?_
        | refine wpA_exit ?_
        | refine wpA_label ?_
        | refine wpA_region (fun K hK => ?_)
        | (refine runS_nil (hK _ ?_); clear hK K)
        | refine wpA_drawE (by kernel_rfl) (by kernel_rfl) (fun K hK => ?_)
        | refine runS_pure tblOk rfl rfl ⟨_, evl, _, _, _, evl, obl, ?_⟩
        | refine runS_mk tblOk rfl rfl ⟨_, evl, _, _, _, evl, obl, ?_⟩
        | (refine runS_call rfl rfl ⟨_, evl, _, _, _, evl, obl, ?_⟩; apply Exists.intro; refine ⟨fun hg => ?_, ?_⟩; · first | exact hi | exact e1 | exact e2 | exact e3 | exact e4)
        | refine runE_pure tblOk rfl ⟨_, evl, _, _, _, evl, obl, ?_⟩
        | refine runE_mk tblOk rfl ⟨_, evl, _, _, _, evl, obl, ?_⟩
        | (refine runE_call rfl ⟨_, evl, _, _, _, evl, obl, ?_⟩; apply Exists.intro; refine ⟨fun hg => ?_, ?_⟩; · first | exact hi | exact e1 | exact e2 | exact e3 | exact e4)
        | refine sBox rfl rfl rfl rfl ⟨_, evl, ob1, _, evl, _, evl, ?_⟩
        | refine sAlloc tblOk rfl rfl rfl rfl ⟨_, evl, _, evl, _, evl, ?_⟩
        | refine sStore tblOk rfl rfl rfl ⟨_, _, evl, _, evl, _, evl, _, evl, ob1, _, evl, ?_⟩
        | refine runE_tail rfl (by kernel_rfl) ?_
    refine ret_of (by simp) ⟨_, _, _, evl, ob0, OutOk.eq ?_ ?_⟩
    · rw [linkBoundsM, if_pos hf]; rfl
    · simp [AV.free, AV.freeL]
end Go.Proofs.Yticlpcgkaffdmaa
