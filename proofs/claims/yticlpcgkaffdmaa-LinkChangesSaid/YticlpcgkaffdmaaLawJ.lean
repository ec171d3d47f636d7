/- The statement LinkChanges, walked. -/
import Derived.Test.YticlpcgkaffdmaaLawF
import Derived.Test.YticlpcgkaffdmaaLawI
import Derived.Test.YticlpcgkaffdmaaAlTok3
namespace Go.Proofs.Yticlpcgkaffdmaa
set_option linter.unusedSectionVars false
set_option linter.unusedVariables false
set_option linter.unusedSimpArgs false
open Go.RowKit
def anyR (p : Nat → Bool) (k : Nat) : Bool := (List.range k).any p
theorem anyR_succ (p : Nat → Bool) (k : Nat) : anyR p (k + 1) = (anyR p k || p k) := by simp [anyR, List.range_succ]
theorem anyR_true {p : Nat → Bool} {n k : Nat} (h : k < n) (hp : p k = true) : anyR p n = true := by
  simp only [anyR, List.any_eq_true, List.mem_range]; exact ⟨k, h, hp⟩
theorem mem_gD {l : List Change} {x : Change} (h : x ∈ l) : ∃ k, k < l.length ∧ gD l k = x := by
  obtain ⟨k, hk, e⟩ := List.mem_iff_getElem.1 h
  exact ⟨k, hk, by rw [gD_eq hk]; exact e⟩
theorem FnA.lstN {P : Program} {f : FuncId} {args : List AV} {r : AV} {sz n n' : Nat} {el el' : Nat → List AV} (h : FnA P f (.lst sz n' el' :: args) r) (hn : n = n') (he : ∀ i, i < n → el i = el' i) : FnA P f (.lst sz n el :: args) r := by
  subst hn; exact h.lst0 he
def F1 (l : List Change) (a : Change) (k : Nat) : Bool := decide ((gD l k).outLo = a.outLo)
def F2 (l : List Change) (a : Change) (k : Nat) : Bool := decide ((gD l k).outHi = a.outHi)
def F3 (l : List Change) (a : Change) (k : Nat) : Bool := decide ((gD l k).backLo = a.backLo)
def F4 (l : List Change) (a : Change) (k : Nat) : Bool := decide ((gD l k).backHi = a.backHi)
def F5 (l : List Change) (b : Change) (t : Int) (k : Nat) : Bool := decide (t = b.at_) && (decide ((gD l k).outLo = b.outLo) && (decide ((gD l k).outHi = b.outHi) && (decide ((gD l k).backLo = b.backLo) && decide ((gD l k).backHi = b.backHi))))
def atA (m : Int) (c : Change) : Change := ⟨m, c.outLo, c.outHi, c.backLo, c.backHi⟩
set_option maxRecDepth 100000 in
set_option maxHeartbeats 8000000 in
theorem linkChanges_A (l : List Change) (i : Iv) (n : Int) (c : Change) (hn : inK .i64 n) : FnA Try.prog 8 [chL l, .agg i.c, .raw (.int .i64 n), .agg c.c] (.raw (.bool true)) := by
  have vl := fun h => validR_A l h
  have vi := validIR_A i
  have fc := formR_A c
  have b1 := fun h => linkBounds_A l i h
  unfold chL at vl b1 ⊢
  have hcut : (!decide (19 < (l.length : Int))) = true → l.length ≤ 19 := by simp; omega
  refine fnA_of tblOk Try.func8 rfl (by kernel_rfl) 208 Try.ntmps8 (by simp only [List.length_cons, List.length_nil]; omega) [.tmp 8] rfl ?_
  simp only [entrySt, argSl, Nat.zero_add, Nat.reduceAdd]
  by_cases hlen : 19 < l.length
  · have e1 : decide (19 < (l.length : Int)) = true := by simp; omega
    have vl0 : ∀ x : Bool, True := fun _ => trivial
    repeat
      first
        | refine thenA_n ?_
        | refine thenA_r ?_
        | refine thenA_e ?_
        | refine inBlockA_n ?_
        | refine inBlockA_r ?_
        | refine inBlockA_hit ?_
        | refine inBlockA_miss rfl ?_
        | refine wpA_seq' ?_
        | refine wpA_block ?_
        | refine wpA_skip ?_
        | refine wpA_ret ?_
        | refine wpA_exit ?_
        | refine wpA_label ?_
        | refine wpA_region (fun K hK => ?_)
        | (refine runS_nil (hK _ ?_); clear hK K)
        | refine wpA_drawE (by kernel_rfl) (by kernel_rfl) (fun K hK => ?_)
        | refine runS_pure tblOk rfl rfl ⟨_, evl, _, _, _, evl, obl, ?_⟩
        | refine runS_mk tblOk rfl rfl ⟨_, evl, _, _, _, evl, obl, ?_⟩
        | (refine runS_call rfl rfl ⟨_, evl, _, _, _, evl, obl, ?_⟩; apply Exists.intro; refine ⟨fun hg => ?_, ?_⟩; · first | exact head_A | exact vl (by simp at hg; omega) | exact vi | exact fc)
        | refine runE_pure tblOk rfl ⟨_, evl, _, _, _, evl, obl, ?_⟩
        | refine runE_mk tblOk rfl ⟨_, evl, _, _, _, evl, obl, ?_⟩
        | (refine runE_call rfl ⟨_, evl, _, _, _, evl, obl, ?_⟩; apply Exists.intro; refine ⟨fun hg => ?_, ?_⟩; · first | exact head_A | exact vl (by simp at hg; omega) | exact vi | exact fc)
        | refine sBox rfl rfl rfl rfl ⟨_, evl, ob1, _, evl, _, evl, ?_⟩
        | refine sAlloc tblOk rfl rfl rfl rfl ⟨_, evl, _, evl, _, evl, ?_⟩
        | refine sStore tblOk rfl rfl rfl ⟨_, _, evl, _, evl, _, evl, _, evl, ob1, _, evl, ?_⟩
        | refine runE_tail rfl (by kernel_rfl) ?_
    refine wpA_cond' ⟨_, evl, ?_, ?_⟩
    · intro hb
      repeat
        first
          | refine thenA_n ?_
          | refine thenA_r ?_
          | refine thenA_e ?_
          | refine inBlockA_n ?_
          | refine inBlockA_r ?_
          | refine inBlockA_hit ?_
          | refine inBlockA_miss rfl ?_
          | refine wpA_seq' ?_
          | refine wpA_block ?_
          | refine wpA_skip ?_
          | refine wpA_ret ?_
          | refine wpA_exit ?_
          | refine wpA_label ?_
          | refine wpA_region (fun K hK => ?_)
          | (refine runS_nil (hK _ ?_); clear hK K)
          | refine wpA_drawE (by kernel_rfl) (by kernel_rfl) (fun K hK => ?_)
          | refine runS_pure tblOk rfl rfl ⟨_, evl, _, _, _, evl, obl, ?_⟩
          | refine runS_mk tblOk rfl rfl ⟨_, evl, _, _, _, evl, obl, ?_⟩
          | refine runE_pure tblOk rfl ⟨_, evl, _, _, _, evl, obl, ?_⟩
          | refine runE_mk tblOk rfl ⟨_, evl, _, _, _, evl, obl, ?_⟩
          | refine sBox rfl rfl rfl rfl ⟨_, evl, ob1, _, evl, _, evl, ?_⟩
          | refine sAlloc tblOk rfl rfl rfl rfl ⟨_, evl, _, evl, _, evl, ?_⟩
          | refine sStore tblOk rfl rfl rfl ⟨_, _, evl, _, evl, _, evl, _, evl, ob1, _, evl, ?_⟩
          | refine runE_tail rfl (by kernel_rfl) ?_
      refine ret_of (by simp) ⟨_, _, _, evl, ob0, OutOk.eq ?_ ?_⟩
      · rfl
      · simp [AV.free]
    · intro hb
      simp at hb
      omega
  have vl := vl (by omega)
  have b1 := b1 (by omega)
  repeat
    first
      | refine thenA_n ?_
      | refine thenA_r ?_
      | refine thenA_e ?_
      | refine inBlockA_n ?_
      | refine inBlockA_r ?_
      | refine inBlockA_hit ?_
      | refine inBlockA_miss rfl ?_
      | refine wpA_seq' ?_
      | refine wpA_block ?_
      | refine wpA_skip ?_
      | refine wpA_ret ?_
      | refine wpA_exit ?_
      | refine wpA_label ?_
      | refine wpA_region (fun K hK => ?_)
      | (refine runS_nil (hK _ ?_); clear hK K)
      | refine wpA_drawE (by kernel_rfl) (by kernel_rfl) (fun K hK => ?_)
      | refine runS_pure tblOk rfl rfl ⟨_, evl, _, _, _, evl, obl, ?_⟩
      | refine runS_mk tblOk rfl rfl ⟨_, evl, _, _, _, evl, obl, ?_⟩
      | (refine runS_call rfl rfl ⟨_, evl, _, _, _, evl, obl, ?_⟩; apply Exists.intro; refine ⟨fun hg => ?_, ?_⟩; · first | exact head_A | exact vl | exact vi | exact fc)
      | refine runE_pure tblOk rfl ⟨_, evl, _, _, _, evl, obl, ?_⟩
      | refine runE_mk tblOk rfl ⟨_, evl, _, _, _, evl, obl, ?_⟩
      | (refine runE_call rfl ⟨_, evl, _, _, _, evl, obl, ?_⟩; apply Exists.intro; refine ⟨fun hg => ?_, ?_⟩; · first | exact head_A | exact vl | exact vi | exact fc)
      | refine sBox rfl rfl rfl rfl ⟨_, evl, ob1, _, evl, _, evl, ?_⟩
      | refine sAlloc tblOk rfl rfl rfl rfl ⟨_, evl, _, evl, _, evl, ?_⟩
      | refine sStore tblOk rfl rfl rfl ⟨_, _, evl, _, evl, _, evl, _, evl, ob1, _, evl, ?_⟩
      | refine runE_tail rfl (by kernel_rfl) ?_
  refine wpA_cond' ⟨_, evl, ?_, ?_⟩
  · intro hb
    repeat
      first
        | refine thenA_n ?_
        | refine thenA_r ?_
        | refine thenA_e ?_
        | refine inBlockA_n ?_
        | refine inBlockA_r ?_
        | refine inBlockA_hit ?_
        | refine inBlockA_miss rfl ?_
        | refine wpA_seq' ?_
        | refine wpA_block ?_
        | refine wpA_skip ?_
        | refine wpA_ret ?_
        | refine wpA_exit ?_
        | refine wpA_label ?_
        | refine wpA_region (fun K hK => ?_)
        | (refine runS_nil (hK _ ?_); clear hK K)
        | refine wpA_drawE (by kernel_rfl) (by kernel_rfl) (fun K hK => ?_)
        | refine runS_pure tblOk rfl rfl ⟨_, evl, _, _, _, evl, obl, ?_⟩
        | refine runS_mk tblOk rfl rfl ⟨_, evl, _, _, _, evl, obl, ?_⟩
        | refine runE_pure tblOk rfl ⟨_, evl, _, _, _, evl, obl, ?_⟩
        | refine runE_mk tblOk rfl ⟨_, evl, _, _, _, evl, obl, ?_⟩
        | refine sBox rfl rfl rfl rfl ⟨_, evl, ob1, _, evl, _, evl, ?_⟩
        | refine sAlloc tblOk rfl rfl rfl rfl ⟨_, evl, _, evl, _, evl, ?_⟩
        | refine sStore tblOk rfl rfl rfl ⟨_, _, evl, _, evl, _, evl, _, evl, ob1, _, evl, ?_⟩
        | refine runE_tail rfl (by kernel_rfl) ?_
    refine ret_of (by simp) ⟨_, _, _, evl, ob0, OutOk.eq ?_ ?_⟩
    · rfl
    · simp [AV.free]
  intro hb
  simp at hb
  obtain ⟨⟨⟨hb1, hv⟩, hi⟩, hc⟩ := hb
  have hvP := hv
  rw [validM, decide_eq_true_eq] at hvP
  obtain ⟨v1, v2, v3, v4, v5⟩ := hvP
  have hi' := (validI_iff i).1 hi
  have hpl := placeM_in (i := i) n hi'.2.1
  have p1 := place_A i n hi' hn
  obtain ⟨a, b, C⟩ := chP_of (t := placeM i n) hv hi hpl
  generalize placeM i n = t at hpl p1 C
  have b2 := linkBounds_A l ⟨t, t⟩ (by omega)
  rw [C.ea] at b1
  rw [C.eb] at b2
  unfold chL at b2
  have ha := C.ta
  have hbt := C.tb
  have n1 := C.n1
  have n2 := C.n2
  have n3 := C.n3
  have n4 := C.n4
  simp only at b1 b2
  repeat
    first
      | refine thenA_n ?_
      | refine thenA_r ?_
      | refine thenA_e ?_
      | refine inBlockA_n ?_
      | refine inBlockA_r ?_
      | refine inBlockA_hit ?_
      | refine inBlockA_miss rfl ?_
      | refine wpA_seq' ?_
      | refine wpA_block ?_
      | refine wpA_skip ?_
      | refine wpA_ret ?_
      | refine wpA_exit ?_
      | refine wpA_label ?_
      | refine wpA_region (fun K hK => ?_)
      | (refine runS_nil (hK _ ?_); clear hK K)
      | refine wpA_drawE (by kernel_rfl) (by kernel_rfl) (fun K hK => ?_)
      | refine runS_pure tblOk rfl rfl ⟨_, evl, _, _, _, evl, obl, ?_⟩
      | refine runS_mk tblOk rfl rfl ⟨_, evl, _, _, _, evl, obl, ?_⟩
      | (refine runS_call rfl rfl ⟨_, evl, _, _, _, evl, obl, ?_⟩; apply Exists.intro; refine ⟨fun hg => ?_, ?_⟩; · first | exact p1 | exact b1 | exact b2)
      | refine runE_pure tblOk rfl ⟨_, evl, _, _, _, evl, obl, ?_⟩
      | refine runE_mk tblOk rfl ⟨_, evl, _, _, _, evl, obl, ?_⟩
      | (refine runE_call rfl ⟨_, evl, _, _, _, evl, obl, ?_⟩; apply Exists.intro; refine ⟨fun hg => ?_, ?_⟩; · first | exact p1 | exact b1 | exact b2)
      | refine sBox rfl rfl rfl rfl ⟨_, evl, ob1, _, evl, _, evl, ?_⟩
      | refine sAlloc tblOk rfl rfl rfl rfl ⟨_, evl, _, evl, _, evl, ?_⟩
      | refine sStore tblOk rfl rfl rfl ⟨_, _, evl, _, evl, _, evl, _, evl, ob1, _, evl, ?_⟩
      | refine runE_tail rfl (by kernel_rfl) ?_
  refine wpA_cond' ⟨_, evl, ?_, ?_⟩
  · intro h
    exfalso
    simp [ha, hbt] at h
  intro _
  repeat
    first
      | refine thenA_n ?_
      | refine thenA_r ?_
      | refine thenA_e ?_
      | refine inBlockA_n ?_
      | refine inBlockA_r ?_
      | refine inBlockA_hit ?_
      | refine inBlockA_miss rfl ?_
      | refine wpA_seq' ?_
      | refine wpA_block ?_
      | refine wpA_skip ?_
      | refine wpA_ret ?_
      | refine wpA_exit ?_
      | refine wpA_label ?_
      | refine wpA_region (fun K hK => ?_)
      | (refine runS_nil (hK _ ?_); clear hK K)
      | refine wpA_drawE (by kernel_rfl) (by kernel_rfl) (fun K hK => ?_)
      | refine runS_pure tblOk rfl rfl ⟨_, evl, _, _, _, evl, obl, ?_⟩
      | refine runS_mk tblOk rfl rfl ⟨_, evl, _, _, _, evl, obl, ?_⟩
      | refine runE_pure tblOk rfl ⟨_, evl, _, _, _, evl, obl, ?_⟩
      | refine runE_mk tblOk rfl ⟨_, evl, _, _, _, evl, obl, ?_⟩
      | refine sBox rfl rfl rfl rfl ⟨_, evl, ob1, _, evl, _, evl, ?_⟩
      | refine sAlloc tblOk rfl rfl rfl rfl ⟨_, evl, _, evl, _, evl, ?_⟩
      | refine sStore tblOk rfl rfl rfl ⟨_, _, evl, _, evl, _, evl, _, evl, ob1, _, evl, ?_⟩
      | refine runE_tail rfl (by kernel_rfl) ?_
  refine wpA_loop (fun k : Nat => ⟨208, 0, [(0, true, .lst 5 l.length fun i => (gD l i).c), (5, true, .box 0 0), (7, true, .box 1 0), (9, true, .raw (.bool true)), (10, true, .raw (.int .i64 t)), (11, true, .box 2 0), (13, true, .box 3 0), (15, true, .box 4 0),
      (106, true, .lst 5 l.length fun i => (gD l i).c), (107, true, .raw (.int .i64 l.length)), (108, true, .raw (.int .i64 k))],
      [i.c, c.c, a.c, b.c, [.raw (.bool (anyR (F1 l a) k)), .raw (.bool (anyR (F2 l a) k)), .raw (.bool (anyR (F3 l a) k)), .raw (.bool (anyR (F4 l a) k)), .raw (.bool (anyR (F5 l b t) k))]], [], ((0, []), [], true)⟩)
    (fun k => k ≤ l.length) (fun k => l.length - k) 0 ?_ (by omega) ?_
  · refine Weak.mk rfl ?_ ?_
    rotate_left
    · simp [belS, belB, AV.bel, AV.belL, go_sem]
    (try simp only [SubSl, lookN_cons, ↓reduceIte, Nat.reduceEqDiff, and_true, true_and, Option.some.injEq, Prod.mk.injEq, AV.raw.injEq, Value.int.injEq, Value.bool.injEq])
    all_goals ((repeat' apply And.intro) <;> first | rfl | omega | (simp; done) | (simp; omega))
  · intro k hk
    repeat
      first
        | refine thenA_n ?_
        | refine thenA_r ?_
        | refine thenA_e ?_
        | refine inBlockA_n ?_
        | refine inBlockA_r ?_
        | refine inBlockA_hit ?_
        | refine inBlockA_miss rfl ?_
        | refine wpA_seq' ?_
        | refine wpA_block ?_
        | refine wpA_skip ?_
        | refine wpA_ret ?_
        | refine wpA_exit ?_
        | refine wpA_label ?_
        | refine wpA_region (fun K hK => ?_)
        | (refine runS_nil (hK _ ?_); clear hK K)
        | refine wpA_drawE (by kernel_rfl) (by kernel_rfl) (fun K hK => ?_)
        | refine runS_pure tblOk rfl rfl ⟨_, evl, _, _, _, evl, obl, ?_⟩
        | refine runS_mk tblOk rfl rfl ⟨_, evl, _, _, _, evl, obl, ?_⟩
        | refine runE_pure tblOk rfl ⟨_, evl, _, _, _, evl, obl, ?_⟩
        | refine runE_mk tblOk rfl ⟨_, evl, _, _, _, evl, obl, ?_⟩
        | refine sBox rfl rfl rfl rfl ⟨_, evl, ob1, _, evl, _, evl, ?_⟩
        | refine sAlloc tblOk rfl rfl rfl rfl ⟨_, evl, _, evl, _, evl, ?_⟩
        | refine sStore tblOk rfl rfl rfl ⟨_, _, evl, _, evl, _, evl, _, evl, ob1, _, evl, ?_⟩
        | refine runE_tail rfl (by kernel_rfl) ?_
    refine wpA_cond' ⟨_, evl, ?_, ?_⟩
    · intro hlt
      simp only [decide_eq_true_eq] at hlt
      repeat
        first
          | refine thenA_n ?_
          | refine thenA_r ?_
          | refine thenA_e ?_
          | refine inBlockA_n ?_
          | refine inBlockA_r ?_
          | refine inBlockA_hit ?_
          | refine inBlockA_miss rfl ?_
          | refine wpA_seq' ?_
          | refine wpA_block ?_
          | refine wpA_skip ?_
          | refine wpA_ret ?_
          | refine wpA_exit ?_
          | refine wpA_label ?_
          | refine wpA_region (fun K hK => ?_)
          | (refine runS_nil (hK _ ?_); clear hK K)
          | refine wpA_drawE (by kernel_rfl) (by kernel_rfl) (fun K hK => ?_)
          | refine runS_pure tblOk rfl rfl ⟨_, evl, _, _, _, evl, obl, ?_⟩
          | refine runS_mk tblOk rfl rfl ⟨_, evl, _, _, _, evl, obl, ?_⟩
          | refine runE_pure tblOk rfl ⟨_, evl, _, _, _, evl, obl, ?_⟩
          | refine runE_mk tblOk rfl ⟨_, evl, _, _, _, evl, obl, ?_⟩
          | refine sBox rfl rfl rfl rfl ⟨_, evl, ob1, _, evl, _, evl, ?_⟩
          | refine sAlloc tblOk rfl rfl rfl rfl ⟨_, evl, _, evl, _, evl, ?_⟩
          | refine sStore tblOk rfl rfl rfl ⟨_, _, evl, _, evl, _, evl, _, evl, ob1, _, evl, ?_⟩
          | refine runE_tail rfl (by kernel_rfl) ?_
      refine ⟨k + 1, by omega, by omega, ?_⟩
      simp only [anyR_succ]
      refine Weak.mk rfl ?_ ?_
      rotate_left
      · simp [belS, belB, AV.bel, AV.belL, go_sem]
      (try simp only [SubSl, lookN_cons, ↓reduceIte, Nat.reduceEqDiff, and_true, true_and, Option.some.injEq, Prod.mk.injEq, AV.raw.injEq, Value.int.injEq, Value.bool.injEq])
      all_goals ((repeat' apply And.intro) <;> first | rfl | omega | (simp; done) | (simp; omega))
    · intro hge
      simp only [decide_eq_false_iff_not] at hge
      have : k = l.length := by omega
      subst this
      have A1 : anyR (F1 l a) l.length = true := by obtain ⟨x, hx, e⟩ := C.f1; obtain ⟨k, hk, rfl⟩ := mem_gD hx; exact anyR_true hk (by simp [F1, e])
      have A2 : anyR (F2 l a) l.length = true := by obtain ⟨x, hx, e⟩ := C.f2; obtain ⟨k, hk, rfl⟩ := mem_gD hx; exact anyR_true hk (by simp [F2, e])
      have A3 : anyR (F3 l a) l.length = true := by obtain ⟨x, hx, e⟩ := C.f3; obtain ⟨k, hk, rfl⟩ := mem_gD hx; exact anyR_true hk (by simp [F3, e])
      have A4 : anyR (F4 l a) l.length = true := by obtain ⟨x, hx, e⟩ := C.f4; obtain ⟨k, hk, rfl⟩ := mem_gD hx; exact anyR_true hk (by simp [F4, e])
      have A5 : anyR (F5 l b t) l.length = true := by obtain ⟨x, hx, e⟩ := C.f5; obtain ⟨k, hk, rfl⟩ := mem_gD hx; exact anyR_true hk (by rw [← e]; simp [F5])
      simp only [A1, A2, A3, A4, A5]
      repeat
        first
          | refine thenA_n ?_
          | refine thenA_r ?_
          | refine thenA_e ?_
          | refine inBlockA_n ?_
          | refine inBlockA_r ?_
          | refine inBlockA_hit ?_
          | refine inBlockA_miss rfl ?_
          | refine wpA_seq' ?_
          | refine wpA_block ?_
          | refine wpA_skip ?_
          | refine wpA_ret ?_
          | refine wpA_exit ?_
          | refine wpA_label ?_
          | refine wpA_region (fun K hK => ?_)
          | (refine runS_nil (hK _ ?_); clear hK K)
          | refine wpA_drawE (by kernel_rfl) (by kernel_rfl) (fun K hK => ?_)
          | refine runS_pure tblOk rfl rfl ⟨_, evl, _, _, _, evl, obl, ?_⟩
          | refine runS_mk tblOk rfl rfl ⟨_, evl, _, _, _, evl, obl, ?_⟩
          | refine runE_pure tblOk rfl ⟨_, evl, _, _, _, evl, obl, ?_⟩
          | refine runE_mk tblOk rfl ⟨_, evl, _, _, _, evl, obl, ?_⟩
          | refine sBox rfl rfl rfl rfl ⟨_, evl, ob1, _, evl, _, evl, ?_⟩
          | refine sAlloc tblOk rfl rfl rfl rfl ⟨_, evl, _, evl, _, evl, ?_⟩
          | refine sStore tblOk rfl rfl rfl ⟨_, _, evl, _, evl, _, evl, _, evl, ob1, _, evl, ?_⟩
          | refine runE_tail rfl (by kernel_rfl) ?_
      refine wpA_cond' ⟨_, evl, ?_, ?_⟩
      · intro h
        exfalso
        simp at h
      intro _
      repeat
        first
          | refine thenA_n ?_
          | refine thenA_r ?_
          | refine thenA_e ?_
          | refine inBlockA_n ?_
          | refine inBlockA_r ?_
          | refine inBlockA_hit ?_
          | refine inBlockA_miss rfl ?_
          | refine wpA_seq' ?_
          | refine wpA_block ?_
          | refine wpA_skip ?_
          | refine wpA_ret ?_
          | refine wpA_exit ?_
          | refine wpA_label ?_
          | refine wpA_region (fun K hK => ?_)
          | (refine runS_nil (hK _ ?_); clear hK K)
          | refine wpA_drawE (by kernel_rfl) (by kernel_rfl) (fun K hK => ?_)
          | refine runS_pure tblOk rfl rfl ⟨_, evl, _, _, _, evl, obl, ?_⟩
          | refine runS_mk tblOk rfl rfl ⟨_, evl, _, _, _, evl, obl, ?_⟩
          | refine runE_pure tblOk rfl ⟨_, evl, _, _, _, evl, obl, ?_⟩
          | refine runE_mk tblOk rfl ⟨_, evl, _, _, _, evl, obl, ?_⟩
          | refine sBox rfl rfl rfl rfl ⟨_, evl, ob1, _, evl, _, evl, ?_⟩
          | refine sAlloc tblOk rfl rfl rfl rfl ⟨_, evl, _, evl, _, evl, ?_⟩
          | refine sStore tblOk rfl rfl rfl ⟨_, _, evl, _, evl, _, evl, _, evl, ob1, _, evl, ?_⟩
          | refine runE_tail rfl (by kernel_rfl) ?_
      refine wpA_cond' ⟨_, evl, ?_, ?_⟩
      · intro h
        repeat
          first
            | refine thenA_n ?_
            | refine thenA_r ?_
            | refine thenA_e ?_
            | refine inBlockA_n ?_
            | refine inBlockA_r ?_
            | refine inBlockA_hit ?_
            | refine inBlockA_miss rfl ?_
            | refine wpA_seq' ?_
            | refine wpA_block ?_
            | refine wpA_skip ?_
            | refine wpA_ret ?_
            | refine wpA_exit ?_
            | refine wpA_label ?_
            | refine wpA_region (fun K hK => ?_)
            | (refine runS_nil (hK _ ?_); clear hK K)
            | refine wpA_drawE (by kernel_rfl) (by kernel_rfl) (fun K hK => ?_)
            | refine runS_pure tblOk rfl rfl ⟨_, evl, _, _, _, evl, obl, ?_⟩
            | refine runS_mk tblOk rfl rfl ⟨_, evl, _, _, _, evl, obl, ?_⟩
            | refine runE_pure tblOk rfl ⟨_, evl, _, _, _, evl, obl, ?_⟩
            | refine runE_mk tblOk rfl ⟨_, evl, _, _, _, evl, obl, ?_⟩
            | refine sBox rfl rfl rfl rfl ⟨_, evl, ob1, _, evl, _, evl, ?_⟩
            | refine sAlloc tblOk rfl rfl rfl rfl ⟨_, evl, _, evl, _, evl, ?_⟩
            | refine sStore tblOk rfl rfl rfl ⟨_, _, evl, _, evl, _, evl, _, evl, ob1, _, evl, ?_⟩
            | refine runE_tail rfl (by kernel_rfl) ?_
        refine ret_of (by simp) ⟨_, _, _, evl, ob0, OutOk.eq ?_ ?_⟩
        · rfl
        · simp [AV.free]
      intro h
      have e : ((l.length : Int) - 1).toNat = l.length - 1 := by omega
      simp [e] at h
      have b3 := linkBounds_A (l ++ [atA (max i.hi (gD l (l.length - 1)).at_ + 1) c]) i (by simp; omega)
      rw [bounds_app hv (by omega) (by rw [formed_iff] at hc ⊢; exact hc) (by simp only [atA]; omega) (by simp only [atA]; omega) (by simp only [atA]; omega) hi, C.ea] at b3
      unfold chL at b3
      simp only at b3
      have hel : ∀ q, q < l.length + 1 → appEl l.length (appEl 0 (chunkA 5 []) fun i => (gD l i).c) (chunkA 5 (atA (max i.hi (gD l (l.length - 1)).at_ + 1) c).c) q =
          (gD (l ++ [atA (max i.hi (gD l (l.length - 1)).at_ + 1) c]) q).c := by
        intro q hq
        by_cases hql : q < l.length
        · rw [appEl_lt hql, appEl_ge (Nat.zero_le _), gD_app hql]; rfl
        · obtain rfl : q = l.length := by omega
          rw [appEl_ge (Nat.le_refl _), gD_last, Nat.sub_self]; rfl
      rw [show ((l.length : Int) - 1).toNat = l.length - 1 from e]
      repeat
        first
          | refine thenA_n ?_
          | refine thenA_r ?_
          | refine thenA_e ?_
          | refine inBlockA_n ?_
          | refine inBlockA_r ?_
          | refine inBlockA_hit ?_
          | refine inBlockA_miss rfl ?_
          | refine wpA_seq' ?_
          | refine wpA_block ?_
          | refine wpA_skip ?_
          | refine wpA_ret ?_
          | refine wpA_exit ?_
          | refine wpA_label ?_
          | refine wpA_region (fun K hK => ?_)
          | (refine runS_nil (hK _ ?_); clear hK K)
          | refine wpA_drawF (by kernel_rfl) (by kernel_rfl) (fun K hK => ?_)
          | refine runS_pure tblOk rfl rfl ⟨_, evl, _, _, _, evl, oblF, ?_⟩
          | refine runS_mk tblOk rfl rfl ⟨_, evl, _, _, _, evl, oblF, ?_⟩
          | (refine runS_call rfl rfl ⟨_, evl, _, _, _, evl, oblF, ?_⟩; apply Exists.intro; refine ⟨fun hg => ?_, ?_⟩; · first | exact b3.lstN (by simp) hel)
          | refine runF_pure tblOk rfl ⟨_, evl, _, _, _, evl, oblF, ?_⟩
          | refine runF_mkRow tblOk rfl rfl ⟨_, _, _, evl, obq, _, evl, ?_⟩
          | refine runF_app tblOk rfl rfl ⟨_, _, _, _, _, _, _, evl, rfl, obq, _, evl, _, evl, _, evl, _, _, evl, obq, obq, obq, _, evl, _, evl, ?_⟩
          | refine runF_alloc tblOk rfl rfl rfl ⟨_, evl, _, evl, _, evl, ?_⟩
          | refine runF_mk tblOk rfl ⟨_, evl, _, _, _, evl, oblF, ?_⟩
          | (refine runF_call rfl ⟨_, evl, _, _, _, evl, oblF, ?_⟩; apply Exists.intro; refine ⟨fun hg => ?_, ?_⟩; · first | exact b3.lstN (by simp) hel)
          | refine sBox rfl rfl rfl rfl ⟨_, evl, ob1, _, evl, _, evl, ?_⟩
          | refine sAlloc tblOk rfl rfl rfl rfl ⟨_, evl, _, evl, _, evl, ?_⟩
          | refine sStore tblOk rfl rfl rfl ⟨_, _, evl, _, evl, _, evl, _, evl, ob1, _, evl, ?_⟩
          | refine runF_tail rfl (by kernel_rfl) ⟨_, evl, ?_⟩
      refine ret_of (by simp) ⟨_, _, _, evl, ob0, OutOk.eq ?_ ?_⟩
      · simp
      · simp [AV.free]
end Go.Proofs.Yticlpcgkaffdmaa
