import Derived.Test.YtchpbdecipcelaaGreatDoorSM38
namespace Go.Proofs.YtchpbdecipcelaaGreatDoor
set_option linter.unusedVariables false
set_option linter.unusedSimpArgs false
set_option maxHeartbeats 4000000
set_option maxRecDepth 100000
open Go.RowKit
theorem indexFunc_Ps (l : List (List Party)) (hl : l.length ≤ 4611686018427387904) (g : FuncId) (cap : List AV) (hcap : AV.freeL cap) (p : (List Party) → Bool) (hp : ∀ x ∈ l, FnA Tryz.prog g (lA 2 Party.av x :: cap) (.raw (.bool (p x)))) :
    FnA Tryz.prog 105 [lA 1 (fun l => [lA 2 Party.av l]) l, .fn (.func g) [] cap] (.raw (.int .i64 (idxM p l))) := by
  refine fnA_of tblOk Tryz.func105 rfl (by kernel_rfl) 19 Tryz.ntmps105 lenT [.tmp 4] rfl ?_
  simp only [entrySt, argSl, Nat.zero_add, Nat.reduceAdd]
  try refine wkG trivial ?_
  try (refine Stop.mk ?_; intro K hK)
  refine wpA_loop (fun k : Nat => ⟨19, 0, [(0, true, lA 1 (fun l => [lA 2 Party.av l]) l), (1, true, .fn (.func g) [] cap), (7, true, .raw (.int .i64 l.length)), (8, true, .raw (.int .i64 k))], [], [], ((0, []), [], true)⟩)
    (fun k => k ≤ l.length ∧ ∀ i, i < k → p (l.getD i default) = false) (fun k => l.length - k) 0 ?_ ⟨by omega, fun i h => by omega⟩ ?_
  · refine wkn ?_ ?_ ?_
    all_goals first | exact wk0 | refine wkS ?_ | skip
    all_goals (try trivial)
    all_goals ((repeat' apply And.intro) <;> first | exact wkL | skip)
  · rintro k ⟨hk, hall⟩
    try refine wkG trivial ?_
    try (refine Stop.mk ?_; intro K hK)
    refine wpA_cond' ⟨_, evl, ?_, ?_⟩
    · intro hlt
      simp only [decide_eq_true_eq] at hlt
      have hmem : l.getD k default ∈ l := by rw [List.getD_eq_getElem?_getD, List.getElem?_eq_getElem (show k < l.length by omega)]; exact List.getElem_mem _
      have hpk := hp _ hmem
      have hfe : AV.freeL ((fun l => [lA 2 Party.av l]) (l.getD k default)) := by first | exact ⟨lA_free (fun z => Party.free z) _, trivial⟩ | (simp [AV.free, AV.freeL, iC, u8C, kC]; done)
      try refine wkG hpk ?_
      try (refine Stop.mk ?_; intro K hK)
      refine wpA_cond' ⟨_, evl, ?_, ?_⟩
      · intro hb
        try refine wkG trivial ?_
        try (refine Stop.mk ?_; intro K hK)
        refine ret_of (by simp) ⟨_, _, _, evl, ob0, OutOk.eq ?_ ?_⟩
        · rw [idxM_hit (show k < l.length by omega) hall hb]
        · simp [AV.free]
      · intro hb
        try refine wkG trivial ?_
        try (refine Stop.mk ?_; intro K hK)
        refine ⟨k + 1, ⟨by omega, fun i hi => ?_⟩, by omega, ?_⟩
        · rcases Nat.lt_succ_iff_lt_or_eq.1 hi with h | rfl
          · exact hall i h
          · exact hb
        · refine wkn ?_ ?_ ?_
          all_goals first | exact wk0 | refine wkS ?_ | skip
          all_goals (try trivial)
          all_goals ((repeat' apply And.intro) <;> first | exact wkL | skip)
    · intro hge
      simp only [decide_eq_false_iff_not] at hge
      try refine wkG trivial ?_
      try (refine Stop.mk ?_; intro K hK)
      refine ret_of (by simp) ⟨_, _, _, evl, ob0, OutOk.eq ?_ ?_⟩
      · rw [idxM_none (fun i hi => hall i (by omega))]
      · simp [AV.free]
theorem containsFunc_Ps (l : List (List Party)) (hl : l.length ≤ 4611686018427387904) (g : FuncId) (cap : List AV) (hcap : AV.freeL cap) (p : (List Party) → Bool) (hp : ∀ x ∈ l, FnA Tryz.prog g (lA 2 Party.av x :: cap) (.raw (.bool (p x)))) :
    FnA Tryz.prog 59 [lA 1 (fun l => [lA 2 Party.av l]) l, .fn (.func g) [] cap] (.raw (.bool (l.any p))) := by
  have hi := indexFunc_Ps l hl g cap hcap p hp
  have hany := idxM_any p l
  have hfr : (lA 1 (fun l => [lA 2 Party.av l]) l).free := lA_free (fun y => show AV.freeL ((fun l => [lA 2 Party.av l]) y) from ⟨lA_free (fun z => Party.free z) _, trivial⟩) _
  generalize lA 1 (fun l => [lA 2 Party.av l]) l = L at hi hfr
  generalize idxM p l = i at hi hany
  refine fnA_of tblOk Tryz.func59 rfl (by kernel_rfl) 9 Tryz.ntmps59 lenT [.tmp 4] rfl ?_
  simp only [entrySt, argSl, Nat.zero_add, Nat.reduceAdd]
  repeat' first
    | refine wkG hi ?_
    | (refine cndS ⟨_, evl, ⟨cb, cb⟩, fun hb => ?_, fun hb => ?_⟩ <;> try (cases hb; done))
    | (refine Stop.mk ?_; intro K hK)
    | fail
  all_goals (try (refine ret_of (by simp) ⟨_, _, _, evl, ob0, OutOk.sims ?_ fre⟩))
  all_goals first | exact Sims.refl _ | exact finT | exact simsF | (refine Sims.tup ?_; simp only [SimsL, and_true]; (repeat' apply And.intro) <;> first | exact simsF | skip) | (exfalso; first | omega | (simp_all; done) | (simp_all; omega)) | skip
  all_goals (rw [hany])
theorem inSet_A (set : List Party) (hl : set.length ≤ 4611686018427387904) (p : Party) : FnA Tryz.prog 57 [.agg p.av, .elt [lA 2 Party.av set] 0] (.raw (.bool (!decide (p ∈ set)))) := by
  have h := hasP_A set hl p
  have hfr : (lA 2 Party.av set).free := lA_free (fun y => Party.free y) _
  generalize lA 2 Party.av set = L at *
  generalize decide (p ∈ set) = z at *
  refine fnA_of tblOk Tryz.func57 rfl (by kernel_rfl) 8 Tryz.ntmps57 lenT [.tmp 3] rfl ?_
  simp only [entrySt, argSl, Nat.zero_add, Nat.reduceAdd]
  repeat' first
    | refine wkG h ?_
    | (refine cndS ⟨_, evl, ⟨cb, cb⟩, fun hb => ?_, fun hb => ?_⟩ <;> try (cases hb; done))
    | (refine Stop.mk ?_; intro K hK)
    | fail
  all_goals (try (refine ret_of (by simp) ⟨_, _, _, evl, ob0, OutOk.sims ?_ fre⟩))
  all_goals first | exact Sims.refl _ | exact finT | exact simsF | (refine Sims.tup ?_; simp only [SimsL, and_true]; (repeat' apply And.intro) <;> first | exact simsF | skip) | (exfalso; first | omega | (simp_all; done) | (simp_all; omega)) | skip
theorem part_eq (a b : List Party) : Vd.part a b = !(a.any fun p => !decide (p ∈ b)) := by
  rw [Bool.eq_iff_iff, Vd.part_iff, Bool.not_eq_true', List.any_eq_false]
  simp
theorem larger_A (set : List Party) (hl : set.length ≤ 4611686018427387904) (small : List Party) (hs : small.length ≤ 4611686018427387904) : FnA Tryz.prog 56 [lA 2 Party.av small, .elt [lA 2 Party.av set] 0] (.raw (.bool (Vd.part small set))) := by
  have hfr : (lA 2 Party.av small).free := lA_free (fun y => Party.free y) _
  have hfs : (lA 2 Party.av set).free := lA_free (fun y => Party.free y) _
  have h := containsFunc_Pa small hs 57 [.elt [lA 2 Party.av set] 0] ⟨⟨hfs, trivial⟩, trivial⟩ (fun p => !decide (p ∈ set)) (fun p _ => inSet_A set hl p)
  rw [part_eq]
  generalize (small.any fun p => !decide (p ∈ set)) = z at *
  generalize lA 2 Party.av set = L at *
  refine fnA_of tblOk Tryz.func56 rfl (by kernel_rfl) 8 Tryz.ntmps56 lenT [.tmp 3] rfl ?_
  simp only [entrySt, argSl, Nat.zero_add, Nat.reduceAdd]
  repeat' first
    | refine wkG h ?_
    | (refine cndS ⟨_, evl, ⟨cb, cb⟩, fun hb => ?_, fun hb => ?_⟩ <;> try (cases hb; done))
    | (refine Stop.mk ?_; intro K hK)
    | fail
  all_goals (try (refine ret_of (by simp) ⟨_, _, _, evl, ob0, OutOk.sims ?_ fre⟩))
  all_goals first | exact Sims.refl _ | exact finT | exact simsF | (refine Sims.tup ?_; simp only [SimsL, and_true]; (repeat' apply And.intro) <;> first | exact simsF | skip) | (exfalso; first | omega | (simp_all; done) | (simp_all; omega)) | skip
def authsN (s : List Party) : Nat := s.countP fun p => decide (p.kind = 1)
def okS (f : Int) (l : List Bound) (n : Nat) (s : List Party) : Bool := decide ((authsN s : Int) ≤ f) && possM l n s
abbrev sC2 (x : List Party) : List AV := [lA 2 Party.av x]
abbrev rowS (O : List (List Party)) : ARow := ⟨32, 1, O.length, els sC2 O⟩
abbrev setsB (m : Matter) (O : List (List Party)) (l : List Bound) (n : Nat) : List (List AV) := [m.av, [.row 0 O.length], [lA 4 Bound.av l], [.raw (.int .i64 n)]]
theorem belRS {m : Nat} (O : List (List Party)) : belR m [rowS O] := by
  intro r hr q _
  simp only [List.mem_cons, List.not_mem_nil, or_false] at hr
  subst hr
  exact AV.belL_free _ ⟨lA_free (fun z => Party.free z) _, trivial⟩
theorem take_G (m : Matter) (O : List (List Party)) (l : List Bound) (n : Nat) (set : List Party) (hl : set.length ≤ 4611686018427387904) (hO : ∀ s ∈ O, s.length ≤ 4611686018427387904) (hOl : O.length ≤ 100000000000)
    (hp : FnA Tryz.prog 49 [lA 4 Bound.av l, .raw (.int .i64 n), lA 2 Party.av set] (.raw (.bool (possM l n set)))) :
    FnG Tryz.prog 55 [lA 2 Party.av set, .box 0 0, .box 1 0, .box 2 0, .box 3 0] (setsB m O l n) [rowS O] (.tup []) (setsB m (Vd.stepS (okS m.evidence.f l n) O set) l n) [rowS (Vd.stepS (okS m.evidence.f l n) O set)] := by
  have hfs : (lA 2 Party.av set).free := lA_free (fun y => Party.free y) _
  have hfl : (lA 4 Bound.av l).free := lA_free (fun y => Bound.free y) _
  have hm := Matter.free m
  have hfO : (lA 1 sC2 O).free := lA_free (fun y => show AV.freeL (sC2 y) from ⟨lA_free (fun z => Party.free z) _, trivial⟩) _
  have hc : FnA Tryz.prog 59 [lA 1 sC2 O, .fn (.func 56) [] [.elt [lA 2 Party.av set] 0]] (.raw (.bool (O.any fun t => Vd.part t set))) := containsFunc_Ps O (by omega) 56 [.elt [lA 2 Party.av set] 0] ⟨⟨hfs, trivial⟩, trivial⟩ (fun t => Vd.part t set) (fun t ht => larger_A set hl t (hO t ht))
  refine fnG_of tblOk Tryz.func55 rfl (by kernel_rfl) 44 Tryz.ntmps55 lenT [] rfl 4 (by simp) ?_
  simp only [entryG, argSl, Nat.zero_add, Nat.reduceAdd, List.length_cons, List.length_nil]
  try refine wkR trivial ?_
  try (refine Stop.mk ?_; intro K hK)
  refine wpA_loop (fun k : Nat => ⟨44, 68, [(1, true, .box 0 0), (2, true, .box 1 0), (3, true, .box 2 0), (4, true, .box 3 0), (5, true, .box 4 0), (6, true, .raw (.int .i64 (authsN (set.take k)))), (10, true, lA 2 Party.av set), (11, true, .raw (.int .i64 set.length)), (12, true, .raw (.int .i64 k))], setsB m O l n ++ [[lA 2 Party.av set]], [rowS O], ((0, []), [], true)⟩)
    (fun k => k ≤ set.length) (fun k => set.length - k) 0 ?_ (by omega) ?_
  · refine wkn ?_ ?_ ?_
    all_goals first | exact wk0 | refine wkS ?_ | skip
    all_goals (try trivial)
    all_goals ((repeat' apply And.intro) <;> first | exact wkL | skip)
  · intro k hk
    have hstep : k < set.length → (authsN (set.take (k + 1)) : Int) = authsN (set.take k) + if (set.getD k default).kind = 1 then 1 else 0 := fun h => by
      rw [List.take_succ_eq_append_getElem h, getD_get h]
      unfold authsN
      rw [List.countP_append, List.countP_singleton]
      by_cases hq : set[k].kind = 1 <;> simp [hq]
    have hal : authsN (set.take k) ≤ k := by
      unfold authsN
      exact Nat.le_trans List.countP_le_length (by rw [List.length_take]; omega)
    try refine wkR trivial ?_
    try (refine Stop.mk ?_; intro K hK)
    refine wpA_cond' ⟨_, evl, fun hlt => ?_, fun hge => ?_⟩
    · simp only [decide_eq_true_eq] at hlt
      have hs := hstep (by omega)
      generalize authsN (set.take k) = a0 at *
      try refine wkR trivial ?_
      try (refine Stop.mk ?_; intro K hK)
      refine wpA_cond' ⟨_, evl, fun hb => ?_, fun hb => ?_⟩
      · simp only [decide_eq_true_eq] at hb
        rw [if_pos hb] at hs
        try refine wkR trivial ?_
        try (refine Stop.mk ?_; intro K hK)
        refine ⟨k + 1, by omega, by omega, ?_⟩
        refine wkn ?_ ?_ ?_
        all_goals first | exact wk0 | refine wkS ?_ | skip
        all_goals (try trivial)
        all_goals ((repeat' apply And.intro) <;> first | exact wkL | skip)
        try exact Sims.of_eq (by rw [hs])
      · simp only [decide_eq_false_iff_not] at hb
        rw [if_neg hb] at hs
        try refine wkR trivial ?_
        try (refine Stop.mk ?_; intro K hK)
        refine ⟨k + 1, by omega, by omega, ?_⟩
        refine wkn ?_ ?_ ?_
        all_goals first | exact wk0 | refine wkS ?_ | skip
        all_goals (try trivial)
        all_goals ((repeat' apply And.intro) <;> first | exact wkL | skip)
        try exact Sims.of_eq (by rw [hs, Int.add_zero])
    · simp only [decide_eq_false_iff_not] at hge
      obtain rfl : k = set.length := by omega
      rw [List.take_length]
      have hok : Vd.stepS (okS m.evidence.f l n) O set = if (decide ((authsN set : Int) ≤ m.evidence.f) && !(O.any fun t => Vd.part t set)) && possM l n set then O ++ [set] else O := by
        unfold Vd.stepS okS
        congr 1
        cases decide ((authsN set : Int) ≤ m.evidence.f) <;> cases possM l n set <;> simp
      rw [hok]
      clear hok hstep hO hal
      generalize possM l n set = pm at *
      generalize (O.any fun t => Vd.part t set) = oa at *
      generalize authsN set = a0 at *
      repeat (refine stR ?_)
      refine wpA_freeze 4 obf ⟨_, evl, _, evl, ?_⟩
      try refine wkR (And.intro hc hp) ?_
      try (refine Stop.mk ?_; intro K hK)
      refine wpA_cond' ⟨_, evl, fun hb => ?_, fun hb => ?_⟩
      · rw [if_pos (by simpa using hb)]
        refine wpA_endW ?_
        try refine wkG trivial ?_
        try (refine Stop.mk ?_; intro K hK)
        refine ⟨⟨44, 68, [], setsB m (O ++ [set]) l n, [rowS (O ++ [set])], ((0, []), [], true)⟩, ?_, ?_⟩
        · have hlen : O.length + 1 = (O ++ [set]).length := by simp
          refine wkn ?_ ?_ ?_
          all_goals first | exact wk0 | refine wkS ?_ | skip
          all_goals (try trivial)
          all_goals ((repeat' apply And.intro) <;> first | exact wkL | skip)
          all_goals first | exact Sims.rowN hlen | exact hlen | skip
          exact fun q hq => SimsL.of_eq (els_snoc rfl (by omega) rfl)
        · refine retG_of (by simp) ⟨_, _, _, evl, obq, OutG.bel rfl obb, by simp, rfl, rfl, obb, belRS _⟩
      · rw [if_neg (by simpa using hb)]
        try refine wkR trivial ?_
        try (refine Stop.mk ?_; intro K hK)
        refine retG_of (by simp) ⟨_, _, _, evl, obq, OutG.bel rfl obb, by simp, rfl, rfl, obb, belRS _⟩
end Go.Proofs.YtchpbdecipcelaaGreatDoor
