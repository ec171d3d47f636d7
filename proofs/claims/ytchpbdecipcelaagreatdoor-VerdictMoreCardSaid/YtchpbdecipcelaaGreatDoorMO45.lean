import Derived.Test.YtchpbdecipcelaaGreatDoorMO44
namespace Go.Proofs.YtchpbdecipcelaaGreatDoor
set_option linter.unusedVariables false
set_option linter.unusedSimpArgs false
set_option maxHeartbeats 4000000
set_option maxRecDepth 100000
open Go.RowKit
theorem without_A (p : Party) (set : List Party) (hl : set.length ≤ 4611686018427387904) : FnA Tryz.prog 62 [lA 2 Party.av set, .elt p.av 0] (.raw (.bool (!decide (p ∈ set)))) := by
  have h := hasP_A set hl p
  have hfr : (lA 2 Party.av set).free := lA_free (fun y => Party.free y) _
  generalize lA 2 Party.av set = L at *
  generalize decide (p ∈ set) = z at *
  refine fnA_of tblOk Tryz.func62 rfl (by kernel_rfl) 8 Tryz.ntmps62 lenT [.tmp 3] rfl ?_
  simp only [entrySt, argSl, Nat.zero_add, Nat.reduceAdd]
  repeat' first
    | refine wkG h ?_
    | (refine cndS ⟨_, evl, ⟨cb, cb⟩, fun hb => ?_, fun hb => ?_⟩ <;> try (cases hb; done))
    | (refine Stop.mk ?_; intro K hK)
    | fail
  all_goals (try (refine ret_of (by simp) ⟨_, _, _, evl, ob0, OutOk.sims ?_ fre⟩))
  all_goals first | exact Sims.refl _ | exact finT | exact simsF | (refine Sims.tup ?_; simp only [SimsL, and_true]; (repeat' apply And.intro) <;> first | exact simsF | skip) | (exfalso; first | omega | (simp_all; done) | (simp_all; omega)) | skip
def sureM (m : Matter) (most : Int) : List Party × Int :=
  if (setsM m most).2 ≠ 0 then ([], (setsM m most).2) else if (setsM m most).1 = [] then ([], 4) else (Vd.sureOf (setsM m most).1, 0)
theorem outNilP (st : ASt) (a : Int) : OutOk st (.tup [.raw (.slice none 0 0), .raw (.int .i64 a)]) (.tup [lA 2 Party.av [], .raw (.int .i64 a)]) :=
  OutOk.sims (Sims.tup (show SimsL _ _ [_, _] [_, _] from ⟨(Sim.nil rfl).s, Sims.refl _, trivial⟩)) ⟨fun i h => absurd h (Nat.not_lt_zero _), trivial, trivial⟩
theorem sets_short {m : Matter} {most : Int} (hB : BOk m) : (setsM m most).1.length ≤ 200 ∧ ∀ s ∈ (setsM m most).1, s.length ≤ 3 := by
  unfold setsM
  split
  · exact ⟨by simp, fun s hs => by simp at hs⟩
  · split
    · exact ⟨by simp, fun s hs => by simp at hs⟩
    · split
      · exact ⟨by simp, fun s hs => by simp at hs⟩
      · rename_i h1 h2 h3
        refine ⟨by simp only; omega, fun s hs => ?_⟩
        have := (Vd.setsOf_ok hs).2.1
        omega
abbrev rowP (l : List Party) : ARow := ⟨57, 2, l.length, els Party.av l⟩
theorem Sure_A (m : Matter) (h : OkM m) (hB : BOk m) (most : Int) : FnA Tryz.prog 20 [.agg m.av, .raw (.int .i64 most)] (.tup [lA 2 Party.av (sureM m most).1, .raw (.int .i64 (sureM m most).2)]) := by
  have hs := Sets_A m h hB most
  have hm := Matter.free m
  have hsh := sets_short (most := most) hB
  unfold sureM
  generalize setsM m most = E at *
  obtain ⟨S, e⟩ := E
  simp only at hs hsh ⊢
  have hfS : (lA 1 sC2 S).free := lA_free (fun y => show AV.freeL (sC2 y) from ⟨lA_free (fun z => Party.free z) _, trivial⟩) _
  refine fnA_of tblOk Tryz.func20 rfl (by kernel_rfl) 43 Tryz.ntmps20 lenT [.tmp 4, .tmp 5] rfl ?_
  simp only [entrySt, argSl, Nat.zero_add, Nat.reduceAdd]
  try refine wkG hs ?_
  try (refine Stop.mk ?_; intro K hK)
  refine wpA_cond' ⟨_, evl, fun he => ?_, fun he => ?_⟩
  · simp only [Bool.not_eq_true', decide_eq_false_iff_not] at he
    rw [if_pos he]
    try refine wkG trivial ?_
    try (refine Stop.mk ?_; intro K hK)
    exact ret_of (by simp) ⟨_, _, _, evl, ob0, outNilP _ _⟩
  · simp only [Bool.not_eq_false', decide_eq_true_eq] at he
    subst he
    simp only [ne_eq, not_true_eq_false, if_false]
    try refine wkG trivial ?_
    try (refine Stop.mk ?_; intro K hK)
    refine wpA_cond' ⟨_, evl, fun he => ?_, fun he => ?_⟩
    · simp only [decide_eq_true_eq] at he
      rw [if_pos (List.length_eq_zero_iff.1 (by omega))]
      try refine wkG trivial ?_
      try (refine Stop.mk ?_; intro K hK)
      exact ret_of (by simp) ⟨_, _, _, evl, ob0, outNilP _ _⟩
    · simp only [decide_eq_false_iff_not] at he
      have hne : S ≠ [] := fun e => he (by rw [e]; rfl)
      rw [if_neg hne]
      have h0 : 0 < S.length := by omega
      have hS0 : S.headD [] = S.getD 0 default := by cases S <;> simp_all
      have hl0 : (S.getD 0 default).length ≤ 3 := hsh.2 _ (by rw [getD_get h0]; exact List.getElem_mem _)
      have hsu : Vd.sureOf S = (S.getD 0 default).filter fun p => !(S.any fun s => !decide (p ∈ s)) := by
        unfold Vd.sureOf
        rw [hS0]
        congr 1
        funext p
        rw [List.any_eq_not_all_not]
        simp
      rw [hsu]
      clear hsu hS0
      try refine wkG trivial ?_
      try (refine Stop.mk ?_; intro K hK)
      refine wpA_weak (Weak.nilRow 8 57 2 rfl) ?_
      generalize hS0 : S.getD 0 default = S0 at *
      have hf0 : (lA 2 Party.av S0).free := lA_free (fun z => Party.free z) _
      refine wpA_loop (fun k : Nat => ⟨43, 0, [(6, true, lA 1 sC2 S), (8, true, .row 0 ((S0.take k).filter fun p => !(S.any fun s => !decide (p ∈ s))).length), (26, true, lA 2 Party.av S0), (27, true, .raw (.int .i64 S0.length)), (28, true, .raw (.int .i64 k))], [m.av], [rowP ((S0.take k).filter fun p => !(S.any fun s => !decide (p ∈ s)))], ((0, []), [], true)⟩)
        (fun k => k ≤ S0.length) (fun k => S0.length - k) 0 ?_ (by omega) ?_
      · simp only [List.take_zero, List.filter_nil, List.length_nil]
        refine wkn ?_ ?_ ?_
        all_goals first | exact wk0 | refine wkS ?_ | skip
        all_goals (try trivial)
        all_goals ((repeat' apply And.intro) <;> first | exact wkL | skip)
      · intro k hk
        rcases Nat.lt_or_ge k S0.length with hlt | hge
        · have hst : ∀ i2, i2 = k + 1 → (S0.take i2).filter (fun p => !(S.any fun s => !decide (p ∈ s))) = (S0.take k).filter (fun p => !(S.any fun s => !decide (p ∈ s))) ++ if (S.any fun s => !decide (S0.getD k default ∈ s)) then [] else [S0.getD k default] := fun i2 e => by
            subst e
            rw [List.take_succ_eq_append_getElem hlt, List.filter_append, getD_get hlt]
            congr 1
            by_cases hq : (S.any fun s => !decide (S0[k] ∈ s)) = true <;> simp [hq]
          have hlR : ((S0.take k).filter fun p => !(S.any fun s => !decide (p ∈ s))).length ≤ 3 := Nat.le_trans (List.length_filter_le _ _) (by rw [List.length_take]; omega)
          have hc : FnA Tryz.prog 59 [lA 1 sC2 S, .fn (.func 62) [] [.elt (S0.getD k default).av 0]] (.raw (.bool (S.any fun s => !decide (S0.getD k default ∈ s)))) :=
            containsFunc_Ps S (by omega) 62 [.elt (S0.getD k default).av 0] ⟨Party.free _, trivial⟩ (fun s => !decide (S0.getD k default ∈ s)) fun s hs => without_A (S0.getD k default) s (by have := hsh.2 s hs; omega)
          generalize (S.any fun s => !decide (S0.getD k default ∈ s)) = q at *
          generalize (S0.take k).filter (fun p => !(S.any fun s => !decide (p ∈ s))) = R at *
          try refine wkG trivial ?_
          try (refine Stop.mk ?_; intro K hK)
          refine wpA_cond' ⟨_, evl, fun _ => ?_, fun hb => absurd (of_decide_eq_false hb) (by omega)⟩
          repeat (refine stG ?_)
          refine wpA_region (fun K hK => ?_)
          iterate 4 (refine stG ?_)
          refine runS_freeze 1 obf ⟨_, evl, _, evl, ?_⟩
          refine runS_nil (hK _ ?_); clear hK K
          try (first | refine wkM hK hc ?_ | refine wkG hc ?_)
          try clear hK K
          try (refine Stop.mk ?_; intro K hK)
          refine wpA_cond' ⟨_, evl, fun hb => ?_, fun hb => ?_⟩
          · rw [Bool.not_eq_true'] at hb
            subst hb
            simp only [Bool.false_eq_true, if_false] at hst
            try refine wkG trivial ?_
            try (refine Stop.mk ?_; intro K hK)
            refine ⟨k + 1, by omega, by omega, ?_⟩
            rw [hst (k + 1) rfl, List.length_append]
            refine wkn ?_ ?_ ?_
            all_goals first | exact wk0 | refine wkS ?_ | skip
            all_goals (try trivial)
            all_goals ((repeat' apply And.intro) <;> first | exact wkL | skip)
            exact fun q hq => SimsL.of_eq (els_snoc rfl (by simpa using hq) rfl)
          · rw [Bool.not_eq_false'] at hb
            subst hb
            simp only [if_true, List.append_nil] at hst
            try refine wkG trivial ?_
            try (refine Stop.mk ?_; intro K hK)
            refine ⟨k + 1, by omega, by omega, ?_⟩
            rw [hst (k + 1) rfl]
            refine wkn ?_ ?_ ?_
            all_goals first | exact wk0 | refine wkS ?_ | skip
            all_goals (try trivial)
            all_goals ((repeat' apply And.intro) <;> first | exact wkL | skip)
        · obtain rfl : k = S0.length := by omega
          rw [List.take_length]
          generalize S0.filter (fun p => !(S.any fun s => !decide (p ∈ s))) = R at *
          try refine wkG trivial ?_
          try (refine Stop.mk ?_; intro K hK)
          refine wpA_cond' ⟨_, evl, fun hb => absurd (of_decide_eq_true hb) (by omega), fun _ => ?_⟩
          try refine wkG trivial ?_
          try (refine Stop.mk ?_; intro K hK)
          refine ret_of (by simp) ⟨_, _, _, evl, ob0, OutOk.sims ?_ ?_⟩
          · exact Sims.tup ⟨Sims.row rfl rfl rfl rfl fun i hi => rfl, Sims.refl _, trivial⟩
          · exact ⟨lA_free (fun z => Party.free z) _, trivial, trivial⟩
end Go.Proofs.YtchpbdecipcelaaGreatDoor
