/- The reference of chapter 7: Worst; package drift: Rate. -/
import Derived.Test.YtcdgncmkkknmlaaGreatDoorDu
namespace Go.Proofs.YtcdgncmkkknmlaaGreatDoor
set_option linter.unusedVariables false
set_option linter.unusedSimpArgs false
set_option maxHeartbeats 4000000
set_option maxRecDepth 100000
open Go.RowKit
theorem worstR_A (t : Table) (ht : t.temps.length ≤ 1000 ∧ t.ages.length ≤ 1000 ∧ t.rates.length ≤ 1000 ∧ ∀ r ∈ t.rates, r.length ≤ 1000) (temp age : Rg) : FnA Tryz.prog 38 [.agg t.av, .agg temp.av, .agg age.av] (.tup [.raw (.int .i64 (worstM t temp age).1), .raw (.int .i64 (worstM t temp age).2)]) := by
  have h1 := tvalidR_A t ht.1 ht.2.1 ht.2.2.1 ht.2.2.2
  have b1 := bandR_A t.temps ht.1 temp.lo
  have b2 := bandR_A t.ages ht.2.1 age.lo
  have b3 := bandR_A t.temps ht.1 temp.hi
  have b4 := bandR_A t.ages ht.2.1 age.hi
  have hf1 := liA_free t.temps
  have hf2 := liA_free t.ages
  have hf3 : (lA 1 liC t.rates).free := lA_free (fun y => show AV.freeL (liC y) from ⟨liA_free y, trivial⟩) _
  by_cases hc : tabP t ∧ temp.lo ≤ temp.hi ∧ age.lo ≤ age.hi
  · rw [worstM, if_pos hc]
    obtain ⟨c1, c2, c3⟩ := hc
    rw [decide_eq_true c1] at h1
    have r1 := bandM_range t.temps temp.lo
    have r2 := bandM_range t.ages age.lo
    have m1 := band_mono c1.1 c2
    have m2 := band_mono c1.2.1 c3
    have r3 := bandM_range t.temps temp.hi
    have r4 := bandM_range t.ages age.hi
    have hlen := c1.2.2.1
    have hrow := fun j (hj : j < t.rates.length) => (c1.2.2.2 (t.rates.getD j default) (by rw [getD_get hj]; exact List.getElem_mem _)).1
    clear c1
    by_cases hn : bandM t.temps temp.lo < 0 ∨ bandM t.ages age.lo < 0
    · rw [if_pos hn]
      clear hrow
      generalize bandM t.temps temp.lo = I at *
      generalize bandM t.ages age.lo = K at *
      refine fnA_of tblOk Tryz.func38 rfl (by kernel_rfl) 79 Tryz.ntmps38 (by simp only [List.length_cons, List.length_nil]; omega) [.tmp 6, .tmp 7] rfl ?_
      simp only [entrySt, argSl, Nat.zero_add, Nat.reduceAdd]
      try refine wkG h1 ?_
      try (refine Stop.mk ?_; intro K hK)
      refine wpA_cond' ⟨_, evl, fun hb => absurd hb (by simp; omega), fun _ => ?_⟩
      try refine wkG (And.intro b1 b2) ?_
      try (refine Stop.mk ?_; intro K hK)
      refine wpA_cond' ⟨_, evl, fun _ => ?_, fun hb => absurd hb (by simp <;> omega)⟩
      try refine wkG trivial ?_
      try (refine Stop.mk ?_; intro K hK)
      refine ret_of (by simp) ⟨_, _, _, evl, ob0, OutOk.eq ?_ ?_⟩
      · rfl
      · simp [AV.free, AV.freeL]
    · rw [if_neg hn]
      obtain ⟨I, hI⟩ : ∃ I : Nat, bandM t.temps temp.lo = I := ⟨(bandM t.temps temp.lo).toNat, by omega⟩
      obtain ⟨K, hK⟩ : ∃ K : Nat, bandM t.ages age.lo = K := ⟨(bandM t.ages age.lo).toNat, by omega⟩
      obtain ⟨R, hR⟩ : ∃ R : Nat, (bandM t.temps temp.hi - bandM t.temps temp.lo + 1).toNat = R := ⟨_, rfl⟩
      obtain ⟨C, hC⟩ : ∃ C : Nat, (bandM t.ages age.hi - bandM t.ages age.lo + 1).toNat = C := ⟨_, rfl⟩
      rw [hR, hC]
      rw [hI] at b1 r1 m1 hR hn ⊢
      rw [hK] at b2 r2 m2 hC hn ⊢
      simp only [Int.toNat_natCast]
      have hIR : bandM t.temps temp.hi = I + R - 1 ∧ 1 ≤ R ∧ I + R ≤ t.temps.length := by omega
      have hKC : bandM t.ages age.hi = K + C - 1 ∧ 1 ≤ C ∧ K + C ≤ t.ages.length := by omega
      rw [hIR.1] at b3
      rw [hKC.1] at b4
      clear r3 r4 m1 m2 hI hK hR hC hn
      refine fnA_of tblOk Tryz.func38 rfl (by kernel_rfl) 79 Tryz.ntmps38 (by simp only [List.length_cons, List.length_nil]; omega) [.tmp 6, .tmp 7] rfl ?_
      simp only [entrySt, argSl, Nat.zero_add, Nat.reduceAdd]
      try refine wkG h1 ?_
      try (refine Stop.mk ?_; intro K hK)
      refine wpA_cond' ⟨_, evl, fun hb => absurd hb (by simp; omega), fun _ => ?_⟩
      try refine wkG (And.intro b1 b2) ?_
      try (refine Stop.mk ?_; intro K hK)
      refine wpA_cond' ⟨_, evl, fun hb => absurd hb (by simp <;> omega), fun _ => ?_⟩
      try refine wkG trivial ?_
      try (refine Stop.mk ?_; intro K hK)
      refine wpA_loop (fun a : Nat => ⟨79, 0, [(3, true, .box 0 0), (4, true, .box 1 0), (5, true, .box 2 0), (9, true, .raw (.int .i64 I)), (10, true, .raw (.int .i64 K)), (11, true, .raw (.int .i64 (outW t I K C a))), (12, true, .raw (.int .i64 ((I : Int) + a)))], [t.av, Rg.av temp, Rg.av age], [], ((0, []), [], true)⟩)
        (fun a => a ≤ R) (fun a => R - a) 0 ?_ (by omega) ?_
      · refine wkn ?_ ?_ ?_
        all_goals first | exact wk0 | refine wkS ?_ | skip
        all_goals (try trivial)
        all_goals ((repeat' apply And.intro) <;> first | exact wkL | skip)
      · intro a ha
        try refine wkG b3 ?_
        try (refine Stop.mk ?_; intro K hK)
        refine wpA_cond' ⟨_, evl, fun hb => ?_, fun hb => ?_⟩
        · simp only [decide_eq_true_eq] at hb
          have hrl := hrow (I + a) (by omega)
          have eA : ((I : Int) + (a : Int)).toNat = I + a := by omega
          try refine wkG trivial ?_
          try (refine Stop.mk ?_; intro K hK)
          refine wpA_loop (fun b : Nat => ⟨79, 0, [(3, true, .box 0 0), (4, true, .box 1 0), (5, true, .box 2 0), (9, true, .raw (.int .i64 I)), (10, true, .raw (.int .i64 K)), (11, true, .raw (.int .i64 (inW t (I + a) K b (outW t I K C a)))), (12, true, .raw (.int .i64 ((I : Int) + a))), (13, true, .raw (.int .i64 ((K : Int) + b)))], [t.av, Rg.av temp, Rg.av age], [], ((0, []), [], true)⟩)
            (fun b => b ≤ C) (fun b => C - b) 0 ?_ (by omega) ?_
          · refine wkn ?_ ?_ ?_
            all_goals first | exact wk0 | refine wkS ?_ | skip
            all_goals (try trivial)
            all_goals ((repeat' apply And.intro) <;> first | exact wkL | skip)
          · intro b hbC
            have eB : ((K : Int) + (b : Int)).toNat = K + b := by omega
            try refine wkG b4 ?_
            try (refine Stop.mk ?_; intro K hK)
            refine wpA_cond' ⟨_, evl, fun hb2 => ?_, fun hb2 => ?_⟩
            · simp only [decide_eq_true_eq] at hb2
              rw [← eA] at hrl
              try refine wkG trivial ?_
              try (refine Stop.mk ?_; intro K hK)
              refine ⟨b + 1, by omega, by omega, ?_⟩
              rw [inW_succ]
              simp only [eA, eB]
              refine wkn ?_ ?_ ?_
              all_goals first | exact wk0 | refine wkS ?_ | skip
              all_goals (try trivial)
              all_goals ((repeat' apply And.intro) <;> first | exact wkL | skip)
            · simp only [decide_eq_false_iff_not] at hb2
              obtain rfl : b = C := by omega
              try refine wkG trivial ?_
              try (refine Stop.mk ?_; intro K hK)
              refine ⟨a + 1, by omega, by omega, ?_⟩
              rw [outW_succ]
              refine wkn ?_ ?_ ?_
              all_goals first | exact wk0 | refine wkS ?_ | skip
              all_goals (try trivial)
              all_goals ((repeat' apply And.intro) <;> first | exact wkL | skip)
        · simp only [decide_eq_false_iff_not] at hb
          obtain rfl : a = R := by omega
          try refine wkG trivial ?_
          try (refine Stop.mk ?_; intro K hK)
          refine ret_of (by simp) ⟨_, _, _, evl, ob0, OutOk.eq ?_ ?_⟩
          · rfl
          · simp [AV.free, AV.freeL]
  · have hno : decide (tabP t) = true → temp.lo ≤ temp.hi → age.lo ≤ age.hi → False := fun a b c => hc ⟨of_decide_eq_true a, b, c⟩
    rw [worstM, if_neg hc]
    clear hc b1 b2 b3 b4
    generalize decide (tabP t) = v at *
    refine fnA_of tblOk Tryz.func38 rfl (by kernel_rfl) 79 Tryz.ntmps38 (by simp only [List.length_cons, List.length_nil]; omega) [.tmp 6, .tmp 7] rfl ?_
    simp only [entrySt, argSl, Nat.zero_add, Nat.reduceAdd]
    try refine wkG h1 ?_
    try (refine Stop.mk ?_; intro K hK)
    refine wpA_cond' ⟨_, evl, fun _ => ?_, fun hb => ?_⟩
    · try refine wkG trivial ?_
      try (refine Stop.mk ?_; intro K hK)
      refine ret_of (by simp) ⟨_, _, _, evl, ob0, OutOk.eq ?_ ?_⟩
      · rfl
      · simp [AV.free, AV.freeL]
    · exfalso
      simp at hb
      exact hno hb.1.1 hb.1.2 hb.2
theorem rate_A (t : Table) (ht : t.fits) (temp age : Int) : FnA Tryz.prog 26 [.agg t.av, .raw (.int .i64 temp), .raw (.int .i64 age)] (.tup [.raw (.int .i64 (worstM t ⟨temp, temp⟩ ⟨age, age⟩).1), .raw (.int .i64 (worstM t ⟨temp, temp⟩ ⟨age, age⟩).2)]) := by
  have h := worst_A t ht ⟨temp, temp⟩ ⟨age, age⟩
  have hf1 := liA_free t.temps
  have hf2 := liA_free t.ages
  have hf3 : (lA 1 liC t.rates).free := lA_free (fun y => show AV.freeL (liC y) from ⟨liA_free y, trivial⟩) _
  generalize worstM t ⟨temp, temp⟩ ⟨age, age⟩ = w at *
  refine fnA_of tblOk Tryz.func26 rfl (by kernel_rfl) 18 Tryz.ntmps26 (by simp only [List.length_cons, List.length_nil]; omega) [.tmp 6, .tmp 7] rfl ?_
  simp only [entrySt, argSl, Nat.zero_add, Nat.reduceAdd]
  repeat' first
    | refine wkG h ?_
    | (refine cndS ⟨_, evl, ⟨cb, cb⟩, fun hb => ?_, fun hb => ?_⟩ <;> try (cases hb; done))
    | (refine Stop.mk ?_; intro K hK)
    | fail
  refine ret_of (by simp) ⟨_, _, _, evl, ob0, OutOk.eq ?_ ?_⟩
  · rfl
  · simp [AV.free, AV.freeL]
end Go.Proofs.YtcdgncmkkknmlaaGreatDoor
