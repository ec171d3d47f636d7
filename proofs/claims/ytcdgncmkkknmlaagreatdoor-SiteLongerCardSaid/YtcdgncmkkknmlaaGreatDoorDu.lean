/- package drift: the greatest rate for some temperatures and ages. -/
import Derived.Test.YtcdgncmkkknmlaaGreatDoorDs
import Derived.Scope
namespace Go.Proofs.YtcdgncmkkknmlaaGreatDoor
set_option linter.unusedVariables false
set_option linter.unusedSimpArgs false
set_option maxHeartbeats 4000000
set_option maxRecDepth 100000
open Go.RowKit
section
variable {P : Program} {b : Frame} {a : Act} {k : List Item} {cs : List Frame} {w : World}
theorem stepR_scope {c : Code} : step P (lone (b.atR a (.code (.scope c) :: k)) cs w) = .next (lone (b.atR a (.code c :: .inScope c :: k)) cs w) :=
  step_lone_go (by simp [stepG, stepG.exec, Frame.atR])
theorem stepR_inScope {c : Code} : step P (lone (b.atR a (.inScope c :: k)) cs w) = .next (lone (b.atR a k) cs w) :=
  step_lone_go (by simp [stepG, stepG.exec, Frame.atR])
theorem wpIn_scope {F : Fence} {n : Nat} {Q : Exit → Act → World → Prop} {c : Code} (h : c.wpIn F n P (Exit.noGoto Q) a w) : (Code.scope c).wpIn F n P Q a w := by
  intro b k cs hro hb hr
  have h0 : (lone (b.atR a (.code (.scope c) :: k)) cs w).fenced P F := fenced_calm hb hr rfl
  obtain ⟨e, a₁, w₁, hq, harr⟩ := h b (.inScope c :: k) cs hro hb hr
  cases e with
  | normal => exact ⟨.normal, a₁, w₁, hq, .head h0 stepR_scope (StepsIn.trans harr (.one (fenced_calm hb hr rfl) stepR_inScope))⟩
  | exit id =>
    have hx : exitTo id (.inScope c :: k) = exitTo id k := by simp [exitTo]
    exact ⟨.exit id, a₁, w₁, hq, fun k' hk => .head h0 stepR_scope (harr.1 k' (by rw [hx]; exact hk)),
      fun hr' hk => let ⟨k₁, h1, h2⟩ := harr.2 hr' (by rw [hx]; exact hk); ⟨k₁, h1, .head h0 stepR_scope h2⟩⟩
  | goto l => exact hq.elim
  | ret => exact ⟨_, a₁, w₁, hq, .of_steps (.one h0 stepR_scope) harr⟩
  | panic ch => exact ⟨_, a₁, w₁, hq, .of_steps (.one h0 stepR_scope) harr⟩
  | outgrown => exact ⟨_, a₁, w₁, hq, .of_steps (.one h0 stepR_scope) harr⟩
end
theorem wpA_scope {P : Program} {c : Code} {Q : Exit → ASt → Prop} {st : ASt} (hg : ∀ l s, ¬ Q (.goto l) s) (h : wpA P c Q st) : wpA P (.scope c) Q st := fun C G a w hs =>
  wpIn_scope (wpIn_mono (h C G a w hs) fun e a' w' hd => by
    cases e with
    | goto l => obtain ⟨G', st', _, hq⟩ := hd; exact hg l st' hq
    | _ => exact hd)
theorem wpA_scopeR {P : Program} {c : Code} {T : TT} {rs : List ResultVar} {r : AV} {st : ASt} (h : wpA P c (retPost T rs r) st) : wpA P (.scope c) (retPost T rs r) st := wpA_scope (fun l s h => by rcases h.1 with h | h <;> cases h) h
theorem lastM_spec2 {α : Type} [Inhabited α] (p : α → Bool) (l : List α) : ∀ (n j : Nat), j < n → p (l.getD j default) = true → (j : Int) ≤ lastM p l n ∧ p (l.getD (lastM p l n).toNat default) = true
  | n + 1, j, hj, hp => by
    unfold lastM
    split
    · rename_i h
      exact ⟨by omega, by simpa using h⟩
    · rename_i h
      have hjn : j < n := by
        rcases Nat.lt_succ_iff_lt_or_eq.1 hj with h' | rfl
        · exact h'
        · exact absurd hp h
      exact lastM_spec2 p l n j hjn hp
theorem lastM_true {α : Type} [Inhabited α] (p : α → Bool) (l : List α) : ∀ (n : Nat), 0 ≤ lastM p l n → p (l.getD (lastM p l n).toNat default) = true
  | 0, h => by simp [lastM] at h
  | n + 1, h => by
    unfold lastM at h ⊢
    split
    · rename_i h1; simpa using h1
    · rename_i h1; rw [if_neg h1] at h; exact lastM_true p l n h
theorem band_iff {l : List Int} (h : risingP l) (n : Int) {j : Nat} (hj : j < l.length) : l.getD j 0 ≤ n ↔ (j : Int) ≤ bandM l n := by
  constructor
  · intro h1
    exact (lastM_spec2 (fun x : Int => decide (x ≤ n)) l l.length j hj (by simp only [getD_int, decide_eq_true_eq]; exact h1)).1
  · intro h1
    have h2 := lastM_true (fun x : Int => decide (x ≤ n)) l l.length (by unfold bandM at h1; omega)
    have h3 := bandM_range l n
    have h4 := rise_le h.2.2.2 (bandM l n).toNat j (by omega) (by omega)
    simp only [decide_eq_true_eq] at h2
    simp only [getD_int] at h2 h4
    unfold bandM at h4 h3
    omega
theorem band_mono {l : List Int} (h : risingP l) {a b : Int} (hab : a ≤ b) : bandM l a ≤ bandM l b := by
  rcases Int.lt_or_le (bandM l a) 0 with h0 | h0
  · have := bandM_range l b; omega
  · have hr := bandM_range l a
    have h1 := (band_iff h a (j := (bandM l a).toNat) (by omega)).2 (by omega)
    have h2 := (band_iff h b (j := (bandM l a).toNat) (by omega)).1 (by omega)
    omega
/-- The greatest of some columns of a row, and of some rows. -/
def inW (t : Table) (a k c : Nat) (acc : Int) : Int := (List.range c).foldl (fun m q => max m ((t.rates.getD a default).getD (k + q) 0)) acc
def outW (t : Table) (i k C R : Nat) : Int := (List.range R).foldl (fun m a => inW t (i + a) k C m) 0
theorem inW_succ (t : Table) (a k c : Nat) (acc : Int) : inW t a k (c + 1) acc = max (inW t a k c acc) ((t.rates.getD a default).getD (k + c) 0) := by simp [inW, List.range_succ]
theorem outW_succ (t : Table) (i k C R : Nat) : outW t i k C (R + 1) = inW t (i + R) k C (outW t i k C R) := by simp [outW, List.range_succ]
def worstM (t : Table) (temp age : Rg) : Int × Int :=
  if tabP t ∧ temp.lo ≤ temp.hi ∧ age.lo ≤ age.hi then
    (if bandM t.temps temp.lo < 0 ∨ bandM t.ages age.lo < 0 then (0, 3) else
      (outW t (bandM t.temps temp.lo).toNat (bandM t.ages age.lo).toNat (bandM t.ages age.hi - bandM t.ages age.lo + 1).toNat (bandM t.temps temp.hi - bandM t.temps temp.lo + 1).toNat, 0))
  else (0, 1)
theorem drop_els2 {α : Type} [Inhabited α] (enc : α → List AV) (l : List α) (i j : Nat) : els enc (l.drop i) j = els enc l (i + j) := by
  simp [els, List.getElem?_drop]
theorem worst_A (t : Table) (ht : t.fits) (temp age : Rg) : FnA Tryz.prog 75 [.agg t.av, .agg temp.av, .agg age.av] (.tup [.raw (.int .i64 (worstM t temp age).1), .raw (.int .i64 (worstM t temp age).2)]) := by
  have h1 := tvalid_A t ht
  have hfr : AV.freeL [AV.lst 1 t.temps.length (els iC t.temps), AV.lst 1 t.ages.length (els iC t.ages), AV.lst 1 t.rates.length (els (fun l : List Int => [AV.lst 1 l.length (els iC l)]) t.rates)] := Table.free t
  have b1 := band_A t.temps ht.1.1 temp.lo
  have b2 := band_A t.ages ht.2.1.1 age.lo
  have hf1 := liA_free t.temps
  have hf2 := liA_free t.ages
  have hf3 : (lA 1 liC t.rates).free := lA_free (fun y => show AV.freeL (liC y) from ⟨liA_free y, trivial⟩) _
  by_cases hc : tabP t ∧ temp.lo ≤ temp.hi ∧ age.lo ≤ age.hi
  · rw [worstM, if_pos hc]
    obtain ⟨c1, c2, c3⟩ := hc
    rw [decide_eq_true c1] at h1
    have r1 := bandM_range t.temps temp.lo
    have r2 := bandM_range t.ages age.lo
    have m1 := band_mono c1.1 c2
    have m2 := band_mono c1.2.1 c3
    have r3 := bandM_range t.temps temp.hi
    have r4 := bandM_range t.ages age.hi
    have g1 := fun j hj => band_iff c1.1 temp.hi (j := j) hj
    have g2 := fun j hj => band_iff c1.2.1 age.hi (j := j) hj
    have hlen := c1.2.2.1
    have hl1 := c1.1.1
    have hl2 := c1.2.1.1
    have hrow := fun j (hj : j < t.rates.length) => (c1.2.2.2 (t.rates.getD j default) (by rw [getD_get hj]; exact List.getElem_mem _)).1
    clear c1 ht
    by_cases hn : bandM t.temps temp.lo < 0 ∨ bandM t.ages age.lo < 0
    · rw [if_pos hn]
      clear g1 g2 hrow
      generalize bandM t.temps temp.lo = I at *
      generalize bandM t.ages age.lo = K at *
      refine fnA_of tblOk Tryz.func75 rfl (by kernel_rfl) 95 Tryz.ntmps75 (by simp only [List.length_cons, List.length_nil]; omega) [.tmp 6, .tmp 7] rfl ?_
      simp only [entrySt, argSl, Nat.zero_add, Nat.reduceAdd]
      try refine wkG trivial ?_
      try (refine Stop.mk ?_; intro K hK)
      refine wpA_scopeR ?_
      try refine wkG h1 ?_
      try (refine Stop.mk ?_; intro K hK)
      refine wpA_cond' ⟨_, evl, fun hb => absurd hb (by simp; omega), fun _ => ?_⟩
      try refine wkG (And.intro b1 b2) ?_
      try (refine Stop.mk ?_; intro K hK)
      refine wpA_cond' ⟨_, evl, fun _ => ?_, fun hb => absurd hb (by simp; omega)⟩
      try refine wkG trivial ?_
      try (refine Stop.mk ?_; intro K hK)
      refine ret_of (by simp) ⟨_, _, _, evl, ob0, OutOk.eq ?_ ?_⟩
      · rfl
      · simp [AV.free, AV.freeL]
    · rw [if_neg hn]
      obtain ⟨I, hI⟩ : ∃ I : Nat, bandM t.temps temp.lo = I := ⟨(bandM t.temps temp.lo).toNat, by omega⟩
      obtain ⟨K, hK⟩ : ∃ K : Nat, bandM t.ages age.lo = K := ⟨(bandM t.ages age.lo).toNat, by omega⟩
      obtain ⟨R, hR⟩ : ∃ R : Nat, (bandM t.temps temp.hi - bandM t.temps temp.lo + 1).toNat = R := ⟨_, rfl⟩
      obtain ⟨C, hC⟩ : ∃ C : Nat, (bandM t.ages age.hi - bandM t.ages age.lo + 1).toNat = C := ⟨_, rfl⟩
      rw [hR, hC]
      rw [hI] at b1 r1 m1 hR hn ⊢
      rw [hK] at b2 r2 m2 hC hn ⊢
      simp only [Int.toNat_natCast]
      have G1 : ∀ j, j < t.temps.length → (t.temps.getD j 0 ≤ temp.hi ↔ j < I + R) := fun j hj => by rw [g1 j hj]; omega
      have G2 : ∀ j, j < t.ages.length → (t.ages.getD j 0 ≤ age.hi ↔ j < K + C) := fun j hj => by rw [g2 j hj]; omega
      have hIR : I + R ≤ t.temps.length ∧ 1 ≤ R := by omega
      have hKC : K + C ≤ t.ages.length ∧ 1 ≤ C := by omega
      clear g1 g2 r3 r4 m1 m2 hI hK hR hC hn
      refine fnA_of tblOk Tryz.func75 rfl (by kernel_rfl) 95 Tryz.ntmps75 (by simp only [List.length_cons, List.length_nil]; omega) [.tmp 6, .tmp 7] rfl ?_
      simp only [entrySt, argSl, Nat.zero_add, Nat.reduceAdd]
      try refine wkG trivial ?_
      try (refine Stop.mk ?_; intro K hK)
      refine wpA_scopeR ?_
      try refine wkG h1 ?_
      try (refine Stop.mk ?_; intro K hK)
      refine wpA_cond' ⟨_, evl, fun hb => absurd hb (by simp; omega), fun _ => ?_⟩
      try refine wkG (And.intro b1 b2) ?_
      try (refine Stop.mk ?_; intro K hK)
      refine wpA_cond' ⟨_, evl, fun hb => absurd hb (by simp <;> omega), fun _ => ?_⟩
      try refine wkG trivial ?_
      try (refine Stop.mk ?_; intro K hK)
      refine wpA_loop (fun a : Nat => ⟨95, 0, [(3, true, .box 0 0), (4, true, .box 1 0), (5, true, .box 2 0), (8, true, .raw (.int .i64 I)), (9, true, .raw (.int .i64 K)), (10, true, .raw (.int .i64 (outW t I K C a))), (51, true, .lst 1 (t.rates.length - I) fun q => liC (t.rates.getD (I + q) default)), (52, true, .raw (.int .i64 ((t.rates.length - I : Nat)))), (53, true, .raw (.int .i64 a))], [t.av, Rg.av temp, Rg.av age], [], ((0, []), [], true)⟩)
        (fun a => a ≤ R) (fun a => R - a) 0 ?_ (by omega) ?_
      · refine wkn ?_ ?_ ?_
        all_goals first | exact wk0 | refine wkS ?_ | skip
        all_goals (try trivial)
        all_goals ((repeat' apply And.intro) <;> first | exact wkL | skip)
      · intro a ha
        try refine wkG trivial ?_
        try (refine Stop.mk ?_; intro K hK)
        refine wpA_cond' ⟨_, evl, fun hb => ?_, fun hb => ?_⟩
        · simp only [decide_eq_true_eq] at hb
          have hrl := hrow (I + a) (by omega)
          have eA : ((I : Int) + (a : Int)).toNat = I + a := by omega
          try refine wkG trivial ?_
          try (refine Stop.mk ?_; intro K hK)
          refine wpA_loop (fun b : Nat => ⟨95, 0, [(3, true, .box 0 0), (4, true, .box 1 0), (5, true, .box 2 0), (8, true, .raw (.int .i64 I)), (9, true, .raw (.int .i64 K)), (10, true, .raw (.int .i64 (inW t (I + a) K b (outW t I K C a)))), (11, true, .raw (.int .i64 a)), (51, true, .lst 1 (t.rates.length - I) fun q => liC (t.rates.getD (I + q) default)), (52, true, .raw (.int .i64 ((t.rates.length - I : Nat)))), (53, true, .raw (.int .i64 a)), (60, true, .lst 1 (t.ages.length - K) fun q => iC ((t.rates.getD (I + a) default).getD (K + q) 0)), (61, true, .raw (.int .i64 ((t.ages.length - K : Nat)))), (62, true, .raw (.int .i64 b))], [t.av, Rg.av temp, Rg.av age], [], ((0, []), [], true)⟩)
            (fun b => b ≤ C ∧ (0 < b → a < R)) (fun b => C - b) 0 ?_ ⟨by omega, fun h => by omega⟩ ?_
          · rw [← hrl]
            refine wkn ?_ ?_ ?_
            all_goals first | exact wk0 | refine wkS ?_ | skip
            all_goals (try trivial)
            all_goals ((repeat' apply And.intro) <;> first | exact wkL | skip)
          · rintro b ⟨hbC, hbR⟩
            have eB : ((K : Int) + (b : Int)).toNat = K + b := by omega
            try refine wkG trivial ?_
            try (refine Stop.mk ?_; intro K hK)
            refine wpA_cond' ⟨_, evl, fun hb2 => ?_, fun hb2 => ?_⟩
            · simp only [decide_eq_true_eq] at hb2
              have q1 := G1 (I + a) (by omega)
              have q2 := G2 (K + b) (by omega)
              try refine wkG trivial ?_
              try (refine Stop.mk ?_; intro K hK)
              refine wpA_cond' ⟨_, evl, fun hb3 => ?_, fun hb3 => ?_⟩
              · simp only [eA, decide_eq_true_eq] at hb3
                obtain rfl : a = R := by omega
                obtain rfl : b = 0 := by omega
                try refine wkG trivial ?_
                try (refine Stop.mk ?_; intro K hK)
                refine ret_of (by simp) ⟨_, _, _, evl, ob0, OutOk.eq ?_ ?_⟩
                · rfl
                · simp [AV.free, AV.freeL]
              · simp only [eA, decide_eq_false_iff_not] at hb3
                try refine wkG trivial ?_
                try (refine Stop.mk ?_; intro K hK)
                refine wpA_cond' ⟨_, evl, fun hb4 => ?_, fun hb4 => ?_⟩
                · simp only [eB, decide_eq_true_eq] at hb4
                  obtain rfl : b = C := by omega
                  try refine wkG trivial ?_
                  try (refine Stop.mk ?_; intro K hK)
                  refine ⟨a + 1, by omega, by omega, ?_⟩
                  rw [outW_succ]
                  refine wkn ?_ ?_ ?_
                  all_goals first | exact wk0 | refine wkS ?_ | skip
                  all_goals (try trivial)
                  all_goals ((repeat' apply And.intro) <;> first | exact wkL | skip)
                · simp only [eB, decide_eq_false_iff_not] at hb4
                  try refine wkG trivial ?_
                  try (refine Stop.mk ?_; intro K hK)
                  refine ⟨b + 1, ⟨by omega, fun _ => by omega⟩, by omega, ?_⟩
                  rw [inW_succ]
                  refine wkn ?_ ?_ ?_
                  all_goals first | exact wk0 | refine wkS ?_ | skip
                  all_goals (try trivial)
                  all_goals ((repeat' apply And.intro) <;> first | exact wkL | skip)
            · simp only [decide_eq_false_iff_not] at hb2
              obtain rfl : b = C := by omega
              try refine wkG trivial ?_
              try (refine Stop.mk ?_; intro K hK)
              refine ⟨a + 1, by omega, by omega, ?_⟩
              rw [outW_succ]
              refine wkn ?_ ?_ ?_
              all_goals first | exact wk0 | refine wkS ?_ | skip
              all_goals (try trivial)
              all_goals ((repeat' apply And.intro) <;> first | exact wkL | skip)
        · simp only [decide_eq_false_iff_not] at hb
          obtain rfl : a = R := by omega
          try refine wkG trivial ?_
          try (refine Stop.mk ?_; intro K hK)
          refine ret_of (by simp) ⟨_, _, _, evl, ob0, OutOk.eq ?_ ?_⟩
          · rfl
          · simp [AV.free, AV.freeL]
  · have hno : decide (tabP t) = true → temp.lo ≤ temp.hi → age.lo ≤ age.hi → False := fun a b c => hc ⟨of_decide_eq_true a, b, c⟩
    rw [worstM, if_neg hc]
    clear hc b1 b2
    generalize decide (tabP t) = v at *
    refine fnA_of tblOk Tryz.func75 rfl (by kernel_rfl) 95 Tryz.ntmps75 (by simp only [List.length_cons, List.length_nil]; omega) [.tmp 6, .tmp 7] rfl ?_
    simp only [entrySt, argSl, Nat.zero_add, Nat.reduceAdd]
    try refine wkG trivial ?_
    try (refine Stop.mk ?_; intro K hK)
    refine wpA_scopeR ?_
    try refine wkG h1 ?_
    try (refine Stop.mk ?_; intro K hK)
    refine wpA_cond' ⟨_, evl, fun _ => ?_, fun hb => ?_⟩
    · try refine wkG trivial ?_
      try (refine Stop.mk ?_; intro K hK)
      refine ret_of (by simp) ⟨_, _, _, evl, ob0, OutOk.eq ?_ ?_⟩
      · rfl
      · simp [AV.free, AV.freeL]
    · exfalso
      simp at hb
      exact hno hb.1.1 hb.1.2 hb.2
end Go.Proofs.YtcdgncmkkknmlaaGreatDoor
