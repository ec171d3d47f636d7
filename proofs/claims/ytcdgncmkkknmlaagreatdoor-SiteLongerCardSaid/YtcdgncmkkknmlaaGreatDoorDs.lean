/- package drift: bands, counts; the reference of chapter 7. -/
import Derived.Test.YtcdgncmkkknmlaaGreatDoorDr
namespace Go.Proofs.YtcdgncmkkknmlaaGreatDoor
set_option linter.unusedVariables false
set_option linter.unusedSimpArgs false
set_option maxHeartbeats 4000000
set_option maxRecDepth 100000
open Go.RowKit
def bandM (l : List Int) (n : Int) : Int := lastM (fun x : Int => decide (x ≤ n)) l l.length
theorem bandM_range (l : List Int) (n : Int) : -1 ≤ bandM l n ∧ bandM l n < l.length := lastM_range _ _ _
theorem band_A (l : List Int) (hl : l.length ≤ maxLen) (n : Int) : FnA Tryz.prog 110 [liA l, .raw (.int .i64 n)] (.raw (.int .i64 (bandM l n))) := by
  simp only [maxLen] at hl
  refine fnA_of tblOk Tryz.func110 rfl (by kernel_rfl) 22 Tryz.ntmps110 (by simp only [List.length_cons, List.length_nil]; omega) [.tmp 4] rfl ?_
  simp only [entrySt, argSl, Nat.zero_add, Nat.reduceAdd]
  try refine wkG trivial ?_
  try (refine Stop.mk ?_; intro K hK)
  refine wpA_loop (fun k : Nat => ⟨22, 0, [(0, true, liA l), (1, true, .raw (.int .i64 n)), (5, true, .raw (.int .i64 ((k : Int) - 1)))], [], [], ((0, []), [], true)⟩)
    (fun k => k ≤ l.length ∧ bandM l n = lastM (fun x : Int => decide (x ≤ n)) l k) (fun k => k) l.length ?_ ⟨by omega, rfl⟩ ?_
  · refine wkn ?_ ?_ ?_
    all_goals first | exact wk0 | refine wkS ?_ | skip
    all_goals (try trivial)
    all_goals ((repeat' apply And.intro) <;> first | exact wkL | skip)
  · rintro k ⟨hk, he⟩
    cases k with
    | zero =>
      repeat' first
        | refine wkG trivial ?_
        | (refine cndS ⟨_, evl, ⟨cb, cb⟩, fun hb => ?_, fun hb => ?_⟩ <;> try (cases hb; done))
        | (refine Stop.mk ?_; intro K hK)
        | fail
      · exfalso; simp at hb
      · refine ret_of (by simp) ⟨_, _, _, evl, ob0, OutOk.eq ?_ ?_⟩
        · rw [he]; rfl
        · simp [AV.free]
    | succ k =>
      have e1 : (((k + 1 : Nat) : Int) - 1).toNat = k := by omega
      repeat' first
        | refine wkG trivial ?_
        | (refine cndS ⟨_, evl, ⟨cb, cb⟩, fun hb => ?_, fun hb => ?_⟩ <;> try (cases hb; done))
        | (refine Stop.mk ?_; intro K hK)
        | fail
      · simp only [e1] at hb
        refine ⟨k, ⟨by omega, ?_⟩, by omega, ?_⟩
        · rw [he, lastM, if_neg (by simp only [getD_int, decide_eq_true_eq]; omega)]
        · refine wkn ?_ ?_ ?_
          all_goals first | exact wk0 | refine wkS ?_ | skip
          all_goals (try trivial)
          all_goals ((repeat' apply And.intro) <;> first | exact wkL | skip)
      · simp only [e1] at hb
        refine ret_of (by simp) ⟨_, _, _, evl, ob0, OutOk.eq ?_ ?_⟩
        · rw [he, lastM, if_pos (by simp only [getD_int, decide_eq_true_eq]; omega)]
          simp
        · simp [AV.free]
theorem bandR_A (l : List Int) (hl : l.length ≤ 1000) (n : Int) : FnA Tryz.prog 84 [liA l, .raw (.int .i64 n)] (.raw (.int .i64 (bandM l n))) := by
  refine fnA_of tblOk Tryz.func84 rfl (by kernel_rfl) 21 Tryz.ntmps84 (by simp only [List.length_cons, List.length_nil]; omega) [.tmp 4] rfl ?_
  simp only [entrySt, argSl, Nat.zero_add, Nat.reduceAdd]
  try refine wkG trivial ?_
  try (refine Stop.mk ?_; intro K hK)
  refine wpA_loop (fun k : Nat => ⟨21, 0, [(0, true, liA l), (1, true, .raw (.int .i64 n)), (5, true, .raw (.int .i64 (lastM (fun x : Int => decide (x ≤ n)) l k))), (6, true, .raw (.int .i64 k))], [], [], ((0, []), [], true)⟩)
    (fun k => k ≤ l.length) (fun k => l.length - k) 0 ?_ (by omega) ?_
  · refine wkn ?_ ?_ ?_
    all_goals first | exact wk0 | refine wkS ?_ | skip
    all_goals (try trivial)
    all_goals ((repeat' apply And.intro) <;> first | exact wkL | skip)
  · intro k hk
    have hs : lastM (fun x : Int => decide (x ≤ n)) l (k + 1) = if l.getD k 0 ≤ n then (k : Int) else lastM (fun x : Int => decide (x ≤ n)) l k := by
      rw [lastM]; simp only [getD_int, decide_eq_true_eq]
    repeat' first
      | refine wkG trivial ?_
      | (refine cndS ⟨_, evl, ⟨cb, cb⟩, fun hb => ?_, fun hb => ?_⟩ <;> try (cases hb; done))
      | (refine Stop.mk ?_; intro K hK)
      | fail
    · refine ⟨k + 1, by omega, by omega, ?_⟩
      rw [hs, if_pos hb]
      refine wkn ?_ ?_ ?_
      all_goals first | exact wk0 | refine wkS ?_ | skip
      all_goals (try trivial)
      all_goals ((repeat' apply And.intro) <;> first | exact wkL | skip)
    · refine ⟨k + 1, by omega, by omega, ?_⟩
      rw [hs, if_neg (by omega)]
      refine wkn ?_ ?_ ?_
      all_goals first | exact wk0 | refine wkS ?_ | skip
      all_goals (try trivial)
      all_goals ((repeat' apply And.intro) <;> first | exact wkL | skip)
    · obtain rfl : k = l.length := by omega
      refine ret_of (by simp) ⟨_, _, _, evl, ob0, OutOk.eq ?_ ?_⟩
      · rfl
      · simp [AV.free]
theorem boundR_A (n : Int) : FnA Tryz.prog 98 [.raw (.int .i64 n)] (.raw (.bool (decide (0 ≤ n) && decide (n ≤ 1000000)))) := by
  refine fnA_of tblOk Tryz.func98 rfl (by kernel_rfl) 9 Tryz.ntmps98 (by simp only [List.length_cons, List.length_nil]; omega) [.tmp 2] rfl ?_
  simp only [entrySt, argSl, Nat.zero_add, Nat.reduceAdd]
  repeat' first
    | refine wkG trivial ?_
    | (refine cndS ⟨_, evl, ⟨cb, cb⟩, fun hb => ?_, fun hb => ?_⟩ <;> try (cases hb; done))
    | (refine Stop.mk ?_; intro K hK)
    | fail
  all_goals (try (refine ret_of (by simp) ⟨_, _, _, evl, ob0, OutOk.sims ?_ fre⟩))
  all_goals first | exact Sims.refl _ | (refine Sims.of_eq ?_; first | rfl | (simp []; done) | (simp_all []; done) | (simp_all []; omega) | (simp []; grind) | (split <;> simp_all)) | exact simsF | (refine Sims.tup ?_; simp only [SimsL, and_true]; (repeat' apply And.intro) <;> first | exact simsF | skip) | (exfalso; first | omega | (simp_all; done) | (simp_all; omega)) | skip
theorem stretchR_A (n : Int) : FnA Tryz.prog 99 [.raw (.int .i64 n)] (.raw (.bool (decide (0 ≤ n) && decide (n ≤ 1000000000000000)))) := by
  refine fnA_of tblOk Tryz.func99 rfl (by kernel_rfl) 9 Tryz.ntmps99 (by simp only [List.length_cons, List.length_nil]; omega) [.tmp 2] rfl ?_
  simp only [entrySt, argSl, Nat.zero_add, Nat.reduceAdd]
  repeat' first
    | refine wkG trivial ?_
    | (refine cndS ⟨_, evl, ⟨cb, cb⟩, fun hb => ?_, fun hb => ?_⟩ <;> try (cases hb; done))
    | (refine Stop.mk ?_; intro K hK)
    | fail
  all_goals (try (refine ret_of (by simp) ⟨_, _, _, evl, ob0, OutOk.sims ?_ fre⟩))
  all_goals first | exact Sims.refl _ | (refine Sims.of_eq ?_; first | rfl | (simp []; done) | (simp_all []; done) | (simp_all []; omega) | (simp []; grind) | (split <;> simp_all)) | exact simsF | (refine Sims.tup ?_; simp only [SimsL, and_true]; (repeat' apply And.intro) <;> first | exact simsF | skip) | (exfalso; first | omega | (simp_all; done) | (simp_all; omega)) | skip
theorem rise_le {l : List Int} (h : ∀ i, i + 1 < l.length → l.getD i default < l.getD (i + 1) default) : ∀ j i, i ≤ j → j < l.length → l.getD i default ≤ l.getD j default
  | 0, i, h1, _ => by obtain rfl : i = 0 := by omega
                      exact Int.le_refl _
  | j + 1, i, h1, h2 => by
    by_cases e : i = j + 1
    · subst e; exact Int.le_refl _
    · have := rise_le h j i (by omega) (by omega)
      have := h j h2
      omega
theorem risingP_iff (l : List Int) : risingP l ↔ (1 ≤ l.length ∧ l.length ≤ 8) ∧ ∀ i, i < l.length → (-1000000 ≤ l.getD i 0 ∧ l.getD i 0 ≤ 1000000) ∧ (0 < i → l.getD (i - 1) 0 < l.getD i 0) := by
  constructor
  · rintro ⟨h1, h2, h3, h4⟩
    refine ⟨h1, fun i hi => ⟨⟨?_, ?_⟩, fun h0 => ?_⟩⟩
    · have := rise_le h4 i 0 (by omega) hi
      simp only [getD_int] at *
      omega
    · have := rise_le h4 (l.length - 1) i (by omega) (by omega)
      simp only [getD_int] at *
      omega
    · have := h4 (i - 1) (by omega)
      rw [show i - 1 + 1 = i by omega] at this
      exact this
  · rintro ⟨h1, h2⟩
    refine ⟨h1, (h2 0 (by omega)).1.1, (h2 (l.length - 1) (by omega)).1.2, fun i hi => ?_⟩
    have := (h2 (i + 1) hi).2 (by omega)
    rw [Nat.add_sub_cancel] at this
    exact this
theorem risingR_A (l : List Int) (hl : l.length ≤ 1000) : FnA Tryz.prog 119 [liA l] (.raw (.bool (decide (risingP l)))) := by
  refine fnA_of tblOk Tryz.func119 rfl (by kernel_rfl) 46 Tryz.ntmps119 (by simp only [List.length_cons, List.length_nil]; omega) [.tmp 2] rfl ?_
  simp only [entrySt, argSl, Nat.zero_add, Nat.reduceAdd]
  try refine wkG trivial ?_
  try (refine Stop.mk ?_; intro K hK)
  refine wpA_loop (fun k : Nat => ⟨46, 0, [(0, true, liA l), (3, true, .raw (.int .i64 k))], [], [], ((0, []), [], true)⟩)
    (fun k => k ≤ l.length ∧ ∀ i, i < k → (-1000000 ≤ l.getD i 0 ∧ l.getD i 0 ≤ 1000000) ∧ (0 < i → l.getD (i - 1) 0 < l.getD i 0)) (fun k => l.length - k) 0 ?_ ⟨by omega, fun i h => by omega⟩ ?_
  · refine wkn ?_ ?_ ?_
    all_goals first | exact wk0 | refine wkS ?_ | skip
    all_goals (try trivial)
    all_goals ((repeat' apply And.intro) <;> first | exact wkL | skip)
  · rintro k ⟨hk, hall⟩
    have e1 : ((k : Int) - 1).toNat = k - 1 := by omega
    repeat' first
      | refine wkG trivial ?_
      | (refine cndS ⟨_, evl, ⟨cb, cb⟩, fun hb => ?_, fun hb => ?_⟩ <;> try (cases hb; done))
      | (refine Stop.mk ?_; intro K hK)
      | fail
    · refine ret_of (by simp) ⟨_, _, _, evl, ob0, OutOk.eq ?_ (by simp [AV.free])⟩
      simp only [AV.raw.injEq, Value.bool.injEq]
      rw [eq_comm, decide_eq_false_iff_not]
      intro h
      have := ((risingP_iff l).1 h).2 k (by omega)
      simp only [e1] at hb
      omega
    · simp only [e1] at hb
      refine ⟨k + 1, ⟨by omega, fun i hi => ?_⟩, by omega, ?_⟩
      · rcases Nat.lt_succ_iff_lt_or_eq.1 hi with h | rfl
        · exact hall i h
        · omega
      · refine wkn ?_ ?_ ?_
        all_goals first | exact wk0 | refine wkS ?_ | skip
        all_goals (try trivial)
        all_goals ((repeat' apply And.intro) <;> first | exact wkL | skip)
    · obtain rfl : k = l.length := by omega
      refine ret_of (by simp) ⟨_, _, _, evl, ob0, OutOk.eq ?_ ?_⟩
      · congr 2
        rw [Bool.eq_iff_iff, decide_eq_true_iff, risingP_iff]
        simp only [Bool.and_eq_true, decide_eq_true_eq]
        exact ⟨fun h => ⟨by omega, hall⟩, fun h => by omega⟩
      · simp [AV.free]
theorem tvalidR_A (t : Table) (h1 : t.temps.length ≤ 1000) (h2 : t.ages.length ≤ 1000) (h3 : t.rates.length ≤ 1000) (h4 : ∀ r ∈ t.rates, r.length ≤ 1000) : FnA Tryz.prog 83 [.agg t.av] (.raw (.bool (decide (tabP t)))) := by
  have q1 := risingR_A t.temps h1
  have q2 := risingR_A t.ages h2
  have hf1 : (AV.lst 1 t.temps.length (els iC t.temps)).free := liA_free t.temps
  have hf2 : (AV.lst 1 t.ages.length (els iC t.ages)).free := liA_free t.ages
  by_cases hc : risingP t.temps ∧ risingP t.ages ∧ t.rates.length = t.temps.length
  · obtain ⟨c1, c2, c3⟩ := hc
    rw [decide_eq_true c1] at q1
    rw [decide_eq_true c2] at q2
    refine fnA_of tblOk Tryz.func83 rfl (by kernel_rfl) 61 Tryz.ntmps83 (by simp only [List.length_cons, List.length_nil]; omega) [.tmp 2] rfl ?_
    simp only [entrySt, argSl, Nat.zero_add, Nat.reduceAdd]
    try refine wkG (And.intro q1 q2) ?_
    try (refine Stop.mk ?_; intro K hK)
    refine wpA_cond' ⟨_, evl, fun hb => ?_, fun _ => ?_⟩
    · exfalso; simp [c3] at hb
    try refine wkG trivial ?_
    try (refine Stop.mk ?_; intro K hK)
    refine wpA_loop (fun k : Nat => ⟨61, 0, [(1, true, .box 0 0), (3, true, .raw (.int .i64 k))], [t.av], [], ((0, []), [], true)⟩)
      (fun k => k ≤ t.rates.length ∧ ∀ i, i < k → rowP t.ages.length (t.rates.getD i default)) (fun k => t.rates.length - k) 0 ?_ ⟨by omega, fun i h => by omega⟩ ?_
    · refine wkn ?_ ?_ ?_
      all_goals first | exact wk0 | refine wkS ?_ | skip
      all_goals (try trivial)
      all_goals ((repeat' apply And.intro) <;> first | exact wkL | skip)
    · rintro k ⟨hk, hall⟩
      rcases Nat.lt_or_ge k t.rates.length with hlt | hge
      · have hmem : t.rates.getD k default ∈ t.rates := by rw [getD_get hlt]; exact List.getElem_mem _
        have hno : tabP t → rowP t.ages.length (t.rates.getD k default) := fun h => h.2.2.2 _ hmem
        have hrl := h4 _ hmem
        try refine wkG trivial ?_
        try (refine Stop.mk ?_; intro K hK)
        refine wpA_cond' ⟨_, evl, fun _ => ?_, fun hb => absurd hlt (by simpa using hb)⟩
        try refine wkG trivial ?_
        try (refine Stop.mk ?_; intro K hK)
        refine cndS ⟨_, evl, ⟨cb, cb⟩, fun hb => ?_, fun hb => ?_⟩
        · try refine wkG trivial ?_
          try (refine Stop.mk ?_; intro K hK)
          refine ret_of (by simp) ⟨_, _, _, evl, ob0, OutOk.eq ?_ (by simp [AV.free])⟩
          simp only [AV.raw.injEq, Value.bool.injEq]
          rw [eq_comm, decide_eq_false_iff_not]
          intro h
          have := (hno h).1
          omega
        · try refine wkG trivial ?_
          try (refine Stop.mk ?_; intro K hK)
          refine wpA_loop (fun j : Nat => ⟨61, 0, [(1, true, .box 0 0), (3, true, .raw (.int .i64 k)), (4, true, .raw (.int .i64 j))], [t.av], [], ((0, []), [], true)⟩)
            (fun j => j ≤ (t.rates.getD k default).length ∧ ∀ i, i < j → 0 ≤ (t.rates.getD k default).getD i 0 ∧ (t.rates.getD k default).getD i 0 ≤ 1000000) (fun j => (t.rates.getD k default).length - j) 0 ?_ ⟨by omega, fun i h => by omega⟩ ?_
          · refine wkn ?_ ?_ ?_
            all_goals first | exact wk0 | refine wkS ?_ | skip
            all_goals (try trivial)
            all_goals ((repeat' apply And.intro) <;> first | exact wkL | skip)
          · rintro j ⟨hj, hq⟩
            have hB := boundR_A ((t.rates.getD k default).getD j 0)
            repeat' first
              | refine wkG hB ?_
              | (refine cndS ⟨_, evl, ⟨cb, cb⟩, fun hb => ?_, fun hb => ?_⟩ <;> try (cases hb; done))
              | (refine Stop.mk ?_; intro K hK)
              | fail
            · refine ret_of (by simp) ⟨_, _, _, evl, ob0, OutOk.eq ?_ (by simp [AV.free])⟩
              simp only [AV.raw.injEq, Value.bool.injEq]
              rw [eq_comm, decide_eq_false_iff_not]
              intro h
              have := (hno h).2 ((t.rates.getD k default).getD j 0) (by
                rw [← getD_int, getD_get (show j < (t.rates.getD k default).length by omega)]; exact List.getElem_mem _)
              omega
            · refine ⟨j + 1, ⟨by omega, fun i hi => ?_⟩, by omega, ?_⟩
              · rcases Nat.lt_succ_iff_lt_or_eq.1 hi with h | rfl
                · exact hq i h
                · omega
              · refine wkn ?_ ?_ ?_
                all_goals first | exact wk0 | refine wkS ?_ | skip
                all_goals (try trivial)
                all_goals ((repeat' apply And.intro) <;> first | exact wkL | skip)
            · refine ⟨k + 1, ⟨by omega, fun i hi => ?_⟩, by omega, ?_⟩
              · rcases Nat.lt_succ_iff_lt_or_eq.1 hi with h | rfl
                · exact hall i h
                · refine ⟨by omega, fun x hx => ?_⟩
                  obtain ⟨q, hq1, rfl⟩ := List.mem_iff_getElem.1 hx
                  have := hq q (by omega)
                  rw [← getD_int, getD_get hq1] at this
                  exact this
              · refine wkn ?_ ?_ ?_
                all_goals first | exact wk0 | refine wkS ?_ | skip
                all_goals (try trivial)
                all_goals ((repeat' apply And.intro) <;> first | exact wkL | skip)
      · obtain rfl : k = t.rates.length := by omega
        have ht : tabP t := ⟨c1, c2, c3, fun r hr => by
          obtain ⟨q, hq1, rfl⟩ := List.mem_iff_getElem.1 hr
          have := hall q hq1
          rwa [getD_get hq1] at this⟩
        rw [decide_eq_true ht]
        try refine wkG trivial ?_
        try (refine Stop.mk ?_; intro K hK)
        refine wpA_cond' ⟨_, evl, fun hb => absurd hb (by simp), fun _ => ?_⟩
        try refine wkG trivial ?_
        try (refine Stop.mk ?_; intro K hK)
        refine ret_of (by simp) ⟨_, _, _, evl, ob0, OutOk.eq ?_ ?_⟩
        · rfl
        · simp [AV.free]
  · rw [decide_eq_false (fun h : tabP t => hc ⟨h.1, h.2.1, h.2.2.1⟩)]
    have hno : decide (risingP t.temps) = true → decide (risingP t.ages) = true → (t.rates.length : Int) = t.temps.length → False := fun a b c => hc ⟨of_decide_eq_true a, of_decide_eq_true b, by omega⟩
    clear hc
    generalize decide (risingP t.temps) = b1 at *
    generalize decide (risingP t.ages) = b2 at *
    refine fnA_of tblOk Tryz.func83 rfl (by kernel_rfl) 61 Tryz.ntmps83 (by simp only [List.length_cons, List.length_nil]; omega) [.tmp 2] rfl ?_
    simp only [entrySt, argSl, Nat.zero_add, Nat.reduceAdd]
    try refine wkG (And.intro q1 q2) ?_
    try (refine Stop.mk ?_; intro K hK)
    refine wpA_cond' ⟨_, evl, fun _ => ?_, fun hb => ?_⟩
    · try refine wkG trivial ?_
      try (refine Stop.mk ?_; intro K hK)
      refine ret_of (by simp) ⟨_, _, _, evl, ob0, OutOk.eq ?_ ?_⟩
      · rfl
      · simp [AV.free]
    · exfalso
      simp at hb
      exact hno hb.1.1 hb.1.2 (by omega)
/-- What a counter counts in a short time. -/
def countsM (rate e : Int) : Rg × Int := if (0 ≤ rate ∧ rate ≤ 1000000) ∧ 0 ≤ e ∧ e ≤ 1000000000000000 then (⟨e * (1000000000 - rate) / 1000000000, ceilD (e * (1000000000 + rate)) 1000000000⟩, 0) else (⟨0, 0⟩, 1)
theorem small_mul {e r : Int} (he : 0 ≤ e ∧ e ≤ 10000000) (hr : 0 ≤ r ∧ r ≤ 2000000000) : 0 ≤ e * r ∧ e * r ≤ 20000000000000000 := by
  refine ⟨Int.mul_nonneg he.1 hr.1, ?_⟩
  calc e * r ≤ 10000000 * r := Int.mul_le_mul_of_nonneg_right he.2 hr.1
    _ ≤ 10000000 * 2000000000 := Int.mul_le_mul_of_nonneg_left hr.2 (by decide)
theorem counts_A (rate e : Int) (he : e ≤ 10000000) : FnA Tryz.prog 25 [.raw (.int .i64 rate), .raw (.int .i64 e)] (.tup [.agg (countsM rate e).1.av, .raw (.int .i64 (countsM rate e).2)]) := by
  have h1 := isBound_A rate
  have h2 := isStretch_A e
  by_cases hc : (0 ≤ rate ∧ rate ≤ 1000000) ∧ 0 ≤ e ∧ e ≤ 1000000000000000
  · rw [countsM, if_pos hc]
    rw [decide_eq_true hc.1.1, decide_eq_true hc.1.2] at h1
    rw [decide_eq_true hc.2.1, decide_eq_true hc.2.2] at h2
    obtain ⟨⟨r1, r2⟩, r3, r4⟩ := hc
    have m1 := small_mul (e := e) (r := 1000000000 - rate) ⟨r3, he⟩ (by omega)
    have m2 := small_mul (e := e) (r := 1000000000 + rate) ⟨r3, he⟩ (by omega)
    have f1 := floor_A e (1000000000 - rate) 1000000000 (by omega) (by omega) (by omega) (by omega) (by omega)
    have f2 := ceil_A e (1000000000 + rate) 1000000000 (by omega) (by omega) (by omega) (by omega) (by omega)
    generalize e * (1000000000 - rate) / 1000000000 = X at *
    generalize ceilD (e * (1000000000 + rate)) 1000000000 = Y at *
    clear m1 m2
    refine fnA_of tblOk Tryz.func25 rfl (by kernel_rfl) 43 Tryz.ntmps25 (by simp only [List.length_cons, List.length_nil]; omega) [.cell 4 47, .tmp 5] rfl ?_
    simp only [entrySt, argSl, Nat.zero_add, Nat.reduceAdd]
    repeat' first
      | refine wkG (And.intro h1 (And.intro h2 (And.intro f1 f2))) ?_
      | (refine cndS ⟨_, evl, ⟨cb, cb⟩, fun hb => ?_, fun hb => ?_⟩ <;> try (cases hb; done))
      | (refine Stop.mk ?_; intro K hK)
      | fail
    refine ret_of (by simp) ⟨_, _, _, evl, ob0, OutOk.eq ?_ ?_⟩
    · rfl
    · simp [AV.free, AV.freeL, go_sem]
  · rw [countsM, if_neg hc]
    refine fnA_of tblOk Tryz.func25 rfl (by kernel_rfl) 43 Tryz.ntmps25 (by simp only [List.length_cons, List.length_nil]; omega) [.cell 4 47, .tmp 5] rfl ?_
    simp only [entrySt, argSl, Nat.zero_add, Nat.reduceAdd]
    repeat' first
      | refine wkG (And.intro h1 h2) ?_
      | (refine cndS ⟨_, evl, ⟨cb, cb⟩, fun hb => ?_, fun hb => ?_⟩ <;> try (cases hb; done))
      | (refine Stop.mk ?_; intro K hK)
      | fail
    · refine ret_of (by simp) ⟨_, _, _, evl, ob0, OutOk.eq ?_ ?_⟩
      · rfl
      · simp [AV.free, AV.freeL, go_sem]
    · exact absurd ⟨hb.1, hb.2⟩ hc
end Go.Proofs.YtcdgncmkkknmlaaGreatDoor
