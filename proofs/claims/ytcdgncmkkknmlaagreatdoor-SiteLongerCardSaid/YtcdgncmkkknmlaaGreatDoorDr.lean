/- package drift: tables. -/
import Derived.Test.YtcdgncmkkknmlaaGreatDoorKeyS
import Derived.Test.YtcdgncmkkknmlaaGreatDoorSc
namespace Go.Proofs.YtcdgncmkkknmlaaGreatDoor
set_option linter.unusedVariables false
set_option linter.unusedSimpArgs false
set_option maxHeartbeats 4000000
set_option maxRecDepth 100000
open Go.RowKit
theorem all_no {α : Type} {l : List α} {p : α → Bool} {x : α} (h : x ∈ l) (hp : p x = false) : l.all p = false := by
  rw [List.all_eq_false]; exact ⟨x, h, by simp [hp]⟩
theorem all_yes {α : Type} [Inhabited α] {l : List α} {p : α → Bool} (h : ∀ i, i < l.length → p (l.getD i default) = true) : l.all p = true := by
  rw [List.all_eq_true]
  intro x hx
  obtain ⟨i, hi, rfl⟩ := List.mem_iff_getElem.1 hx
  rw [← getD_get hi]
  exact h i hi
abbrev liC (l : List Int) : List AV := [liA l]
abbrev pC (p : Int × Int) : List AV := [.raw (.int .i64 p.1), .raw (.int .i64 p.2)]
theorem pC_free (ps : List (Int × Int)) : (lA 2 pC ps).free := lA_free (fun x => show AV.freeL (pC x) from ⟨trivial, trivial, trivial⟩) _
theorem liA_free (l : List Int) : (liA l).free := lA_free (fun x => show AV.freeL (iC x) from ⟨trivial, trivial⟩) _
theorem all_I (l : List Int) (hl : l.length ≤ 9223372036854775807) (g : FuncId) (cap : List AV) (hcap : AV.freeL cap) (p : Int → Bool) (hp : ∀ x ∈ l, FnA Tryz.prog g (.raw (.int .i64 x) :: cap) (.raw (.bool (p x)))) :
    FnA Tryz.prog 88 [lA 1 iC l, .fn (.func g) [] cap] (.raw (.bool (l.all p))) := by
  refine fnA_of tblOk Tryz.func88 rfl (by kernel_rfl) 18 Tryz.ntmps88 (by simp only [List.length_cons, List.length_nil]; omega) [.tmp 4] rfl ?_
  simp only [entrySt, argSl, Nat.zero_add, Nat.reduceAdd]
  try refine wkG trivial ?_
  try (refine Stop.mk ?_; intro K hK)
  refine wpA_loop (fun k : Nat => ⟨18, 0, [(0, true, lA 1 iC l), (1, true, .fn (.func g) [] cap), (7, true, lA 1 iC l), (8, true, .raw (.int .i64 l.length)), (9, true, .raw (.int .i64 k))], [], [], ((0, []), [], true)⟩)
    (fun k => k ≤ l.length ∧ ∀ i, i < k → p (l.getD i default) = true) (fun k => l.length - k) 0 ?_ ⟨by omega, fun i h => by omega⟩ ?_
  · refine wkn ?_ ?_ ?_
    all_goals first | exact wk0 | refine wkS ?_ | skip
    all_goals (try trivial)
    all_goals ((repeat' apply And.intro) <;> first | exact wkL | skip)
  · rintro k ⟨hk, hall⟩
    try refine wkG trivial ?_
    try (refine Stop.mk ?_; intro K hK)
    refine wpA_cond' ⟨_, evl, ?_, ?_⟩
    · intro hlt
      simp only [decide_eq_true_eq] at hlt
      have hmem : l.getD k default ∈ l := by rw [getD_get (show k < l.length by omega)]; exact List.getElem_mem _
      have hpk := hp _ hmem
      try refine wkG hpk ?_
      try (refine Stop.mk ?_; intro K hK)
      refine wpA_cond' ⟨_, evl, ?_, ?_⟩
      · intro hb
        try refine wkG trivial ?_
        try (refine Stop.mk ?_; intro K hK)
        refine ret_of (by simp) ⟨_, _, _, evl, ob0, OutOk.eq ?_ ?_⟩
        · rw [all_no hmem (by simpa using hb)]
        · simp [AV.free]
      · intro hb
        try refine wkG trivial ?_
        try (refine Stop.mk ?_; intro K hK)
        refine ⟨k + 1, ⟨by omega, fun i hi => ?_⟩, by omega, ?_⟩
        · rcases Nat.lt_succ_iff_lt_or_eq.1 hi with h | rfl
          · exact hall i h
          · simpa using hb
        · refine wkn ?_ ?_ ?_
          all_goals first | exact wk0 | refine wkS ?_ | skip
          all_goals (try trivial)
          all_goals ((repeat' apply And.intro) <;> first | exact wkL | skip)
    · intro hge
      simp only [decide_eq_false_iff_not] at hge
      try refine wkG trivial ?_
      try (refine Stop.mk ?_; intro K hK)
      refine ret_of (by simp) ⟨_, _, _, evl, ob0, OutOk.eq ?_ ?_⟩
      · rw [all_yes (fun i hi => hall i (by omega))]
      · simp [AV.free]
theorem all_L (l : List (List Int)) (hl : l.length ≤ 9223372036854775807) (g : FuncId) (cap : List AV) (hcap : AV.freeL cap) (p : (List Int) → Bool) (hp : ∀ x ∈ l, FnA Tryz.prog g (liA x :: cap) (.raw (.bool (p x)))) :
    FnA Tryz.prog 86 [lA 1 liC l, .fn (.func g) [] cap] (.raw (.bool (l.all p))) := by
  refine fnA_of tblOk Tryz.func86 rfl (by kernel_rfl) 18 Tryz.ntmps86 (by simp only [List.length_cons, List.length_nil]; omega) [.tmp 4] rfl ?_
  simp only [entrySt, argSl, Nat.zero_add, Nat.reduceAdd]
  try refine wkG trivial ?_
  try (refine Stop.mk ?_; intro K hK)
  refine wpA_loop (fun k : Nat => ⟨18, 0, [(0, true, lA 1 liC l), (1, true, .fn (.func g) [] cap), (7, true, lA 1 liC l), (8, true, .raw (.int .i64 l.length)), (9, true, .raw (.int .i64 k))], [], [], ((0, []), [], true)⟩)
    (fun k => k ≤ l.length ∧ ∀ i, i < k → p (l.getD i default) = true) (fun k => l.length - k) 0 ?_ ⟨by omega, fun i h => by omega⟩ ?_
  · refine wkn ?_ ?_ ?_
    all_goals first | exact wk0 | refine wkS ?_ | skip
    all_goals (try trivial)
    all_goals ((repeat' apply And.intro) <;> first | exact wkL | skip)
  · rintro k ⟨hk, hall⟩
    try refine wkG trivial ?_
    try (refine Stop.mk ?_; intro K hK)
    refine wpA_cond' ⟨_, evl, ?_, ?_⟩
    · intro hlt
      simp only [decide_eq_true_eq] at hlt
      have hmem : l.getD k default ∈ l := by rw [getD_get (show k < l.length by omega)]; exact List.getElem_mem _
      have hpk := hp _ hmem
      try refine wkG hpk ?_
      try (refine Stop.mk ?_; intro K hK)
      refine wpA_cond' ⟨_, evl, ?_, ?_⟩
      · intro hb
        try refine wkG trivial ?_
        try (refine Stop.mk ?_; intro K hK)
        refine ret_of (by simp) ⟨_, _, _, evl, ob0, OutOk.eq ?_ ?_⟩
        · rw [all_no hmem (by simpa using hb)]
        · simp [AV.free]
      · intro hb
        try refine wkG trivial ?_
        try (refine Stop.mk ?_; intro K hK)
        refine ⟨k + 1, ⟨by omega, fun i hi => ?_⟩, by omega, ?_⟩
        · rcases Nat.lt_succ_iff_lt_or_eq.1 hi with h | rfl
          · exact hall i h
          · simpa using hb
        · refine wkn ?_ ?_ ?_
          all_goals first | exact wk0 | refine wkS ?_ | skip
          all_goals (try trivial)
          all_goals ((repeat' apply And.intro) <;> first | exact wkL | skip)
    · intro hge
      simp only [decide_eq_false_iff_not] at hge
      try refine wkG trivial ?_
      try (refine Stop.mk ?_; intro K hK)
      refine ret_of (by simp) ⟨_, _, _, evl, ob0, OutOk.eq ?_ ?_⟩
      · rw [all_yes (fun i hi => hall i (by omega))]
      · simp [AV.free]
theorem all_P (l : List (Int × Int)) (hl : l.length ≤ 9223372036854775807) (g : FuncId) (cap : List AV) (hcap : AV.freeL cap) (p : (Int × Int) → Bool) (hp : ∀ x ∈ l, FnA Tryz.prog g (.agg (pC x) :: cap) (.raw (.bool (p x)))) :
    FnA Tryz.prog 120 [lA 2 pC l, .fn (.func g) [] cap] (.raw (.bool (l.all p))) := by
  refine fnA_of tblOk Tryz.func120 rfl (by kernel_rfl) 18 Tryz.ntmps120 (by simp only [List.length_cons, List.length_nil]; omega) [.tmp 4] rfl ?_
  simp only [entrySt, argSl, Nat.zero_add, Nat.reduceAdd]
  try refine wkG trivial ?_
  try (refine Stop.mk ?_; intro K hK)
  refine wpA_loop (fun k : Nat => ⟨18, 0, [(0, true, lA 2 pC l), (1, true, .fn (.func g) [] cap), (7, true, lA 2 pC l), (8, true, .raw (.int .i64 l.length)), (9, true, .raw (.int .i64 k))], [], [], ((0, []), [], true)⟩)
    (fun k => k ≤ l.length ∧ ∀ i, i < k → p (l.getD i default) = true) (fun k => l.length - k) 0 ?_ ⟨by omega, fun i h => by omega⟩ ?_
  · refine wkn ?_ ?_ ?_
    all_goals first | exact wk0 | refine wkS ?_ | skip
    all_goals (try trivial)
    all_goals ((repeat' apply And.intro) <;> first | exact wkL | skip)
  · rintro k ⟨hk, hall⟩
    try refine wkG trivial ?_
    try (refine Stop.mk ?_; intro K hK)
    refine wpA_cond' ⟨_, evl, ?_, ?_⟩
    · intro hlt
      simp only [decide_eq_true_eq] at hlt
      have hmem : l.getD k default ∈ l := by rw [getD_get (show k < l.length by omega)]; exact List.getElem_mem _
      have hpk := hp _ hmem
      try refine wkG hpk ?_
      try (refine Stop.mk ?_; intro K hK)
      refine wpA_cond' ⟨_, evl, ?_, ?_⟩
      · intro hb
        try refine wkG trivial ?_
        try (refine Stop.mk ?_; intro K hK)
        refine ret_of (by simp) ⟨_, _, _, evl, ob0, OutOk.eq ?_ ?_⟩
        · rw [all_no hmem (by simpa using hb)]
        · simp [AV.free]
      · intro hb
        try refine wkG trivial ?_
        try (refine Stop.mk ?_; intro K hK)
        refine ⟨k + 1, ⟨by omega, fun i hi => ?_⟩, by omega, ?_⟩
        · rcases Nat.lt_succ_iff_lt_or_eq.1 hi with h | rfl
          · exact hall i h
          · simpa using hb
        · refine wkn ?_ ?_ ?_
          all_goals first | exact wk0 | refine wkS ?_ | skip
          all_goals (try trivial)
          all_goals ((repeat' apply And.intro) <;> first | exact wkL | skip)
    · intro hge
      simp only [decide_eq_false_iff_not] at hge
      try refine wkG trivial ?_
      try (refine Stop.mk ?_; intro K hK)
      refine ret_of (by simp) ⟨_, _, _, evl, ob0, OutOk.eq ?_ ?_⟩
      · rw [all_yes (fun i hi => hall i (by omega))]
      · simp [AV.free]
theorem isBound_A (n : Int) : FnA Tryz.prog 71 [.raw (.int .i64 n)] (.raw (.bool (decide (0 ≤ n) && decide (n ≤ 1000000)))) := by
  refine fnA_of tblOk Tryz.func71 rfl (by kernel_rfl) 9 Tryz.ntmps71 (by simp only [List.length_cons, List.length_nil]; omega) [.tmp 2] rfl ?_
  simp only [entrySt, argSl, Nat.zero_add, Nat.reduceAdd]
  repeat' first
    | refine wkG trivial ?_
    | (refine cndS ⟨_, evl, ⟨cb, cb⟩, fun hb => ?_, fun hb => ?_⟩ <;> try (cases hb; done))
    | (refine Stop.mk ?_; intro K hK)
    | fail
  all_goals (try (refine ret_of (by simp) ⟨_, _, _, evl, ob0, OutOk.sims ?_ fre⟩))
  all_goals first | exact Sims.refl _ | (refine Sims.of_eq ?_; first | rfl | (simp []; done) | (simp_all []; done) | (simp_all []; omega) | (simp []; grind) | (split <;> simp_all)) | exact simsF | (refine Sims.tup ?_; simp only [SimsL, and_true]; (repeat' apply And.intro) <;> first | exact simsF | skip) | (exfalso; first | omega | (simp_all; done) | (simp_all; omega)) | skip
theorem isStretch_A (n : Int) : FnA Tryz.prog 72 [.raw (.int .i64 n)] (.raw (.bool (decide (0 ≤ n) && decide (n ≤ 1000000000000000)))) := by
  refine fnA_of tblOk Tryz.func72 rfl (by kernel_rfl) 9 Tryz.ntmps72 (by simp only [List.length_cons, List.length_nil]; omega) [.tmp 2] rfl ?_
  simp only [entrySt, argSl, Nat.zero_add, Nat.reduceAdd]
  repeat' first
    | refine wkG trivial ?_
    | (refine cndS ⟨_, evl, ⟨cb, cb⟩, fun hb => ?_, fun hb => ?_⟩ <;> try (cases hb; done))
    | (refine Stop.mk ?_; intro K hK)
    | fail
  all_goals (try (refine ret_of (by simp) ⟨_, _, _, evl, ob0, OutOk.sims ?_ fre⟩))
  all_goals first | exact Sims.refl _ | (refine Sims.of_eq ?_; first | rfl | (simp []; done) | (simp_all []; done) | (simp_all []; omega) | (simp []; grind) | (split <;> simp_all)) | exact simsF | (refine Sims.tup ?_; simp only [SimsL, and_true]; (repeat' apply And.intro) <;> first | exact simsF | skip) | (exfalso; first | omega | (simp_all; done) | (simp_all; omega)) | skip
def prs (l : List Int) (n : Nat) : List (Int × Int) := (List.range n).map fun j => (l.getD j default, l.getD (j + 1) default)
theorem pairs_A (l : List Int) (hl : l.length ≤ 1000) : FnA Tryz.prog 121 [liA l] (lA 2 pC (prs l (l.length - 1))) := by
  refine fnA_of tblOk Tryz.func121 rfl (by kernel_rfl) 25 Tryz.ntmps121 (by simp only [List.length_cons, List.length_nil]; omega) [.tmp 2] rfl ?_
  simp only [entrySt, argSl, Nat.zero_add, Nat.reduceAdd]
  try refine wkG trivial ?_
  try (refine Stop.mk ?_; intro K hK)
  refine wpA_weak (Weak.nilRow 3 134 2 rfl) ?_
  refine wpA_loop (fun k : Nat => ⟨25, 0, [(0, true, liA l), (3, true, .row 0 (prs l k).length), (4, true, .raw (.int .i64 (k + 1)))], [], [⟨134, 2, (prs l k).length, els pC (prs l k)⟩], ((0, []), [], true)⟩)
    (fun k => k = 0 ∨ k + 1 ≤ l.length) (fun k => l.length - k) 0 ?_ (.inl rfl) ?_
  · simp only [prs, List.range_zero, List.map_nil, List.length_nil]
    refine wkn ?_ ?_ ?_
    all_goals first | exact wk0 | refine wkS ?_ | skip
    all_goals (try trivial)
    all_goals ((repeat' apply And.intro) <;> first | exact wkL | skip)
  · intro k hk
    have hlen : (prs l k).length = k := by simp [prs]
    have hs : prs l (k + 1) = prs l k ++ [(l.getD k default, l.getD (k + 1) default)] := by simp [prs, List.range_succ]
    rw [hlen]
    have e1 : ((k : Int) + 1 - 1).toNat = k := by omega
    have e2 : ((k : Int) + 1).toNat = k + 1 := by omega
    try refine wkR trivial ?_
    try (refine Stop.mk ?_; intro K hK)
    refine wpA_cond' ⟨_, evl, fun hb => ?_, fun hb => ?_⟩
    · simp only [decide_eq_true_eq] at hb
      try refine wkR trivial ?_
      try (refine Stop.mk ?_; intro K hK)
      refine ⟨k + 1, .inr (by omega), by omega, ?_⟩
      rw [hs, List.length_append, hlen]
      simp only [e1, e2]
      generalize prs l k = R at *
      subst hlen
      refine wkn ?_ ?_ ?_
      all_goals first | exact wk0 | refine wkS ?_ | skip
      all_goals (try trivial)
      all_goals ((repeat' apply And.intro) <;> first | exact wkL | skip)
    · simp only [decide_eq_false_iff_not] at hb
      rw [show l.length - 1 = k by omega]
      try refine wkR trivial ?_
      try (refine Stop.mk ?_; intro K hK)
      refine ret_of (by simp) ⟨_, _, _, evl, ob0, ?_⟩
      refine OutOk.sims (Sims.row rfl rfl rfl ?_ (fun i hi => rfl)) (pC_free _)
      exact hlen.symm
def risingP (l : List Int) : Prop := (1 ≤ l.length ∧ l.length ≤ 8) ∧ -1000000 ≤ l.getD 0 default ∧ l.getD (l.length - 1) default ≤ 1000000 ∧ ∀ i, i + 1 < l.length → l.getD i default < l.getD (i + 1) default
theorem prs_all (l : List Int) : (prs l (l.length - 1)).all (fun p => decide (p.1 < p.2)) = true ↔ ∀ i, i + 1 < l.length → l.getD i default < l.getD (i + 1) default := by
  simp only [prs, List.all_map, List.all_eq_true, List.mem_range, Function.comp, decide_eq_true_eq]
  exact ⟨fun h i hi => h i (by omega), fun h i hi => h i (by omega)⟩
instance (l : List Int) : Decidable (∀ i, i + 1 < l.length → l.getD i default < l.getD (i + 1) default) := decidable_of_iff _ (prs_all l)
instance (l : List Int) : Decidable (risingP l) := by unfold risingP; infer_instance
theorem less_A (p : Int × Int) : FnA Tryz.prog 122 [.agg (pC p)] (.raw (.bool (decide (p.1 < p.2)))) := by
  refine fnA_of tblOk Tryz.func122 rfl (by kernel_rfl) 8 Tryz.ntmps122 (by simp only [List.length_cons, List.length_nil]; omega) [.tmp 2] rfl ?_
  simp only [entrySt, argSl, Nat.zero_add, Nat.reduceAdd]
  repeat' first
    | refine wkG trivial ?_
    | (refine cndS ⟨_, evl, ⟨cb, cb⟩, fun hb => ?_, fun hb => ?_⟩ <;> try (cases hb; done))
    | (refine Stop.mk ?_; intro K hK)
    | fail
  all_goals (try (refine ret_of (by simp) ⟨_, _, _, evl, ob0, OutOk.sims ?_ fre⟩))
  all_goals first | exact Sims.refl _ | (refine Sims.of_eq ?_; first | rfl | (simp []; done) | (simp_all []; done) | (simp_all []; omega) | (simp []; grind) | (split <;> simp_all)) | exact simsF | (refine Sims.tup ?_; simp only [SimsL, and_true]; (repeat' apply And.intro) <;> first | exact simsF | skip) | (exfalso; first | omega | (simp_all; done) | (simp_all; omega)) | skip
theorem rising_A (l : List Int) (hl : l.length ≤ maxLen) : FnA Tryz.prog 85 [liA l] (.raw (.bool (decide (risingP l)))) := by
  have hfr : (liA l).free := lA_free (fun _ => by simp [AV.free, AV.freeL, iC]) _
  by_cases h8 : 1 ≤ l.length ∧ l.length ≤ 8
  · have h1 := pairs_A l (by omega)
    have h2 := all_P (prs l (l.length - 1)) (by simp [prs]; omega) _ [] trivial (fun p => decide (p.1 < p.2)) (fun x _ => less_A x)
    have hpf := pC_free (prs l (l.length - 1))
    have e : decide (risingP l) = (decide (-1000000 ≤ l.getD 0 default) && decide (l.getD (l.length - 1) default ≤ 1000000) && (prs l (l.length - 1)).all fun p => decide (p.1 < p.2)) := by
      rw [Bool.eq_iff_iff, decide_eq_true_iff]
      simp only [Bool.and_eq_true, decide_eq_true_eq, prs_all, risingP]
      exact ⟨fun h => ⟨⟨h.2.1, h.2.2.1⟩, h.2.2.2⟩, fun h => ⟨h8, h.1.1, h.1.2, h.2⟩⟩
    have e1 : ((l.length : Int) - 1).toNat = l.length - 1 := by omega
    rw [e]
    generalize (prs l (l.length - 1)).all (fun p => decide (p.1 < p.2)) = B at *
    generalize lA 2 pC (prs l (l.length - 1)) = R at *
    clear e
    refine fnA_of tblOk Tryz.func85 rfl (by kernel_rfl) 29 Tryz.ntmps85 (by simp only [List.length_cons, List.length_nil]; omega) [.tmp 2] rfl ?_
    simp only [entrySt, argSl, Nat.zero_add, Nat.reduceAdd]
    repeat' first
      | refine wkG (And.intro h1 h2) ?_
      | (refine cndS ⟨_, evl, ⟨cb, cb⟩, fun hb => ?_, fun hb => ?_⟩ <;> try (cases hb; done))
      | (refine Stop.mk ?_; intro K hK)
      | fail
    · refine ret_of (by simp) ⟨_, _, _, evl, ob0, OutOk.eq ?_ (by simp [AV.free])⟩
      congr 2
      simp only [e1, getD_int] at hb ⊢
      rcases hb with ((h | h) | h) | h
      · omega
      · omega
      · rw [decide_eq_false (show ¬ -1000000 ≤ l.getD 0 0 by omega)]; rfl
      · rw [decide_eq_false (show ¬ l.getD (l.length - 1) 0 ≤ 1000000 by omega), Bool.and_false]; rfl
    · refine ret_of (by simp) ⟨_, _, _, evl, ob0, OutOk.eq ?_ (by simp [AV.free])⟩
      congr 2
      simp only [e1, getD_int] at hb ⊢
      rw [decide_eq_true (show -1000000 ≤ l.getD 0 0 by omega), decide_eq_true (show l.getD (l.length - 1) 0 ≤ 1000000 by omega)]
      rfl
  · rw [decide_eq_false (fun h => h8 h.1)]
    refine fnA_of tblOk Tryz.func85 rfl (by kernel_rfl) 29 Tryz.ntmps85 (by simp only [List.length_cons, List.length_nil]; omega) [.tmp 2] rfl ?_
    simp only [entrySt, argSl, Nat.zero_add, Nat.reduceAdd]
    try refine wkG trivial ?_
    try (refine Stop.mk ?_; intro K hK)
    refine wpA_cond' ⟨_, evl, fun _ => ?_, fun hb => ?_⟩
    · try refine wkG trivial ?_
      try (refine Stop.mk ?_; intro K hK)
      refine ret_of (by simp) ⟨_, _, _, evl, ob0, OutOk.eq ?_ ?_⟩
      · rfl
      · simp [AV.free]
    · exfalso
      simp at hb
      omega
structure Rg where
  lo : Int
  hi : Int
  deriving Inhabited, DecidableEq
@[go_sem] def Rg.av (x : Rg) : List AV := [.raw (.int .i64 x.lo), .raw (.int .i64 x.hi)]
def Rg.fits (x : Rg) : Prop := (inK .i64 x.lo) ∧ (inK .i64 x.hi)
@[simp] theorem Rg.free (x : Rg) : AV.freeL x.av := ⟨trivial, trivial, trivial⟩
structure Table where
  temps : List Int
  ages : List Int
  rates : List (List Int)
  deriving Inhabited, DecidableEq
@[go_sem] def Table.av (x : Table) : List AV := [lA 1 iC x.temps, lA 1 iC x.ages, lA 1 (fun l => [lA 1 iC l]) x.rates]
def Table.fits (x : Table) : Prop := (x.temps.length ≤ maxLen ∧ ∀ y ∈ x.temps, inK .i64 y) ∧ (x.ages.length ≤ maxLen ∧ ∀ y ∈ x.ages, inK .i64 y) ∧ (x.rates.length ≤ maxLen ∧ ∀ y ∈ x.rates, y.length ≤ maxLen ∧ ∀ y' ∈ y, inK .i64 y')
@[simp] theorem Table.free (x : Table) : AV.freeL x.av := ⟨lA_free (fun y => show AV.freeL (iC y) from ⟨trivial, trivial⟩) _, lA_free (fun y => show AV.freeL (iC y) from ⟨trivial, trivial⟩) _, lA_free (fun y => show AV.freeL ((fun l => [lA 1 iC l]) y) from ⟨lA_free (fun y => show AV.freeL (iC y) from ⟨trivial, trivial⟩) _, trivial⟩) _, trivial⟩
def rowP (n : Nat) (r : List Int) : Prop := r.length = n ∧ ∀ x ∈ r, 0 ≤ x ∧ x ≤ 1000000
instance (n : Nat) (r : List Int) : Decidable (rowP n r) := by unfold rowP; infer_instance
def tabP (t : Table) : Prop := risingP t.temps ∧ risingP t.ages ∧ t.rates.length = t.temps.length ∧ ∀ r ∈ t.rates, rowP t.ages.length r
instance (t : Table) : Decidable (tabP t) := by unfold tabP; infer_instance
theorem row_A (t : Table) (r : List Int) (hr : r.length ≤ 9223372036854775807) : FnA Tryz.prog 87 [liA r, .elt t.av 0] (.raw (.bool (decide (rowP t.ages.length r)))) := by
  have h1 := all_I r hr _ [] trivial (fun n => decide (0 ≤ n) && decide (n ≤ 1000000)) (fun x _ => isBound_A x)
  have e : decide (rowP t.ages.length r) = (decide ((r.length : Int) = t.ages.length) && r.all fun n => decide (0 ≤ n) && decide (n ≤ 1000000)) := by
    rw [Bool.eq_iff_iff, decide_eq_true_iff]
    simp only [rowP, Bool.and_eq_true, decide_eq_true_eq, List.all_eq_true, Int.natCast_inj]
  rw [e]
  have hfr := liA_free r
  generalize (r.all fun n => decide (0 ≤ n) && decide (n ≤ 1000000)) = B at *
  clear e
  refine fnA_of tblOk Tryz.func87 rfl (by kernel_rfl) 14 Tryz.ntmps87 (by simp only [List.length_cons, List.length_nil]; omega) [.tmp 3] rfl ?_
  simp only [entrySt, argSl, Nat.zero_add, Nat.reduceAdd]
  repeat' first
    | refine wkG h1 ?_
    | (refine cndS ⟨_, evl, ⟨cb, cb⟩, fun hb => ?_, fun hb => ?_⟩ <;> try (cases hb; done))
    | (refine Stop.mk ?_; intro K hK)
    | fail
  all_goals (try (refine ret_of (by simp) ⟨_, _, _, evl, ob0, OutOk.sims ?_ fre⟩))
  all_goals first | exact Sims.refl _ | (refine Sims.of_eq ?_; first | rfl | (simp []; done) | (simp_all []; done) | (simp_all []; omega) | (simp []; grind) | (split <;> simp_all)) | exact simsF | (refine Sims.tup ?_; simp only [SimsL, and_true]; (repeat' apply And.intro) <;> first | exact simsF | skip) | (exfalso; first | omega | (simp_all; done) | (simp_all; omega)) | skip
theorem tvalid_A (t : Table) (ht : t.fits) : FnA Tryz.prog 40 [.agg t.av] (.raw (.bool (decide (tabP t)))) := by
  have h1 := rising_A t.temps ht.1.1
  have h2 := rising_A t.ages ht.2.1.1
  have hrl := ht.2.2.1
  have h3 := all_L t.rates hrl _ [.elt t.av 0] ⟨Table.free t, trivial⟩ (fun r => decide (rowP t.ages.length r)) (fun x hx => row_A t x (ht.2.2.2 x hx).1)
  have e : decide (tabP t) = (decide (risingP t.temps) && decide (risingP t.ages) && decide ((t.rates.length : Int) = t.temps.length) && t.rates.all fun r => decide (rowP t.ages.length r)) := by
    rw [Bool.eq_iff_iff, decide_eq_true_iff]
    simp only [tabP, Bool.and_eq_true, decide_eq_true_eq, List.all_eq_true, Int.natCast_inj, and_assoc]
  have hfr := Table.free t
  have hf2 : (AV.lst 1 t.rates.length (els (fun l : List Int => [AV.lst 1 l.length (els iC l)]) t.rates)).free := lA_free (enc := liC) (fun y => show AV.freeL (liC y) from ⟨liA_free y, trivial⟩) _
  have hf3 : (AV.lst 1 t.temps.length (els iC t.temps)).free := liA_free t.temps
  have hf4 : (AV.lst 1 t.ages.length (els iC t.ages)).free := liA_free t.ages
  rw [e]
  generalize (t.rates.all fun r => decide (rowP t.ages.length r)) = B at *
  generalize decide (risingP t.temps) = b1 at *
  generalize decide (risingP t.ages) = b2 at *
  clear e ht hrl
  refine fnA_of tblOk Tryz.func40 rfl (by kernel_rfl) 26 Tryz.ntmps40 (by simp only [List.length_cons, List.length_nil]; omega) [.tmp 2] rfl ?_
  simp only [entrySt, argSl, Nat.zero_add, Nat.reduceAdd]
  try refine wkG (And.intro h1 h2) ?_
  try (refine Stop.mk ?_; intro K hK)
  refine cndS ⟨_, evl, ⟨cb, cb⟩, fun hb => ?_, fun hb => ?_⟩
  · try refine wkG trivial ?_
    try (refine Stop.mk ?_; intro K hK)
    refine ret_of (by simp) ⟨_, _, _, evl, ob0, OutOk.eq ?_ ?_⟩
    · rcases hb with (h | h) | h <;> simp [h]
    · simp [AV.free]
  · refine wpA_freeze 0 obf ⟨_, evl, _, evl, ?_⟩
    repeat
      first
        | (refine runS_nil (hK _ ?_); clear hK K)
        | refine stG ?_
        | (refine gateA 1 rfl ?_; refine runA_put ?_)
        | (refine gateBc ?_; first | (refine runB_nil (hK _ ?_); clear hK K) | (refine runB_op rfl ⟨_, evl, fun nb' => ?_⟩))
        | refine wpA_region (fun K hK => ?_)
        | (refine gateD ?_; first | (refine wpA_drawG false rfl (by kernel_rfl) (by kernel_rfl) (fun K hK => ?_)) | (refine wpA_drawG true rfl (by kernel_rfl) (by kernel_rfl) (fun K hK => ?_)))
    refine gateS 1 rfl ?_
    refine runS_call rfl rfl ⟨_, evl, _, _, _, evl, ?_, ?_⟩
    · intro _
      refine ⟨by simp, hf2, ?_⟩
      exact ⟨⟨trivial, ⟨hfr, trivial⟩⟩, trivial⟩
    refine ⟨_, fun hg => FnA.at_ h3 rfl rfl, ?_⟩
    repeat
      first
        | (refine runS_nil (hK _ ?_); clear hK K)
        | refine stG ?_
        | (refine gateA 1 rfl ?_; refine runA_put ?_)
        | (refine gateBc ?_; first | (refine runB_nil (hK _ ?_); clear hK K) | (refine runB_op rfl ⟨_, evl, fun nb' => ?_⟩))
        | refine wpA_region (fun K hK => ?_)
        | (refine gateD ?_; first | (refine wpA_drawG false rfl (by kernel_rfl) (by kernel_rfl) (fun K hK => ?_)) | (refine wpA_drawG true rfl (by kernel_rfl) (by kernel_rfl) (fun K hK => ?_)))
    refine ret_of (by simp) ⟨_, _, _, evl, ob0, OutOk.eq ?_ ?_⟩
    · obtain ⟨⟨h4, h5⟩, h6⟩ := hb
      simp [h4, h5, h6]
    · simp [AV.free]
end Go.Proofs.YtcdgncmkkknmlaaGreatDoor
