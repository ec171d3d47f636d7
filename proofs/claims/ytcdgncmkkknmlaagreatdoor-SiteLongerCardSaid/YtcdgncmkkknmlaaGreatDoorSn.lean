/- The reference of chapter 28: Host, Auth, tables, auths. -/
import Derived.Test.YtcdgncmkkknmlaaGreatDoorSl
namespace Go.Proofs.YtcdgncmkkknmlaaGreatDoor
set_option linter.unusedVariables false
set_option linter.unusedSimpArgs false
set_option maxHeartbeats 4000000
set_option maxRecDepth 100000
open Go.RowKit
theorem hostR_A (n : Net) (hl : n.hosts.length ≤ 1000) (a : Int) : FnA Tryz.prog 37 [.agg n.av, .raw (.int .i64 a)] (.raw (.int .i64 (idxM (isH a) n.hosts))) := by
  refine fnA_of tblOk Tryz.func37 rfl (by kernel_rfl) 22 Tryz.ntmps37 (by simp only [List.length_cons, List.length_nil]; omega) [.tmp 4] rfl ?_
  simp only [entrySt, argSl, Nat.zero_add, Nat.reduceAdd]
  try refine wkG trivial ?_
  try (refine Stop.mk ?_; intro K hK)
  refine wpA_loop (fun k : Nat => ⟨22, 0, [(1, true, .raw (.int .i64 a)), (2, true, .box 0 0), (5, true, .raw (.int .i64 k))], [n.av], [], ((0, []), [], true)⟩)
    (fun k => k ≤ n.hosts.length ∧ ∀ i, i < k → isH a (n.hosts.getD i default) = false) (fun k => n.hosts.length - k) 0 ?_ ⟨by omega, fun i h => by omega⟩ ?_
  · refine wkn ?_ ?_ ?_
    all_goals first | exact wk0 | refine wkS ?_ | skip
    all_goals (try trivial)
    all_goals ((repeat' apply And.intro) <;> first | exact wkL | skip)
  · rintro k ⟨hk, hall⟩
    repeat' first
      | refine wkG trivial ?_
      | (refine cndS ⟨_, evl, ⟨cb, cb⟩, fun hb => ?_, fun hb => ?_⟩ <;> try (cases hb; done))
      | (refine Stop.mk ?_; intro K hK)
      | fail
    · refine ret_of (by simp) ⟨_, _, _, evl, ob0, OutOk.eq ?_ ?_⟩
      · rw [idxM_hit (show k < n.hosts.length by omega) hall (by rw [isH, decide_eq_true hb])]
      · simp [AV.free]
    · refine ⟨k + 1, ⟨by omega, fun i hi => ?_⟩, by omega, ?_⟩
      · rcases Nat.lt_succ_iff_lt_or_eq.1 hi with h | rfl
        · exact hall i h
        · rw [isH, decide_eq_false hb]
      · refine wkn ?_ ?_ ?_
        all_goals first | exact wk0 | refine wkS ?_ | skip
        all_goals (try trivial)
        all_goals ((repeat' apply And.intro) <;> first | exact wkL | skip)
    · refine ret_of (by simp) ⟨_, _, _, evl, ob0, OutOk.eq ?_ ?_⟩
      · rw [idxM_none (fun i hi => hall i (by omega))]
      · simp [AV.free]
theorem authR_A (n : Net) (hl : n.auths.length ≤ 1000) (a : Int) : FnA Tryz.prog 60 [.agg n.av, .raw (.int .i64 a)] (.raw (.int .i64 (idxM (isU a) n.auths))) := by
  refine fnA_of tblOk Tryz.func60 rfl (by kernel_rfl) 22 Tryz.ntmps60 (by simp only [List.length_cons, List.length_nil]; omega) [.tmp 4] rfl ?_
  simp only [entrySt, argSl, Nat.zero_add, Nat.reduceAdd]
  try refine wkG trivial ?_
  try (refine Stop.mk ?_; intro K hK)
  refine wpA_loop (fun k : Nat => ⟨22, 0, [(1, true, .raw (.int .i64 a)), (2, true, .box 0 0), (5, true, .raw (.int .i64 k))], [n.av], [], ((0, []), [], true)⟩)
    (fun k => k ≤ n.auths.length ∧ ∀ i, i < k → isU a (n.auths.getD i default) = false) (fun k => n.auths.length - k) 0 ?_ ⟨by omega, fun i h => by omega⟩ ?_
  · refine wkn ?_ ?_ ?_
    all_goals first | exact wk0 | refine wkS ?_ | skip
    all_goals (try trivial)
    all_goals ((repeat' apply And.intro) <;> first | exact wkL | skip)
  · rintro k ⟨hk, hall⟩
    repeat' first
      | refine wkG trivial ?_
      | (refine cndS ⟨_, evl, ⟨cb, cb⟩, fun hb => ?_, fun hb => ?_⟩ <;> try (cases hb; done))
      | (refine Stop.mk ?_; intro K hK)
      | fail
    · refine ret_of (by simp) ⟨_, _, _, evl, ob0, OutOk.eq ?_ ?_⟩
      · rw [idxM_hit (show k < n.auths.length by omega) hall (by rw [isU, decide_eq_true hb])]
      · simp [AV.free]
    · refine ⟨k + 1, ⟨by omega, fun i hi => ?_⟩, by omega, ?_⟩
      · rcases Nat.lt_succ_iff_lt_or_eq.1 hi with h | rfl
        · exact hall i h
        · rw [isU, decide_eq_false hb]
      · refine wkn ?_ ?_ ?_
        all_goals first | exact wk0 | refine wkS ?_ | skip
        all_goals (try trivial)
        all_goals ((repeat' apply And.intro) <;> first | exact wkL | skip)
    · refine ret_of (by simp) ⟨_, _, _, evl, ob0, OutOk.eq ?_ ?_⟩
      · rw [idxM_none (fun i hi => hall i (by omega))]
      · simp [AV.free]
def fewT (t : Table) : Prop := t.temps.length ≤ 1000 ∧ t.ages.length ≤ 1000 ∧ t.rates.length ≤ 1000 ∧ ∀ r ∈ t.rates, r.length ≤ 1000
theorem tables_A (n : Net) (hl : n.tables.length ≤ 1000) (hf : ∀ t ∈ n.tables, fewT t) : FnA Tryz.prog 53 [.agg n.av] (.raw (.bool (decide (n.tables.length ≤ 16 ∧ ∀ t ∈ n.tables, tabP t)))) := by
  refine fnA_of tblOk Tryz.func53 rfl (by kernel_rfl) 24 Tryz.ntmps53 (by simp only [List.length_cons, List.length_nil]; omega) [.tmp 2] rfl ?_
  simp only [entrySt, argSl, Nat.zero_add, Nat.reduceAdd]
  try refine wkG trivial ?_
  try (refine Stop.mk ?_; intro K hK)
  refine wpA_loop (fun k : Nat => ⟨24, 0, [(1, true, .box 0 0), (3, true, .raw (.int .i64 k))], [n.av], [], ((0, []), [], true)⟩)
    (fun k => k ≤ n.tables.length ∧ ∀ i, i < k → tabP (n.tables.getD i default)) (fun k => n.tables.length - k) 0 ?_ ⟨by omega, fun i h => by omega⟩ ?_
  · refine wkn ?_ ?_ ?_
    all_goals first | exact wk0 | refine wkS ?_ | skip
    all_goals (try trivial)
    all_goals ((repeat' apply And.intro) <;> first | exact wkL | skip)
  · rintro k ⟨hk, hall⟩
    try refine wkG trivial ?_
    try (refine Stop.mk ?_; intro K hK)
    refine wpA_cond' ⟨_, evl, fun hb => ?_, fun hb => ?_⟩
    · simp only [decide_eq_true_eq] at hb
      have hmem : n.tables.getD k default ∈ n.tables := by rw [getD_get (show k < n.tables.length by omega)]; exact List.getElem_mem _
      obtain ⟨q1, q2, q3, q4⟩ := hf _ hmem
      have hv := tvalidR_A _ q1 q2 q3 q4
      have hf1 := liA_free (n.tables.getD k default).temps
      have hf2 := liA_free (n.tables.getD k default).ages
      have hf3 : (lA 1 liC (n.tables.getD k default).rates).free := lA_free (fun y => show AV.freeL (liC y) from ⟨liA_free y, trivial⟩) _
      try refine wkG hv ?_
      try (refine Stop.mk ?_; intro K hK)
      refine wpA_cond' ⟨_, evl, fun hb2 => ?_, fun hb2 => ?_⟩
      · try refine wkG trivial ?_
        try (refine Stop.mk ?_; intro K hK)
        refine ret_of (by simp) ⟨_, _, _, evl, ob0, OutOk.eq ?_ (by simp [AV.free])⟩
        simp only [AV.raw.injEq, Value.bool.injEq]
        rw [eq_comm, decide_eq_false_iff_not]
        intro h
        have := h.2 _ hmem
        rw [decide_eq_true this] at hb2
        cases hb2
      · try refine wkG trivial ?_
        try (refine Stop.mk ?_; intro K hK)
        refine ⟨k + 1, ⟨by omega, fun i hi => ?_⟩, by omega, ?_⟩
        · rcases Nat.lt_succ_iff_lt_or_eq.1 hi with h | rfl
          · exact hall i h
          · simpa using hb2
        · refine wkn ?_ ?_ ?_
          all_goals first | exact wk0 | refine wkS ?_ | skip
          all_goals (try trivial)
          all_goals ((repeat' apply And.intro) <;> first | exact wkL | skip)
    · simp only [decide_eq_false_iff_not] at hb
      obtain rfl : k = n.tables.length := by omega
      have hA : ∀ t ∈ n.tables, tabP t := fun t ht => by
        obtain ⟨q, hq, rfl⟩ := List.mem_iff_getElem.1 ht
        rw [← getD_get hq]; exact hall q hq
      try refine wkG trivial ?_
      try (refine Stop.mk ?_; intro K hK)
      refine ret_of (by simp) ⟨_, _, _, evl, ob0, OutOk.eq ?_ ?_⟩
      · congr 2
        rw [decide_eq_decide]
        exact ⟨fun h => ⟨by omega, hA⟩, fun h => by have := h.1; omega⟩
      · simp [AV.free]
theorem rise_ge {α : Type} [Inhabited α] {f : α → Int} {l : List α} {most : Int} (h : ∀ i, i < l.length → riseOk f l most i) : ∀ i, i < l.length → (i : Int) + 1 ≤ f (l.getD i default)
  | 0, hi => by have := (h 0 hi).1; simp only [lastId] at this; omega
  | i + 1, hi => by
    have h1 := rise_ge h i (by omega)
    have h2 := (h (i + 1) hi).1
    simp only [lastId] at h2
    omega
theorem rises_len {α : Type} [Inhabited α] {f : α → Int} {l : List α} {most : Int} (h : risesP f l most) : (l.length : Int) ≤ most := by
  have h1 := rise_ge h.2 (l.length - 1) (by have := h.1; omega)
  have h2 := (h.2 (l.length - 1) (by have := h.1; omega)).2
  have := h.1
  omega
theorem lastId_pos {α : Type} [Inhabited α] {f : α → Int} {l : List α} {k : Nat} (h : 0 < k) : lastId f l k = f (l.getD (k - 1) default) := by
  obtain ⟨j, rfl⟩ : ∃ j, k = j + 1 := ⟨k - 1, by omega⟩
  rfl
theorem authsR_A (n : Net) (hl : n.auths.length ≤ 1000) : FnA Tryz.prog 55 [.agg n.av] (.raw (.bool (decide (risesP (fun a : Auth => a.id) n.auths 16 ∧ ∀ a ∈ n.auths, authF a)))) := by
  refine fnA_of tblOk Tryz.func55 rfl (by kernel_rfl) 79 Tryz.ntmps55 (by simp only [List.length_cons, List.length_nil]; omega) [.tmp 2] rfl ?_
  simp only [entrySt, argSl, Nat.zero_add, Nat.reduceAdd]
  try refine wkG trivial ?_
  try (refine Stop.mk ?_; intro K hK)
  refine wpA_loop (fun k : Nat => ⟨79, 0, [(1, true, .box 0 0), (3, true, .raw (.int .i64 k))], [n.av], [], ((0, []), [], true)⟩)
    (fun k => k ≤ n.auths.length ∧ ∀ i, i < k → riseOk (fun a : Auth => a.id) n.auths 16 i ∧ authF (n.auths.getD i default)) (fun k => n.auths.length - k) 0 ?_ ⟨by omega, fun i h => by omega⟩ ?_
  · refine wkn ?_ ?_ ?_
    all_goals first | exact wk0 | refine wkS ?_ | skip
    all_goals (try trivial)
    all_goals ((repeat' apply And.intro) <;> first | exact wkL | skip)
  · rintro k ⟨hk, hall⟩
    try refine wkG trivial ?_
    try (refine Stop.mk ?_; intro K hK)
    refine wpA_cond' ⟨_, evl, fun hb => ?_, fun hb => ?_⟩
    · simp only [decide_eq_true_eq] at hb
      have hmem : n.auths.getD k default ∈ n.auths := by rw [getD_get (show k < n.auths.length by omega)]; exact List.getElem_mem _
      have hk2 := keyR_A (n.auths.getD k default).key
      have hw := withinM_iff (n.auths.getD k default).key 1
      have e1 : ((k : Int) - 1).toNat = k - 1 := by omega
      have hro : riseOk (fun a : Auth => a.id) n.auths 16 k ↔ lastId (fun a : Auth => a.id) n.auths k < (n.auths.getD k default).id ∧ (n.auths.getD k default).id ≤ 16 := Iff.rfl
      have hz : lastId (fun a : Auth => a.id) n.auths 0 = 0 := rfl
      have hp : 0 < k → lastId (fun a : Auth => a.id) n.auths k = (n.auths.getD (k - 1) default).id := fun h => lastId_pos h
      have hp1 : 0 < k → 1 ≤ (n.auths.getD (k - 1) default).id := fun h => by
        have h1 := rise_ge (f := fun a : Auth => a.id) (l := n.auths.take k) (most := 16) (fun i hi => by
          rw [List.length_take] at hi
          have h2 := (hall i (by omega)).1
          unfold riseOk at h2 ⊢
          cases i with
          | zero => simpa [lastId, List.getElem?_take, show 0 < k by omega] using h2
          | succ i => simpa [lastId, List.getElem?_take, show i + 1 < k by omega, show i < k by omega] using h2) (k - 1) (by rw [List.length_take]; omega)
        have e : (n.auths.take k).getD (k - 1) default = n.auths.getD (k - 1) default := by simp [List.getD_eq_getElem?_getD, List.getElem?_take, show k - 1 < k by omega]
        rw [e] at h1
        omega
      generalize withinM (n.auths.getD k default).key 1 = wb at *
      try refine wkG hk2 ?_
      try (refine Stop.mk ?_; intro K hK)
      refine cndS ⟨_, evl, ⟨cb, cb⟩, fun hb2 => ?_, fun hb2 => ?_⟩
      · try refine wkG trivial ?_
        try (refine Stop.mk ?_; intro K hK)
        refine ret_of (by simp) ⟨_, _, _, evl, ob0, OutOk.eq ?_ (by simp [AV.free])⟩
        simp only [AV.raw.injEq, Value.bool.injEq]
        rw [eq_comm, decide_eq_false_iff_not]
        rintro ⟨h1, h2⟩
        have h3 := h2 _ hmem
        have h4 := hro.1 (h1.2 k (by omega))
        obtain ⟨h5, h6, h7, h8⟩ := h3
        simp only [e1] at hb2
        have hwb := hw.2 ⟨h7, by omega⟩
        rw [hwb] at hb2
        have h9 : 0 < k → (n.auths.getD (k - 1) default).id < (n.auths.getD k default).id := fun h => by rw [← hp h]; exact h4.1
        have h10 : 1 ≤ (n.auths.getD k default).id := by
          rcases Nat.eq_zero_or_pos k with rfl | h0
          · rw [hz] at h4; omega
          · have := h9 h0; have := hp1 h0; omega
        rcases hb2 with ((((((hb2 | hb2) | hb2) | hb2) | hb2) | hb2) | hb2) | hb2 <;> first | omega | cases hb2
      · simp only [e1] at hb2
        obtain ⟨⟨⟨⟨⟨⟨⟨g1, g2⟩, g3⟩, g4⟩, g5⟩, g6⟩, g7⟩, g8⟩ := hb2
        have hkey := hw.1 g8
        try refine wkG trivial ?_
        try (refine Stop.mk ?_; intro K hK)
        refine ⟨k + 1, ⟨by omega, fun i hi => ?_⟩, by omega, ?_⟩
        · rcases Nat.lt_succ_iff_lt_or_eq.1 hi with h | rfl
          · exact hall i h
          · refine ⟨hro.2 ⟨?_, g2⟩, ⟨g4, g5⟩, ⟨g6, g7⟩, by omega, by omega⟩
            rcases Nat.eq_zero_or_pos i with rfl | h0
            · rw [hz]; omega
            · rw [hp h0]; omega
        · refine wkn ?_ ?_ ?_
          all_goals first | exact wk0 | refine wkS ?_ | skip
          all_goals (try trivial)
          all_goals ((repeat' apply And.intro) <;> first | exact wkL | skip)
    · simp only [decide_eq_false_iff_not] at hb
      obtain rfl : k = n.auths.length := by omega
      have hA : ∀ a ∈ n.auths, authF a := fun t ht => by
        obtain ⟨q, hq, rfl⟩ := List.mem_iff_getElem.1 ht
        rw [← getD_get hq]; exact (hall q hq).2
      try refine wkG trivial ?_
      try (refine Stop.mk ?_; intro K hK)
      refine ret_of (by simp) ⟨_, _, _, evl, ob0, OutOk.eq ?_ ?_⟩
      · congr 2
        rw [Bool.eq_iff_iff, decide_eq_true_iff]
        simp only [Bool.and_eq_true, decide_eq_true_eq]
        constructor
        · rintro ⟨h1, h2⟩
          exact ⟨⟨by omega, fun i hi => (hall i hi).1⟩, hA⟩
        · rintro ⟨h1, _⟩
          have := rises_len h1
          have := h1.1
          omega
      · simp [AV.free]
end Go.Proofs.YtcdgncmkkknmlaaGreatDoor
