/- The reference of chapter 23: Wires, Round. -/
import Derived.Test.YtihnjbnlbedpaaaGreatDoorRgr
namespace Go.Proofs.YtihnjbnlbedpaaaGreatDoor
set_option linter.unusedVariables false
set_option linter.unusedSimpArgs false
set_option maxHeartbeats 4000000
set_option maxRecDepth 100000
open Go.RowKit
theorem lvalidR_A (l : List Change) (hmax : l.length ≤ 1000) : FnA Tryz.prog 143 [lA 5 Change.av l] (.raw (.bool (decide (Lk.ValidP l)))) := Lk.validR_A l hmax
theorem take_getD {α : Type} [Inhabited α] {l : List α} {k j : Nat} (h : j < k) : (l.take k).getD j default = l.getD j default := by
  simp [List.getD_eq_getElem?_getD, List.getElem?_take, h]
theorem findW_no {l : List Wire} {h a : Int} : (findW l h a).2 = false ↔ ∀ j, j < l.length → isW h a (l.getD j default) = false := by
  have hr := idxM_range (isW h a) l
  constructor
  · intro hf j hj
    unfold findW at hf
    split at hf
    · rename_i hlt
      have ha := idxM_any (isW h a) l
      rw [decide_eq_false (by omega)] at ha
      have := List.any_eq_false.1 ha.symm (l.getD j default) (by rw [getD_get hj]; exact List.getElem_mem _)
      simpa using this
    · cases hf
  · intro hall
    rw [findW, idxM_none hall, if_pos (by decide)]
theorem wiresR_A (l : List Wire) (hl : l.length ≤ 4611686018427387904) (hc : ∀ w ∈ l, w.changes.length ≤ 1000) : FnA Tryz.prog 72 [lA 3 Wire.av l] (.raw (.bool (decide (wiredP l)))) := by
  refine fnA_of tblOk Tryz.func72 rfl (by kernel_rfl) 84 Tryz.ntmps72 (by simp only [List.length_cons, List.length_nil]; omega) [.tmp 2] rfl ?_
  simp only [entrySt, argSl, Nat.zero_add, Nat.reduceAdd]
  try refine wkG trivial ?_
  try (refine Stop.mk ?_; intro K hK)
  refine wpA_loop (fun k : Nat => ⟨84, 0, [(0, true, lA 3 Wire.av l), (3, true, .raw (.int .i64 k))], [], [], ((0, []), [], true)⟩)
    (fun k => k ≤ l.length ∧ ∀ i, i < k → wOkP l i) (fun k => l.length - k) 0 ?_ ⟨by omega, fun i h => by omega⟩ ?_
  · refine wkn ?_ ?_ ?_
    all_goals first | exact wk0 | refine wkS ?_ | skip
    all_goals (try trivial)
    all_goals ((repeat' apply And.intro) <;> first | exact wkL | skip)
  · rintro k ⟨hk, hall⟩
    rcases Nat.lt_or_ge k l.length with hlt | hge
    · have hmem : l.getD k default ∈ l := by rw [getD_get hlt]; exact List.getElem_mem _
      have hv := lvalidR_A _ (hc _ hmem)
      have hno : wiredP l → wOkP l k := fun h => h.1 k hlt
      try refine wkG hv ?_
      try (refine Stop.mk ?_; intro K hK)
      refine wpA_cond' ⟨_, evl, fun _ => ?_, fun hb => absurd hlt (by simpa using hb)⟩
      try refine wkG hv ?_
      try (refine Stop.mk ?_; intro K hK)
      refine cndS ⟨_, evl, ⟨cb, cb⟩, fun hb => ?_, fun hb => ?_⟩
      · try refine wkG trivial ?_
        try (refine Stop.mk ?_; intro K hK)
        refine ret_of (by simp) ⟨_, _, _, evl, ob0, OutOk.eq ?_ (by simp [AV.free])⟩
        simp only [AV.raw.injEq, Value.bool.injEq]
        rw [eq_comm, decide_eq_false_iff_not]
        intro h
        obtain ⟨_, ⟨h1, h2⟩, ⟨h3, h4⟩, h5⟩ := hno h
        rcases hb with ((((hb | hb) | hb) | hb) | hb)
        · exact hb h5
        · omega
        · omega
        · omega
        · omega
      · have hb1 := hb
        try refine wkG trivial ?_
        try (refine Stop.mk ?_; intro K hK)
        refine wpA_loop (fun j : Nat => ⟨84, 0, [(0, true, lA 3 Wire.av l), (3, true, .raw (.int .i64 k)), (5, true, .raw (.int .i64 j))], [], [], ((0, []), [], true)⟩)
          (fun j => j ≤ k ∧ ∀ q, q < j → isW (l.getD k default).host (l.getD k default).auth (l.getD q default) = false) (fun j => k - j) 0 ?_ ⟨by omega, fun i h => by omega⟩ ?_
        · refine wkn ?_ ?_ ?_
          all_goals first | exact wk0 | refine wkS ?_ | skip
          all_goals (try trivial)
          all_goals ((repeat' apply And.intro) <;> first | exact wkL | skip)
        · rintro j ⟨hj, hq⟩
          repeat' first
            | refine wkG trivial ?_
            | (refine cndS ⟨_, evl, ⟨cb, cb⟩, fun hb => ?_, fun hb => ?_⟩ <;> try (cases hb; done))
            | (refine Stop.mk ?_; intro K hK)
            | fail
          · refine ret_of (by simp) ⟨_, _, _, evl, ob0, OutOk.eq ?_ (by simp [AV.free])⟩
            simp only [AV.raw.injEq, Value.bool.injEq]
            rw [eq_comm, decide_eq_false_iff_not]
            intro h
            have h1 := (hno h).1
            rw [findW_no] at h1
            have h2 := h1 j (by rw [List.length_take]; omega)
            rw [take_getD (by omega), isW, decide_eq_true hb.1, decide_eq_true hb.2] at h2
            cases h2
          · refine ⟨j + 1, ⟨by omega, fun q hq' => ?_⟩, by omega, ?_⟩
            · rcases Nat.lt_succ_iff_lt_or_eq.1 hq' with h | rfl
              · exact hq q h
              · rw [isW, Bool.and_eq_false_iff, decide_eq_false_iff_not, decide_eq_false_iff_not]; omega
            · refine wkn ?_ ?_ ?_
              all_goals first | exact wk0 | refine wkS ?_ | skip
              all_goals (try trivial)
              all_goals ((repeat' apply And.intro) <;> first | exact wkL | skip)
          · obtain rfl : j = k := by omega
            refine ⟨j + 1, ⟨by omega, fun i hi => ?_⟩, by omega, ?_⟩
            · rcases Nat.lt_succ_iff_lt_or_eq.1 hi with h | rfl
              · exact hall i h
              · refine ⟨?_, by omega, by omega, hb1.1.1.1.1⟩
                rw [findW_no]
                intro q hq'
                rw [List.length_take] at hq'
                rw [take_getD (by omega)]
                exact hq q (by omega)
            · refine wkn ?_ ?_ ?_
              all_goals first | exact wk0 | refine wkS ?_ | skip
              all_goals (try trivial)
              all_goals ((repeat' apply And.intro) <;> first | exact wkL | skip)
    · obtain rfl : k = l.length := by omega
      try refine wkG trivial ?_
      try (refine Stop.mk ?_; intro K hK)
      refine wpA_cond' ⟨_, evl, fun hb => absurd hb (by simp), fun _ => ?_⟩
      try refine wkG trivial ?_
      try (refine Stop.mk ?_; intro K hK)
      refine ret_of (by simp) ⟨_, _, _, evl, ob0, OutOk.eq ?_ ?_⟩
      · rw [show decide (wiredP l) = decide ((l.length : Int) ≤ 1024) from by
          rw [decide_eq_decide]
          exact ⟨fun h => by have := h.2; omega, fun h => ⟨hall, by omega⟩⟩]
      · simp [AV.free]
theorem roundR_A (host : Int) (l : List Reply) (hl : l.length ≤ 4611686018427387904) : FnA Tryz.prog 73 [.raw (.int .i64 host), lA 10 Reply.av l] (.raw (.bool (decide (roundP host l)))) := by
  refine fnA_of tblOk Tryz.func73 rfl (by kernel_rfl) 62 Tryz.ntmps73 (by simp only [List.length_cons, List.length_nil]; omega) [.tmp 4] rfl ?_
  simp only [entrySt, argSl, Nat.zero_add, Nat.reduceAdd]
  try refine wkG trivial ?_
  try (refine Stop.mk ?_; intro K hK)
  refine wpA_loop (fun k : Nat => ⟨62, 0, [(0, true, .raw (.int .i64 host)), (1, true, lA 10 Reply.av l), (5, true, .raw (.int .i64 k))], [], [], ((0, []), [], true)⟩)
    (fun k => k ≤ l.length ∧ ∀ i, i < k → rOkP host l i) (fun k => l.length - k) 0 ?_ ⟨by omega, fun i h => by omega⟩ ?_
  · refine wkn ?_ ?_ ?_
    all_goals first | exact wk0 | refine wkS ?_ | skip
    all_goals (try trivial)
    all_goals ((repeat' apply And.intro) <;> first | exact wkL | skip)
  · rintro k ⟨hk, hall⟩
    rcases Nat.lt_or_ge k l.length with hlt | hge
    · have hv := reply11_A (l.getD k default)
      have hno : roundP host l → rOkP host l k := fun h => h.2 k hlt
      have hp : rOkP host l k ↔ (if k = 0 then (0 : Int) else (l.getD (k - 1) default).auth) < (l.getD k default).auth ∧ (l.getD k default).host = host ∧ (l.getD k default).round = (l.getD 0 default).round ∧ replyP (l.getD k default) := Iff.rfl
      have hp1 : replyP (l.getD k default) → 1 ≤ (l.getD k default).auth := fun h => h.1.2.1.1
      have e1 : ((k : Int) - 1).toNat = k - 1 := by omega
      cases hvv : decide (replyP (l.getD k default)) with
      | false =>
        rw [hvv] at hv
        repeat' first
          | refine wkG hv ?_
          | (refine cndS ⟨_, evl, ⟨cb, cb⟩, fun hb => ?_, fun hb => ?_⟩ <;> try (cases hb; done))
          | (refine Stop.mk ?_; intro K hK)
          | fail
        · refine ret_of (by simp) ⟨_, _, _, evl, ob0, OutOk.eq ?_ (by simp [AV.free])⟩
          simp only [AV.raw.injEq, Value.bool.injEq]
          rw [eq_comm, decide_eq_false_iff_not]
          intro h
          exact absurd (hp.1 (hno h)).2.2.2 (of_decide_eq_false hvv)
        · exfalso; simp at hb; omega
      | true =>
        rw [hvv] at hv
        have hr := of_decide_eq_true hvv
        have h1 := hp1 hr
        repeat' first
          | refine wkG hv ?_
          | (refine cndS ⟨_, evl, ⟨cb, cb⟩, fun hb => ?_, fun hb => ?_⟩ <;> try (cases hb; done))
          | (refine Stop.mk ?_; intro K hK)
          | fail
        · refine ret_of (by simp) ⟨_, _, _, evl, ob0, OutOk.eq ?_ (by simp [AV.free])⟩
          simp only [AV.raw.injEq, Value.bool.injEq]
          rw [eq_comm, decide_eq_false_iff_not]
          intro h
          obtain ⟨a1, a2, a3, _⟩ := hp.1 (hno h)
          simp only [e1] at hb
          rcases hb with (hb | hb) | hb
          · omega
          · omega
          · rw [if_neg (by omega)] at a1; omega
        · simp only [e1] at hb
          refine ⟨k + 1, ⟨by omega, fun i hi => ?_⟩, by omega, ?_⟩
          · rcases Nat.lt_succ_iff_lt_or_eq.1 hi with h | rfl
            · exact hall i h
            · refine hp.2 ⟨?_, by omega, by omega, hr⟩
              split <;> omega
          · refine wkn ?_ ?_ ?_
            all_goals first | exact wk0 | refine wkS ?_ | skip
            all_goals (try trivial)
            all_goals ((repeat' apply And.intro) <;> first | exact wkL | skip)
        · exfalso; simp at hb; omega
    · obtain rfl : k = l.length := by omega
      try refine wkG trivial ?_
      try (refine Stop.mk ?_; intro K hK)
      refine wpA_cond' ⟨_, evl, fun hb => absurd hb (by simp), fun _ => ?_⟩
      try refine wkG trivial ?_
      try (refine Stop.mk ?_; intro K hK)
      refine ret_of (by simp) ⟨_, _, _, evl, ob0, OutOk.eq ?_ ?_⟩
      · rw [show decide (roundP host l) = decide ((l.length : Int) ≤ 16) from by
          rw [decide_eq_decide]
          exact ⟨fun h => by have := h.1; omega, fun h => ⟨by omega, hall⟩⟩]
      · simp [AV.free]
end Go.Proofs.YtihnjbnlbedpaaaGreatDoor
