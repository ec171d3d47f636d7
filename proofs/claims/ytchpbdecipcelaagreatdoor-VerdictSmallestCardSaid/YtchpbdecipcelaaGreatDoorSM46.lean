import Derived.Test.YtchpbdecipcelaaGreatDoorSM45
namespace Go.Proofs.YtchpbdecipcelaaGreatDoor
set_option linter.unusedVariables false
set_option linter.unusedSimpArgs false
set_option maxHeartbeats 4000000
set_option maxRecDepth 100000
open Go.RowKit
theorem crowd_one {p : Party} (h : partyP p) : crowdP [p] := ⟨by simp, fun q hq => by rw [List.mem_singleton.1 hq]; exact h⟩
theorem crowd_nil : crowdP [] := ⟨by simp, fun q hq => by simp at hq⟩
theorem between_ok {n a b : Int} {r : Rg} {who : List Party} (ha : 0 ≤ a ∧ a ≤ n - 1) (hb : 0 ≤ b ∧ b ≤ n - 1) (h1 : -3000000000000000 ≤ r.lo ∧ r.lo ≤ 3000000000000000) (h2 : -3000000000000000 ≤ r.hi ∧ r.hi ≤ 3000000000000000) (hw : crowdP who) : ∀ x ∈ betweenL a b r who, boundP n x := by
  intro x hx
  simp only [betweenL, List.mem_cons, List.not_mem_nil, or_false] at hx
  rcases hx with rfl | rfl
  · exact ⟨hb, ha, by simp only; omega, hw⟩
  · exact ⟨ha, hb, h2, hw⟩
theorem base_ok {n : Int} (k : Nat) (h : (k : Int) ≤ n - 1) : ∀ x ∈ baseL k, boundP n x := by
  intro x hx
  obtain ⟨t, ht, hx⟩ := List.mem_flatMap.1 hx
  have ht := List.mem_range.1 ht
  exact between_ok (by omega) (by omega) (by decide) (by decide) crowd_nil x hx
theorem reply_ok {m : Matter} {n : Int} {r : Reply} (hr : replyP r) (rate count s t : Int) (hs : 0 ≤ s ∧ s ≤ n - 1) (ht : 0 ≤ t ∧ t + 1 ≤ n - 1) : ∀ x ∈ replyL m r rate count s t, boundP n x := by
  obtain ⟨⟨h1, h2, h3⟩, h4, h5, h6, h7⟩ := id hr
  have hW := wireM_range m.wires r.host r.auth
  have hE := elapsed_range rate count
  intro x hx
  unfold replyL at hx
  simp only [List.mem_append] at hx
  rcases hx with (((hx | hx) | hx) | hx) | hx
  · exact between_ok (by omega) (by omega) (by simp only; omega) (by simp only; omega) (crowd_one (.inl ⟨rfl, by simp only; omega⟩)) x hx
  · split at hx
    · simp only [List.mem_cons, List.not_mem_nil, or_false] at hx
      subst hx
      exact ⟨by simp only; omega, by simp only; omega, by simp only; omega, crowd_one (.inl ⟨rfl, by simp only; omega⟩)⟩
    · simp at hx
  · exact between_ok (by omega) (by omega) (by simp only; omega) (by simp only; omega) (crowd_one (.inr (.inr ⟨rfl, rfl⟩))) x hx
  · exact between_ok (by omega) (by omega) (by simp only; omega) (by simp only; omega) (crowd_one (.inr (.inr ⟨rfl, rfl⟩))) x hx
  · exact between_ok (by omega) (by omega) (by omega) (by omega) (crowd_one (.inr (.inl ⟨rfl, by simp only; omega⟩))) x hx
theorem round_ok {m : Matter} {n : Int} {e b : Event} (he : EventOk m e) (hat : 1 ≤ e.at_ ∧ e.at_ + 1 + 2 * (e.replies.length : Int) ≤ n) (hb : 0 ≤ b.at_ ∧ b.at_ + 1 + 2 * (b.replies.length : Int) ≤ n) (hh : 1 ≤ (dayOf m e).host ∧ (dayOf m e).host ≤ 64) :
    ∀ x ∈ roundL m e b, boundP n x := by
  intro x hx
  unfold roundL at hx
  rcases List.mem_append.1 hx with hx | hx
  · split at hx
    · rcases List.mem_append.1 hx with hx | hx
      · have hE := elapsed_range (dayOf m e).rate ((dayOf m e).sent.getD e.round.toNat default - (dayOf m e).sent.getD (e.round - 1).toNat default)
        exact between_ok (by omega) (by omega) (by omega) (by omega) (crowd_one (.inr (.inl ⟨rfl, hh⟩))) x hx
      · obtain ⟨j, hj, rfl⟩ := List.mem_map.1 hx
        have hj := List.mem_range.1 hj
        exact ⟨by simp only [laterB]; omega, by simp only [laterB]; omega, by simp only [laterB]; omega, crowd_nil⟩
    · simp at hx
  · obtain ⟨j, hj, hx⟩ := List.mem_flatMap.1 hx
    have hj := List.mem_range.1 hj
    exact reply_ok (he.p _ (memD hj)) _ _ _ _ (by omega) (by omega) x hx
theorem day_host {m : Matter} (h : formP m) {e : Event} (he : e ∈ evL m) : 1 ≤ (dayOf m e).host ∧ (dayOf m e).host ≤ 64 := by
  obtain ⟨i, k, h1, h2, rfl⟩ := evM_mem (Nat.le_refl _) he
  obtain ⟨_, hc, hd⟩ := h.2.2.2.2.2.2 i h1
  have := hd.1
  have := hc.1
  unfold dayOf
  simp only [Int.toNat_natCast]
  omega
theorem fold_ok {m : Matter} (h : formP m) (hn : evN m ≤ 1000) (p : List Bound × Event) (hp : ∀ x ∈ p.1, boundP (evN m) x) (hb : 0 ≤ p.2.at_ ∧ p.2.at_ + 1 + 2 * (p.2.replies.length : Int) ≤ evN m) :
    ∀ es : List Event, (∀ e ∈ es, e ∈ evL m) → (∀ x ∈ (foldR m es p).1, boundP (evN m) x) ∧ (0 ≤ (foldR m es p).2.at_ ∧ (foldR m es p).2.at_ + 1 + 2 * ((foldR m es p).2.replies.length : Int) ≤ evN m) := by
  intro es
  induction es using Vd.rev_rec with
  | h0 => exact fun _ => ⟨hp, hb⟩
  | h1 es e ih =>
    intro hes
    obtain ⟨h1, h2⟩ := ih fun e he => hes e (by simp [he])
    have hel := hes e (by simp)
    have hat := ev_at hel
    rw [foldR_snoc]
    refine ⟨fun x hx => ?_, by simp only; omega, hat.2⟩
    rcases List.mem_append.1 hx with hx | hx
    · exact h1 x hx
    · exact round_ok (event_ok h hn hel) hat h2 (day_host h hel) x hx
theorem evN_pos (m : Matter) : 1 ≤ evN m := by
  have := evM_cnt m.evidence.chains m.evidence.chains.length
  unfold evN
  omega
theorem bounds_ok (m : Matter) (hc : ((evL m).length : Int) ≤ 20) (hr : ∀ e ∈ evL m, e.replies.length ≤ 1000) : BOk m := by
  unfold BOk boundsM44
  by_cases hf : formP m
  · rw [if_neg (not_not_intro hf)]
    split
    · intro h; simp at h
    · rename_i hn
      have hn : evN m ≤ 1000 := by omega
      split
      · rename_i hw
        exact fun h => absurd h hw
      · intro _
        have hp := evN_pos m
        obtain ⟨h1, _⟩ := fold_ok hf hn (baseL (evN m - 1).toNat, ev0) (base_ok _ (by omega)) ⟨Int.le_refl _, by simp [ev0]; omega⟩ (evL m) fun _ h => h
        have h2 := foldR_len m (baseL (evN m - 1).toNat, ev0) (by simp [ev0]) (evL m) hr
        simp only [base_len] at h2
        refine ⟨?_, ⟨hp, hn⟩, h1⟩
        show (foldR m (evL m) (baseL (evN m - 1).toNat, ev0)).1.length ≤ 1000000
        omega
  · rw [if_pos hf]
    intro h; simp at h
end Go.Proofs.YtchpbdecipcelaaGreatDoor
namespace Go.Proofs.YtchpbdecipcelaaGreatDoor
set_option linter.unusedVariables false
set_option linter.unusedSimpArgs false
set_option maxHeartbeats 4000000
set_option maxRecDepth 100000
open Go.RowKit
theorem eqPQ (p q : Party) : (decide (p.kind = q.kind) && decide (p.id = q.id)) = decide (p = q) := by
  rw [eqPP]
  exact decide_eq_decide.2 ⟨Eq.symm, Eq.symm⟩
theorem mem_of_getD {α : Type} [Inhabited α] {l : List α} {x : α} (h : x ∈ l) : ∃ i, i < l.length ∧ l.getD i default = x := by
  obtain ⟨i, hi, rfl⟩ := List.mem_iff_getElem.1 h
  exact ⟨i, hi, getD_get hi⟩
theorem hasR_A (l : List Party) (hl : l.length ≤ 4611686018427387904) (p : Party) : FnA Tryz.prog 27 [lA 2 Party.av l, .agg p.av] (.raw (.bool (decide (p ∈ l)))) := by
  refine fnA_of tblOk Tryz.func27 rfl (by kernel_rfl) 18 Tryz.ntmps27 lenT [.tmp 4] rfl ?_
  simp only [entrySt, argSl, Nat.zero_add, Nat.reduceAdd]
  try refine wkG trivial ?_
  try (refine Stop.mk ?_; intro K hK)
  refine wpA_loop (fun k : Nat => ⟨18, 0, [(0, true, lA 2 Party.av l), (3, true, .box 0 0), (5, true, .raw (.int .i64 k))], [p.av], [], ((0, []), [], true)⟩)
    (fun k => k ≤ l.length ∧ ∀ i, i < k → l.getD i default ≠ p) (fun k => l.length - k) 0 ?_ ⟨by omega, fun i h => by omega⟩ ?_
  · refine wkn ?_ ?_ ?_
    all_goals first | exact wk0 | refine wkS ?_ | skip
    all_goals (try trivial)
    all_goals ((repeat' apply And.intro) <;> first | exact wkL | skip)
  · rintro k ⟨hk, hall⟩
    try refine wkG trivial ?_
    try (refine Stop.mk ?_; intro K hK)
    refine wpA_cond' ⟨_, evl, fun hlt => ?_, fun hge => ?_⟩
    · simp only [decide_eq_true_eq] at hlt
      try refine wkG trivial ?_
      try (refine Stop.mk ?_; intro K hK)
      rw [eqPQ]
      refine wpA_cond' ⟨_, evl, fun hb => ?_, fun hb => ?_⟩
      · have hm : p ∈ l := of_decide_eq_true hb ▸ memD (by omega)
        try refine wkG trivial ?_
        try (refine Stop.mk ?_; intro K hK)
        refine ret_of (by simp) ⟨_, _, _, evl, ob0, OutOk.eq ?_ ?_⟩
        · rw [decide_eq_true hm]
        · simp [AV.free]
      · try refine wkG trivial ?_
        try (refine Stop.mk ?_; intro K hK)
        refine ⟨k + 1, ⟨by omega, fun i hi => ?_⟩, by omega, ?_⟩
        · rcases Nat.lt_succ_iff_lt_or_eq.1 hi with h | rfl
          · exact hall i h
          · exact of_decide_eq_false hb
        · refine wkn ?_ ?_ ?_
          all_goals first | exact wk0 | refine wkS ?_ | skip
          all_goals (try trivial)
          all_goals ((repeat' apply And.intro) <;> first | exact wkL | skip)
    · simp only [decide_eq_false_iff_not] at hge
      have hm : ¬ p ∈ l := fun h => by
        obtain ⟨i, hi, e⟩ := mem_of_getD h
        exact hall i (by omega) e
      try refine wkG trivial ?_
      try (refine Stop.mk ?_; intro K hK)
      refine ret_of (by simp) ⟨_, _, _, evl, ob0, OutOk.eq ?_ ?_⟩
      · rw [decide_eq_false hm]
      · simp [AV.free]
theorem partR_A (a b : List Party) (ha : a.length ≤ 4611686018427387904) (hl : b.length ≤ 4611686018427387904) : FnA Tryz.prog 25 [lA 2 Party.av a, lA 2 Party.av b] (.raw (.bool (Vd.part a b))) := by
  have hfb : (lA 2 Party.av b).free := lA_free (fun y => Party.free y) _
  refine fnA_of tblOk Tryz.func25 rfl (by kernel_rfl) 21 Tryz.ntmps25 lenT [.tmp 4] rfl ?_
  simp only [entrySt, argSl, Nat.zero_add, Nat.reduceAdd]
  try refine wkG trivial ?_
  try (refine Stop.mk ?_; intro K hK)
  refine wpA_loop (fun k : Nat => ⟨21, 0, [(0, true, lA 2 Party.av a), (1, true, lA 2 Party.av b), (5, true, .raw (.int .i64 k))], [], [], ((0, []), [], true)⟩)
    (fun k => k ≤ a.length ∧ ∀ i, i < k → a.getD i default ∈ b) (fun k => a.length - k) 0 ?_ ⟨by omega, fun i h => by omega⟩ ?_
  · refine wkn ?_ ?_ ?_
    all_goals first | exact wk0 | refine wkS ?_ | skip
    all_goals (try trivial)
    all_goals ((repeat' apply And.intro) <;> first | exact wkL | skip)
  · rintro k ⟨hk, hall⟩
    have hh := hasR_A b hl (a.getD k default)
    generalize hz : decide (a.getD k default ∈ b) = z at hh
    try refine wkG trivial ?_
    try (refine Stop.mk ?_; intro K hK)
    refine wpA_cond' ⟨_, evl, fun hlt => ?_, fun hge => ?_⟩
    · simp only [decide_eq_true_eq] at hlt
      try refine wkG hh ?_
      try (refine Stop.mk ?_; intro K hK)
      refine wpA_cond' ⟨_, evl, fun hb => ?_, fun hb => ?_⟩
      · rw [Bool.not_eq_true'] at hb
        subst hb
        have hm : Vd.part a b = false := by
          rw [Bool.eq_false_iff, ne_eq, Vd.part_iff]
          exact fun h => of_decide_eq_false hz (h _ (memD (by omega)))
        try refine wkG trivial ?_
        try (refine Stop.mk ?_; intro K hK)
        refine ret_of (by simp) ⟨_, _, _, evl, ob0, OutOk.eq ?_ ?_⟩
        · rw [hm]
        · simp [AV.free]
      · rw [Bool.not_eq_false'] at hb
        subst hb
        try refine wkG trivial ?_
        try (refine Stop.mk ?_; intro K hK)
        refine ⟨k + 1, ⟨by omega, fun i hi => ?_⟩, by omega, ?_⟩
        · rcases Nat.lt_succ_iff_lt_or_eq.1 hi with h | rfl
          · exact hall i h
          · exact of_decide_eq_true hz
        · refine wkn ?_ ?_ ?_
          all_goals first | exact wk0 | refine wkS ?_ | skip
          all_goals (try trivial)
          all_goals ((repeat' apply And.intro) <;> first | exact wkL | skip)
    · simp only [decide_eq_false_iff_not] at hge
      have hm : Vd.part a b = true := Vd.part_iff.2 fun x hx => by
        obtain ⟨i, hi, rfl⟩ := mem_of_getD hx
        exact hall i (by omega)
      try refine wkG trivial ?_
      try (refine Stop.mk ?_; intro K hK)
      refine ret_of (by simp) ⟨_, _, _, evl, ob0, OutOk.eq ?_ ?_⟩
      · rw [hm]
      · simp [AV.free]
end Go.Proofs.YtchpbdecipcelaaGreatDoor
