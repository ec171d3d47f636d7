import Derived.Test.YtchpbdecipcelaaGreatDoorSM46
import Derived.Test.YtchpbdecipcelaaGreatDoorSM47
namespace Go.Proofs.YtchpbdecipcelaaGreatDoor
set_option linter.unusedVariables false
set_option linter.unusedSimpArgs false
set_option maxHeartbeats 4000000
set_option maxRecDepth 100000
open Go.RowKit
def repR (rs : List Round) : Nat := (rs.map fun r => r.replies.length).sum
def repN (cs : List Chain) : Nat := (cs.map fun c => repR c.rounds).sum
theorem repR_snoc (rs : List Round) {k : Nat} (h : k < rs.length) : repR (rs.take (k + 1)) = repR (rs.take k) + (rs.getD k default).replies.length := by
  unfold repR
  rw [List.take_succ_eq_append_getElem h, getD_get h, List.map_append, List.sum_append]
  simp
theorem repN_snoc (cs : List Chain) {k : Nat} (h : k < cs.length) : repN (cs.take (k + 1)) = repN (cs.take k) + repR (cs.getD k default).rounds := by
  unfold repN
  rw [List.take_succ_eq_append_getElem h, getD_get h, List.map_append, List.sum_append]
  simp
def fewP (m : Matter) : Prop := (∀ i, i < m.evidence.chains.length → i < 10 → (m.evidence.chains.getD i default).rounds.length ≤ 5) ∧ (∀ i, i < m.diaries.length → i < 10 → (m.diaries.getD i default).sent.length ≤ 10 ∧ (m.diaries.getD i default).got.length ≤ 10) ∧
  m.evidence.chains.length ≤ 3 ∧ m.diaries.length ≤ 4 ∧ repN (m.evidence.chains.take 10) ≤ 12 ∧ m.evidence.keys.length ≤ 20 ∧ m.wires.length ≤ 20 ∧ m.evidence.auths.length ≤ 20
theorem rep_le {rs : List Round} (h : ∀ r ∈ rs, RoundLim r) : ∀ k, k ≤ rs.length → repR (rs.take k) ≤ k * 20000000000000
  | 0, _ => by simp [repR]
  | k + 1, hk => by
    have h1 := rep_le h k (by omega)
    have h2 := (h _ (memD (show k < rs.length by omega))).1
    rw [repR_snoc rs (by omega)]
    unfold Lim at h2
    omega
theorem few_A (m : Matter) (hm : MatterLim m) : ∃ b : Bool, (b = true ↔ fewP m) ∧ FnA Tryz.prog 11 [.agg m.av] (.raw (.bool b)) := by
  classical
  refine ⟨decide (fewP m), decide_eq_true_iff, ?_⟩
  have hmf := Matter.free m
  obtain ⟨f1, f2, f3, f4, f5⟩ := freeM m
  have hcl := hm.c.1
  have hch := hm.c.2
  have hdl := hm.d.1
  have hdi := hm.d.2
  have hk := hm.k.1
  have hw := hm.w.1
  have ha := hm.a
  unfold Lim at hcl hdl hk hw ha
  refine fnA_of tblOk Tryz.func11 rfl (by kernel_rfl) 118 Tryz.ntmps11 lenT [.tmp 2] rfl ?_
  simp only [entrySt, argSl, Nat.zero_add, Nat.reduceAdd]
  try refine wkG trivial ?_
  try (refine Stop.mk ?_; intro K hK)
  refine wpA_loop (fun i : Nat => ⟨118, 0, [(1, true, .box 0 0), (3, true, .raw (.int .i64 (repN (m.evidence.chains.take i)))), (4, true, .raw (.int .i64 i))], [m.av], [], ((0, []), [], true)⟩)
    (fun i => (i ≤ m.evidence.chains.length ∧ i ≤ 10) ∧ repN (m.evidence.chains.take i) ≤ i * 100000000000000 ∧ ∀ j, j < i → (m.evidence.chains.getD j default).rounds.length ≤ 5) (fun i => m.evidence.chains.length - i) 0 ?_ ⟨⟨by omega, by omega⟩, by simp [repN], fun i h => by omega⟩ ?_
  · simp only [List.take_zero]
    refine wkn ?_ ?_ ?_
    all_goals first | exact wk0 | refine wkS ?_ | skip
    all_goals (try trivial)
    all_goals ((repeat' apply And.intro) <;> first | exact wkL | skip)
  rintro i ⟨⟨hi, hi10⟩, hrep, hall⟩
  by_cases hgo : i < m.evidence.chains.length ∧ i < 10
  · obtain ⟨hlt, hlt10⟩ := hgo
    have hcm := hch _ (memD hlt)
    have hrl := hcm.2.1
    have hrr := hcm.2.2
    unfold Lim at hrl
    have hs := repN_snoc m.evidence.chains hlt
    have hfr : (lA 1 Round.av (m.evidence.chains.getD i default).rounds).free := lA_free (fun y => Round.free y) _
    generalize hR0 : repN (m.evidence.chains.take i) = R0 at *
    try refine wkG trivial ?_
    try (refine Stop.mk ?_; intro K hK)
    refine wpA_cond' ⟨_, evl, fun _ => ?_, fun hb => absurd hb (by simp; omega)⟩
    try refine wkG trivial ?_
    try (refine Stop.mk ?_; intro K hK)
    refine wpA_cond' ⟨_, evl, fun hb => ?_, fun hb => ?_⟩
    · have hno : ¬ fewP m := fun h => by
        have := h.1 i hlt hlt10
        have := of_decide_eq_true hb
        omega
      rw [decide_eq_false hno]
      try refine wkG trivial ?_
      try (refine Stop.mk ?_; intro K hK)
      all_goals (try (refine ret_of (by simp) ⟨_, _, _, evl, ob0, OutOk.sims ?_ fre⟩))
      all_goals first | exact Sims.refl _ | exact finT | exact simsF | (refine Sims.tup ?_; simp only [SimsL, and_true]; (repeat' apply And.intro) <;> first | exact simsF | skip) | (exfalso; first | omega | (simp_all; done) | (simp_all; omega)) | skip
    · have h5 : (m.evidence.chains.getD i default).rounds.length ≤ 5 := by have := of_decide_eq_false hb; omega
      try refine wkG trivial ?_
      try (refine Stop.mk ?_; intro K hK)
      refine wpA_loop (fun k : Nat => ⟨118, 0, [(1, true, .box 0 0), (3, true, .raw (.int .i64 ((R0 : Int) + repR ((m.evidence.chains.getD i default).rounds.take k)))), (4, true, .raw (.int .i64 i)), (5, true, .raw (.int .i64 k))], [m.av], [], ((0, []), [], true)⟩)
        (fun k => k ≤ (m.evidence.chains.getD i default).rounds.length) (fun k => (m.evidence.chains.getD i default).rounds.length - k) 0 ?_ (by omega) ?_
      · simp only [List.take_zero, show repR [] = 0 from rfl, Int.natCast_zero, Int.add_zero]
        refine wkn ?_ ?_ ?_
        all_goals first | exact wk0 | refine wkS ?_ | skip
        all_goals (try trivial)
        all_goals ((repeat' apply And.intro) <;> first | exact wkL | skip)
      · intro k hk
        rcases Nat.lt_or_ge k (m.evidence.chains.getD i default).rounds.length with hkl | hkg
        · have hsr := repR_snoc (m.evidence.chains.getD i default).rounds hkl
          have hb1 := rep_le hrr k hk
          have hb2 := (hrr _ (memD hkl)).1
          have hfp : (lA 10 Reply.av ((m.evidence.chains.getD i default).rounds.getD k default).replies).free := lA_free (fun y => Reply.free y) _
          unfold Lim at hb2
          generalize repR ((m.evidence.chains.getD i default).rounds.take k) = R1 at *
          try refine wkG trivial ?_
          try (refine Stop.mk ?_; intro K hK)
          refine wpA_cond' ⟨_, evl, fun _ => ?_, fun hb => absurd (of_decide_eq_false hb) (by omega)⟩
          try refine wkG trivial ?_
          try (refine Stop.mk ?_; intro K hK)
          refine ⟨k + 1, by omega, by omega, ?_⟩
          rw [hsr, Int.natCast_add, ← Int.add_assoc]
          refine wkn ?_ ?_ ?_
          all_goals first | exact wk0 | refine wkS ?_ | skip
          all_goals (try trivial)
          all_goals ((repeat' apply And.intro) <;> first | exact wkL | skip)
        · obtain rfl : k = (m.evidence.chains.getD i default).rounds.length := by omega
          have hb1 := rep_le hrr _ (Nat.le_refl _)
          rw [List.take_length] at hb1 ⊢
          try refine wkG trivial ?_
          try (refine Stop.mk ?_; intro K hK)
          refine wpA_cond' ⟨_, evl, fun hb => absurd (of_decide_eq_true hb) (by omega), fun _ => ?_⟩
          try refine wkG trivial ?_
          try (refine Stop.mk ?_; intro K hK)
          refine ⟨i + 1, ⟨⟨by omega, by omega⟩, by rw [hs]; omega, fun j hj => ?_⟩, by omega, ?_⟩
          · rcases Nat.lt_succ_iff_lt_or_eq.1 hj with h | rfl
            · exact hall j h
            · exact h5
          · rw [hs]
            refine wkn ?_ ?_ ?_
            all_goals first | exact wk0 | refine wkS ?_ | skip
            all_goals (try trivial)
            all_goals ((repeat' apply And.intro) <;> first | exact wkL | skip)
  · have ht : m.evidence.chains.take i = m.evidence.chains.take 10 := by
      rcases Nat.lt_or_ge i 10 with h | h
      · obtain rfl : i = m.evidence.chains.length := by omega
        rw [List.take_length, List.take_of_length_le (by omega)]
      · rw [show i = 10 by omega]
    rw [ht] at hrep ⊢
    have hall2 : ∀ j, j < m.evidence.chains.length → j < 10 → (m.evidence.chains.getD j default).rounds.length ≤ 5 := fun j h1 h2 => hall j (by omega)
    clear hall ht
    generalize hR : repN (m.evidence.chains.take 10) = R at *
    try refine wkG trivial ?_
    try (refine Stop.mk ?_; intro K hK)
    refine wpA_cond' ⟨_, evl, fun hb => absurd hb (by simp; omega), fun _ => ?_⟩
    try refine wkG trivial ?_
    try (refine Stop.mk ?_; intro K hK)
    refine wpA_loop (fun i : Nat => ⟨118, 0, [(1, true, .box 0 0), (3, true, .raw (.int .i64 R)), (6, true, .raw (.int .i64 i))], [m.av], [], ((0, []), [], true)⟩)
      (fun i => (i ≤ m.diaries.length ∧ i ≤ 10) ∧ ∀ j, j < i → (m.diaries.getD j default).sent.length ≤ 10 ∧ (m.diaries.getD j default).got.length ≤ 10) (fun i => m.diaries.length - i) 0 ?_ ⟨⟨by omega, by omega⟩, fun i h => by omega⟩ ?_
    · refine wkn ?_ ?_ ?_
      all_goals first | exact wk0 | refine wkS ?_ | skip
      all_goals (try trivial)
      all_goals ((repeat' apply And.intro) <;> first | exact wkL | skip)
    rintro i ⟨⟨hi, hi10⟩, hall⟩
    by_cases hgo : i < m.diaries.length ∧ i < 10
    · obtain ⟨hlt, hlt10⟩ := hgo
      have hfs := liA_free (m.diaries.getD i default).sent
      try refine wkG trivial ?_
      try (refine Stop.mk ?_; intro K hK)
      refine wpA_cond' ⟨_, evl, fun _ => ?_, fun hb => absurd hb (by simp; omega)⟩
      try refine wkG trivial ?_
      try (refine Stop.mk ?_; intro K hK)
      refine wpA_cond' ⟨_, evl, fun hb => ?_, fun hb => ?_⟩
      · have hno : ¬ fewP m := fun h => by
          have := h.2.1 i hlt hlt10
          simp only [Bool.or_eq_true, decide_eq_true_eq] at hb
          omega
        rw [decide_eq_false hno]
        try refine wkG trivial ?_
        try (refine Stop.mk ?_; intro K hK)
        all_goals (try (refine ret_of (by simp) ⟨_, _, _, evl, ob0, OutOk.sims ?_ fre⟩))
        all_goals first | exact Sims.refl _ | exact finT | exact simsF | (refine Sims.tup ?_; simp only [SimsL, and_true]; (repeat' apply And.intro) <;> first | exact simsF | skip) | (exfalso; first | omega | (simp_all; done) | (simp_all; omega)) | skip
      · simp only [Bool.or_eq_false_iff, decide_eq_false_iff_not] at hb
        try refine wkG trivial ?_
        try (refine Stop.mk ?_; intro K hK)
        refine ⟨i + 1, ⟨⟨by omega, by omega⟩, fun j hj => ?_⟩, by omega, ?_⟩
        · rcases Nat.lt_succ_iff_lt_or_eq.1 hj with h | rfl
          · exact hall j h
          · omega
        · refine wkn ?_ ?_ ?_
          all_goals first | exact wk0 | refine wkS ?_ | skip
          all_goals (try trivial)
          all_goals ((repeat' apply And.intro) <;> first | exact wkL | skip)
    · have he : decide (fewP m) = (decide ((m.evidence.chains.length : Int) ≤ 3) && decide ((m.diaries.length : Int) ≤ 4) && decide ((R : Int) ≤ 12) && decide ((m.evidence.keys.length : Int) ≤ 20) && decide ((m.wires.length : Int) ≤ 20) && decide ((m.evidence.auths.length : Int) ≤ 20)) := by
        rw [Bool.eq_iff_iff]
        simp only [Bool.and_eq_true, decide_eq_true_eq, fewP, hR]
        constructor
        · rintro ⟨-, -, h1, h2, h3, h4, h5, h6⟩
          omega
        · rintro ⟨⟨⟨⟨⟨h1, h2⟩, h3⟩, h4⟩, h5⟩, h6⟩
          exact ⟨hall2, fun j h1 h2 => hall j (by omega), by omega, by omega, by omega, by omega, by omega, by omega⟩
      rw [he]
      clear he hall hall2 hR
      try refine wkG trivial ?_
      try (refine Stop.mk ?_; intro K hK)
      refine wpA_cond' ⟨_, evl, fun hb => absurd hb (by simp; omega), fun _ => ?_⟩
      try refine wkG trivial ?_
      try (refine Stop.mk ?_; intro K hK)
      all_goals (try (refine ret_of (by simp) ⟨_, _, _, evl, ob0, OutOk.sims ?_ fre⟩))
      all_goals first | exact Sims.refl _ | exact finT | exact simsF | (refine Sims.tup ?_; simp only [SimsL, and_true]; (repeat' apply And.intro) <;> first | exact simsF | skip) | (exfalso; first | omega | (simp_all; done) | (simp_all; omega)) | skip
theorem le_repR {rs : List Round} {r : Round} (h : r ∈ rs) : r.replies.length ≤ repR rs := by
  unfold repR
  induction rs with
  | nil => cases h
  | cons x l ih =>
    rw [List.map_cons, List.sum_cons]
    rcases List.mem_cons.1 h with rfl | h
    · omega
    · have := ih h; omega
theorem le_repN {cs : List Chain} {c : Chain} (h : c ∈ cs) : repR c.rounds ≤ repN cs := by
  unfold repN
  induction cs with
  | nil => cases h
  | cons x l ih =>
    rw [List.map_cons, List.sum_cons]
    rcases List.mem_cons.1 h with rfl | h
    · omega
    · have := ih h; omega
theorem evIn_len (i : Nat) (rs : List Round) (a : Int) : ∀ j, (evIn i rs a j).1.length = j
  | 0 => rfl
  | j + 1 => by simp [evIn, evIn_len i rs a j]
theorem evM_len {cs : List Chain} (h : ∀ i, i < cs.length → (cs.getD i default).rounds.length ≤ 5) : ∀ k, k ≤ cs.length → (evM cs k).1.length ≤ 5 * k
  | 0, _ => by simp [evM]
  | k + 1, hk => by
    have h1 := evM_len h k (by omega)
    have h2 := h k (by omega)
    simp only [evM, List.length_append, evIn_len]
    omega
theorem few_ok {m : Matter} (hm : MatterLim m) (hf : fewP m) : OkM m ∧ BOk m := by
  obtain ⟨h1, h2, h3, h4, h5, h6, h7, h8⟩ := hf
  rw [List.take_of_length_le (by omega)] at h5
  have hr : ∀ c ∈ m.evidence.chains, ∀ r ∈ c.rounds, r.replies.length ≤ 12 := fun c hc r hr => by
    have := le_repR hr
    have := le_repN hc
    omega
  refine ⟨⟨by omega, hm.k.2, by omega, by omega, fun w hw => by have := hm.w.2 w hw; unfold Lim at this; omega, by omega, fun c hc => ?_, by omega, fun d hd => ?_⟩, bounds_ok m ?_ fun e he => ?_⟩
  · obtain ⟨c1, c2, c3⟩ := hm.c.2 c hc
    unfold Lim at c2
    exact ⟨by omega, c1, fun r hrm => ⟨by have := hr c hc r hrm; omega, (c3 r hrm).2⟩⟩
  · obtain ⟨d1, d2, d3⟩ := hm.d.2 d hd
    unfold Lim at d1
    exact ⟨by omega, fun g hg => by have := d3 g hg; unfold Lim at this; omega⟩
  · have := evM_len (cs := m.evidence.chains) (fun i hi => h1 i hi (by omega)) m.evidence.chains.length (Nat.le_refl _)
    unfold evL
    omega
  · obtain ⟨i, k, e1, e2, rfl⟩ := evM_mem (Nat.le_refl _) he
    have := hr _ (memD e1) _ (memD e2)
    simp only
    omega
end Go.Proofs.YtchpbdecipcelaaGreatDoor
