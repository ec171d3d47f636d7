import Derived.Test.YtchpbdecipcelaaGreatDoorE47
import Derived.Test.YtchpbdecipcelaaGreatDoorE48
namespace Go.Proofs.YtchpbdecipcelaaGreatDoor
set_option linter.unusedVariables false
set_option linter.unusedSimpArgs false
set_option maxHeartbeats 4000000
set_option maxRecDepth 100000
open Go.RowKit
def inAt (at_ : List Int) (b : Bound) : Bool := decide (0 ≤ b.from_) && decide (b.from_ < at_.length) && decide (0 ≤ b.to_) && decide (b.to_ < at_.length)
def keptOne (at_ : List Int) (blamed : List Party) (b : Bound) : Bool := inAt at_ b && (!freeB blamed b || decide (at_.getD b.to_.toNat 0 - at_.getD b.from_.toNat 0 ≤ b.most))
theorem keptL_A (l : List Bound) (hl : l.length ≤ 1000000) (hw : ∀ b ∈ l, b.who.length ≤ 4611686018427387904) (at_ : List Int) (hal : at_.length ≤ 4611686018427387904) (hat : ∀ i, -4000000000000000000 ≤ at_.getD i 0 ∧ at_.getD i 0 ≤ 4000000000000000000) (blamed : List Party) (hbl : blamed.length ≤ 4611686018427387904) :
    FnA Tryz.prog 24 [lA 4 Bound.av l, liA at_, lA 2 Party.av blamed] (.raw (.bool (l.all (keptOne at_ blamed)))) := by
  have hfl : (lA 4 Bound.av l).free := lA_free (fun y => Bound.free y) _
  have hfb : (lA 2 Party.av blamed).free := lA_free (fun y => Party.free y) _
  have hfa := liA_free at_
  refine fnA_of tblOk Tryz.func24 rfl (by kernel_rfl) 78 Tryz.ntmps24 lenT [.tmp 6] rfl ?_
  simp only [entrySt, argSl, Nat.zero_add, Nat.reduceAdd]
  try refine wkG trivial ?_
  try (refine Stop.mk ?_; intro K hK)
  refine wpA_loop (fun k : Nat => ⟨78, 0, [(0, true, lA 4 Bound.av l), (1, true, liA at_), (2, true, lA 2 Party.av blamed), (7, true, .raw (.int .i64 k))], [], [], ((0, []), [], true)⟩)
    (fun k => k ≤ l.length ∧ ∀ i, i < k → keptOne at_ blamed (l.getD i default) = true) (fun k => l.length - k) 0 ?_ ⟨by omega, fun i h => by omega⟩ ?_
  · refine wkn ?_ ?_ ?_
    all_goals first | exact wk0 | refine wkS ?_ | skip
    all_goals (try trivial)
    all_goals ((repeat' apply And.intro) <;> first | exact wkL | skip)
  rintro k ⟨hk, hall⟩
  rcases Nat.lt_or_ge k l.length with hlt | hge
  · have hno : keptOne at_ blamed (l.getD k default) = false → l.all (keptOne at_ blamed) = false := fun h => List.all_eq_false.2 ⟨_, memD hlt, by rw [h]; decide⟩
    have hgo : keptOne at_ blamed (l.getD k default) = true → ∀ i, i < k + 1 → keptOne at_ blamed (l.getD i default) = true := fun h i hi => by
      rcases Nat.lt_succ_iff_lt_or_eq.1 hi with h2 | rfl
      · exact hall i h2
      · exact h
    have hwk := hw _ (memD hlt)
    have hfw : (lA 2 Party.av (l.getD k default).who).free := lA_free (fun y => Party.free y) _
    clear hall
    have hone : keptOne at_ blamed (l.getD k default) = (inAt at_ (l.getD k default) && (((l.getD k default).who.any fun p => decide (p ∈ blamed)) || decide (at_.getD (l.getD k default).to_.toNat 0 - at_.getD (l.getD k default).from_.toNat 0 ≤ (l.getD k default).most))) := by
      unfold keptOne freeB
      rw [Bool.not_not]
    rw [hone] at hno hgo
    clear hone
    try refine wkG trivial ?_
    try (refine Stop.mk ?_; intro K hK)
    refine wpA_cond' ⟨_, evl, fun _ => ?_, fun hb => absurd (of_decide_eq_false hb) (by omega)⟩
    repeat (refine stG ?_)
    refine wpA_region (fun K hK => ?_)
    iterate 6 (refine stG ?_)
    refine runS_freeze 0 obf ⟨_, evl, _, evl, ?_⟩
    refine runS_nil (hK _ ?_); clear hK K
    try (first | refine wkM hK trivial ?_ | refine wkG trivial ?_)
    try clear hK K
    try (refine Stop.mk ?_; intro K hK)
    refine wpA_cond' ⟨_, evl, fun hb => ?_, fun hb => ?_⟩
    · have hin : inAt at_ (l.getD k default) = false := by
        unfold inAt
        rw [Bool.eq_false_iff]
        simp only [Bool.or_eq_true, decide_eq_true_eq] at hb
        simp only [ne_eq, Bool.and_eq_true, decide_eq_true_eq]
        omega
      rw [hno (by rw [hin]; rfl)]
      try refine wkG trivial ?_
      try (refine Stop.mk ?_; intro K hK)
      all_goals (try (refine ret_of (by simp) ⟨_, _, _, evl, ob0, OutOk.sims ?_ fre⟩))
      all_goals first | exact Sims.refl _ | exact finT | exact simsF | (refine Sims.tup ?_; simp only [SimsL, and_true]; (repeat' apply And.intro) <;> first | exact simsF | skip) | (exfalso; first | omega | (simp_all; done) | (simp_all; omega)) | skip
    · have hin : inAt at_ (l.getD k default) = true := by
        unfold inAt
        simp only [Bool.or_eq_false_iff, decide_eq_false_iff_not] at hb
        simp only [Bool.and_eq_true, decide_eq_true_eq]
        omega
      rw [hin, Bool.true_and] at hno hgo
      unfold inAt at hin
      simp only [Bool.and_eq_true, decide_eq_true_eq] at hin
      try refine wkG trivial ?_
      try (refine Stop.mk ?_; intro K hK)
      refine wpA_loop (fun j : Nat => ⟨78, 0, [(0, true, lA 4 Bound.av l), (1, true, liA at_), (2, true, lA 2 Party.av blamed), (7, true, .raw (.int .i64 k)), (8, true, .elt (l.getD k default).av 0), (9, true, .raw (.bool (((l.getD k default).who.take j).any fun p => decide (p ∈ blamed)))), (10, true, .raw (.int .i64 j))], [], [], ((0, []), [], true)⟩)
        (fun j => j ≤ (l.getD k default).who.length) (fun j => (l.getD k default).who.length - j) 0 ?_ (by omega) ?_
      · simp only [List.take_zero, List.any_nil]
        refine wkn ?_ ?_ ?_
        all_goals first | exact wk0 | refine wkS ?_ | skip
        all_goals (try trivial)
        all_goals ((repeat' apply And.intro) <;> first | exact wkL | skip)
      · intro j hj
        rcases Nat.lt_or_ge j (l.getD k default).who.length with hlj | hgj
        · have hst : ((l.getD k default).who.take (j + 1)).any (fun p => decide (p ∈ blamed)) = (((l.getD k default).who.take j).any (fun p => decide (p ∈ blamed)) || decide ((l.getD k default).who.getD j default ∈ blamed)) := by
            rw [List.take_succ_eq_append_getElem hlj, List.any_append, getD_get hlj]
            simp
          have hh := hasR_A blamed hbl ((l.getD k default).who.getD j default)
          generalize ((l.getD k default).who.take j).any (fun p => decide (p ∈ blamed)) = z at *
          generalize decide ((l.getD k default).who.getD j default ∈ blamed) = y at *
          try refine wkG trivial ?_
          try (refine Stop.mk ?_; intro K hK)
          refine wpA_cond' ⟨_, evl, fun _ => ?_, fun hb => absurd (of_decide_eq_false hb) (by omega)⟩
          try refine wkG hh ?_
          try (refine Stop.mk ?_; intro K hK)
          refine ⟨j + 1, by omega, by omega, ?_⟩
          rw [hst]
          refine wkn ?_ ?_ ?_
          all_goals first | exact wk0 | refine wkS ?_ | skip
          all_goals (try trivial)
          all_goals ((repeat' apply And.intro) <;> first | exact wkL | skip)
        · obtain rfl : j = (l.getD k default).who.length := by omega
          rw [List.take_length]
          generalize (l.getD k default).who.any (fun p => decide (p ∈ blamed)) = z at *
          try refine wkG trivial ?_
          try (refine Stop.mk ?_; intro K hK)
          refine wpA_cond' ⟨_, evl, fun hb => absurd (of_decide_eq_true hb) (by omega), fun _ => ?_⟩
          have h1 := hat (l.getD k default).to_.toNat
          have h2 := hat (l.getD k default).from_.toNat
          try refine wkG trivial ?_
          try (refine Stop.mk ?_; intro K hK)
          refine wpA_cond' ⟨_, evl, fun hb => ?_, fun hb => ?_⟩
          · simp only [Bool.and_eq_true, Bool.not_eq_true', decide_eq_true_eq] at hb
            rw [hno (by rw [hb.1, decide_eq_false (by omega)]; rfl)]
            try refine wkG trivial ?_
            try (refine Stop.mk ?_; intro K hK)
            all_goals (try (refine ret_of (by simp) ⟨_, _, _, evl, ob0, OutOk.sims ?_ fre⟩))
            all_goals first | exact Sims.refl _ | exact finT | exact simsF | (refine Sims.tup ?_; simp only [SimsL, and_true]; (repeat' apply And.intro) <;> first | exact simsF | skip) | (exfalso; first | omega | (simp_all; done) | (simp_all; omega)) | skip
          · have hy : (z || decide (at_.getD (l.getD k default).to_.toNat 0 - at_.getD (l.getD k default).from_.toNat 0 ≤ (l.getD k default).most)) = true := by
              cases z
              · simp only [Bool.not_false, Bool.true_and, decide_eq_false_iff_not] at hb
                rw [Bool.false_or, decide_eq_true_iff]
                omega
              · rfl
            have hnx := hgo hy
            try refine wkG trivial ?_
            try (refine Stop.mk ?_; intro K hK)
            refine ⟨k + 1, ⟨by omega, hnx⟩, by omega, ?_⟩
            refine wkn ?_ ?_ ?_
            all_goals first | exact wk0 | refine wkS ?_ | skip
            all_goals (try trivial)
            all_goals ((repeat' apply And.intro) <;> first | exact wkL | skip)
  · obtain rfl : k = l.length := by omega
    have hm : l.all (keptOne at_ blamed) = true := List.all_eq_true.2 fun b hb => by
      obtain ⟨i, hi, rfl⟩ := mem_of_getD hb
      exact hall i hi
    rw [hm]
    try refine wkG trivial ?_
    try (refine Stop.mk ?_; intro K hK)
    refine wpA_cond' ⟨_, evl, fun hb => absurd (of_decide_eq_true hb) (by omega), fun _ => ?_⟩
    try refine wkG trivial ?_
    try (refine Stop.mk ?_; intro K hK)
    all_goals (try (refine ret_of (by simp) ⟨_, _, _, evl, ob0, OutOk.sims ?_ fre⟩))
    all_goals first | exact Sims.refl _ | exact finT | exact simsF | (refine Sims.tup ?_; simp only [SimsL, and_true]; (repeat' apply And.intro) <;> first | exact simsF | skip) | (exfalso; first | omega | (simp_all; done) | (simp_all; omega)) | skip
theorem used_eq (l : List Bound) (blamed : List Party) : Bf.used (sksB l blamed) = (usedB l blamed).map toE := by
  unfold sksB usedB
  induction l with
  | nil => rfl
  | cons b l ih =>
    rw [List.map_cons, Bf.used_cons, ih, List.filter_cons]
    cases freeB blamed b <;> rfl
theorem ok_used {l : List Bound} {n : Nat} (hn : 1 ≤ n) (hb : ∀ b ∈ l, boundP n b) (blamed : List Party) : Bf.Ok ((usedB l blamed).map toE) n 3000000000000000 := by
  refine ⟨by omega, fun e he => ?_, by decide, fun e he => ?_⟩
  · obtain ⟨b, hb2, rfl⟩ := List.mem_map.1 he
    obtain ⟨h1, h2, h3, h4⟩ := hb b (List.mem_filter.1 hb2).1
    simp only [toE]
    omega
  · obtain ⟨b, hb2, rfl⟩ := List.mem_map.1 he
    exact (hb b (List.mem_filter.1 hb2).1).2.2.1.1
theorem poss_iff {l : List Bound} {n : Nat} (hn : 1 ≤ n) (hb : ∀ b ∈ l, boundP n b) (blamed : List Party) : possM l n blamed = true ↔ ∃ x, Bf.keepsAll ((usedB l blamed).map toE) x := Bf.possL_iff (ok_used hn hb blamed)
theorem sks_in {l : List Bound} {n : Nat} (hb : ∀ b ∈ l, boundP n b) (blamed : List Party) : ∀ s ∈ sksB l blamed, s.2.a < n ∧ s.2.b < n := by
  intro s hs
  obtain ⟨b, hb2, rfl⟩ := List.mem_map.1 hs
  obtain ⟨h1, h2, h3, h4⟩ := hb b hb2
  simp only [toE]
  omega
theorem times_iff {l : List Bound} {n : Nat} (hn : 1 ≤ n) (hb : ∀ b ∈ l, boundP n b) (blamed : List Party) : (timesM l n blamed).isSome = possM l n blamed := by
  rw [Bool.eq_iff_iff, poss_iff hn hb, ← used_eq]
  exact Bf.timesL_iff (by rw [used_eq]; exact ok_used hn hb blamed) (sks_in hb blamed)
theorem roundL_in {n : Nat} : ∀ (S : List Bf.Sk) (t r : List Int × Bool), (∀ s ∈ S, s.2.b < n) → InT n t.1 → Bf.roundL ((n : Int) * 3000000000000000) S t = some r → InT n r.1
  | [], t, r, _, ht, h => by cases h; exact ht
  | s :: S, t, r, hs, ht, h => by
    rw [Bf.roundL] at h
    split at h
    · cases h
    · rename_i hl
      refine roundL_in S _ r (fun x hx => hs x (by simp [hx])) ?_ h
      unfold Bf.stepSk at hl ⊢
      split
      · rename_i hc
        rw [if_pos hc] at hl
        simp only [Bool.and_eq_true, decide_eq_true_eq] at hc
        exact ht.put (hs s (by simp)) hc.2 hl
      · exact ht
theorem timesL_in {n : Nat} {S : List Bf.Sk} (hs : ∀ s ∈ S, s.2.b < n) : ∀ (k : Nat) (t r : List Int), InT n t → Bf.timesL ((n : Int) * 3000000000000000) S k t = some r → InT n r
  | 0, _, _, _, h => by cases h
  | k + 1, t, r, ht, h => by
    rw [Bf.timesL] at h
    split at h
    · cases h
    · rename_i t' ch hr
      have h1 := roundL_in S (t, false) (t', ch) hs ht hr
      split at h
      · exact timesL_in hs k t' r h1 h
      · cases h
        exact h1
theorem times_in {l : List Bound} {n : Nat} (hb : ∀ b ∈ l, boundP n b) (blamed : List Party) {r : List Int} (h : timesM l n blamed = some r) : InT n r :=
  timesL_in (fun s hs => (sks_in hb blamed s hs).2) _ _ _ (InT.zero n) h
theorem times_kept {l : List Bound} {n : Nat} (hb : ∀ b ∈ l, boundP n b) (blamed : List Party) {r : List Int} (h : timesM l n blamed = some r) : l.all (keptOne r blamed) = true := by
  have hr := (times_in hb blamed h).len
  have hk := (Bf.timesL_some _ _ _ h).2
  rw [used_eq] at hk
  refine List.all_eq_true.2 fun b hb2 => ?_
  obtain ⟨h1, h2, h3, h4⟩ := hb b hb2
  unfold keptOne inAt
  rw [decide_eq_true (show 0 ≤ b.from_ by omega), decide_eq_true (show b.from_ < (r.length : Int) by omega), decide_eq_true (show 0 ≤ b.to_ by omega), decide_eq_true (show b.to_ < (r.length : Int) by omega)]
  simp only [Bool.true_and]
  cases hf : freeB blamed b with
  | false => rfl
  | true =>
    have := hk (toE b) (List.mem_map.2 ⟨b, List.mem_filter.2 ⟨hb2, hf⟩, rfl⟩)
    simp only [Bf.keeps, Bf.fn, toE] at this
    rw [Bool.not_true, Bool.false_or, decide_eq_true_iff]
    omega
theorem kept_poss {l : List Bound} {n : Nat} (hn : 1 ≤ n) (hb : ∀ b ∈ l, boundP n b) (blamed : List Party) {t : List Int} (h : l.all (keptOne t blamed) = true) : possM l n blamed = true := by
  refine (poss_iff hn hb blamed).2 ⟨Bf.fn t, fun e he => ?_⟩
  obtain ⟨b, hb2, rfl⟩ := List.mem_map.1 he
  obtain ⟨hb3, hf⟩ := List.mem_filter.1 hb2
  have := List.all_eq_true.1 h b hb3
  unfold keptOne at this
  rw [hf, Bool.not_true, Bool.false_or, Bool.and_eq_true, decide_eq_true_iff] at this
  simp only [Bf.keeps, Bf.fn, toE]
  omega
end Go.Proofs.YtchpbdecipcelaaGreatDoor
