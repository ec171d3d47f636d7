/- Plain: what LinkChanges says of bounds. -/
import Derived.Test.YticlpcgkaffdmaaLinkP
namespace Go.Proofs.Yticlpcgkaffdmaa
set_option linter.unusedSectionVars false
set_option linter.unusedVariables false
set_option linter.unusedSimpArgs false
open Go.RowKit
theorem foldMin (p : Change → Int) : ∀ (r : List Change) (b : Int), r.foldl (fun b x => min b (p x)) b ≤ b ∧ (∀ x ∈ r, r.foldl (fun b x => min b (p x)) b ≤ p x) ∧ (r.foldl (fun b x => min b (p x)) b = b ∨ ∃ x ∈ r, r.foldl (fun b x => min b (p x)) b = p x)
  | [], b => ⟨Int.le_refl _, fun x h => by simp at h, .inl rfl⟩
  | y :: r, b => by
    obtain ⟨h1, h2, h3⟩ := foldMin p r (min b (p y))
    simp only [List.foldl_cons]
    refine ⟨by omega, fun x hx => ?_, ?_⟩
    · simp only [List.mem_cons] at hx
      rcases hx with rfl | hx
      · omega
      · exact h2 x hx
    · rcases h3 with h3 | ⟨x, hx, h3⟩
      · rcases Int.le_total b (p y) with h | h
        · left; omega
        · right; exact ⟨y, by simp, by omega⟩
      · exact .inr ⟨x, by simp [hx], h3⟩
theorem foldMax (p : Change → Int) : ∀ (r : List Change) (b : Int), b ≤ r.foldl (fun b x => max b (p x)) b ∧ (∀ x ∈ r, p x ≤ r.foldl (fun b x => max b (p x)) b) ∧ (r.foldl (fun b x => max b (p x)) b = b ∨ ∃ x ∈ r, r.foldl (fun b x => max b (p x)) b = p x)
  | [], b => ⟨Int.le_refl _, fun x h => by simp at h, .inl rfl⟩
  | y :: r, b => by
    obtain ⟨h1, h2, h3⟩ := foldMax p r (max b (p y))
    simp only [List.foldl_cons]
    refine ⟨by omega, fun x hx => ?_, ?_⟩
    · simp only [List.mem_cons] at hx
      rcases hx with rfl | hx
      · omega
      · exact h2 x hx
    · rcases h3 with h3 | ⟨x, hx, h3⟩
      · rcases Int.le_total b (p y) with h | h
        · right; exact ⟨y, by simp, by omega⟩
        · left; omega
      · exact .inr ⟨x, by simp [hx], h3⟩
theorem extMin {p : Change → Int} {l : List Change} (h : l ≠ []) : (∀ x ∈ l, (extM 1 p l).1 ≤ p x) ∧ ∃ x ∈ l, (extM 1 p l).1 = p x := by
  match l, h with
  | c :: r, _ =>
    rw [extM_min]
    obtain ⟨h1, h2, h3⟩ := foldMin p r (p c)
    refine ⟨fun x hx => ?_, ?_⟩
    · simp only [List.mem_cons] at hx
      rcases hx with rfl | hx
      · exact h1
      · exact h2 x hx
    · rcases h3 with h3 | ⟨x, hx, h3⟩
      · exact ⟨c, by simp, h3⟩
      · exact ⟨x, by simp [hx], h3⟩
theorem extMax {p : Change → Int} {l : List Change} (h : l ≠ []) : (∀ x ∈ l, p x ≤ (extM (-1) p l).1) ∧ ∃ x ∈ l, (extM (-1) p l).1 = p x := by
  match l, h with
  | c :: r, _ =>
    rw [extM_max]
    obtain ⟨h1, h2, h3⟩ := foldMax p r (p c)
    refine ⟨fun x hx => ?_, ?_⟩
    · simp only [List.mem_cons] at hx
      rcases hx with rfl | hx
      · exact h1
      · exact h2 x hx
    · rcases h3 with h3 | ⟨x, hx, h3⟩
      · exact ⟨c, by simp, h3⟩
      · exact ⟨x, by simp [hx], h3⟩
theorem gD_mem {l : List Change} {k : Nat} (h : k < l.length) : gD l k ∈ l := by rw [gD_eq h]; exact List.getElem_mem h
theorem force_mem {l : List Change} {i : Iv} {x : Change} (h : x ∈ forceL l i l.length) : x ∈ l := by
  simp only [forceL, List.mem_map, List.mem_filter, List.mem_range] at h
  obtain ⟨k, ⟨hk, _⟩, rfl⟩ := h
  exact gD_mem hk
theorem laterL_empty (l : List Change) (t : Int) (n : Nat) : laterL l ⟨t, t⟩ n = [] := by
  simp only [laterL, List.map_eq_nil_iff, List.filter_eq_nil_iff, List.mem_range, decide_eq_true_eq]
  intro k _ h
  omega
structure ChP (l : List Change) (i : Iv) (t : Int) (a b : Change) : Prop where
  ea : linkBoundsM l i = (a, 0)
  eb : linkBoundsM l ⟨t, t⟩ = (b, 0)
  ta : a.at_ = i.lo
  tb : b.at_ = t
  n1 : a.outLo ≤ b.outLo
  n2 : b.outHi ≤ a.outHi
  n3 : a.backLo ≤ b.backLo
  n4 : b.backHi ≤ a.backHi
  f1 : ∃ x ∈ l, x.outLo = a.outLo
  f2 : ∃ x ∈ l, x.outHi = a.outHi
  f3 : ∃ x ∈ l, x.backLo = a.backLo
  f4 : ∃ x ∈ l, x.backHi = a.backHi
  f5 : ∃ x ∈ l, { x with at_ := t } = b
theorem chP_of {l : List Change} {i : Iv} {t : Int} (hl : validM l = true) (hi : validI i = true) (ht : i.lo ≤ t ∧ t ≤ i.hi) : ∃ a b, ChP l i t a b := by
  have hv := hl
  rw [validM, decide_eq_true_eq] at hv
  obtain ⟨v1, v2, v3, v4, v5⟩ := hv
  have hi' := (validI_iff i).1 hi
  have hs := at_strict v5
  have htv : validI ⟨t, t⟩ = true := by rw [validI_iff]; simp only; omega
  obtain ⟨q, q1, q2, q3⟩ := lastAt (lo := t) v1 (by omega) hs
  -- the delays in force at the time
  have hq : inF l i q = true := by
    simp only [inF, Bool.and_eq_true, Bool.not_eq_true', Bool.and_eq_false_iff, decide_eq_false_iff_not, decide_eq_true_eq]
    have e : ((q : Int) + 1).toNat = q + 1 := by omega
    rw [e]
    refine ⟨?_, by omega⟩
    by_cases hn : q + 1 < l.length
    · have := q3 (q + 1) (by omega) hn; right; omega
    · left; omega
  have hqm : gD l q ∈ forceL l i l.length := by
    simp only [forceL, List.mem_map, List.mem_filter, List.mem_range]
    exact ⟨q, ⟨q1, hq⟩, rfl⟩
  have hne : forceL l i l.length ≠ [] := List.ne_nil_of_mem hqm
  have hone : forceL l ⟨t, t⟩ l.length = [gD l q] := by
    have hat : ∀ n, n ≤ l.length → q < n → atM l t n = gD l q := by
      intro n
      induction n with
      | zero => intro _ h; omega
      | succ n ih =>
        intro hn hqn
        rw [atM_succ]
        by_cases hnq : n = q
        · subst hnq; rw [if_pos q2]
        · have := q3 n (by omega) (by omega)
          rw [if_neg (by omega)]
          exact ih (by omega) (by omega)
    rw [force_eq v1 (by simp only; omega) (Int.le_refl _) hs, laterL_empty, hat l.length (Nat.le_refl _) q1]
  refine ⟨_, _, by rw [linkBoundsM, if_pos ⟨hl, hi⟩], by rw [linkBoundsM, if_pos ⟨hl, htv⟩], rfl, rfl, ?_, ?_, ?_, ?_, ?_, ?_, ?_, ?_, ?_⟩
  all_goals simp only [hone]
  · rw [extM_min]; exact (extMin hne).1 _ hqm
  · rw [extM_max]; exact (extMax hne).1 _ hqm
  · rw [extM_min]; exact (extMin hne).1 _ hqm
  · rw [extM_max]; exact (extMax hne).1 _ hqm
  · obtain ⟨x, hx, e⟩ := (extMin (p := Change.outLo) hne).2; exact ⟨x, force_mem hx, e.symm⟩
  · obtain ⟨x, hx, e⟩ := (extMax (p := Change.outHi) hne).2; exact ⟨x, force_mem hx, e.symm⟩
  · obtain ⟨x, hx, e⟩ := (extMin (p := Change.backLo) hne).2; exact ⟨x, force_mem hx, e.symm⟩
  · obtain ⟨x, hx, e⟩ := (extMax (p := Change.backHi) hne).2; exact ⟨x, force_mem hx, e.symm⟩
  · refine ⟨gD l q, gD_mem q1, ?_⟩
    simp only [extM_min, extM_max, List.foldl_nil]
theorem gD_app {l : List Change} {c : Change} {k : Nat} (h : k < l.length) : gD (l ++ [c]) k = gD l k := by
  rw [gD_eq h, gD_eq (by simp; omega), List.getElem_append_left h]
theorem gD_last (l : List Change) (c : Change) : gD (l ++ [c]) l.length = c := by
  rw [gD_eq (by simp)]; simp
theorem bounds_app {l : List Change} {i : Iv} {c : Change} (hl : validM l = true) (hn : l.length ≤ 19) (hc : formedM c = true) (h1 : i.hi < c.at_) (h2 : (gD l (l.length - 1)).at_ < c.at_) (h3 : c.at_ ≤ 3000000000000000) (hi : validI i = true) : linkBoundsM (l ++ [c]) i = linkBoundsM l i := by
  have hv := hl
  rw [validM, decide_eq_true_eq] at hv
  obtain ⟨v1, v2, v3, v4, v5⟩ := hv
  have hi' := (validI_iff i).1 hi
  have hv' : validM (l ++ [c]) = true := by
    rw [validM, decide_eq_true_eq]
    refine ⟨by simp, by simp; omega, by rw [gD_app (by omega)]; exact v3, ?_, fun k hk => ?_⟩
    · rw [show (l ++ [c]).length - 1 = l.length from by simp, gD_last]; exact h3
    · simp only [List.length_append, List.length_cons, List.length_nil] at hk
      by_cases hkl : k < l.length
      · obtain ⟨w1, w2⟩ := v5 k hkl
        unfold vOk
        rw [gD_app hkl, gD_app (by omega)]
        exact ⟨w1, w2⟩
      · obtain rfl : k = l.length := by omega
        unfold vOk
        rw [gD_last, gD_app (by omega)]
        exact ⟨hc, fun _ => h2⟩
  have hf : forceL (l ++ [c]) i (l ++ [c]).length = forceL l i l.length := by
    have hlen : (l ++ [c]).length = l.length + 1 := by simp
    have hin : ∀ k, k < l.length → inF (l ++ [c]) i k = inF l i k := by
      intro k hk
      have e : ((k : Int) + 1).toNat = k + 1 := by omega
      simp only [inF, e, hlen, gD_app hk]
      by_cases hk1 : k + 1 < l.length
      · rw [gD_app hk1]
        have e1 : decide ((k : Int) + 1 < ((l.length + 1 : Nat) : Int)) = true := by rw [decide_eq_true_eq]; omega
        have e2 : decide ((k : Int) + 1 < (l.length : Int)) = true := by rw [decide_eq_true_eq]; omega
        rw [e1, e2]
      · obtain e3 : k + 1 = l.length := by omega
        rw [e3, gD_last]
        have e1 : decide (c.at_ ≤ i.lo) = false := by rw [decide_eq_false_iff_not]; omega
        have e2 : decide ((k : Int) + 1 < (l.length : Int)) = false := by rw [decide_eq_false_iff_not]; omega
        rw [e1, e2]; simp
    have hlast : inF (l ++ [c]) i l.length = false := by
      simp only [inF, gD_last]
      have e1 : decide (c.at_ ≤ i.hi) = false := by rw [decide_eq_false_iff_not]; omega
      rw [e1]; simp
    rw [hlen]
    simp only [forceL, List.range_succ, List.filter_append, List.filter_cons, hlast, List.filter_nil, List.append_nil, Bool.false_eq_true, if_false]
    rw [show (List.range l.length).filter (inF (l ++ [c]) i) = (List.range l.length).filter (inF l i) from List.filter_congr fun k hk => hin k (List.mem_range.1 hk)]
    exact List.map_congr_left fun k hk => gD_app (List.mem_range.1 (List.mem_filter.1 hk).1)
  simp only [linkBoundsM, hl, hv', hf]
end Go.Proofs.Yticlpcgkaffdmaa
