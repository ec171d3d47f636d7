/- Plain: the reference's bounds are the program's. -/
import Derived.Test.YticlpcgkaffdmaaLinkT
import Derived.Test.YticlpcgkaffdmaaLinkD
namespace Go.Proofs.Yticlpcgkaffdmaa
set_option linter.unusedSectionVars false
set_option linter.unusedVariables false
set_option linter.unusedSimpArgs false
open Go.RowKit
theorem at_strict {l : List Change} (h : ∀ i, i < l.length → vOk l i) : ∀ i j, i < j → j < l.length → (gD l i).at_ < (gD l j).at_ := by
  intro i j hij hj
  have h1 := at_mono h i (j - 1) (by omega) (by omega)
  have h2 := (h j hj).2 (by omega)
  omega
theorem extStep_min (p : Change → Int) (b : Int) (c : Change) : extStep 1 p (b, false) c = (min b (p c), false) := by
  unfold extStep cmpM
  by_cases h : p c < b
  · simp [h]; try omega
  · by_cases h2 : b < p c
    · simp [h, h2]; try omega
    · simp [h, h2]; try omega
theorem extStep_max (p : Change → Int) (b : Int) (c : Change) : extStep (-1) p (b, false) c = (max b (p c), false) := by
  unfold extStep cmpM
  by_cases h : p c < b
  · simp [h]; try omega
  · by_cases h2 : b < p c
    · simp [h, h2]; try omega
    · simp [h, h2]; try omega
theorem extM_min (p : Change → Int) (c : Change) (r : List Change) : extM 1 p (c :: r) = (r.foldl (fun b x => min b (p x)) (p c), false) := by
  have : ∀ (r : List Change) (b : Int), r.foldl (extStep 1 p) (b, false) = (r.foldl (fun b x => min b (p x)) b, false) := by
    intro r
    induction r with
    | nil => intro b; rfl
    | cons x r ih => intro b; simp only [List.foldl_cons, extStep_min, ih]
  simp only [extM, List.foldl_cons]
  rw [show extStep 1 p (0, true) c = (p c, false) from by simp [extStep], this]
theorem extM_max (p : Change → Int) (c : Change) (r : List Change) : extM (-1) p (c :: r) = (r.foldl (fun b x => max b (p x)) (p c), false) := by
  have : ∀ (r : List Change) (b : Int), r.foldl (extStep (-1) p) (b, false) = (r.foldl (fun b x => max b (p x)) b, false) := by
    intro r
    induction r with
    | nil => intro b; rfl
    | cons x r ih => intro b; simp only [List.foldl_cons, extStep_max, ih]
  simp only [extM, List.foldl_cons]
  rw [show extStep (-1) p (0, true) c = (p c, false) from by simp [extStep], this]
/-- The delays that begin to be in force within an interval. -/
def laterL (l : List Change) (i : Iv) (n : Nat) : List Change := ((List.range n).filter fun k => decide (i.lo < (gD l k).at_ ∧ (gD l k).at_ ≤ i.hi)).map (gD l)
theorem boundR_eq (l : List Change) (i : Iv) (n : Nat) : boundR l i n = (laterL l i n).foldl joinM { atM l i.lo l.length with at_ := i.lo } := by
  induction n with
  | zero => rfl
  | succ n ih =>
    rw [boundR_succ, laterL, List.range_succ, List.filter_append, List.map_append, List.foldl_append]
    rw [show (((List.range n).filter fun k => decide (i.lo < (gD l k).at_ ∧ (gD l k).at_ ≤ i.hi)).map (gD l)) = laterL l i n from rfl, ← ih]
    by_cases h : i.lo < (gD l n).at_ ∧ (gD l n).at_ ≤ i.hi <;> simp [h]
theorem join_fold (r : List Change) : ∀ a : Change, r.foldl joinM a = ⟨a.at_, r.foldl (fun b x => min b x.outLo) a.outLo, r.foldl (fun b x => max b x.outHi) a.outHi, r.foldl (fun b x => min b x.backLo) a.backLo, r.foldl (fun b x => max b x.backHi) a.backHi⟩ := by
  induction r with
  | nil => intro a; rfl
  | cons x r ih => intro a; simp only [List.foldl_cons, ih, joinM]
theorem lastAt {l : List Change} {lo : Int} (h1 : 1 ≤ l.length) (h0 : (gD l 0).at_ ≤ lo) (hs : ∀ i j, i < j → j < l.length → (gD l i).at_ < (gD l j).at_) : ∃ a, a < l.length ∧ (gD l a).at_ ≤ lo ∧ ∀ k, a < k → k < l.length → lo < (gD l k).at_ := by
  have : ∀ n, n < l.length → ∃ a, a ≤ n ∧ (gD l a).at_ ≤ lo ∧ ∀ k, a < k → k ≤ n → lo < (gD l k).at_ := by
    intro n
    induction n with
    | zero => intro _; exact ⟨0, Nat.le_refl _, h0, fun k h h' => by omega⟩
    | succ n ih =>
      intro hn
      obtain ⟨a, e1, e2, e3⟩ := ih (by omega)
      by_cases hc : (gD l (n + 1)).at_ ≤ lo
      · exact ⟨n + 1, Nat.le_refl _, hc, fun k h h' => by omega⟩
      · refine ⟨a, by omega, e2, fun k h h' => ?_⟩
        by_cases hk : k = n + 1
        · subst hk; omega
        · exact e3 k h (by omega)
  obtain ⟨a, e1, e2, e3⟩ := this (l.length - 1) (by omega)
  exact ⟨a, by omega, e2, fun k h h' => e3 k h (by omega)⟩
theorem force_eq {l : List Change} {i : Iv} (h1 : 1 ≤ l.length) (h0 : (gD l 0).at_ ≤ i.lo) (hi : i.lo ≤ i.hi) (hs : ∀ i j, i < j → j < l.length → (gD l i).at_ < (gD l j).at_) : forceL l i l.length = atM l i.lo l.length :: laterL l i l.length := by
  obtain ⟨a, e1, e2, e3⟩ := lastAt h1 h0 hs
  have hP : ∀ k, k < l.length → (inF l i k = true ↔ k = a ∨ (i.lo < (gD l k).at_ ∧ (gD l k).at_ ≤ i.hi)) := by
    intro k hk
    have e : ((k : Int) + 1).toNat = k + 1 := by omega
    simp only [inF, e, Bool.and_eq_true, Bool.not_eq_true', Bool.and_eq_false_iff, decide_eq_false_iff_not, decide_eq_true_eq]
    rcases Nat.lt_trichotomy k a with h | h | h
    · have h2 := hs k a h e1
      have h3 : (gD l (k + 1)).at_ ≤ i.lo := by
        by_cases hka : k + 1 = a
        · rw [hka]; exact e2
        · have := hs (k + 1) a (by omega) e1; omega
      constructor
      · rintro ⟨h4 | h4, _⟩ <;> omega
      · rintro (h4 | h4) <;> omega
    · subst h
      refine ⟨fun _ => .inl rfl, fun _ => ⟨?_, by omega⟩⟩
      by_cases hn : k + 1 < l.length
      · have := e3 (k + 1) (by omega) hn; omega
      · omega
    · have h2 := e3 k h hk
      constructor
      · rintro ⟨_, h4⟩; exact .inr ⟨h2, h4⟩
      · rintro (h4 | h4)
        · omega
        · refine ⟨?_, h4.2⟩
          by_cases hn : k + 1 < l.length
          · have := e3 (k + 1) (by omega) hn; omega
          · omega
  have key : ∀ n, n ≤ l.length → (List.range n).filter (inF l i) = (if a < n then [a] else []) ++ (List.range n).filter (fun k => decide (i.lo < (gD l k).at_ ∧ (gD l k).at_ ≤ i.hi)) ∧ (a < n → atM l i.lo n = gD l a) := by
    intro n
    induction n with
    | zero => intro _; simp
    | succ n ih =>
      intro hn
      obtain ⟨i1, i2⟩ := ih (by omega)
      have hp := hP n (by omega)
      rw [List.range_succ, List.filter_append, List.filter_append, i1, atM_succ]
      rcases Nat.lt_trichotomy n a with h | h | h
      · have hq : ¬ i.lo < (gD l n).at_ := by have := hs n a h e1; omega
        have hf : inF l i n = false := by rw [Bool.eq_false_iff]; intro h4; rcases hp.1 h4 with h5 | h5 <;> omega
        refine ⟨by simp [hf, hq, show ¬ a < n from by omega, show ¬ a < n + 1 from by omega], fun h => by omega⟩
      · subst h
        have hq : ¬ i.lo < (gD l n).at_ := by omega
        have hnil : (List.range n).filter (fun k => decide (i.lo < (gD l k).at_ ∧ (gD l k).at_ ≤ i.hi)) = [] := by
          rw [List.filter_eq_nil_iff]
          intro k hk
          have := hs k n (List.mem_range.1 hk) e1
          simp; omega
        refine ⟨by rw [hnil]; simp [hp.2 (.inl rfl), hq], fun _ => by rw [if_pos e2]⟩
      · have h2 := e3 n h (by omega)
        have hb : inF l i n = decide (i.lo < (gD l n).at_ ∧ (gD l n).at_ ≤ i.hi) := by
          rw [Bool.eq_iff_iff, decide_eq_true_iff, hp]
          exact ⟨fun h => h.resolve_left (by omega), .inr⟩
        refine ⟨by simp [hb, h, show a < n + 1 from by omega, List.append_assoc, List.filter_cons], fun _ => by rw [if_neg (by omega)]; exact i2 h⟩
  obtain ⟨k1, k2⟩ := key l.length (Nat.le_refl _)
  rw [forceL, k1, if_pos e1, k2 e1]
  rfl
theorem refBounds_eq (l : List Change) (i : Iv) : refBoundsM l i = linkBoundsM l i := by
  unfold refBoundsM linkBoundsM
  split
  · rename_i h
    have hv := h.1
    rw [validM, decide_eq_true_eq] at hv
    obtain ⟨v1, v2, v3, v4, v5⟩ := hv
    have hi := (validI_iff i).1 h.2
    rw [force_eq v1 (by omega) hi.2.1 (at_strict v5), boundR_eq, join_fold]
    simp only [extM_min, extM_max]
  · rfl
end Go.Proofs.Yticlpcgkaffdmaa
