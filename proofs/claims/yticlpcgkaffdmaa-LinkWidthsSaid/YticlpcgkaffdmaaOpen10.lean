/- The values of the statements' arguments: of chapter 10. -/
import Derived.Test.YticlpcgkaffdmaaEnc
import Derived.Test.YticlpcgkaffdmaaLinkB
import Derived.Test.YticlpcgkaffdmaaAlRow
namespace Go.Proofs.Yticlpcgkaffdmaa
set_option linter.unusedSectionVars false
set_option linter.unusedVariables false
set_option linter.unusedSimpArgs false
open Go.RowKit
def Change.fits (c : Change) : Prop := inK .i64 c.at_ ∧ inK .i64 c.outLo ∧ inK .i64 c.outHi ∧ inK .i64 c.backLo ∧ inK .i64 c.backHi
def Iv.fits (c : Iv) : Prop := inK .i64 c.lo ∧ inK .i64 c.hi
def Rg.fits (c : Rg) : Prop := inK .i64 c.lo ∧ inK .i64 c.hi
theorem open_Change {n : Nat} {xs : List AV} (h : CellsOk tbl (n + 2) 24 xs) : ∃ c : Change, xs = c.c ∧ c.fits := by
  simp only [CellsOk, cutOk, List.map_cons, List.map_nil, List.replicate_succ, List.replicate_zero, tbl_3, tbl_24] at h
  obtain ⟨a, b, rfl, -, ⟨m0, rfl, h0⟩, a, b, rfl, -, ⟨m1, rfl, h1⟩, a, b, rfl, -, ⟨m2, rfl, h2⟩, a, b, rfl, -, ⟨m3, rfl, h3⟩, a, b, rfl, -, ⟨m4, rfl, h4⟩, rfl⟩ := h
  exact ⟨⟨m0, m1, m2, m3, m4⟩, rfl, h0, h1, h2, h3, h4⟩
theorem open_Iv {n : Nat} {xs : List AV} (h : CellsOk tbl (n + 2) 26 xs) : ∃ c : Iv, xs = c.c ∧ c.fits := by
  simp only [CellsOk, cutOk, List.map_cons, List.map_nil, List.replicate_succ, List.replicate_zero, tbl_3, tbl_26] at h
  obtain ⟨a, b, rfl, -, ⟨m0, rfl, h0⟩, a, b, rfl, -, ⟨m1, rfl, h1⟩, rfl⟩ := h
  exact ⟨⟨m0, m1⟩, rfl, h0, h1⟩
theorem open_Rg {n : Nat} {xs : List AV} (h : CellsOk tbl (n + 2) 27 xs) : ∃ c : Rg, xs = c.c ∧ c.fits := by
  simp only [CellsOk, cutOk, List.map_cons, List.map_nil, List.replicate_succ, List.replicate_zero, tbl_3, tbl_27] at h
  obtain ⟨a, b, rfl, -, ⟨m0, rfl, h0⟩, a, b, rfl, -, ⟨m1, rfl, h1⟩, rfl⟩ := h
  exact ⟨⟨m0, m1⟩, rfl, h0, h1⟩
theorem open_int {n : Nat} {xs : List AV} (h : CellsOk tbl (n + 1) 3 xs) : ∃ m : Int, xs = [.raw (.int .i64 m)] ∧ inK .i64 m := by
  simp only [CellsOk, cutOk, List.map_cons, List.map_nil, List.replicate_succ, List.replicate_zero, tbl_3] at h
  exact h
theorem open_u16 {n : Nat} {xs : List AV} (h : CellsOk tbl (n + 1) 44 xs) : ∃ m : Int, xs = [.raw (.int .u16 m)] ∧ inK .u16 m := by
  simp only [CellsOk, cutOk, List.map_cons, List.map_nil, List.replicate_succ, List.replicate_zero, tbl_44] at h
  exact h
theorem open_by {n : Nat} {xs : List AV} (h : CellsOk tbl (n + 2) 45 xs) : ∃ b0 b1 b2 b3 : Int, xs = [.raw (.int .u16 b0), .raw (.int .u16 b1), .raw (.int .u16 b2), .raw (.int .u16 b3)] ∧ ∀ x ∈ [b0, b1, b2, b3], inK .u16 x := by
  simp only [CellsOk, cutOk, List.map_cons, List.map_nil, List.replicate_succ, List.replicate_zero, tbl_44, tbl_45] at h
  obtain ⟨a, b, rfl, -, ⟨m0, rfl, h0⟩, a, b, rfl, -, ⟨m1, rfl, h1⟩, a, b, rfl, -, ⟨m2, rfl, h2⟩, a, b, rfl, -, ⟨m3, rfl, h3⟩, rfl⟩ := h
  exact ⟨m0, m1, m2, m3, rfl, by simp only [List.forall_mem_cons, List.not_mem_nil, false_implies, implies_true, and_true]; exact ⟨h0, h1, h2, h3⟩⟩
theorem gD_range {α : Type} [Inhabited α] (f : Nat → α) {n i : Nat} (h : i < n) : gD ((List.range n).map f) i = f i := by
  simp [gD, h]
theorem lst_rel {G : Gh} {w : World} {v : Value} {sz n : Nat} {el el' : Nat → List AV} (h : ∀ i, i < n → el i = el' i) (hr : (AV.lst sz n el).rel G w v) : (AV.lst sz n el').rel G w v := by
  obtain ⟨A, cap, e1, e2, e3, e4⟩ := hr
  refine ⟨A, cap, e1, e2, e3, fun hn => ?_⟩
  obtain ⟨b, o, e5, e6⟩ := e4 hn
  exact ⟨b, o, e5, fun i hi => by rw [← h i hi]; exact e6 i hi⟩
/-- A list of changes: the cells are those of some list. -/
theorem open_Changes {n : Nat} {xs : List AV} (h : CellsOk tbl (n + 3) 22 xs) : ∃ l : List Change, (∀ (G : Gh) (w : World) (v : Value), (valA false xs).rel G w v → (chL l).rel G w v) ∧ (∀ c ∈ l, c.fits) ∧ l.length ≤ maxLen := by
  have h' : ∃ m el, xs = [.lst 5 m el] ∧ m ≤ maxLen ∧ ∀ i, i < m → (el i).length = 5 ∧ CellsOk tbl (n + 2) 24 (el i) := h
  obtain ⟨m, el, rfl, hm, hel⟩ := h'
  have hc : ∀ i, ∃ c : Change, i < m → el i = c.c ∧ c.fits := fun i => by
    by_cases hi : i < m
    · obtain ⟨c, h1, h2⟩ := open_Change (hel i hi).2
      exact ⟨c, fun _ => ⟨h1, h2⟩⟩
    · exact ⟨default, fun h => absurd h hi⟩
  refine ⟨(List.range m).map fun i => (hc i).choose, fun G w v hr => ?_, ?_, by simpa using hm⟩
  · have hlen : ((List.range m).map fun i => (hc i).choose).length = m := by simp
    unfold chL
    rw [hlen]
    refine lst_rel (fun i hi => ?_) hr
    rw [gD_range _ hi]
    exact ((hc i).choose_spec hi).1
  · intro c hcm
    rw [List.mem_map] at hcm
    obtain ⟨i, hi, rfl⟩ := hcm
    exact ((hc i).choose_spec (List.mem_range.1 hi)).2
end Go.Proofs.Yticlpcgkaffdmaa
