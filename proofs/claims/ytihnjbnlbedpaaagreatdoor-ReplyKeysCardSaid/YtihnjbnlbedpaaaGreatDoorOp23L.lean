/- The values of the statements' arguments: lists (chapter 23). -/
import Derived.Test.YtihnjbnlbedpaaaGreatDoorOp23
namespace Go.Proofs.YtihnjbnlbedpaaaGreatDoor
set_option linter.unusedVariables false
set_option linter.unusedSimpArgs false
set_option maxHeartbeats 4000000
set_option maxRecDepth 100000
open Go.RowKit
theorem open_KeyWin {n : Nat} {xs : List AV} (h : CellsOk tbl (n + 3) 62 xs) : ∃ c : KeyWin, xs = c.av ∧ c.fits := by
  simp only [CellsOk, cutOk, List.map_cons, List.map_nil, List.replicate_succ, List.replicate_zero, tbl_3, tbl_29, tbl_62] at h
  obtain ⟨a, b, rfl, -, ⟨m0, rfl, h0⟩, a, b, rfl, -, ⟨m1, rfl, h1⟩, a, b, rfl, -, ⟨m2, rfl, h2⟩, a, b, rfl, -, ⟨m3, rfl, h3⟩, a, b, rfl, -, ⟨m4, rfl, h4⟩, a, b, rfl, -, ⟨a, b', rfl, -, ⟨m5, rfl, h5⟩, a, b', rfl, -, ⟨m6, rfl, h6⟩, rfl⟩, rfl⟩ := h
  exact ⟨⟨m0, m1, m2, m3, m4, ⟨m5, m6⟩⟩, rfl, h0, h1, h2, h3, h4, h5, h6⟩
theorem lst_rel {G : Gh} {w : World} {v : Value} {sz n : Nat} {el el' : Nat → List AV} (h : ∀ i, i < n → el i = el' i) (hr : (AV.lst sz n el).rel G w v) : (AV.lst sz n el').rel G w v := by
  obtain ⟨A, cap, e1, e2, e3, e4⟩ := hr
  refine ⟨A, cap, e1, e2, e3, fun hn => ?_⟩
  obtain ⟨b, o, e5, e6⟩ := e4 hn
  exact ⟨b, o, e5, fun i hi => by rw [← h i hi]; exact e6 i hi⟩
theorem open_KeyWins {n : Nat} {xs : List AV} (h : CellsOk tbl (n + 4) 22 xs) : ∃ l : List KeyWin, (∀ (G : Gh) (w : World) (v : Value), (valA false xs).rel G w v → (lA 7 KeyWin.av l).rel G w v) ∧ (∀ c ∈ l, c.fits) ∧ l.length ≤ maxLen := by
  have h' : ∃ m el, xs = [.lst 7 m el] ∧ m ≤ maxLen ∧ ∀ i, i < m → (el i).length = 7 ∧ CellsOk tbl (n + 3) 62 (el i) := h
  obtain ⟨m, el, rfl, hm, hel⟩ := h'
  have hc : ∀ i, ∃ c : KeyWin, i < m → el i = c.av ∧ c.fits := fun i => by
    by_cases hi : i < m
    · obtain ⟨c, h1, h2⟩ := open_KeyWin (hel i hi).2
      exact ⟨c, fun _ => ⟨h1, h2⟩⟩
    · exact ⟨default, fun h => absurd h hi⟩
  refine ⟨(List.range m).map fun i => (hc i).choose, fun G w v hr => ?_, ?_, by simpa using hm⟩
  · have hlen : ((List.range m).map fun i => (hc i).choose).length = m := by simp
    unfold lA
    rw [hlen]
    refine lst_rel (fun i hi => ?_) hr
    have : ((List.range m).map fun i => (hc i).choose).getD i default = (hc i).choose := by simp [hi]
    simp only [els, this]
    exact ((hc i).choose_spec hi).1
  · intro c hcm
    rw [List.mem_map] at hcm
    obtain ⟨i, hi, rfl⟩ := hcm
    exact ((hc i).choose_spec (List.mem_range.1 hi)).2
theorem open_Replies {n : Nat} {xs : List AV} (h : CellsOk tbl (n + 4) 24 xs) : ∃ l : List Reply, (∀ (G : Gh) (w : World) (v : Value), (valA false xs).rel G w v → (lA 10 Reply.av l).rel G w v) ∧ (∀ c ∈ l, c.fits) ∧ l.length ≤ maxLen := by
  have h' : ∃ m el, xs = [.lst 10 m el] ∧ m ≤ maxLen ∧ ∀ i, i < m → (el i).length = 10 ∧ CellsOk tbl (n + 3) 31 (el i) := h
  obtain ⟨m, el, rfl, hm, hel⟩ := h'
  have hc : ∀ i, ∃ c : Reply, i < m → el i = c.av ∧ c.fits := fun i => by
    by_cases hi : i < m
    · obtain ⟨c, h1, h2⟩ := open_Reply (hel i hi).2
      exact ⟨c, fun _ => ⟨h1, h2⟩⟩
    · exact ⟨default, fun h => absurd h hi⟩
  refine ⟨(List.range m).map fun i => (hc i).choose, fun G w v hr => ?_, ?_, by simpa using hm⟩
  · have hlen : ((List.range m).map fun i => (hc i).choose).length = m := by simp
    unfold lA
    rw [hlen]
    refine lst_rel (fun i hi => ?_) hr
    have : ((List.range m).map fun i => (hc i).choose).getD i default = (hc i).choose := by simp [hi]
    simp only [els, this]
    exact ((hc i).choose_spec hi).1
  · intro c hcm
    rw [List.mem_map] at hcm
    obtain ⟨i, hi, rfl⟩ := hcm
    exact ((hc i).choose_spec (List.mem_range.1 hi)).2
theorem open_Changes {m : Nat} {el : Nat → List AV} (h : ∀ i, i < m → ∃ c : Change, el i = c.av) : ∃ l : List Change, Sim (.lst 5 m el) (lA 5 Change.av l) := by
  have hc : ∀ i, ∃ c : Change, i < m → el i = c.av := fun i => by
    by_cases hi : i < m
    · obtain ⟨c, h1⟩ := h i hi
      exact ⟨c, fun _ => h1⟩
    · exact ⟨default, fun h => absurd h hi⟩
  refine ⟨(List.range m).map fun i => (hc i).choose, ?_⟩
  refine Sim.lstE (by simp) fun i hi => ?_
  have : ((List.range m).map fun i => (hc i).choose).getD i default = (hc i).choose := by simp [hi]
  simp only [els, this]
  exact (hc i).choose_spec hi
theorem open_Wire {n : Nat} {xs : List AV} (h : CellsOk tbl (n + 5) 71 xs) : ∃ c : Wire, SimL xs c.av := by
  simp only [CellsOk, cutOk, List.map_cons, List.map_nil, List.replicate_succ, List.replicate_zero, tbl_3, tbl_64, tbl_67, tbl_71] at h
  obtain ⟨a, b, rfl, -, ⟨m0, rfl, h0⟩, a, b, rfl, -, ⟨m1, rfl, h1⟩, a, b, rfl, -, ⟨m, el, rfl, hm, hel⟩, rfl⟩ := h
  obtain ⟨l, hl⟩ := open_Changes (m := m) (el := el) fun i hi => by
    obtain ⟨a, b, e, -, ⟨m0, rfl, h0⟩, a, b, rfl, -, ⟨m1, rfl, h1⟩, a, b, rfl, -, ⟨m2, rfl, h2⟩, a, b, rfl, -, ⟨m3, rfl, h3⟩, a, b, rfl, -, ⟨m4, rfl, h4⟩, rfl⟩ := (hel i hi).2
    exact ⟨⟨m0, m1, m2, m3, m4⟩, e⟩
  exact ⟨⟨m0, m1, l⟩, Sim.refl _, Sim.refl _, hl, trivial⟩
theorem open_Wires {n : Nat} {xs : List AV} (h : CellsOk tbl (n + 6) 23 xs) : ∃ l : List Wire, (∀ (G : Gh) (w : World) (v : Value), (valA false xs).rel G w v → (lA 3 Wire.av l).rel G w v) ∧ l.length ≤ maxLen := by
  have h' : ∃ m el, xs = [.lst 3 m el] ∧ m ≤ maxLen ∧ ∀ i, i < m → (el i).length = 3 ∧ CellsOk tbl (n + 5) 71 (el i) := h
  obtain ⟨m, el, rfl, hm, hel⟩ := h'
  have hc : ∀ i, ∃ c : Wire, i < m → SimL (el i) c.av := fun i => by
    by_cases hi : i < m
    · obtain ⟨c, h1⟩ := open_Wire (hel i hi).2
      exact ⟨c, fun _ => h1⟩
    · exact ⟨default, fun h => absurd h hi⟩
  refine ⟨(List.range m).map fun i => (hc i).choose, ?_, by simpa using hm⟩
  refine Sim.lst (by simp) fun i hi => ?_
  have : ((List.range m).map fun i => (hc i).choose).getD i default = (hc i).choose := by simp [hi]
  simp only [els, this]
  exact (hc i).choose_spec hi
end Go.Proofs.YtihnjbnlbedpaaaGreatDoor
