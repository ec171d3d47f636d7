/- The values of the statements' arguments: networks. -/
import Derived.Test.YtcdgncmkkknmlaaGreatDoorDv
import Derived.Test.YtcdgncmkkknmlaaGreatDoorSj
import Derived.Test.YtcdgncmkkknmlaaGreatDoorAlRow
import Derived.Test.YtcdgncmkkknmlaaGreatDoorRows
import Derived.LaidMore
namespace Go.Proofs.YtcdgncmkkknmlaaGreatDoor
set_option linter.unusedVariables false
set_option linter.unusedSimpArgs false
set_option maxHeartbeats 4000000
set_option maxRecDepth 100000
open Go.RowKit
theorem open_Iv {n : Nat} {xs : List AV} (h : CellsOk tbl (n + 2) 29 xs) : ∃ c : Iv, xs = c.av ∧ c.fits := by
  simp only [CellsOk, cutOk, List.map_cons, List.map_nil, List.replicate_succ, List.replicate_zero, tbl_3, tbl_29] at h
  obtain ⟨a, b, rfl, -, ⟨m0, rfl, h0⟩, a, b, rfl, -, ⟨m1, rfl, h1⟩, rfl⟩ := h
  exact ⟨⟨m0, m1⟩, rfl, h0, h1⟩
theorem open_int {n : Nat} {xs : List AV} (h : CellsOk tbl (n + 1) 3 xs) : ∃ m : Int, xs = [.raw (.int .i64 m)] ∧ inK .i64 m := by
  simp only [CellsOk, cutOk, List.map_cons, List.map_nil, List.replicate_succ, List.replicate_zero, tbl_3] at h
  exact h
theorem open_u8 {n : Nat} {xs : List AV} (h : CellsOk tbl (n + 1) 5 xs) : ∃ m : Int, xs = [.raw (.int .u8 m)] ∧ inK .u8 m := by
  simp only [CellsOk, cutOk, List.map_cons, List.map_nil, List.replicate_succ, List.replicate_zero, tbl_5] at h
  exact h
theorem open_u16 {n : Nat} {xs : List AV} (h : CellsOk tbl (n + 1) 64 xs) : ∃ m : Int, xs = [.raw (.int .u16 m)] ∧ inK .u16 m := by
  simp only [CellsOk, cutOk, List.map_cons, List.map_nil, List.replicate_succ, List.replicate_zero, tbl_64] at h
  exact h
theorem open_list {α : Type} [Inhabited α] {av : α → List AV} {Q : α → Prop} {sz m : Nat} {el : Nat → List AV} (h : ∀ i, i < m → ∃ c : α, SimL (el i) (av c) ∧ Q c) : ∃ l : List α, Sim (.lst sz m el) (lA sz av l) ∧ (∀ c ∈ l, Q c) ∧ l.length = m := by
  have hc : ∀ i, ∃ c : α, i < m → SimL (el i) (av c) ∧ Q c := fun i => by
    by_cases hi : i < m
    · obtain ⟨c, h1⟩ := h i hi
      exact ⟨c, fun _ => h1⟩
    · exact ⟨default, fun h => absurd h hi⟩
  refine ⟨(List.range m).map fun i => (hc i).choose, ?_, fun c hcm => ?_, by simp⟩
  · refine Sim.lst (by simp) fun i hi => ?_
    have : ((List.range m).map fun i => (hc i).choose).getD i default = (hc i).choose := by simp [hi]
    simp only [els, this]
    exact ((hc i).choose_spec hi).1
  · obtain ⟨i, hi, rfl⟩ := List.mem_map.1 hcm
    exact ((hc i).choose_spec (List.mem_range.1 hi)).2
theorem open_ints {m : Nat} {el : Nat → List AV} (h : ∀ i, i < m → ∃ k : Int, el i = [.raw (.int .i64 k)] ∧ inK .i64 k) : ∃ l : List Int, Sim (.lst 1 m el) (liA l) ∧ (∀ x ∈ l, inK .i64 x) ∧ l.length = m :=
  open_list (av := iC) fun i hi => by
    obtain ⟨k, h1, h2⟩ := h i hi
    exact ⟨k, SimL.of_eq h1, h2⟩
theorem open_Table {n : Nat} {xs : List AV} (h : CellsOk tbl (n + 5) 73 xs) : ∃ c : Table, SimL xs c.av ∧ c.fits := by
  simp only [CellsOk, cutOk, List.map_cons, List.map_nil, List.replicate_succ, List.replicate_zero, tbl_3, tbl_70, tbl_71, tbl_73] at h
  obtain ⟨a, b, rfl, -, ⟨m0, e0, rfl, hm0, h0⟩, a, b, rfl, -, ⟨m1, e1, rfl, hm1, h1⟩, a, b, rfl, -, ⟨m2, e2, rfl, hm2, h2⟩, rfl⟩ := h
  obtain ⟨l0, s0, f0, g0⟩ := open_ints (el := e0) fun i hi => (h0 i hi).2
  obtain ⟨l1, s1, f1, g1⟩ := open_ints (el := e1) fun i hi => (h1 i hi).2
  obtain ⟨l2, s2, f2, g2⟩ := open_list (av := liC) (sz := 1) (el := e2) (m := m2) (Q := fun r : List Int => r.length ≤ maxLen ∧ ∀ x ∈ r, inK .i64 x) fun i hi => by
    obtain ⟨-, m3, e3, he, hm3, h3⟩ := h2 i hi
    obtain ⟨l3, s3, f3, g3⟩ := open_ints (el := e3) fun i hi => (h3 i hi).2
    rw [he]
    exact ⟨l3, ⟨s3, trivial⟩, by omega, f3⟩
  exact ⟨⟨l0, l1, l2⟩, ⟨s0, s1, s2, trivial⟩, ⟨by simp only; omega, f0⟩, ⟨by simp only; omega, f1⟩, by simp only; omega, f2⟩
theorem open_Host {n : Nat} {xs : List AV} (h : CellsOk tbl (n + 3) 49 xs) : ∃ c : Host, SimL xs c.av ∧ True := by
  simp only [CellsOk, cutOk, List.map_cons, List.map_nil, List.replicate_succ, List.replicate_zero, tbl_3, tbl_47, tbl_49] at h
  obtain ⟨a, b, rfl, -, ⟨m0, rfl, h0⟩, a, b, rfl, -, ⟨m1, rfl, h1⟩, a, b, rfl, -, ⟨a, b', rfl, -, ⟨m2, rfl, h2⟩, a, b', rfl, -, ⟨m3, rfl, h3⟩, rfl⟩, a, b, rfl, -, ⟨a, b', rfl, -, ⟨m4, rfl, h4⟩, a, b', rfl, -, ⟨m5, rfl, h5⟩, rfl⟩, rfl⟩ := h
  exact ⟨⟨m0, m1, ⟨m2, m3⟩, ⟨m4, m5⟩⟩, SimL.of_eq rfl, trivial⟩
theorem open_Auth {n : Nat} {xs : List AV} (h : CellsOk tbl (n + 2) 52 xs) : ∃ c : Auth, SimL xs c.av ∧ True := by
  simp only [CellsOk, cutOk, List.map_cons, List.map_nil, List.replicate_succ, List.replicate_zero, tbl_3, tbl_52] at h
  obtain ⟨a, b, rfl, -, ⟨m0, rfl, h0⟩, a, b, rfl, -, ⟨m1, rfl, h1⟩, a, b, rfl, -, ⟨m2, rfl, h2⟩, a, b, rfl, -, ⟨m3, rfl, h3⟩, rfl⟩ := h
  exact ⟨⟨m0, m1, m2, m3⟩, SimL.of_eq rfl, trivial⟩
theorem open_Wire {n : Nat} {xs : List AV} (h : CellsOk tbl (n + 5) 67 xs) : ∃ c : Wire, SimL xs c.av ∧ True := by
  simp only [CellsOk, cutOk, List.map_cons, List.map_nil, List.replicate_succ, List.replicate_zero, tbl_3, tbl_53, tbl_56, tbl_67] at h
  obtain ⟨a, b, rfl, -, ⟨m0, rfl, h0⟩, a, b, rfl, -, ⟨m1, rfl, h1⟩, a, b, rfl, -, ⟨m, el, rfl, hm, hel⟩, rfl⟩ := h
  obtain ⟨l, hl, -, -⟩ := open_list (av := Change.av) (Q := fun _ => True) (sz := 5) (m := m) (el := el) fun i hi => by
    obtain ⟨a, b, e, -, ⟨m0, rfl, h0⟩, a, b, rfl, -, ⟨m1, rfl, h1⟩, a, b, rfl, -, ⟨m2, rfl, h2⟩, a, b, rfl, -, ⟨m3, rfl, h3⟩, a, b, rfl, -, ⟨m4, rfl, h4⟩, rfl⟩ := (hel i hi).2
    exact ⟨⟨m0, m1, m2, m3, m4⟩, SimL.of_eq e, trivial⟩
  exact ⟨⟨m0, m1, l⟩, ⟨Sim.refl _, Sim.refl _, hl, trivial⟩, trivial⟩
theorem open_Net {n : Nat} {xs : List AV} (h : CellsOk tbl (n + 8) 27 xs) : ∃ c : Net, Sim (.agg xs) (.agg c.av) ∧ ∀ t ∈ c.tables, t.fits := by
  simp only [CellsOk, cutOk, List.map_cons, List.map_nil, tbl_27, tbl_22, tbl_23, tbl_24, tbl_25, tbl_3] at h
  obtain ⟨a, b, rfl, -, ⟨m0, e0, rfl, hm0, h0⟩, a, b, rfl, -, ⟨m1, e1, rfl, hm1, h1⟩, a, b, rfl, -, ⟨m2, e2, rfl, hm2, h2⟩, a, b, rfl, -, ⟨m3, e3, rfl, hm3, h3⟩, a, b, rfl, -, ⟨n4, rfl, g4⟩, a, b, rfl, -, ⟨n5, rfl, g5⟩, a, b, rfl, -, ⟨n6, rfl, g6⟩, rfl⟩ := h
  obtain ⟨ts, s0, f0, -⟩ := open_list (av := Table.av) (Q := Table.fits) (sz := 3) (m := m0) (el := e0) fun i hi => open_Table (n := n) (h0 i hi).2
  obtain ⟨hs, s1, -, -⟩ := open_list (av := Host.av) (Q := fun _ => True) (sz := 6) (m := m1) (el := e1) fun i hi => open_Host (n := n + 2) (h1 i hi).2
  obtain ⟨al, s2, -, -⟩ := open_list (av := Auth.av) (Q := fun _ => True) (sz := 4) (m := m2) (el := e2) fun i hi => open_Auth (n := n + 3) (h2 i hi).2
  obtain ⟨ws, s3, -, -⟩ := open_list (av := Wire.av) (Q := fun _ => True) (sz := 3) (m := m3) (el := e3) fun i hi => open_Wire (n := n) (h3 i hi).2
  exact ⟨⟨ts, hs, al, ws, n4, n5, n6⟩, Sim.agg ⟨s0, s1, s2, s3, Sim.refl _, Sim.refl _, Sim.refl _, trivial⟩, f0⟩
/-- The listed tables: what the condition gives. -/
theorem tabs_of_laid {W : World} (h : laidMetH Tryz.prog [("math/bits.deBruijn32tab", Rows.laid_math_bits_deBruijn32tab), ("math/bits.deBruijn64tab", Rows.laid_math_bits_deBruijn64tab), ("internal/strconv.uint64pow10", Rows.laid_internal_strconv_uint64pow10)] W) : Tabs Tryz.prog W := by
  intro g hg
  rw [MakeChecks.laidMetH_plain _ _ _ (by kernel_rfl)] at h
  obtain ⟨ps, ⟨g0, t0, cs0, f0, p0, q0, hg0, ht0, hv0, hd0, ⟨g1, t1, cs1, f1, p1, q1, hg1, ht1, hv1, hd1, ⟨g2, t2, cs2, f2, p2, q2, hg2, ht2, hv2, hd2, _, _⟩, _⟩, _⟩, _, _⟩ := h
  obtain rfl := Option.some.inj (hg.symm.trans hg2)
  obtain ⟨t, e, n, k1, k2, k3, k4, k5⟩ : ∃ t e n, (Tryz.prog.globals[g]?).map (·.type) = some t ∧ Tryz.prog.underlying t = some (.array n e) ∧ Tryz.prog.underlying e = some (.int .u64) ∧ Tryz.prog.cellsOf e = 1 ∧ Tryz.prog.cellsOf t = n := by
    obtain rfl : g = 2 := Option.some.inj (hg2.symm.trans (show Tryz.prog.globalNamed "internal/strconv.uint64pow10" = some 2 by kernel_rfl))
    exact ⟨188, 144, 20, by kernel_rfl, by kernel_rfl, by kernel_rfl, by kernel_rfl, by kernel_rfl⟩
  obtain rfl := Option.some.inj (k1.symm.trans ht2)
  unfold Lib.TabIs
  rw [hv2]
  have hd2' : DataW.trod (fun _ => ()) Tryz.prog W 0 (fun _ => true) false f2 t cs2.toList = some (Lib.tabData .u64 Lib.pow10Tab, p2) := hd2
  rw [← Lib.cells_of_tab k2 k3 k4 k5 hd2']
end Go.Proofs.YtcdgncmkkknmlaaGreatDoor
