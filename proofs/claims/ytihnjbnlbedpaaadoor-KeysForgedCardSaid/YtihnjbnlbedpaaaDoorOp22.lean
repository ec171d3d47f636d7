/- The values of the statements' arguments: of chapter 22. -/
import Derived.Test.YtihnjbnlbedpaaaDoorHd
import Derived.Test.YtihnjbnlbedpaaaDoorAlRow
import Derived.Test.YtihnjbnlbedpaaaDoorRows
import Derived.LaidMore
namespace Go.Proofs.YtihnjbnlbedpaaaDoor
set_option linter.unusedVariables false
set_option linter.unusedSimpArgs false
set_option maxHeartbeats 4000000
set_option maxRecDepth 100000
open Go.RowKit
theorem open_KeyWin {n : Nat} {xs : List AV} (h : CellsOk tbl (n + 3) 26 xs) : ∃ c : KeyWin, xs = c.av ∧ c.fits := by
  simp only [CellsOk, cutOk, List.map_cons, List.map_nil, List.replicate_succ, List.replicate_zero, tbl_3, tbl_24, tbl_26] at h
  obtain ⟨a, b, rfl, -, ⟨m0, rfl, h0⟩, a, b, rfl, -, ⟨m1, rfl, h1⟩, a, b, rfl, -, ⟨m2, rfl, h2⟩, a, b, rfl, -, ⟨m3, rfl, h3⟩, a, b, rfl, -, ⟨m4, rfl, h4⟩, a, b, rfl, -, ⟨a, b', rfl, -, ⟨m5, rfl, h5⟩, a, b', rfl, -, ⟨m6, rfl, h6⟩, rfl⟩, rfl⟩ := h
  exact ⟨⟨m0, m1, m2, m3, m4, ⟨m5, m6⟩⟩, rfl, h0, h1, h2, h3, h4, h5, h6⟩
theorem open_Iv {n : Nat} {xs : List AV} (h : CellsOk tbl (n + 2) 28 xs) : ∃ c : Iv, xs = c.av ∧ c.fits := by
  simp only [CellsOk, cutOk, List.map_cons, List.map_nil, List.replicate_succ, List.replicate_zero, tbl_3, tbl_28] at h
  obtain ⟨a, b, rfl, -, ⟨m0, rfl, h0⟩, a, b, rfl, -, ⟨m1, rfl, h1⟩, rfl⟩ := h
  exact ⟨⟨m0, m1⟩, rfl, h0, h1⟩
theorem open_int {n : Nat} {xs : List AV} (h : CellsOk tbl (n + 1) 3 xs) : ∃ m : Int, xs = [.raw (.int .i64 m)] ∧ inK .i64 m := by
  simp only [CellsOk, cutOk, List.map_cons, List.map_nil, List.replicate_succ, List.replicate_zero, tbl_3] at h
  exact h
theorem open_u8 {n : Nat} {xs : List AV} (h : CellsOk tbl (n + 1) 5 xs) : ∃ m : Int, xs = [.raw (.int .u8 m)] ∧ inK .u8 m := by
  simp only [CellsOk, cutOk, List.map_cons, List.map_nil, List.replicate_succ, List.replicate_zero, tbl_5] at h
  exact h
theorem lst_rel {G : Gh} {w : World} {v : Value} {sz n : Nat} {el el' : Nat → List AV} (h : ∀ i, i < n → el i = el' i) (hr : (AV.lst sz n el).rel G w v) : (AV.lst sz n el').rel G w v := by
  obtain ⟨A, cap, e1, e2, e3, e4⟩ := hr
  refine ⟨A, cap, e1, e2, e3, fun hn => ?_⟩
  obtain ⟨b, o, e5, e6⟩ := e4 hn
  exact ⟨b, o, e5, fun i hi => by rw [← h i hi]; exact e6 i hi⟩
theorem open_KeyWins {n : Nat} {xs : List AV} (h : CellsOk tbl (n + 4) 22 xs) : ∃ l : List KeyWin, (∀ (G : Gh) (w : World) (v : Value), (valA false xs).rel G w v → (lA 7 KeyWin.av l).rel G w v) ∧ (∀ c ∈ l, c.fits) ∧ l.length ≤ maxLen := by
  have h' : ∃ m el, xs = [.lst 7 m el] ∧ m ≤ maxLen ∧ ∀ i, i < m → (el i).length = 7 ∧ CellsOk tbl (n + 3) 26 (el i) := h
  obtain ⟨m, el, rfl, hm, hel⟩ := h'
  have hc : ∀ i, ∃ c : KeyWin, i < m → el i = c.av ∧ c.fits := fun i => by
    by_cases hi : i < m
    · obtain ⟨c, h1, h2⟩ := open_KeyWin (hel i hi).2
      exact ⟨c, fun _ => ⟨h1, h2⟩⟩
    · exact ⟨default, fun h => absurd h hi⟩
  refine ⟨(List.range m).map fun i => (hc i).choose, fun G w v hr => ?_, ?_, by simpa using hm⟩
  · have hlen : ((List.range m).map fun i => (hc i).choose).length = m := by simp
    unfold lA
    rw [hlen]
    refine lst_rel (fun i hi => ?_) hr
    have : ((List.range m).map fun i => (hc i).choose).getD i default = (hc i).choose := by simp [hi]
    simp only [els, this]
    exact ((hc i).choose_spec hi).1
  · intro c hcm
    rw [List.mem_map] at hcm
    obtain ⟨i, hi, rfl⟩ := hcm
    exact ((hc i).choose_spec (List.mem_range.1 hi)).2
/-- The listed tables: what the condition gives. -/
theorem tabs_of_laid {W : World} (h : laidMetH Tryd.prog [("math/bits.deBruijn32tab", Rows.laid_math_bits_deBruijn32tab), ("math/bits.deBruijn64tab", Rows.laid_math_bits_deBruijn64tab), ("internal/strconv.uint64pow10", Rows.laid_internal_strconv_uint64pow10)] W) : Tabs Tryd.prog W := by
  intro g hg
  rw [MakeChecks.laidMetH_plain _ _ _ (by kernel_rfl)] at h
  obtain ⟨ps, ⟨g0, t0, cs0, f0, p0, q0, hg0, ht0, hv0, hd0, ⟨g1, t1, cs1, f1, p1, q1, hg1, ht1, hv1, hd1, ⟨g2, t2, cs2, f2, p2, q2, hg2, ht2, hv2, hd2, _, _⟩, _⟩, _⟩, _, _⟩ := h
  obtain rfl := Option.some.inj (hg.symm.trans hg2)
  obtain ⟨t, e, n, k1, k2, k3, k4, k5⟩ : ∃ t e n, (Tryd.prog.globals[g]?).map (·.type) = some t ∧ Tryd.prog.underlying t = some (.array n e) ∧ Tryd.prog.underlying e = some (.int .u64) ∧ Tryd.prog.cellsOf e = 1 ∧ Tryd.prog.cellsOf t = n := by
    obtain rfl : g = 0 := Option.some.inj (hg2.symm.trans (show Tryd.prog.globalNamed "internal/strconv.uint64pow10" = some 0 by kernel_rfl))
    exact ⟨170, 52, 20, by kernel_rfl, by kernel_rfl, by kernel_rfl, by kernel_rfl, by kernel_rfl⟩
  obtain rfl := Option.some.inj (k1.symm.trans ht2)
  unfold Lib.TabIs
  rw [hv2]
  have hd2' : DataW.trod (fun _ => ()) Tryd.prog W 0 (fun _ => true) false f2 t cs2.toList = some (Lib.tabData .u64 Lib.pow10Tab, p2) := hd2
  rw [← Lib.cells_of_tab k2 k3 k4 k5 hd2']
end Go.Proofs.YtihnjbnlbedpaaaDoor
