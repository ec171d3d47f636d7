/- The values of the statements' arguments: of chapter 23. -/
import Derived.Test.YtihnjbnlbedpaaaGreatDoorRh
import Derived.Test.YtihnjbnlbedpaaaGreatDoorAlRow
import Derived.Test.YtihnjbnlbedpaaaGreatDoorRows
import Derived.LaidMore
namespace Go.Proofs.YtihnjbnlbedpaaaGreatDoor
set_option linter.unusedVariables false
set_option linter.unusedSimpArgs false
set_option maxHeartbeats 4000000
set_option maxRecDepth 100000
open Go.RowKit
theorem open_Iv {n : Nat} {xs : List AV} (h : CellsOk tbl (n + 2) 27 xs) : ∃ c : Iv, xs = c.av ∧ c.fits := by
  simp only [CellsOk, cutOk, List.map_cons, List.map_nil, List.replicate_succ, List.replicate_zero, tbl_3, tbl_27] at h
  obtain ⟨a, b, rfl, -, ⟨m0, rfl, h0⟩, a, b, rfl, -, ⟨m1, rfl, h1⟩, rfl⟩ := h
  exact ⟨⟨m0, m1⟩, rfl, h0, h1⟩
theorem open_int {n : Nat} {xs : List AV} (h : CellsOk tbl (n + 1) 3 xs) : ∃ m : Int, xs = [.raw (.int .i64 m)] ∧ inK .i64 m := by
  simp only [CellsOk, cutOk, List.map_cons, List.map_nil, List.replicate_succ, List.replicate_zero, tbl_3] at h
  exact h
theorem open_u8 {n : Nat} {xs : List AV} (h : CellsOk tbl (n + 1) 5 xs) : ∃ m : Int, xs = [.raw (.int .u8 m)] ∧ inK .u8 m := by
  simp only [CellsOk, cutOk, List.map_cons, List.map_nil, List.replicate_succ, List.replicate_zero, tbl_5] at h
  exact h
theorem open_u16 {n : Nat} {xs : List AV} (h : CellsOk tbl (n + 1) 52 xs) : ∃ m : Int, xs = [.raw (.int .u16 m)] ∧ inK .u16 m := by
  simp only [CellsOk, cutOk, List.map_cons, List.map_nil, List.replicate_succ, List.replicate_zero, tbl_52] at h
  exact h
theorem open_Reply {n : Nat} {xs : List AV} (h : CellsOk tbl (n + 3) 31 xs) : ∃ c : Reply, xs = c.av ∧ c.fits := by
  simp only [CellsOk, cutOk, List.map_cons, List.map_nil, List.replicate_succ, List.replicate_zero, tbl_3, tbl_25, tbl_27, tbl_29, tbl_31] at h
  obtain ⟨a, b, rfl, -, ⟨m0, rfl, h0⟩, a, b, rfl, -, ⟨m1, rfl, h1⟩, a, b, rfl, -, ⟨m2, rfl, h2⟩, a, b, rfl, -, ⟨m3, rfl, h3⟩, a, b, rfl, -, ⟨a, b', rfl, -, ⟨m4, rfl, h4⟩, a, b', rfl, -, ⟨m5, rfl, h5⟩, rfl⟩, a, b, rfl, -, ⟨m6, rfl, h6⟩, a, b, rfl, -, ⟨m7, rfl, h7⟩, a, b, rfl, -, ⟨a, b', rfl, -, ⟨m8, rfl, h8⟩, a, b', rfl, -, ⟨m9, rfl, h9⟩, rfl⟩, rfl⟩ := h
  exact ⟨⟨m0, m1, m2, m3, ⟨m4, m5⟩, m6, m7, ⟨m8, m9⟩⟩, rfl, h0, h1, h2, h3, ⟨h4, h5⟩, h6, h7, h8, h9⟩
theorem open_Auth {n : Nat} {xs : List AV} (h : CellsOk tbl (n + 2) 33 xs) : ∃ c : Auth, xs = c.av ∧ c.fits := by
  simp only [CellsOk, cutOk, List.map_cons, List.map_nil, List.replicate_succ, List.replicate_zero, tbl_3, tbl_33] at h
  obtain ⟨a, b, rfl, -, ⟨m0, rfl, h0⟩, a, b, rfl, -, ⟨m1, rfl, h1⟩, a, b, rfl, -, ⟨m2, rfl, h2⟩, a, b, rfl, -, ⟨m3, rfl, h3⟩, rfl⟩ := h
  exact ⟨⟨m0, m1, m2, m3⟩, rfl, h0, h1, h2, h3⟩
/-- The listed tables: what the condition gives. -/
theorem tabs_of_laid {W : World} (h : laidMetH Tryz.prog [("math/bits.deBruijn32tab", Rows.laid_math_bits_deBruijn32tab), ("math/bits.deBruijn64tab", Rows.laid_math_bits_deBruijn64tab), ("internal/strconv.uint64pow10", Rows.laid_internal_strconv_uint64pow10)] W) : Tabs Tryz.prog W := by
  intro g hg
  rw [MakeChecks.laidMetH_plain _ _ _ (by kernel_rfl)] at h
  obtain ⟨ps, ⟨g0, t0, cs0, f0, p0, q0, hg0, ht0, hv0, hd0, ⟨g1, t1, cs1, f1, p1, q1, hg1, ht1, hv1, hd1, ⟨g2, t2, cs2, f2, p2, q2, hg2, ht2, hv2, hd2, _, _⟩, _⟩, _⟩, _, _⟩ := h
  obtain rfl := Option.some.inj (hg.symm.trans hg2)
  obtain ⟨t, e, n, k1, k2, k3, k4, k5⟩ : ∃ t e n, (Tryz.prog.globals[g]?).map (·.type) = some t ∧ Tryz.prog.underlying t = some (.array n e) ∧ Tryz.prog.underlying e = some (.int .u64) ∧ Tryz.prog.cellsOf e = 1 ∧ Tryz.prog.cellsOf t = n := by
    obtain rfl : g = 2 := Option.some.inj (hg2.symm.trans (show Tryz.prog.globalNamed "internal/strconv.uint64pow10" = some 2 by kernel_rfl))
    exact ⟨249, 25, 20, by kernel_rfl, by kernel_rfl, by kernel_rfl, by kernel_rfl, by kernel_rfl⟩
  obtain rfl := Option.some.inj (k1.symm.trans ht2)
  unfold Lib.TabIs
  rw [hv2]
  have hd2' : DataW.trod (fun _ => ()) Tryz.prog W 0 (fun _ => true) false f2 t cs2.toList = some (Lib.tabData .u64 Lib.pow10Tab, p2) := hd2
  rw [← Lib.cells_of_tab k2 k3 k4 k5 hd2']
end Go.Proofs.YtihnjbnlbedpaaaGreatDoor
