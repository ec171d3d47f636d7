/- The statements LinkTruth, LinkTight, LinkNarrow, LinkWidths, for arguments as they are read. -/
import Derived.Test.YticlpcgkaffdmaaLawE
import Derived.Test.YticlpcgkaffdmaaLawF
import Derived.Test.YticlpcgkaffdmaaLawG
import Derived.Test.YticlpcgkaffdmaaLawH
import Derived.Test.YticlpcgkaffdmaaOpen10
namespace Go.Proofs.Yticlpcgkaffdmaa
set_option linter.unusedSectionVars false
set_option linter.unusedVariables false
set_option linter.unusedSimpArgs false
open Go.RowKit
theorem linkTruth_B {x0 x1 x2 x3 x4 x5 x6 x7 : List AV} (k0 : CellsOk tbl 30 24 x0) (k1 : CellsOk tbl 30 3 x1) (k2 : CellsOk tbl 30 3 x2) (k3 : CellsOk tbl 30 3 x3)
    (k4 : CellsOk tbl 30 3 x4) (k5 : CellsOk tbl 30 3 x5) (k6 : CellsOk tbl 30 3 x6) (k7 : CellsOk tbl 30 3 x7) :
    FnA Try.prog 4 [valA true x0, valA false x1, valA false x2, valA false x3, valA false x4, valA false x5, valA false x6, valA false x7] (.raw (.bool true)) := by
  obtain ⟨c, rfl, _⟩ := open_Change k0
  obtain ⟨m1, rfl, h1⟩ := open_int k1
  obtain ⟨m2, rfl, h2⟩ := open_int k2
  obtain ⟨m3, rfl, h3⟩ := open_int k3
  obtain ⟨m4, rfl, h4⟩ := open_int k4
  obtain ⟨m5, rfl, h5⟩ := open_int k5
  obtain ⟨m6, rfl, h6⟩ := open_int k6
  obtain ⟨m7, rfl, h7⟩ := open_int k7
  exact linkTruth_A c m1 m2 m3 m4 m5 m6 m7 (by simp only [List.forall_mem_cons, List.not_mem_nil, false_implies, implies_true, and_true]; exact ⟨h1, h2, h3, h4, h5, h6, h7⟩)
theorem linkTight_B {x0 x1 x2 x3 : List AV} (k0 : CellsOk tbl 30 24 x0) (k1 : CellsOk tbl 30 26 x1) (k2 : CellsOk tbl 30 27 x2) (k3 : CellsOk tbl 30 3 x3) :
    FnA Try.prog 5 [valA true x0, valA true x1, valA true x2, valA false x3] (.raw (.bool true)) := by
  obtain ⟨c, rfl, _⟩ := open_Change k0
  obtain ⟨s, rfl, h1⟩ := open_Iv k1
  obtain ⟨e, rfl, h2⟩ := open_Rg k2
  obtain ⟨n, rfl, h3⟩ := open_int k3
  exact linkTight_A c s e n h3 (by simp only [List.forall_mem_cons, List.not_mem_nil, false_implies, implies_true, and_true]; exact ⟨h1.1, h1.2, h2.1, h2.2⟩)
theorem linkNarrow_B {x0 x1 x2 x3 x4 x5 : List AV} (k0 : CellsOk tbl 30 24 x0) (k1 : CellsOk tbl 30 26 x1) (k2 : CellsOk tbl 30 27 x2) (k3 : CellsOk tbl 30 45 x3)
    (k4 : CellsOk tbl 30 44 x4) (k5 : CellsOk tbl 30 44 x5) :
    FnA Try.prog 6 [valA true x0, valA true x1, valA true x2, valA true x3, valA false x4, valA false x5] (.raw (.bool true)) := by
  obtain ⟨c, rfl, _⟩ := open_Change k0
  obtain ⟨s, rfl, h1⟩ := open_Iv k1
  obtain ⟨e, rfl, h2⟩ := open_Rg k2
  obtain ⟨b0, b1, b2, b3, rfl, h3⟩ := open_by k3
  obtain ⟨l, rfl, h4⟩ := open_u16 k4
  obtain ⟨r, rfl, h5⟩ := open_u16 k5
  exact linkNarrow_A c s e b0 b1 b2 b3 l r h3 h4 h5
theorem linkWidths_B {x0 x1 : List AV} (k0 : CellsOk tbl 30 24 x0) (k1 : CellsOk tbl 30 26 x1) :
    FnA Try.prog 7 [valA true x0, valA true x1] (.raw (.bool true)) := by
  obtain ⟨c, rfl, _⟩ := open_Change k0
  obtain ⟨s, rfl, h1⟩ := open_Iv k1
  exact linkWidths_A c s
end Go.Proofs.Yticlpcgkaffdmaa
