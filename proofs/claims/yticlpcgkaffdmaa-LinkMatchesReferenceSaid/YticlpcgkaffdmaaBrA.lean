/- The statement LinkMatchesReference, for arguments as they are read. -/
import Derived.Test.YticlpcgkaffdmaaLawD
import Derived.Test.YticlpcgkaffdmaaOpen10
namespace Go.Proofs.Yticlpcgkaffdmaa
set_option linter.unusedVariables false
set_option linter.unusedSimpArgs false
set_option linter.unusedSectionVars false
open Go.RowKit
theorem linkMatchesReference_B {x0 x1 x2 x3 x4 : List AV} (k0 : CellsOk tbl 30 22 x0) (k1 : CellsOk tbl 30 24 x1) (k2 : CellsOk tbl 30 26 x2) (k3 : CellsOk tbl 30 26 x3) (k4 : CellsOk tbl 30 27 x4) :
    FnA Try.prog 3 [valA false x0, valA true x1, valA true x2, valA true x3, valA true x4] (.raw (.bool true)) := by
  obtain ⟨l, h0, _⟩ := open_Changes k0
  obtain ⟨c, rfl, _⟩ := open_Change k1
  obtain ⟨i, rfl, _⟩ := open_Iv k2
  obtain ⟨s, rfl, _⟩ := open_Iv k3
  obtain ⟨e, rfl, _⟩ := open_Rg k4
  exact (linkMatchesReference_A l c i s e).sub fun G w vs ⟨v, r, e, h1, h2⟩ => ⟨v, r, e, h0 _ _ _ h1, h2⟩
end Go.Proofs.Yticlpcgkaffdmaa
