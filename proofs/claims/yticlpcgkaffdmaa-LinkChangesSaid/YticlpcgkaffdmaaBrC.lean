/- The statement LinkChanges, for arguments as they are read. -/
import Derived.Test.YticlpcgkaffdmaaLawJ
import Derived.Test.YticlpcgkaffdmaaOpen10
namespace Go.Proofs.Yticlpcgkaffdmaa
set_option linter.unusedSectionVars false
set_option linter.unusedVariables false
set_option linter.unusedSimpArgs false
open Go.RowKit
theorem linkChanges_B {x0 x1 x2 x3 : List AV} (k0 : CellsOk tbl 30 22 x0) (k1 : CellsOk tbl 30 26 x1) (k2 : CellsOk tbl 30 3 x2) (k3 : CellsOk tbl 30 24 x3) :
    FnA Try.prog 8 [valA false x0, valA true x1, valA false x2, valA true x3] (.raw (.bool true)) := by
  obtain ⟨l, h0, _⟩ := open_Changes k0
  obtain ⟨i, rfl, _⟩ := open_Iv k1
  obtain ⟨n, rfl, hn⟩ := open_int k2
  obtain ⟨c, rfl, _⟩ := open_Change k3
  exact (linkChanges_A l i n c hn).sub fun G w vs ⟨v, r, e, h1, h2⟩ => ⟨v, r, e, h0 _ _ _ h1, h2⟩
end Go.Proofs.Yticlpcgkaffdmaa
