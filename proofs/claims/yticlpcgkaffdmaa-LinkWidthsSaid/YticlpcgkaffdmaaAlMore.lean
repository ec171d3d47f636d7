/- The abstract logic: ways that meet again. -/
import Derived.Test.YticlpcgkaffdmaaAlSet
namespace Go.Proofs.Yticlpcgkaffdmaa
set_option linter.unusedSectionVars false
set_option linter.unusedVariables false
set_option linter.unusedSimpArgs false
open Go.RowKit
/-- Where ways meet again: what is known of each of them is brought down to one state. -/
theorem wpA_join {P : Program} {Q : Exit → ASt → Prop} {st : ASt} {x y : Code} (st1 : ASt) (h : wpA P x (thenA (fun s => Weak s st1) Q) st) (h2 : wpA P y Q st1) : wpA P x (thenA (wpA P y Q) Q) st :=
  wpA_mono h fun e s hq => by cases e <;> first | exact wpA_weak hq h2 | exact hq
end Go.Proofs.Yticlpcgkaffdmaa
