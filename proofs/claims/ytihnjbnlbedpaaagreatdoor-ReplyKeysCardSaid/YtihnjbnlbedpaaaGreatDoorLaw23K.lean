/- The statement ReplyKeys: the plain law. -/
import Derived.Test.YtihnjbnlbedpaaaGreatDoorOp23
namespace Go.Proofs.YtihnjbnlbedpaaaGreatDoor
set_option linter.unusedVariables false
set_option linter.unusedSimpArgs false
set_option maxHeartbeats 4000000
set_option maxRecDepth 100000
open Go.RowKit
def holdsK (r : Reply) (k : KeyWin) : Prop := k.auth = r.auth ∧ k.id = r.key ∧ k.from_ ≤ r.stamp.lo ∧ r.stamp.hi < k.until_
instance (r : Reply) (k : KeyWin) : Decidable (holdsK r k) := by unfold holdsK; infer_instance
/-- A reply that is right has a key that holds. -/
theorem right_holds {l : List KeyWin} {r : Reply} (h : rightM l r = true) : ∃ i, i < l.length ∧ holdsK r (l.getD i default) := by
  unfold rightM at h
  simp only [Bool.and_eq_true, decide_eq_true_eq] at h
  have h1 := h.1
  unfold pubM at h1
  split at h1
  · split at h1
    · rename_i hf
      simp only [foundM, Bool.and_eq_true, decide_eq_true_eq] at hf
      split at h1
      · exact absurd h1 (by decide)
      · rename_i hw
        have he := (cmpK_eq _ _ _).1 hf.2
        exact ⟨_, hf.1, he.1, he.2, by omega, by omega⟩
    · exact absurd h1 (by decide)
  · exact absurd h1 (by decide)
/-- A loop that looks for one: what it knows after some. -/
def anyK (r : Reply) (l : List KeyWin) (k : Nat) : Bool := (l.take k).any fun x => decide (holdsK r x)
theorem anyK_succ {r : Reply} {l : List KeyWin} {k : Nat} (h : k < l.length) : anyK r l (k + 1) = (anyK r l k || decide (holdsK r (l.getD k default))) := by
  unfold anyK
  rw [List.take_succ_eq_append_getElem h, List.any_append, getD_get h]
  simp
theorem anyK_all {r : Reply} {l : List KeyWin} (h : ∃ i, i < l.length ∧ holdsK r (l.getD i default)) : anyK r l l.length = true := by
  obtain ⟨i, hi, hh⟩ := h
  unfold anyK
  rw [List.take_length, List.any_eq_true]
  refine ⟨l.getD i default, ?_, by simpa using hh⟩
  rw [getD_get hi]
  exact List.getElem_mem _
end Go.Proofs.YtihnjbnlbedpaaaGreatDoor
