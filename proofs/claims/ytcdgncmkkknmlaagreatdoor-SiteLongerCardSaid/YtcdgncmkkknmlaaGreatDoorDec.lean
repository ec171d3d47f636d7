/- The reference's numerals and texts, and the functions of its layer 6. -/
import Derived.Test.YtcdgncmkkknmlaaGreatDoorRef
namespace Go.Proofs.YtcdgncmkkknmlaaGreatDoor
set_option linter.unusedVariables false
set_option linter.unusedSimpArgs false
set_option maxHeartbeats 4000000
set_option maxRecDepth 100000
open Go.RowKit
theorem u8wrap {n : Int} (h : 0 ≤ n ∧ n ≤ 255) : IntKind.u8.wrap n = n := inK_wrap (k := .u8) h
theorem strOne {k : Int} (h : 0 ≤ k ∧ k ≤ 255) : strOf 1 (chunkA 1 [.raw (.int .u8 (IntKind.u8.wrap k))]) = ⟨[UInt8.ofNat k.toNat].toArray⟩ := by
  rw [u8wrap h]; exact strOf_one k _ rfl
theorem itoa_nn (n : Int) (h : 0 ≤ n) : Lib.itoa n = Lib.decDigits n.toNat := by rw [Lib.itoa, if_neg (by omega)]
theorem itoa_ng (n : Int) (h : n < 0) : Lib.itoa n = 45 :: Lib.decDigits n.natAbs := by rw [Lib.itoa, if_pos h]
/-- The text of integers, of a list. -/
def txtL (l : List Int) : List UInt8 := (l.map fun n => Lib.itoa n ++ [32]).flatten
theorem txtL_snoc (l : List Int) (n : Int) : txtL (l ++ [n]) = txtL l ++ (Lib.itoa n ++ [32]) := by simp [txtL]
def okI (l : List Int) : Prop := ∀ n ∈ l, inK .i64 n
theorem okI_getD {l : List Int} (h : okI l) {k : Nat} (hk : k < l.length) : inK .i64 (l.getD k 0) := by
  rw [List.getD_eq_getElem?_getD, List.getElem?_eq_getElem hk]; exact h _ (List.getElem_mem hk)
theorem txtL_length {l : List Int} (h : okI l) : (txtL l).length ≤ 22 * l.length := by
  induction l with
  | nil => simp [txtL]
  | cons n l ih =>
    have h1 := h n (by simp)
    simp only [inK] at h1
    have h2 := Lib.itoa_length_le n h1.1 h1.2
    have h3 := ih fun m hm => h m (by simp [hm])
    simp only [txtL, List.map_cons, List.flatten_cons, List.length_append, List.length_cons, List.length_nil] at h3 ⊢
    omega
theorem take_succ_getD (l : List Int) {k : Nat} (hk : k < l.length) : l.take (k + 1) = l.take k ++ [l.getD k 0] := by
  rw [List.take_succ_eq_append_getElem hk, List.getD_eq_getElem?_getD, List.getElem?_eq_getElem hk]; rfl
end Go.Proofs.YtcdgncmkkknmlaaGreatDoor
