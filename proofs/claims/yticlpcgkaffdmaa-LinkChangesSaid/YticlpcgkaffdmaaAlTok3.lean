/- The abstract logic: what the operations of such regions ask for. -/
import Derived.Test.YticlpcgkaffdmaaAlTok2
namespace Go.Proofs.Yticlpcgkaffdmaa
set_option linter.unusedSectionVars false
set_option linter.unusedVariables false
set_option linter.unusedSimpArgs false
open Go.RowKit
theorem tn2 : Int.toNat 2 = 2 := rfl
theorem tn3 : Int.toNat 3 = 3 := rfl
theorem tn4 : Int.toNat 4 = 4 := rfl
theorem bo_nil : boxesOf [] = [] := rfl
theorem bo_pure (r : List Kd) : boxesOf (.pure :: r) = boxesOf r := rfl
theorem bo_box (cs : List AV) (r : List Kd) : boxesOf (.mk (.box cs) :: r) = cs :: boxesOf r := rfl
theorem bo_row (x : ARow) (r : List Kd) : boxesOf (.mk (.row x) :: r) = boxesOf r := rfl
theorem bo_app (j : Nat) (x : ARow) (r : List Kd) : boxesOf (.app j (.row x) :: r) = boxesOf r := rfl
theorem ft_cons (s : Nat) (e : Nat × (Bool × AV)) (es : List (Nat × (Bool × AV))) (kd : Kd) (ks : List Kd) (j : Nat) : findTok s (e :: es) (kd :: ks) j = if s = e.1 then (match kd.tk with
    | some (.row r) => some (j, r)
    | _ => none) else findTok s es ks (j + 1) := by
  rw [findTok]
  by_cases h : s = e.1
  · rw [if_pos h, h, Nat.beq_refl]; rfl
  · rw [if_neg h]
    cases hb : Nat.beq s e.1
    · rfl
    · exact absurd (Nat.eq_of_beq_eq_true hb) h
attribute [go_sem] Int.toNat_zero Int.toNat_one tn2 tn3 tn4 bo_nil bo_pure bo_box bo_row bo_app ft_cons Kd.tk
theorem freeL_appEl {n q : Nat} {el el' : Nat → List AV} (h : ∀ q, AV.freeL (el q)) (h' : ∀ q, AV.freeL (el' q)) : AV.freeL (appEl n el el' q) := by
  unfold appEl; cases Nat.blt q n
  · exact h' _
  · exact h _
theorem oneL_drop {st : ASt} : ∀ {cs : List AV} {k : Nat}, AV.oneL st cs → AV.oneL st (cs.drop k)
  | [], k, h => by simpa using h
  | c :: cs, 0, h => h
  | c :: cs, k + 1, h => by simpa using oneL_drop (k := k) h.2
theorem oneL_take {st : ASt} : ∀ {cs : List AV} {k : Nat}, AV.oneL st cs → AV.oneL st (cs.take k)
  | [], k, h => by simpa using h
  | c :: cs, 0, h => by simp [AV.oneL]
  | c :: cs, k + 1, h => ⟨h.1, oneL_take (k := k) h.2⟩
theorem oneL_chunk {st : ASt} {sz q : Nat} {cs : List AV} (h : AV.oneL st cs) : AV.oneL st (chunkA sz cs q) := oneL_take (oneL_drop h)
theorem oblF {p : Prop} (h : p := by
    first
      | exact obl
      | (intro hg
         simp only [List.forall_mem_cons, List.not_mem_nil, false_implies, implies_true, forall_const, true_and, and_true, and_self, AV.freeL, AV.free]
         (repeat' refine And.intro ?_ ?_) <;> (intro _ _; (repeat' refine freeL_appEl (fun _ => ?_) (fun _ => ?_)) <;> first | (refine freeL_chunk ?_; simp only [AV.freeL, AV.free, and_self]; done) | (simp only [go_sem, AV.freeL, AV.free, and_self]; done)))) : p := h
theorem obq {p : Prop} (h : p := by
    first
      | trivial
      | (simp only [List.forall_mem_cons, List.not_mem_nil, false_implies, implies_true, forall_const, true_and, and_true, and_self, AV.oneL, AV.one, Value.oneCell', cellsA, List.length_cons, List.length_nil, go_sem]; done)
      | (simp only [List.forall_mem_cons, List.not_mem_nil, false_implies, implies_true, forall_const, true_and, and_true, and_self, AV.oneL, AV.one, Value.oneCell', cellsA, List.length_cons, List.length_nil, go_sem]; omega)
      | (intro _ _; first | (refine oneL_chunk ?_; simp only [AV.oneL, AV.one, Value.oneCell', and_self]; done) | (simp only [go_sem, AV.oneL, AV.one, Value.oneCell', and_self]; done))
      | (simp only [maxLen]; omega)
      | (simp [AV.oneL, AV.one, Value.oneCell', cellsA]; done)) : p := h
end Go.Proofs.Yticlpcgkaffdmaa
