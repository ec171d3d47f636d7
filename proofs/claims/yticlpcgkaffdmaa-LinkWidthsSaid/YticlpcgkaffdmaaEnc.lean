/- Values of the program's types, as abstract values. -/
import Derived.Test.YticlpcgkaffdmaaTbl
namespace Go.Proofs.Yticlpcgkaffdmaa
set_option linter.unusedSectionVars false
set_option linter.unusedVariables false
set_option linter.unusedSimpArgs false
open Go.RowKit
def gD {α : Type} [Inhabited α] (l : List α) (i : Nat) : α := l.getD i default
theorem gD_eq {α : Type} [Inhabited α] {l : List α} {i : Nat} (h : i < l.length) : gD l i = l[i] := by simp [gD, h]
structure Change where
  at_ : Int
  outLo : Int
  outHi : Int
  backLo : Int
  backHi : Int
  deriving Inhabited, DecidableEq
def Change.c (c : Change) : List AV := [.raw (.int .i64 c.at_), .raw (.int .i64 c.outLo), .raw (.int .i64 c.outHi), .raw (.int .i64 c.backLo), .raw (.int .i64 c.backHi)]
def chL (l : List Change) : AV := .lst 5 l.length fun i => (gD l i).c
structure Iv where
  lo : Int
  hi : Int
  deriving Inhabited, DecidableEq
def Iv.c (c : Iv) : List AV := [.raw (.int .i64 c.lo), .raw (.int .i64 c.hi)]
attribute [go_sem] Change.c Iv.c
end Go.Proofs.Yticlpcgkaffdmaa
