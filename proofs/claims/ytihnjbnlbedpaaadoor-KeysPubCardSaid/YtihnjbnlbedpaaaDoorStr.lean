/- strconv.AppendInt of this program, by the shelf. -/
import Derived.Test.YtihnjbnlbedpaaaDoorW
import Derived.Shelf.Strconv.AppendIntPublic10
namespace Go.Proofs.YtihnjbnlbedpaaaDoor
set_option linter.unusedVariables false
set_option linter.unusedSimpArgs false
set_option maxHeartbeats 4000000
set_option maxRecDepth 100000
open Go.Shelf Go.RowKit
def laysAI_ren : Go.Shelf.Ren := ⟨fun | 176 => 129 | 249 => 131 | 288 => 133 | 283 => 135 | 284 => 136 | 285 => 137 | 286 => 138 | 129 => 140 | 317 => 139 | 318 => 141 | 319 => 142 | 320 => 143 | 337 => 144 | 338 => 145 | n => n, fun | 37 => 127 | 2 => 2 | 3 => 3 | 53 => 52 | 4 => 4 | 9 => 9 | 171 => 164 | 0 => 0 | 173 => 167 | 212 => 170 | 51 => 171 | 5 => 5 | 20 => 20 | 213 => 172 | 46 => 107 | 232 => 175 | 233 => 176 | n => n, fun | 17 => 0 | 18 => 1 | 19 => 2 | n => n⟩
theorem laysAI : Go.Proofs.LaysM.n176 Tryd.prog laysAI_ren := {
  mixed := by kernel_rfl
  f129 := Tryd.func140.trans (congrArg some (by kernel_rfl))
  f176 := Tryd.func129.trans (congrArg some (by kernel_rfl))
  f249 := Tryd.func131.trans (congrArg some (by kernel_rfl))
  f283 := Tryd.func135.trans (congrArg some (by kernel_rfl))
  f284 := Tryd.func136.trans (congrArg some (by kernel_rfl))
  f285 := Tryd.func137.trans (congrArg some (by kernel_rfl))
  f286 := Tryd.func138.trans (congrArg some (by kernel_rfl))
  f288 := Tryd.func133.trans (congrArg some (by kernel_rfl))
  f317 := Tryd.func139.trans (congrArg some (by kernel_rfl))
  f318 := Tryd.func141.trans (congrArg some (by kernel_rfl))
  f319 := Tryd.func142.trans (congrArg some (by kernel_rfl))
  f320 := Tryd.func143.trans (congrArg some (by kernel_rfl))
  f337 := Tryd.func144.trans (congrArg some (by kernel_rfl))
  f338 := Tryd.func145.trans (congrArg some (by kernel_rfl))
  t0 := Tryd.underlying0
  a0 := Tryd.isAgg0
  z0 := Tryd.sizeOf0
  v0 := Tryd.zeroValue0
  t2 := Tryd.underlying2
  a2 := Tryd.isAgg2
  z2 := Tryd.sizeOf2
  v2 := Tryd.zeroValue2
  t3 := Tryd.underlying3
  a3 := Tryd.isAgg3
  z3 := Tryd.sizeOf3
  v3 := Tryd.zeroValue3
  t4 := Tryd.underlying4
  a4 := Tryd.isAgg4
  z4 := Tryd.sizeOf4
  v4 := Tryd.zeroValue4
  t5 := Tryd.underlying5
  a5 := Tryd.isAgg5
  z5 := Tryd.sizeOf5
  v5 := Tryd.zeroValue5
  t9 := Tryd.underlying9
  a9 := Tryd.isAgg9
  z9 := Tryd.sizeOf9
  v9 := Tryd.zeroValue9
  t20 := Tryd.underlying20
  a20 := Tryd.isAgg20
  z20 := Tryd.sizeOf20
  v20 := Tryd.zeroValue20
  t37 := Tryd.underlying127
  a37 := Tryd.isAgg127
  z37 := Tryd.sizeOf127
  v37 := Tryd.zeroValue127
  t46 := Tryd.underlying107
  a46 := Tryd.isAgg107
  z46 := Tryd.sizeOf107
  v46 := Tryd.zeroValue107
  t51 := Tryd.underlying171
  a51 := Tryd.isAgg171
  z51 := Tryd.sizeOf171
  v51 := Tryd.zeroValue171
  t53 := Tryd.underlying52
  a53 := Tryd.isAgg52
  z53 := Tryd.sizeOf52
  v53 := Tryd.zeroValue52
  t171 := Tryd.underlying164
  a171 := Tryd.isAgg164
  z171 := Tryd.sizeOf164
  v171 := Tryd.zeroValue164
  t173 := Tryd.underlying167
  a173 := Tryd.isAgg167
  z173 := Tryd.sizeOf167
  v173 := Tryd.zeroValue167
  t212 := Tryd.underlying170
  a212 := Tryd.isAgg170
  z212 := Tryd.sizeOf170
  v212 := Tryd.zeroValue170
  t213 := Tryd.underlying172
  a213 := Tryd.isAgg172
  z213 := Tryd.sizeOf172
  t232 := Tryd.underlying175
  a232 := Tryd.isAgg175
  z232 := Tryd.sizeOf175
  v232 := Tryd.zeroValue175
  t233 := Tryd.underlying176
  a233 := Tryd.isAgg176
  z233 := Tryd.sizeOf176
  v233 := Tryd.zeroValue176
  g17 := by kernel_rfl
  g18 := by kernel_rfl
  g19 := by kernel_rfl
  i0 := by kernel_rfl
  i2 := by kernel_rfl
  i3 := by kernel_rfl
  i4 := by kernel_rfl
  i5 := by kernel_rfl
  i9 := by kernel_rfl
  i20 := by kernel_rfl
  i37 := by kernel_rfl
  i46 := by kernel_rfl
  i51 := by kernel_rfl
  i53 := by kernel_rfl
  i171 := by kernel_rfl
  i173 := by kernel_rfl
  i212 := by kernel_rfl
  i232 := by kernel_rfl
  i233 := by kernel_rfl
  m17 := by kernel_rfl
  m18 := by kernel_rfl
  m19 := by kernel_rfl }
theorem appendInt (B n : Nat) (i : Int) (h0 : -9223372036854775808 ≤ i) (h1 : i ≤ 9223372036854775807) (sv : Value) (xs : List Value) (w : World) (hown : w.ownsRow B 5 1 sv n xs) (hBw : B ≤ w.heap.size) (hlim : n + 21 ≤ 140737488355328)
    (htab : Lib.TabBelow Tryd.prog B w "internal/strconv.uint64pow10" .u64 Lib.pow10Tab) :
    Calls Tryd.prog 129 #[sv, .int .i64 i, .int .i64 10] w fun e w' => ∃ v', e = .returned v' ∧ w'.ownsRow B 5 1 v' (n + (Lib.itoa i).length) (xs ++ Lib.byteCells (Lib.itoa i)) ∧ RowKit.Below B w w' ∧ Lib.OthersKept 5 none w w' := Any.strconv_AppendInt_10 laysAI B n i h0 h1 sv xs w hown hBw hlim htab
end Go.Proofs.YtihnjbnlbedpaaaDoor
