import Derived.Test.YtioaahmkebojiaaGreatDoorWC01
import Derived.BigCall
import Derived.Lib.AppendIntMem
import Derived.Lib.Hide
import Derived.Lib.ItoaLen
import Derived.Lib.Slices
import Derived.OwnWalk
import Derived.Shelf.Strconv.AppendIntPublic10
import Derived.WalkKit
import Derived.Test.YtioaahmkebojiaaGreatDoorWC06
import Derived.Test.YtioaahmkebojiaaGreatDoorWC10
namespace Go.Proofs.YtioaahmkebojiaaGreatDoor
open Tryz
set_option linter.unusedVariables false
set_option linter.unusedSimpArgs false
set_option maxHeartbeats 4000000
set_option maxRecDepth 100000
open Go.Shelf Go.RowKit
def laysAI_ren : Go.Shelf.Ren := ⟨fun | 176 => 320 | 249 => 344 | 288 => 357 | 283 => 362 | 284 => 363 | 285 => 364 | 286 => 365 | 129 => 307 | 317 => 367 | 318 => 368 | 319 => 369 | 320 => 370 | 337 => 379 | 338 => 380 | n => n, fun | 37 => 41 | 2 => 2 | 3 => 3 | 53 => 141 | 4 => 4 | 9 => 9 | 171 => 489 | 0 => 0 | 173 => 491 | 212 => 495 | 51 => 443 | 5 => 5 | 20 => 20 | 213 => 496 | 46 => 370 | 232 => 504 | 233 => 505 | n => n, fun | 17 => 2 | 18 => 3 | 19 => 4 | n => n⟩
theorem laysAI : Go.Proofs.LaysM.n176 Tryz.prog laysAI_ren := {
  mixed := by kernel_rfl
  f129 := Tryz.func307.trans (congrArg some (by kernel_rfl))
  f176 := Tryz.func320.trans (congrArg some (by kernel_rfl))
  f249 := Tryz.func344.trans (congrArg some (by kernel_rfl))
  f283 := Tryz.func362.trans (congrArg some (by kernel_rfl))
  f284 := Tryz.func363.trans (congrArg some (by kernel_rfl))
  f285 := Tryz.func364.trans (congrArg some (by kernel_rfl))
  f286 := Tryz.func365.trans (congrArg some (by kernel_rfl))
  f288 := Tryz.func357.trans (congrArg some (by kernel_rfl))
  f317 := Tryz.func367.trans (congrArg some (by kernel_rfl))
  f318 := Tryz.func368.trans (congrArg some (by kernel_rfl))
  f319 := Tryz.func369.trans (congrArg some (by kernel_rfl))
  f320 := Tryz.func370.trans (congrArg some (by kernel_rfl))
  f337 := Tryz.func379.trans (congrArg some (by kernel_rfl))
  f338 := Tryz.func380.trans (congrArg some (by kernel_rfl))
  t0 := Tryz.underlying0
  a0 := Tryz.isAgg0
  z0 := Tryz.sizeOf0
  v0 := Tryz.zeroValue0
  t2 := Tryz.underlying2
  a2 := Tryz.isAgg2
  z2 := Tryz.sizeOf2
  v2 := Tryz.zeroValue2
  t3 := Tryz.underlying3
  a3 := Tryz.isAgg3
  z3 := Tryz.sizeOf3
  v3 := Tryz.zeroValue3
  t4 := Tryz.underlying4
  a4 := Tryz.isAgg4
  z4 := Tryz.sizeOf4
  v4 := Tryz.zeroValue4
  t5 := Tryz.underlying5
  a5 := Tryz.isAgg5
  z5 := Tryz.sizeOf5
  v5 := Tryz.zeroValue5
  t9 := Tryz.underlying9
  a9 := Tryz.isAgg9
  z9 := Tryz.sizeOf9
  v9 := Tryz.zeroValue9
  t20 := Tryz.underlying20
  a20 := Tryz.isAgg20
  z20 := Tryz.sizeOf20
  v20 := Tryz.zeroValue20
  t37 := Tryz.underlying41
  a37 := Tryz.isAgg41
  z37 := Tryz.sizeOf41
  v37 := Tryz.zeroValue41
  t46 := Tryz.underlying370
  a46 := Tryz.isAgg370
  z46 := Tryz.sizeOf370
  v46 := Tryz.zeroValue370
  t51 := Tryz.underlying443
  a51 := Tryz.isAgg443
  z51 := Tryz.sizeOf443
  v51 := Tryz.zeroValue443
  t53 := Tryz.underlying141
  a53 := Tryz.isAgg141
  z53 := Tryz.sizeOf141
  v53 := Tryz.zeroValue141
  t171 := Tryz.underlying489
  a171 := Tryz.isAgg489
  z171 := Tryz.sizeOf489
  v171 := Tryz.zeroValue489
  t173 := Tryz.underlying491
  a173 := Tryz.isAgg491
  z173 := Tryz.sizeOf491
  v173 := Tryz.zeroValue491
  t212 := Tryz.underlying495
  a212 := Tryz.isAgg495
  z212 := Tryz.sizeOf495
  v212 := Tryz.zeroValue495
  t213 := Tryz.underlying496
  a213 := Tryz.isAgg496
  z213 := Tryz.sizeOf496
  t232 := Tryz.underlying504
  a232 := Tryz.isAgg504
  z232 := Tryz.sizeOf504
  v232 := Tryz.zeroValue504
  t233 := Tryz.underlying505
  a233 := Tryz.isAgg505
  z233 := Tryz.sizeOf505
  v233 := Tryz.zeroValue505
  g17 := by kernel_rfl
  g18 := by kernel_rfl
  g19 := by kernel_rfl
  i0 := by kernel_rfl
  i2 := by kernel_rfl
  i3 := by kernel_rfl
  i4 := by kernel_rfl
  i5 := by kernel_rfl
  i9 := by kernel_rfl
  i20 := by kernel_rfl
  i37 := by kernel_rfl
  i46 := by kernel_rfl
  i51 := by kernel_rfl
  i53 := by kernel_rfl
  i171 := by kernel_rfl
  i173 := by kernel_rfl
  i212 := by kernel_rfl
  i232 := by kernel_rfl
  i233 := by kernel_rfl
  m17 := by kernel_rfl
  m18 := by kernel_rfl
  m19 := by kernel_rfl }
theorem zTp (B n : Nat) (i : Int) (h0 : -9223372036854775808 ≤ i) (h1 : i ≤ 9223372036854775807) (sv : Value) (xs : List Value) (w : World) (hown : w.ownsRow B 5 1 sv n xs) (hBw : B ≤ w.heap.size) (hlim : n + 21 ≤ 140737488355328)
  (htab : Lib.TabBelow Tryz.prog B w "internal/strconv.uint64pow10" .u64 Lib.pow10Tab) :
  Calls Tryz.prog 320 #[sv, .int .i64 i, .int .i64 10] w fun e w' => ∃ v', e = .returned v' ∧ w'.ownsRow B 5 1 v' (n + (Lib.itoa i).length) (xs ++ Lib.byteCells (Lib.itoa i)) ∧ RowKit.Below B w w' ∧ Lib.OthersKept 5 none w w' := Any.strconv_AppendInt_10 laysAI B n i h0 h1 sv xs w hown hBw hlim htab
def txt (x : Nat → Int) : Nat → List UInt8
 | 0 => []
 | k + 1 => txt x k ++ (Lib.itoa (x k) ++ [32])
theorem zC7 (x : Nat → Int) : ∀ k, (∀ q, q < k → -9223372036854775808 ≤ x q ∧ x q ≤ 9223372036854775807) → (txt x k).length ≤ k * 22
 | 0, _ => yMj _
 | k + 1, h => by
  have h1 := zC7 x k fun q hq => h q oq
  have h2 := Lib.itoa_length_le (x k) (h k oq).1 (h k oq).2
  simp only [txt, yN1, yMy, yO4]
  omega
theorem zWb : (Tryz.prog.info? 5).map (fun i => (i.zero, i.size, i.bytes)) = some (some (.int .u8 0), 1, 1) := by kernel_rfl
set_option maxHeartbeats 6400000 in
set_option maxRecDepth 100000 in
theorem zOr (x : Nat → Int) (n b o cap : Nat) (h : ∀ q, q < n → -9223372036854775808 ≤ x q ∧ x q ≤ 9223372036854775807) (hn : n ≤ 1000000) (w : World) (hc : ∀ q, q < n → w.cell? ⟨b, o + q, none⟩ = some (.int .i64 (x q))) (hb : b < w.heap.size)
  (htab : Lib.TabIs Tryz.prog w "internal/strconv.uint64pow10" .u64 Lib.pow10Tab) :
  Calls Tryz.prog 270 #[.slice none 0 0, .slice (some ⟨b, o, none⟩) n cap] w fun e w' => ∃ v', e = .returned v' ∧ w'.ownsRow w.heap.size 5 1 v' (txt x n).length (Lib.byteCells (txt x n)) ∧ Below w.heap.size w w' := by
 obtain ⟨i0, hi, hz0, hz1, hz2⟩ := info_parts zWb
 have hT := Lib.tabBelow_of_tabIs htab
 go_enter func270, ntmps270
 go_wp2
 go_loopw [0, 9] (fun v i wr => ∃ k : Nat, k ≤ n ∧ i = .int .i64 k ∧ wr.ownsRow w.heap.size 5 1 v (txt x k).length (Lib.byteCells (txt x k)) ∧ Below w.heap.size w wr) (fun _ i _ => n - (intOf i).toNat)
 case atStart => exact ⟨0, yMh _, rfl, World.ownsRow_nil _ _ _ _, Below.refl _ _⟩
 case round =>
  obtain ⟨k, hk, rfl, hown, hnx⟩ := hrel
  have hcx : k < n → wr.cell? ⟨b, o + k, none⟩ = some (.int .i64 (x k)) := fun hlt => (hnx.cell (by exact hb)).trans (hc k hlt)
  have hlen := zC7 x k fun q hq => h q oq
  have hsz := hnx.size
  by_cases hlt : k < n
  ·have hcx := hcx hlt
   have hitl := Lib.itoa_length_le (x k) (h k hlt).1 (h k hlt).2
   go_wp2_with (go_at_call 320; go_loud (refine (zTp w.heap.size _ (x k) (h k hlt).1 (h k hlt).2 _ _ _ hown hsz oq (hT.on hnx)).mono ?_); rintro e w1 ⟨v1, rfl, hown1, hnx1, -⟩; refine Hid.out ?_)
   refine Lib.hid ?_
   have hnx2 := hnx.trans hnx1
   have hsz2 := hnx2.size
   go_wp2_with (at_builtin; refine wpList_append_own _ rfl _ _ 41 rfl w.heap.size 5 i0 (.int .u8 0) 1 1 Tryz.underlying41 hi hz0 hz1 hz2 rfl dq _ _ _ rfl (hown1.alloc _) ⟨w1.heap.size, 0, none⟩ 1 1 [Value.int .u8 32] rfl rfl ?c1 ?c2 ?c3 ?c4 ?c5 ?_)
   case c1 =>
    intro j u hj
    match j, hj with
    | 0, hj => simp at hj; subst hj; simp [Addr.add]
   case c2 => intro u hu; simp at hu; subst hu; rfl
   case c3 => unfold maxLen; omega
   case c4 => omega
   case c5 => simp; omega
   intro v2 w2 hown2 hgrow _
   have hnx3 : Below w.heap.size w w2 := (hnx2.alloc hsz2 _).grown hgrow (by simp; omega) (fun q hq => (hown1.lt q hq).1)
   have eL : Lib.byteCells (txt x k) ++ (Lib.byteCells (Lib.itoa (x k)) ++ [Value.int .u8 32]) = Lib.byteCells (txt x (k + 1)) := by simp [txt, Lib.byteCells]
   have eN : (txt x k).length + (Lib.itoa (x k)).length + 1 = (txt x (k + 1)).length := by simp only [txt, yN1, yMy, yO4]; omega
   rw [eL, eN] at hown2
   have HN := Lib.hid eN
   clear eL eN
   go_wp2
   go_roundw
   case rel => exact ⟨k + 1, by omega, by go_num, hown2, hnx3⟩
   case measure => simp [intOf]; omega
  ·have hkn : k = n := by omega
   subst hkn
   go_wp2
   go_ret
   exact ⟨_, rfl, hown, hnx⟩
def zYg (n : Nat) (x : Nat → Int) : AV := .lst 1 n fun q => [.raw (.int .i64 (x q))]
def zTg (l : List UInt8) : AV := .lst 1 l.length fun q => [.raw (.int .u8 ((l.getD q 0).toNat : Int))]
theorem zCd (x : Nat → Int) (n : Nat) (h : ∀ q, q < n → -9223372036854775808 ≤ x q ∧ x q ≤ 9223372036854775807) (h0 : 0 < n) (hn : n ≤ 1000000) :
  FnA Tryz.prog 270 [.raw (.slice none 0 0), zYg n x] (zTg (txt x n)) := by
 refine ⟨⟨_, func270, by kernel_rfl, by kernel_rfl⟩, fun imm w vs htb hi hr => ?_⟩
 obtain ⟨v1, r1, rfl, e1, v2, r2, rfl, e2, rfl⟩ := hr
 obtain ⟨A, cap, rfl, _, _, hA⟩ := e2
 obtain ⟨b, o, rfl, hel⟩ := hA h0
 rw [show v1 = .slice none 0 0 from e1]
 have hc : ∀ q, q < n → w.cell? ⟨b, o + q, none⟩ = some (.int .i64 (x q)) := fun q hq => by
  obtain ⟨vs, hv, _, h3⟩ := hel q hq
  obtain ⟨v, r, rfl, ev, rfl⟩ := hv
  have := (h3 0 v rfl).2
  rw [show v = .int .i64 (x q) from ev] at this
  simpa using this
 have hb : b < w.heap.size := World.block_lt_of_cell? w ⟨b, o + 0, none⟩ (hc 0 h0)
 have htab : Lib.TabIs Tryz.prog w "internal/strconv.uint64pow10" .u64 Lib.pow10Tab := htb.1 _ (by unfold zGj; kernel_rfl : zGj Tryz.prog 2)
 refine (zOr x n b o cap h hn w hc hb htab).mono ?_
 rintro e w' ⟨v', rfl, hown, hbel⟩
 have hpos : 0 < (txt x n).length := by
  obtain ⟨m, rfl⟩ : ∃ m, n = m + 1 := ⟨n - 1, by omega⟩
  simp only [txt, yN1, yMy, yO4]; omega
 obtain ⟨hl, ho⟩ := id hown
 rcases ho with ⟨_, ho⟩ | ⟨g, cap', cur, rfl, hg, hh, hcap, hmax, hcs, htake⟩
 ·omega
 have hcell : ∀ q, q < (txt x n).length → w'.cell? ⟨g, q, none⟩ = some (.int .u8 (((txt x n).getD q 0).toNat : Int)) := fun q hq => by
  have := hown.cells (g := g) rfl q (.int .u8 (((txt x n).getD q 0).toNat : Int)) (by simp [Lib.byteCells, hq])
  have hadd : (⟨g, 0, none⟩ : Addr).add q = ⟨g, q, none⟩ := by
   unfold Addr.add; split
   ·rename_i h0; rw [h0]
   ·simp
  rwa [hadd] at this
 refine ⟨_, fun b o => imm b o ∨ (b = g ∧ o < (txt x n).length), rfl, hbel, fun _ _ i => .inl i, fun b o i => i.elim .inl fun i => .inr oq, fun b o i => ?_, ?_⟩
 ·rcases i with i | ⟨rfl, i⟩
  ·have h1 := hi b o i
   have hlt : b < w.heap.size := by
    cases hcc : w.cell? ⟨b, o, none⟩ with
    | none => rw [hcc] at h1; cases h1
    | some u => exact World.block_lt_of_cell? w ⟨b, o, none⟩ hcc
   rw [hbel.cell (p := ⟨b, o, none⟩) hlt]; exact h1
  ·rw [hcell o i]; rfl
 ·refine ⟨_, _, rfl, hcap, hmax, fun _ => ⟨g, 0, rfl, fun i hi => ⟨[.int .u8 (((txt x n).getD i 0).toNat : Int)], ⟨_, _, rfl, rfl, rfl⟩, rfl, fun j u hj => ?_⟩⟩⟩
  have hj0 : j = 0 := by
   rcases j with _ | j
   ·rfl
   ·simp at hj
  subst hj0
  simp only [yMb, yMc] at hj
  subst hj
  refine ⟨.inr ⟨rfl, by omega⟩, ?_⟩
  rw [show 0 + i * 1 + 0 = i from by omega]
  exact hcell i hi
open Go.RowKit
def fnv (x : Nat → Int) : Nat → Int
 | 0 => 14695981039346656037
 | k + 1 => IntKind.u64.wrap (zF9 .xor .u64 (fnv x k) (IntKind.u64.wrap (x k)) * 1099511628211)
theorem zOt (l : List UInt8) (hl : l.length ≤ 1000000000) : FnA Tryz.prog 269 [zTg l] (.raw (.int .u64 (fnv (fun q => ((l.getD q 0).toNat : Int)) l.length))) := by
 unfold zTg
 refine en func269 ntmps269 [.tmp 2] rfl ?_
 try (refine wg ?_; try refine sM fun K hK => ?_)
 refine zP (fun k : Nat => ⟨20, 0, [(3, true, .raw (.int .u64 (fnv (fun q => ((l.getD q 0).toNat : Int)) k))), (6, true, .lst 1 l.length fun q => [.raw (.int .u8 ((l.getD q 0).toNat : Int))]), (7, true, .raw (.int .i64 l.length)), (8, true, .raw (.int .i64 k))], [], [], ((0, []), [], true)⟩)
  (fun k => k ≤ l.length) (fun k => l.length - k) 0 ?_ oq ?_
 ·refine xT.sl ?_
  (try simp only [zB6, zL, ↓reduceIte, Nat.reduceEqDiff, yOi, yMv, yMc, yMu, AV.raw.injEq, Value.int.injEq, Value.bool.injEq])
  all_goals ((repeat' apply And.intro) <;> first | rfl | omega | (simp; done))
 ·rintro k hk
  try (refine wg ?_; try refine sM fun K hK => ?_)
  refine zB ⟨_, evl, ?_, ?_⟩
  ·intro hlt
   simp only [yNk] at hlt
   try (refine wg ?_; try refine sM fun K hK => ?_)
   refine ⟨k + 1, by omega, by omega, ?_⟩
   ·refine xT.mk rfl ?_ ?_
    rotate_left
    ·simp [zU7, zFk, AV.bel, AV.belL, go_sem]
    (try simp only [zB6, zL, ↓reduceIte, Nat.reduceEqDiff, yOi, yMv, yMc, yMu, AV.raw.injEq, Value.int.injEq, Value.bool.injEq])
    all_goals ((repeat' apply And.intro) <;> first | rfl | omega | (simp; done))
  ·intro hge
   simp only [yOo] at hge
   try (refine wg ?_; try refine sM fun K hK => ?_)
   refine rq ?_ ?_
   ·rw [show k = l.length from by omega]
   ·simp [AV.free]
def fnvL (l : List UInt8) : Int := fnv (fun q => ((l.getD q 0).toNat : Int)) l.length
def yBn (n : Nat) (x : Nat → Int) : Prop := ∀ q, q < n → -9223372036854775808 ≤ x q ∧ x q ≤ 9223372036854775807
theorem yBp (n : Nat) (x : Nat → Int) (h : yBn n x) (h0 : 0 < n) (hn : n ≤ 1000000) : FnA Tryz.prog 206 [zYg n x] (.raw (.int .u64 (fnvL (txt x n)))) := by
 have hl : (txt x n).length ≤ 1000000000 := by have := zC7 x n h; omega
 refine en func206 ntmps206 [.tmp 2] rfl ?_
 unfold zYg
 repeat
  first
   | (refine zG (hK _ ?_); clear hK K)
   | refine stG ?_
   | (refine yO 1 rfl ?_; refine yD rfl rfl ⟨_, evl, _, _, _, evl, wW, ?_⟩; apply Exists.intro; refine ⟨fun hg => ?_, ?_⟩; · first | exact FnA.at_ (zCd x n h h0 hn) rfl rfl | exact FnA.at_ (zOt _ hl) rfl rfl | exact FnA.at_s (zCd x n h h0 hn) rfl vV | exact FnA.at_s (zCd x n h h0 hn) rfl vW | exact FnA.at_s (zOt _ hl) rfl vV | exact FnA.at_s (zOt _ hl) rfl vW)
   | (refine z5 1 rfl ?_; refine yJ rfl ⟨_, evl, _, _, _, (fun _ _ => zBl), wW, ?_⟩; apply Exists.intro; refine ⟨fun hg => ?_, ?_⟩; · first | exact FnA.at_ (zCd x n h h0 hn) rfl rfl | exact FnA.at_ (zOt _ hl) rfl rfl | exact FnA.at_s (zCd x n h h0 hn) rfl vV | exact FnA.at_s (zCd x n h h0 hn) rfl vW | exact FnA.at_s (zOt _ hl) rfl vV | exact FnA.at_s (zOt _ hl) rfl vW)
   | (refine z5 1 rfl ?_; refine zE ?_)
   | (refine yH ?_; first | (refine zN (hK _ ?_); clear hK K) | (refine zT rfl ⟨_, evl, fun nb' => ?_⟩))
   | refine zH (fun K hK => ?_)
   | (refine wY ?_; first | (refine zD false rfl kq kq (fun K hK => ?_)) | (refine zD true rfl kq kq (fun K hK => ?_)))
 refine rq ?_ ?_
 ·rfl
 ·simp [AV.free]
theorem zXc (n b : Int) (h : -9223372036854775808 ≤ n * b ∧ n * b ≤ 9223372036854775807) : FnG Tryz.prog 324 [.box 0 0, .raw (.int .i64 b)] [[.raw (.int .i64 n)]] [] (.tup []) [[.raw (.int .i64 ((n * b).tmod 2147483579))]] [] := by
 refine enG func324 ntmps324 [] 1 rfl ?_
 try (refine wg ?_; try refine sM fun K hK => ?_)
 all_goals (refine zCj sq ⟨_, _, _, evl, obq, zQ4.bel ?_ obb, by simp, ?_, rfl, obb, obb⟩)
 all_goals first | rfl | (simp []; done) | (simp_all []; done) | (simp_all []; omega) | (simp []; grind) | (split <;> simp_all) | skip
theorem mulP (n b : Nat) (hn : n < 2147483579) (hb : b < 2147483579) : n * b < 4611686018427387904 := by
 have h1 : n * b ≤ 2147483578 * b := yNe _ oq
 omega
theorem zKt (n b : Nat) (hn : n < 2147483579) (hb : b < 2147483579) : FnG Tryz.prog 324 [.box 0 0, .raw (.int .i64 b)] [[.raw (.int .i64 n)]] [] (.tup []) [[.raw (.int .i64 ((n * b % 2147483579 : Nat) : Int))]] [] := by
 have h := zXc n b (by have := mulP n b hn hb; rw [← Int.natCast_mul]; omega)
 rwa [show ((n : Int) * b).tmod 2147483579 = ((n * b % 2147483579 : Nat) : Int) from by rw [← Int.natCast_mul]; rfl] at h
theorem and1 (x : Nat) (h : x < 9223372036854775808) : zF9 .and .i64 (x : Int) 1 = ((x % 2 : Nat) : Int) := by
 have h1 : (BitVec.ofInt 64 (x : Int) &&& BitVec.ofInt 64 1).toNat = x % 2 := by
  rw [BitVec.toNat_and, show (BitVec.ofInt 64 (1 : Int)).toNat = 1 from rfl, Nat.and_one_is_mod, BitVec.ofInt_natCast, BitVec.toNat_ofNat]
  omega
 show IntKind.i64.wrap (((BitVec.ofInt 64 (x : Int) &&& BitVec.ofInt 64 1).toNat : Nat) : Int) = _
 rw [h1, yV]
 simp only [inK]
 omega
@[simp] theorem shr1 (x : Nat) : (x : Int).fdiv 2 = ((x / 2 : Nat) : Int) := by
 rw [yPd _ oq]
 rfl
theorem zXw (a x : Nat) (ha : a < 2147483579) (hx : x < 9223372036854775808) : FnA Tryz.prog 280 [.raw (.int .i64 a), .raw (.int .i64 x)] (.raw (.int .i64 ((a ^ x % 2147483579 : Nat) : Int))) := by
 refine en func280 ntmps280 [.tmp 4] rfl ?_
 try (refine wg ?_; try refine sM fun K hK => ?_)
 refine zP (fun s : Nat × Nat × Nat => ⟨21, 0, [(1, true, .raw (.int .i64 s.2.1)), (2, true, .box 0 0), (5, true, .box 1 0), (6, true, .raw (.func (.func 324) #[] #[]))], [[.raw (.int .i64 s.1)], [.raw (.int .i64 s.2.2)]], [], ((0, []), [], true)⟩)
   (fun s => s.1 < 2147483579 ∧ s.2.1 < 9223372036854775808 ∧ s.2.2 < 2147483579 ∧ s.2.2 * s.1 ^ s.2.1 % 2147483579 = a ^ x % 2147483579) (fun s => s.2.1) (a, x, 1) ?_ ⟨ha, hx, by simp, by simp⟩ ?_
 ·refine xT.sl ?_
  (try simp only [zB6, zL, ↓reduceIte, Nat.reduceEqDiff, yOi, yMv, yMc, yMu, AV.raw.injEq, Value.int.injEq, Value.bool.injEq])
  all_goals ((repeat' apply And.intro) <;> first | rfl | omega | (simp; done))
 ·rintro ⟨b, y, o⟩ ⟨h1, h2, h3, h4⟩
  dsimp only at h1 h2 h3 h4 ⊢
  have hy2 : b ^ y = b ^ (y % 2) * (b * b) ^ (y / 2) := by
   rw [← Nat.pow_two, ← Nat.pow_mul, ← Nat.pow_add]; congr 1; omega
  have hm := mulP o b h3 h1
  try (refine wg ?_; try refine sM fun K hK => ?_)
  refine zB ⟨_, evl, ?_, ?_⟩
  ·intro hb
   simp only [yNk] at hb
   try (refine wg ?_; try refine sM fun K hK => ?_)
   refine zB ⟨_, evl, ?_, ?_⟩
   ·intro hc
    rw [and1 y h2] at hc
    simp only [yNk] at hc
    try (first | refine wkM hK trivial ?_ | refine wkg trivial ?_)
    try clear hK K
    try refine sM fun K hK => ?_
    refine zE3 [1] [] (zKt o b h3 h1) rfl rfl rfl ⟨_, evl, _, evl, _, evl, by simp, by decide, by decide, hlT, hlT, (by first | (simp [AV.subL, AV.sub]; done) | (simp only [yOd, yOe, yOf, yOg, yOi, yMv, AV.subL, AV.sub, yMy, yO4, yN9, Nat.reduceAdd]; (repeat' apply And.intro) <;> first | trivial | omega | (simp; done) | (refine AV.sub_free _ _ _ ?_; exact zO (fun _ => by simp) _) | (refine AV.subL_free _ _ _ ?_; simp; done) | (intro r hr; cases hr; done))), _, evl, _, evl, _, evl, ?_⟩
    try (first | refine wkM hK trivial ?_ | refine wkg trivial ?_)
    try clear hK K
    try refine sM fun K hK => ?_
    refine zE3 [0] [] (zKt b b h1 h1) rfl rfl rfl ⟨_, evl, _, evl, _, evl, by simp, by decide, by decide, hlT, hlT, (by first | (simp [AV.subL, AV.sub]; done) | (simp only [yOd, yOe, yOf, yOg, yOi, yMv, AV.subL, AV.sub, yMy, yO4, yN9, Nat.reduceAdd]; (repeat' apply And.intro) <;> first | trivial | omega | (simp; done) | (refine AV.sub_free _ _ _ ?_; exact zO (fun _ => by simp) _) | (refine AV.subL_free _ _ _ ?_; simp; done) | (intro r hr; cases hr; done))), _, evl, _, evl, _, evl, ?_⟩
    try (first | refine wkM hK trivial ?_ | refine wkg trivial ?_)
    try clear hK K
    try refine sM fun K hK => ?_
    refine ⟨(b * b % 2147483579, y / 2, o * b % 2147483579), ⟨Nat.mod_lt _ oq, by show y / 2 < _; omega, Nat.mod_lt _ oq, ?_⟩, by show y / 2 < y; omega, ?_⟩
    ·rw [← h4, hy2, show y % 2 = 1 from by omega]
     show o * b % 2147483579 * (b * b % 2147483579) ^ (y / 2) % 2147483579 = _
     rw [Nat.pow_one, ← Nat.mul_assoc, Nat.mul_mod, Nat.mod_mod, ← Nat.pow_mod, ← Nat.mul_mod]
    ·skip
     refine xT.mk rfl ?_ ?_
     rotate_left
     ·simp [zU7, zFk, AV.bel, AV.belL, go_sem]
     (try simp only [zB6, zL, ↓reduceIte, Nat.reduceEqDiff, yOi, yMv, yMc, yMu, AV.raw.injEq, Value.int.injEq, Value.bool.injEq])
     all_goals ((repeat' apply And.intro) <;> first | rfl | omega | (simp; done))
   ·intro hc
    rw [and1 y h2] at hc
    simp only [yOo] at hc
    try (first | refine wkM hK trivial ?_ | refine wkg trivial ?_)
    try clear hK K
    try refine sM fun K hK => ?_
    refine zE3 [0] [] (zKt b b h1 h1) rfl rfl rfl ⟨_, evl, _, evl, _, evl, by simp, by decide, by decide, hlT, hlT, (by first | (simp [AV.subL, AV.sub]; done) | (simp only [yOd, yOe, yOf, yOg, yOi, yMv, AV.subL, AV.sub, yMy, yO4, yN9, Nat.reduceAdd]; (repeat' apply And.intro) <;> first | trivial | omega | (simp; done) | (refine AV.sub_free _ _ _ ?_; exact zO (fun _ => by simp) _) | (refine AV.subL_free _ _ _ ?_; simp; done) | (intro r hr; cases hr; done))), _, evl, _, evl, _, evl, ?_⟩
    try (first | refine wkM hK trivial ?_ | refine wkg trivial ?_)
    try clear hK K
    try refine sM fun K hK => ?_
    refine ⟨(b * b % 2147483579, y / 2, o), ⟨Nat.mod_lt _ oq, by show y / 2 < _; omega, h3, ?_⟩, by show y / 2 < y; omega, ?_⟩
    ·rw [← h4, hy2, show y % 2 = 0 from by omega]
     show o * (b * b % 2147483579) ^ (y / 2) % 2147483579 = _
     rw [Nat.pow_zero, Nat.one_mul, Nat.mul_mod, ← Nat.pow_mod, ← Nat.mul_mod]
    ·skip
     refine xT.mk rfl ?_ ?_
     rotate_left
     ·simp [zU7, zFk, AV.bel, AV.belL, go_sem]
     (try simp only [zB6, zL, ↓reduceIte, Nat.reduceEqDiff, yOi, yMv, yMc, yMu, AV.raw.injEq, Value.int.injEq, Value.bool.injEq])
     all_goals ((repeat' apply And.intro) <;> first | rfl | omega | (simp; done))
  ·intro hb
   simp only [yOo] at hb
   try (refine wg ?_; try refine sM fun K hK => ?_)
   refine rq ?_ ?_
   ·rw [← h4, show y = 0 from by omega, Nat.pow_zero, yNo, Nat.mod_eq_of_lt h3]
   ·simp [AV.free]
def yB7 : Nat → Nat → Nat → Nat → Nat
 | 0, _, _, o => o
 | f + 1, a, x, o => if x = 0 then o else yB7 f (a * a % 2147483579) (x / 2) (if x % 2 = 1 then o * a % 2147483579 else o)
def zAr (a x : Nat) : Nat := yB7 64 (a % 2147483579) x 1
theorem zLf : ∀ (f a x o : Nat), x < 2 ^ f → o < 2147483579 → yB7 f a x o = o * a ^ x % 2147483579
 | 0, a, x, o, h, ho => by
  have : x = 0 := by simpa using h
  subst this
  simp [yB7, Nat.mod_eq_of_lt ho]
 | f + 1, a, x, o, h, ho => by
  unfold yB7
  split
  ·rename_i h0; subst h0; simp [Nat.mod_eq_of_lt ho]
  ·have hx : x / 2 < 2 ^ f := by rw [Nat.pow_succ] at h; omega
   have hy2 : a ^ x = a ^ (x % 2) * (a * a) ^ (x / 2) := by
    rw [← Nat.pow_two, ← Nat.pow_mul, ← Nat.pow_add]; congr 1; omega
   split
   ·rename_i h1
    rw [zLf f _ _ _ hx (Nat.mod_lt _ oq), hy2, h1, Nat.pow_one, ← Nat.mul_assoc, Nat.mul_mod, Nat.mod_mod, ← Nat.pow_mod, ← Nat.mul_mod]
   ·rename_i h1
    rw [zLf f _ _ _ hx ho, hy2, show x % 2 = 0 from by omega, Nat.pow_zero, Nat.one_mul, Nat.mul_mod, ← Nat.pow_mod, ← Nat.mul_mod]
theorem zRl (a x : Nat) (h : x < 18446744073709551616) : zAr a x = a ^ x % 2147483579 := by
 rw [zAr, zLf _ _ _ _ (by simpa using h) oq, Nat.one_mul, ← Nat.pow_mod]
theorem zLe (a x : Nat) (h : x < 18446744073709551616) : zAr a x < 2147483579 := by rw [zRl a x h]; exact Nat.mod_lt _ oq
theorem zFs (a x : Int) (ha : 0 ≤ a ∧ a < 2147483579) (hx : 0 ≤ x ∧ x < 9223372036854775808) : FnA Tryz.prog 280 [.raw (.int .i64 a), .raw (.int .i64 x)] (.raw (.int .i64 (zAr a.toNat x.toNat))) := by
 have h := zXw a.toNat x.toNat oq oq
 rw [← zRl _ _ oq] at h
 rwa [Int.toNat_of_nonneg ha.1, Int.toNat_of_nonneg hx.1] at h
def xE (x low : Int) : Bool := decide (low ≤ x) && decide (x < 1073741789)
theorem qT (x low : Int) : FnA Tryz.prog 279 [.raw (.int .i64 x), .raw (.int .i64 low)] (.raw (.bool (xE x low))) := by
 refine en func279 ntmps279 [.tmp 4] rfl ?_
 repeat' first
  | refine wkg trivial ?_
  | (refine cS (fun hb => ?_) fun hb => ?_ <;> try (cases hb; done))
  | refine sM fun K hK => ?_
  | fail
 all_goals (try (refine yA sq ⟨_, _, _, evl, ob0, yP.sims ?_ fre⟩))
 all_goals first | exact xD.refl _ | (refine xD.of_eq ?_; first | rfl | (simp [xE]; done) | (simp_all [xE]; done) | (simp_all [xE]; omega) | (simp [xE]; grind) | (split <;> simp_all)) | exact x7 | (refine xD.tup ?_; simp only [xF, yOi]; (repeat' apply And.intro) <;> first | exact x7 | skip) | (exfalso; first | omega | (simp_all; done) | (simp_all; omega)) | skip
def q7 (a : Int) : Bool := decide (0 < a) && decide (a < 2147483579) && decide ((zAr a.toNat 1073741789 : Int) = 1)
theorem zDm (a : Int) : FnA Tryz.prog 278 [.raw (.int .i64 a)] (.raw (.bool (q7 a))) := by
 refine en func278 ntmps278 [.tmp 2] rfl ?_
 repeat'
  first
   | first
    | (refine zG (hK _ ?_); clear hK K)
    | refine stG ?_
    | (refine yO 1 rfl ?_; refine yD rfl rfl ⟨_, evl, _, _, _, evl, wW, ?_⟩; apply Exists.intro; refine ⟨fun hg => ?_, ?_⟩; · first | exact FnA.at_ (zFs a 1073741789 (by simp at hg; omega) oq) rfl rfl | exact FnA.at_s (zFs a 1073741789 (by simp at hg; omega) oq) rfl vV | exact FnA.at_s (zFs a 1073741789 (by simp at hg; omega) oq) rfl vW)
    | (refine z5 1 rfl ?_; refine yJ rfl ⟨_, evl, _, _, _, (fun _ _ => zBl), wW, ?_⟩; apply Exists.intro; refine ⟨fun hg => ?_, ?_⟩; · first | exact FnA.at_ (zFs a 1073741789 (by simp at hg; omega) oq) rfl rfl | exact FnA.at_s (zFs a 1073741789 (by simp at hg; omega) oq) rfl vV | exact FnA.at_s (zFs a 1073741789 (by simp at hg; omega) oq) rfl vW)
    | (refine z5 1 rfl ?_; refine zE ?_)
    | (refine yH ?_; first | (refine zN (hK _ ?_); clear hK K) | (refine zT rfl ⟨_, evl, fun nb' => ?_⟩))
    | refine zH (fun K hK => ?_)
    | (refine wY ?_; first | (refine zD false rfl kq kq (fun K hK => ?_)) | (refine zD true rfl kq kq (fun K hK => ?_)))
    | (refine zB ⟨_, evl, fun hb => ?_, fun hb => ?_⟩ <;> (try simp only [yOn, yNj, yOq, yOp, yNl, yOm, yNb, yP9, yNk, yOo, yPa, yO0, ne_eq, yPb, Int.not_lt, Int.not_le, yOb, yOc] at hb))
   | fail
 all_goals (try (refine yA sq ⟨_, _, _, evl, ob0, yP.sims ?_ fre⟩))
 all_goals first | exact xD.refl _ | (refine xD.of_eq ?_; first | rfl | (simp [q7]; done) | (simp_all [q7]; done) | (simp_all [q7]; omega) | rfl | (simp [q7]; grind) | (split <;> simp_all)) | exact x7 | (refine xD.tup ?_; simp only [xF, yOi]; (repeat' apply And.intro) <;> first | exact x7 | skip) | (exfalso; first | omega | (simp_all; done) | (simp_all; omega)) | skip
theorem zLl (a : Int) : q7 a = true ↔ 0 < a ∧ a < 2147483579 ∧ zAr a.toNat 1073741789 = 1 := by
 simp [q7]; omega
def zZk (l : List Int) : List UInt8 := (l.map fun n => Lib.itoa n ++ [32]).flatten
theorem zQe (l : List Int) (n : Int) : zZk (l ++ [n]) = zZk l ++ (Lib.itoa n ++ [32]) := by simp [zZk]
def okI (l : List Int) : Prop := ∀ n ∈ l, inK .i64 n
theorem zUx {l : List Int} (h : okI l) {k : Nat} (hk : k < l.length) : inK .i64 (l.getD k 0) := by
 rw [yNh, yNf hk]; exact h _ (yP5 hk)
theorem zFn (l : List Int) {k : Nat} (hk : k < l.length) : l.take (k + 1) = l.take k ++ [l.getD k 0] := by
 rw [yPe hk, yNh, yNf hk]; rfl
end Go.Proofs.YtioaahmkebojiaaGreatDoor
