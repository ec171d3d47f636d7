import Derived.Test.YtchpbdecipcelaaGreatDoorHO01
import Derived.ArgAppend
import Derived.BigCall
import Derived.BigGuard
import Derived.CellFam
import Derived.Lib.Hide
import Derived.Lib.ItoaLen
import Derived.Lib.ItoaMem
import Derived.Lib.ItoaNum
import Derived.Lib.Slices
import Derived.OwnWalk
import Derived.WalkKit
import Derived.Test.YtchpbdecipcelaaGreatDoorHO11
namespace Go.Proofs.YtchpbdecipcelaaGreatDoor
set_option linter.unusedVariables false
set_option linter.unusedSimpArgs false
set_option maxHeartbeats 4000000
set_option maxRecDepth 100000
open Go.Shelf Go.RowKit Go.Sort Go.Lib
theorem zWy : (Tryz.prog.info? 5).map (fun i => (i.zero, i.size, i.bytes)) = some (some (.int .u8 0), 1, 1) := by kernel_rfl
theorem qR {P : Program} (w : World) {ops : Array Oper} {rest : List Oper} {o : Oper} {a : Act} {Q : Exit → Act → World → Prop} (hgd : o.guard = none) (sl x : Operand) (t u : TypeId)
  (ho : o.op = .call { callee := .builtin .append, args := #[sl, x], argTypes := #[t, u] })
  (e : TypeId) (i : TypeInfo) (ht : P.underlying t = some (.slice e)) (hu : P.underlying u = some .string) (hi : P.info? e = some i) (hz : i.zero = some (.int .u8 0)) (hsize : i.size = 1) (hby : i.bytes = 1)
  (g n : Nat) (xs : List Value) (hs : a.eval sl = .slice (some ⟨g, 0, none⟩) n n) (hl : xs.length = n) (hc : ∀ j v, xs[j]? = some v → w.cell? ⟨g, j, none⟩ = some v) (s : ByteArray) (hx : a.eval x = .string s) (hpos : 0 < s.size)
  (hlim : n + s.size ≤ 140737488355328)
  (h : ∀ v' w', w'.ownsRow w.heap.size e 1 v' (n + s.size) (xs ++ strCells s) → w.grownBy w' none → wpList P ops Q rest (a.put o.dst v') w') : wpList P ops Q (o :: rest) a w := by
 refine wpList_plain hgd fun K hK => ?_
 have hr := run_append_grow_string (P := P) w t u o.type e i (.int .u8 0) ht hu hi hz ⟨g, 0, none⟩ n n xs (by rw [hsize, hl, yJq]) (fun j v hj => by rw [Addr.add_lit, yJa]; exact hc j v hj) s (by omega) (by omega) (by rw [hby]; have := growslice_fits (need := n + s.size) (old := n) (bytes := 1) (by omega) (by omega); exact this)
 have h63 : n + s.size ≤ maxLen := by unfold maxLen; omega
 unfold Oper.wp execOp
 simp only [ho, resolve, invoke, builtin, Sem.run_bind, Sem.run_pure, Result.andThen_ok, List.map_toArray, yJo, yKf, hs, hx, hr]
 have hge := grownCap_ge w (n + s.size) n e
 have hcm : grownCap w (n + s.size) n e ≤ maxLen := grownCap_le_maxLen w (n + s.size) n e h63
 refine hK _ _ (h _ _ ⟨?_, .inr ⟨w.heap.size, _, _, rfl, yIn _, heap_alloc_new w.drew _, hge, hcm, ?_, ?_⟩⟩ ⟨rfl, rfl, rfl, by simp, fun k hk _ => Go.heap_alloc_old w.drew _ hk⟩)
 ·rw [yJ2, hl, strCells_length, yJq]
 ·simp only [Array.size_append, yK1, size_zeroCells, hl, strCells_length]
  show n + s.size + (grownCap w (n + s.size) n e - (n + s.size)) * 1 = _
  omega
 ·simp only [Array.toList_append, yKx]
  rw [← yKx, yJq, show n + s.size = (xs ++ strCells s).length from by rw [yJ2, hl, strCells_length]]
  exact List.take_left
theorem jN (u : Nat) : 0 < (Lib.decDigits u).length := by
 rw [Lib.decDigits_length]
 by_cases h10 : u < 10
 ·rw [Lib.nDigits_small h10]; omega
 ·rw [Lib.nDigits_big h10]; omega
section
variable (g n : Nat) (xs : List Value) (w : World)
set_option maxHeartbeats 6400000 in
set_option maxRecDepth 100000 in
theorem zMr (u : Nat) (hl : xs.length = n) (hc : ∀ j v, xs[j]? = some v → w.cell? ⟨g, j, none⟩ = some v) (hu64 : u < 18446744073709551616) (hlim : n + 20 ≤ 140737488355328) (htab : Lib.TabIs Tryz.prog w "internal/strconv.uint64pow10" .u64 Lib.pow10Tab) :
  Calls Tryz.prog 262 #[.slice (some ⟨g, 0, none⟩) n n, .int .u64 u, .int .i64 10] w fun e w' => ∃ v', e = .returned v' ∧ w'.ownsRow w.heap.size 5 1 v' (n + (Lib.decDigits u).length) (xs ++ Lib.byteCells (Lib.decDigits u)) ∧ RowKit.Below w.heap.size w w' := by
 have L := laysAI
 obtain ⟨i0, hi, hz0, hz1, hz2⟩ := info_parts zWy
 by_cases hu : u < 100
 ·have hlen : (Lib.decDigits u).length ≤ 20 := by
   rw [Lib.decDigits_length]
   by_cases h10 : u < 10
   ·rw [Lib.nDigits_small h10]; omega
   ·rw [Lib.nDigits_big h10, Lib.nDigits_small (show u / 10 < 10 by omega)]; omega
  have hsz : (⟨(Lib.decDigits u).toArray⟩ : ByteArray).size = (Lib.decDigits u).length := by simp [ByteArray.size]
  go_enter Tryz.func262, Tryz.ntmps262
  go_wp2_with (go_at_call 264; go_loud (refine (Any.internal_strconv_small { L with } u hu _).mono ?_); rintro e w1 ⟨rfl, rfl⟩; refine Hid.out ?_)
  refine Lib.hid ?_
  go_wp2_with (at_builtin; refine qR _ rfl _ _ 211 9 rfl 5 i0 Tryz.underlying211 Tryz.underlying9 hi hz0 hz1 hz2 g n xs rfl hl hc ⟨(Lib.decDigits u).toArray⟩ rfl (by rw [hsz]; exact jN u) (by rw [hsz]; omega) ?_)
  intro v' w1 hown' hgrow
  go_wp2
  go_ret
  refine ⟨v', rfl, ?_, (RowKit.Below.refl _ _).grown hgrow (yIn _) (fun k hk => by cases hk)⟩
  first | exact hown' | (rw [hsz] at hown'; exact hown')
 ·have hu1 : 1 ≤ u := by omega
  have hnd20 : Lib.nDigits u ≤ 20 := by have := Lib.numDigits_eq u hu1 hu64; split at this <;> omega
  have hal : Tryz.prog.arrayLen 297 = 24 := by kernel_rfl
  have hel : Tryz.prog.elem 297 = 5 := by kernel_rfl
  have hsl : ∀ W, (Instr.sliceAt 297 (.pointer (some ⟨w.heap.size, 0, none⟩)) none (some (.int .i64 (Lib.nDigits u : Int))) none).run Tryz.prog W = .ok (.slice (some ⟨w.heap.size, 0, none⟩) (Lib.nDigits u) 24) W := fun W => by
   rw [run_sliceAt_array_h W 297 ⟨w.heap.size, 0, none⟩ (by kernel_rfl) .i64 (Lib.nDigits u : Int) (by omega) (by rw [hal]; omega), hel]
   simp [sizeOf, typeInfo, hi, hz1, hal, slicedAt, Result.andThen, Addr.add]
  have hH0 := Lib.holds_zero0 w 297 (Lib.nDigits u) (by omega)
  have hfmt := Any.internal_strconv_formatBase10 { L with } w.heap.size 0 24 u (Array.replicate (Lib.nDigits u) 0) (w.alloc (.cells Lib.zeros24 297)) hH0 (by rw [Array.size_replicate]; exact Lib.lt_pow_nDigits u) hu64 (by rw [Array.size_replicate]; omega)
  rw [Array.size_replicate] at hfmt
  have HH0 := Lib.hid hH0
  clear hH0
  go_enter Tryz.func262, Tryz.ntmps262
  go_wp2_with (go_at_call 265; go_loud (refine (Any.internal_strconv_numDigits { L with } u hu1 hu64 _ (Lib.tabIs_alloc htab _)).mono ?_); rintro e w1 ⟨rfl, rfl⟩; refine Hid.out ?_)
  refine Lib.hid ?_
  go_wp2_with (go_at_call 266; go_loud (refine hfmt.mono ?_); rintro e w' ⟨rfl, k, v', dk, rfl, hF⟩; refine Hid.out ?_)
  refine Lib.hid ?_
  have hd : ∀ j u', (Lib.byteCells (Lib.decDigits u))[j]? = some u' → ((putRow (fun (b : UInt8) => Value.int .u8 (b.toNat : Int)) (w.alloc (.cells Lib.zeros24 297)) w.heap.size 0 dk).drewN k).cell? ((⟨w.heap.size, 0, none⟩ : Addr).add j) = some u' := by
   intro j u' hj
   obtain ⟨hjl, rfl⟩ := yJf.1 hj
   rw [Lib.byteCells_length] at hjl
   have e5 : (Lib.byteCells (Lib.decDigits u))[j]'(by rw [Lib.byteCells_length]; exact hjl) = Value.int .u8 ((Lib.decDigits u)[j].toNat : Int) := by simp [Lib.byteCells]
   rw [e5, Lib.row_is_numeral hF j hjl, Lib.add_plain, World.cell?_drewN]
   exact cell?_putRow (fun (b : UInt8) => Value.int .u8 (b.toNat : Int)) _ w.heap.size 0 _ dk HH0.out (by rw [hF.size, Array.size_replicate]) j (by rw [hF.size]; rw [Lib.decDigits_length] at hjl; exact hjl)
  obtain ⟨os, eo⟩ := Lib.fin_at w (.cells Lib.zeros24 297) dk k 0
  have hnx : RowKit.Below w.heap.size w ((putRow (fun (b : UInt8) => Value.int .u8 (b.toNat : Int)) (w.alloc (.cells Lib.zeros24 297)) w.heap.size 0 dk).drewN k) := by rw [eo]; exact Lib.below_grow _ w (yIn _) k os
  have hsz := hnx.size
  generalize (putRow (fun (b : UInt8) => Value.int .u8 (b.toNat : Int)) (w.alloc (.cells Lib.zeros24 297)) w.heap.size 0 dk).drewN k = W at hd hnx hsz ⊢
  have hc2 : ∀ j v, xs[j]? = some v → W.cell? ⟨g, 0 + j, none⟩ = some v := fun j v hj => by
   have := hc j v hj
   rw [yJa, hnx.cell (p := ⟨g, j, none⟩) (World.block_lt_of_cell? w ⟨g, j, none⟩ this)]
   exact this
  clear eo HH0 hfmt
  go_wp2_with (at_builtin; refine wpList_append_arg _ rfl _ _ 211 rfl 5 i0 (.int .u8 0) 1 1 Tryz.underlying211 hi hz0 hz1 hz2 rfl (by decide) g 0 n n xs rfl ?lo hc2 ⟨w.heap.size, 0, none⟩ (Lib.nDigits u) 24 (Lib.byteCells (Lib.decDigits u)) rfl ?c0 hd ?c2 ?sp ?c3 ?c4 ?rm ?_)
  case lo => rw [hl, yJq]
  case c0 => rw [Lib.byteCells_length, Lib.decDigits_length, yJq]
  case c2 => intro u' hu'; simp only [Lib.byteCells, yKb] at hu'; obtain ⟨b, _, rfl⟩ := hu'; rfl
  case sp => intro h; have := jN u; rw [Lib.decDigits_length] at this; omega
  case c3 => unfold maxLen; omega
  case c4 => omega
  case rm => intro h; have := jN u; rw [Lib.decDigits_length] at this; omega
  intro _ v2 w3 hown' hgrow
  go_wp2
  go_ret
  refine ⟨v2, rfl, ?_, hnx.grown hgrow (by omega) (fun k hk => by cases hk)⟩
  rw [Lib.decDigits_length]
  obtain ⟨h1, h2⟩ := hown'
  refine ⟨h1, h2.imp_right ?_⟩
  rintro ⟨g', cap', cur', e1, e2, e3⟩
  exact ⟨g', cap', cur', e1, by omega, e3⟩
set_option maxHeartbeats 6400000 in
set_option maxRecDepth 100000 in
theorem zQm (i : Int) (h0 : -9223372036854775808 ≤ i) (h1 : i ≤ 9223372036854775807) (hl : xs.length = n) (hc : ∀ j v, xs[j]? = some v → w.cell? ⟨g, j, none⟩ = some v) (hlim : n + 21 ≤ 140737488355328) (htab : Lib.TabIs Tryz.prog w "internal/strconv.uint64pow10" .u64 Lib.pow10Tab) :
  Calls Tryz.prog 260 #[.slice (some ⟨g, 0, none⟩) n n, .int .i64 i, .int .i64 10] w fun e w' => ∃ v', e = .returned v' ∧ w'.ownsRow w.heap.size 5 1 v' (n + (Lib.itoa i).length) (xs ++ Lib.byteCells (Lib.itoa i)) ∧ RowKit.Below w.heap.size w w' := by
 have L := laysAI
 obtain ⟨i0, hi, hz0, hz1, hz2⟩ := info_parts zWy
 have hT := Lib.tabBelow_of_tabIs htab
 by_cases hneg : i < 0
 ·obtain ⟨u, rfl⟩ : ∃ u : Nat, i = -(u : Int) := ⟨i.natAbs, by omega⟩
  have hu1 : 1 ≤ u := by omega
  have hu64 : u < 18446744073709551616 := by omega
  have hwr : IntKind.u64.wrap (-IntKind.u64.wrap (-(u : Int))) = (u : Int) := by rw [IntKind.wrap_u64, IntKind.wrap_u64]; omega
  rw [Lib.itoa_neg u hu1]
  go_enter Tryz.func260, Tryz.ntmps260
  go_wp2_with (at_builtin; refine wpList_append_arg _ rfl _ _ 211 rfl 5 i0 (.int .u8 0) 1 1 Tryz.underlying211 hi hz0 hz1 hz2 rfl (by decide) g 0 n n xs rfl ?lo ?hc2 ⟨w.heap.size, 0, none⟩ 1 1 [Value.int .u8 45] rfl ?c0 ?hd ?c2 ?sp ?c3 ?c4 ?rm ?_)
  case lo => rw [hl, yJq]
  case hc2 =>
   intro j v hj
   have := hc j v hj
   have hlt := World.block_lt_of_cell? w ⟨g, j, none⟩ this
   rw [yJa, World.cell?_alloc_old _ _ _ (by show g ≠ _; have : g < w.heap.size := hlt; omega)]
   exact this
  case c0 => rfl
  case hd => intro j u' hj; match j, hj with | 0, hj => simp at hj; subst hj; simp [Addr.add]
  case c2 => intro u' hu'; simp at hu'; subst hu'; rfl
  case sp => intro h; omega
  case c3 => unfold maxLen; omega
  case c4 => omega
  case rm => intro h; omega
  intro v1 w1 hown1 hgrow
  have hnx1 : RowKit.Below w.heap.size w w1 := ((RowKit.Below.refl _ w).alloc (yIn _) _).grown hgrow (by simp) (fun k hk => by cases hk)
  have hsz1 := hnx1.size
  have hown1 : w1.ownsRow w.heap.size 5 1 v1 (n + 1) (xs ++ [Value.int .u8 45]) := by
   obtain ⟨h1, h2⟩ := hown1
   refine ⟨h1, h2.imp_right ?_⟩
   rintro ⟨g', cap', cur', e1, e2, e3⟩
   exact ⟨g', cap', cur', e1, by first | omega | (simp at e2; omega), e3⟩
  go_wp2_with (go_at_call 262; go_loud (refine (Any.internal_strconv_AppendUint_10 { L with } w.heap.size (n + 1) u hu64 v1 _ w1 hown1 hsz1 (by omega) (hT w1 hnx1)).mono ?_); rintro e w2 ⟨v2, rfl, hown2, hnx2, -⟩; refine Hid.out ?_)
  refine Lib.hid ?_
  go_wp2
  go_ret
  refine ⟨v2, rfl, ?_, hnx1.trans hnx2⟩
  rw [show n + ((Lib.decDigits u).length + 1) = n + 1 + (Lib.decDigits u).length from by omega, show xs ++ Lib.byteCells (45 :: Lib.decDigits u) = xs ++ [Value.int .u8 45] ++ Lib.byteCells (Lib.decDigits u) from by simp [Lib.byteCells]]
  exact hown2
 ·obtain ⟨u, rfl⟩ : ∃ u : Nat, i = u := ⟨i.toNat, by omega⟩
  have hu64 : u < 18446744073709551616 := by omega
  rw [Lib.itoa_nonneg]
  go_enter Tryz.func260, Tryz.ntmps260
  go_wp2_with (go_at_call 262; go_loud (refine (zMr g n xs w u hl hc hu64 (by omega) htab).mono ?_); rintro e w2 ⟨v2, rfl, hown2, hnx2⟩; refine Hid.out ?_)
  refine Lib.hid ?_
  go_wp2
  first | go_ret | go_ret2
  exact ⟨v2, rfl, hown2, hnx2⟩
set_option maxRecDepth 100000 in
theorem zQn (i : Int) (h0 : -9223372036854775808 ≤ i) (h1 : i ≤ 9223372036854775807) (hl : xs.length = n) (hc : ∀ j v, xs[j]? = some v → w.cell? ⟨g, j, none⟩ = some v) (hlim : n + 21 ≤ 140737488355328) (htab : Lib.TabIs Tryz.prog w "internal/strconv.uint64pow10" .u64 Lib.pow10Tab) :
  Calls Tryz.prog 257 #[.slice (some ⟨g, 0, none⟩) n n, .int .i64 i, .int .i64 10] w fun e w' => ∃ v', e = .returned v' ∧ w'.ownsRow w.heap.size 5 1 v' (n + (Lib.itoa i).length) (xs ++ Lib.byteCells (Lib.itoa i)) ∧ RowKit.Below w.heap.size w w' := by
 go_enter Tryz.func257, Tryz.ntmps257
 go_wp2_with (go_at_call 260; go_loud (refine (zQm g n xs w i h0 h1 hl hc hlim htab).mono ?_); rintro e w2 ⟨v2, rfl, hown2, hnx2⟩; refine Hid.out ?_)
 refine Lib.hid ?_
 go_wp2
 go_ret
 exact ⟨v2, rfl, hown2, hnx2⟩
end
end Go.Proofs.YtchpbdecipcelaaGreatDoor
