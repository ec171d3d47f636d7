import Derived.Test.YtioaahmkebojiaaGreatDoorWC01
import Derived.Test.YtioaahmkebojiaaGreatDoorWC27
import Derived.Test.YtioaahmkebojiaaGreatDoorWC28
namespace Go.Proofs.YtioaahmkebojiaaGreatDoor
open Tryz
set_option linter.unusedVariables false
set_option linter.unusedSimpArgs false
set_option maxHeartbeats 4000000
set_option maxRecDepth 100000
open Go.Shelf Go.RowKit Go.Sort Go.Lib
theorem zKf.lt {w : World} {v : Value} {n g : Nat} {cur : Array Value} (h : zKf w v n g cur) : g < w.heap.size := (yMi.1 h.blk).1
theorem zKf.own {w : World} {v : Value} {n g : Nat} {cur : Array Value} (h : zKf w v n g cur) : zC v = some g := by rw [h.val]; rfl
theorem zMo.below {w w' : World} {v : Value} {n : Nat} (h : zMo w v n) (hb : Below w.heap.size w w') : zMo w' v n := by
 rcases h with h | ⟨g, cur, h⟩
 ·exact .inl h
 ·exact .inr ⟨g, cur, h.val, (hb.block g h.lt).trans h.blk, h.le, h.max, h.byt⟩
theorem qR.rowN {w w' : World} {v v' : Value} {n : Nat} (h : qR w v w' v' n) : zMo w' v' n := by
 obtain ⟨g, cur, h1, _⟩ := h
 exact .inr ⟨g, cur, h1⟩
theorem qR.of_below {w w1 w2 : World} {v v' : Value} {n n' : Nat} (hv : zMo w v n) (hb : Below w.heap.size w w1) (h : qR w1 v w2 v' n') : qR w v w2 v' n' := by
 obtain ⟨g, cur', R, h1, h2, h3⟩ := h
 refine ⟨g, cur', R, h1.imp id (yMk hb.size), ⟨h2.os.trans hb.os, h2.tape.trans hb.tape, h2.output.trans hb.output, yMk hb.size h2.size, fun k hk hr => (h2.block k (yMl hk hb.size) hr).trans (hb.block k hk)⟩, fun g0 c0 e0 h0 => ?_⟩
 exact h3 g0 c0 e0 ((hb.block g0 (yMi.1 h0).1).trans h0)
theorem qR.grown {w w1 W : World} {v v1 : Value} {n1 : Nat} (h : qR w v w1 v1 n1) (hW : w1.grownBy W (zC v1)) : w.grownBy W (zC v) := by
 obtain ⟨g1, c1, R1, h1, h2, _⟩ := h
 rw [R1.own] at hW
 exact ⟨hW.os.trans h2.os, hW.tape.trans h2.tape, hW.output.trans h2.output, yMk h2.size hW.size, fun k hk hne => (hW.block k (yMl hk h2.size) (fun e => by
  cases e
  rcases h1 with h1 | h1
  ·exact hne h1.symm
  ·omega)).trans (h2.block k hk hne)⟩
theorem qR.trans {w w1 w2 : World} {v v1 v2 : Value} {n1 n2 : Nat} (h : qR w v w1 v1 n1) (h' : qR w1 v1 w2 v2 n2) : qR w v w2 v2 n2 := by
 have hg := h.grown h'.choose_spec.choose_spec.2.2.1
 obtain ⟨g1, c1, R1, a1, a2, a3⟩ := h
 obtain ⟨g2, c2, R2, b1, b2, b3⟩ := h'
 have own1 := R1.own
 refine ⟨g2, c2, R2, ?_, hg, fun g0 c0 e0 h0 => ?_⟩
 ·rcases b1 with b1 | b1
  ·rw [own1] at b1
   cases b1
   exact a1
  ·exact .inr (yMk a2.size b1)
 ·obtain ⟨c', d1, d2⟩ := a3 g0 c0 e0 h0
  by_cases e : g0 = g1
  ·subst e
   obtain ⟨c'', d3, d4⟩ := b3 g0 c' own1 d1
   exact ⟨c'', d3, d4.trans d2⟩
  ·refine ⟨c', (b2.block g0 (yMi.1 d1).1 (fun h => e (by rw [own1] at h; cases h; rfl))).trans d1, d2⟩
section
variable (w : World) (v : Value) (n : Nat)
set_option maxHeartbeats 6400000 in
set_option maxRecDepth 100000 in
theorem zFc (u : Nat) (hv : zMo w v n) (hu64 : u < 18446744073709551616) (hlim : n + 20 ≤ 140737488355328) (htab : ∀ W, w.grownBy W (zC v) → Lib.TabIs Tryz.prog W "internal/strconv.uint64pow10" .u64 Lib.pow10Tab) :
  Calls Tryz.prog 357 #[v, .int .u64 u, .int .i64 10] w fun e w' => ∃ v' n', e = .returned v' ∧ n' ≤ n + 20 ∧ n < n' ∧ qR w v w' v' n' := by
 have L := laysAI
 obtain ⟨i0, hi, hz0, hz1, hz2⟩ := info_parts zQd
 by_cases hu : u < 100
 ·have hlen : (Lib.decDigits u).length ≤ 20 := by
   rw [Lib.decDigits_length]
   by_cases h10 : u < 10
   ·rw [Lib.nDigits_small h10]; omega
   ·rw [Lib.nDigits_big h10, Lib.nDigits_small (show u / 10 < 10 by omega)]; omega
  have hsz : (⟨(Lib.decDigits u).toArray⟩ : ByteArray).size = (Lib.decDigits u).length := by simp [ByteArray.size]
  go_enter func357, ntmps357
  go_wp2_with (go_at_call 362; go_loud (refine (Any.internal_strconv_small { L with } u hu _).mono ?_); rintro e w1 ⟨rfl, rfl⟩; refine Hid.out ?_)
  refine Lib.hid ?_
  go_wp2_with (at_builtin; refine jM zXq rfl _ _ 9 rfl Tryz.underlying9 rfl hv ⟨(Lib.decDigits u).toArray⟩ rfl (by rw [hsz]; exact qB u) (by rw [hsz]; omega) ?_)
  intro v' w1 hto
  go_wp2
  go_ret
  have hp := qB u
  exact ⟨v', _, rfl, by first | omega | (rw [hsz]; omega), by first | omega | (rw [hsz]; omega), hto⟩
 ·have hu1 : 1 ≤ u := by omega
  have hnd20 : Lib.nDigits u ≤ 20 := by have := Lib.numDigits_eq u hu1 hu64; split at this <;> omega
  have hal : Tryz.prog.arrayLen 489 = 24 := by kernel_rfl
  have hel : Tryz.prog.elem 489 = 5 := by kernel_rfl
  have hsl : ∀ W, (Instr.sliceAt 489 (.pointer (some ⟨w.heap.size, 0, none⟩)) none (some (.int .i64 (Lib.nDigits u : Int))) none).run Tryz.prog W = .ok (.slice (some ⟨w.heap.size, 0, none⟩) (Lib.nDigits u) 24) W := fun W => by
   rw [run_sliceAt_array_h W 489 ⟨w.heap.size, 0, none⟩ kq .i64 (Lib.nDigits u : Int) oq (by rw [hal]; omega), hel]
   simp [sizeOf, typeInfo, hi, hz1, hal, slicedAt, Result.andThen, Addr.add]
  have hH0 := Lib.holds_zero0 w 489 (Lib.nDigits u) oq
  have hfmt := Any.internal_strconv_formatBase10 { L with } w.heap.size 0 24 u (Array.replicate (Lib.nDigits u) 0) (w.alloc (.cells Lib.zeros24 489)) hH0 (by rw [Array.size_replicate]; exact Lib.lt_pow_nDigits u) hu64 (by rw [Array.size_replicate]; omega)
  rw [Array.size_replicate] at hfmt
  have HH0 := Lib.hid hH0
  clear hH0
  have htab1 : Lib.TabIs Tryz.prog (w.alloc (.cells Lib.zeros24 489)) "internal/strconv.uint64pow10" .u64 Lib.pow10Tab := htab _ ⟨rfl, rfl, rfl, by simp, fun k hk _ => Go.heap_alloc_old w _ hk⟩
  go_enter func357, ntmps357
  go_wp2_with (go_at_call 363; go_loud (refine (Any.internal_strconv_numDigits { L with } u hu1 hu64 _ htab1).mono ?_); rintro e w1 ⟨rfl, rfl⟩; refine Hid.out ?_)
  refine Lib.hid ?_
  go_wp2_with (go_at_call 364; go_loud (refine hfmt.mono ?_); rintro e w' ⟨rfl, k, v', dk, rfl, hF⟩; refine Hid.out ?_)
  refine Lib.hid ?_
  have hd : ∀ j u', (Lib.byteCells (Lib.decDigits u))[j]? = some u' → ((putRow (fun (b : UInt8) => Value.int .u8 (b.toNat : Int)) (w.alloc (.cells Lib.zeros24 489)) w.heap.size 0 dk).drewN k).cell? ((⟨w.heap.size, 0, none⟩ : Addr).add j) = some u' := by
   intro j u' hj
   obtain ⟨hjl, rfl⟩ := yNd.1 hj
   rw [Lib.byteCells_length] at hjl
   have e5 : (Lib.byteCells (Lib.decDigits u))[j]'(by rw [Lib.byteCells_length]; exact hjl) = Value.int .u8 ((Lib.decDigits u)[j].toNat : Int) := by simp [Lib.byteCells]
   rw [e5, Lib.row_is_numeral hF j hjl, Lib.add_plain, World.cell?_drewN]
   exact cell?_putRow (fun (b : UInt8) => Value.int .u8 (b.toNat : Int)) _ w.heap.size 0 _ dk HH0.out (by rw [hF.size, Array.size_replicate]) j (by rw [hF.size]; rw [Lib.decDigits_length] at hjl; exact hjl)
  obtain ⟨os, eo⟩ := Lib.fin_at w (.cells Lib.zeros24 489) dk k 0
  have hnx : RowKit.Below w.heap.size w ((putRow (fun (b : UInt8) => Value.int .u8 (b.toNat : Int)) (w.alloc (.cells Lib.zeros24 489)) w.heap.size 0 dk).drewN k) := by rw [eo]; exact Lib.below_grow _ w (yMj _) k os
  generalize (putRow (fun (b : UInt8) => Value.int .u8 (b.toNat : Int)) (w.alloc (.cells Lib.zeros24 489)) w.heap.size 0 dk).drewN k = W at hd hnx ⊢
  have hvW := hv.below hnx
  clear eo HH0 hfmt
  go_wp2_with (at_builtin; refine kA zXq rfl _ _ rfl rfl hvW ⟨w.heap.size, 0, none⟩ (Lib.nDigits u) 24 (Lib.byteCells (Lib.decDigits u)) rfl ?c0 ?sp hd ?c2 ?c3 ?_)
  case c0 => rw [Lib.byteCells_length, Lib.decDigits_length]
  case c2 => intro u' hu'; simp only [Lib.byteCells, yO6] at hu'; obtain ⟨b, _, rfl⟩ := hu'; exact ⟨_, rfl⟩
  case sp => have := qB u; rw [Lib.decDigits_length] at this; omega
  case c3 => omega
  intro v2 w3 hto
  go_wp2
  go_ret
  have hp := qB u
  rw [Lib.decDigits_length] at hp
  exact ⟨v2, _, rfl, by omega, by omega, hto.of_below hv hnx⟩
theorem qR.tab {w w1 : World} {v v1 : Value} {n1 : Nat} (h : qR w v w1 v1 n1) {q : World → Prop} (ht : ∀ W, w.grownBy W (zC v) → q W) : ∀ W, w1.grownBy W (zC v1) → q W := fun W hW => ht W (h.grown hW)
set_option maxHeartbeats 6400000 in
set_option maxRecDepth 100000 in
theorem zKd (i : Int) (h0 : -9223372036854775808 ≤ i) (h1 : i ≤ 9223372036854775807) (hv : zMo w v n) (hlim : n + 21 ≤ 140737488355328) (htab : ∀ W, w.grownBy W (zC v) → Lib.TabIs Tryz.prog W "internal/strconv.uint64pow10" .u64 Lib.pow10Tab) :
  Calls Tryz.prog 344 #[v, .int .i64 i, .int .i64 10] w fun e w' => ∃ v' n', e = .returned v' ∧ n' ≤ n + 21 ∧ n < n' ∧ qR w v w' v' n' := by
 have L := laysAI
 obtain ⟨i0, hi, hz0, hz1, hz2⟩ := info_parts zQd
 by_cases hneg : i < 0
 ·obtain ⟨u, rfl⟩ : ∃ u : Nat, i = -(u : Int) := ⟨i.natAbs, by omega⟩
  have hu1 : 1 ≤ u := by omega
  have hu64 : u < 18446744073709551616 := by omega
  have hwr : IntKind.u64.wrap (-IntKind.u64.wrap (-(u : Int))) = (u : Int) := by rw [IntKind.wrap_u64, IntKind.wrap_u64]; omega
  have hbel : Below w.heap.size w (w.alloc (.cells #[Value.int .u8 45] 5)) := (Below.refl _ w).alloc (yMj _) _
  go_enter func344, ntmps344
  go_wp2_with (at_builtin; refine kA zXq rfl _ _ rfl rfl (hv.below hbel) ⟨w.heap.size, 0, none⟩ 1 1 [Value.int .u8 45] rfl rfl dq ?hd ?c2 ?c3 ?_)
  case hd => intro j u' hj; match j, hj with | 0, hj => simp at hj; subst hj; simp [Addr.add]
  case c2 => intro u' hu'; simp at hu'; subst hu'; exact ⟨_, rfl⟩
  case c3 => omega
  intro v1 w1 hto
  have hto1 := hto.of_below hv hbel
  go_wp2_with (go_at_call 357; go_loud (refine (zFc w1 v1 (n + 1) u hto1.rowN hu64 oq (hto1.tab htab)).mono ?_); rintro e w2 ⟨v2, n2, rfl, hn2, hn3, hto2⟩; refine Hid.out ?_)
  refine Lib.hid ?_
  go_wp2
  go_ret
  exact ⟨v2, n2, rfl, by omega, by omega, hto1.trans hto2⟩
 ·obtain ⟨u, rfl⟩ : ∃ u : Nat, i = u := ⟨i.toNat, by omega⟩
  have hu64 : u < 18446744073709551616 := by omega
  go_enter func344, ntmps344
  go_wp2_with (go_at_call 357; go_loud (refine (zFc w v n u hv hu64 oq htab).mono ?_); rintro e w2 ⟨v2, n2, rfl, hn2, hn3, hto2⟩; refine Hid.out ?_)
  refine Lib.hid ?_
  go_wp2
  first | go_ret | go_ret2
  exact ⟨v2, n2, rfl, by omega, hn3, hto2⟩
set_option maxRecDepth 100000 in
theorem zPx (i : Int) (h0 : -9223372036854775808 ≤ i) (h1 : i ≤ 9223372036854775807) (hv : zMo w v n) (hlim : n + 21 ≤ 140737488355328) (htab : ∀ W, w.grownBy W (zC v) → Lib.TabIs Tryz.prog W "internal/strconv.uint64pow10" .u64 Lib.pow10Tab) :
  Calls Tryz.prog 320 #[v, .int .i64 i, .int .i64 10] w fun e w' => ∃ v' n', e = .returned v' ∧ n' ≤ n + 21 ∧ n < n' ∧ qR w v w' v' n' := by
 go_enter func320, ntmps320
 go_wp2_with (go_at_call 344; go_loud (refine (zKd w v n i h0 h1 hv hlim htab).mono ?_); rintro e w2 ⟨v2, n2, rfl, hn2, hn3, hto2⟩; refine Hid.out ?_)
 refine Lib.hid ?_
 go_wp2
 go_ret
 exact ⟨v2, n2, rfl, hn2, hn3, hto2⟩
end
set_option linter.unusedSectionVars false
open Go.RowKit
variable [SpT]
section
variable {P : Program} {φ : Phi} {w0 : FW} {w w' : World} {h : CH} {nx : Nat}
theorem zR3 (hs : HS P w0 φ h nx w) {x : CV} {o : Option Nat} {bnd : Nat} (hk : zIy x = some (o, bnd)) (ho : ∀ k, o = some k → h.get k = some .rowb) {u : Value} (hx : x.rel φ w u) : ∃ n, n ≤ bnd ∧ zMo w u n ∧ ∀ g, zC u = some g → ∃ k, o = some k ∧ φ k = some g := by
 unfold zIy at hk
 split at hk
 ·cases hk
  rw [show u = _ from hx]
  exact ⟨0, yMj _, .inl ⟨rfl, rfl⟩, fun g hg => by cases hg⟩
 ·rename_i k b
  cases hk
  obtain ⟨g, n, c, h1, rfl, h3, h4, ⟨h5, h6⟩, h7⟩ := hx
  obtain ⟨g', e1, _, a, e2, e3⟩ := hs.heap.here k _ (ho k rfl)
  rw [h1] at e1
  cases e1
  have hsz : a.size = c := by rw [h5, xA e2]
  refine ⟨n, h7, .inr ⟨g, a, by rw [hsz], e2, by rw [hsz]; exact h3, by rw [hsz]; exact h4, e3⟩, fun g' hg => ?_⟩
  cases hg
  exact ⟨k, rfl, h1⟩
 ·cases hk
theorem zR2 (hs : HS P w0 φ h nx w) {x : CV} {o : Option Nat} {bnd : Nat} (hk : zIy x = some (o, bnd)) (ho : ∀ k, o = some k → h.get k = some .rowb) {u v : Value} (hx : x.rel φ w u) {n' b' : Nat} (ht : qR w u w' v n') (hb : n' ≤ b') (h0 : 0 < n') :
  ∃ φ', y0 φ w φ' w' ∧ HS P w0 φ' (apH h (zR4 o nx)) (nx + 1) w' ∧ (CV.row nx b').rel φ' w' v := by
 obtain ⟨n, _, hN, hown⟩ := zR3 hs hk ho hx
 obtain ⟨g, cur, R, hg, gr, kp⟩ := ht
 have hnx : φ nx = none := hs.heap.fresh nx (yMj _)
 have lt0 : ∀ {k blk}, h.get k = some blk → k < nx := fun hk => hs.lt hk
 have frees : ∀ b, ¬ w0.free b → w'.heap[b]? = w.heap[b]? := fun b hf => by
  rcases yMn b w.heap.size with h1 | h1
  ·refine gr.block b h1 fun e => ?_
   obtain ⟨k, rfl, hφ⟩ := hown b e.symm
   obtain ⟨b', e1, e2, _⟩ := hs.heap.here k _ (ho k rfl)
   rw [hφ] at e1
   cases e1
   exact hf e2
  ·exact absurd (FW.new (yMk hs.below.size h1)) hf
 have gfree : w0.free g := by
  rcases hg with e | e
  ·obtain ⟨k, rfl, hφ⟩ := hown g e
   obtain ⟨b', e1, e2, _⟩ := hs.heap.here k _ (ho k rfl)
   rw [hφ] at e1
   cases e1
   exact e2
  ·exact FW.new (yMk hs.below.size e)
 have E : y0 φ w (wM φ nx g) w' := fun j b hj => ⟨by
  rw [zK (fun e => by subst e; rw [hnx] at hj; cases hj)]; exact hj, by
  rcases yMn b w.heap.size with h1 | h1
  ·by_cases e : zC u = some b
   ·obtain ⟨k, rfl, hφ⟩ := hown b e
    obtain ⟨b1, e1, _, a, e2, _⟩ := hs.heap.here k _ (ho k rfl)
    rw [hφ] at e1
    cases e1
    obtain ⟨c', d1, d2⟩ := kp b a e e2
    exact .inr (by rw [xA e2, xA d1, d2])
   ·exact szK.same (gr.block b h1 fun h => e h.symm)
  ·exact szK.none h1⟩
 have was : ∀ j blk, (apH h (zR4 o nx)).get j = some blk → (j = nx ∧ blk = .rowb) ∨ (j ≠ nx ∧ o ≠ some j ∧ h.get j = some blk) := fun j blk hj => by
  unfold zR4 at hj
  cases o with
  | none =>
   simp only [apH, Tr.get_put] at hj
   cases hb : Nat.beq j nx with
   | true => rw [hb] at hj; cases hj; exact .inl ⟨yMs hb, rfl⟩
   | false => rw [hb] at hj; exact .inr ⟨fun e => (by subst e; rw [yMr] at hb; cases hb), sq, hj⟩
  | some k =>
   simp only [apH, Tr.get_put] at hj
   cases hb : Nat.beq j nx with
   | true => rw [hb] at hj; cases hj; exact .inl ⟨yMs hb, rfl⟩
   | false =>
    rw [hb] at hj
    simp only [yN5] at hj
    cases hb2 : Nat.beq j k with
    | true => rw [hb2] at hj; cases hj
    | false =>
     rw [hb2] at hj
     refine .inr ⟨fun e => (by subst e; rw [yMr] at hb; cases hb), fun e => ?_, hj⟩
     cases e
     rw [yMr] at hb2; cases hb2
 have apart : ∀ {j blk b}, o ≠ some j → h.get j = some blk → φ j = some b → zKm φ w b blk → w'.heap[b]? = w.heap[b]? ∧ b ≠ g := fun {j blk b} hne hj hφ hB => by
  have h1 : zC u ≠ some b := fun e => by
   obtain ⟨k, rfl, hφk⟩ := hown b e
   have := hs.heap.inj j k _ _ b hj (ho k rfl) hφ hφk
   exact hne (by rw [this])
  refine ⟨gr.block b hB.lt fun e => h1 e.symm, fun e => ?_⟩
  subst e
  rcases hg with e | e
  ·exact h1 e
  ·have := hB.lt
   omega
 refine ⟨wM φ nx g, E, ⟨⟨gr.os.trans hs.below.os, gr.tape.trans hs.below.tape, gr.output.trans hs.below.output, yMk hs.below.size gr.size, fun b hf => (frees b hf).trans (hs.below.block b hf)⟩, ⟨fun j blk hj => ?_, fun j j' b1 b2 b hj hj' e e' => ?_, fun j hj => ?_⟩, hs.tabs, hs.tab, hs.numS _⟩, ?_⟩
 ·rcases was j blk hj with ⟨rfl, rfl⟩ | ⟨h1, h2, h3⟩
  ·exact ⟨g, z8 _ _ _, gfree, cur, R.blk, R.byt⟩
  ·obtain ⟨b, e1, e2, e3⟩ := hs.heap.here j blk h3
   exact ⟨b, by rw [zK h1]; exact e1, e2, e3.mono E (apart h2 h3 e1 e3).1⟩
 ·rcases was j b1 hj with ⟨rfl, rfl⟩ | ⟨h1, h2, h3⟩ <;> rcases was j' b2 hj' with ⟨rfl, rfl⟩ | ⟨h4, h5, h6⟩
  ·rfl
  ·rw [z8] at e
   cases e
   rw [zK h4] at e'
   obtain ⟨b, q1, _, q3⟩ := hs.heap.here j' _ h6
   rw [e'] at q1
   cases q1
   exact absurd rfl (apart h5 h6 e' q3).2
  ·rw [z8] at e'
   cases e'
   rw [zK h1] at e
   obtain ⟨b, q1, _, q3⟩ := hs.heap.here j _ h3
   rw [e] at q1
   cases q1
   exact absurd rfl (apart h2 h3 e q3).2
  ·rw [zK h1] at e
   rw [zK h4] at e'
   exact hs.heap.inj j j' _ _ b h3 h6 e e'
 ·rw [zK oq]
  exact hs.heap.fresh j oq
 ·have hle := R.le
  exact ⟨g, n', cur.size, z8 _ _ _, R.val, R.le, R.max, ⟨(xA R.blk).symm, by omega⟩, hb⟩
theorem zGi {h : CH} {o : Option Nat} (hr : zCi h o = true) : ∀ k, o = some k → h.get k = some .rowb := fun k hk => by
 subst hk
 unfold zCi at hr
 split at hr
 ·rename_i e; cases e
 ·rename_i k' e
  cases e
  split at hr
  ·assumption
  ·cases hr
theorem zR5 {T : TT} (hT : TOk P T) (hs : HS P w0 φ h nx w) {t m : Nat} {x r : CV} {es : List (Nat × Option CB)} {nx' : Nat} (he : yCw T h nx t x m = some (r, es, nx')) {u : Value} (hx : x.rel φ w u) :
  yG1 P ∧ t = 41 ∧ 0 < m ∧ ∃ n, zMo w u n ∧ n + m ≤ 140737488355328 ∧ ∀ v w', qR w u w' v (n + m) → ∃ φ', y0 φ w φ' w' ∧ HS P w0 φ' (apH h es) nx' w' ∧ r.rel φ' w' v := by
 unfold yCw at he
 split at he
 ·rename_i o bnd e _ _ _ _ _ _ _ h1 h2 h3
  cases hb : ((Nat.beq t yC4 && Nat.beq e u8N) && (zCi h o && (Nat.blt 0 m && Nat.ble (bnd + m) 1000000))) with
  | false => rw [hb] at he; cases he
  | true =>
   rw [hb] at he
   cases he
   simp only [yNj] at hb
   obtain ⟨⟨b1, b2⟩, b3, b4, b5⟩ := hb
   obtain rfl := yMs b1
   obtain rfl := yMs b2
   have b4 := yY b4
   have b5 := yP8 b5
   have ho := zGi b3
   obtain ⟨d1, q1, q2⟩ := (hT _ _ h2).und_some
   have hz := hs.tab.2 5 (.int .u8 0) (by unfold zU1; rfl)
   have hi := (hT _ _ h3).info
   have hP : yG1 P := by
    refine ⟨by
     change P.underlying yC4 = _
     rw [q1, zF q2]; rfl, ?_⟩
    change (P.info? 5).map _ = _ at hi
    cases hh : P.info? 5 with
    | none => rw [hh] at hi; cases hi
    | some ii =>
     rw [hh] at hi hz
     simp only [yMw, yMc, yMu, yMm] at hi hz ⊢
     exact ⟨hz, hi.2.1, hi.2.2⟩
   obtain ⟨n, n1, n2, _⟩ := zR3 hs h1 ho hx
   exact ⟨hP, rfl, b4, n, n2, by omega, fun v w' ht => zR2 hs h1 ho hx ht oq oq⟩
 ·cases he
end
end Go.Proofs.YtioaahmkebojiaaGreatDoor
