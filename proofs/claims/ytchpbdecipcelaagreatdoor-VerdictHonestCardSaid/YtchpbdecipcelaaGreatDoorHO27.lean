import Derived.Test.YtchpbdecipcelaaGreatDoorHO01
import Derived.Test.YtchpbdecipcelaaGreatDoorHO10
import Derived.Test.YtchpbdecipcelaaGreatDoorHO11
import Derived.Test.YtchpbdecipcelaaGreatDoorHO26
namespace Go.Proofs.YtchpbdecipcelaaGreatDoor
set_option linter.unusedVariables false
set_option linter.unusedSimpArgs false
set_option maxHeartbeats 4000000
set_option maxRecDepth 100000
open Go.Shelf Go.RowKit
def oct (d : Int) (k : Nat) : Int := IntKind.u8.wrap (d.fdiv (2 ^ min (Int.toNat (56 - 8 * (k : Int))) 64))
def octA (d : Int) : List AV := [.raw (.int .u8 (oct d 0)), .raw (.int .u8 (oct d 1)), .raw (.int .u8 (oct d 2)), .raw (.int .u8 (oct d 3)), .raw (.int .u8 (oct d 4)), .raw (.int .u8 (oct d 5)), .raw (.int .u8 (oct d 6)), .raw (.int .u8 (oct d 7))]
theorem zVh (d : Int) (hd : inK .u64 d) : FnA Tryz.prog 247 [.raw (.int .u64 d)] (.agg (octA d)) := by
 unfold octA
 refine en Tryz.func247 Tryz.ntmps247 [.cell 2 279] rfl ?_
 try (refine wg ?_; try refine sM fun K hK => ?_)
 refine zJ (fun k : Nat => ⟨17, 0, [(0, true, .raw (.int .u64 d)), (2, true, .box 0 0), (4, true, .raw (.int .i64 k))], [[.raw (.int .u8 (if 0 < k then oct d 0 else 0)), .raw (.int .u8 (if 1 < k then oct d 1 else 0)), .raw (.int .u8 (if 2 < k then oct d 2 else 0)), .raw (.int .u8 (if 3 < k then oct d 3 else 0)), .raw (.int .u8 (if 4 < k then oct d 4 else 0)), .raw (.int .u8 (if 5 < k then oct d 5 else 0)), .raw (.int .u8 (if 6 < k then oct d 6 else 0)), .raw (.int .u8 (if 7 < k then oct d 7 else 0))]], [], ((0, []), [], true)⟩)
  (fun k => k ≤ 8) (fun k => 8 - k) 0 ?_ (by omega) ?_
 ·exact wkZ
 ·rintro k hk
  obtain ⟨j, hj⟩ : ∃ j, j = k + 1 := ⟨_, rfl⟩
  have hk : k = 8 ∨ k = 0 ∨ k = 1 ∨ k = 2 ∨ k = 3 ∨ k = 4 ∨ k = 5 ∨ k = 6 ∨ k = 7 := by omega
  rcases hk with rfl | hk
  ·repeat' first
    | refine wkg trivial ?_
    | (refine cS (fun hb => ?_) fun hb => ?_ <;> try (cases hb; done))
    | refine sM fun K hK => ?_
    | fail
   all_goals first | (exfalso; omega) | skip
   simp only [Nat.reduceLT, if_true]
   all_goals exact fA
  ·rcases hk with rfl | rfl | rfl | rfl | rfl | rfl | rfl | rfl
   all_goals
    simp only [Nat.reduceLT, if_true, if_false]
    repeat' first
     | refine wkg trivial ?_
     | (refine cS (fun hb => ?_) fun hb => ?_ <;> try (cases hb; done))
     | refine sM fun K hK => ?_
     | fail
    all_goals first | (exfalso; omega) | skip
    refine ⟨j, by omega, by omega, ?_⟩
    subst hj
    simp only [Nat.reduceLT, Nat.reduceAdd, if_true, if_false]
    exact wkZ
def zJm (d : Int) : List UInt8 := (List.range 8).map fun q => UInt8.ofNat (oct d q).toNat
theorem zJn (d : Int) (q : Nat) : 0 ≤ oct d q ∧ oct d q < 256 := by
 show 0 ≤ (_ : Int) % _ ∧ (_ : Int) % _ < _
 exact ⟨Int.emod_nonneg _ (by decide), yLz _ (by decide)⟩
set_option maxHeartbeats 6400000 in
set_option maxRecDepth 100000 in
theorem zUz (x : Nat → Int) (n b o cap : Nat) (h : ∀ q, q < n → -9223372036854775808 ≤ x q ∧ x q ≤ 9223372036854775807) (hn0 : 0 < n) (hn : n ≤ 1000000) (pre : List UInt8) (hp : pre.length ≤ 8) (g : Nat) (w : World) (hc : ∀ q, q < n → w.cell? ⟨b, o + q, none⟩ = some (.int .i64 (x q))) (hb : b < w.heap.size)
  (hg : g < w.heap.size) (hpre : ∀ j v, (Lib.byteCells pre)[j]? = some v → w.cell? ⟨g, j, none⟩ = some v) (htab : Lib.TabIs Tryz.prog w "internal/strconv.uint64pow10" .u64 Lib.pow10Tab) :
  Calls Tryz.prog 249 #[.slice (some ⟨g, 0, none⟩) pre.length pre.length, .slice (some ⟨b, o, none⟩) n cap] w fun e w' => ∃ v', e = .returned v' ∧ w'.ownsRow w.heap.size 5 1 v' (pre ++ txt x n).length (Lib.byteCells (pre ++ txt x n)) ∧ Below w.heap.size w w' := by
 obtain ⟨i0, hi, hz0, hz1, hz2⟩ := info_parts zOs
 have hT := Lib.tabBelow_of_tabIs htab
 go_enter Tryz.func249, Tryz.ntmps249
 go_wp2
 go_loopw [0, 9] (fun v i wr => ∃ k : Nat, k ≤ n ∧ i = .int .i64 k ∧ (k = 0 ∧ v = .slice (some ⟨g, 0, none⟩) pre.length pre.length ∨ wr.ownsRow w.heap.size 5 1 v (pre ++ txt x k).length (Lib.byteCells (pre ++ txt x k))) ∧ Below w.heap.size w wr) (fun _ i _ => n - (intOf i).toNat)
 case atStart => exact ⟨0, yIl _, rfl, .inl ⟨rfl, rfl⟩, Below.refl _ _⟩
 case round =>
  obtain ⟨k, hk, rfl, hown, hnx⟩ := hrel
  have hcx : k < n → wr.cell? ⟨b, o + k, none⟩ = some (.int .i64 (x k)) := fun hlt => (hnx.cell (by exact hb)).trans (hc k hlt)
  have hlen := kE x k fun q hq => h q (by omega)
  have hlen2 : (pre ++ txt x k).length ≤ 8 + k * 22 := by rw [yJ2]; omega
  have hsz := hnx.size
  by_cases hlt : k < n
  ·have hcx := hcx hlt
   have hitl := Lib.itoa_length_le (x k) (h k hlt).1 (h k hlt).2
   have hA : Calls Tryz.prog 257 #[u0, .int .i64 (x k), .int .i64 10] wr fun e w' => ∃ v', e = .returned v' ∧ w'.ownsRow w.heap.size 5 1 v' ((pre ++ txt x k).length + (Lib.itoa (x k)).length) (Lib.byteCells (pre ++ txt x k) ++ Lib.byteCells (Lib.itoa (x k))) ∧ Below w.heap.size wr w' := by
    rcases hown with ⟨rfl, rfl⟩ | hown
    ·refine (zQn g pre.length (Lib.byteCells pre) wr (x 0) (h 0 hlt).1 (h 0 hlt).2 (Lib.byteCells_length _) (fun j v hj => (hnx.cell (p := ⟨g, j, none⟩) (by exact hg)).trans (hpre j v hj)) (by omega) (hT wr hnx)).mono ?_
     rintro e w1 ⟨v1, rfl, ⟨h1, h2⟩, hnx1⟩
     refine ⟨v1, rfl, ⟨by simpa [txt] using h1, ?_⟩, ⟨hnx1.1, hnx1.2, hnx1.3, hnx1.4, fun j hj => hnx1.5 j (by omega)⟩⟩
     rcases h2 with ⟨e0, h2⟩ | ⟨g', cap', cur', e1, e2, e3⟩
     ·exact .inl ⟨e0, by simpa [txt] using h2⟩
     ·exact .inr ⟨g', cap', cur', by simpa [txt] using e1, by omega, by simpa [txt] using e3⟩
    ·refine (zL0 w.heap.size _ (x k) (h k hlt).1 (h k hlt).2 _ _ _ hown hsz (by omega) (hT.on hnx)).mono ?_
     rintro e w1 ⟨v1, rfl, hown1, hnx1, -⟩
     exact ⟨v1, rfl, hown1, hnx1⟩
   go_wp2_with (go_at_call 257; go_loud (refine hA.mono ?_); rintro e w1 ⟨v1, rfl, hown1, hnx1⟩; refine Hid.out ?_)
   refine Lib.hid ?_
   have hnx2 := hnx.trans hnx1
   have hsz2 := hnx2.size
   go_wp2_with (at_builtin; refine wpList_append_own _ rfl _ _ 211 rfl w.heap.size 5 i0 (.int .u8 0) 1 1 Tryz.underlying211 hi hz0 hz1 hz2 rfl (by decide) _ _ _ rfl (hown1.alloc _) ⟨w1.heap.size, 0, none⟩ 1 1 [Value.int .u8 32] rfl rfl ?c1 ?c2 ?c3 ?c4 ?c5 ?_)
   case c1 =>
    intro j u hj
    match j, hj with
    | 0, hj => simp at hj; subst hj; simp [Addr.add]
   case c2 => intro u hu; simp at hu; subst hu; rfl
   case c3 => unfold maxLen; omega
   case c4 => omega
   case c5 => simp; omega
   intro v2 w2 hown2 hgrow _
   have hnx3 : Below w.heap.size w w2 := (hnx2.alloc (by omega) _).grown hgrow (by simp; omega) (fun q hq => (hown1.lt q hq).1)
   have eL : Lib.byteCells (pre ++ txt x k) ++ (Lib.byteCells (Lib.itoa (x k)) ++ [Value.int .u8 32]) = Lib.byteCells (pre ++ txt x (k + 1)) := by simp [txt, Lib.byteCells]
   have eN : pre.length + (txt x k).length + (Lib.itoa (x k)).length + 1 = (pre ++ txt x (k + 1)).length := by simp only [txt, yJ2, yIz, yK8]; omega
   rw [eL, eN] at hown2
   have HN := Lib.hid eN
   clear eL eN
   go_wp2
   go_roundw
   case rel => exact ⟨k + 1, by omega, by go_num, .inr hown2, hnx3⟩
   case measure => simp [intOf]; omega
  ·have hkn : k = n := by omega
   subst hkn
   go_wp2
   go_ret
   exact ⟨_, rfl, hown.resolve_left (by omega), hnx⟩
def zYk (d : Int) : List Value := [.int .u8 (oct d 0), .int .u8 (oct d 1), .int .u8 (oct d 2), .int .u8 (oct d 3), .int .u8 (oct d 4), .int .u8 (oct d 5), .int .u8 (oct d 6), .int .u8 (oct d 7)]
theorem zPx (d : Int) : Lib.byteCells (zJm d) = zYk d := by
 have h : ∀ q, ((UInt8.ofNat (oct d q).toNat).toNat : Int) = oct d q := fun q => by
  have := zJn d q
  rw [UInt8.toNat_ofNat']
  omega
 simp only [Lib.byteCells, zJm, zYk, List.range, List.range.loop, yJo, yKf, h]
theorem qD (d : Int) : (zJm d).length = 8 := by simp [zJm]
theorem zNi {G : Gh} {w : World} : ∀ (us vs : List Value), AV.relL G w (us.map AV.raw) vs → vs = us
 | [], vs, h => h
 | u :: us, vs, h => by
  obtain ⟨v, r, rfl, e, hr⟩ := h
  rw [show v = u from e, zNi us r hr]
theorem zU7 {w : World} {base : Nat} {v : Value} {l : List UInt8} (hown : w.ownsRow base 5 1 v l.length (Lib.byteCells l)) (hpos : 0 < l.length) :
  ∃ imm : Nat → Nat → Prop, (∀ b o, imm b o → (w.cell? ⟨b, o, none⟩).isSome = true) ∧ (zOr l).rel ⟨imm, [], []⟩ w v := by
 obtain ⟨hl, ho⟩ := id hown
 rcases ho with ⟨_, ho⟩ | ⟨g, cap', cur, rfl, hg, hh, hcap, hmax, hcs, htake⟩
 ·omega
 have hcell : ∀ q, q < l.length → w.cell? ⟨g, q, none⟩ = some (.int .u8 ((l.getD q 0).toNat : Int)) := fun q hq => by
  have := hown.cells (g := g) rfl q (.int .u8 ((l.getD q 0).toNat : Int)) (by simp [Lib.byteCells, hq])
  have hadd : (⟨g, 0, none⟩ : Addr).add q = ⟨g, q, none⟩ := by
   unfold Addr.add; split
   ·rename_i h0; rw [h0]
   ·simp
  rwa [hadd] at this
 refine ⟨fun b o => b = g ∧ o < l.length, ?_, ?_⟩
 ·rintro b o ⟨rfl, i⟩
  rw [hcell o i]; rfl
 ·refine ⟨_, _, rfl, hcap, hmax, fun _ => ⟨g, 0, rfl, fun i hi => ⟨[.int .u8 ((l.getD i 0).toNat : Int)], ⟨_, _, rfl, rfl, rfl⟩, rfl, fun j u hj => ?_⟩⟩⟩
  have hj0 : j = 0 := by
   rcases j with _ | j
   ·rfl
   ·simp at hj
  subst hj0
  simp only [yIf, yIg] at hj
  subst hj
  refine ⟨⟨rfl, by omega⟩, ?_⟩
  rw [show 0 + i * 1 + 0 = i from by omega]
  exact hcell i hi
theorem yB2 (d : Int) (hd : inK .u64 d) (n : Nat) (x : Nat → Int) (h : zO3 n x) (h0 : 0 < n) (hn : n ≤ 1000000) : FnA Tryz.prog 230 [.raw (.int .u64 d), zT1 n x] (.raw (.int .u64 (zUs (zJm d ++ txt x n)))) := by
 refine ⟨⟨_, Tryz.func230, by kernel_rfl, by kernel_rfl⟩, fun imm w vs htb hi hr => ?_⟩
 obtain ⟨v1, r1, rfl, e1, v2, r2, rfl, e2, rfl⟩ := hr
 obtain ⟨A, cap, rfl, _, _, hA⟩ := e2
 obtain ⟨b, o, rfl, hel⟩ := hA h0
 rw [show v1 = .int .u64 d from e1]
 have hc : ∀ q, q < n → w.cell? ⟨b, o + q, none⟩ = some (.int .i64 (x q)) := fun q hq => by
  obtain ⟨vs, hv, _, h3⟩ := hel q hq
  obtain ⟨v, r, rfl, ev, rfl⟩ := hv
  have := (h3 0 v rfl).2
  rw [show v = .int .i64 (x q) from ev] at this
  simpa using this
 have hb : b < w.heap.size := World.block_lt_of_cell? w ⟨b, o + 0, none⟩ (hc 0 h0)
 have htab : Lib.TabIs Tryz.prog w "internal/strconv.uint64pow10" .u64 Lib.pow10Tab := htb _ (by unfold wB; kernel_rfl : wB Tryz.prog 2)
 have hT := Lib.tabBelow_of_tabIs htab
 have hO : Calls Tryz.prog 247 #[.int .u64 d] w fun e w' => e = .returned (.agg (zYk d).toArray) ∧ Below w.heap.size w w' := by
  refine ((zVh d hd).calls imm w [.int .u64 d] htb hi ⟨_, _, rfl, rfl, rfl⟩).mono ?_
  rintro e w1 ⟨v, imm1, rfl, hb1, i1, i2, i3, vs, rfl, hv⟩
  rw [zNi (zYk d) vs hv]
  exact ⟨rfl, hb1⟩
 unfold zYk at hO
 go_enter Tryz.func230, Tryz.ntmps230
 go_wp2_with (go_at_call 247; go_loud (refine hO.mono ?_); rintro e w1 ⟨rfl, hb1⟩; refine Hid.out ?_)
 refine Lib.hid ?_
 have hT8 := fun (g : Nat) (w : World) => zUz x n b o cap h h0 hn (zJm d) (by simp [qD]) g w
 rw [qD, zPx] at hT8
 have hs1 := hb1.size
 go_wp2_with (go_at_call 249; go_loud (refine (hT8 _ _ ?t1 ?t2 ?t3 ?t4 ?t5).mono ?_); rotate_right; rintro e w2 ⟨v2, rfl, hown, hb2⟩; refine Hid.out ?_)
 case t1 => exact fun q hq => ((hb1.alloc hs1 _).cell (p := ⟨b, o + q, none⟩) (by exact hb)).trans (hc q hq)
 case t2 => exact yIp hb (hb1.alloc hs1 _).size
 case t3 =>
  show w1.heap.size < (w1.heap.push _).size
  rw [Array.size_push]; exact Nat.lt_succ_self _
 case t4 =>
  intro j v hj
  have h4 := heap_alloc_new w1 (Obj.cells (zYk d).toArray 279)
  simp only [World.cell?]
  unfold zYk at h4 hj
  rw [h4]
  simpa using hj
 case t5 => exact hT _ (hb1.alloc hs1 _)
 refine Lib.hid ?_
 have hb3 : Below w.heap.size w w2 := (hb1.alloc hs1 _).trans (hb2.mono (yIo hs1 (by show w1.heap.size ≤ (w1.heap.push _).size; rw [Array.size_push]; exact Nat.le_succ _)))
 have hlen : (zJm d ++ txt x n).length ≤ 1000000000 := by
  have := kE x n h
  rw [yJ2, qD]; omega
 have hS : Calls Tryz.prog 248 #[v2] w2 fun e w' => e = .returned (.int .u64 (zUs (zJm d ++ txt x n))) ∧ Below w2.heap.size w2 w' := by
  obtain ⟨imm', hi', hrel⟩ := zU7 hown (by rw [yJ2, qD]; omega)
  refine ((zLb (zJm d ++ txt x n) hlen).calls imm' w2 [v2] (htb.keep fun g hg => hb3.block g (htb.lt hg)) hi' ⟨_, _, rfl, hrel, rfl⟩).mono ?_
  rintro e w3 ⟨v, imm1, rfl, hb4, i1, i2, i3, hv⟩
  rw [show v = _ from hv]
  exact ⟨rfl, hb4⟩
 clear hown hb2 hT8 hO
 go_wp2_with (go_at_call 248; go_loud (refine hS.mono ?_); rintro e w3 ⟨rfl, hb4⟩; refine Hid.out ?_)
 refine Lib.hid ?_
 have hb5 : Below w.heap.size w w3 := hb3.trans (hb4.mono hb3.size)
 go_wp2
 go_ret
 exact ⟨_, imm, rfl, hb5, fun _ _ i => i, fun _ _ i => .inl i, fun b o i => by
  have h1 := hi b o i
  have hlt : b < w.heap.size := by
   cases hcc : w.cell? ⟨b, o, none⟩ with
   | none => rw [hcc] at h1; cases h1
   | some u => exact World.block_lt_of_cell? w ⟨b, o, none⟩ hcc
  rw [hb5.cell (p := ⟨b, o, none⟩) hlt]; exact h1, rfl⟩
end Go.Proofs.YtchpbdecipcelaaGreatDoor
