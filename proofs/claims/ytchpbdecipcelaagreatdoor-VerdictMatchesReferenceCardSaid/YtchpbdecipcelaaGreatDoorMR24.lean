import Derived.Test.YtchpbdecipcelaaGreatDoorMR01
import Derived.Test.YtchpbdecipcelaaGreatDoorMR10
import Derived.Test.YtchpbdecipcelaaGreatDoorMR11
import Derived.Test.YtchpbdecipcelaaGreatDoorMR17
import Derived.Test.YtchpbdecipcelaaGreatDoorMR23
namespace Go.Proofs.YtchpbdecipcelaaGreatDoor
set_option linter.unusedVariables false
set_option linter.unusedSimpArgs false
set_option maxHeartbeats 4000000
set_option maxRecDepth 100000
open Go.Shelf Go.RowKit
def oct (d : Int) (k : Nat) : Int := IntKind.u8.wrap (d.fdiv (2 ^ min (Int.toNat (56 - 8 * (k : Int))) 64))
def octA (d : Int) : List AV := [.raw (.int .u8 (oct d 0)), .raw (.int .u8 (oct d 1)), .raw (.int .u8 (oct d 2)), .raw (.int .u8 (oct d 3)), .raw (.int .u8 (oct d 4)), .raw (.int .u8 (oct d 5)), .raw (.int .u8 (oct d 6)), .raw (.int .u8 (oct d 7))]
theorem zXa (d : Int) (hd : inK .u64 d) : FnA Tryz.prog 247 [.raw (.int .u64 d)] (.agg (octA d)) := by
 unfold octA
 refine en Tryz.func247 Tryz.ntmps247 [.cell 2 279] rfl ?_
 try (refine wg ?_; try refine sM fun K hK => ?_)
 refine zF (fun k : Nat => ⟨17, 0, [(0, true, .raw (.int .u64 d)), (2, true, .box 0 0), (4, true, .raw (.int .i64 k))], [[.raw (.int .u8 (if 0 < k then oct d 0 else 0)), .raw (.int .u8 (if 1 < k then oct d 1 else 0)), .raw (.int .u8 (if 2 < k then oct d 2 else 0)), .raw (.int .u8 (if 3 < k then oct d 3 else 0)), .raw (.int .u8 (if 4 < k then oct d 4 else 0)), .raw (.int .u8 (if 5 < k then oct d 5 else 0)), .raw (.int .u8 (if 6 < k then oct d 6 else 0)), .raw (.int .u8 (if 7 < k then oct d 7 else 0))]], [], ((0, []), [], true)⟩)
  (fun k => k ≤ 8) (fun k => 8 - k) 0 ?_ (by omega) ?_
 ·exact wkZ
 ·rintro k hk
  obtain ⟨j, hj⟩ : ∃ j, j = k + 1 := ⟨_, rfl⟩
  have hk : k = 8 ∨ k = 0 ∨ k = 1 ∨ k = 2 ∨ k = 3 ∨ k = 4 ∨ k = 5 ∨ k = 6 ∨ k = 7 := by omega
  rcases hk with rfl | hk
  ·repeat' first
    | refine wkg trivial ?_
    | (refine cS (fun hb => ?_) fun hb => ?_ <;> try (cases hb; done))
    | refine sM fun K hK => ?_
    | fail
   all_goals first | (exfalso; omega) | skip
   simp only [Nat.reduceLT, if_true]
   all_goals exact fA
  ·rcases hk with rfl | rfl | rfl | rfl | rfl | rfl | rfl | rfl
   all_goals
    simp only [Nat.reduceLT, if_true, if_false]
    repeat' first
     | refine wkg trivial ?_
     | (refine cS (fun hb => ?_) fun hb => ?_ <;> try (cases hb; done))
     | refine sM fun K hK => ?_
     | fail
    all_goals first | (exfalso; omega) | skip
    refine ⟨j, by omega, by omega, ?_⟩
    subst hj
    simp only [Nat.reduceLT, Nat.reduceAdd, if_true, if_false]
    exact wkZ
def zKh (d : Int) : List UInt8 := (List.range 8).map fun q => UInt8.ofNat (oct d q).toNat
theorem zKi (d : Int) (q : Nat) : 0 ≤ oct d q ∧ oct d q < 256 := by
 show 0 ≤ (_ : Int) % _ ∧ (_ : Int) % _ < _
 exact ⟨Int.emod_nonneg _ (by decide), Int.emod_lt_of_pos _ (by decide)⟩
set_option maxHeartbeats 6400000 in
set_option maxRecDepth 100000 in
theorem zWr (x : Nat → Int) (n b o cap : Nat) (h : ∀ q, q < n → -9223372036854775808 ≤ x q ∧ x q ≤ 9223372036854775807) (hn0 : 0 < n) (hn : n ≤ 1000000) (pre : List UInt8) (hp : pre.length ≤ 8) (g : Nat) (w : World) (hc : ∀ q, q < n → w.cell? ⟨b, o + q, none⟩ = some (.int .i64 (x q))) (hb : b < w.heap.size)
  (hg : g < w.heap.size) (hpre : ∀ j v, (Lib.byteCells pre)[j]? = some v → w.cell? ⟨g, j, none⟩ = some v) (htab : Lib.TabIs Tryz.prog w "internal/strconv.uint64pow10" .u64 Lib.pow10Tab) :
  Calls Tryz.prog 249 #[.slice (some ⟨g, 0, none⟩) pre.length pre.length, .slice (some ⟨b, o, none⟩) n cap] w fun e w' => ∃ v', e = .returned v' ∧ w'.ownsRow w.heap.size 5 1 v' (pre ++ txt x n).length (Lib.byteCells (pre ++ txt x n)) ∧ Below w.heap.size w w' := by
 obtain ⟨i0, hi, hz0, hz1, hz2⟩ := info_parts zPt
 have hT := Lib.tabBelow_of_tabIs htab
 go_enter Tryz.func249, Tryz.ntmps249
 go_wp2
 go_loopw [0, 9] (fun v i wr => ∃ k : Nat, k ≤ n ∧ i = .int .i64 k ∧ (k = 0 ∧ v = .slice (some ⟨g, 0, none⟩) pre.length pre.length ∨ wr.ownsRow w.heap.size 5 1 v (pre ++ txt x k).length (Lib.byteCells (pre ++ txt x k))) ∧ Below w.heap.size w wr) (fun _ i _ => n - (intOf i).toNat)
 case atStart => exact ⟨0, yKo _, rfl, .inl ⟨rfl, rfl⟩, Below.refl _ _⟩
 case round =>
  obtain ⟨k, hk, rfl, hown, hnx⟩ := hrel
  have hcx : k < n → wr.cell? ⟨b, o + k, none⟩ = some (.int .i64 (x k)) := fun hlt => (hnx.cell (by exact hb)).trans (hc k hlt)
  have hlen := kM x k fun q hq => h q (by omega)
  have hlen2 : (pre ++ txt x k).length ≤ 8 + k * 22 := by rw [yL5]; omega
  have hsz := hnx.size
  by_cases hlt : k < n
  ·have hcx := hcx hlt
   have hitl := Lib.itoa_length_le (x k) (h k hlt).1 (h k hlt).2
   have hA : Calls Tryz.prog 257 #[u0, .int .i64 (x k), .int .i64 10] wr fun e w' => ∃ v', e = .returned v' ∧ w'.ownsRow w.heap.size 5 1 v' ((pre ++ txt x k).length + (Lib.itoa (x k)).length) (Lib.byteCells (pre ++ txt x k) ++ Lib.byteCells (Lib.itoa (x k))) ∧ Below w.heap.size wr w' := by
    rcases hown with ⟨rfl, rfl⟩ | hown
    ·refine (zRy g pre.length (Lib.byteCells pre) wr (x 0) (h 0 hlt).1 (h 0 hlt).2 (Lib.byteCells_length _) (fun j v hj => (hnx.cell (p := ⟨g, j, none⟩) (by exact hg)).trans (hpre j v hj)) (by omega) (hT wr hnx)).mono ?_
     rintro e w1 ⟨v1, rfl, ⟨h1, h2⟩, hnx1⟩
     refine ⟨v1, rfl, ⟨by simpa [txt] using h1, ?_⟩, ⟨hnx1.1, hnx1.2, hnx1.3, hnx1.4, fun j hj => hnx1.5 j (by omega)⟩⟩
     rcases h2 with ⟨e0, h2⟩ | ⟨g', cap', cur', e1, e2, e3⟩
     ·exact .inl ⟨e0, by simpa [txt] using h2⟩
     ·exact .inr ⟨g', cap', cur', by simpa [txt] using e1, by omega, by simpa [txt] using e3⟩
    ·refine (zLv w.heap.size _ (x k) (h k hlt).1 (h k hlt).2 _ _ _ hown hsz (by omega) (hT.on hnx)).mono ?_
     rintro e w1 ⟨v1, rfl, hown1, hnx1, -⟩
     exact ⟨v1, rfl, hown1, hnx1⟩
   go_wp2_with (go_at_call 257; go_loud (refine hA.mono ?_); rintro e w1 ⟨v1, rfl, hown1, hnx1⟩; refine Hid.out ?_)
   refine Lib.hid ?_
   have hnx2 := hnx.trans hnx1
   have hsz2 := hnx2.size
   go_wp2_with (at_builtin; refine wpList_append_own _ rfl _ _ 211 rfl w.heap.size 5 i0 (.int .u8 0) 1 1 Tryz.underlying211 hi hz0 hz1 hz2 rfl (by decide) _ _ _ rfl (hown1.alloc _) ⟨w1.heap.size, 0, none⟩ 1 1 [Value.int .u8 32] rfl rfl ?c1 ?c2 ?c3 ?c4 ?c5 ?_)
   case c1 =>
    intro j u hj
    match j, hj with
    | 0, hj => simp at hj; subst hj; simp [Addr.add]
   case c2 => intro u hu; simp at hu; subst hu; rfl
   case c3 => unfold maxLen; omega
   case c4 => omega
   case c5 => simp; omega
   intro v2 w2 hown2 hgrow _
   have hnx3 : Below w.heap.size w w2 := (hnx2.alloc (by omega) _).grown hgrow (by simp; omega) (fun q hq => (hown1.lt q hq).1)
   have eL : Lib.byteCells (pre ++ txt x k) ++ (Lib.byteCells (Lib.itoa (x k)) ++ [Value.int .u8 32]) = Lib.byteCells (pre ++ txt x (k + 1)) := by simp [txt, Lib.byteCells]
   have eN : pre.length + (txt x k).length + (Lib.itoa (x k)).length + 1 = (pre ++ txt x (k + 1)).length := by simp only [txt, yL5, yL2, yMc]; omega
   rw [eL, eN] at hown2
   have HN := Lib.hid eN
   clear eL eN
   go_wp2
   go_roundw
   case rel => exact ⟨k + 1, by omega, by go_num, .inr hown2, hnx3⟩
   case measure => simp [intOf]; omega
  ·have hkn : k = n := by omega
   subst hkn
   go_wp2
   go_ret
   exact ⟨_, rfl, hown.resolve_left (by omega), hnx⟩
def yAj (d : Int) : List Value := [.int .u8 (oct d 0), .int .u8 (oct d 1), .int .u8 (oct d 2), .int .u8 (oct d 3), .int .u8 (oct d 4), .int .u8 (oct d 5), .int .u8 (oct d 6), .int .u8 (oct d 7)]
theorem zR2 (d : Int) : Lib.byteCells (zKh d) = yAj d := by
 have h : ∀ q, ((UInt8.ofNat (oct d q).toNat).toNat : Int) = oct d q := fun q => by
  have := zKi d q
  rw [UInt8.toNat_ofNat']
  omega
 simp only [Lib.byteCells, zKh, yAj, List.range, List.range.loop, yLt, yMk, h]
theorem qL (d : Int) : (zKh d).length = 8 := by simp [zKh]
theorem zOk {G : Gh} {w : World} : ∀ (us vs : List Value), AV.relL G w (us.map AV.raw) vs → vs = us
 | [], vs, h => h
 | u :: us, vs, h => by
  obtain ⟨v, r, rfl, e, hr⟩ := h
  rw [show v = u from e, zOk us r hr]
theorem zW0 {w : World} {base : Nat} {v : Value} {l : List UInt8} (hown : w.ownsRow base 5 1 v l.length (Lib.byteCells l)) (hpos : 0 < l.length) :
  ∃ imm : Nat → Nat → Prop, (∀ b o, imm b o → (w.cell? ⟨b, o, none⟩).isSome = true) ∧ (zPs l).rel ⟨imm, [], []⟩ w v := by
 obtain ⟨hl, ho⟩ := id hown
 rcases ho with ⟨_, ho⟩ | ⟨g, cap', cur, rfl, hg, hh, hcap, hmax, hcs, htake⟩
 ·omega
 have hcell : ∀ q, q < l.length → w.cell? ⟨g, q, none⟩ = some (.int .u8 ((l.getD q 0).toNat : Int)) := fun q hq => by
  have := hown.cells (g := g) rfl q (.int .u8 ((l.getD q 0).toNat : Int)) (by simp [Lib.byteCells, hq])
  have hadd : (⟨g, 0, none⟩ : Addr).add q = ⟨g, q, none⟩ := by
   unfold Addr.add; split
   ·rename_i h0; rw [h0]
   ·simp
  rwa [hadd] at this
 refine ⟨fun b o => b = g ∧ o < l.length, ?_, ?_⟩
 ·rintro b o ⟨rfl, i⟩
  rw [hcell o i]; rfl
 ·refine ⟨_, _, rfl, hcap, hmax, fun _ => ⟨g, 0, rfl, fun i hi => ⟨[.int .u8 ((l.getD i 0).toNat : Int)], ⟨_, _, rfl, rfl, rfl⟩, rfl, fun j u hj => ?_⟩⟩⟩
  have hj0 : j = 0 := by
   rcases j with _ | j
   ·rfl
   ·simp at hj
  subst hj0
  simp only [yKi, yKj] at hj
  subst hj
  refine ⟨⟨rfl, by omega⟩, ?_⟩
  rw [show 0 + i * 1 + 0 = i from by omega]
  exact hcell i hi
theorem yDe (d : Int) (hd : inK .u64 d) (n : Nat) (x : Nat → Int) (h : zP3 n x) (h0 : 0 < n) (hn : n ≤ 1000000) : FnA Tryz.prog 230 [.raw (.int .u64 d), zUl n x] (.raw (.int .u64 (zWk (zKh d ++ txt x n)))) := by
 refine ⟨⟨_, Tryz.func230, by kernel_rfl, by kernel_rfl⟩, fun imm w vs htb hi hr => ?_⟩
 obtain ⟨v1, r1, rfl, e1, v2, r2, rfl, e2, rfl⟩ := hr
 obtain ⟨A, cap, rfl, _, _, hA⟩ := e2
 obtain ⟨b, o, rfl, hel⟩ := hA h0
 rw [show v1 = .int .u64 d from e1]
 have hc : ∀ q, q < n → w.cell? ⟨b, o + q, none⟩ = some (.int .i64 (x q)) := fun q hq => by
  obtain ⟨vs, hv, _, h3⟩ := hel q hq
  obtain ⟨v, r, rfl, ev, rfl⟩ := hv
  have := (h3 0 v rfl).2
  rw [show v = .int .i64 (x q) from ev] at this
  simpa using this
 have hb : b < w.heap.size := World.block_lt_of_cell? w ⟨b, o + 0, none⟩ (hc 0 h0)
 have htab : Lib.TabIs Tryz.prog w "internal/strconv.uint64pow10" .u64 Lib.pow10Tab := htb _ (by unfold wH; kernel_rfl : wH Tryz.prog 2)
 have hT := Lib.tabBelow_of_tabIs htab
 have hO : Calls Tryz.prog 247 #[.int .u64 d] w fun e w' => e = .returned (.agg (yAj d).toArray) ∧ Below w.heap.size w w' := by
  refine ((zXa d hd).calls imm w [.int .u64 d] htb hi ⟨_, _, rfl, rfl, rfl⟩).mono ?_
  rintro e w1 ⟨v, imm1, rfl, hb1, i1, i2, i3, vs, rfl, hv⟩
  rw [zOk (yAj d) vs hv]
  exact ⟨rfl, hb1⟩
 unfold yAj at hO
 go_enter Tryz.func230, Tryz.ntmps230
 go_wp2_with (go_at_call 247; go_loud (refine hO.mono ?_); rintro e w1 ⟨rfl, hb1⟩; refine Hid.out ?_)
 refine Lib.hid ?_
 have hT8 := fun (g : Nat) (w : World) => zWr x n b o cap h h0 hn (zKh d) (by simp [qL]) g w
 rw [qL, zR2] at hT8
 have hs1 := hb1.size
 go_wp2_with (go_at_call 249; go_loud (refine (hT8 _ _ ?t1 ?t2 ?t3 ?t4 ?t5).mono ?_); rotate_right; rintro e w2 ⟨v2, rfl, hown, hb2⟩; refine Hid.out ?_)
 case t1 => exact fun q hq => ((hb1.alloc hs1 _).cell (p := ⟨b, o + q, none⟩) (by exact hb)).trans (hc q hq)
 case t2 => exact yKs hb (hb1.alloc hs1 _).size
 case t3 =>
  show w1.heap.size < (w1.heap.push _).size
  rw [Array.size_push]; exact Nat.lt_succ_self _
 case t4 =>
  intro j v hj
  have h4 := heap_alloc_new w1 (Obj.cells (yAj d).toArray 279)
  simp only [World.cell?]
  unfold yAj at h4 hj
  rw [h4]
  simpa using hj
 case t5 => exact hT _ (hb1.alloc hs1 _)
 refine Lib.hid ?_
 have hb3 : Below w.heap.size w w2 := (hb1.alloc hs1 _).trans (hb2.mono (yKr hs1 (by show w1.heap.size ≤ (w1.heap.push _).size; rw [Array.size_push]; exact Nat.le_succ _)))
 have hlen : (zKh d ++ txt x n).length ≤ 1000000000 := by
  have := kM x n h
  rw [yL5, qL]; omega
 have hS : Calls Tryz.prog 248 #[v2] w2 fun e w' => e = .returned (.int .u64 (zWk (zKh d ++ txt x n))) ∧ Below w2.heap.size w2 w' := by
  obtain ⟨imm', hi', hrel⟩ := zW0 hown (by rw [yL5, qL]; omega)
  refine ((zM7 (zKh d ++ txt x n) hlen).calls imm' w2 [v2] (htb.keep fun g hg => hb3.block g (htb.lt hg)) hi' ⟨_, _, rfl, hrel, rfl⟩).mono ?_
  rintro e w3 ⟨v, imm1, rfl, hb4, i1, i2, i3, hv⟩
  rw [show v = _ from hv]
  exact ⟨rfl, hb4⟩
 clear hown hb2 hT8 hO
 go_wp2_with (go_at_call 248; go_loud (refine hS.mono ?_); rintro e w3 ⟨rfl, hb4⟩; refine Hid.out ?_)
 refine Lib.hid ?_
 have hb5 : Below w.heap.size w w3 := hb3.trans (hb4.mono hb3.size)
 go_wp2
 go_ret
 exact ⟨_, imm, rfl, hb5, fun _ _ i => i, fun _ _ i => .inl i, fun b o i => by
  have h1 := hi b o i
  have hlt : b < w.heap.size := by
   cases hcc : w.cell? ⟨b, o, none⟩ with
   | none => rw [hcc] at h1; cases h1
   | some u => exact World.block_lt_of_cell? w ⟨b, o, none⟩ hcc
  rw [hb5.cell (p := ⟨b, o, none⟩) hlt]; exact h1, rfl⟩
open Go.RowKit
structure yK where
 replies : List zN
 deriving Inhabited, DecidableEq
@[go_sem] def yK.av (x : yK) : List AV := [lA 10 zN.av x.replies]
@[simp] theorem yK.free (x : yK) : AV.freeL x.av := ⟨zC (fun y => zN.free y) _, trivial⟩
structure xA where
 host : Int
 rounds : List yK
 deriving Inhabited, DecidableEq
@[go_sem] def xA.av (x : xA) : List AV := [.raw (.int .i64 x.host), lA 1 yK.av x.rounds]
@[simp] theorem xA.free (x : xA) : AV.freeL x.av := ⟨trivial, zC (fun y => yK.free y) _, trivial⟩
theorem zGb (n lo hi : Int) : FnA Tryz.prog 121 [.raw (.int .i64 n), .raw (.int .i64 lo), .raw (.int .i64 hi)] (.raw (.bool (decide (lo ≤ n) && decide (n ≤ hi)))) := by
 refine en Tryz.func121 Tryz.ntmps121 [.tmp 6] rfl ?_
 repeat' first
  | refine wkg trivial ?_
  | (refine cS (fun hb => ?_) fun hb => ?_ <;> try (cases hb; done))
  | refine sM fun K hK => ?_
  | fail
 all_goals exact fA
theorem zJd (r : zN) : FnA Tryz.prog 187 [.agg r.av] (.raw (.bool (decide (z9 r)))) := by
 refine en Tryz.func187 Tryz.ntmps187 [.tmp 2] rfl ?_
 repeat' first
  | (refine wkM hK zGb ?_)
  | refine wkg zGb ?_
  | (refine cS (fun hb => ?_) fun hb => ?_ <;> try (cases hb; done))
  | refine sM fun K hK => ?_
  | fail
 all_goals (try (refine zM (by simp) ⟨_, _, _, evl, ob0, zV.sims ?_ fre⟩))
 all_goals first | exact z5.refl _ | (refine z5.of_eq ?_; first | rfl | (simp [z9, zGq]; done) | (simp_all [z9, zGq]; done) | (simp_all [z9, zGq]; omega) | (simp [z9, zGq]; grind) | (split <;> simp_all)) | exact yM | (refine z5.tup ?_; simp only [z8, yMs]; (repeat' apply And.intro) <;> first | exact yM | skip) | (exfalso; first | omega | (simp_all; done) | (simp_all; omega)) | skip
theorem zLn (n : Int) (hn : inK .u64 n) : FnA Tryz.prog 228 [.raw (.int .u64 n)] (.agg [.raw (.int .i64 (n / 4294967296)), .raw (.int .i64 (n % 4294967296))]) := by
 have h2 : IntKind.u32.wrap n = n % 4294967296 := rfl
 simp only [inK] at hn
 have h1 : inK .i64 (n.fdiv (2 ^ min (Int.toNat 32) 64)) := by rw [zGt]; simp only [inK]; omega
 have h3 : inK .i64 (IntKind.u32.wrap n) := by rw [h2]; simp only [inK]; omega
 refine en Tryz.func228 Tryz.ntmps228 [.cell 2 260] rfl ?_
 repeat' first
  | refine wkg trivial ?_
  | (refine cS (fun hb => ?_) fun hb => ?_ <;> try (cases hb; done))
  | refine sM fun K hK => ?_
  | fail
 refine rq ?_ ?_
 ·rw [zGt, h2]
 ·simp [AV.free, AV.freeL]
def zGr (d : Int) (l : List Int) : Int := zWk (zKh d ++ txt (fun q => l.getD q 0) l.length)
def isL (l : List Int) : Prop := zP3 l.length fun q => l.getD q 0
theorem qY (l : List Int) : (liA l).free := zC (fun x => show AV.freeL (iC x) from ⟨trivial, trivial⟩) _
theorem zXi (l : List Int) : liA l = zUl l.length fun q => l.getD q 0 := by
 show AV.lst 1 l.length (els iC l) = AV.lst 1 l.length _
 congr 1
theorem zUi {l : List Int} (h : ∀ x ∈ l, inK .i64 x) : isL l := fun q hq => by
 have := h _ (yNe hq)
 simp only [yLp, yLm hq, yLa]
 exact this
theorem zU2 (d : Int) (hd : inK .u64 d) (l : List Int) (h : isL l) (h0 : 0 < l.length) (hn : l.length ≤ 1000000) : FnA Tryz.prog 230 [.raw (.int .u64 d), liA l] (.raw (.int .u64 (zGr d l))) := by
 rw [zXi]
 exact yDe d hd l.length _ h h0 hn
def yS (r : zN) : Int := zWk (txt (fun q => (jO r).getD q 0) 11)
theorem zVo (r : zN) (hf : r.fits) : FnA Tryz.prog 229 [.agg r.av] (.raw (.int .u64 (yS r))) := by
 obtain ⟨h1, h2, h3, h4, ⟨h5, h6⟩, h7, h8, h9, h10⟩ := hf
 have hh := zLn r.nonce h4
 have hi : zP3 11 fun q => (jO r).getD q 0 := by
  refine zUi (l := jO r) fun x hx => ?_
  simp only [jO, yLf, yMo, yMv] at hx
  simp only [inK] at *
  rcases hx with rfl | rfl | rfl | rfl | rfl | rfl | rfl | rfl | rfl | rfl | rfl <;> omega
 have hs := zZa 11 _ hi (by decide) (by decide)
 refine en Tryz.func229 Tryz.ntmps229 [.tmp 2] rfl ?_
 repeat'
  first
   | first
    | (refine zG (hK _ ?_); clear hK K)
    | refine stG ?_
    | (refine yJ 1 rfl ?_; refine zR rfl rfl ⟨_, evl, _, _, _, evl, yR, ?_⟩; apply Exists.intro; refine ⟨fun hg => ?_, ?_⟩; · first | exact FnA.at_ (hh) rfl rfl | exact FnA.sim hs ⟨Sim.lstE rfl fun i hi => yA (enc := iC) (l := jO r) (fun _ => rfl) rfl hi, trivial⟩ | exact FnA.at_s (hh) rfl yV | exact FnA.at_s (hh) rfl yW)
    | (refine zW 1 rfl ?_; refine zS rfl ⟨_, evl, _, _, _, (fun _ _ => vH), yR, ?_⟩; apply Exists.intro; refine ⟨fun hg => ?_, ?_⟩; · first | exact FnA.at_ (hh) rfl rfl | exact FnA.sim hs ⟨Sim.lstE rfl fun i hi => yA (enc := iC) (l := jO r) (fun _ => rfl) rfl hi, trivial⟩ | exact FnA.at_s (hh) rfl yV | exact FnA.at_s (hh) rfl yW)
    | (refine zW 1 rfl ?_; refine zJ ?_)
    | (refine yB ?_; first | (refine zP (hK _ ?_); clear hK K) | (refine zX rfl ⟨_, evl, fun nb' => ?_⟩))
    | refine zE (fun K hK => ?_)
    | (refine yZ ?_; first | (refine zD false rfl (by kernel_rfl) (by kernel_rfl) (fun K hK => ?_)) | (refine zD true rfl (by kernel_rfl) (by kernel_rfl) (fun K hK => ?_)))
    | (refine zA ⟨_, evl, fun hb => ?_, fun hb => ?_⟩ <;> (try simp only [yMy, yLq, yN1, yN0, yLs, yMx, yLi, yNm, yLr, yMz, yNn, yM7, ne_eq, yNo, yLh, yNp, yMl, yMm] at hb))
   | fail
 refine rq ?_ ?_
 ·rfl
 ·simp [AV.free]
theorem wrap_u64 (n : Int) : inK .u64 (IntKind.u64.wrap n) := by
 have : IntKind.u64.wrap n = n % 18446744073709551616 := rfl
 rw [this]
 simp only [inK]
 omega
theorem zHs (l : List UInt8) : inK .u64 (zWk l) := by
 unfold zWk
 cases l.length with
 | zero => simp [fnv, inK]
 | succ n => exact wrap_u64 _
theorem qC (r : zN) : inK .u64 (yS r) := zHs _
theorem zMx (d : Int) (l : List Int) : inK .u64 (zGr d l) := zHs _
def yI (n : Int) : List Int := [n / 4294967296, n % 4294967296]
theorem w9 {α : Type} [Inhabited α] {l : List α} {k : Nat} (h : k < l.length) : l.getD k default ∈ l := by rw [zU h]; exact yNe h
def x9 (rs : List zN) : List Int := (rs.length : Int) :: rs.flatMap fun x => yI (yS x)
def zAd (h : Int) (r : yK) : Int := zGr h (x9 r.replies)
theorem zG1 {n : Int} (h : inK .u64 n) : ∀ x ∈ yI n, inK .i64 x := by
 intro x hx
 simp only [yI, yLf, yMo, yMv] at hx
 simp only [inK] at *
 rcases hx with rfl | rfl <;> omega
theorem zCi (rs : List zN) : (rs.flatMap fun x => yI (yS x)).length = 2 * rs.length := by
 induction rs with
 | nil => rfl
 | cons x rs ih => rw [yNa, yL5, ih]; simp [yI]; omega
theorem zRu {rs : List zN} (h : rs.length ≤ 400000) : isL (x9 rs) := by
 refine zUi fun x hx => ?_
 rcases yLf.1 hx with rfl | hx
 ·simp only [inK]; omega
 ·obtain ⟨r, hr, hx⟩ := yOb.1 hx
  exact zG1 (qC r) x hx
theorem zYm (h : Int) (hh : inK .u64 h) (r : yK) (hl : r.replies.length ≤ 400000) (hf : ∀ x ∈ r.replies, x.fits) : FnA Tryz.prog 184 [.raw (.int .u64 h), .agg r.av] (.raw (.int .u64 (zAd h r))) := by
 obtain ⟨rs⟩ := r
 simp only at hl hf
 have hn := zU2 h hh (x9 rs) (zRu hl) (by simp [x9]) (by rw [x9, yL2, zCi]; omega)
 have hd := fun k (hk : k < rs.length) => zVo (rs.getD k default) (hf _ (w9 hk))
 have hv := fun k => zLn (yS (rs.getD k default)) (qC _)
 have hfr : (lA 10 zN.av rs).free := zC (fun y => zN.free y) _
 refine en Tryz.func184 Tryz.ntmps184 [.tmp 4] rfl ?_
 try (refine wkR trivial ?_; try refine sM fun K hK => ?_)
 refine zF (fun k : Nat => ⟨30, 0, [(0, true, .raw (.int .u64 h)), (5, true, .row 0 ((rs.length : Int) :: (rs.take k).flatMap fun x => yI (yS x)).length), (14, true, lA 10 zN.av rs), (15, true, .raw (.int .i64 rs.length)), (16, true, .raw (.int .i64 k))], [[lA 10 zN.av rs]], [⟨3, 1, ((rs.length : Int) :: (rs.take k).flatMap fun x => yI (yS x)).length, els iC ((rs.length : Int) :: (rs.take k).flatMap fun x => yI (yS x))⟩], ((0, []), [], true)⟩)
  (fun k => k ≤ rs.length) (fun k => rs.length - k) 0 ?_ (by omega) ?_
 ·refine wkn ?_ ?_ ?_
  all_goals first | exact wk0 | refine wkS ?_ | skip
  all_goals (try trivial)
  all_goals ((repeat' apply And.intro) <;> first | exact wkL | skip)
  intro q hq
  obtain rfl : q = 0 := by simpa using hq
  exact z8.of_eq rfl
 ·intro k hk
  rcases yKt k rs.length with hlt | hge
  ·have hdk := hd k hlt
   have hvk := hv k
   have hs : (rs.length : Int) :: (rs.take (k + 1)).flatMap (fun x => yI (yS x)) = ((rs.length : Int) :: (rs.take k).flatMap fun x => yI (yS x)) ++ yI (yS (rs.getD k default)) := by
    rw [yNs hlt, yNg, zU hlt]
    simp
   have hL : ((rs.length : Int) :: (rs.take k).flatMap fun x => yI (yS x)).length ≤ 1000000 := by
    rw [yL2, zCi, yN3]; omega
   clear hn hd hv
   generalize ((rs.length : Int) :: (rs.take k).flatMap fun x => yI (yS x)) = R at *
   generalize yS (rs.getD k default) = D at *
   try (refine wkR trivial ?_; try refine sM fun K hK => ?_)
   refine zA ⟨_, evl, fun _ => ?_, fun hb => absurd (yOc hb) (by omega)⟩
   try (first | refine wkN hK (And.intro hdk hvk) ?_ | refine wkR (And.intro hdk hvk) ?_)
   try clear hK K
   try refine sM fun K hK => ?_
   refine zOf yH rfl rfl ⟨_, evl, _, _, _, evl, yR, ?_⟩
   refine z0 1 obf ⟨_, evl, _, evl, ?_⟩
   try (first | refine wkN hK trivial ?_ | refine wkR trivial ?_)
   try clear hK K
   try refine sM fun K hK => ?_
   refine ⟨k + 1, by omega, by omega, ?_⟩
   rw [hs, yL5]
   refine wkn ?_ ?_ ?_
   all_goals first | exact wk0 | refine wkS ?_ | skip
   all_goals (try trivial)
   all_goals ((repeat' apply And.intro) <;> first | exact wkL | skip)
   intro q hq
   refine z8.of_eq ?_
   rcases yKt q R.length with h1 | h1
   ·rw [xJ h1]
    simp [els, yLp, yM1 h1]
   ·rw [y6 h1, ← yT (l := R) (n := R.length) rfl, y6 h1]
    have hq2 : q - R.length < 2 := by simp [yI] at hq; omega
    exact yA (enc := iC) (l := yI D) (fun _ => rfl) rfl hq2
  ·obtain rfl : k = rs.length := by omega
   rw [yNt]
   rw [show ((rs.length : Int) :: rs.flatMap fun x => yI (yS x)) = x9 rs from rfl]
   have e : zAd h ⟨rs⟩ = zGr h (x9 rs) := rfl
   rw [e]
   clear hd hv e
   generalize zGr h (x9 rs) = M at *
   generalize x9 rs = R at *
   have hR := qY R
   try (refine wkR trivial ?_; try refine sM fun K hK => ?_)
   refine zA ⟨_, evl, fun hb => absurd (yNw hb) (by omega), fun _ => ?_⟩
   try (refine wkR hn ?_; try refine sM fun K hK => ?_)
   refine rq ?_ ?_
   ·rfl
   ·simp [AV.free]
theorem zJ3 (h : Int) (r : yK) : inK .u64 (zAd h r) := zMx _ _
def qP (l : List yK) : Nat → Int
 | 0 => 0
 | k + 1 => zAd (qP l k) (l.getD k default)
theorem zFz (l : List yK) : ∀ k, inK .u64 (qP l k)
 | 0 => by simp [qP, inK]
 | _ + 1 => zJ3 _ _
def zA3 (h host round auth : Int) : Int := zGr h [host, round, auth]
theorem yAl (h host round auth : Int) (hh : inK .u64 h) (h1 : inK .i64 host) (h2 : inK .i64 round) (h3 : inK .i64 auth) : FnA Tryz.prog 188 [.raw (.int .u64 h), .raw (.int .i64 host), .raw (.int .i64 round), .raw (.int .i64 auth)] (.raw (.int .u64 (zA3 h host round auth))) := by
 have hn := zU2 h hh [host, round, auth] (zUi fun x hx => by
  simp only [yLf, yMo, yMv] at hx
  rcases hx with rfl | rfl | rfl <;> assumption) (by simp) (by simp)
 refine en Tryz.func188 Tryz.ntmps188 [.tmp 8] rfl ?_
 repeat'
  first
   | first
    | (refine zG (hK _ ?_); clear hK K)
    | refine stG ?_
    | (refine yJ 1 rfl ?_; refine zR rfl rfl ⟨_, evl, _, _, _, evl, yR, ?_⟩; apply Exists.intro; refine ⟨fun hg => ?_, ?_⟩; · first | exact FnA.sim hn ⟨Sim.refl _, Sim.lstE rfl fun i hi => yA (enc := iC) (l := [host, round, auth]) (fun _ => rfl) rfl hi, trivial⟩ )
    | (refine zW 1 rfl ?_; refine zS rfl ⟨_, evl, _, _, _, (fun _ _ => vH), yR, ?_⟩; apply Exists.intro; refine ⟨fun hg => ?_, ?_⟩; · first | exact FnA.sim hn ⟨Sim.refl _, Sim.lstE rfl fun i hi => yA (enc := iC) (l := [host, round, auth]) (fun _ => rfl) rfl hi, trivial⟩ )
    | (refine zW 1 rfl ?_; refine zJ ?_)
    | (refine yB ?_; first | (refine zP (hK _ ?_); clear hK K) | (refine zX rfl ⟨_, evl, fun nb' => ?_⟩))
    | refine zE (fun K hK => ?_)
    | (refine yZ ?_; first | (refine zD false rfl (by kernel_rfl) (by kernel_rfl) (fun K hK => ?_)) | (refine zD true rfl (by kernel_rfl) (by kernel_rfl) (fun K hK => ?_)))
    | (refine zA ⟨_, evl, fun hb => ?_, fun hb => ?_⟩ <;> (try simp only [yMy, yLq, yN1, yN0, yLs, yMx, yLi, yNm, yLr, yMz, yNn, yM7, ne_eq, yNo, yLh, yNp, yMl, yMm] at hb))
   | fail
 refine rq ?_ ?_
 ·rfl
 ·simp [AV.free]
def yDn (l : List yK) : AV := .fn (.func 183) [] [.elt [lA 1 yK.av l] 0]
theorem yB3 (l : List yK) : FnA Tryz.prog 122 [lA 1 yK.av l] (yDn l) := by
 have hfr : (lA 1 yK.av l).free := zC (fun y => yK.free y) _
 refine en Tryz.func122 Tryz.ntmps122 [.tmp 2] rfl ?_
 try (refine wg ?_; try refine sM fun K hK => ?_)
 refine zM (by simp) ⟨_, _, _, evl, ob0, ?_⟩
 exact zV.fn rfl ⟨_, _, rfl, zV.box rfl ⟨_, _, rfl, zV.free hfr, rfl⟩, rfl⟩
def zR9 (l : List yK) (k : Nat) : List AV := [.raw (.int .u64 (qP l k)), .agg (l.getD k default).av]
def qN (l : List yK) (n : Nat) : List (List AV) := (List.range n).map (zR9 l)
theorem qM (l : List yK) (k : Nat) : qN l (k + 1) = qN l k ++ [zR9 l k] := by simp [qN, yNf]
theorem zHl (l : List yK) {k n : Nat} (h : k ≤ n) : qN l k <+: qN l n := by
 obtain ⟨j, rfl⟩ := yOd h
 induction j with
 | zero => exact yNy _
 | succ j ih => exact (ih (by omega)).trans (by rw [← yLn, qM]; exact List.prefix_append _ _)
theorem yB2 (l : List yK) (hmax : l.length ≤ 1000000) (hr : ∀ r ∈ l, r.replies.length ≤ 400000 ∧ ∀ x ∈ r.replies, x.fits) : yC3 Tryz.prog 183 [.elt [lA 1 yK.av l] 0] (qN l l.length) := by
 have hfr : (lA 1 yK.av l).free := zC (fun y => yK.free y) _
 refine zMd Tryz.func183 rfl (by kernel_rfl) 21 Tryz.ntmps183 yJr rfl (fun y => ?_)
 simp only [zBq, yLe, Nat.reduceAdd, yL3, yLc]
 try (refine wg ?_; try refine sM fun K hK => ?_)
 refine zF (fun k : Nat => ⟨21, 0, [(0, true, .raw (.func (.yield y) #[] #[])), (1, true, .elt [lA 1 yK.av l] 0), (3, true, .raw (.int .u64 (qP l k))), (6, true, lA 1 yK.av l), (7, true, .raw (.int .i64 l.length)), (8, true, .raw (.int .i64 k))], [], [], ((y, qN l l.length), qN l k, false)⟩)
  (fun k => k ≤ l.length) (fun k => l.length - k) 0 ?_ (by omega) ?_
 ·exact wkZ
 ·intro k hk
  try (refine wg ?_; try refine sM fun K hK => ?_)
  refine zA ⟨_, evl, fun hb => ?_, fun hb => ?_⟩
  ·simp only [yLr] at hb
   have hlt : k < l.length := by omega
   obtain ⟨h1, h2⟩ := hr _ (w9 hlt)
   have hbe := zYm (qP l k) (zFz l k) (l.getD k default) h1 h2
   have hpre := zHl l (k := k + 1) (n := l.length) (by omega)
   have hs : qP l (k + 1) = zAd (qP l k) (l.getD k default) := rfl
   rw [qM] at hpre
   have hfk : (lA 10 zN.av (l.getD k default).replies).free := zC (fun y => zN.free y) _
   try (first | refine wkM hK trivial ?_ | refine wkg trivial ?_)
   try clear hK K
   try refine sM fun K hK => ?_
   refine kR rfl rfl ⟨_, evl, _, _, evl, ?_, ?_, ?_⟩
   ·intro _
    exact ⟨fun c hc => by simp at hc; simp [hc], ⟨trivial, ⟨hfk, trivial⟩, trivial⟩, hpre⟩
   ·intro hg
    simp at hg
   ·intro _ b
    try (first | refine wkM hK trivial ?_ | refine wkg trivial ?_)
    try clear hK K
    try refine sM fun K hK => ?_
    refine zA ⟨_, evl, fun hb2 => ?_, fun hb2 => ?_⟩
    ·obtain rfl : b = false := by simpa using hb2
     try (refine wg ?_; try refine sM fun K hK => ?_)
     exact ⟨.inr rfl, hpre, fun h => by simp at h⟩
    ·obtain rfl : b = true := by simpa using hb2
     try (refine wkg hbe ?_; try refine sM fun K hK => ?_)
     refine ⟨k + 1, by omega, by omega, ?_⟩
     rw [qM, hs]
     exact wkZ
  ·simp only [yMz] at hb
   obtain rfl : k = l.length := by omega
   try (refine wg ?_; try refine sM fun K hK => ?_)
   exact ⟨.inl rfl, yNy _, fun _ => rfl⟩
end Go.Proofs.YtchpbdecipcelaaGreatDoor
