/- digest.text: the text of integers, by the shelf's contract on strconv.AppendInt. -/
import Derived.Test.YtihnjbnlbedpaaaGreatDoorStr
import Derived.Lib.AppendIntMem
import Derived.Lib.ItoaLen
import Derived.Lib.Slices
import Derived.Lib.Hide
import Derived.OwnWalk
import Derived.WalkKit
import Derived.BigCall
namespace Go.Proofs.YtihnjbnlbedpaaaGreatDoor
set_option linter.unusedVariables false
set_option linter.unusedSimpArgs false
set_option maxHeartbeats 4000000
set_option maxRecDepth 100000
open Go.Shelf Go.RowKit
def txt (x : Nat → Int) : Nat → List UInt8
  | 0 => []
  | k + 1 => txt x k ++ (Lib.itoa (x k) ++ [32])
theorem txt_length (x : Nat → Int) : ∀ k, (∀ q, q < k → -9223372036854775808 ≤ x q ∧ x q ≤ 9223372036854775807) → (txt x k).length ≤ k * 22
  | 0, _ => Nat.le_refl _
  | k + 1, h => by
    have h1 := txt_length x k fun q hq => h q (by omega)
    have h2 := Lib.itoa_length_le (x k) (h k (by omega)).1 (h k (by omega)).2
    simp only [txt, List.length_append, List.length_cons, List.length_nil]
    omega
theorem byteInfo : (Tryz.prog.info? 5).map (fun i => (i.zero, i.size, i.bytes)) = some (some (.int .u8 0), 1, 1) := by kernel_rfl
set_option maxHeartbeats 6400000 in
set_option maxRecDepth 100000 in
theorem text_calls (x : Nat → Int) (n b o cap : Nat) (h : ∀ q, q < n → -9223372036854775808 ≤ x q ∧ x q ≤ 9223372036854775807) (hn : n ≤ 1000000) (w : World) (hc : ∀ q, q < n → w.cell? ⟨b, o + q, none⟩ = some (.int .i64 (x q))) (hb : b < w.heap.size)
    (htab : Lib.TabIs Tryz.prog w "internal/strconv.uint64pow10" .u64 Lib.pow10Tab) :
    Calls Tryz.prog 209 #[.slice none 0 0, .slice (some ⟨b, o, none⟩) n cap] w fun e w' => ∃ v', e = .returned v' ∧ w'.ownsRow w.heap.size 5 1 v' (txt x n).length (Lib.byteCells (txt x n)) ∧ Below w.heap.size w w' := by
  obtain ⟨i0, hi, hz0, hz1, hz2⟩ := info_parts byteInfo
  have hT := Lib.tabBelow_of_tabIs htab
  go_enter Tryz.func209, Tryz.ntmps209
  go_wp2
  go_loopw [0, 9] (fun v i wr => ∃ k : Nat, k ≤ n ∧ i = .int .i64 k ∧ wr.ownsRow w.heap.size 5 1 v (txt x k).length (Lib.byteCells (txt x k)) ∧ Below w.heap.size w wr) (fun _ i _ => n - (intOf i).toNat)
  case atStart => exact ⟨0, Nat.zero_le _, rfl, World.ownsRow_nil _ _ _ _, Below.refl _ _⟩
  case round =>
    obtain ⟨k, hk, rfl, hown, hnx⟩ := hrel
    have hcx : k < n → wr.cell? ⟨b, o + k, none⟩ = some (.int .i64 (x k)) := fun hlt => (hnx.cell (by exact hb)).trans (hc k hlt)
    have hlen := txt_length x k fun q hq => h q (by omega)
    have hsz := hnx.size
    by_cases hlt : k < n
    · have hcx := hcx hlt
      have hitl := Lib.itoa_length_le (x k) (h k hlt).1 (h k hlt).2
      go_wp2_with (go_at_call 215; go_loud (refine (appendInt w.heap.size _ (x k) (h k hlt).1 (h k hlt).2 _ _ _ hown hsz (by omega) (hT.on hnx)).mono ?_); rintro e w1 ⟨v1, rfl, hown1, hnx1, -⟩; refine Hid.out ?_)
      refine Lib.hid ?_
      have hnx2 := hnx.trans hnx1
      have hsz2 := hnx2.size
      go_wp2_with (at_builtin; refine wpList_append_own _ rfl _ _ 174 rfl w.heap.size 5 i0 (.int .u8 0) 1 1 Tryz.underlying174 hi hz0 hz1 hz2 rfl (by decide) _ _ _ rfl (hown1.alloc _) ⟨w1.heap.size, 0, none⟩ 1 1 [Value.int .u8 32] rfl rfl ?c1 ?c2 ?c3 ?c4 ?c5 ?_)
      case c1 =>
        intro j u hj
        match j, hj with
        | 0, hj => simp at hj; subst hj; simp [Addr.add]
      case c2 => intro u hu; simp at hu; subst hu; rfl
      case c3 => unfold maxLen; omega
      case c4 => omega
      case c5 => simp; omega
      intro v2 w2 hown2 hgrow _
      have hnx3 : Below w.heap.size w w2 := (hnx2.alloc hsz2 _).grown hgrow (by simp; omega) (fun q hq => (hown1.lt q hq).1)
      have eL : Lib.byteCells (txt x k) ++ (Lib.byteCells (Lib.itoa (x k)) ++ [Value.int .u8 32]) = Lib.byteCells (txt x (k + 1)) := by simp [txt, Lib.byteCells]
      have eN : (txt x k).length + (Lib.itoa (x k)).length + 1 = (txt x (k + 1)).length := by simp only [txt, List.length_append, List.length_cons, List.length_nil]; omega
      rw [eL, eN] at hown2
      have HN := Lib.hid eN
      clear eL eN
      go_wp2
      go_roundw
      case rel => exact ⟨k + 1, by omega, by go_num, hown2, hnx3⟩
      case measure => simp [intOf]; omega
    · have hkn : k = n := by omega
      subst hkn
      go_wp2
      go_ret
      exact ⟨_, rfl, hown, hnx⟩
/-- A list of integers, of bytes. -/
def intsA (n : Nat) (x : Nat → Int) : AV := .lst 1 n fun q => [.raw (.int .i64 (x q))]
def bytesA (l : List UInt8) : AV := .lst 1 l.length fun q => [.raw (.int .u8 ((l.getD q 0).toNat : Int))]
theorem text_fn (x : Nat → Int) (n : Nat) (h : ∀ q, q < n → -9223372036854775808 ≤ x q ∧ x q ≤ 9223372036854775807) (h0 : 0 < n) (hn : n ≤ 1000000) :
    FnA Tryz.prog 209 [.raw (.slice none 0 0), intsA n x] (bytesA (txt x n)) := by
  refine ⟨⟨_, Tryz.func209, by kernel_rfl, by kernel_rfl⟩, fun imm w vs htb hi hr => ?_⟩
  obtain ⟨v1, r1, rfl, e1, v2, r2, rfl, e2, rfl⟩ := hr
  obtain ⟨A, cap, rfl, _, _, hA⟩ := e2
  obtain ⟨b, o, rfl, hel⟩ := hA h0
  rw [show v1 = .slice none 0 0 from e1]
  have hc : ∀ q, q < n → w.cell? ⟨b, o + q, none⟩ = some (.int .i64 (x q)) := fun q hq => by
    obtain ⟨vs, hv, _, h3⟩ := hel q hq
    obtain ⟨v, r, rfl, ev, rfl⟩ := hv
    have := (h3 0 v rfl).2
    rw [show v = .int .i64 (x q) from ev] at this
    simpa using this
  have hb : b < w.heap.size := World.block_lt_of_cell? w ⟨b, o + 0, none⟩ (hc 0 h0)
  have htab : Lib.TabIs Tryz.prog w "internal/strconv.uint64pow10" .u64 Lib.pow10Tab := htb _ (by unfold tabBlk; kernel_rfl : tabBlk Tryz.prog 2)
  refine (text_calls x n b o cap h hn w hc hb htab).mono ?_
  rintro e w' ⟨v', rfl, hown, hbel⟩
  have hpos : 0 < (txt x n).length := by
    obtain ⟨m, rfl⟩ : ∃ m, n = m + 1 := ⟨n - 1, by omega⟩
    simp only [txt, List.length_append, List.length_cons, List.length_nil]; omega
  obtain ⟨hl, ho⟩ := id hown
  rcases ho with ⟨_, ho⟩ | ⟨g, cap', cur, rfl, hg, hh, hcap, hmax, hcs, htake⟩
  · omega
  have hcell : ∀ q, q < (txt x n).length → w'.cell? ⟨g, q, none⟩ = some (.int .u8 (((txt x n).getD q 0).toNat : Int)) := fun q hq => by
    have := hown.cells (g := g) rfl q (.int .u8 (((txt x n).getD q 0).toNat : Int)) (by simp [Lib.byteCells, hq])
    have hadd : (⟨g, 0, none⟩ : Addr).add q = ⟨g, q, none⟩ := by
      unfold Addr.add; split
      · rename_i h0; rw [h0]
      · simp
    rwa [hadd] at this
  refine ⟨_, fun b o => imm b o ∨ (b = g ∧ o < (txt x n).length), rfl, hbel, fun _ _ i => .inl i, fun b o i => i.elim .inl fun i => .inr (by omega), fun b o i => ?_, ?_⟩
  · rcases i with i | ⟨rfl, i⟩
    · have h1 := hi b o i
      have hlt : b < w.heap.size := by
        cases hcc : w.cell? ⟨b, o, none⟩ with
        | none => rw [hcc] at h1; cases h1
        | some u => exact World.block_lt_of_cell? w ⟨b, o, none⟩ hcc
      rw [hbel.cell (p := ⟨b, o, none⟩) hlt]; exact h1
    · rw [hcell o i]; rfl
  · refine ⟨_, _, rfl, hcap, hmax, fun _ => ⟨g, 0, rfl, fun i hi => ⟨[.int .u8 (((txt x n).getD i 0).toNat : Int)], ⟨_, _, rfl, rfl, rfl⟩, rfl, fun j u hj => ?_⟩⟩⟩
    have hj0 : j = 0 := by
      rcases j with _ | j
      · rfl
      · simp at hj
    subst hj0
    simp only [List.getElem?_cons_zero, Option.some.injEq] at hj
    subst hj
    refine ⟨.inr ⟨rfl, by omega⟩, ?_⟩
    rw [show 0 + i * 1 + 0 = i from by omega]
    exact hcell i hi
end Go.Proofs.YtihnjbnlbedpaaaGreatDoor
