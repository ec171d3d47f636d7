import Derived.Test.YtioaahmkebojiaaGreatDoorWC01
import Derived.ArgAppend
import Derived.BigCall
import Derived.BigGuard
import Derived.CellFam
import Derived.Lib.Hide
import Derived.Lib.ItoaLen
import Derived.Lib.ItoaMem
import Derived.Lib.ItoaNum
import Derived.Lib.Slices
import Derived.OwnWalk
import Derived.WalkKit
import Derived.Test.YtioaahmkebojiaaGreatDoorWC04
import Derived.Test.YtioaahmkebojiaaGreatDoorWC12
namespace Go.Proofs.YtioaahmkebojiaaGreatDoor
set_option linter.unusedVariables false
set_option linter.unusedSimpArgs false
set_option maxHeartbeats 4000000
set_option maxRecDepth 100000
open Go.Shelf Go.RowKit Go.Sort Go.Lib
theorem zQd : (Tryz.prog.info? 5).map (fun i => (i.zero, i.size, i.bytes)) = some (some (.int .u8 0), 1, 1) := by kernel_rfl
theorem qB (u : Nat) : 0 < (Lib.decDigits u).length := by
 rw [Lib.decDigits_length]
 by_cases h10 : u < 10
 ·rw [Lib.nDigits_small h10]; omega
 ·rw [Lib.nDigits_big h10]; omega
section
variable (g n : Nat) (xs : List Value) (w : World)
end
def isB (x : Value) : Prop := ∃ m, x = .int .u8 m
structure zKf (w : World) (v : Value) (n g : Nat) (cur : Array Value) : Prop where
 val : v = .slice (some ⟨g, 0, none⟩) n cur.size
 blk : w.heap[g]? = some (.cells cur 5 (0, 0))
 le : n ≤ cur.size
 max : cur.size ≤ maxLen
 byt : ∀ x ∈ cur.toList, isB x
def zMo (w : World) (v : Value) (n : Nat) : Prop := (v = .slice none 0 0 ∧ n = 0) ∨ ∃ g cur, zKf w v n g cur
def zMp (w : World) (v : Value) (w' : World) : Prop := ∀ g c, zC v = some g → w.heap[g]? = some (.cells c 5 (0, 0)) → ∃ c', w'.heap[g]? = some (.cells c' 5 (0, 0)) ∧ c'.size = c.size
def qR (w : World) (v : Value) (w' : World) (v' : Value) (n' : Nat) : Prop := ∃ g cur', zKf w' v' n' g cur' ∧ (zC v = some g ∨ w.heap.size ≤ g) ∧ w.grownBy w' (zC v) ∧ zMp w v w'
theorem zMp.old {w w' : World} {v : Value} (h : ∀ k, k < w.heap.size → w'.heap[k]? = w.heap[k]?) : zMp w v w' := fun g c _ hg => ⟨c, (h g (yMi.1 hg).1).trans hg, rfl⟩
theorem zZz (k : Nat) : ∀ x ∈ (Builtin.zeroCells (Value.int .u8 0).cells k).toList, isB x := fun x hx => by
 have : x ∈ (Builtin.zeroCells #[Value.int .u8 0] k) := by simpa [Value.cells] using hx
 unfold Builtin.zeroCells at this
 simp at this
 obtain ⟨_, _, rfl⟩ := this
 exact ⟨0, by simp [Nat.mod_one]⟩
theorem strB (s : ByteArray) : ∀ x ∈ strCells s, isB x := fun x hx => by
 simp only [strCells, yO6] at hx
 obtain ⟨b, _, rfl⟩ := hx
 exact ⟨_, rfl⟩
def yG1 (P : Program) : Prop := P.underlying 41 = some (.slice 5) ∧ (P.info? 5).map (fun i => (i.zero, i.size, i.bytes)) = some (some (.int .u8 0), 1, 1)
theorem zXq : yG1 Tryz.prog := ⟨Tryz.underlying41, zQd⟩
section
variable {P : Program} (hP : yG1 P) {w : World} {v : Value} {n : Nat}
include hP
theorem zGh (hv : zMo w v n) {a : Addr} {m c : Nat} {news : List Value} (hl : news.length = m) (hm : 0 < m) (hnews : ∀ j u, news[j]? = some u → w.cell? (a.add j) = some u) (hb : ∀ u ∈ news, isB u) (hlim : n + m ≤ 140737488355328) (ty : Nat) :
  ∃ v' w', (Builtin.append_ #[41, 41] ty #[v, .slice (some a) m c]).run P w = .ok v' w' ∧ qR w v w' v' (n + m) := by
 obtain ⟨i, hi, hz0, hz1, hz2⟩ := info_parts hP.2
 have h63 : n + m ≤ maxLen := by unfold maxLen; omega
 have hl1 : news.length = m * i.size := by rw [hz1, yNo]; exact hl
 have h1 : ∀ u ∈ news, u.oneCell' = true := fun u hu => by obtain ⟨k, rfl⟩ := hb u hu; rfl
 have grown : ∀ (old : Nat) (xs : List Value), xs.length = n → (∀ x ∈ xs, isB x) →
   zKf (w.drew.alloc (.cells (xs.toArray ++ news.toArray ++ Builtin.zeroCells (Value.int .u8 0).cells (grownCap w (n + m) old 5 - (n + m))) 5))
    (.slice (some ⟨w.heap.size, 0, none⟩) (n + m) (grownCap w (n + m) old 5)) (n + m) w.heap.size (xs.toArray ++ news.toArray ++ Builtin.zeroCells (Value.int .u8 0).cells (grownCap w (n + m) old 5 - (n + m))) := fun old xs hx hxb => by
  have hge := grownCap_ge w (n + m) old 5
  have hcm : grownCap w (n + m) old 5 ≤ maxLen := grownCap_le_maxLen w (n + m) old 5 h63
  have hsz : (xs.toArray ++ news.toArray ++ Builtin.zeroCells (Value.int .u8 0).cells (grownCap w (n + m) old 5 - (n + m))).size = grownCap w (n + m) old 5 := by
   simp only [Array.size_append, yNx, size_zeroCells, hx, hl]
   show n + m + (grownCap w (n + m) old 5 - (n + m)) * 1 = _
   omega
  refine ⟨by rw [hsz], heap_alloc_new w.drew _, by rw [hsz]; exact hge, by rw [hsz]; exact hcm, fun x hx' => ?_⟩
  simp only [yOr, yO2] at hx'
  rcases hx' with (h | h) | h
  ·exact hxb x h
  ·exact hb x h
  ·exact zZz _ x h
 have gb : ∀ (cs : Array Value) (r : Option Nat), w.grownBy (w.drew.alloc (.cells cs 5)) r := fun cs r => ⟨rfl, rfl, rfl, by simp, fun k hk _ => Go.heap_alloc_old w.drew _ hk⟩
 rcases hv with ⟨rfl, rfl⟩ | ⟨g, cur, R⟩
 ·have hr := run_append_nil (P := P) w 41 ty 5 i (.int .u8 0) hP.1 hi hz0 a m c news hl1 hnews oq oq (by rw [hz2]; omega)
  have hgr := grown 0 [] rfl (fun x hx => by cases hx)
  simp only [yN9, Array.empty_append] at hgr ⊢
  exact ⟨_, _, hr, _, _, hgr, .inr (yMj _), gb _ _, .old fun k hk => Go.heap_alloc_old w.drew _ hk⟩
 ·obtain rfl := R.val
  by_cases hroom : n + m ≤ cur.size
  ·have hfit : n * i.size + news.length ≤ cur.size := by rw [hl, hz1, yNo]; exact hroom
   have hr := run_append_room (P := P) w 41 ty 5 i hP.1 hi g n cur.size cur R.blk a m c news hl1 hnews h1 hroom hfit
   have hsz : (cur.toList.take (n * i.size) ++ news ++ cur.toList.drop (n * i.size + news.length)).length = cur.size := by
    simp only [yN1, yOt, yOu, yNn]
    omega
   refine ⟨_, _, hr, g, (cur.toList.take (n * i.size) ++ news ++ cur.toList.drop (n * i.size + news.length)).toArray, ⟨by simp only [yNx, hsz], setRow_heap w g cur _ _ _ R.blk, by simp only [yNx, hsz]; exact hroom, by simp only [yNx, hsz]; exact R.max, fun x hx => ?_⟩, .inl rfl, ⟨rfl, rfl, rfl, by simp, fun k _ hk => setRow_other w g k _ (fun e => hk (by simp [zC, e]))⟩, fun g0 c0 e0 h0 => ?_⟩
   ·simp only [yO2] at hx
    rcases hx with (h | h) | h
    ·exact R.byt x (yO8 h)
    ·exact hb x h
    ·exact R.byt x (yOx h)
   ·cases e0
    rw [R.blk] at h0
    cases h0
    exact ⟨_, setRow_heap w g cur _ _ _ R.blk, by simp only [yNx, hsz]⟩
  ·have hx : (cur.toList.take n).length = n := by simp; exact Nat.min_eq_left R.le
   have holds : ∀ j u, (cur.toList.take n)[j]? = some u → w.cell? ((⟨g, 0, none⟩ : Addr).add j) = some u := fun j u hj => by
    obtain ⟨h2, h3⟩ := yNd.1 hj
    rw [yOt] at h2
    rw [Addr.add_lit, yN9]
    simp only [World.cell?, R.blk]
    rw [List.getElem_take] at h3
    have h4 : j < cur.size := by simp at h2; omega
    rw [yMp h4, ← h3]
    simp
   have hr := run_append_grow (P := P) w 41 ty 5 i (.int .u8 0) hP.1 hi hz0 ⟨g, 0, none⟩ n cur.size (cur.toList.take n) (by rw [hz1, yNo]; exact hx) holds a m c news hl1 hnews oq oq (by rw [hz2]; exact growslice_fits oq oq)
   exact ⟨_, _, hr, _, _, grown cur.size _ hx (fun x hx => R.byt x (yO8 hx)), .inr (yMj _), gb _ _, .old fun k hk => Go.heap_alloc_old w.drew _ hk⟩
theorem zAe (hv : zMo w v n) (s : ByteArray) (hm : 0 < s.size) (hlim : n + s.size ≤ 140737488355328) (ty u : TypeId) (hu : P.underlying u = some .string) :
  ∃ v' w', (Builtin.append_ #[41, u] ty #[v, .string s]).run P w = .ok v' w' ∧ qR w v w' v' (n + s.size) := by
 obtain ⟨i, hi, hz0, hz1, hz2⟩ := info_parts hP.2
 have h63 : n + s.size ≤ maxLen := by unfold maxLen; omega
 have hl : (strCells s).length = s.size := strCells_length s
 have grown : ∀ (old : Nat) (xs : List Value), xs.length = n → (∀ x ∈ xs, isB x) →
   zKf (w.drew.alloc (.cells (xs.toArray ++ (strCells s).toArray ++ Builtin.zeroCells (Value.int .u8 0).cells (grownCap w (n + s.size) old 5 - (n + s.size))) 5))
    (.slice (some ⟨w.heap.size, 0, none⟩) (n + s.size) (grownCap w (n + s.size) old 5)) (n + s.size) w.heap.size (xs.toArray ++ (strCells s).toArray ++ Builtin.zeroCells (Value.int .u8 0).cells (grownCap w (n + s.size) old 5 - (n + s.size))) := fun old xs hx hxb => by
  have hge := grownCap_ge w (n + s.size) old 5
  have hcm : grownCap w (n + s.size) old 5 ≤ maxLen := grownCap_le_maxLen w (n + s.size) old 5 h63
  have hsz : (xs.toArray ++ (strCells s).toArray ++ Builtin.zeroCells (Value.int .u8 0).cells (grownCap w (n + s.size) old 5 - (n + s.size))).size = grownCap w (n + s.size) old 5 := by
   simp only [Array.size_append, yNx, size_zeroCells, hx, hl]
   show n + s.size + (grownCap w (n + s.size) old 5 - (n + s.size)) * 1 = _
   omega
  refine ⟨by rw [hsz], heap_alloc_new w.drew _, by rw [hsz]; exact hge, by rw [hsz]; exact hcm, fun x hx' => ?_⟩
  simp only [yOr, yO2] at hx'
  rcases hx' with (h | h) | h
  ·exact hxb x h
  ·exact strB s x h
  ·exact zZz _ x h
 have gb : ∀ (cs : Array Value) (r : Option Nat), w.grownBy (w.drew.alloc (.cells cs 5)) r := fun cs r => ⟨rfl, rfl, rfl, by simp, fun k hk _ => Go.heap_alloc_old w.drew _ hk⟩
 rcases hv with ⟨rfl, rfl⟩ | ⟨g, cur, R⟩
 ·have hr := run_append_nil_string (P := P) w 41 u ty 5 i (.int .u8 0) hP.1 hu hi hz0 s oq oq (by rw [hz2]; omega)
  have e1 : (s.data.map fun b => Value.int .u8 b.toNat) = (strCells s).toArray := by
   apply Array.ext'
   simp [strCells]
  rw [e1] at hr
  have hgr := grown 0 [] rfl (fun x hx => by cases hx)
  simp only [yN9, Array.empty_append] at hgr ⊢
  exact ⟨_, _, hr, _, _, hgr, .inr (yMj _), gb _ _, .old fun k hk => Go.heap_alloc_old w.drew _ hk⟩
 ·obtain rfl := R.val
  by_cases hroom : n + s.size ≤ cur.size
  ·have hr := Lib.run_append_room_string (P := P) w 41 u ty 5 i hP.1 hu hi hz1 g n cur.size cur R.blk s hroom hroom
   have hsz : (cur.toList.take n ++ strCells s ++ cur.toList.drop (n + s.size)).length = cur.size := by
    simp only [yN1, yOt, yOu, yNn, hl]
    omega
   refine ⟨_, _, hr, g, (cur.toList.take n ++ strCells s ++ cur.toList.drop (n + s.size)).toArray, ⟨by simp only [yNx, hsz], setRow_heap w g cur _ _ _ R.blk, by simp only [yNx, hsz]; exact hroom, by simp only [yNx, hsz]; exact R.max, fun x hx => ?_⟩, .inl rfl, ⟨rfl, rfl, rfl, by simp, fun k _ hk => setRow_other w g k _ (fun e => hk (by simp [zC, e]))⟩, fun g0 c0 e0 h0 => ?_⟩
   ·simp only [yO2] at hx
    rcases hx with (h | h) | h
    ·exact R.byt x (yO8 h)
    ·exact strB s x h
    ·exact R.byt x (yOx h)
   ·cases e0
    rw [R.blk] at h0
    cases h0
    exact ⟨_, setRow_heap w g cur _ _ _ R.blk, by simp only [yNx, hsz]⟩
  ·have hx : (cur.toList.take n).length = n := by simp; exact Nat.min_eq_left R.le
   have holds : ∀ j u, (cur.toList.take n)[j]? = some u → w.cell? ((⟨g, 0, none⟩ : Addr).add j) = some u := fun j u hj => by
    obtain ⟨h2, h3⟩ := yNd.1 hj
    rw [yOt] at h2
    rw [Addr.add_lit, yN9]
    simp only [World.cell?, R.blk]
    rw [List.getElem_take] at h3
    have h4 : j < cur.size := by simp at h2; omega
    rw [yMp h4, ← h3]
    simp
   have hr := Lib.run_append_grow_string (P := P) w 41 u ty 5 i (.int .u8 0) hP.1 hu hi hz0 ⟨g, 0, none⟩ n cur.size (cur.toList.take n) (by rw [hz1, yNo]; exact hx) holds s oq oq (by rw [hz2]; exact growslice_fits oq oq)
   exact ⟨_, _, hr, _, _, grown cur.size _ hx (fun x hx => R.byt x (yO8 hx)), .inr (yMj _), gb _ _, .old fun k hk => Go.heap_alloc_old w.drew _ hk⟩
theorem kA {ops : Array Oper} {rest : List Oper} {o : Oper} {a : Act} {Q : Exit → Act → World → Prop} (hgd : o.guard = none) (sl x : Operand) (ho : o.op = .call { callee := .builtin .append, args := #[sl, x], argTypes := #[41, 41] })
  (hs : a.eval sl = v) (hv : zMo w v n) (ad : Addr) (m c : Nat) (news : List Value) (hx : a.eval x = .slice (some ad) m c) (hl : news.length = m) (hm : 0 < m) (hnews : ∀ j u, news[j]? = some u → w.cell? (ad.add j) = some u) (hb : ∀ u ∈ news, isB u) (hlim : n + m ≤ 140737488355328)
  (h : ∀ v' w', qR w v w' v' (n + m) → wpList P ops Q rest (a.put o.dst v') w') : wpList P ops Q (o :: rest) a w := by
 refine wpList_plain hgd fun K hK => ?_
 obtain ⟨v', w', hr, ht⟩ := zGh hP hv hl hm hnews hb hlim o.type
 unfold Oper.wp execOp
 simp only [ho, resolve, invoke, builtin, Sem.run_bind, Sem.run_pure, Result.andThen_ok, List.map_toArray, yNm, yOa, hs, hx]
 rw [hr]
 exact hK _ _ (h _ _ ht)
theorem jM {ops : Array Oper} {rest : List Oper} {o : Oper} {a : Act} {Q : Exit → Act → World → Prop} (hgd : o.guard = none) (sl x : Operand) (u : TypeId) (ho : o.op = .call { callee := .builtin .append, args := #[sl, x], argTypes := #[41, u] }) (hu : P.underlying u = some .string)
  (hs : a.eval sl = v) (hv : zMo w v n) (s : ByteArray) (hx : a.eval x = .string s) (hm : 0 < s.size) (hlim : n + s.size ≤ 140737488355328)
  (h : ∀ v' w', qR w v w' v' (n + s.size) → wpList P ops Q rest (a.put o.dst v') w') : wpList P ops Q (o :: rest) a w := by
 refine wpList_plain hgd fun K hK => ?_
 obtain ⟨v', w', hr, ht⟩ := zAe hP hv s hm hlim o.type u hu
 unfold Oper.wp execOp
 simp only [ho, resolve, invoke, builtin, Sem.run_bind, Sem.run_pure, Result.andThen_ok, List.map_toArray, yNm, yOa, hs, hx, hr]
 exact hK _ _ (h _ _ ht)
end
end Go.Proofs.YtioaahmkebojiaaGreatDoor
