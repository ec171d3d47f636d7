import Derived.ChangeKeysEq
import Derived.KernelRfl
import Derived.Laws.BytesArg
import Derived.Laws.StructEq
import Derived.Lib.ItoaNum
import Derived.Lib.LaidTab
import Derived.OrdersIn
import Derived.RangeFuncIn
import Derived.RangeFuncLeaves
import Derived.RangeFuncRecord
import Derived.Still
import Derived.TacticsIn
import Derived.WalkKit
import Derived.WalkLawsBesides
import Derived.WalkSpells
namespace Go.Proofs.YtioaahmkebojiaaGreatDoor
theorem kq {p : Prop} (h : p := by kernel_rfl) : p := h
theorem oq {p : Prop} (h : p := by omega) : p := h
theorem sq {p : Prop} (h : p := by simp) : p := h
theorem dq {p : Prop} (h : p := by decide) : p := h
abbrev yMb := @List.getElem?_cons_zero
abbrev yMc := @Option.some.injEq
abbrev yMd := @List.getElem?_cons_succ
abbrev yMe := @List.eq_nil_of_length_eq_zero
abbrev yMf := @List.getElem?_drop
abbrev yMg := @List.getElem?_take
abbrev yMh := @Nat.zero_le
abbrev yMi := @Array.getElem?_eq_some_iff
abbrev yMj := @Nat.le_refl
abbrev yMk := @Nat.le_trans
abbrev yMl := @Nat.lt_of_lt_of_le
abbrev yMm := @Option.bind_some
abbrev yMn := @Nat.lt_or_ge
abbrev yMo := @Array.getElem?_eq_none
abbrev yMp := @Array.getElem?_eq_getElem
abbrev yMq := @cond_true
abbrev yMr := @Nat.beq_refl
abbrev yMs := @Nat.eq_of_beq_eq_true
abbrev yMt := @Array.getD_eq_getD_getElem?
abbrev yMu := @Prod.mk.injEq
abbrev yMv := @true_and
abbrev yMw := @Option.map_some
abbrev yMx := @Option.map_eq_some_iff
abbrev yMy := @List.length_cons
abbrev yMz := @List.cons_append
abbrev yN0 := @List.foldl_cons
abbrev yN1 := @List.length_append
abbrev yN2 := @List.replicate_zero
abbrev yN3 := @List.replicate_succ
abbrev yN4 := @Nat.add_mul
abbrev yN5 := @cond_false
abbrev yN6 := @Option.getD_some
abbrev yN7 := @Bool.eq_iff_iff
abbrev yN8 := @List.nil_append
abbrev yN9 := @Nat.zero_add
abbrev yNa := @List.mem_cons
abbrev yNb := @Bool.not_eq_true
abbrev yNc := @Nat.eq_zero_or_pos
abbrev yNd := @List.getElem?_eq_some_iff
abbrev yNe := @Nat.mul_le_mul_right
abbrev yNf := @List.getElem?_eq_getElem
abbrev yNg := @List.getElem?_map
abbrev yNh := @List.getD_eq_getElem?_getD
abbrev yNi := @Bool.false_or
abbrev yNj := @Bool.and_eq_true
abbrev yNk := @decide_eq_true_eq
abbrev yNl := @Bool.not_eq_true'
abbrev yNm := @List.map_cons
abbrev yNn := @Array.length_toList
abbrev yNo := @Nat.mul_one
abbrev yNp := @Option.map_none
abbrev yNq := @Int.toNat_natCast
abbrev yNr := @List.mem_of_getElem?
abbrev yNs := @Array.getElem?_setIfInBounds
abbrev yNt := @List.getElem?_append_left
abbrev yNu := @List.getElem?_append_right
abbrev yNv := @Array.getElem?_toList
abbrev yNw := @List.getElem?_eq_none
abbrev yNx := @List.size_toArray
abbrev yNy := @List.mem_cons_of_mem
abbrev yNz := @Nat.blt_eq
abbrev yO0 := @Bool.false_eq_true
abbrev yO1 := @List.mem_singleton
abbrev yO2 := @List.mem_append
abbrev yO3 := @List.getElem?_inj
abbrev yO4 := @List.length_nil
abbrev yO5 := @Array.getElem?_append_left
abbrev yO6 := @List.mem_map
abbrev yO7 := @List.length_map
abbrev yO8 := @List.mem_of_mem_take
abbrev yO9 := @List.append_nil
abbrev yOa := @List.map_nil
abbrev yOb := @Bool.not_true
abbrev yOc := @Bool.not_false
abbrev yOd := @List.forall_mem_cons
abbrev yOe := @List.not_mem_nil
abbrev yOf := @false_implies
abbrev yOg := @implies_true
abbrev yOh := @forall_const
abbrev yOi := @and_true
abbrev yOj := @and_self
abbrev yOk := @true_implies
abbrev yOl := @not_false_eq_true
abbrev yOm := @Bool.not_eq_false'
abbrev yOn := @Bool.or_eq_true
abbrev yOo := @decide_eq_false_iff_not
abbrev yOp := @Bool.and_eq_false_iff
abbrev yOq := @Bool.or_eq_false_iff
abbrev yOr := @Array.toList_append
abbrev yOs := @List.append_assoc
abbrev yOt := @List.length_take
abbrev yOu := @List.length_drop
abbrev yOv := @List.mem_range
abbrev yOw := @List.getElem?_of_mem
abbrev yOx := @List.mem_of_mem_drop
abbrev yOy := @List.cons.injEq
abbrev yOz := @Nat.add_sub_cancel_left
abbrev yP0 := @List.getElem?_set_ne
abbrev yP1 := @List.pairwise_iff_getElem
abbrev yP2 := @List.getElem?_set_self
abbrev yP3 := @List.flatMap_cons
abbrev yP4 := @List.findIdx?_eq_some_iff_getElem
abbrev yP5 := @List.getElem_mem
abbrev yP6 := @List.take_append_of_le_length
abbrev yP7 := @List.all_eq_true
abbrev yP8 := @Nat.le_of_ble_eq_true
abbrev yP9 := @Bool.not_eq_false
abbrev yPa := @Bool.true_eq_false
abbrev yPb := @Classical.not_not
abbrev yPc := @Option.some.inj
abbrev yPd := @Int.fdiv_eq_ediv_of_nonneg
abbrev yPe := @List.take_succ_eq_append_getElem
abbrev yPf := @Int.tmod_eq_emod_of_nonneg
abbrev yPg := @Int.mul_nonneg
abbrev yPh := @Nat.lt_succ_iff_lt_or_eq
abbrev yPi := @Int.eq_ofNat_of_zero_le
abbrev yPj := @Int.tdiv_eq_ediv_of_nonneg
abbrev yPk := @decide_eq_true_iff
abbrev yPl := @decide_eq_false
abbrev yPm := @decide_eq_true
abbrev yPn := @of_decide_eq_true
abbrev yPo := @of_decide_eq_false
abbrev yPp := @Int.mul_le_mul_of_nonneg_left
abbrev yPq := @Int.ediv_lt_of_lt_mul
abbrev yPr := @Nat.lt_succ_self
abbrev yPs := @Nat.ble_eq_true_of_le
end Go.Proofs.YtioaahmkebojiaaGreatDoor
namespace Go.Proofs.YtioaahmkebojiaaGreatDoor
set_option linter.unusedVariables false
set_option linter.unusedSimpArgs false
set_option maxHeartbeats 4000000
set_option maxRecDepth 100000
open Go.RowKit

inductive AV where
  | raw (v : Value)
  | agg (cs : List AV)
  | tup (cs : List AV)
  | lst (sz n : Nat) (el : Nat → List AV)
  | elt (cs : List AV) (off : Nat)
  | box (b off : Nat)
  | fn (f : Fn) (first cap : List AV)
  | row (k n : Nat)
  | bsl (sz b off n cap : Nat)
  | ifc (t : TypeId) (x : AV)
  | ful (x : AV)

structure Gh where
  imm : Nat → Nat → Prop
  bx : List Nat
  rw : List (Nat × Value)

mutual
def AV.rel (G : Gh) (w : World) : AV → Value → Prop
  | .raw x, v => v = x
  | .agg cs, v => ∃ vs : List Value, v = .agg vs.toArray ∧ AV.relL G w cs vs
  | .tup cs, v => ∃ vs : List Value, v = .tuple vs.toArray ∧ AV.relL G w cs vs
  | .lst sz n el, v => ∃ A cap, v = .slice A n cap ∧ n ≤ cap ∧ cap ≤ maxLen ∧ (0 < n → ∃ b o, A = some ⟨b, o, none⟩ ∧ ∀ i, i < n → ∃ vs, AV.relL G w (el i) vs ∧ vs.length = sz ∧
      ∀ j u, vs[j]? = some u → G.imm b (o + i * sz + j) ∧ w.cell? ⟨b, o + i * sz + j, none⟩ = some u)
  | .elt cs off, v => ∃ b o vs, v = .pointer (some ⟨b, o + off, none⟩) ∧ AV.relL G w cs vs ∧ ∀ j u, vs[j]? = some u → G.imm b (o + j) ∧ w.cell? ⟨b, o + j, none⟩ = some u
  | .box b off, v => ∃ blk, G.bx[b]? = some blk ∧ v = .pointer (some ⟨blk, off, none⟩)
  | .fn f first cap, v => ∃ fs cs : List Value, v = .func f fs.toArray cs.toArray ∧ AV.relL G w first fs ∧ AV.relL G w cap cs
  | .row k n, v => ∃ e, G.rw[k]? = some e ∧ n ≤ e.1 ∧ (e.1 = n → v = e.2)
  | .bsl _ b off n cap, v => ∃ blk A, G.bx[b]? = some blk ∧ v = .slice A n cap ∧ n ≤ cap ∧ cap ≤ maxLen ∧ (0 < cap → A = some ⟨blk, off, none⟩)
  | .ifc t x, v => ∃ u, v = .iface t u ∧ AV.rel G w x u
  | .ful x, v => AV.rel G w x v ∧ ∃ A n, v = .slice A n n
def AV.relL (G : Gh) (w : World) : List AV → List Value → Prop
  | [], vs => vs = []
  | c :: cs, vs => ∃ v r, vs = v :: r ∧ AV.rel G w c v ∧ AV.relL G w cs r
end

structure Gh.Le (G : Gh) (w : World) (G' : Gh) (w' : World) : Prop where
  imm : ∀ b o, G.imm b o → G'.imm b o
  cell : ∀ b o, G.imm b o → w'.cell? ⟨b, o, none⟩ = w.cell? ⟨b, o, none⟩
  bx : ∀ (k x : Nat), G.bx[k]? = some x → G'.bx[k]? = some x
  rw : ∀ (k : Nat) (e : Nat × Value), G.rw[k]? = some e → ∃ e', G'.rw[k]? = some e' ∧ (e' = e ∨ e.1 < e'.1)

theorem Gh.Le.refl (G : Gh) (w : World) : G.Le w G w := ⟨fun _ _ h => h, fun _ _ _ => rfl, fun _ _ h => h, fun _ e h => ⟨e, h, .inl rfl⟩⟩
theorem Gh.Le.trans {G G' G'' : Gh} {w w' w'' : World} (h : G.Le w G' w') (h' : G'.Le w' G'' w'') : G.Le w G'' w'' :=
  ⟨fun b o i => h'.imm b o (h.imm b o i), fun b o i => (h'.cell b o (h.imm b o i)).trans (h.cell b o i), fun k x i => h'.bx k x (h.bx k x i), fun k e i => by
    obtain ⟨e1, h1, h2⟩ := h.rw k e i
    obtain ⟨e2, h3, h4⟩ := h'.rw k e1 h1
    refine ⟨e2, h3, ?_⟩
    rcases h2 with rfl | h2 <;> rcases h4 with rfl | h4
    · exact .inl rfl
    · exact .inr h4
    · exact .inr h2
    · exact .inr (Nat.lt_trans h2 h4)⟩

mutual
theorem AV.rel_mono {G G' : Gh} {w w' : World} (le : G.Le w G' w') : ∀ (x : AV) (v : Value), x.rel G w v → x.rel G' w' v
  | .raw _, _, h => h
  | .agg cs, _, h => by
    obtain ⟨vs, e, h⟩ := h
    exact ⟨vs, e, AV.relL_mono le cs vs h⟩
  | .tup cs, _, h => by
    obtain ⟨vs, e, h⟩ := h
    exact ⟨vs, e, AV.relL_mono le cs vs h⟩
  | .lst sz n el, _, h => by
    obtain ⟨A, cap, e, h1, h2, h3⟩ := h
    refine ⟨A, cap, e, h1, h2, fun hn => ?_⟩
    obtain ⟨b, o, hA, h4⟩ := h3 hn
    refine ⟨b, o, hA, fun i hi => ?_⟩
    obtain ⟨vs, h5, h6, h7⟩ := h4 i hi
    exact ⟨vs, AV.relL_mono le (el i) vs h5, h6, fun j u hj => ⟨le.imm _ _ (h7 j u hj).1, (le.cell _ _ (h7 j u hj).1).trans (h7 j u hj).2⟩⟩
  | .elt cs off, _, h => by
    obtain ⟨b, o, vs, e, h1, h2⟩ := h
    exact ⟨b, o, vs, e, AV.relL_mono le cs vs h1, fun j u hj => ⟨le.imm _ _ (h2 j u hj).1, (le.cell _ _ (h2 j u hj).1).trans (h2 j u hj).2⟩⟩
  | .box b off, _, h => by
    obtain ⟨blk, h1, h2⟩ := h
    exact ⟨blk, le.bx _ _ h1, h2⟩
  | .fn f first cap, _, h => by
    obtain ⟨fs, cs, e, h1, h2⟩ := h
    exact ⟨fs, cs, e, AV.relL_mono le first fs h1, AV.relL_mono le cap cs h2⟩
  | .bsl _ b off n cap, _, h => by
    obtain ⟨blk, A, h1, h2⟩ := h
    exact ⟨blk, A, le.bx _ _ h1, h2⟩
  | .ifc t x, _, h => by
    obtain ⟨u, e, h⟩ := h
    exact ⟨u, e, AV.rel_mono le x u h⟩
  | .ful x, v, h => ⟨AV.rel_mono le x v h.1, h.2⟩
  | .row k n, _, h => by
    obtain ⟨e, h1, h2, h3⟩ := h
    obtain ⟨e', h4, h5⟩ := le.rw k e h1
    refine ⟨e', h4, ?_, ?_⟩
    · rcases h5 with rfl | h5
      · exact h2
      · omega
    · rcases h5 with rfl | h5
      · exact h3
      · intro h6; omega
theorem AV.relL_mono {G G' : Gh} {w w' : World} (le : G.Le w G' w') : ∀ (xs : List AV) (vs : List Value), AV.relL G w xs vs → AV.relL G' w' xs vs
  | [], _, h => h
  | x :: xs, _, h => by
    obtain ⟨v, r, e, h1, h2⟩ := h
    exact ⟨v, r, e, AV.rel_mono le x v h1, AV.relL_mono le xs r h2⟩
end

mutual
/-- No own variable and no row below the number given is needed. -/
def AV.free : AV → Prop
  | .raw _ => True
  | .agg cs => AV.freeL cs
  | .tup cs => AV.freeL cs
  | .lst _ n el => ∀ i, i < n → AV.freeL (el i)
  | .elt cs _ => AV.freeL cs
  | .box _ _ => False
  | .fn _ first cap => AV.freeL first ∧ AV.freeL cap
  | .row _ _ => False
  | .bsl _ _ _ _ _ => False
  | .ifc _ x => AV.free x
  | .ful x => AV.free x
def AV.freeL : List AV → Prop
  | [] => True
  | c :: cs => AV.free c ∧ AV.freeL cs
end

mutual
theorem AV.rel_free {G G' : Gh} {w : World} (h0 : ∀ b o, G.imm b o → G'.imm b o) : ∀ (x : AV) (v : Value), x.free → x.rel G w v → x.rel G' w v
  | .raw _, _, _, h => h
  | .agg cs, _, f, h => by
    obtain ⟨vs, e, h⟩ := h
    exact ⟨vs, e, AV.relL_free h0 cs vs f h⟩
  | .tup cs, _, f, h => by
    obtain ⟨vs, e, h⟩ := h
    exact ⟨vs, e, AV.relL_free h0 cs vs f h⟩
  | .lst sz n el, _, f, h => by
    obtain ⟨A, cap, e, h1, h2, h3⟩ := h
    refine ⟨A, cap, e, h1, h2, fun hn => ?_⟩
    obtain ⟨b, o, hA, h4⟩ := h3 hn
    refine ⟨b, o, hA, fun i hi => ?_⟩
    obtain ⟨vs, h5, h6, h7⟩ := h4 i hi
    exact ⟨vs, AV.relL_free h0 (el i) vs (f i hi) h5, h6, fun j u hj => ⟨h0 _ _ (h7 j u hj).1, (h7 j u hj).2⟩⟩
  | .elt cs off, _, f, h => by
    obtain ⟨b, o, vs, e, h1, h2⟩ := h
    exact ⟨b, o, vs, e, AV.relL_free h0 cs vs f h1, fun j u hj => ⟨h0 _ _ (h2 j u hj).1, (h2 j u hj).2⟩⟩
  | .box b off, _, f, _ => f.elim
  | .fn _ first cap, _, f, h => by
    obtain ⟨fs, cs, e, h1, h2⟩ := h
    exact ⟨fs, cs, e, AV.relL_free h0 first fs f.1 h1, AV.relL_free h0 cap cs f.2 h2⟩
  | .row k n, _, f, _ => f.elim
  | .bsl _ _ _ _ _, _, f, _ => f.elim
  | .ifc t x, _, f, h => by
    obtain ⟨u, e, h⟩ := h
    exact ⟨u, e, AV.rel_free h0 x u f h⟩
  | .ful x, v, f, h => ⟨AV.rel_free h0 x v f h.1, h.2⟩
theorem AV.relL_free {G G' : Gh} {w : World} (h0 : ∀ b o, G.imm b o → G'.imm b o) : ∀ (xs : List AV) (vs : List Value), AV.freeL xs → AV.relL G w xs vs → AV.relL G' w xs vs
  | [], _, _, h => h
  | x :: xs, _, f, h => by
    obtain ⟨v, r, e, h1, h2⟩ := h
    exact ⟨v, r, e, AV.rel_free h0 x v f.1 h1, AV.relL_free h0 xs r f.2 h2⟩
end

theorem AV.relL_length {G : Gh} {w : World} : ∀ {xs : List AV} {vs : List Value}, AV.relL G w xs vs → vs.length = xs.length
  | [], _, h => by rw [show _ = _ from h]; rfl
  | _ :: _, _, h => by
    obtain ⟨v, r, e, _, h2⟩ := h
    rw [e]; simp [AV.relL_length h2]
theorem AV.relL_get {G : Gh} {w : World} : ∀ {xs : List AV} {vs : List Value} {j : Nat} {x : AV}, AV.relL G w xs vs → xs[j]? = some x → ∃ v, vs[j]? = some v ∧ x.rel G w v
  | y :: ys, _, j, x, h, hj => by
    obtain ⟨v, r, e, h1, h2⟩ := h
    subst e
    cases j with
    | zero => simp only [yMb, yMc] at hj ⊢; subst hj; exact ⟨v, rfl, h1⟩
    | succ j => simp only [yMd] at hj ⊢; exact AV.relL_get h2 hj
theorem AV.relL_mk {G : Gh} {w : World} : ∀ {xs : List AV} {vs : List Value}, vs.length = xs.length → (∀ (j : Nat) (x : AV) (v : Value), xs[j]? = some x → vs[j]? = some v → x.rel G w v) → AV.relL G w xs vs
  | [], vs, h, _ => yMe (by simpa using h)
  | x :: xs, [], h, _ => by simp at h
  | x :: xs, v :: vs, h, hr => ⟨v, vs, rfl, hr 0 x v rfl rfl, AV.relL_mk (by simpa using h) fun j y u hy hu => hr (j + 1) y u (by simpa using hy) (by simpa using hu)⟩
theorem AV.relL_drop {G : Gh} {w : World} {xs : List AV} {vs : List Value} (k : Nat) (h : AV.relL G w xs vs) : AV.relL G w (xs.drop k) (vs.drop k) :=
  AV.relL_mk (by simp [AV.relL_length h]) fun j x v hx hv => by
    rw [yMf] at hx hv
    obtain ⟨v', h1, h2⟩ := AV.relL_get h hx
    rw [hv] at h1; cases h1; exact h2
theorem AV.relL_take {G : Gh} {w : World} {xs : List AV} {vs : List Value} (k : Nat) (h : AV.relL G w xs vs) : AV.relL G w (xs.take k) (vs.take k) :=
  AV.relL_mk (by simp [AV.relL_length h]) fun j x v hx hv => by
    rw [yMg] at hx hv
    split at hx
    · rename_i hj
      rw [if_pos hj] at hv
      obtain ⟨v', h1, h2⟩ := AV.relL_get h hx
      rw [hv] at h1; cases h1; exact h2
    · cases hx
theorem AV.relL_append {G : Gh} {w : World} : ∀ {xs ys : List AV} {vs us : List Value}, AV.relL G w xs vs → AV.relL G w ys us → AV.relL G w (xs ++ ys) (vs ++ us)
  | [], _, _, _, h, h' => by rw [show _ = _ from h]; exact h'
  | _ :: _, _, _, _, h, h' => by
    obtain ⟨v, r, e, h1, h2⟩ := h
    subst e
    exact ⟨v, _, rfl, h1, AV.relL_append h2 h'⟩

structure zV where
  e : TypeId
  sz : Nat
  n : Nat
  el : Nat → List AV

structure ASt where
  nt : Nat
  nb : Nat
  sl : List (Nat × (Bool × AV))
  bx : List (List AV)
  rw : List zV
  ys : (Nat × List (List AV)) × List (List AV) × Bool

def yL {β : Type} (t : Nat) : List (Nat × β) → Option β
  | [] => none
  | x :: r => bif Nat.beq t x.1 then some x.2 else yL t r
def ASt.look (st : ASt) (t : Nat) : Option (Bool × AV) := yL t st.sl
def ASt.put (st : ASt) (d : Nat) (e : Bool × AV) : ASt := { st with sl := (d, e) :: st.sl }
def zZc : Value → AV
  | .agg cs => .agg (cs.toList.map .raw)
  | v => .raw v
def ASt.ev (st : ASt) : Operand → Option (Bool × AV)
  | .tmp t => st.look t
  | .const v => some (true, zZc v)
  | .func f => some (true, .raw (.func (.func f) #[] #[]))
  | .global _ => none

def zC : Value → Option Nat
  | .slice (some a) _ _ => some a.block
  | .map (some m) => some m
  | _ => none
theorem zRr {w : World} {base : Nat} {e : TypeId} {size : Nat} {v : Value} {n : Nat} {xs : List Value} (h : w.ownsRow base e size v n xs) : zC v = v.ownBlock := by
  rcases h.2 with ⟨rfl, _⟩ | ⟨g, cap, cur, rfl, _⟩ <;> rfl
def vS (l : List (Value × Value)) (i : Nat) : List AV := match l[i]? with
  | some (k, v) => [.raw k, .raw v]
  | none => []
def zG8 (w : World) (r : zV) (v : Value) (xs : List Value) : Prop := xs.length = r.n * r.sz ∧
  ((v = .slice none 0 0 ∧ r.n = 0 ∧ 0 < r.sz) ∨
   (∃ g cap cur, v = .slice (some ⟨g, 0, none⟩) r.n cap ∧ 0 < r.sz ∧ w.heap[g]? = some (.cells cur r.e (0, 0)) ∧ r.n ≤ cap ∧ cap ≤ maxLen ∧ cur.size = cap * r.sz ∧ cur.toList.take (r.n * r.sz) = xs) ∨
   (∃ m es ck, v = .map (some m) ∧ (r.sz = 0 ∧ r.n = 0) ∧ w.heap[m]? = some (.map es ck) ∧ r.el = vS (es.toList.map fun e => (e.key, e.val))))
theorem zG8.row {w : World} {r : zV} {v : Value} {xs : List Value} (h : zG8 w r v xs) (h0 : 0 < r.sz) : w.ownsRow 0 r.e r.sz v r.n xs := by
  refine ⟨h.1, ?_⟩
  rcases h.2 with h | ⟨g, cap, cur, hv, _, hr⟩ | ⟨m, es, ck, _, h, _⟩
  · exact .inl ⟨h.1, h.2.1⟩
  · exact .inr ⟨g, cap, cur, hv, yMh _, hr⟩
  · omega
theorem zG8.like {w : World} {r r' : zV} {v : Value} {xs : List Value} (h : zG8 w r v xs) (h1 : r.e = r'.e) (h2 : r.sz = r'.sz) (h3 : r.n = r'.n) (h4 : r.sz = 0 → r.el = r'.el) : zG8 w r' v xs := by
  obtain ⟨e, sz, n, el⟩ := r
  obtain ⟨e', sz', n', el'⟩ := r'
  simp only at h1 h2 h3 h4
  subst h1; subst h2; subst h3
  refine ⟨h.1, ?_⟩
  rcases h.2 with h | h | ⟨m, es, ck, hv, hz, hm, hr⟩
  · exact .inl h
  · exact .inr (.inl h)
  · exact .inr (.inr ⟨m, es, ck, hv, hz, hm, (h4 hz.1).symm.trans hr⟩)
theorem zJk (l : List (Value × Value)) (i : Nat) : vS l i = [] ∨ ∃ k v, vS l i = [.raw k, .raw v] := by
  unfold vS
  split
  · exact .inr ⟨_, _, rfl⟩
  · exact .inl rfl
theorem zG8.of {w : World} {r : zV} {v : Value} {xs : List Value} (h : w.ownsRow 0 r.e r.sz v r.n xs) (h0 : 0 < r.sz) : zG8 w r v xs := ⟨h.1, h.2.elim (fun h => .inl ⟨h.1, h.2, h0⟩) fun ⟨g, cap, cur, hv, _, hr⟩ => .inr (.inl ⟨g, cap, cur, hv, h0, hr⟩)⟩
theorem zG8.keep {w w' : World} {r : zV} {v : Value} {xs : List Value} (h : zG8 w r v xs) (hh : ∀ g, zC v = some g → g < w.heap.size → w'.heap[g]? = w.heap[g]?) : zG8 w' r v xs := by
  refine ⟨h.1, ?_⟩
  rcases h.2 with h | ⟨g, cap, cur, hv, hb, hg, hr⟩ | ⟨m, es, ck, hv, h1, hm, hr⟩
  · exact .inl h
  · exact .inr (.inl ⟨g, cap, cur, hv, hb, by rw [hh g (by rw [hv]; rfl) (yMi.1 hg).1]; exact hg, hr⟩)
  · exact .inr (.inr ⟨m, es, ck, hv, h1, by rw [hh m (by rw [hv]; rfl) (yMi.1 hm).1]; exact hm, hr⟩)
theorem zG8.lt {w : World} {r : zV} {v : Value} {xs : List Value} (h : zG8 w r v xs) {g : Nat} (hg : zC v = some g) : g < w.heap.size := by
  rcases h.2 with ⟨hv, _⟩ | ⟨g', cap, cur, hv, _, hh, _⟩ | ⟨m, es, ck, hv, _, hm, _⟩
  · rw [hv] at hg; cases hg
  · rw [hv] at hg; cases hg; exact (yMi.1 hh).1
  · rw [hv] at hg; cases hg; exact (yMi.1 hm).1
structure zC0 (G : Gh) (w : World) (r : zV) (x : Nat × Value) : Prop where
  len : x.1 = r.n
  own : ∃ xs, zG8 w r x.2 xs ∧ ∀ i, i < r.n → ∃ vs, AV.relL G w (r.el i) vs ∧ vs.length = r.sz ∧ ∀ j u, vs[j]? = some u → xs[i * r.sz + j]? = some u
  imm : ∀ g, (zC x.2) = some g → ∀ o, G.imm g o ↔ o < r.n * r.sz

structure xU (G : Gh) (w : World) (bx : List (List AV)) (rw : List zV) : Prop where
  immOk : ∀ b o, G.imm b o → (w.cell? ⟨b, o, none⟩).isSome = true
  lenB : G.bx.length = bx.length
  lenR : G.rw.length = rw.length
  nodup : G.bx.Nodup
  box : ∀ (k : Nat) (cs : List AV) (blk : Nat), bx[k]? = some cs → G.bx[k]? = some blk → (∀ o, ¬ G.imm blk o) ∧ ∃ (vs : List Value) (T : TypeId), w.heap[blk]? = some (.cells vs.toArray T (0, 0)) ∧ AV.relL G w cs vs
  row : ∀ (k : Nat) (r : zV) (x : Nat × Value), rw[k]? = some r → G.rw[k]? = some x → zC0 G w r x
  sepB : ∀ (k : Nat) (x : Nat × Value) (g : Nat), G.rw[k]? = some x → (zC x.2) = some g → g ∉ G.bx
  sepR : ∀ (k k' : Nat) (x x' : Nat × Value) (g : Nat), G.rw[k]? = some x → G.rw[k']? = some x' → (zC x.2) = some g → (zC x'.2) = some g → k = k'

structure zR (D : Nat → Prop) (w w' : World) : Prop where
  os : w'.os = w.os
  tape : w'.tape = w.tape
  output : w'.output = w.output
  size : w.heap.size ≤ w'.heap.size
  block : ∀ k, k < w.heap.size → ¬ D k → w'.heap[k]? = w.heap[k]?
theorem zR.refl (D : Nat → Prop) (w : World) : zR D w w := ⟨rfl, rfl, rfl, yMj _, fun _ _ _ => rfl⟩
theorem zR.trans {D : Nat → Prop} {a b c : World} (h : zR D a b) (k : zR D b c) : zR D a c :=
  ⟨k.os.trans h.os, k.tape.trans h.tape, k.output.trans h.output, yMk h.size k.size, fun i hi hd => (k.block i (yMl hi h.size) hd).trans (h.block i hi hd)⟩
theorem zR.of_below {D : Nat → Prop} {w w' : World} (h : Below w.heap.size w w') : zR D w w' := ⟨h.os, h.tape, h.output, h.size, fun k hk _ => h.block k hk⟩

def fen (r : Option Nat) : Fence := { fn := fun _ => True, depth := none, alive := false, round := r }
theorem xM {r : Option Nat} {n : Nat} {P : Program} {f : FuncId} {args : Array Value} {w : World} {R : Ending → World → Prop} (h : Calls P f args w R) : CallsIn (fen r) n P f args w R := by
  cases r with
  | none => exact callsIn_wide.2 h
  | some l => exact (callsIn_wide.2 h : CallsIn Fence.wide n P f args w R)

abbrev Env := List (List AV) → Bool → (Nat → Nat → Prop) → (Nat → Prop) → World → Prop
def zTw (W : Env) : Prop := ∀ (h : List (List AV)) (s : Bool) (I I' : Nat → Nat → Prop) (D : Nat → Prop) (w w' : World), W h s I D w → zR (fun k => ¬ D k) w w' → (∀ b o, I b o → I' b o ∧ w'.cell? ⟨b, o, none⟩ = w.cell? ⟨b, o, none⟩) → W h s I' D w'
theorem zR.mono {D D' : Nat → Prop} {w w' : World} (h : zR D w w') (hd : ∀ k, k < w.heap.size → D k → D' k) : zR D' w w' := ⟨h.os, h.tape, h.output, h.size, fun k hk hn => h.block k hk fun hD => hn (hd k hk hD)⟩
def YOk (P : Program) (l : Nat × List (List AV)) (I0 : Nat → Nat → Prop) (W : Env) : Prop :=
  ∀ (ro : Option Nat) (h : List (List AV)) (item : List AV) (I : Nat → Nat → Prop) (D : Nat → Prop) (w : World) (vs : List Value), W h false I D w → (h ++ [item]) <+: l.2 → (∀ k, D k → k < w.heap.size) → (∀ b o, I b o → (w.cell? ⟨b, o, none⟩).isSome = true ∧ (I0 b o ∨ ¬ D b)) → (∀ b o, I0 b o → I b o) → AV.relL ⟨I, [], []⟩ w item vs →
    ∃ f tmps assign body, (Instr.yield l.1 vs.toArray).run P w = .ok (.round l.1 f tmps assign body) w ∧
      RoundIn (fen ro) 0 P l.1 f tmps assign body w fun e w' => ∃ b D', e = .returned (.bool b) ∧ W (h ++ [item]) (!b) I D' w' ∧ zR D w w' ∧ (∀ b o, I b o → w'.cell? ⟨b, o, none⟩ = w.cell? ⟨b, o, none⟩) ∧ (∀ k, D' k → (D k ∨ w.heap.size ≤ k) ∧ k < w'.heap.size)

def zGj (P : Program) (g : Nat) : Prop := P.globalNamed "internal/strconv.uint64pow10" = some g
def zIp (P : Program) (g : Nat) : Prop := P.globalNamed "strings.asciiSpace" = some g
def vC (P : Program) (g : Nat) : Prop := zGj P g ∨ zIp P g
def zTx (w : World) (g : Nat) : Prop := ∃ a T fz, w.heap[g]? = some (.cells a T fz) ∧ ∀ c, c < 256 → ∃ n, a[c]? = some (.int .u8 n)
def zFm (P : Program) (w : World) : Prop := (∀ g, zGj P g → Lib.TabIs P w "internal/strconv.uint64pow10" .u64 Lib.pow10Tab) ∧ ∀ g, zIp P g → zTx w g
theorem zFm.lt {P : Program} {w : World} (h : zFm P w) {g : Nat} (hg : vC P g) : g < w.heap.size := by
  rcases hg with hg | hg
  · have h := h.1 g hg
    unfold Lib.TabIs World.var? at h
    rw [show P.globalNamed "internal/strconv.uint64pow10" = some g from hg] at h
    simp only [yMm] at h
    rcases yMn g w.heap.size with h' | h'
    · exact h'
    · rw [yMo h'] at h; simp at h
  · obtain ⟨a, T, fz, h1, _⟩ := h.2 g hg
    exact (yMi.1 h1).1
theorem zFm.keep {P : Program} {w w' : World} (h : zFm P w) (hk : ∀ g, vC P g → w'.heap[g]? = w.heap[g]?) : zFm P w' := by
  refine ⟨fun g hg => ?_, fun g hg => ?_⟩
  · have h1 := h.1 g hg
    unfold Lib.TabIs World.var? at h1 ⊢
    rw [show P.globalNamed "internal/strconv.uint64pow10" = some g from hg] at h1 ⊢
    simp only [yMm] at h1 ⊢
    rw [hk g (.inl hg)]
    exact h1
  · obtain ⟨a, T, fz, h1, h2⟩ := h.2 g hg
    exact ⟨a, T, fz, (hk g (.inr hg)).trans h1, h2⟩
def W0 (P : Program) (w0 : World) : Env := fun _ s _ D w => s = true ∧ (∀ k, D k ↔ vC P k) ∧ ∀ k, vC P k → w.heap[k]? = w0.heap[k]?
theorem zFe {P : Program} {w0 : World} (ht : zFm P w0) : zTw (W0 P w0) := fun _ _ _ _ _ w w' h ho _ => ⟨h.1, h.2.1, fun k hk => by
  have h1 := h.2.2 k hk
  have hlt : k < w.heap.size := by
    have h2 := ht.lt hk
    rw [yMp h2] at h1
    exact (yMi.1 h1).1
  rw [← h1]
  exact ho.block k hlt fun hn => hn ((h.2.1 k).2 hk)⟩
theorem zMm {P : Program} {w0 : World} (ht : zFm P w0) : ∀ h s I D w, W0 P w0 h s I D w → zFm P w ∧ ∀ g, vC P g → D g := fun _ _ _ _ _ h => ⟨ht.keep h.2.2, fun g hg => (h.2.1 g).2 hg⟩
theorem yM0 {P : Program} {w0 : World} {l : Nat × List (List AV)} {I0 : Nat → Nat → Prop} : YOk P l I0 (W0 P w0) := fun _ _ _ _ _ _ _ h _ => by cases h.1

structure Ctx (P : Program) where
  round : Option Nat
  l : Nat × List (List AV)
  D : Nat → Prop
  W : Env
  I0 : Nat → Nat → Prop
  G0 : Gh
  w0 : World
  base : ∀ b o, I0 b o → G0.imm b o
  stable : zTw W
  y : YOk P l I0 W
  tabs : ∀ h s I D w, W h s I D w → zFm P w ∧ ∀ g, vC P g → D g
def Ctx.may {P : Program} (C : Ctx P) (k : Nat) : Prop := C.D k ∨ k ∈ C.G0.bx ∨ ∃ x ∈ C.G0.rw, (zC x.2) = some k

def zNl (m : Nat) : Deferred := { target := .collected m, args := #[] }
structure EnvD {P : Program} (C : Ctx P) (G : Gh) (ds : List Deferred) (ys : (Nat × List (List AV)) × List (List AV) × Bool) (D : Nat → Prop) (w : World) : Prop where
  l : C.l = ys.1
  cons : C.W ys.2.1 ys.2.2 G.imm D w
  sub : ∀ k, D k → C.D k ∨ C.w0.heap.size ≤ k
  lt : ∀ k, D k → k < w.heap.size
  bx : ∀ k ∈ G.bx, ¬ D k
  rw : ∀ x ∈ G.rw, ∀ g, (zC x.2) = some g → ¬ D g
  imm : ∀ b o, G.imm b o → C.I0 b o ∨ ¬ D b
  marks : ∃ l : List Nat, ds = l.map zNl ∧ l.Nodup ∧ ∀ m ∈ l, w.heap[m]? = some (.deferred (some [])) ∧ ¬ D m ∧ C.w0.heap.size ≤ m
  record : ∀ r, C.round = some r → (∃ L, w.heap[r]? = some (.loop L)) ∧ ¬ D r

structure Sat {P : Program} (C : Ctx P) (G : Gh) (a : Act) (w : World) (st : ASt) : Prop where
  size : a.tmps.size = st.nt
  callers : C.G0.bx.length = st.nb % 64 ∧ C.G0.rw.length = st.nb / 64
  frame : zR C.may C.w0 w
  le : C.G0.Le C.w0 G w
  fresh : ∀ b o, G.imm b o → C.G0.imm b o ∨ C.w0.heap.size ≤ b ∨ ∃ x ∈ C.G0.rw, (zC x.2) = some b
  ownB : ∀ blk ∈ G.bx, blk ∈ C.G0.bx ∨ C.w0.heap.size ≤ blk
  ownR : ∀ x ∈ G.rw, ∀ g, (zC x.2) = some g → (∃ y ∈ C.G0.rw, (zC y.2) = some g) ∨ C.w0.heap.size ≤ g
  env : ∃ D, EnvD C G a.defers st.ys D w
  mem : xU G w st.bx st.rw
  slot : ∀ t c x, st.look t = some (c, x) → ∃ v, a.tmps[t]? = some v ∧ (c = true → x.rel G w v) ∧ (c = false → v = undef)

theorem EnvD.tabs {P : Program} {C : Ctx P} {G : Gh} {ds : List Deferred} {ys : (Nat × List (List AV)) × List (List AV) × Bool} {w : World} (e : ∃ D, EnvD C G ds ys D w) : zFm P w :=
  let ⟨_, e⟩ := e
  (C.tabs _ _ _ _ _ e.cons).1
theorem Sat.tabs {P : Program} {C : Ctx P} {G : Gh} {a : Act} {w : World} {st : ASt} (hs : Sat C G a w st) : zFm P w :=
  let ⟨_, e⟩ := hs.env
  (C.tabs _ _ _ _ _ e.cons).1
theorem Sat.tabs_own {P : Program} {C : Ctx P} {G : Gh} {a : Act} {w : World} {st : ASt} (hs : Sat C G a w st) : ∀ g, vC P g → g ∉ G.bx ∧ ∀ x ∈ G.rw, (zC x.2) ≠ some g := fun g hg =>
  let ⟨_, e⟩ := hs.env
  have hd := (C.tabs _ _ _ _ _ e.cons).2 g hg
  ⟨fun h => e.bx g h hd, fun x hx h => e.rw x hx g h hd⟩
def zKk {P : Program} (C : Ctx P) (Q : Exit → ASt → Prop) (e : Exit) (a : Act) (w : World) : Prop := ∃ G st, Sat C G a w st ∧ Q e st
def wpA (P : Program) (c : Code) (Q : Exit → ASt → Prop) (st : ASt) : Prop := ∀ (C : Ctx P) G a w, Sat C G a w st → c.wpIn (fen C.round) 0 P (zKk C Q) a w

def xT (st st' : ASt) : Prop := ∀ (P : Program) (C : Ctx P) G a w, Sat C G a w st → ∃ G', Sat C G' a w st'
theorem xT.trans {a b c : ASt} (h : xT a b) (h' : xT b c) : xT a c := fun P C G x w hs => let ⟨_, h1⟩ := h P C G x w hs; h' P C _ x w h1
theorem y6 {P : Program} {c : Code} {Q : Exit → ASt → Prop} {st st' : ASt} (h : xT st st') (hw : wpA P c Q st') : wpA P c Q st :=
  fun C G a w hs => let ⟨G', h1⟩ := h P C G a w hs; hw C G' a w h1

section rules
variable {P : Program} {Q : Exit → ASt → Prop} {st : ASt}

theorem j8 (h : Q .normal st) : wpA P .skip Q st := fun _ G _ _ hs => wpIn_skip ⟨G, st, hs, h⟩
theorem kB {l : Nat} (h : Q .normal st) : wpA P (.label l) Q st := fun _ G _ _ hs => wpIn_label ⟨G, st, hs, h⟩
theorem zA1 {id : Nat} (h : Q (.exit id) st) : wpA P (.exit id) Q st := fun _ G _ _ hs => wpIn_exit ⟨G, st, hs, h⟩
theorem zC5 (h : Q .ret st) : wpA P .ret Q st := fun _ G _ _ hs => wpIn_ret ⟨G, st, hs, h⟩

def zIl (k : ASt → Prop) (Q : Exit → ASt → Prop) : Exit → ASt → Prop
  | .normal, st => k st
  | e, st => Q e st
def zA7 (id : Nat) (Q : Exit → ASt → Prop) : Exit → ASt → Prop
  | .exit id', st => bif Nat.beq id' id then Q .normal st else Q (.exit id') st
  | e, st => Q e st

theorem zMr {c : Code} {Q' : Exit → ASt → Prop} (h : wpA P c Q st) (hq : ∀ e st, Q e st → Q' e st) : wpA P c Q' st :=
  fun C G a w hs => wpIn_mono (h C G a w hs) fun _ _ _ ⟨G', st', h1, h2⟩ => ⟨G', st', h1, hq _ _ h2⟩

theorem zX8 {x y : Code} (h : ∀ K : ASt → Prop, (∀ s, wpA P y Q s → K s) → wpA P x (zIl K Q) st) : wpA P (.seq x y) Q st := by
  intro C G a w hs
  refine wpIn_seq (wpIn_mono (h (fun s => wpA P y Q s) (fun _ h => h) C G a w hs) ?_)
  rintro e a' w' ⟨G', st', h1, h2⟩
  cases e with
  | normal => exact h2 C G' a' w' h1
  | _ => exact ⟨G', st', h1, h2⟩

theorem kD {id : Nat} {c : Code} (h : wpA P c (zA7 id Q) st) : wpA P (.block id c) Q st := by
  intro C G a w hs
  refine wpIn_block (wpIn_mono (h C G a w hs) ?_)
  rintro e a' w' ⟨G', st', h1, h2⟩
  cases e with
  | exit id' =>
    simp only [Exit.inBlock, zA7] at h2 ⊢
    by_cases hid : id' = id
    · subst hid
      simp only [Nat.beq_eq_true_eq, yMq, ite_true, yMr] at h2 ⊢
      exact ⟨G', st', h1, h2⟩
    · have : Nat.beq id' id = false := by
        cases hb : Nat.beq id' id
        · rfl
        · exact absurd (yMs hb) hid
      rw [this] at h2
      rw [if_neg hid]
      exact ⟨G', st', h1, h2⟩
  | _ => exact ⟨G', st', h1, h2⟩

theorem zUc {x y : Code} {c : Operand} {b : Bool} (hc : st.ev c = some (true, .raw (.bool b))) (ht : b = true → wpA P x Q st) (hf : b = false → wpA P y Q st) : wpA P (.cond c x y) Q st := by
  intro C G a w hs
  have he : a.eval c = .bool b := by
    cases c with
    | tmp t =>
      obtain ⟨v, h1, h2, _⟩ := hs.slot t _ _ hc
      have := h2 rfl
      simp only [AV.rel] at this
      simp [Act.eval, yMt, h1, this]
    | const v =>
      simp only [ASt.ev, yMc, yMu, yMv] at hc
      cases v <;> simp [zZc] at hc
      subst hc; rfl
    | global g => simp [ASt.ev] at hc
    | func f => simp [ASt.ev] at hc
  refine wpIn_cond_split he (fun hb => ht hb C G a w hs) (fun hb => hf hb C G a w hs)

theorem zP {ι : Type} {c : Code} (I : ι → ASt) (ok : ι → Prop) (μ : ι → Nat) (i0 : ι) (h0 : xT st (I i0)) (hok : ok i0)
    (round : ∀ i, ok i → wpA P c (zIl (fun s => ∃ j, ok j ∧ μ j < μ i ∧ xT s (I j)) Q) (I i)) : wpA P (.loop c) Q st := by
  intro C G a w hs
  obtain ⟨G0, hs0⟩ := h0 P C G a w hs
  clear hs h0
  intro b k cs hro hb hr
  have key : ∀ n i, μ i = n → ok i → ∀ G a w, Sat C G a w (I i) →
      ∃ e a' w', zKk C Q e a' w' ∧ ArrivesIn (Machine.fenced P (fen C.round)) P (lone (b.atR a (.code c :: .inLoop c :: k)) cs w) b k cs e a' w' := by
    intro n
    induction n using Nat.strongRecOn with
    | _ n ih =>
      intro i hn hi G a w hs
      obtain ⟨e, a1, w1, ⟨G1, s1, hs1, hq⟩, harr⟩ := round i hi C G a w hs b (.inLoop c :: k) cs hro hb hr
      cases e with
      | normal =>
        obtain ⟨j, hj, hlt, hw⟩ := hq
        obtain ⟨G2, hs2⟩ := hw P C G1 a1 w1 hs1
        obtain ⟨e2, a2, w2, hq2, harr2⟩ := ih (μ j) (hn ▸ hlt) j rfl hj G2 a1 w1 hs2
        exact ⟨e2, a2, w2, hq2, .of_steps (StepsIn.trans harr (.one (fenced_calm hb hr rfl) stepR_inLoop)) harr2⟩
      | exit id => exact ⟨_, a1, w1, ⟨G1, s1, hs1, hq⟩, .pass (x := .inLoop c) rfl (fun _ _ => .inl sq) harr⟩
      | goto l => exact ⟨_, a1, w1, ⟨G1, s1, hs1, hq⟩, .pass (x := .inLoop c) rfl (fun _ _ => .inl sq) harr⟩
      | ret => exact ⟨_, a1, w1, ⟨G1, s1, hs1, hq⟩, .pass (x := .inLoop c) rfl (fun _ _ => .inl sq) harr⟩
      | panic ch => exact ⟨_, a1, w1, ⟨G1, s1, hs1, hq⟩, .pass (x := .inLoop c) rfl (fun _ _ => .inl sq) harr⟩
      | outgrown => exact ⟨_, a1, w1, ⟨G1, s1, hs1, hq⟩, .pass (x := .inLoop c) rfl (fun _ _ => .inl sq) harr⟩
  obtain ⟨e, a', w', hq, harr⟩ := key _ i0 rfl hok G0 a w hs0
  exact ⟨e, a', w', hq, .of_steps (.one (fenced_calm hb hr rfl) stepR_loop) harr⟩
end rules

inductive TK where
  | int (k : IntKind) | bool | str | slice (e : Nat) | struct (fs : List (Nat × Nat)) | array (n e : Nat) | ptr (e : Nat) | func | iface | map (k e : Nat) | other
def TK.isIface : TK → Bool
  | .iface => true
  | _ => false
def TK.agg : TK → Bool
  | .struct _ | .array _ _ => true
  | _ => false
def zC9 : TypeDesc → TK
  | .int k => .int k
  | .bool => .bool
  | .string => .str
  | .slice e => .slice e
  | .struct fs => .struct (fs.toList.map fun f => (f.offset, f.type))
  | .array n e => .array n e
  | .pointer e => .ptr e
  | .func _ _ _ => .func
  | .interface _ => .iface
  | .map k e => .map k e
  | _ => .other
inductive CK where
  | int | bool | str
  deriving DecidableEq
def zKj (P : Program) : Nat → TypeId → Option (List CK)
  | 0, _ => none
  | n + 1, t => match P.underlying t with
    | some (.int _) => some [.int]
    | some .bool => some [.bool]
    | some .string => some [.str]
    | some (.struct fs) => if P.stoodInHeld t then none else
      (fs.toList.foldl (fun acc f => match acc, zKj P n f.type, P.info? f.type with
        | some ks, some k1, some i => if f.name ≠ "_" ∧ f.offset = ks.length ∧ i.size = k1.length then some (ks ++ k1) else none
        | _, _, _ => none) (some []))
    | some (.array len e) => match zKj P n e, P.info? e with
      | some k1, some i => if i.size = k1.length then some (List.replicate len k1).flatten else none
      | _, _ => none
    | _ => none
structure TI where
  k : TK
  size : Nat
  bytes : Nat
  zero : List Value
  eq : List CK := []
abbrev TT := Nat → Option TI
structure q9 (P : Program) (t : Nat) (i : TI) : Prop where
  und : (P.underlying t).map zC9 = some i.k
  info : (P.info? t).map (fun x => (x.zero.map (·.cells.toList), x.size, x.bytes)) = some (some i.zero, i.size, i.bytes)
  eq : (i.eq.isEmpty || (decide (zKj P 30 t = some i.eq) && !P.eqGuardType P.depth t)) = true
def TOk (P : Program) (T : TT) : Prop := ∀ t i, T t = some i → q9 P t i
section types
variable {P : Program} {t : Nat} {i : TI} {w : World}
theorem q9.size_run (h : q9 P t i) (w : World) : (sizeOf t).run P w = .ok i.size w := by
  have h1 := h.info
  cases hi : P.info? t with
  | none => rw [hi] at h1; cases h1
  | some x =>
    rw [hi] at h1
    simp only [yMw, yMc, yMu] at h1
    simp [sizeOf, typeInfo, hi, program, Sem.run, h1.2.1]
theorem q9.bytes_run (h : q9 P t i) (w : World) : ∃ x, (typeInfo t).run P w = .ok x w ∧ x.size = i.size ∧ x.bytes = i.bytes ∧ P.info? t = some x := by
  have h1 := h.info
  cases hi : P.info? t with
  | none => rw [hi] at h1; cases h1
  | some x =>
    rw [hi] at h1
    simp only [yMw, yMc, yMu] at h1
    exact ⟨x, by simp [typeInfo, hi, program, Sem.run], h1.2.1, h1.2.2, rfl⟩
theorem q9.zero_run (h : q9 P t i) (w : World) : ∃ z, (zeroValue t).run P w = .ok z w ∧ z.cells.toList = i.zero := by
  have h1 := h.info
  cases hi : P.info? t with
  | none => rw [hi] at h1; cases h1
  | some x =>
    rw [hi] at h1
    simp only [yMw, yMc, yMu] at h1
    cases hz : x.zero with
    | none => rw [hz] at h1; cases h1.1
    | some z =>
      rw [hz] at h1
      simp only [yMw, yMc] at h1
      exact ⟨z, by simp [zeroValue, typeInfo, hi, program, Sem.run, hz], h1.1⟩
theorem q9.und_some (h : q9 P t i) : ∃ d, P.underlying t = some d ∧ zC9 d = i.k := by
  have := h.und
  cases hd : P.underlying t with
  | none => rw [hd] at this; cases this
  | some d => rw [hd] at this; exact ⟨d, rfl, by simpa using this⟩
theorem zF {d : TypeDesc} {e : Nat} (h : zC9 d = .slice e) : d = .slice e := by cases d <;> simp [zC9] at h; rw [h]
theorem vE {d : TypeDesc} {n e : Nat} (h : zC9 d = .array n e) : d = .array n e := by cases d <;> simp [zC9] at h; rw [h.1, h.2]
theorem vO {d : TypeDesc} {k : IntKind} (h : zC9 d = .int k) : d = .int k := by cases d <;> simp [zC9] at h; rw [h]
theorem wV {d : TypeDesc} (h : zC9 d = .str) : d = .string := by cases d <;> simp [zC9] at h; rfl
theorem zIk {d : TypeDesc} (h : zC9 d = .bool) : d = .bool := by cases d <;> simp [zC9] at h; rfl
theorem kP {d : TypeDesc} {fs : List (Nat × Nat)} (h : zC9 d = .struct fs) : ∃ a, d = .struct a ∧ a.toList.map (fun f => (f.offset, f.type)) = fs := by
  cases d <;> simp [zC9] at h
  rename_i a; exact ⟨a, rfl, h⟩
theorem q9.agg_run (h : q9 P t i) (w : World) : (isAgg t).run P w = .ok i.k.agg w := by
  obtain ⟨d, h1, h2⟩ := h.und_some
  rw [← h2]
  cases d <;> simp [isAgg, underlying, program, Sem.run, h1, zC9, TK.agg]
theorem q9.und_run (h : q9 P t i) (w : World) : ∃ d, (underlying t).run P w = .ok d w ∧ zC9 d = i.k ∧ P.underlying t = some d := by
  obtain ⟨d, h1, h2⟩ := h.und_some
  exact ⟨d, by simp [underlying, program, Sem.run, h1], h2, h1⟩
end types

def zY2 : List AV → Nat → AV
  | [], _ => .raw undef
  | x :: _, 0 => x
  | _ :: r, n + 1 => zY2 r n
theorem zHm : ∀ {cs : List AV} {k : Nat}, k < cs.length → cs[k]? = some (zY2 cs k)
  | x :: _, 0, _ => rfl
  | _ :: r, k + 1, h => by simp only [yMd, zY2]; exact zHm (by simpa using h)
def zW4 (agg : Bool) (sz : Nat) (cs : List AV) (off : Nat) : AV := bif agg then .agg ((cs.drop off).take sz) else zY2 cs off

def inK : IntKind → Int → Prop
  | .i64, x => -9223372036854775808 ≤ x ∧ x ≤ 9223372036854775807
  | .i32, x => -2147483648 ≤ x ∧ x ≤ 2147483647
  | .u8, x => 0 ≤ x ∧ x ≤ 255
  | .u16, x => 0 ≤ x ∧ x ≤ 65535
  | .u32, x => 0 ≤ x ∧ x ≤ 4294967295
  | .u64, x => 0 ≤ x ∧ x ≤ 18446744073709551615
  | .i8, x => -128 ≤ x ∧ x ≤ 127
  | .i16, x => -32768 ≤ x ∧ x ≤ 32767
theorem yV {k : IntKind} {x : Int} (h : inK k x) : k.wrap x = x := by
  cases k <;> simp only [inK] at h
  · rw [show IntKind.i8.wrap x = (x + 128) % 256 - 128 from by simp only [IntKind.wrap, IntKind.bits, IntKind.signed]; simp; omega]
    omega
  · rw [show IntKind.i16.wrap x = (x + 32768) % 65536 - 32768 from by simp only [IntKind.wrap, IntKind.bits, IntKind.signed]; simp; omega]
    omega
  · rw [show IntKind.i32.wrap x = (x + 2147483648) % 4294967296 - 2147483648 from by simp only [IntKind.wrap, IntKind.bits, IntKind.signed]; simp; omega]
    omega
  · exact IntWalk.i64_in x h
  · rw [show IntKind.u8.wrap x = x % 256 from by simp only [IntKind.wrap, IntKind.bits, IntKind.signed]; simp; try omega]
    omega
  · rw [show IntKind.u16.wrap x = x % 65536 from by simp only [IntKind.wrap, IntKind.bits, IntKind.signed]; simp; try omega]
    omega
  · rw [show IntKind.u32.wrap x = x % 4294967296 from by simp only [IntKind.wrap, IntKind.bits, IntKind.signed]; simp; try omega]
    omega
  · rw [show IntKind.u64.wrap x = x % 18446744073709551616 from by simp only [IntKind.wrap, IntKind.bits, IntKind.signed]; simp; try omega]
    omega

theorem zKv {a b : Int} (hb : 0 < b) : (0 ≤ a → 0 ≤ a.tdiv b ∧ a.tdiv b ≤ a) ∧ (a ≤ 0 → a ≤ a.tdiv b ∧ a.tdiv b ≤ 0) := by
  refine ⟨fun ha => ⟨Int.tdiv_nonneg ha oq, Int.tdiv_le_self _ ha⟩, fun ha => ?_⟩
  have h1 : 0 ≤ (-a).tdiv b := Int.tdiv_nonneg oq oq
  have h2 : (-a).tdiv b ≤ -a := Int.tdiv_le_self _ oq
  rw [Int.neg_tdiv] at h1 h2
  omega
theorem zVj {k : IntKind} {a b : Int} (hb : 0 < b) (h : inK k a) : k.wrap (a.tdiv b) = a.tdiv b := by
  have h1 := zKv (a := a) hb
  refine yV ?_
  cases k <;> simp only [inK] at h ⊢ <;> omega
def zF9 (op : BinOp) (k : IntKind) (a b : Int) : Int := match op with
  | .and => k.wrap ((BitVec.ofInt k.bits a &&& BitVec.ofInt k.bits b).toNat : Int)
  | .or => k.wrap ((BitVec.ofInt k.bits a ||| BitVec.ofInt k.bits b).toNat : Int)
  | .xor => k.wrap ((BitVec.ofInt k.bits a ^^^ BitVec.ofInt k.bits b).toNat : Int)
  | _ => k.wrap ((BitVec.ofInt k.bits a &&& ~~~ BitVec.ofInt k.bits b).toNat : Int)
def yCb (op : BinOp) : AV → AV → Option (AV × Prop)
  | .raw (.int k a), .raw (.int k' b) =>
    match op with
    | .add => some (match k with | .i64 | .i32 => .raw (.int k (a + b)) | _ => .raw (.int k (k.wrap (a + b))), k = k' ∧ (match k with | .i64 | .i32 => inK k (a + b) | _ => True))
    | .sub => some (match k with | .i64 | .i32 => .raw (.int k (a - b)) | _ => .raw (.int k (k.wrap (a - b))), k = k' ∧ (match k with | .i64 | .i32 => inK k (a - b) | _ => True))
    | .mul => some (match k with | .i64 | .i32 => .raw (.int k (a * b)) | _ => .raw (.int k (k.wrap (a * b))), k = k' ∧ (match k with | .i64 | .i32 => inK k (a * b) | _ => True))
    | .quo => some (.raw (.int k (a.tdiv b)), k = k' ∧ 0 < b ∧ inK k a)
    | .rem => some (.raw (.int k (a.tmod b)), k = k' ∧ b ≠ 0)
    | .eql => some (.raw (.bool (decide (a = b))), k = k')
    | .neq => some (.raw (.bool (!decide (a = b))), k = k')
    | .lss => some (.raw (.bool (decide (a < b))), k = k')
    | .leq => some (.raw (.bool (decide (a ≤ b))), k = k')
    | .gtr => some (.raw (.bool (decide (b < a))), k = k')
    | .geq => some (.raw (.bool (decide (b ≤ a))), k = k')
    | .and => some (.raw (.int k (zF9 .and k a b)), k = k')
    | .or => some (.raw (.int k (zF9 .or k a b)), k = k')
    | .xor => some (.raw (.int k (zF9 .xor k a b)), k = k')
    | .andNot => some (.raw (.int k (zF9 .andNot k a b)), k = k')
    | .shl => some (.raw (.int k (k.wrap (a * 2 ^ (min b.toNat k.bits)))), 0 ≤ b)
    | .shr => some (.raw (.int k (a.fdiv (2 ^ (min b.toNat k.bits)))), 0 ≤ b)
  | .raw (.string a), .raw (.string b) =>
    match op with
    | .eql => some (.raw (.bool (a.toList == b.toList)), True)
    | .neq => some (.raw (.bool (!(a.toList == b.toList))), True)
    | .add => some (.raw (.string (a ++ b)), a.size + b.size ≤ 9223372036854775807)
    | _ => none
  | _, _ => none
def eqC : List CK → List AV → List AV → Option (Bool × Prop)
  | [], [], [] => some (true, True)
  | .int :: ks, .raw (.int k a) :: xs, .raw (.int k' b) :: ys => match eqC ks xs ys with
    | some (c, p) => some (decide (a = b) && c, k = k' ∧ p)
    | none => none
  | .bool :: ks, .raw (.bool a) :: xs, .raw (.bool b) :: ys => match eqC ks xs ys with
    | some (c, p) => some (decide (a = b) && c, p)
    | none => none
  | .str :: ks, .raw (.string a) :: xs, .raw (.string b) :: ys => match eqC ks xs ys with
    | some (c, p) => some (a.toList == b.toList && c, p)
    | none => none
  | _, _, _ => none
def eqW : List CK → List Value → List Value → Option Bool
  | [], [], [] => some true
  | .int :: ks, .int k a :: xs, .int k' b :: ys => if k = k' then (eqW ks xs ys).map (decide (a = b) && ·) else none
  | .bool :: ks, .bool a :: xs, .bool b :: ys => (eqW ks xs ys).map (decide (a = b) && ·)
  | .str :: ks, .string a :: xs, .string b :: ys => (eqW ks xs ys).map (a.toList == b.toList && ·)
  | _, _, _ => none
def jS (op : BinOp) (c : Bool) : Option AV :=
  match op with
  | .eql => some (.raw (.bool c))
  | .neq => some (.raw (.bool (!c)))
  | _ => none
def zZx (op : BinOp) (T : TT) (t : Nat) : AV → AV → Option (AV × Prop)
  | .raw (.bool a), .raw (.bool b) => match T t with
    | some ⟨.bool, _, _, _, _⟩ => match jS op (decide (a = b)) with
      | some r => some (r, True)
      | none => none
    | _ => none
  | .agg xs, .agg ys => match T t with
    | some i => bif i.eq.isEmpty then none else match eqC i.eq xs ys with
      | some (c, p) => match jS op c with
        | some r => some (r, p ∧ i.k.agg = true)
        | none => none
      | none => none
    | none => none
  | .elt _ _, .raw (.pointer none) => match T t, jS op false with
    | some ⟨.ptr _, _, _, _, _⟩, some r => some (r, True)
    | _, _ => none
  | .box _ _, .raw (.pointer none) => match T t, jS op false with
    | some ⟨.ptr _, _, _, _, _⟩, some r => some (r, True)
    | _, _ => none
  | .raw (.pointer none), .raw (.pointer none) => match T t, jS op true with
    | some ⟨.ptr _, _, _, _, _⟩, some r => some (r, True)
    | _, _ => none
  | .lst _ n _, .raw (.slice none 0 0) => match T t, jS op false with
    | some ⟨.slice _, _, _, _, _⟩, some r => some (r, 0 < n)
    | _, _ => none
  | .raw (.slice none 0 0), .raw (.slice none 0 0) => match T t, jS op true with
    | some ⟨.slice _, _, _, _, _⟩, some r => some (r, True)
    | _, _ => none
  | _, _ => none
def unA (op : UnOp) : AV → Option (AV × Prop)
  | .raw (.bool a) => match op with
    | .not => some (.raw (.bool (!a)), True)
    | _ => none
  | .raw (.int k a) => match op with
    | .neg => some (.raw (.int k (-a)), k.wrap (-a) = -a)
    | _ => none
  | _ => none
def yL1 : List AV → Option (AV × Prop)
  | [.raw (.int k a), .raw (.int _ b)] => some (.raw (.int k (min a b)), True)
  | _ => none
def yL2 : List AV → Option (AV × Prop)
  | [.raw (.int k a), .raw (.int _ b)] => some (.raw (.int k (max a b)), True)
  | _ => none
def ASt.asL (st : ASt) : AV → Option (Nat × Nat × (Nat → List AV) × Prop)
  | .lst sz n el => some (sz, n, el, True)
  | .row k n => match st.rw[k]? with
    | some r => bif Nat.beq r.sz 0 then none else some (r.sz, r.n, r.el, n = r.n)
    | none => none
  | _ => none
def ASt.evL (st : ASt) : List Operand → Option (List Bool × List AV)
  | [] => some ([], [])
  | x :: r => match st.ev x, st.evL r with
    | some (c, v), some (cs, vs) => some (c :: cs, v :: vs)
    | _, _ => none
def yD1 (T : TT) (st : ASt) (t : Nat) (x : AV) : Option (AV × Prop) :=
  match x with
  | .raw (.string s) => match T t with
    | some ⟨.str, _, _, _, _⟩ => some (.raw (.int .i64 s.size), True)
    | _ => none
  | .raw (.slice none 0 0) => match T t with
    | some ⟨.slice _, _, _, _, _⟩ => some (.raw (.int .i64 0), True)
    | _ => none
  | x => match st.asL x, T t with
    | some (_, n, _, p), some ⟨.slice _, _, _, _, _⟩ => some (.raw (.int .i64 n), p)
    | _, _ => none

def zRo (c a b : Bool) : Bool := bif c then a else b
theorem zRn (c a : Bool) : zRo c a false = (c && a) := by cases c <;> rfl
theorem zUu (c b : Bool) : zRo c true b = (c || b) := by cases c <;> rfl
theorem zXx (a b : Bool) : zRo true a b = a := rfl
theorem zXy (a b : Bool) : zRo false a b = b := rfl

def qS {α : Type} : List α → List α → List α
  | [], cs => cs
  | _ :: _, [] => []
  | u :: us, _ :: cs => u :: qS us cs
def wT {α : Type} : List α → Nat → List α → List α
  | cs, 0, us => qS us cs
  | [], _ + 1, _ => []
  | c :: cs, n + 1, us => c :: wT cs n us

def yE : AV → List AV
  | .agg cs => cs
  | x => [x]
def AV.one (st : ASt) : AV → Prop
  | .raw v => v.oneCell' = true
  | .lst _ _ _ => True
  | .elt _ _ => True
  | .box _ _ => True
  | .fn _ _ _ => True
  | .bsl _ _ _ _ _ => True
  | .ifc _ _ => True
  | .ful _ => True
  | .row k n => match st.rw[k]? with
    | some r => n = r.n
    | none => False
  | _ => False
def AV.oneL (st : ASt) : List AV → Prop
  | [] => True
  | x :: xs => x.one st ∧ AV.oneL st xs

def jQ (T : TT) : List (Nat × Nat) → Option (List (Nat × Nat))
  | [] => some []
  | f :: r => match T f.2, jQ T r with
    | some j, some ps => some ((f.1, j.size) :: ps)
    | _, _ => none
def zG0 (st : ASt) (place : Nat → Option (Nat × Nat)) : List (Nat × Operand) → List AV → Option (List Bool × List AV × Prop)
  | [], cs => some ([], cs, True)
  | q :: r, cs => match place q.1, st.ev q.2 with
    | some (off, sz), some (g, v) => match zG0 st place r (wT cs off (yE v)) with
      | some (gs, cs', p) => some (g :: gs, cs', (AV.oneL st (yE v) ∧ (yE v).length = sz ∧ off + sz ≤ cs.length) ∧ p)
      | none => none
    | _, _ => none

def zK7 (s : ByteArray) (i : Nat) : Int := (s.data.toList.getD i 0).toNat
def zX6 (k : IntKind) (n : Int) : Int := match k with | .i64 | .i32 => n | _ => k.wrap n
def zX5 (k : IntKind) (n : Int) : Prop := match k with | .i64 | .i32 => inK k n | _ => True
def yG4 : List AV → Int
  | [.raw (.int .u8 k)] => k
  | _ => 0
def yD2 : List AV → Prop
  | [.raw (.int .u8 _)] => True
  | _ => False
def zOu (n : Nat) (el : Nat → List AV) : ByteArray := strOfNums ((List.range n).map fun i => yG4 (el i))
def zRs (st : ASt) : Option Operand → Option (List Bool × Option Int)
  | none => some ([], none)
  | some x => match st.ev x with
    | some (g, .raw (.int _ i)) => some ([g], some i)
    | _ => none
def loI : Option Int → Int
  | none => 0
  | some l => l
def hiI (n : Nat) : Option Int → Int
  | none => n
  | some h => h
def zFj (n : Nat) : Option Int → Option Int → Nat
  | none, none => n
  | none, some h => h.toNat
  | some l, none => n - l.toNat
  | some l, some h => h.toNat - l.toNat
def yC0 (el : Nat → List AV) : Option Int → Nat → List AV
  | none => el
  | some l => fun i => el (l.toNat + i)
def opA (T : TT) (st : ASt) (o : Op) : Option (List Bool × AV × Prop) :=
  match o with
  | .move x => match st.ev x with
    | some (g, v) => some ([g], v, True)
    | none => none
  | .assign x => match st.ev x with
    | some (g, v) => some ([g], v, True)
    | none => none
  | .nilCheck x => match st.ev x with
    | some (g, .box b off) => some ([g], .box b off, True)
    | some (g, .elt cs off) => some ([g], .elt cs off, True)
    | _ => none
  | .pick c a b => match st.ev c, st.ev a, st.ev b with
    | some (gc, .raw (.bool vc)), some (ga, .raw (.bool va)), some (gb, .raw (.bool vb)) => some ([gc], .raw (.bool (zRo vc va vb)), (vc = true → ga = true) ∧ (vc = false → gb = true))
    | _, _, _ => none
  | .load t p => match st.ev p, T t with
    | some (g, .elt cs off), some i => some ([g], zW4 i.k.agg i.size cs off, 0 < i.size ∧ off + i.size ≤ cs.length)
    | some (g, .box b off), some i => match st.bx[b]? with
      | some cs => some ([g], zW4 i.k.agg i.size cs off, 0 < i.size ∧ off + i.size ≤ cs.length)
      | none => none
    | _, _ => none
  | .fieldAddr s p f => match st.ev p, T s with
    | some (g, .elt cs off), some ⟨.struct fs, _, _, _, _⟩ => match fs[f]? with
      | some (fo, ft) => match T ft with
        | some j => some ([g], .elt cs (off + fo), 0 < j.size)
        | none => none
      | none => none
    | some (g, .box b off), some ⟨.struct fs, _, _, _, _⟩ => match fs[f]? with
      | some (fo, ft) => match T ft with
        | some j => some ([g], .box b (off + fo), 0 < j.size)
        | none => none
      | none => none
    | _, _ => none
  | .field s x f => match st.ev x, T s with
    | some (g, .agg cs), some ⟨.struct fs, _, _, _, _⟩ => match fs[f]? with
      | some (fo, ft) => match T ft with
        | some j => some ([g], zW4 j.k.agg j.size cs fo, 0 < j.size ∧ fo + j.size ≤ cs.length)
        | none => none
      | none => none
    | _, _ => none
  | .indexAddr t x ix => match T t with
    | some ⟨.slice e, _, _, _, _⟩ => match st.ev x, st.ev ix with
      | some (g, v), some (g', .raw (.int _ i)) => match st.asL v, T e with
        | some (sz, n, el, p), some j => some ([g, g'], .elt (el i.toNat) 0, 0 ≤ i ∧ i < n ∧ j.size = sz ∧ p)
        | _, _ => none
      | _, _ => none
    | some ⟨.array n e, _, _, _, _⟩ => match st.ev x, st.ev ix, T e with
      | some (g, .elt cs off), some (g', .raw (.int _ i)), some j => some ([g, g'], .elt cs (off + i.toNat * j.size), 0 ≤ i ∧ i < n)
      | some (g, .box b off), some (g', .raw (.int _ i)), some j => some ([g, g'], .box b (off + i.toNat * j.size), 0 ≤ i ∧ i < n)
      | _, _, _ => none
    | _ => none
  | .index t x ix => match T t with
    | some ⟨.array n e, _, _, _, _⟩ => match st.ev x, st.ev ix, T e with
      | some (g, .agg cs), some (g', .raw (.int _ i)), some j => some ([g, g'], zW4 j.k.agg j.size cs (i.toNat * j.size), (0 ≤ i ∧ i < n) ∧ 0 < j.size ∧ i.toNat * j.size + j.size ≤ cs.length)
      | _, _, _ => none
    | some ⟨.str, _, _, _, _⟩ => match st.ev x, st.ev ix with
      | some (g, .raw (.string s)), some (g', .raw (.int _ i)) => some ([g, g'], .raw (.int .u8 (zK7 s i.toNat)), 0 ≤ i ∧ i < s.size)
      | _, _ => none
    | _ => none
  | .convert s t x => match T s, T t with
    | some _, some ⟨.int k, _, _, _, _⟩ => match st.ev x with
      | some (g, .raw (.int _ n)) => some ([g], .raw (.int k (zX6 k n)), zX5 k n)
      | _ => none
    | some ⟨.slice e, _, _, _, _⟩, some ⟨.str, _, _, _, _⟩ => match T e, st.ev x with
      | some ⟨.int .u8, _, _, _, _⟩, some (g, v) => match st.asL v with
        | some (sz, n, el, p) => some ([g], .raw (.string (zOu n el)), p ∧ sz = 1 ∧ ∀ i, i < n → yD2 (el i))
        | none => none
      | _, _ => none
    | _, _ => none
  | .slice t x lo hi none => match T t with
    | some ⟨.slice e, _, _, _, _⟩ => match st.ev x, T e, zRs st lo, zRs st hi with
      | some (g, v), some j, some (gl, l), some (gh, h) => match st.asL v with
        | some (sz, n, el, p) => some (g :: (gl ++ gh), .lst sz (zFj n l h) (yC0 el l), (0 ≤ loI l ∧ loI l ≤ hiI n h ∧ hiI n h ≤ n) ∧ j.size = sz ∧ p)
        | none => none
      | _, _, _, _ => none
    | some ⟨.str, _, _, _, _⟩ => match st.ev x, zRs st lo, zRs st hi with
      | some (g, .raw (.string s)), some (gl, l), some (gh, h) => some (g :: (gl ++ gh), .raw (.string (s.extract (loI l).toNat (hiI s.size h).toNat)), 0 ≤ loI l ∧ loI l ≤ hiI s.size h ∧ hiI s.size h ≤ s.size)
      | _, _, _ => none
    | _ => none
  | .slice t x none (some hi) (some mx) => match T t, st.ev x, st.ev hi, st.ev mx with
    | some ⟨.slice e, _, _, _, _⟩, some (g, v), some (gh, .raw (.int _ h)), some (gm, .raw (.int _ m)) => match T e, st.asL v with
      | some j, some (sz, n, el, p) => some ([g, gh, gm], .ful (.lst sz h.toNat el), (0 ≤ h ∧ h ≤ n ∧ m = h) ∧ j.size = sz ∧ p)
      | _, _ => none
    | _, _, _, _ => none
  | .binOp op t x y _ => match st.ev x, st.ev y with
    | some (g, v), some (g', v') => match yCb op v v' with
      | some (r, p) => some ([g, g'], r, p)
      | none => match zZx op T t v v' with
        | some (r, p) => some ([g, g'], r, p)
        | none => none
    | _, _ => none
  | .unOp op _ x => match st.ev x with
    | some (g, v) => match unA op v with
      | some (r, p) => some ([g], r, p)
      | none => none
    | none => none
  | .extract x i => match st.ev x with
    | some (g, .tup vs) => some ([g], zY2 vs i, i < vs.length)
    | _ => none
  | .call c => match c.callee with
    | .builtin .len => match c.args.toList, c.argTypes.toList with
      | [x], [t] => match st.ev x with
        | some (g, v) => match yD1 T st t v with
          | some (r, p) => some ([g], r, p)
          | none => none
        | none => none
      | _, _ => none
    | .builtin .min => match st.evL c.args.toList with
      | some (cs, vs) => match yL1 vs with
        | some (r, p) => some (cs, r, p)
        | none => none
      | none => none
    | .builtin .max => match st.evL c.args.toList with
      | some (cs, vs) => match yL2 vs with
        | some (r, p) => some (cs, r, p)
        | none => none
      | none => none
    | _ => none
  | .makeInterface t x => match T t, st.ev x with
    | some i, some (g, v) => bif i.k.isIface then none else some ([g], .ifc t v, True)
    | _, _ => none
  | .makeFunc f first cap => match st.evL first.toList, st.evL cap.toList with
    | some (c1, v1), some (c2, v2) => some (c1 ++ c2, .fn f v1 v2, True)
    | _, _ => none
  | .build t parts => match T t with
    | some ⟨.struct fs, _, _, z, _⟩ => match jQ T fs with
      | some ps => match zG0 st (fun i => ps[i]?) parts.toList (z.map .raw) with
        | some (gs, cs, p) => some (gs, .agg cs, p)
        | none => none
      | none => none
    | some ⟨.array _ e, _, _, z, _⟩ => match T e with
      | some j => match zG0 st (fun i => some (i * j.size, j.size)) parts.toList (z.map .raw) with
        | some (gs, cs, p) => some (gs, .agg cs, p)
        | none => none
      | none => none
    | _ => none
  | _ => none

section made
variable (T : TT) (st : ASt)
end made

def zDz (agg : Bool) (vs : List Value) : Value := bif agg then .agg vs.toArray else (vs[0]?).getD undef
def zDa (P : Program) (t : Nat) : Bool := match P.underlying t with
  | some d => (zC9 d).agg
  | none => false
theorem zEw : ∀ {ks : List CK} {vs us : List Value} {b : Bool}, eqW ks vs us = some b → vs.length = ks.length ∧ us.length = ks.length := by
  intro ks
  induction ks with
  | nil => intro vs us b h; cases vs <;> cases us <;> simp only [eqW, reduceCtorEq] at h; exact ⟨rfl, rfl⟩
  | cons k ks ih =>
    intro vs us b h
    unfold eqW at h
    split at h
    · cases ‹_ :: _ = []›
    · rename_i e; cases e
      split at h
      · obtain ⟨c, hc, _⟩ := yMx.1 h
        have := ih hc
        simp only [yMy]; omega
      · cases h
    · rename_i e; cases e
      obtain ⟨c, hc, _⟩ := yMx.1 h
      have := ih hc
      simp only [yMy]; omega
    · rename_i e; cases e
      obtain ⟨c, hc, _⟩ := yMx.1 h
      have := ih hc
      simp only [yMy]; omega
    · cases h
theorem zGt : ∀ {k1 k2 : List CK} {vs us : List Value} {b : Bool}, eqW (k1 ++ k2) vs us = some b →
    ∃ b1 b2, eqW k1 (vs.take k1.length) (us.take k1.length) = some b1 ∧ eqW k2 (vs.drop k1.length) (us.drop k1.length) = some b2 ∧ b = (b1 && b2) := by
  intro k1
  induction k1 with
  | nil => intro k2 vs us b h; exact ⟨true, b, by simp [eqW], by simpa using h, by simp⟩
  | cons k ks ih =>
    intro k2 vs us b h
    rw [yMz] at h
    unfold eqW at h
    split at h
    · cases ‹_ :: _ = []›
    · rename_i ks' k1 a xs k2 c ys e; cases e
      split at h
      · rename_i hk
        obtain ⟨c', hc, hb⟩ := yMx.1 h
        obtain ⟨b1, b2, e1, e2, rfl⟩ := ih hc
        exact ⟨decide (a = c) && b1, b2, by simp [eqW, hk, e1], by simpa using e2, by rw [← hb, Bool.and_assoc]⟩
      · cases h
    · rename_i ks' a xs c ys e; cases e
      obtain ⟨c', hc, hb⟩ := yMx.1 h
      obtain ⟨b1, b2, e1, e2, rfl⟩ := ih hc
      exact ⟨decide (a = c) && b1, b2, by simp [eqW, e1], by simpa using e2, by rw [← hb, Bool.and_assoc]⟩
    · rename_i ks' a xs c ys e; cases e
      obtain ⟨c', hc, hb⟩ := yMx.1 h
      obtain ⟨b1, b2, e1, e2, rfl⟩ := ih hc
      exact ⟨a.toList == c.toList && b1, b2, by simp [eqW, e1], by simpa using e2, by rw [← hb, Bool.and_assoc]⟩
    · cases h

theorem zDl {P : Program} {t : Nat} {x : TypeInfo} (hx : P.info? t = some x) {d : TypeDesc} (hd : P.underlying t = some d) {cs : List Value} {off k : Nat} (hk : x.size = k) (hl : ((cs.drop off).take k).length = k)
    (h1 : zDa P t = false → k = 1) (w : World) : (part t cs.toArray off).run P w = .ok (zDz (zDa P t) ((cs.drop off).take k)) w := by
  have ha : (isAgg t).run P w = .ok (zDa P t) w := by
    unfold zDa
    rw [hd]
    cases d <;> simp [isAgg, underlying, program, Sem.run, hd, zC9, TK.agg]
  have hs : (sizeOf t).run P w = .ok k w := by simp [sizeOf, typeInfo, hx, program, Sem.run, hk]
  simp only [part, Sem.run_bind, ha, Result.andThen_ok]
  cases hagg : zDa P t
  · have := h1 hagg
    subst this
    have hlen : off < cs.length := by simp at hl; omega
    have e : (cs.drop off).take 1 = [cs[off]] := by rw [List.drop_eq_getElem_cons hlen]; rfl
    simp [zDz, e, hlen]
  · simp only [if_true, Sem.run_bind, hs, Result.andThen_ok, Sem.run_pure, zDz, yMq]
    congr 2
    simp [List.extract_eq_take_drop]

section
variable {P : Program}
def yM4 (P : Program) (n : Nat) (t : Nat) (ks : List CK) : Prop := (zDa P t = false → ks.length = 1) ∧ ∀ (d : Nat) (vs us : List Value) (b : Bool) (w : World), n ≤ d → eqW ks vs us = some b → (Op.equalIn d t (zDz (zDa P t) vs) (zDz (zDa P t) us)).run P w = .ok b w
def zGu (P : Program) (n : Nat) (acc : Option (List CK)) (f : Field) : Option (List CK) := match acc, zKj P n f.type, P.info? f.type with
  | some ks, some k1, some i => if f.name ≠ "_" ∧ f.offset = ks.length ∧ i.size = k1.length then some (ks ++ k1) else none
  | _, _, _ => none
theorem zEx (n : Nat) : ∀ (fs : List Field), fs.foldl (zGu P n) none = none
  | [] => rfl
  | f :: fs => by rw [yN0, show zGu P n none f = none from by simp [zGu]]; exact zEx n fs
theorem zO3 {n t : Nat} {ks : List CK} (h : zKj P n t = some ks) : ∃ d, P.underlying t = some d := by
  cases n with
  | zero => simp [zKj] at h
  | succ n =>
    unfold zKj at h
    cases hd : P.underlying t with
    | none => rw [hd] at h; cases h
    | some d => exact ⟨d, rfl⟩
theorem zAg {n : Nat} (ih : ∀ (t : Nat) (ks : List CK), zKj P n t = some ks → yM4 P n t ks) (d : Nat) (hd : n ≤ d) (xs ys : List Value) :
    ∀ (fs : List Field) (acc ks : List CK), fs.foldl (zGu P n) (some acc) = some ks → ∃ ks1, ks = acc ++ ks1 ∧ ∀ (b : Bool) (w : World), eqW ks1 (xs.drop acc.length) (ys.drop acc.length) = some b → (Op.eqFields d xs.toArray ys.toArray fs).run P w = .ok b w
  | [], acc, ks, h => by
    simp only [List.foldl_nil, yMc] at h
    refine ⟨[], by simp [h], fun b w hb => ?_⟩
    generalize xs.drop acc.length = u at hb
    generalize ys.drop acc.length = v at hb
    cases u <;> cases v <;> simp only [eqW, reduceCtorEq, yMc] at hb
    subst hb
    simp [Op.eqFields]
  | f :: fs, acc, ks, h => by
    rw [yN0] at h
    cases hst : zGu P n (some acc) f with
    | none => rw [hst, zEx] at h; cases h
    | some acc' =>
      rw [hst] at h
      unfold zGu at hst
      split at hst
      · rename_i k0 k1 i e1 e2 e3
        cases e1
        split at hst
        · rename_i hc
          cases hst
          obtain ⟨h1, h2, h3⟩ := hc
          obtain ⟨ks2, rfl, hr⟩ := zAg ih d hd xs ys fs _ ks h
          refine ⟨k1 ++ ks2, by simp, fun b w hb => ?_⟩
          obtain ⟨b1, b2, g1, g2, rfl⟩ := zGt hb
          obtain ⟨i1, i2⟩ := ih _ _ e2
          obtain ⟨dd, hdd⟩ := zO3 e2
          have hl := zEw g1
          have p1 := zDl e3 hdd (cs := xs) (off := f.offset) h3 (by rw [h2]; exact hl.1) i1 w
          have p2 := zDl e3 hdd (cs := ys) (off := f.offset) h3 (by rw [h2]; exact hl.2) i1 w
          rw [h2] at p1 p2
          have p3 := i2 d _ _ _ w hd g1
          have p4 := hr b2 w (by rw [yN1]; simpa [List.drop_drop] using g2)
          unfold Op.eqFields
          rw [if_pos h1]
          simp only [Sem.run_bind, h2, p1, p2, p3, Result.andThen_ok]
          cases b1
          · simp
          · simp [p4]
        · cases hst
      · cases hst
theorem zBm {n e : Nat} {k1 : List CK} {x : TypeInfo} (hE : yM4 P n e k1) (hk : ∃ d, P.underlying e = some d) (hx : P.info? e = some x) (hsz : x.size = k1.length) (d : Nat) (hd : n ≤ d) (xs ys : List Value) :
    ∀ (m s : Nat) (b : Bool) (w : World), eqW (List.replicate m k1).flatten (xs.drop (s * k1.length)) (ys.drop (s * k1.length)) = some b → (Op.eqItems d e k1.length xs.toArray ys.toArray (List.range' s m)).run P w = .ok b w
  | 0, s, b, w, h => by
    simp only [yN2, List.flatten_nil] at h
    generalize xs.drop _ = u at h
    generalize ys.drop _ = v at h
    cases u <;> cases v <;> simp only [eqW, reduceCtorEq, yMc] at h
    subst h
    simp [Op.eqItems]
  | m + 1, s, b, w, h => by
    rw [yN3, List.flatten_cons] at h
    obtain ⟨b1, b2, g1, g2, rfl⟩ := zGt h
    obtain ⟨dd, hdd⟩ := hk
    have hl := zEw g1
    have p1 := zDl hx hdd (cs := xs) (off := s * k1.length) hsz hl.1 hE.1 w
    have p2 := zDl hx hdd (cs := ys) (off := s * k1.length) hsz hl.2 hE.1 w
    have p3 := hE.2 d _ _ _ w hd g1
    have p4 := zBm hE ⟨dd, hdd⟩ hx hsz d hd xs ys m (s + 1) b2 w (by simpa [List.drop_drop, yN4] using g2)
    rw [List.range'_succ]
    unfold Op.eqItems
    simp only [Sem.run_bind, p1, p2, p3, Result.andThen_ok]
    cases b1
    · simp
    · simp [p4]
theorem zGv : ∀ (n t : Nat) (ks : List CK), zKj P n t = some ks → yM4 P n t ks := by
  intro n
  induction n with
  | zero => intro t ks h; simp [zKj] at h
  | succ n ih =>
    intro t ks h
    unfold zKj at h
    split at h
    · rename_i k hu
      cases h
      have ha : zDa P t = false := by simp [zDa, hu, zC9, TK.agg]
      refine ⟨fun _ => rfl, fun d vs us b w hd hb => ?_⟩
      obtain ⟨d, rfl⟩ : ∃ d', d = d' + 1 := ⟨d - 1, by omega⟩
      unfold eqW at hb
      split at hb <;> try (cases ‹_ = ([] : List CK)›; done)
      · rename_i e; cases e
        split at hb
        · rename_i hkk
          subst hkk
          obtain ⟨c, hc, rfl⟩ := yMx.1 hb
          have hl := zEw hc
          obtain rfl := yMe hl.1
          obtain rfl := yMe hl.2
          simp only [eqW, yMc] at hc
          subst hc
          rw [ha]
          simp only [zDz, yN5, yMb, yN6]
          rw [run_equalIn_int w d t _ k _ _ hu]
          congr 1
          rw [yN7]; simp
        · cases hb
      · rename_i e; cases e
      · rename_i e; cases e
      · cases hb
    · rename_i hu
      cases h
      have ha : zDa P t = false := by simp [zDa, hu, zC9, TK.agg]
      refine ⟨fun _ => rfl, fun d vs us b w hd hb => ?_⟩
      obtain ⟨d, rfl⟩ : ∃ d', d = d' + 1 := ⟨d - 1, by omega⟩
      unfold eqW at hb
      split at hb <;> try (cases ‹_ = ([] : List CK)›; done)
      · rename_i e; cases e
      · rename_i e; cases e
        obtain ⟨c, hc, rfl⟩ := yMx.1 hb
        have hl := zEw hc
        obtain rfl := yMe hl.1
        obtain rfl := yMe hl.2
        simp only [eqW, yMc] at hc
        subst hc
        rw [ha]
        simp only [zDz, yN5, yMb, yN6]
        rw [run_equalIn_bool' w d t _ _ hu]
        congr 1
        rw [yN7]; simp
      · rename_i e; cases e
      · cases hb
    · rename_i hu
      cases h
      have ha : zDa P t = false := by simp [zDa, hu, zC9, TK.agg]
      refine ⟨fun _ => rfl, fun d vs us b w hd hb => ?_⟩
      obtain ⟨d, rfl⟩ : ∃ d', d = d' + 1 := ⟨d - 1, by omega⟩
      unfold eqW at hb
      split at hb <;> try (cases ‹_ = ([] : List CK)›; done)
      · rename_i e; cases e
      · rename_i e; cases e
      · rename_i e; cases e
        obtain ⟨c, hc, rfl⟩ := yMx.1 hb
        have hl := zEw hc
        obtain rfl := yMe hl.1
        obtain rfl := yMe hl.2
        simp only [eqW, yMc] at hc
        subst hc
        rw [ha]
        simp only [zDz, yN5, yMb, yN6]
        rw [run_equalIn_string w d t _ _ hu]
        simp
      · cases hb
    · rename_i fs hu
      have ha : zDa P t = true := by simp [zDa, hu, zC9, TK.agg]
      split at h
      · cases h
      · rename_i hst
        refine ⟨(fun h => by rw [ha] at h; cases h), fun d vs us b w hd hb => ?_⟩
        obtain ⟨d, rfl⟩ : ∃ d', d = d' + 1 := ⟨d - 1, by omega⟩
        have hfo : P.fieldsOf t = fs := by simp [Program.fieldsOf, hu]
        obtain ⟨ks1, e1, e2⟩ := zAg ih d oq vs us fs.toList [] ks h
        simp only [yN8] at e1
        subst e1
        rw [ha]
        simp only [zDz, yMq]
        rw [run_equalIn_struct w d t _ _ (by rw [hfo]; exact hu) (by simpa using hst), hfo]
        exact e2 b w (by simpa using hb)
    · rename_i len e hu
      have ha : zDa P t = true := by simp [zDa, hu, zC9, TK.agg]
      split at h
      · rename_i k1 i h1 h2
        split at h
        · rename_i hsz
          cases h
          refine ⟨(fun h => by rw [ha] at h; cases h), fun d vs us b w hd hb => ?_⟩
          obtain ⟨d, rfl⟩ : ∃ d', d = d' + 1 := ⟨d - 1, by omega⟩
          rw [ha]
          simp only [zDz, yMq]
          rw [run_equalIn_array w d _ _ hu h2, show P.cellsOf e = k1.length from by simp [Program.cellsOf, h2, hsz], List.range_eq_range']
          exact zBm (ih _ _ h1) (zO3 h1) h2 hsz d oq vs us len 0 b w (by simpa using hb)
        · cases h
      · cases h
    · cases h
end
end Go.Proofs.YtioaahmkebojiaaGreatDoor
