/- A logic of abstract values over the walk: what a slot holds is said by a term that names no address. -/
import Derived.WalkKit
import Derived.WalkSpells
import Derived.WalkLawsBesides
import Derived.Still
import Derived.TacticsIn
import Derived.OrdersIn
import Derived.RangeFuncIn
import Derived.RangeFuncLeaves
import Derived.RangeFuncRecord
import Derived.KernelRfl
import Derived.Lib.LaidTab
import Derived.Lib.ItoaNum
import Derived.Laws.StructEq
import Derived.Laws.BytesArg
import Derived.ChangeKeysEq
namespace Go.Proofs.YtihnjbnlbedpaaaGreatDoor
set_option linter.unusedVariables false
set_option linter.unusedSimpArgs false
set_option maxHeartbeats 4000000
set_option maxRecDepth 100000
open Go.RowKit

/-- What a slot holds, without addresses. -/
inductive AV where
  | raw (v : Value)
  | agg (cs : List AV)
  | tup (cs : List AV)
  | lst (sz n : Nat) (el : Nat → List AV)
  | elt (cs : List AV) (off : Nat)
  | box (b off : Nat)
  | fn (f : Fn) (first cap : List AV)
  | row (k n : Nat)
  | bsl (sz b off n cap : Nat)

/-- What the abstract values lean on: cells that nobody writes any more, the blocks of own variables, the rows that are still appended to. -/
structure Gh where
  imm : Nat → Nat → Prop
  bx : List Nat
  rw : List (Nat × Value)

mutual
def AV.rel (G : Gh) (w : World) : AV → Value → Prop
  | .raw x, v => v = x
  | .agg cs, v => ∃ vs : List Value, v = .agg vs.toArray ∧ AV.relL G w cs vs
  | .tup cs, v => ∃ vs : List Value, v = .tuple vs.toArray ∧ AV.relL G w cs vs
  | .lst sz n el, v => ∃ A cap, v = .slice A n cap ∧ n ≤ cap ∧ cap ≤ maxLen ∧ (0 < n → ∃ b o, A = some ⟨b, o, none⟩ ∧ ∀ i, i < n → ∃ vs, AV.relL G w (el i) vs ∧ vs.length = sz ∧
      ∀ j u, vs[j]? = some u → G.imm b (o + i * sz + j) ∧ w.cell? ⟨b, o + i * sz + j, none⟩ = some u)
  | .elt cs off, v => ∃ b o vs, v = .pointer (some ⟨b, o + off, none⟩) ∧ AV.relL G w cs vs ∧ ∀ j u, vs[j]? = some u → G.imm b (o + j) ∧ w.cell? ⟨b, o + j, none⟩ = some u
  | .box b off, v => ∃ blk, G.bx[b]? = some blk ∧ v = .pointer (some ⟨blk, off, none⟩)
  | .fn f first cap, v => ∃ fs cs : List Value, v = .func f fs.toArray cs.toArray ∧ AV.relL G w first fs ∧ AV.relL G w cap cs
  | .row k n, v => ∃ e, G.rw[k]? = some e ∧ n ≤ e.1 ∧ (e.1 = n → v = e.2)
  | .bsl _ b off n cap, v => ∃ blk A, G.bx[b]? = some blk ∧ v = .slice A n cap ∧ n ≤ cap ∧ cap ≤ maxLen ∧ (0 < cap → A = some ⟨blk, off, none⟩)
def AV.relL (G : Gh) (w : World) : List AV → List Value → Prop
  | [], vs => vs = []
  | c :: cs, vs => ∃ v r, vs = v :: r ∧ AV.rel G w c v ∧ AV.relL G w cs r
end

/-- Nothing that an abstract value leans on is taken back. -/
structure Gh.Le (G : Gh) (w : World) (G' : Gh) (w' : World) : Prop where
  imm : ∀ b o, G.imm b o → G'.imm b o
  cell : ∀ b o, G.imm b o → w'.cell? ⟨b, o, none⟩ = w.cell? ⟨b, o, none⟩
  bx : ∀ (k x : Nat), G.bx[k]? = some x → G'.bx[k]? = some x
  rw : ∀ (k : Nat) (e : Nat × Value), G.rw[k]? = some e → ∃ e', G'.rw[k]? = some e' ∧ (e' = e ∨ e.1 < e'.1)

theorem Gh.Le.refl (G : Gh) (w : World) : G.Le w G w := ⟨fun _ _ h => h, fun _ _ _ => rfl, fun _ _ h => h, fun _ e h => ⟨e, h, .inl rfl⟩⟩
theorem Gh.Le.trans {G G' G'' : Gh} {w w' w'' : World} (h : G.Le w G' w') (h' : G'.Le w' G'' w'') : G.Le w G'' w'' :=
  ⟨fun b o i => h'.imm b o (h.imm b o i), fun b o i => (h'.cell b o (h.imm b o i)).trans (h.cell b o i), fun k x i => h'.bx k x (h.bx k x i), fun k e i => by
    obtain ⟨e1, h1, h2⟩ := h.rw k e i
    obtain ⟨e2, h3, h4⟩ := h'.rw k e1 h1
    refine ⟨e2, h3, ?_⟩
    rcases h2 with rfl | h2 <;> rcases h4 with rfl | h4
    · exact .inl rfl
    · exact .inr h4
    · exact .inr h2
    · exact .inr (Nat.lt_trans h2 h4)⟩

mutual
theorem AV.rel_mono {G G' : Gh} {w w' : World} (le : G.Le w G' w') : ∀ (x : AV) (v : Value), x.rel G w v → x.rel G' w' v
  | .raw _, _, h => h
  | .agg cs, _, h => by
    obtain ⟨vs, e, h⟩ := h
    exact ⟨vs, e, AV.relL_mono le cs vs h⟩
  | .tup cs, _, h => by
    obtain ⟨vs, e, h⟩ := h
    exact ⟨vs, e, AV.relL_mono le cs vs h⟩
  | .lst sz n el, _, h => by
    obtain ⟨A, cap, e, h1, h2, h3⟩ := h
    refine ⟨A, cap, e, h1, h2, fun hn => ?_⟩
    obtain ⟨b, o, hA, h4⟩ := h3 hn
    refine ⟨b, o, hA, fun i hi => ?_⟩
    obtain ⟨vs, h5, h6, h7⟩ := h4 i hi
    exact ⟨vs, AV.relL_mono le (el i) vs h5, h6, fun j u hj => ⟨le.imm _ _ (h7 j u hj).1, (le.cell _ _ (h7 j u hj).1).trans (h7 j u hj).2⟩⟩
  | .elt cs off, _, h => by
    obtain ⟨b, o, vs, e, h1, h2⟩ := h
    exact ⟨b, o, vs, e, AV.relL_mono le cs vs h1, fun j u hj => ⟨le.imm _ _ (h2 j u hj).1, (le.cell _ _ (h2 j u hj).1).trans (h2 j u hj).2⟩⟩
  | .box b off, _, h => by
    obtain ⟨blk, h1, h2⟩ := h
    exact ⟨blk, le.bx _ _ h1, h2⟩
  | .fn f first cap, _, h => by
    obtain ⟨fs, cs, e, h1, h2⟩ := h
    exact ⟨fs, cs, e, AV.relL_mono le first fs h1, AV.relL_mono le cap cs h2⟩
  | .bsl _ b off n cap, _, h => by
    obtain ⟨blk, A, h1, h2⟩ := h
    exact ⟨blk, A, le.bx _ _ h1, h2⟩
  | .row k n, _, h => by
    obtain ⟨e, h1, h2, h3⟩ := h
    obtain ⟨e', h4, h5⟩ := le.rw k e h1
    refine ⟨e', h4, ?_, ?_⟩
    · rcases h5 with rfl | h5
      · exact h2
      · omega
    · rcases h5 with rfl | h5
      · exact h3
      · intro h6; omega
theorem AV.relL_mono {G G' : Gh} {w w' : World} (le : G.Le w G' w') : ∀ (xs : List AV) (vs : List Value), AV.relL G w xs vs → AV.relL G' w' xs vs
  | [], _, h => h
  | x :: xs, _, h => by
    obtain ⟨v, r, e, h1, h2⟩ := h
    exact ⟨v, r, e, AV.rel_mono le x v h1, AV.relL_mono le xs r h2⟩
end

mutual
/-- No own variable and no row below the number given is needed. -/
def AV.free : AV → Prop
  | .raw _ => True
  | .agg cs => AV.freeL cs
  | .tup cs => AV.freeL cs
  | .lst _ n el => ∀ i, i < n → AV.freeL (el i)
  | .elt cs _ => AV.freeL cs
  | .box _ _ => False
  | .fn _ first cap => AV.freeL first ∧ AV.freeL cap
  | .row _ _ => False
  | .bsl _ _ _ _ _ => False
def AV.freeL : List AV → Prop
  | [] => True
  | c :: cs => AV.free c ∧ AV.freeL cs
end

mutual
theorem AV.rel_free {G G' : Gh} {w : World} (h0 : ∀ b o, G.imm b o → G'.imm b o) : ∀ (x : AV) (v : Value), x.free → x.rel G w v → x.rel G' w v
  | .raw _, _, _, h => h
  | .agg cs, _, f, h => by
    obtain ⟨vs, e, h⟩ := h
    exact ⟨vs, e, AV.relL_free h0 cs vs f h⟩
  | .tup cs, _, f, h => by
    obtain ⟨vs, e, h⟩ := h
    exact ⟨vs, e, AV.relL_free h0 cs vs f h⟩
  | .lst sz n el, _, f, h => by
    obtain ⟨A, cap, e, h1, h2, h3⟩ := h
    refine ⟨A, cap, e, h1, h2, fun hn => ?_⟩
    obtain ⟨b, o, hA, h4⟩ := h3 hn
    refine ⟨b, o, hA, fun i hi => ?_⟩
    obtain ⟨vs, h5, h6, h7⟩ := h4 i hi
    exact ⟨vs, AV.relL_free h0 (el i) vs (f i hi) h5, h6, fun j u hj => ⟨h0 _ _ (h7 j u hj).1, (h7 j u hj).2⟩⟩
  | .elt cs off, _, f, h => by
    obtain ⟨b, o, vs, e, h1, h2⟩ := h
    exact ⟨b, o, vs, e, AV.relL_free h0 cs vs f h1, fun j u hj => ⟨h0 _ _ (h2 j u hj).1, (h2 j u hj).2⟩⟩
  | .box b off, _, f, _ => f.elim
  | .fn _ first cap, _, f, h => by
    obtain ⟨fs, cs, e, h1, h2⟩ := h
    exact ⟨fs, cs, e, AV.relL_free h0 first fs f.1 h1, AV.relL_free h0 cap cs f.2 h2⟩
  | .row k n, _, f, _ => f.elim
  | .bsl _ _ _ _ _, _, f, _ => f.elim
theorem AV.relL_free {G G' : Gh} {w : World} (h0 : ∀ b o, G.imm b o → G'.imm b o) : ∀ (xs : List AV) (vs : List Value), AV.freeL xs → AV.relL G w xs vs → AV.relL G' w xs vs
  | [], _, _, h => h
  | x :: xs, _, f, h => by
    obtain ⟨v, r, e, h1, h2⟩ := h
    exact ⟨v, r, e, AV.rel_free h0 x v f.1 h1, AV.relL_free h0 xs r f.2 h2⟩
end

theorem AV.relL_length {G : Gh} {w : World} : ∀ {xs : List AV} {vs : List Value}, AV.relL G w xs vs → vs.length = xs.length
  | [], _, h => by rw [show _ = _ from h]; rfl
  | _ :: _, _, h => by
    obtain ⟨v, r, e, _, h2⟩ := h
    rw [e]; simp [AV.relL_length h2]
theorem AV.relL_get {G : Gh} {w : World} : ∀ {xs : List AV} {vs : List Value} {j : Nat} {x : AV}, AV.relL G w xs vs → xs[j]? = some x → ∃ v, vs[j]? = some v ∧ x.rel G w v
  | y :: ys, _, j, x, h, hj => by
    obtain ⟨v, r, e, h1, h2⟩ := h
    subst e
    cases j with
    | zero => simp only [List.getElem?_cons_zero, Option.some.injEq] at hj ⊢; subst hj; exact ⟨v, rfl, h1⟩
    | succ j => simp only [List.getElem?_cons_succ] at hj ⊢; exact AV.relL_get h2 hj
theorem AV.relL_mk {G : Gh} {w : World} : ∀ {xs : List AV} {vs : List Value}, vs.length = xs.length → (∀ (j : Nat) (x : AV) (v : Value), xs[j]? = some x → vs[j]? = some v → x.rel G w v) → AV.relL G w xs vs
  | [], vs, h, _ => List.eq_nil_of_length_eq_zero (by simpa using h)
  | x :: xs, [], h, _ => by simp at h
  | x :: xs, v :: vs, h, hr => ⟨v, vs, rfl, hr 0 x v rfl rfl, AV.relL_mk (by simpa using h) fun j y u hy hu => hr (j + 1) y u (by simpa using hy) (by simpa using hu)⟩
theorem AV.relL_drop {G : Gh} {w : World} {xs : List AV} {vs : List Value} (k : Nat) (h : AV.relL G w xs vs) : AV.relL G w (xs.drop k) (vs.drop k) :=
  AV.relL_mk (by simp [AV.relL_length h]) fun j x v hx hv => by
    rw [List.getElem?_drop] at hx hv
    obtain ⟨v', h1, h2⟩ := AV.relL_get h hx
    rw [hv] at h1; cases h1; exact h2
theorem AV.relL_take {G : Gh} {w : World} {xs : List AV} {vs : List Value} (k : Nat) (h : AV.relL G w xs vs) : AV.relL G w (xs.take k) (vs.take k) :=
  AV.relL_mk (by simp [AV.relL_length h]) fun j x v hx hv => by
    rw [List.getElem?_take] at hx hv
    split at hx
    · rename_i hj
      rw [if_pos hj] at hv
      obtain ⟨v', h1, h2⟩ := AV.relL_get h hx
      rw [hv] at h1; cases h1; exact h2
    · cases hx
theorem AV.relL_append {G : Gh} {w : World} : ∀ {xs ys : List AV} {vs us : List Value}, AV.relL G w xs vs → AV.relL G w ys us → AV.relL G w (xs ++ ys) (vs ++ us)
  | [], _, _, _, h, h' => by rw [show _ = _ from h]; exact h'
  | _ :: _, _, _, _, h, h' => by
    obtain ⟨v, r, e, h1, h2⟩ := h
    subst e
    exact ⟨v, _, rfl, h1, AV.relL_append h2 h'⟩

/-! ### The state -/
structure ARow where
  e : TypeId
  sz : Nat
  n : Nat
  el : Nat → List AV

/-- nt: slots; nb: how many own variables are the caller's; sl: what slots hold; bx: own variables; rw: rows under way; ys: to which loop things are yielded, what was yielded so far, and whether no more may be. -/
structure ASt where
  nt : Nat
  nb : Nat
  sl : List (Nat × (Bool × AV))
  bx : List (List AV)
  rw : List ARow
  ys : (Nat × List (List AV)) × List (List AV) × Bool

def lookN {β : Type} (t : Nat) : List (Nat × β) → Option β
  | [] => none
  | x :: r => bif Nat.beq t x.1 then some x.2 else lookN t r
def ASt.look (st : ASt) (t : Nat) : Option (Bool × AV) := lookN t st.sl
def ASt.put (st : ASt) (d : Nat) (e : Bool × AV) : ASt := { st with sl := (d, e) :: st.sl }
def avOf : Value → AV
  | .agg cs => .agg (cs.toList.map .raw)
  | v => .raw v
def ASt.ev (st : ASt) : Operand → Option (Bool × AV)
  | .tmp t => st.look t
  | .const v => some (true, avOf v)
  | .func f => some (true, .raw (.func (.func f) #[] #[]))
  | .global _ => none

/-- The block that a slice or a map lies in. -/
def ownBlk : Value → Option Nat
  | .slice (some a) _ _ => some a.block
  | .map (some m) => some m
  | _ => none
theorem ownBlk_eq {w : World} {base : Nat} {e : TypeId} {size : Nat} {v : Value} {n : Nat} {xs : List Value} (h : w.ownsRow base e size v n xs) : ownBlk v = v.ownBlock := by
  rcases h.2 with ⟨rfl, _⟩ | ⟨g, cap, cur, rfl, _⟩ <;> rfl
/-- The entries of a map, as the elements of a row whose elements have no size. -/
def mapEl (l : List (Value × Value)) (i : Nat) : List AV := match l[i]? with
  | some (k, v) => [.raw k, .raw v]
  | none => []
/-- What a row owns: nothing, the block of a slice, or a map. -/
def OwnR (w : World) (r : ARow) (v : Value) (xs : List Value) : Prop := xs.length = r.n * r.sz ∧
  ((v = .slice none 0 0 ∧ r.n = 0 ∧ 0 < r.sz) ∨
   (∃ g cap cur, v = .slice (some ⟨g, 0, none⟩) r.n cap ∧ 0 < r.sz ∧ w.heap[g]? = some (.cells cur r.e (0, 0)) ∧ r.n ≤ cap ∧ cap ≤ maxLen ∧ cur.size = cap * r.sz ∧ cur.toList.take (r.n * r.sz) = xs) ∨
   (∃ m es ck, v = .map (some m) ∧ (r.sz = 0 ∧ r.n = 0) ∧ w.heap[m]? = some (.map es ck) ∧ r.el = mapEl (es.toList.map fun e => (e.key, e.val))))
theorem OwnR.row {w : World} {r : ARow} {v : Value} {xs : List Value} (h : OwnR w r v xs) (h0 : 0 < r.sz) : w.ownsRow 0 r.e r.sz v r.n xs := by
  refine ⟨h.1, ?_⟩
  rcases h.2 with h | ⟨g, cap, cur, hv, _, hr⟩ | ⟨m, es, ck, _, h, _⟩
  · exact .inl ⟨h.1, h.2.1⟩
  · exact .inr ⟨g, cap, cur, hv, Nat.zero_le _, hr⟩
  · omega
/-- Whose elements are said otherwise owns the same. -/
theorem OwnR.like {w : World} {r r' : ARow} {v : Value} {xs : List Value} (h : OwnR w r v xs) (h1 : r.e = r'.e) (h2 : r.sz = r'.sz) (h3 : r.n = r'.n) (h4 : r.sz = 0 → r.el = r'.el) : OwnR w r' v xs := by
  obtain ⟨e, sz, n, el⟩ := r
  obtain ⟨e', sz', n', el'⟩ := r'
  simp only at h1 h2 h3 h4
  subst h1; subst h2; subst h3
  refine ⟨h.1, ?_⟩
  rcases h.2 with h | h | ⟨m, es, ck, hv, hz, hm, hr⟩
  · exact .inl h
  · exact .inr (.inl h)
  · exact .inr (.inr ⟨m, es, ck, hv, hz, hm, (h4 hz.1).symm.trans hr⟩)
theorem mapEl_raw (l : List (Value × Value)) (i : Nat) : mapEl l i = [] ∨ ∃ k v, mapEl l i = [.raw k, .raw v] := by
  unfold mapEl
  split
  · exact .inr ⟨_, _, rfl⟩
  · exact .inl rfl
theorem OwnR.of {w : World} {r : ARow} {v : Value} {xs : List Value} (h : w.ownsRow 0 r.e r.sz v r.n xs) (h0 : 0 < r.sz) : OwnR w r v xs := ⟨h.1, h.2.elim (fun h => .inl ⟨h.1, h.2, h0⟩) fun ⟨g, cap, cur, hv, _, hr⟩ => .inr (.inl ⟨g, cap, cur, hv, h0, hr⟩)⟩
/-- What is owned stays owned where its block is left alone. -/
theorem OwnR.keep {w w' : World} {r : ARow} {v : Value} {xs : List Value} (h : OwnR w r v xs) (hh : ∀ g, ownBlk v = some g → g < w.heap.size → w'.heap[g]? = w.heap[g]?) : OwnR w' r v xs := by
  refine ⟨h.1, ?_⟩
  rcases h.2 with h | ⟨g, cap, cur, hv, hb, hg, hr⟩ | ⟨m, es, ck, hv, h1, hm, hr⟩
  · exact .inl h
  · exact .inr (.inl ⟨g, cap, cur, hv, hb, by rw [hh g (by rw [hv]; rfl) (Array.getElem?_eq_some_iff.1 hg).1]; exact hg, hr⟩)
  · exact .inr (.inr ⟨m, es, ck, hv, h1, by rw [hh m (by rw [hv]; rfl) (Array.getElem?_eq_some_iff.1 hm).1]; exact hm, hr⟩)
theorem OwnR.lt {w : World} {r : ARow} {v : Value} {xs : List Value} (h : OwnR w r v xs) {g : Nat} (hg : ownBlk v = some g) : g < w.heap.size := by
  rcases h.2 with ⟨hv, _⟩ | ⟨g', cap, cur, hv, _, hh, _⟩ | ⟨m, es, ck, hv, _, hm, _⟩
  · rw [hv] at hg; cases hg
  · rw [hv] at hg; cases hg; exact (Array.getElem?_eq_some_iff.1 hh).1
  · rw [hv] at hg; cases hg; exact (Array.getElem?_eq_some_iff.1 hm).1
structure RowOk (G : Gh) (w : World) (r : ARow) (x : Nat × Value) : Prop where
  len : x.1 = r.n
  own : ∃ xs, OwnR w r x.2 xs ∧ ∀ i, i < r.n → ∃ vs, AV.relL G w (r.el i) vs ∧ vs.length = r.sz ∧ ∀ j u, vs[j]? = some u → xs[i * r.sz + j]? = some u
  imm : ∀ g, (ownBlk x.2) = some g → ∀ o, G.imm g o ↔ o < r.n * r.sz

structure MSat (G : Gh) (w : World) (bx : List (List AV)) (rw : List ARow) : Prop where
  immOk : ∀ b o, G.imm b o → (w.cell? ⟨b, o, none⟩).isSome = true
  lenB : G.bx.length = bx.length
  lenR : G.rw.length = rw.length
  nodup : G.bx.Nodup
  box : ∀ (k : Nat) (cs : List AV) (blk : Nat), bx[k]? = some cs → G.bx[k]? = some blk → (∀ o, ¬ G.imm blk o) ∧ ∃ (vs : List Value) (T : TypeId), w.heap[blk]? = some (.cells vs.toArray T (0, 0)) ∧ AV.relL G w cs vs
  row : ∀ (k : Nat) (r : ARow) (x : Nat × Value), rw[k]? = some r → G.rw[k]? = some x → RowOk G w r x
  sepB : ∀ (k : Nat) (x : Nat × Value) (g : Nat), G.rw[k]? = some x → (ownBlk x.2) = some g → g ∉ G.bx
  sepR : ∀ (k k' : Nat) (x x' : Nat × Value) (g : Nat), G.rw[k]? = some x → G.rw[k']? = some x' → (ownBlk x.2) = some g → (ownBlk x'.2) = some g → k = k'

/-- Nothing but some blocks was changed. -/
structure Outside (D : Nat → Prop) (w w' : World) : Prop where
  os : w'.os = w.os
  tape : w'.tape = w.tape
  output : w'.output = w.output
  size : w.heap.size ≤ w'.heap.size
  block : ∀ k, k < w.heap.size → ¬ D k → w'.heap[k]? = w.heap[k]?
theorem Outside.refl (D : Nat → Prop) (w : World) : Outside D w w := ⟨rfl, rfl, rfl, Nat.le_refl _, fun _ _ _ => rfl⟩
theorem Outside.trans {D : Nat → Prop} {a b c : World} (h : Outside D a b) (k : Outside D b c) : Outside D a c :=
  ⟨k.os.trans h.os, k.tape.trans h.tape, k.output.trans h.output, Nat.le_trans h.size k.size, fun i hi hd => (k.block i (Nat.lt_of_lt_of_le hi h.size) hd).trans (h.block i hi hd)⟩
theorem Outside.of_below {D : Nat → Prop} {w w' : World} (h : Below w.heap.size w w') : Outside D w w' := ⟨h.os, h.tape, h.output, h.size, fun k hk _ => h.block k hk⟩

/-- The walk of a body, or of a round of a range over a function. -/
def fen (r : Option Nat) : Fence := { fn := fun _ => True, depth := none, alive := false, round := r }
theorem callsIn_fen {r : Option Nat} {n : Nat} {P : Program} {f : FuncId} {args : Array Value} {w : World} {R : Ending → World → Prop} (h : Calls P f args w R) : CallsIn (fen r) n P f args w R := by
  cases r with
  | none => exact callsIn_wide.2 h
  | some l => exact (callsIn_wide.2 h : CallsIn Fence.wide n P f args w R)

/-- What whoever ranges has: after such items; whether he wants no more; cells that nobody writes any more; the blocks that are his. -/
abbrev Env := List (List AV) → Bool → (Nat → Nat → Prop) → (Nat → Prop) → World → Prop
def StableW (W : Env) : Prop := ∀ (h : List (List AV)) (s : Bool) (I I' : Nat → Nat → Prop) (D : Nat → Prop) (w w' : World), W h s I D w → Outside (fun k => ¬ D k) w w' → (∀ b o, I b o → I' b o ∧ w'.cell? ⟨b, o, none⟩ = w.cell? ⟨b, o, none⟩) → W h s I' D w'
theorem Outside.mono {D D' : Nat → Prop} {w w' : World} (h : Outside D w w') (hd : ∀ k, k < w.heap.size → D k → D' k) : Outside D' w w' := ⟨h.os, h.tape, h.output, h.size, fun k hk hn => h.block k hk fun hD => hn (hd k hk hD)⟩
/-- What yielding does: whoever ranges goes on from what was yielded before, changes his own blocks alone, and says whether there may be more. -/
def YOk (P : Program) (l : Nat × List (List AV)) (I0 : Nat → Nat → Prop) (W : Env) : Prop :=
  ∀ (ro : Option Nat) (h : List (List AV)) (item : List AV) (I : Nat → Nat → Prop) (D : Nat → Prop) (w : World) (vs : List Value), W h false I D w → (h ++ [item]) <+: l.2 → (∀ k, D k → k < w.heap.size) → (∀ b o, I b o → (w.cell? ⟨b, o, none⟩).isSome = true ∧ (I0 b o ∨ ¬ D b)) → (∀ b o, I0 b o → I b o) → AV.relL ⟨I, [], []⟩ w item vs →
    ∃ f tmps assign body, (Instr.yield l.1 vs.toArray).run P w = .ok (.round l.1 f tmps assign body) w ∧
      RoundIn (fen ro) 0 P l.1 f tmps assign body w fun e w' => ∃ b D', e = .returned (.bool b) ∧ W (h ++ [item]) (!b) I D' w' ∧ Outside D w w' ∧ (∀ b o, I b o → w'.cell? ⟨b, o, none⟩ = w.cell? ⟨b, o, none⟩) ∧ (∀ k, D' k → (D k ∨ w.heap.size ≤ k) ∧ k < w'.heap.size)

/-- The blocks of the tables of the library's that are listed, and what they hold. -/
def tabBlk (P : Program) (g : Nat) : Prop := P.globalNamed "internal/strconv.uint64pow10" = some g
def Tabs (P : Program) (w : World) : Prop := ∀ g, tabBlk P g → Lib.TabIs P w "internal/strconv.uint64pow10" .u64 Lib.pow10Tab
theorem Tabs.lt {P : Program} {w : World} (h : Tabs P w) {g : Nat} (hg : tabBlk P g) : g < w.heap.size := by
  have h := h g hg
  unfold Lib.TabIs World.var? at h
  rw [show P.globalNamed "internal/strconv.uint64pow10" = some g from hg] at h
  simp only [Option.bind_some] at h
  rcases Nat.lt_or_ge g w.heap.size with h' | h'
  · exact h'
  · rw [Array.getElem?_eq_none h'] at h; simp at h
theorem Tabs.keep {P : Program} {w w' : World} (h : Tabs P w) (hk : ∀ g, tabBlk P g → w'.heap[g]? = w.heap[g]?) : Tabs P w' := fun g hg => by
  have h1 := h g hg
  unfold Lib.TabIs World.var? at h1 ⊢
  rw [show P.globalNamed "internal/strconv.uint64pow10" = some g from hg] at h1 ⊢
  simp only [Option.bind_some] at h1 ⊢
  rw [hk g hg]
  exact h1
/-- What a function alone has round it: nobody to yield to, and the tables. -/
def W0 (P : Program) (w0 : World) : Env := fun _ s _ D w => s = true ∧ (∀ k, D k ↔ tabBlk P k) ∧ ∀ k, tabBlk P k → w.heap[k]? = w0.heap[k]?
theorem W0_stable {P : Program} {w0 : World} (ht : Tabs P w0) : StableW (W0 P w0) := fun _ _ _ _ _ w w' h ho _ => ⟨h.1, h.2.1, fun k hk => by
  have h1 := h.2.2 k hk
  have hlt : k < w.heap.size := by
    have h2 := ht.lt hk
    rw [Array.getElem?_eq_getElem h2] at h1
    exact (Array.getElem?_eq_some_iff.1 h1).1
  rw [← h1]
  exact ho.block k hlt fun hn => hn ((h.2.1 k).2 hk)⟩
theorem W0_tabs {P : Program} {w0 : World} (ht : Tabs P w0) : ∀ h s I D w, W0 P w0 h s I D w → Tabs P w ∧ ∀ g, tabBlk P g → D g := fun _ _ _ _ _ h => ⟨ht.keep h.2.2, fun g hg => (h.2.1 g).2 hg⟩
theorem W0_y {P : Program} {w0 : World} {l : Nat × List (List AV)} {I0 : Nat → Nat → Prop} : YOk P l I0 (W0 P w0) := fun _ _ _ _ _ _ _ h _ => by cases h.1

/-- In what surroundings code is walked. -/
structure Ctx (P : Program) where
  round : Option Nat
  l : Nat × List (List AV)
  D : Nat → Prop
  W : Env
  I0 : Nat → Nat → Prop
  G0 : Gh
  w0 : World
  base : ∀ b o, I0 b o → G0.imm b o
  stable : StableW W
  y : YOk P l I0 W
  tabs : ∀ h s I D w, W h s I D w → Tabs P w ∧ ∀ g, tabBlk P g → D g
/-- The blocks that may be changed. -/
def Ctx.may {P : Program} (C : Ctx P) (k : Nat) : Prop := C.D k ∨ k ∈ C.G0.bx ∨ ∃ x ∈ C.G0.rw, (ownBlk x.2) = some k

def mark (m : Nat) : Deferred := { target := .collected m, args := #[] }
/-- What belongs to whoever ranges, and the marks of loops. -/
structure EnvD {P : Program} (C : Ctx P) (G : Gh) (ds : List Deferred) (ys : (Nat × List (List AV)) × List (List AV) × Bool) (D : Nat → Prop) (w : World) : Prop where
  l : C.l = ys.1
  cons : C.W ys.2.1 ys.2.2 G.imm D w
  sub : ∀ k, D k → C.D k ∨ C.w0.heap.size ≤ k
  lt : ∀ k, D k → k < w.heap.size
  bx : ∀ k ∈ G.bx, ¬ D k
  rw : ∀ x ∈ G.rw, ∀ g, (ownBlk x.2) = some g → ¬ D g
  imm : ∀ b o, G.imm b o → C.I0 b o ∨ ¬ D b
  marks : ∃ l : List Nat, ds = l.map mark ∧ l.Nodup ∧ ∀ m ∈ l, w.heap[m]? = some (.deferred (some [])) ∧ ¬ D m ∧ C.w0.heap.size ≤ m
  record : ∀ r, C.round = some r → (∃ L, w.heap[r]? = some (.loop L)) ∧ ¬ D r

structure Sat {P : Program} (C : Ctx P) (G : Gh) (a : Act) (w : World) (st : ASt) : Prop where
  size : a.tmps.size = st.nt
  callers : C.G0.bx.length = st.nb % 64 ∧ C.G0.rw.length = st.nb / 64
  frame : Outside C.may C.w0 w
  le : C.G0.Le C.w0 G w
  fresh : ∀ b o, G.imm b o → C.G0.imm b o ∨ C.w0.heap.size ≤ b ∨ ∃ x ∈ C.G0.rw, (ownBlk x.2) = some b
  ownB : ∀ blk ∈ G.bx, blk ∈ C.G0.bx ∨ C.w0.heap.size ≤ blk
  ownR : ∀ x ∈ G.rw, ∀ g, (ownBlk x.2) = some g → (∃ y ∈ C.G0.rw, (ownBlk y.2) = some g) ∨ C.w0.heap.size ≤ g
  env : ∃ D, EnvD C G a.defers st.ys D w
  mem : MSat G w st.bx st.rw
  slot : ∀ t c x, st.look t = some (c, x) → ∃ v, a.tmps[t]? = some v ∧ (c = true → x.rel G w v) ∧ (c = false → v = undef)

theorem EnvD.tabs {P : Program} {C : Ctx P} {G : Gh} {ds : List Deferred} {ys : (Nat × List (List AV)) × List (List AV) × Bool} {w : World} (e : ∃ D, EnvD C G ds ys D w) : Tabs P w :=
  let ⟨_, e⟩ := e
  (C.tabs _ _ _ _ _ e.cons).1
theorem Sat.tabs {P : Program} {C : Ctx P} {G : Gh} {a : Act} {w : World} {st : ASt} (hs : Sat C G a w st) : Tabs P w :=
  let ⟨_, e⟩ := hs.env
  (C.tabs _ _ _ _ _ e.cons).1
theorem Sat.tabs_own {P : Program} {C : Ctx P} {G : Gh} {a : Act} {w : World} {st : ASt} (hs : Sat C G a w st) : ∀ g, tabBlk P g → g ∉ G.bx ∧ ∀ x ∈ G.rw, (ownBlk x.2) ≠ some g := fun g hg =>
  let ⟨_, e⟩ := hs.env
  have hd := (C.tabs _ _ _ _ _ e.cons).2 g hg
  ⟨fun h => e.bx g h hd, fun x hx h => e.rw x hx g h hd⟩
/-- The post of a piece of code, brought down to the walk's. -/
def down {P : Program} (C : Ctx P) (Q : Exit → ASt → Prop) (e : Exit) (a : Act) (w : World) : Prop := ∃ G st, Sat C G a w st ∧ Q e st
def wpA (P : Program) (c : Code) (Q : Exit → ASt → Prop) (st : ASt) : Prop := ∀ (C : Ctx P) G a w, Sat C G a w st → c.wpIn (fen C.round) 0 P (down C Q) a w

/-- What is known may be forgotten, or said otherwise. -/
def Weak (st st' : ASt) : Prop := ∀ (P : Program) (C : Ctx P) G a w, Sat C G a w st → ∃ G', Sat C G' a w st'
theorem Weak.refl (st : ASt) : Weak st st := fun _ _ G _ _ h => ⟨G, h⟩
theorem Weak.trans {a b c : ASt} (h : Weak a b) (h' : Weak b c) : Weak a c := fun P C G x w hs => let ⟨_, h1⟩ := h P C G x w hs; h' P C _ x w h1
theorem wpA_weak {P : Program} {c : Code} {Q : Exit → ASt → Prop} {st st' : ASt} (h : Weak st st') (hw : wpA P c Q st') : wpA P c Q st :=
  fun C G a w hs => let ⟨G', h1⟩ := h P C G a w hs; hw C G' a w h1

section rules
variable {P : Program} {Q : Exit → ASt → Prop} {st : ASt}

theorem wpA_skip (h : Q .normal st) : wpA P .skip Q st := fun _ G _ _ hs => wpIn_skip ⟨G, st, hs, h⟩
theorem wpA_label {l : Nat} (h : Q .normal st) : wpA P (.label l) Q st := fun _ G _ _ hs => wpIn_label ⟨G, st, hs, h⟩
theorem wpA_exit {id : Nat} (h : Q (.exit id) st) : wpA P (.exit id) Q st := fun _ G _ _ hs => wpIn_exit ⟨G, st, hs, h⟩
theorem wpA_ret (h : Q .ret st) : wpA P .ret Q st := fun _ G _ _ hs => wpIn_ret ⟨G, st, hs, h⟩

def thenA (k : ASt → Prop) (Q : Exit → ASt → Prop) : Exit → ASt → Prop
  | .normal, st => k st
  | e, st => Q e st
def inBlockA (id : Nat) (Q : Exit → ASt → Prop) : Exit → ASt → Prop
  | .exit id', st => bif Nat.beq id' id then Q .normal st else Q (.exit id') st
  | e, st => Q e st

theorem wpA_mono {c : Code} {Q' : Exit → ASt → Prop} (h : wpA P c Q st) (hq : ∀ e st, Q e st → Q' e st) : wpA P c Q' st :=
  fun C G a w hs => wpIn_mono (h C G a w hs) fun _ _ _ ⟨G', st', h1, h2⟩ => ⟨G', st', h1, hq _ _ h2⟩

theorem wpA_seq {x y : Code} (h : ∀ K : ASt → Prop, (∀ s, wpA P y Q s → K s) → wpA P x (thenA K Q) st) : wpA P (.seq x y) Q st := by
  intro C G a w hs
  refine wpIn_seq (wpIn_mono (h (fun s => wpA P y Q s) (fun _ h => h) C G a w hs) ?_)
  rintro e a' w' ⟨G', st', h1, h2⟩
  cases e with
  | normal => exact h2 C G' a' w' h1
  | _ => exact ⟨G', st', h1, h2⟩

theorem wpA_block {id : Nat} {c : Code} (h : wpA P c (inBlockA id Q) st) : wpA P (.block id c) Q st := by
  intro C G a w hs
  refine wpIn_block (wpIn_mono (h C G a w hs) ?_)
  rintro e a' w' ⟨G', st', h1, h2⟩
  cases e with
  | exit id' =>
    simp only [Exit.inBlock, inBlockA] at h2 ⊢
    by_cases hid : id' = id
    · subst hid
      simp only [Nat.beq_eq_true_eq, cond_true, ite_true, Nat.beq_refl] at h2 ⊢
      exact ⟨G', st', h1, h2⟩
    · have : Nat.beq id' id = false := by
        cases hb : Nat.beq id' id
        · rfl
        · exact absurd (Nat.eq_of_beq_eq_true hb) hid
      rw [this] at h2
      rw [if_neg hid]
      exact ⟨G', st', h1, h2⟩
  | _ => exact ⟨G', st', h1, h2⟩

theorem wpA_cond {x y : Code} {c : Operand} {b : Bool} (hc : st.ev c = some (true, .raw (.bool b))) (ht : b = true → wpA P x Q st) (hf : b = false → wpA P y Q st) : wpA P (.cond c x y) Q st := by
  intro C G a w hs
  have he : a.eval c = .bool b := by
    cases c with
    | tmp t =>
      obtain ⟨v, h1, h2, _⟩ := hs.slot t _ _ hc
      have := h2 rfl
      simp only [AV.rel] at this
      simp [Act.eval, Array.getD_eq_getD_getElem?, h1, this]
    | const v =>
      simp only [ASt.ev, Option.some.injEq, Prod.mk.injEq, true_and] at hc
      cases v <;> simp [avOf] at hc
      subst hc; rfl
    | global g => simp [ASt.ev] at hc
    | func f => simp [ASt.ev] at hc
  refine wpIn_cond_split he (fun hb => ht hb C G a w hs) (fun hb => hf hb C G a w hs)

/-- A loop: a family of states, with a number that falls. -/
theorem wpA_loop {ι : Type} {c : Code} (I : ι → ASt) (ok : ι → Prop) (μ : ι → Nat) (i0 : ι) (h0 : Weak st (I i0)) (hok : ok i0)
    (round : ∀ i, ok i → wpA P c (thenA (fun s => ∃ j, ok j ∧ μ j < μ i ∧ Weak s (I j)) Q) (I i)) : wpA P (.loop c) Q st := by
  intro C G a w hs
  obtain ⟨G0, hs0⟩ := h0 P C G a w hs
  clear hs h0
  intro b k cs hro hb hr
  have key : ∀ n i, μ i = n → ok i → ∀ G a w, Sat C G a w (I i) →
      ∃ e a' w', down C Q e a' w' ∧ ArrivesIn (Machine.fenced P (fen C.round)) P (lone (b.atR a (.code c :: .inLoop c :: k)) cs w) b k cs e a' w' := by
    intro n
    induction n using Nat.strongRecOn with
    | _ n ih =>
      intro i hn hi G a w hs
      obtain ⟨e, a1, w1, ⟨G1, s1, hs1, hq⟩, harr⟩ := round i hi C G a w hs b (.inLoop c :: k) cs hro hb hr
      cases e with
      | normal =>
        obtain ⟨j, hj, hlt, hw⟩ := hq
        obtain ⟨G2, hs2⟩ := hw P C G1 a1 w1 hs1
        obtain ⟨e2, a2, w2, hq2, harr2⟩ := ih (μ j) (hn ▸ hlt) j rfl hj G2 a1 w1 hs2
        exact ⟨e2, a2, w2, hq2, .of_steps (StepsIn.trans harr (.one (fenced_calm hb hr rfl) stepR_inLoop)) harr2⟩
      | exit id => exact ⟨_, a1, w1, ⟨G1, s1, hs1, hq⟩, .pass (x := .inLoop c) rfl (fun _ _ => .inl (by simp)) harr⟩
      | goto l => exact ⟨_, a1, w1, ⟨G1, s1, hs1, hq⟩, .pass (x := .inLoop c) rfl (fun _ _ => .inl (by simp)) harr⟩
      | ret => exact ⟨_, a1, w1, ⟨G1, s1, hs1, hq⟩, .pass (x := .inLoop c) rfl (fun _ _ => .inl (by simp)) harr⟩
      | panic ch => exact ⟨_, a1, w1, ⟨G1, s1, hs1, hq⟩, .pass (x := .inLoop c) rfl (fun _ _ => .inl (by simp)) harr⟩
      | outgrown => exact ⟨_, a1, w1, ⟨G1, s1, hs1, hq⟩, .pass (x := .inLoop c) rfl (fun _ _ => .inl (by simp)) harr⟩
  obtain ⟨e, a', w', hq, harr⟩ := key _ i0 rfl hok G0 a w hs0
  exact ⟨e, a', w', hq, .of_steps (.one (fenced_calm hb hr rfl) stepR_loop) harr⟩
end rules
end Go.Proofs.YtihnjbnlbedpaaaGreatDoor
/- The abstract logic: operations that only compute and read. -/
namespace Go.Proofs.YtihnjbnlbedpaaaGreatDoor
set_option linter.unusedVariables false
set_option linter.unusedSimpArgs false
set_option maxHeartbeats 4000000
set_option maxRecDepth 100000
open Go.RowKit

inductive TK where
  | int (k : IntKind) | bool | str | slice (e : Nat) | struct (fs : List (Nat × Nat)) | array (n e : Nat) | ptr (e : Nat) | func | iface | map (k e : Nat) | other
def TK.agg : TK → Bool
  | .struct _ | .array _ _ => true
  | _ => false
def tkOf : TypeDesc → TK
  | .int k => .int k
  | .bool => .bool
  | .string => .str
  | .slice e => .slice e
  | .struct fs => .struct (fs.toList.map fun f => (f.offset, f.type))
  | .array n e => .array n e
  | .pointer e => .ptr e
  | .func _ _ _ => .func
  | .interface _ => .iface
  | .map k e => .map k e
  | _ => .other
/-- What is told of a type: its kind, its cells, its bytes, the cells of its zero value. -/
inductive CK where
  | int | bool | str
  deriving DecidableEq
/-- Which cells a type has that can be compared; none if it is another type. -/
def eqKs (P : Program) : Nat → TypeId → Option (List CK)
  | 0, _ => none
  | n + 1, t => match P.underlying t with
    | some (.int _) => some [.int]
    | some .bool => some [.bool]
    | some .string => some [.str]
    | some (.struct fs) => if P.stoodInHeld t then none else
      (fs.toList.foldl (fun acc f => match acc, eqKs P n f.type, P.info? f.type with
        | some ks, some k1, some i => if f.name ≠ "_" ∧ f.offset = ks.length ∧ i.size = k1.length then some (ks ++ k1) else none
        | _, _, _ => none) (some []))
    | some (.array len e) => match eqKs P n e, P.info? e with
      | some k1, some i => if i.size = k1.length then some (List.replicate len k1).flatten else none
      | _, _ => none
    | _ => none
structure TI where
  k : TK
  size : Nat
  bytes : Nat
  zero : List Value
  eq : List CK := []
abbrev TT := Nat → Option TI
structure TiOk (P : Program) (t : Nat) (i : TI) : Prop where
  und : (P.underlying t).map tkOf = some i.k
  info : (P.info? t).map (fun x => (x.zero.map (·.cells.toList), x.size, x.bytes)) = some (some i.zero, i.size, i.bytes)
  eq : (i.eq.isEmpty || (decide (eqKs P 30 t = some i.eq) && !P.eqGuardType P.depth t)) = true
def TOk (P : Program) (T : TT) : Prop := ∀ t i, T t = some i → TiOk P t i
section types
variable {P : Program} {t : Nat} {i : TI} {w : World}
theorem TiOk.size_run (h : TiOk P t i) (w : World) : (sizeOf t).run P w = .ok i.size w := by
  have h1 := h.info
  cases hi : P.info? t with
  | none => rw [hi] at h1; cases h1
  | some x =>
    rw [hi] at h1
    simp only [Option.map_some, Option.some.injEq, Prod.mk.injEq] at h1
    simp [sizeOf, typeInfo, hi, program, Sem.run, h1.2.1]
theorem TiOk.bytes_run (h : TiOk P t i) (w : World) : ∃ x, (typeInfo t).run P w = .ok x w ∧ x.size = i.size ∧ x.bytes = i.bytes ∧ P.info? t = some x := by
  have h1 := h.info
  cases hi : P.info? t with
  | none => rw [hi] at h1; cases h1
  | some x =>
    rw [hi] at h1
    simp only [Option.map_some, Option.some.injEq, Prod.mk.injEq] at h1
    exact ⟨x, by simp [typeInfo, hi, program, Sem.run], h1.2.1, h1.2.2, rfl⟩
theorem TiOk.zero_run (h : TiOk P t i) (w : World) : ∃ z, (zeroValue t).run P w = .ok z w ∧ z.cells.toList = i.zero := by
  have h1 := h.info
  cases hi : P.info? t with
  | none => rw [hi] at h1; cases h1
  | some x =>
    rw [hi] at h1
    simp only [Option.map_some, Option.some.injEq, Prod.mk.injEq] at h1
    cases hz : x.zero with
    | none => rw [hz] at h1; cases h1.1
    | some z =>
      rw [hz] at h1
      simp only [Option.map_some, Option.some.injEq] at h1
      exact ⟨z, by simp [zeroValue, typeInfo, hi, program, Sem.run, hz], h1.1⟩
theorem TiOk.und_some (h : TiOk P t i) : ∃ d, P.underlying t = some d ∧ tkOf d = i.k := by
  have := h.und
  cases hd : P.underlying t with
  | none => rw [hd] at this; cases this
  | some d => rw [hd] at this; exact ⟨d, rfl, by simpa using this⟩
theorem tkOf_slice {d : TypeDesc} {e : Nat} (h : tkOf d = .slice e) : d = .slice e := by cases d <;> simp [tkOf] at h; rw [h]
theorem tkOf_array {d : TypeDesc} {n e : Nat} (h : tkOf d = .array n e) : d = .array n e := by cases d <;> simp [tkOf] at h; rw [h.1, h.2]
theorem tkOf_int {d : TypeDesc} {k : IntKind} (h : tkOf d = .int k) : d = .int k := by cases d <;> simp [tkOf] at h; rw [h]
theorem tkOf_str {d : TypeDesc} (h : tkOf d = .str) : d = .string := by cases d <;> simp [tkOf] at h; rfl
theorem tkOf_bool {d : TypeDesc} (h : tkOf d = .bool) : d = .bool := by cases d <;> simp [tkOf] at h; rfl
theorem tkOf_struct {d : TypeDesc} {fs : List (Nat × Nat)} (h : tkOf d = .struct fs) : ∃ a, d = .struct a ∧ a.toList.map (fun f => (f.offset, f.type)) = fs := by
  cases d <;> simp [tkOf] at h
  rename_i a; exact ⟨a, rfl, h⟩
theorem TiOk.agg_run (h : TiOk P t i) (w : World) : (isAgg t).run P w = .ok i.k.agg w := by
  obtain ⟨d, h1, h2⟩ := h.und_some
  rw [← h2]
  cases d <;> simp [isAgg, underlying, program, Sem.run, h1, tkOf, TK.agg]
theorem TiOk.und_run (h : TiOk P t i) (w : World) : ∃ d, (underlying t).run P w = .ok d w ∧ tkOf d = i.k ∧ P.underlying t = some d := by
  obtain ⟨d, h1, h2⟩ := h.und_some
  exact ⟨d, by simp [underlying, program, Sem.run, h1], h2, h1⟩
end types

def nthA : List AV → Nat → AV
  | [], _ => .raw undef
  | x :: _, 0 => x
  | _ :: r, n + 1 => nthA r n
theorem nthA_get : ∀ {cs : List AV} {k : Nat}, k < cs.length → cs[k]? = some (nthA cs k)
  | x :: _, 0, _ => rfl
  | _ :: r, k + 1, h => by simp only [List.getElem?_cons_succ, nthA]; exact nthA_get (by simpa using h)
/-- The value of a type whose cells begin at an offset. -/
def cutA (agg : Bool) (sz : Nat) (cs : List AV) (off : Nat) : AV := bif agg then .agg ((cs.drop off).take sz) else nthA cs off

def inK : IntKind → Int → Prop
  | .i64, x => -9223372036854775808 ≤ x ∧ x ≤ 9223372036854775807
  | .i32, x => -2147483648 ≤ x ∧ x ≤ 2147483647
  | .u8, x => 0 ≤ x ∧ x ≤ 255
  | .u16, x => 0 ≤ x ∧ x ≤ 65535
  | .u32, x => 0 ≤ x ∧ x ≤ 4294967295
  | .u64, x => 0 ≤ x ∧ x ≤ 18446744073709551615
  | .i8, x => -128 ≤ x ∧ x ≤ 127
  | .i16, x => -32768 ≤ x ∧ x ≤ 32767
theorem inK_wrap {k : IntKind} {x : Int} (h : inK k x) : k.wrap x = x := by
  cases k <;> simp only [inK] at h
  · rw [show IntKind.i8.wrap x = (x + 128) % 256 - 128 from by simp only [IntKind.wrap, IntKind.bits, IntKind.signed]; simp; omega]
    omega
  · rw [show IntKind.i16.wrap x = (x + 32768) % 65536 - 32768 from by simp only [IntKind.wrap, IntKind.bits, IntKind.signed]; simp; omega]
    omega
  · rw [show IntKind.i32.wrap x = (x + 2147483648) % 4294967296 - 2147483648 from by simp only [IntKind.wrap, IntKind.bits, IntKind.signed]; simp; omega]
    omega
  · exact IntWalk.i64_in x h
  · rw [show IntKind.u8.wrap x = x % 256 from by simp only [IntKind.wrap, IntKind.bits, IntKind.signed]; simp; try omega]
    omega
  · rw [show IntKind.u16.wrap x = x % 65536 from by simp only [IntKind.wrap, IntKind.bits, IntKind.signed]; simp; try omega]
    omega
  · rw [show IntKind.u32.wrap x = x % 4294967296 from by simp only [IntKind.wrap, IntKind.bits, IntKind.signed]; simp; try omega]
    omega
  · rw [show IntKind.u64.wrap x = x % 18446744073709551616 from by simp only [IntKind.wrap, IntKind.bits, IntKind.signed]; simp; try omega]
    omega

theorem tdiv_bounds {a b : Int} (hb : 0 < b) : (0 ≤ a → 0 ≤ a.tdiv b ∧ a.tdiv b ≤ a) ∧ (a ≤ 0 → a ≤ a.tdiv b ∧ a.tdiv b ≤ 0) := by
  refine ⟨fun ha => ⟨Int.tdiv_nonneg ha (by omega), Int.tdiv_le_self _ ha⟩, fun ha => ?_⟩
  have h1 : 0 ≤ (-a).tdiv b := Int.tdiv_nonneg (by omega) (by omega)
  have h2 : (-a).tdiv b ≤ -a := Int.tdiv_le_self _ (by omega)
  rw [Int.neg_tdiv] at h1 h2
  omega
theorem inK_tdiv {k : IntKind} {a b : Int} (hb : 0 < b) (h : inK k a) : k.wrap (a.tdiv b) = a.tdiv b := by
  have h1 := tdiv_bounds (a := a) hb
  refine inK_wrap ?_
  cases k <;> simp only [inK] at h ⊢ <;> omega
/-- Bit operations. -/
def bitI (op : BinOp) (k : IntKind) (a b : Int) : Int := match op with
  | .and => k.wrap ((BitVec.ofInt k.bits a &&& BitVec.ofInt k.bits b).toNat : Int)
  | .or => k.wrap ((BitVec.ofInt k.bits a ||| BitVec.ofInt k.bits b).toNat : Int)
  | .xor => k.wrap ((BitVec.ofInt k.bits a ^^^ BitVec.ofInt k.bits b).toNat : Int)
  | _ => k.wrap ((BitVec.ofInt k.bits a &&& ~~~ BitVec.ofInt k.bits b).toNat : Int)
def binA (op : BinOp) : AV → AV → Option (AV × Prop)
  | .raw (.int k a), .raw (.int k' b) =>
    match op with
    | .add => some (match k with | .i64 | .i32 => .raw (.int k (a + b)) | _ => .raw (.int k (k.wrap (a + b))), k = k' ∧ (match k with | .i64 | .i32 => inK k (a + b) | _ => True))
    | .sub => some (match k with | .i64 | .i32 => .raw (.int k (a - b)) | _ => .raw (.int k (k.wrap (a - b))), k = k' ∧ (match k with | .i64 | .i32 => inK k (a - b) | _ => True))
    | .mul => some (match k with | .i64 | .i32 => .raw (.int k (a * b)) | _ => .raw (.int k (k.wrap (a * b))), k = k' ∧ (match k with | .i64 | .i32 => inK k (a * b) | _ => True))
    | .quo => some (.raw (.int k (a.tdiv b)), k = k' ∧ 0 < b ∧ inK k a)
    | .rem => some (.raw (.int k (a.tmod b)), k = k' ∧ b ≠ 0)
    | .eql => some (.raw (.bool (decide (a = b))), k = k')
    | .neq => some (.raw (.bool (!decide (a = b))), k = k')
    | .lss => some (.raw (.bool (decide (a < b))), k = k')
    | .leq => some (.raw (.bool (decide (a ≤ b))), k = k')
    | .gtr => some (.raw (.bool (decide (b < a))), k = k')
    | .geq => some (.raw (.bool (decide (b ≤ a))), k = k')
    | .and => some (.raw (.int k (bitI .and k a b)), k = k')
    | .or => some (.raw (.int k (bitI .or k a b)), k = k')
    | .xor => some (.raw (.int k (bitI .xor k a b)), k = k')
    | .andNot => some (.raw (.int k (bitI .andNot k a b)), k = k')
    | .shl => some (.raw (.int k (k.wrap (a * 2 ^ (min b.toNat k.bits)))), 0 ≤ b)
    | .shr => some (.raw (.int k (a.fdiv (2 ^ (min b.toNat k.bits)))), 0 ≤ b)
  | .raw (.string a), .raw (.string b) =>
    match op with
    | .eql => some (.raw (.bool (a.toList == b.toList)), True)
    | .neq => some (.raw (.bool (!(a.toList == b.toList))), True)
    | .add => some (.raw (.string (a ++ b)), a.size + b.size ≤ 9223372036854775807)
    | _ => none
  | _, _ => none
/-- Whether cells are equal. -/
def eqC : List CK → List AV → List AV → Option (Bool × Prop)
  | [], [], [] => some (true, True)
  | .int :: ks, .raw (.int k a) :: xs, .raw (.int k' b) :: ys => match eqC ks xs ys with
    | some (c, p) => some (decide (a = b) && c, k = k' ∧ p)
    | none => none
  | .bool :: ks, .raw (.bool a) :: xs, .raw (.bool b) :: ys => match eqC ks xs ys with
    | some (c, p) => some (decide (a = b) && c, p)
    | none => none
  | .str :: ks, .raw (.string a) :: xs, .raw (.string b) :: ys => match eqC ks xs ys with
    | some (c, p) => some (a.toList == b.toList && c, p)
    | none => none
  | _, _, _ => none
/-- The same on values. -/
def eqW : List CK → List Value → List Value → Option Bool
  | [], [], [] => some true
  | .int :: ks, .int k a :: xs, .int k' b :: ys => if k = k' then (eqW ks xs ys).map (decide (a = b) && ·) else none
  | .bool :: ks, .bool a :: xs, .bool b :: ys => (eqW ks xs ys).map (decide (a = b) && ·)
  | .str :: ks, .string a :: xs, .string b :: ys => (eqW ks xs ys).map (a.toList == b.toList && ·)
  | _, _, _ => none
def negIf (op : BinOp) (c : Bool) : Option AV :=
  match op with
  | .eql => some (.raw (.bool c))
  | .neq => some (.raw (.bool (!c)))
  | _ => none
/-- '==' and '!=' of truth values, structs and arrays. -/
def eqA2 (op : BinOp) (T : TT) (t : Nat) : AV → AV → Option (AV × Prop)
  | .raw (.bool a), .raw (.bool b) => match T t with
    | some ⟨.bool, _, _, _, _⟩ => match negIf op (decide (a = b)) with
      | some r => some (r, True)
      | none => none
    | _ => none
  | .agg xs, .agg ys => match T t with
    | some i => bif i.eq.isEmpty then none else match eqC i.eq xs ys with
      | some (c, p) => match negIf op c with
        | some r => some (r, p ∧ i.k.agg = true)
        | none => none
      | none => none
    | none => none
  | .elt _ _, .raw (.pointer none) => match T t, negIf op false with
    | some ⟨.ptr _, _, _, _, _⟩, some r => some (r, True)
    | _, _ => none
  | .box _ _, .raw (.pointer none) => match T t, negIf op false with
    | some ⟨.ptr _, _, _, _, _⟩, some r => some (r, True)
    | _, _ => none
  | .raw (.pointer none), .raw (.pointer none) => match T t, negIf op true with
    | some ⟨.ptr _, _, _, _, _⟩, some r => some (r, True)
    | _, _ => none
  | .lst _ n _, .raw (.slice none 0 0) => match T t, negIf op false with
    | some ⟨.slice _, _, _, _, _⟩, some r => some (r, 0 < n)
    | _, _ => none
  | .raw (.slice none 0 0), .raw (.slice none 0 0) => match T t, negIf op true with
    | some ⟨.slice _, _, _, _, _⟩, some r => some (r, True)
    | _, _ => none
  | _, _ => none
def unA (op : UnOp) : AV → Option (AV × Prop)
  | .raw (.bool a) => match op with
    | .not => some (.raw (.bool (!a)), True)
    | _ => none
  | .raw (.int k a) => match op with
    | .neg => some (.raw (.int k (-a)), k.wrap (-a) = -a)
    | _ => none
  | _ => none
def minA : List AV → Option (AV × Prop)
  | [.raw (.int k a), .raw (.int _ b)] => some (.raw (.int k (min a b)), True)
  | _ => none
def maxA : List AV → Option (AV × Prop)
  | [.raw (.int k a), .raw (.int _ b)] => some (.raw (.int k (max a b)), True)
  | _ => none
/-- A slice, as a list: its cells an element, its length, its elements. -/
def ASt.asL (st : ASt) : AV → Option (Nat × Nat × (Nat → List AV) × Prop)
  | .lst sz n el => some (sz, n, el, True)
  | .row k n => match st.rw[k]? with
    | some r => bif Nat.beq r.sz 0 then none else some (r.sz, r.n, r.el, n = r.n)
    | none => none
  | _ => none
def ASt.evL (st : ASt) : List Operand → Option (List Bool × List AV)
  | [] => some ([], [])
  | x :: r => match st.ev x, st.evL r with
    | some (c, v), some (cs, vs) => some (c :: cs, v :: vs)
    | _, _ => none
def lenA (T : TT) (st : ASt) (t : Nat) (x : AV) : Option (AV × Prop) :=
  match x with
  | .raw (.string s) => match T t with
    | some ⟨.str, _, _, _, _⟩ => some (.raw (.int .i64 s.size), True)
    | _ => none
  | .raw (.slice none 0 0) => match T t with
    | some ⟨.slice _, _, _, _, _⟩ => some (.raw (.int .i64 0), True)
    | _ => none
  | x => match st.asL x, T t with
    | some (_, n, _, p), some ⟨.slice _, _, _, _, _⟩ => some (.raw (.int .i64 n), p)
    | _, _ => none

def pickB (c a b : Bool) : Bool := bif c then a else b
theorem pickB_and (c a : Bool) : pickB c a false = (c && a) := by cases c <;> rfl
theorem pickB_or (c b : Bool) : pickB c true b = (c || b) := by cases c <;> rfl
theorem pickB_t (a b : Bool) : pickB true a b = a := rfl
theorem pickB_f (a b : Bool) : pickB false a b = b := rfl

def overL {α : Type} : List α → List α → List α
  | [], cs => cs
  | _ :: _, [] => []
  | u :: us, _ :: cs => u :: overL us cs
/-- A list in which some elements, from a place on, are others. -/
def putL {α : Type} : List α → Nat → List α → List α
  | cs, 0, us => overL us cs
  | [], _ + 1, _ => []
  | c :: cs, n + 1, us => c :: putL cs n us

/-- The cells of a value. -/
def cellsA : AV → List AV
  | .agg cs => cs
  | x => [x]
def AV.one (st : ASt) : AV → Prop
  | .raw v => v.oneCell' = true
  | .lst _ _ _ => True
  | .elt _ _ => True
  | .box _ _ => True
  | .fn _ _ _ => True
  | .bsl _ _ _ _ _ => True
  | .row k n => match st.rw[k]? with
    | some r => n = r.n
    | none => False
  | _ => False
def AV.oneL (st : ASt) : List AV → Prop
  | [] => True
  | x :: xs => x.one st ∧ AV.oneL st xs

/-- Where the fields of a struct lie. -/
def placesA (T : TT) : List (Nat × Nat) → Option (List (Nat × Nat))
  | [] => some []
  | f :: r => match T f.2, placesA T r with
    | some j, some ps => some ((f.1, j.size) :: ps)
    | _, _ => none
def fillA (st : ASt) (place : Nat → Option (Nat × Nat)) : List (Nat × Operand) → List AV → Option (List Bool × List AV × Prop)
  | [], cs => some ([], cs, True)
  | q :: r, cs => match place q.1, st.ev q.2 with
    | some (off, sz), some (g, v) => match fillA st place r (putL cs off (cellsA v)) with
      | some (gs, cs', p) => some (g :: gs, cs', (AV.oneL st (cellsA v) ∧ (cellsA v).length = sz ∧ off + sz ≤ cs.length) ∧ p)
      | none => none
    | _, _ => none

def byteA (s : ByteArray) (i : Nat) : Int := (s.data.toList.getD i 0).toNat
def wrapA (k : IntKind) (n : Int) : Int := match k with | .i64 | .i32 => n | _ => k.wrap n
def wrapP (k : IntKind) (n : Int) : Prop := match k with | .i64 | .i32 => inK k n | _ => True
/-- The byte that cells are. -/
def u8Of : List AV → Int
  | [.raw (.int .u8 k)] => k
  | _ => 0
def isU8 : List AV → Prop
  | [.raw (.int .u8 _)] => True
  | _ => False
def strOf (n : Nat) (el : Nat → List AV) : ByteArray := strOfNums ((List.range n).map fun i => u8Of (el i))
/-- A bound of a slice expression. -/
def optI (st : ASt) : Option Operand → Option (List Bool × Option Int)
  | none => some ([], none)
  | some x => match st.ev x with
    | some (g, .raw (.int _ i)) => some ([g], some i)
    | _ => none
def loI : Option Int → Int
  | none => 0
  | some l => l
def hiI (n : Nat) : Option Int → Int
  | none => n
  | some h => h
def cutN (n : Nat) : Option Int → Option Int → Nat
  | none, none => n
  | none, some h => h.toNat
  | some l, none => n - l.toNat
  | some l, some h => h.toNat - l.toNat
def cutE (el : Nat → List AV) : Option Int → Nat → List AV
  | none => el
  | some l => fun i => el (l.toNat + i)
/-- An operation that only computes and reads: which conditions its operands have, its value, what is to be shown. -/
def opA (T : TT) (st : ASt) (o : Op) : Option (List Bool × AV × Prop) :=
  match o with
  | .move x => match st.ev x with
    | some (g, v) => some ([g], v, True)
    | none => none
  | .assign x => match st.ev x with
    | some (g, v) => some ([g], v, True)
    | none => none
  | .nilCheck x => match st.ev x with
    | some (g, .box b off) => some ([g], .box b off, True)
    | some (g, .elt cs off) => some ([g], .elt cs off, True)
    | _ => none
  | .pick c a b => match st.ev c, st.ev a, st.ev b with
    | some (gc, .raw (.bool vc)), some (ga, .raw (.bool va)), some (gb, .raw (.bool vb)) => some ([gc], .raw (.bool (pickB vc va vb)), (vc = true → ga = true) ∧ (vc = false → gb = true))
    | _, _, _ => none
  | .load t p => match st.ev p, T t with
    | some (g, .elt cs off), some i => some ([g], cutA i.k.agg i.size cs off, 0 < i.size ∧ off + i.size ≤ cs.length)
    | some (g, .box b off), some i => match st.bx[b]? with
      | some cs => some ([g], cutA i.k.agg i.size cs off, 0 < i.size ∧ off + i.size ≤ cs.length)
      | none => none
    | _, _ => none
  | .fieldAddr s p f => match st.ev p, T s with
    | some (g, .elt cs off), some ⟨.struct fs, _, _, _, _⟩ => match fs[f]? with
      | some (fo, ft) => match T ft with
        | some j => some ([g], .elt cs (off + fo), 0 < j.size)
        | none => none
      | none => none
    | some (g, .box b off), some ⟨.struct fs, _, _, _, _⟩ => match fs[f]? with
      | some (fo, ft) => match T ft with
        | some j => some ([g], .box b (off + fo), 0 < j.size)
        | none => none
      | none => none
    | _, _ => none
  | .field s x f => match st.ev x, T s with
    | some (g, .agg cs), some ⟨.struct fs, _, _, _, _⟩ => match fs[f]? with
      | some (fo, ft) => match T ft with
        | some j => some ([g], cutA j.k.agg j.size cs fo, 0 < j.size ∧ fo + j.size ≤ cs.length)
        | none => none
      | none => none
    | _, _ => none
  | .indexAddr t x ix => match T t with
    | some ⟨.slice e, _, _, _, _⟩ => match st.ev x, st.ev ix with
      | some (g, v), some (g', .raw (.int _ i)) => match st.asL v, T e with
        | some (sz, n, el, p), some j => some ([g, g'], .elt (el i.toNat) 0, 0 ≤ i ∧ i < n ∧ j.size = sz ∧ p)
        | _, _ => none
      | _, _ => none
    | some ⟨.array n e, _, _, _, _⟩ => match st.ev x, st.ev ix, T e with
      | some (g, .elt cs off), some (g', .raw (.int _ i)), some j => some ([g, g'], .elt cs (off + i.toNat * j.size), 0 ≤ i ∧ i < n)
      | some (g, .box b off), some (g', .raw (.int _ i)), some j => some ([g, g'], .box b (off + i.toNat * j.size), 0 ≤ i ∧ i < n)
      | _, _, _ => none
    | _ => none
  | .index t x ix => match T t with
    | some ⟨.array n e, _, _, _, _⟩ => match st.ev x, st.ev ix, T e with
      | some (g, .agg cs), some (g', .raw (.int _ i)), some j => some ([g, g'], cutA j.k.agg j.size cs (i.toNat * j.size), (0 ≤ i ∧ i < n) ∧ 0 < j.size ∧ i.toNat * j.size + j.size ≤ cs.length)
      | _, _, _ => none
    | some ⟨.str, _, _, _, _⟩ => match st.ev x, st.ev ix with
      | some (g, .raw (.string s)), some (g', .raw (.int _ i)) => some ([g, g'], .raw (.int .u8 (byteA s i.toNat)), 0 ≤ i ∧ i < s.size)
      | _, _ => none
    | _ => none
  | .convert s t x => match T s, T t with
    | some _, some ⟨.int k, _, _, _, _⟩ => match st.ev x with
      | some (g, .raw (.int _ n)) => some ([g], .raw (.int k (wrapA k n)), wrapP k n)
      | _ => none
    | some ⟨.slice e, _, _, _, _⟩, some ⟨.str, _, _, _, _⟩ => match T e, st.ev x with
      | some ⟨.int .u8, _, _, _, _⟩, some (g, v) => match st.asL v with
        | some (sz, n, el, p) => some ([g], .raw (.string (strOf n el)), p ∧ sz = 1 ∧ ∀ i, i < n → isU8 (el i))
        | none => none
      | _, _ => none
    | _, _ => none
  | .slice t x lo hi none => match T t with
    | some ⟨.slice e, _, _, _, _⟩ => match st.ev x, T e, optI st lo, optI st hi with
      | some (g, v), some j, some (gl, l), some (gh, h) => match st.asL v with
        | some (sz, n, el, p) => some (g :: (gl ++ gh), .lst sz (cutN n l h) (cutE el l), (0 ≤ loI l ∧ loI l ≤ hiI n h ∧ hiI n h ≤ n) ∧ j.size = sz ∧ p)
        | none => none
      | _, _, _, _ => none
    | some ⟨.str, _, _, _, _⟩ => match st.ev x, optI st lo, optI st hi with
      | some (g, .raw (.string s)), some (gl, l), some (gh, h) => some (g :: (gl ++ gh), .raw (.string (s.extract (loI l).toNat (hiI s.size h).toNat)), 0 ≤ loI l ∧ loI l ≤ hiI s.size h ∧ hiI s.size h ≤ s.size)
      | _, _, _ => none
    | _ => none
  | .binOp op t x y _ => match st.ev x, st.ev y with
    | some (g, v), some (g', v') => match binA op v v' with
      | some (r, p) => some ([g, g'], r, p)
      | none => match eqA2 op T t v v' with
        | some (r, p) => some ([g, g'], r, p)
        | none => none
    | _, _ => none
  | .unOp op _ x => match st.ev x with
    | some (g, v) => match unA op v with
      | some (r, p) => some ([g], r, p)
      | none => none
    | none => none
  | .extract x i => match st.ev x with
    | some (g, .tup vs) => some ([g], nthA vs i, i < vs.length)
    | _ => none
  | .call c => match c.callee with
    | .builtin .len => match c.args.toList, c.argTypes.toList with
      | [x], [t] => match st.ev x with
        | some (g, v) => match lenA T st t v with
          | some (r, p) => some ([g], r, p)
          | none => none
        | none => none
      | _, _ => none
    | .builtin .min => match st.evL c.args.toList with
      | some (cs, vs) => match minA vs with
        | some (r, p) => some (cs, r, p)
        | none => none
      | none => none
    | .builtin .max => match st.evL c.args.toList with
      | some (cs, vs) => match maxA vs with
        | some (r, p) => some (cs, r, p)
        | none => none
      | none => none
    | _ => none
  | .makeFunc f first cap => match st.evL first.toList, st.evL cap.toList with
    | some (c1, v1), some (c2, v2) => some (c1 ++ c2, .fn f v1 v2, True)
    | _, _ => none
  | .build t parts => match T t with
    | some ⟨.struct fs, _, _, z, _⟩ => match placesA T fs with
      | some ps => match fillA st (fun i => ps[i]?) parts.toList (z.map .raw) with
        | some (gs, cs, p) => some (gs, .agg cs, p)
        | none => none
      | none => none
    | some ⟨.array _ e, _, _, z, _⟩ => match T e with
      | some j => match fillA st (fun i => some (i * j.size, j.size)) parts.toList (z.map .raw) with
        | some (gs, cs, p) => some (gs, .agg cs, p)
        | none => none
      | none => none
    | _ => none
  | _ => none

/- The equations of these functions, made once. -/
section made
variable (T : TT) (st : ASt)
theorem opA_move (x : Operand) : opA T st (.move x) = (match st.ev x with | some (g, v) => some ([g], v, True) | none => none) := by simp only [opA]
theorem binA_add (a b : Int) : binA .add (.raw (.int .i64 a)) (.raw (.int .i64 b)) = some (.raw (.int .i64 (a + b)), .i64 = IntKind.i64 ∧ inK .i64 (a + b)) := by simp only [binA]
theorem unA_not (a : Bool) : unA .not (.raw (.bool a)) = some (.raw (.bool (!a)), True) := by simp only [unA]
theorem lenA_made (t : Nat) (s : ByteArray) (h : T t = none) : lenA T st t (.raw (.string s)) = none := by simp only [lenA, h]
theorem minA_made (a b : Int) : minA [.raw (.int .i64 a), .raw (.int .i64 b)] = some (.raw (.int .i64 (min a b)), True) := by simp only [minA]
theorem maxA_made (a b : Int) : maxA [.raw (.int .i64 a), .raw (.int .i64 b)] = some (.raw (.int .i64 (max a b)), True) := by simp only [maxA]
theorem asL_made (sz n : Nat) (el : Nat → List AV) : st.asL (.lst sz n el) = some (sz, n, el, True) := by simp only [ASt.asL]
theorem nthA_made (x y : AV) : nthA [x, y] 1 = y := by simp only [nthA]
theorem inK_made (x : Int) : inK .i64 x = (-9223372036854775808 ≤ x ∧ x ≤ 9223372036854775807) := by simp only [inK]
end made
end Go.Proofs.YtihnjbnlbedpaaaGreatDoor
/- The abstract logic: '==' of structs and arrays of numbers, truth values and strings. -/
namespace Go.Proofs.YtihnjbnlbedpaaaGreatDoor
set_option linter.unusedVariables false
set_option linter.unusedSimpArgs false
set_option maxHeartbeats 4000000
set_option maxRecDepth 100000
open Go.RowKit

def valOf (agg : Bool) (vs : List Value) : Value := bif agg then .agg vs.toArray else (vs[0]?).getD undef
def aggT (P : Program) (t : Nat) : Bool := match P.underlying t with
  | some d => (tkOf d).agg
  | none => false
theorem eqW_len : ∀ {ks : List CK} {vs us : List Value} {b : Bool}, eqW ks vs us = some b → vs.length = ks.length ∧ us.length = ks.length := by
  intro ks
  induction ks with
  | nil => intro vs us b h; cases vs <;> cases us <;> simp only [eqW, reduceCtorEq] at h; exact ⟨rfl, rfl⟩
  | cons k ks ih =>
    intro vs us b h
    unfold eqW at h
    split at h
    · cases ‹_ :: _ = []›
    · rename_i e; cases e
      split at h
      · obtain ⟨c, hc, _⟩ := Option.map_eq_some_iff.1 h
        have := ih hc
        simp only [List.length_cons]; omega
      · cases h
    · rename_i e; cases e
      obtain ⟨c, hc, _⟩ := Option.map_eq_some_iff.1 h
      have := ih hc
      simp only [List.length_cons]; omega
    · rename_i e; cases e
      obtain ⟨c, hc, _⟩ := Option.map_eq_some_iff.1 h
      have := ih hc
      simp only [List.length_cons]; omega
    · cases h
theorem eqW_append : ∀ {k1 k2 : List CK} {vs us : List Value} {b : Bool}, eqW (k1 ++ k2) vs us = some b →
    ∃ b1 b2, eqW k1 (vs.take k1.length) (us.take k1.length) = some b1 ∧ eqW k2 (vs.drop k1.length) (us.drop k1.length) = some b2 ∧ b = (b1 && b2) := by
  intro k1
  induction k1 with
  | nil => intro k2 vs us b h; exact ⟨true, b, by simp [eqW], by simpa using h, by simp⟩
  | cons k ks ih =>
    intro k2 vs us b h
    rw [List.cons_append] at h
    unfold eqW at h
    split at h
    · cases ‹_ :: _ = []›
    · rename_i ks' k1 a xs k2 c ys e; cases e
      split at h
      · rename_i hk
        obtain ⟨c', hc, hb⟩ := Option.map_eq_some_iff.1 h
        obtain ⟨b1, b2, e1, e2, rfl⟩ := ih hc
        exact ⟨decide (a = c) && b1, b2, by simp [eqW, hk, e1], by simpa using e2, by rw [← hb, Bool.and_assoc]⟩
      · cases h
    · rename_i ks' a xs c ys e; cases e
      obtain ⟨c', hc, hb⟩ := Option.map_eq_some_iff.1 h
      obtain ⟨b1, b2, e1, e2, rfl⟩ := ih hc
      exact ⟨decide (a = c) && b1, b2, by simp [eqW, e1], by simpa using e2, by rw [← hb, Bool.and_assoc]⟩
    · rename_i ks' a xs c ys e; cases e
      obtain ⟨c', hc, hb⟩ := Option.map_eq_some_iff.1 h
      obtain ⟨b1, b2, e1, e2, rfl⟩ := ih hc
      exact ⟨a.toList == c.toList && b1, b2, by simp [eqW, e1], by simpa using e2, by rw [← hb, Bool.and_assoc]⟩
    · cases h

theorem part_val {P : Program} {t : Nat} {x : TypeInfo} (hx : P.info? t = some x) {d : TypeDesc} (hd : P.underlying t = some d) {cs : List Value} {off k : Nat} (hk : x.size = k) (hl : ((cs.drop off).take k).length = k)
    (h1 : aggT P t = false → k = 1) (w : World) : (part t cs.toArray off).run P w = .ok (valOf (aggT P t) ((cs.drop off).take k)) w := by
  have ha : (isAgg t).run P w = .ok (aggT P t) w := by
    unfold aggT
    rw [hd]
    cases d <;> simp [isAgg, underlying, program, Sem.run, hd, tkOf, TK.agg]
  have hs : (sizeOf t).run P w = .ok k w := by simp [sizeOf, typeInfo, hx, program, Sem.run, hk]
  simp only [part, Sem.run_bind, ha, Result.andThen_ok]
  cases hagg : aggT P t
  · have := h1 hagg
    subst this
    have hlen : off < cs.length := by simp at hl; omega
    have e : (cs.drop off).take 1 = [cs[off]] := by rw [List.drop_eq_getElem_cons hlen]; rfl
    simp [valOf, e, hlen]
  · simp only [if_true, Sem.run_bind, hs, Result.andThen_ok, Sem.run_pure, valOf, cond_true]
    congr 2
    simp [List.extract_eq_take_drop]

section
variable {P : Program}
def EqAt (P : Program) (n : Nat) (t : Nat) (ks : List CK) : Prop := (aggT P t = false → ks.length = 1) ∧ ∀ (d : Nat) (vs us : List Value) (b : Bool) (w : World), n ≤ d → eqW ks vs us = some b → (Op.equalIn d t (valOf (aggT P t) vs) (valOf (aggT P t) us)).run P w = .ok b w
def eqStep (P : Program) (n : Nat) (acc : Option (List CK)) (f : Field) : Option (List CK) := match acc, eqKs P n f.type, P.info? f.type with
  | some ks, some k1, some i => if f.name ≠ "_" ∧ f.offset = ks.length ∧ i.size = k1.length then some (ks ++ k1) else none
  | _, _, _ => none
theorem eqStep_none (n : Nat) : ∀ (fs : List Field), fs.foldl (eqStep P n) none = none
  | [] => rfl
  | f :: fs => by rw [List.foldl_cons, show eqStep P n none f = none from by simp [eqStep]]; exact eqStep_none n fs
theorem eqKs_und {n t : Nat} {ks : List CK} (h : eqKs P n t = some ks) : ∃ d, P.underlying t = some d := by
  cases n with
  | zero => simp [eqKs] at h
  | succ n =>
    unfold eqKs at h
    cases hd : P.underlying t with
    | none => rw [hd] at h; cases h
    | some d => exact ⟨d, rfl⟩
theorem eqFields_sound {n : Nat} (ih : ∀ (t : Nat) (ks : List CK), eqKs P n t = some ks → EqAt P n t ks) (d : Nat) (hd : n ≤ d) (xs ys : List Value) :
    ∀ (fs : List Field) (acc ks : List CK), fs.foldl (eqStep P n) (some acc) = some ks → ∃ ks1, ks = acc ++ ks1 ∧ ∀ (b : Bool) (w : World), eqW ks1 (xs.drop acc.length) (ys.drop acc.length) = some b → (Op.eqFields d xs.toArray ys.toArray fs).run P w = .ok b w
  | [], acc, ks, h => by
    simp only [List.foldl_nil, Option.some.injEq] at h
    refine ⟨[], by simp [h], fun b w hb => ?_⟩
    generalize xs.drop acc.length = u at hb
    generalize ys.drop acc.length = v at hb
    cases u <;> cases v <;> simp only [eqW, reduceCtorEq, Option.some.injEq] at hb
    subst hb
    simp [Op.eqFields]
  | f :: fs, acc, ks, h => by
    rw [List.foldl_cons] at h
    cases hst : eqStep P n (some acc) f with
    | none => rw [hst, eqStep_none] at h; cases h
    | some acc' =>
      rw [hst] at h
      unfold eqStep at hst
      split at hst
      · rename_i k0 k1 i e1 e2 e3
        cases e1
        split at hst
        · rename_i hc
          cases hst
          obtain ⟨h1, h2, h3⟩ := hc
          obtain ⟨ks2, rfl, hr⟩ := eqFields_sound ih d hd xs ys fs _ ks h
          refine ⟨k1 ++ ks2, by simp, fun b w hb => ?_⟩
          obtain ⟨b1, b2, g1, g2, rfl⟩ := eqW_append hb
          obtain ⟨i1, i2⟩ := ih _ _ e2
          obtain ⟨dd, hdd⟩ := eqKs_und e2
          have hl := eqW_len g1
          have p1 := part_val e3 hdd (cs := xs) (off := f.offset) h3 (by rw [h2]; exact hl.1) i1 w
          have p2 := part_val e3 hdd (cs := ys) (off := f.offset) h3 (by rw [h2]; exact hl.2) i1 w
          rw [h2] at p1 p2
          have p3 := i2 d _ _ _ w hd g1
          have p4 := hr b2 w (by rw [List.length_append]; simpa [List.drop_drop] using g2)
          unfold Op.eqFields
          rw [if_pos h1]
          simp only [Sem.run_bind, h2, p1, p2, p3, Result.andThen_ok]
          cases b1
          · simp
          · simp [p4]
        · cases hst
      · cases hst
theorem eqItems_sound {n e : Nat} {k1 : List CK} {x : TypeInfo} (hE : EqAt P n e k1) (hk : ∃ d, P.underlying e = some d) (hx : P.info? e = some x) (hsz : x.size = k1.length) (d : Nat) (hd : n ≤ d) (xs ys : List Value) :
    ∀ (m s : Nat) (b : Bool) (w : World), eqW (List.replicate m k1).flatten (xs.drop (s * k1.length)) (ys.drop (s * k1.length)) = some b → (Op.eqItems d e k1.length xs.toArray ys.toArray (List.range' s m)).run P w = .ok b w
  | 0, s, b, w, h => by
    simp only [List.replicate_zero, List.flatten_nil] at h
    generalize xs.drop _ = u at h
    generalize ys.drop _ = v at h
    cases u <;> cases v <;> simp only [eqW, reduceCtorEq, Option.some.injEq] at h
    subst h
    simp [Op.eqItems]
  | m + 1, s, b, w, h => by
    rw [List.replicate_succ, List.flatten_cons] at h
    obtain ⟨b1, b2, g1, g2, rfl⟩ := eqW_append h
    obtain ⟨dd, hdd⟩ := hk
    have hl := eqW_len g1
    have p1 := part_val hx hdd (cs := xs) (off := s * k1.length) hsz hl.1 hE.1 w
    have p2 := part_val hx hdd (cs := ys) (off := s * k1.length) hsz hl.2 hE.1 w
    have p3 := hE.2 d _ _ _ w hd g1
    have p4 := eqItems_sound hE ⟨dd, hdd⟩ hx hsz d hd xs ys m (s + 1) b2 w (by simpa [List.drop_drop, Nat.add_mul] using g2)
    rw [List.range'_succ]
    unfold Op.eqItems
    simp only [Sem.run_bind, p1, p2, p3, Result.andThen_ok]
    cases b1
    · simp
    · simp [p4]
theorem eqKs_sound : ∀ (n t : Nat) (ks : List CK), eqKs P n t = some ks → EqAt P n t ks := by
  intro n
  induction n with
  | zero => intro t ks h; simp [eqKs] at h
  | succ n ih =>
    intro t ks h
    unfold eqKs at h
    split at h
    · rename_i k hu
      cases h
      have ha : aggT P t = false := by simp [aggT, hu, tkOf, TK.agg]
      refine ⟨fun _ => rfl, fun d vs us b w hd hb => ?_⟩
      obtain ⟨d, rfl⟩ : ∃ d', d = d' + 1 := ⟨d - 1, by omega⟩
      unfold eqW at hb
      split at hb <;> try (cases ‹_ = ([] : List CK)›; done)
      · rename_i e; cases e
        split at hb
        · rename_i hkk
          subst hkk
          obtain ⟨c, hc, rfl⟩ := Option.map_eq_some_iff.1 hb
          have hl := eqW_len hc
          obtain rfl := List.eq_nil_of_length_eq_zero hl.1
          obtain rfl := List.eq_nil_of_length_eq_zero hl.2
          simp only [eqW, Option.some.injEq] at hc
          subst hc
          rw [ha]
          simp only [valOf, cond_false, List.getElem?_cons_zero, Option.getD_some]
          rw [run_equalIn_int w d t _ k _ _ hu]
          congr 1
          rw [Bool.eq_iff_iff]; simp
        · cases hb
      · rename_i e; cases e
      · rename_i e; cases e
      · cases hb
    · rename_i hu
      cases h
      have ha : aggT P t = false := by simp [aggT, hu, tkOf, TK.agg]
      refine ⟨fun _ => rfl, fun d vs us b w hd hb => ?_⟩
      obtain ⟨d, rfl⟩ : ∃ d', d = d' + 1 := ⟨d - 1, by omega⟩
      unfold eqW at hb
      split at hb <;> try (cases ‹_ = ([] : List CK)›; done)
      · rename_i e; cases e
      · rename_i e; cases e
        obtain ⟨c, hc, rfl⟩ := Option.map_eq_some_iff.1 hb
        have hl := eqW_len hc
        obtain rfl := List.eq_nil_of_length_eq_zero hl.1
        obtain rfl := List.eq_nil_of_length_eq_zero hl.2
        simp only [eqW, Option.some.injEq] at hc
        subst hc
        rw [ha]
        simp only [valOf, cond_false, List.getElem?_cons_zero, Option.getD_some]
        rw [run_equalIn_bool' w d t _ _ hu]
        congr 1
        rw [Bool.eq_iff_iff]; simp
      · rename_i e; cases e
      · cases hb
    · rename_i hu
      cases h
      have ha : aggT P t = false := by simp [aggT, hu, tkOf, TK.agg]
      refine ⟨fun _ => rfl, fun d vs us b w hd hb => ?_⟩
      obtain ⟨d, rfl⟩ : ∃ d', d = d' + 1 := ⟨d - 1, by omega⟩
      unfold eqW at hb
      split at hb <;> try (cases ‹_ = ([] : List CK)›; done)
      · rename_i e; cases e
      · rename_i e; cases e
      · rename_i e; cases e
        obtain ⟨c, hc, rfl⟩ := Option.map_eq_some_iff.1 hb
        have hl := eqW_len hc
        obtain rfl := List.eq_nil_of_length_eq_zero hl.1
        obtain rfl := List.eq_nil_of_length_eq_zero hl.2
        simp only [eqW, Option.some.injEq] at hc
        subst hc
        rw [ha]
        simp only [valOf, cond_false, List.getElem?_cons_zero, Option.getD_some]
        rw [run_equalIn_string w d t _ _ hu]
        simp
      · cases hb
    · rename_i fs hu
      have ha : aggT P t = true := by simp [aggT, hu, tkOf, TK.agg]
      split at h
      · cases h
      · rename_i hst
        refine ⟨(fun h => by rw [ha] at h; cases h), fun d vs us b w hd hb => ?_⟩
        obtain ⟨d, rfl⟩ : ∃ d', d = d' + 1 := ⟨d - 1, by omega⟩
        have hfo : P.fieldsOf t = fs := by simp [Program.fieldsOf, hu]
        obtain ⟨ks1, e1, e2⟩ := eqFields_sound ih d (by omega) vs us fs.toList [] ks h
        simp only [List.nil_append] at e1
        subst e1
        rw [ha]
        simp only [valOf, cond_true]
        rw [run_equalIn_struct w d t _ _ (by rw [hfo]; exact hu) (by simpa using hst), hfo]
        exact e2 b w (by simpa using hb)
    · rename_i len e hu
      have ha : aggT P t = true := by simp [aggT, hu, tkOf, TK.agg]
      split at h
      · rename_i k1 i h1 h2
        split at h
        · rename_i hsz
          cases h
          refine ⟨(fun h => by rw [ha] at h; cases h), fun d vs us b w hd hb => ?_⟩
          obtain ⟨d, rfl⟩ : ∃ d', d = d' + 1 := ⟨d - 1, by omega⟩
          rw [ha]
          simp only [valOf, cond_true]
          rw [run_equalIn_array w d _ _ hu h2, show P.cellsOf e = k1.length from by simp [Program.cellsOf, h2, hsz], List.range_eq_range']
          exact eqItems_sound (ih _ _ h1) (eqKs_und h1) h2 hsz d (by omega) vs us len 0 b w (by simpa using hb)
        · cases h
      · cases h
    · cases h
end
end Go.Proofs.YtihnjbnlbedpaaaGreatDoor
