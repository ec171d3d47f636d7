/- A logic of abstract values over the walk: what a slot holds is said by a term that names no address. -/
import Derived.WalkKit
import Derived.WalkSpells
import Derived.WalkLawsBesides
import Derived.Still
import Derived.TacticsIn
import Derived.OrdersIn
import Derived.RangeFuncIn
import Derived.RangeFuncLeaves
import Derived.RangeFuncRecord
import Derived.KernelRfl
namespace Go.Proofs.Yticlpcgkaffdmaa
set_option linter.unusedSectionVars false
set_option linter.unusedVariables false
set_option linter.unusedSimpArgs false
open Go.RowKit

/-- What a slot holds, without addresses. -/
inductive AV where
  | raw (v : Value)
  | agg (cs : List AV)
  | tup (cs : List AV)
  | lst (sz n : Nat) (el : Nat → List AV)
  | elt (cs : List AV) (off : Nat)
  | box (b off : Nat)
  | fn (f : Fn) (first cap : List AV)
  | row (k n : Nat)

/-- What the abstract values lean on: cells that nobody writes any more, the blocks of own variables, the rows that are still appended to. -/
structure Gh where
  imm : Nat → Nat → Prop
  bx : List Nat
  rw : List (Nat × Value)

mutual
def AV.rel (G : Gh) (w : World) : AV → Value → Prop
  | .raw x, v => v = x
  | .agg cs, v => ∃ vs : List Value, v = .agg vs.toArray ∧ AV.relL G w cs vs
  | .tup cs, v => ∃ vs : List Value, v = .tuple vs.toArray ∧ AV.relL G w cs vs
  | .lst sz n el, v => ∃ A cap, v = .slice A n cap ∧ n ≤ cap ∧ cap ≤ maxLen ∧ (0 < n → ∃ b o, A = some ⟨b, o, none⟩ ∧ ∀ i, i < n → ∃ vs, AV.relL G w (el i) vs ∧ vs.length = sz ∧
      ∀ j u, vs[j]? = some u → G.imm b (o + i * sz + j) ∧ w.cell? ⟨b, o + i * sz + j, none⟩ = some u)
  | .elt cs off, v => ∃ b o vs, v = .pointer (some ⟨b, o + off, none⟩) ∧ AV.relL G w cs vs ∧ ∀ j u, vs[j]? = some u → G.imm b (o + j) ∧ w.cell? ⟨b, o + j, none⟩ = some u
  | .box b off, v => ∃ blk, G.bx[b]? = some blk ∧ v = .pointer (some ⟨blk, off, none⟩)
  | .fn f first cap, v => ∃ fs cs : List Value, v = .func f fs.toArray cs.toArray ∧ AV.relL G w first fs ∧ AV.relL G w cap cs
  | .row k n, v => ∃ e, G.rw[k]? = some e ∧ n ≤ e.1 ∧ (e.1 = n → v = e.2)
def AV.relL (G : Gh) (w : World) : List AV → List Value → Prop
  | [], vs => vs = []
  | c :: cs, vs => ∃ v r, vs = v :: r ∧ AV.rel G w c v ∧ AV.relL G w cs r
end

/-- Nothing that an abstract value leans on is taken back. -/
structure Gh.Le (G : Gh) (w : World) (G' : Gh) (w' : World) : Prop where
  imm : ∀ b o, G.imm b o → G'.imm b o
  cell : ∀ b o, G.imm b o → w'.cell? ⟨b, o, none⟩ = w.cell? ⟨b, o, none⟩
  bx : ∀ (k x : Nat), G.bx[k]? = some x → G'.bx[k]? = some x
  rw : ∀ (k : Nat) (e : Nat × Value), G.rw[k]? = some e → ∃ e', G'.rw[k]? = some e' ∧ (e' = e ∨ e.1 < e'.1)

theorem Gh.Le.refl (G : Gh) (w : World) : G.Le w G w := ⟨fun _ _ h => h, fun _ _ _ => rfl, fun _ _ h => h, fun _ e h => ⟨e, h, .inl rfl⟩⟩
theorem Gh.Le.trans {G G' G'' : Gh} {w w' w'' : World} (h : G.Le w G' w') (h' : G'.Le w' G'' w'') : G.Le w G'' w'' :=
  ⟨fun b o i => h'.imm b o (h.imm b o i), fun b o i => (h'.cell b o (h.imm b o i)).trans (h.cell b o i), fun k x i => h'.bx k x (h.bx k x i), fun k e i => by
    obtain ⟨e1, h1, h2⟩ := h.rw k e i
    obtain ⟨e2, h3, h4⟩ := h'.rw k e1 h1
    refine ⟨e2, h3, ?_⟩
    rcases h2 with rfl | h2 <;> rcases h4 with rfl | h4
    · exact .inl rfl
    · exact .inr h4
    · exact .inr h2
    · exact .inr (Nat.lt_trans h2 h4)⟩

mutual
theorem AV.rel_mono {G G' : Gh} {w w' : World} (le : G.Le w G' w') : ∀ (x : AV) (v : Value), x.rel G w v → x.rel G' w' v
  | .raw _, _, h => h
  | .agg cs, _, h => by
    obtain ⟨vs, e, h⟩ := h
    exact ⟨vs, e, AV.relL_mono le cs vs h⟩
  | .tup cs, _, h => by
    obtain ⟨vs, e, h⟩ := h
    exact ⟨vs, e, AV.relL_mono le cs vs h⟩
  | .lst sz n el, _, h => by
    obtain ⟨A, cap, e, h1, h2, h3⟩ := h
    refine ⟨A, cap, e, h1, h2, fun hn => ?_⟩
    obtain ⟨b, o, hA, h4⟩ := h3 hn
    refine ⟨b, o, hA, fun i hi => ?_⟩
    obtain ⟨vs, h5, h6, h7⟩ := h4 i hi
    exact ⟨vs, AV.relL_mono le (el i) vs h5, h6, fun j u hj => ⟨le.imm _ _ (h7 j u hj).1, (le.cell _ _ (h7 j u hj).1).trans (h7 j u hj).2⟩⟩
  | .elt cs off, _, h => by
    obtain ⟨b, o, vs, e, h1, h2⟩ := h
    exact ⟨b, o, vs, e, AV.relL_mono le cs vs h1, fun j u hj => ⟨le.imm _ _ (h2 j u hj).1, (le.cell _ _ (h2 j u hj).1).trans (h2 j u hj).2⟩⟩
  | .box b off, _, h => by
    obtain ⟨blk, h1, h2⟩ := h
    exact ⟨blk, le.bx _ _ h1, h2⟩
  | .fn f first cap, _, h => by
    obtain ⟨fs, cs, e, h1, h2⟩ := h
    exact ⟨fs, cs, e, AV.relL_mono le first fs h1, AV.relL_mono le cap cs h2⟩
  | .row k n, _, h => by
    obtain ⟨e, h1, h2, h3⟩ := h
    obtain ⟨e', h4, h5⟩ := le.rw k e h1
    refine ⟨e', h4, ?_, ?_⟩
    · rcases h5 with rfl | h5
      · exact h2
      · omega
    · rcases h5 with rfl | h5
      · exact h3
      · intro h6; omega
theorem AV.relL_mono {G G' : Gh} {w w' : World} (le : G.Le w G' w') : ∀ (xs : List AV) (vs : List Value), AV.relL G w xs vs → AV.relL G' w' xs vs
  | [], _, h => h
  | x :: xs, _, h => by
    obtain ⟨v, r, e, h1, h2⟩ := h
    exact ⟨v, r, e, AV.rel_mono le x v h1, AV.relL_mono le xs r h2⟩
end

mutual
/-- No own variable and no row below the number given is needed. -/
def AV.free : AV → Prop
  | .raw _ => True
  | .agg cs => AV.freeL cs
  | .tup cs => AV.freeL cs
  | .lst _ n el => ∀ i, i < n → AV.freeL (el i)
  | .elt cs _ => AV.freeL cs
  | .box _ _ => False
  | .fn _ first cap => AV.freeL first ∧ AV.freeL cap
  | .row _ _ => False
def AV.freeL : List AV → Prop
  | [] => True
  | c :: cs => AV.free c ∧ AV.freeL cs
end

mutual
theorem AV.rel_free {G G' : Gh} {w : World} (h0 : ∀ b o, G.imm b o → G'.imm b o) : ∀ (x : AV) (v : Value), x.free → x.rel G w v → x.rel G' w v
  | .raw _, _, _, h => h
  | .agg cs, _, f, h => by
    obtain ⟨vs, e, h⟩ := h
    exact ⟨vs, e, AV.relL_free h0 cs vs f h⟩
  | .tup cs, _, f, h => by
    obtain ⟨vs, e, h⟩ := h
    exact ⟨vs, e, AV.relL_free h0 cs vs f h⟩
  | .lst sz n el, _, f, h => by
    obtain ⟨A, cap, e, h1, h2, h3⟩ := h
    refine ⟨A, cap, e, h1, h2, fun hn => ?_⟩
    obtain ⟨b, o, hA, h4⟩ := h3 hn
    refine ⟨b, o, hA, fun i hi => ?_⟩
    obtain ⟨vs, h5, h6, h7⟩ := h4 i hi
    exact ⟨vs, AV.relL_free h0 (el i) vs (f i hi) h5, h6, fun j u hj => ⟨h0 _ _ (h7 j u hj).1, (h7 j u hj).2⟩⟩
  | .elt cs off, _, f, h => by
    obtain ⟨b, o, vs, e, h1, h2⟩ := h
    exact ⟨b, o, vs, e, AV.relL_free h0 cs vs f h1, fun j u hj => ⟨h0 _ _ (h2 j u hj).1, (h2 j u hj).2⟩⟩
  | .box b off, _, f, _ => f.elim
  | .fn _ first cap, _, f, h => by
    obtain ⟨fs, cs, e, h1, h2⟩ := h
    exact ⟨fs, cs, e, AV.relL_free h0 first fs f.1 h1, AV.relL_free h0 cap cs f.2 h2⟩
  | .row k n, _, f, _ => f.elim
theorem AV.relL_free {G G' : Gh} {w : World} (h0 : ∀ b o, G.imm b o → G'.imm b o) : ∀ (xs : List AV) (vs : List Value), AV.freeL xs → AV.relL G w xs vs → AV.relL G' w xs vs
  | [], _, _, h => h
  | x :: xs, _, f, h => by
    obtain ⟨v, r, e, h1, h2⟩ := h
    exact ⟨v, r, e, AV.rel_free h0 x v f.1 h1, AV.relL_free h0 xs r f.2 h2⟩
end

theorem AV.relL_length {G : Gh} {w : World} : ∀ {xs : List AV} {vs : List Value}, AV.relL G w xs vs → vs.length = xs.length
  | [], _, h => by rw [show _ = _ from h]; rfl
  | _ :: _, _, h => by
    obtain ⟨v, r, e, _, h2⟩ := h
    rw [e]; simp [AV.relL_length h2]
theorem AV.relL_get {G : Gh} {w : World} : ∀ {xs : List AV} {vs : List Value} {j : Nat} {x : AV}, AV.relL G w xs vs → xs[j]? = some x → ∃ v, vs[j]? = some v ∧ x.rel G w v
  | y :: ys, _, j, x, h, hj => by
    obtain ⟨v, r, e, h1, h2⟩ := h
    subst e
    cases j with
    | zero => simp only [List.getElem?_cons_zero, Option.some.injEq] at hj ⊢; subst hj; exact ⟨v, rfl, h1⟩
    | succ j => simp only [List.getElem?_cons_succ] at hj ⊢; exact AV.relL_get h2 hj
theorem AV.relL_mk {G : Gh} {w : World} : ∀ {xs : List AV} {vs : List Value}, vs.length = xs.length → (∀ (j : Nat) (x : AV) (v : Value), xs[j]? = some x → vs[j]? = some v → x.rel G w v) → AV.relL G w xs vs
  | [], vs, h, _ => List.eq_nil_of_length_eq_zero (by simpa using h)
  | x :: xs, [], h, _ => by simp at h
  | x :: xs, v :: vs, h, hr => ⟨v, vs, rfl, hr 0 x v rfl rfl, AV.relL_mk (by simpa using h) fun j y u hy hu => hr (j + 1) y u (by simpa using hy) (by simpa using hu)⟩
theorem AV.relL_drop {G : Gh} {w : World} {xs : List AV} {vs : List Value} (k : Nat) (h : AV.relL G w xs vs) : AV.relL G w (xs.drop k) (vs.drop k) :=
  AV.relL_mk (by simp [AV.relL_length h]) fun j x v hx hv => by
    rw [List.getElem?_drop] at hx hv
    obtain ⟨v', h1, h2⟩ := AV.relL_get h hx
    rw [hv] at h1; cases h1; exact h2
theorem AV.relL_take {G : Gh} {w : World} {xs : List AV} {vs : List Value} (k : Nat) (h : AV.relL G w xs vs) : AV.relL G w (xs.take k) (vs.take k) :=
  AV.relL_mk (by simp [AV.relL_length h]) fun j x v hx hv => by
    rw [List.getElem?_take] at hx hv
    split at hx
    · rename_i hj
      rw [if_pos hj] at hv
      obtain ⟨v', h1, h2⟩ := AV.relL_get h hx
      rw [hv] at h1; cases h1; exact h2
    · cases hx
theorem AV.relL_append {G : Gh} {w : World} : ∀ {xs ys : List AV} {vs us : List Value}, AV.relL G w xs vs → AV.relL G w ys us → AV.relL G w (xs ++ ys) (vs ++ us)
  | [], _, _, _, h, h' => by rw [show _ = _ from h]; exact h'
  | _ :: _, _, _, _, h, h' => by
    obtain ⟨v, r, e, h1, h2⟩ := h
    subst e
    exact ⟨v, _, rfl, h1, AV.relL_append h2 h'⟩

/-! ### The state -/
structure ARow where
  e : TypeId
  sz : Nat
  n : Nat
  el : Nat → List AV

/-- nt: slots; nb: how many own variables are the caller's; sl: what slots hold; bx: own variables; rw: rows under way; ys: to which loop things are yielded, what was yielded so far, and whether no more may be. -/
structure ASt where
  nt : Nat
  nb : Nat
  sl : List (Nat × (Bool × AV))
  bx : List (List AV)
  rw : List ARow
  ys : (Nat × List (List AV)) × List (List AV) × Bool

def lookN {β : Type} (t : Nat) : List (Nat × β) → Option β
  | [] => none
  | x :: r => bif Nat.beq t x.1 then some x.2 else lookN t r
def ASt.look (st : ASt) (t : Nat) : Option (Bool × AV) := lookN t st.sl
def ASt.put (st : ASt) (d : Nat) (e : Bool × AV) : ASt := { st with sl := (d, e) :: st.sl }
def avOf : Value → AV
  | .agg cs => .agg (cs.toList.map .raw)
  | v => .raw v
def ASt.ev (st : ASt) : Operand → Option (Bool × AV)
  | .tmp t => st.look t
  | .const v => some (true, avOf v)
  | .func f => some (true, .raw (.func (.func f) #[] #[]))
  | .global _ => none

structure RowOk (G : Gh) (w : World) (r : ARow) (x : Nat × Value) : Prop where
  len : x.1 = r.n
  own : ∃ xs, w.ownsRow 0 r.e r.sz x.2 r.n xs ∧ ∀ i, i < r.n → ∃ vs, AV.relL G w (r.el i) vs ∧ vs.length = r.sz ∧ ∀ j u, vs[j]? = some u → xs[i * r.sz + j]? = some u
  imm : ∀ g, x.2.ownBlock = some g → ∀ o, G.imm g o ↔ o < r.n * r.sz

structure MSat (G : Gh) (w : World) (bx : List (List AV)) (rw : List ARow) : Prop where
  immOk : ∀ b o, G.imm b o → (w.cell? ⟨b, o, none⟩).isSome = true
  lenB : G.bx.length = bx.length
  lenR : G.rw.length = rw.length
  nodup : G.bx.Nodup
  box : ∀ (k : Nat) (cs : List AV) (blk : Nat), bx[k]? = some cs → G.bx[k]? = some blk → (∀ o, ¬ G.imm blk o) ∧ ∃ (vs : List Value) (T : TypeId), w.heap[blk]? = some (.cells vs.toArray T (0, 0)) ∧ AV.relL G w cs vs
  row : ∀ (k : Nat) (r : ARow) (x : Nat × Value), rw[k]? = some r → G.rw[k]? = some x → RowOk G w r x
  sepB : ∀ (k : Nat) (x : Nat × Value) (g : Nat), G.rw[k]? = some x → x.2.ownBlock = some g → g ∉ G.bx
  sepR : ∀ (k k' : Nat) (x x' : Nat × Value) (g : Nat), G.rw[k]? = some x → G.rw[k']? = some x' → x.2.ownBlock = some g → x'.2.ownBlock = some g → k = k'

/-- Nothing but some blocks was changed. -/
structure Outside (D : Nat → Prop) (w w' : World) : Prop where
  os : w'.os = w.os
  tape : w'.tape = w.tape
  output : w'.output = w.output
  size : w.heap.size ≤ w'.heap.size
  block : ∀ k, k < w.heap.size → ¬ D k → w'.heap[k]? = w.heap[k]?
theorem Outside.refl (D : Nat → Prop) (w : World) : Outside D w w := ⟨rfl, rfl, rfl, Nat.le_refl _, fun _ _ _ => rfl⟩
theorem Outside.trans {D : Nat → Prop} {a b c : World} (h : Outside D a b) (k : Outside D b c) : Outside D a c :=
  ⟨k.os.trans h.os, k.tape.trans h.tape, k.output.trans h.output, Nat.le_trans h.size k.size, fun i hi hd => (k.block i (Nat.lt_of_lt_of_le hi h.size) hd).trans (h.block i hi hd)⟩
theorem Outside.of_below {D : Nat → Prop} {w w' : World} (h : Below w.heap.size w w') : Outside D w w' := ⟨h.os, h.tape, h.output, h.size, fun k hk _ => h.block k hk⟩

/-- The walk of a body, or of a round of a range over a function. -/
def fen (r : Option Nat) : Fence := { fn := fun _ => True, depth := none, alive := false, round := r }
theorem callsIn_fen {r : Option Nat} {n : Nat} {P : Program} {f : FuncId} {args : Array Value} {w : World} {R : Ending → World → Prop} (h : Calls P f args w R) : CallsIn (fen r) n P f args w R := by
  cases r with
  | none => exact callsIn_wide.2 h
  | some l => exact (callsIn_wide.2 h : CallsIn Fence.wide n P f args w R)

/-- What whoever ranges has: after such items; whether he wants no more; cells that nobody writes any more; the blocks that are his. -/
abbrev Env := List (List AV) → Bool → (Nat → Nat → Prop) → (Nat → Prop) → World → Prop
def StableW (W : Env) : Prop := ∀ (h : List (List AV)) (s : Bool) (I I' : Nat → Nat → Prop) (D : Nat → Prop) (w w' : World), W h s I D w → Outside (fun k => ¬ D k) w w' → (∀ b o, I b o → I' b o ∧ w'.cell? ⟨b, o, none⟩ = w.cell? ⟨b, o, none⟩) → W h s I' D w'
theorem Outside.mono {D D' : Nat → Prop} {w w' : World} (h : Outside D w w') (hd : ∀ k, k < w.heap.size → D k → D' k) : Outside D' w w' := ⟨h.os, h.tape, h.output, h.size, fun k hk hn => h.block k hk fun hD => hn (hd k hk hD)⟩
/-- What yielding does: whoever ranges goes on from what was yielded before, changes his own blocks alone, and says whether there may be more. -/
def YOk (P : Program) (l : Nat × List (List AV)) (I0 : Nat → Nat → Prop) (W : Env) : Prop :=
  ∀ (ro : Option Nat) (h : List (List AV)) (item : List AV) (I : Nat → Nat → Prop) (D : Nat → Prop) (w : World) (vs : List Value), W h false I D w → (h ++ [item]) <+: l.2 → (∀ k, D k → k < w.heap.size) → (∀ b o, I b o → (w.cell? ⟨b, o, none⟩).isSome = true ∧ (I0 b o ∨ ¬ D b)) → (∀ b o, I0 b o → I b o) → AV.relL ⟨I, [], []⟩ w item vs →
    ∃ f tmps assign body, (Instr.yield l.1 vs.toArray).run P w = .ok (.round l.1 f tmps assign body) w ∧
      RoundIn (fen ro) 0 P l.1 f tmps assign body w fun e w' => ∃ b D', e = .returned (.bool b) ∧ W (h ++ [item]) (!b) I D' w' ∧ Outside D w w' ∧ (∀ b o, I b o → w'.cell? ⟨b, o, none⟩ = w.cell? ⟨b, o, none⟩) ∧ (∀ k, D' k → (D k ∨ w.heap.size ≤ k) ∧ k < w'.heap.size)

/-- In what surroundings code is walked. -/
structure Ctx (P : Program) where
  round : Option Nat
  l : Nat × List (List AV)
  D : Nat → Prop
  W : Env
  I0 : Nat → Nat → Prop
  G0 : Gh
  w0 : World
  base : ∀ b o, I0 b o → G0.imm b o
  stable : StableW W
  y : YOk P l I0 W
/-- The blocks that may be changed. -/
def Ctx.may {P : Program} (C : Ctx P) (k : Nat) : Prop := C.D k ∨ k ∈ C.G0.bx ∨ ∃ x ∈ C.G0.rw, x.2.ownBlock = some k

def mark (m : Nat) : Deferred := { target := .collected m, args := #[] }
/-- What belongs to whoever ranges, and the marks of loops. -/
structure EnvD {P : Program} (C : Ctx P) (G : Gh) (ds : List Deferred) (ys : (Nat × List (List AV)) × List (List AV) × Bool) (D : Nat → Prop) (w : World) : Prop where
  l : C.l = ys.1
  cons : C.W ys.2.1 ys.2.2 G.imm D w
  sub : ∀ k, D k → C.D k ∨ C.w0.heap.size ≤ k
  lt : ∀ k, D k → k < w.heap.size
  bx : ∀ k ∈ G.bx, ¬ D k
  rw : ∀ x ∈ G.rw, ∀ g, x.2.ownBlock = some g → ¬ D g
  imm : ∀ b o, G.imm b o → C.I0 b o ∨ ¬ D b
  marks : ∃ l : List Nat, ds = l.map mark ∧ l.Nodup ∧ ∀ m ∈ l, w.heap[m]? = some (.deferred (some [])) ∧ ¬ D m ∧ C.w0.heap.size ≤ m
  record : ∀ r, C.round = some r → (∃ L, w.heap[r]? = some (.loop L)) ∧ ¬ D r

structure Sat {P : Program} (C : Ctx P) (G : Gh) (a : Act) (w : World) (st : ASt) : Prop where
  size : a.tmps.size = st.nt
  callers : C.G0.bx.length = st.nb
  frame : Outside C.may C.w0 w
  le : C.G0.Le C.w0 G w
  fresh : ∀ b o, G.imm b o → C.G0.imm b o ∨ C.w0.heap.size ≤ b ∨ ∃ x ∈ C.G0.rw, x.2.ownBlock = some b
  ownB : ∀ blk ∈ G.bx, blk ∈ C.G0.bx ∨ C.w0.heap.size ≤ blk
  ownR : ∀ x ∈ G.rw, ∀ g, x.2.ownBlock = some g → (∃ y ∈ C.G0.rw, y.2.ownBlock = some g) ∨ C.w0.heap.size ≤ g
  env : ∃ D, EnvD C G a.defers st.ys D w
  mem : MSat G w st.bx st.rw
  slot : ∀ t c x, st.look t = some (c, x) → ∃ v, a.tmps[t]? = some v ∧ (c = true → x.rel G w v) ∧ (c = false → v = undef)

/-- The post of a piece of code, brought down to the walk's. -/
def down {P : Program} (C : Ctx P) (Q : Exit → ASt → Prop) (e : Exit) (a : Act) (w : World) : Prop := ∃ G st, Sat C G a w st ∧ Q e st
def wpA (P : Program) (c : Code) (Q : Exit → ASt → Prop) (st : ASt) : Prop := ∀ (C : Ctx P) G a w, Sat C G a w st → c.wpIn (fen C.round) 0 P (down C Q) a w

/-- What is known may be forgotten, or said otherwise. -/
def Weak (st st' : ASt) : Prop := ∀ (P : Program) (C : Ctx P) G a w, Sat C G a w st → ∃ G', Sat C G' a w st'
theorem Weak.refl (st : ASt) : Weak st st := fun _ _ G _ _ h => ⟨G, h⟩
theorem Weak.trans {a b c : ASt} (h : Weak a b) (h' : Weak b c) : Weak a c := fun P C G x w hs => let ⟨_, h1⟩ := h P C G x w hs; h' P C _ x w h1
theorem wpA_weak {P : Program} {c : Code} {Q : Exit → ASt → Prop} {st st' : ASt} (h : Weak st st') (hw : wpA P c Q st') : wpA P c Q st :=
  fun C G a w hs => let ⟨G', h1⟩ := h P C G a w hs; hw C G' a w h1

section rules
variable {P : Program} {Q : Exit → ASt → Prop} {st : ASt}

theorem wpA_skip (h : Q .normal st) : wpA P .skip Q st := fun _ G _ _ hs => wpIn_skip ⟨G, st, hs, h⟩
theorem wpA_label {l : Nat} (h : Q .normal st) : wpA P (.label l) Q st := fun _ G _ _ hs => wpIn_label ⟨G, st, hs, h⟩
theorem wpA_exit {id : Nat} (h : Q (.exit id) st) : wpA P (.exit id) Q st := fun _ G _ _ hs => wpIn_exit ⟨G, st, hs, h⟩
theorem wpA_ret (h : Q .ret st) : wpA P .ret Q st := fun _ G _ _ hs => wpIn_ret ⟨G, st, hs, h⟩

def thenA (k : ASt → Prop) (Q : Exit → ASt → Prop) : Exit → ASt → Prop
  | .normal, st => k st
  | e, st => Q e st
def inBlockA (id : Nat) (Q : Exit → ASt → Prop) : Exit → ASt → Prop
  | .exit id', st => bif Nat.beq id' id then Q .normal st else Q (.exit id') st
  | e, st => Q e st

theorem wpA_mono {c : Code} {Q' : Exit → ASt → Prop} (h : wpA P c Q st) (hq : ∀ e st, Q e st → Q' e st) : wpA P c Q' st :=
  fun C G a w hs => wpIn_mono (h C G a w hs) fun _ _ _ ⟨G', st', h1, h2⟩ => ⟨G', st', h1, hq _ _ h2⟩

theorem wpA_seq {x y : Code} (h : ∀ K : ASt → Prop, (∀ s, wpA P y Q s → K s) → wpA P x (thenA K Q) st) : wpA P (.seq x y) Q st := by
  intro C G a w hs
  refine wpIn_seq (wpIn_mono (h (fun s => wpA P y Q s) (fun _ h => h) C G a w hs) ?_)
  rintro e a' w' ⟨G', st', h1, h2⟩
  cases e with
  | normal => exact h2 C G' a' w' h1
  | _ => exact ⟨G', st', h1, h2⟩

theorem wpA_block {id : Nat} {c : Code} (h : wpA P c (inBlockA id Q) st) : wpA P (.block id c) Q st := by
  intro C G a w hs
  refine wpIn_block (wpIn_mono (h C G a w hs) ?_)
  rintro e a' w' ⟨G', st', h1, h2⟩
  cases e with
  | exit id' =>
    simp only [Exit.inBlock, inBlockA] at h2 ⊢
    by_cases hid : id' = id
    · subst hid
      simp only [Nat.beq_eq_true_eq, cond_true, ite_true, Nat.beq_refl] at h2 ⊢
      exact ⟨G', st', h1, h2⟩
    · have : Nat.beq id' id = false := by
        cases hb : Nat.beq id' id
        · rfl
        · exact absurd (Nat.eq_of_beq_eq_true hb) hid
      rw [this] at h2
      rw [if_neg hid]
      exact ⟨G', st', h1, h2⟩
  | _ => exact ⟨G', st', h1, h2⟩

theorem wpA_cond {x y : Code} {c : Operand} {b : Bool} (hc : st.ev c = some (true, .raw (.bool b))) (ht : b = true → wpA P x Q st) (hf : b = false → wpA P y Q st) : wpA P (.cond c x y) Q st := by
  intro C G a w hs
  have he : a.eval c = .bool b := by
    cases c with
    | tmp t =>
      obtain ⟨v, h1, h2, _⟩ := hs.slot t _ _ hc
      have := h2 rfl
      simp only [AV.rel] at this
      simp [Act.eval, Array.getD_eq_getD_getElem?, h1, this]
    | const v =>
      simp only [ASt.ev, Option.some.injEq, Prod.mk.injEq, true_and] at hc
      cases v <;> simp [avOf] at hc
      subst hc; rfl
    | global g => simp [ASt.ev] at hc
    | func f => simp [ASt.ev] at hc
  refine wpIn_cond_split he (fun hb => ht hb C G a w hs) (fun hb => hf hb C G a w hs)

/-- A loop: a family of states, with a number that falls. -/
theorem wpA_loop {ι : Type} {c : Code} (I : ι → ASt) (ok : ι → Prop) (μ : ι → Nat) (i0 : ι) (h0 : Weak st (I i0)) (hok : ok i0)
    (round : ∀ i, ok i → wpA P c (thenA (fun s => ∃ j, ok j ∧ μ j < μ i ∧ Weak s (I j)) Q) (I i)) : wpA P (.loop c) Q st := by
  intro C G a w hs
  obtain ⟨G0, hs0⟩ := h0 P C G a w hs
  clear hs h0
  intro b k cs hro hb hr
  have key : ∀ n i, μ i = n → ok i → ∀ G a w, Sat C G a w (I i) →
      ∃ e a' w', down C Q e a' w' ∧ ArrivesIn (Machine.fenced P (fen C.round)) P (lone (b.atR a (.code c :: .inLoop c :: k)) cs w) b k cs e a' w' := by
    intro n
    induction n using Nat.strongRecOn with
    | _ n ih =>
      intro i hn hi G a w hs
      obtain ⟨e, a1, w1, ⟨G1, s1, hs1, hq⟩, harr⟩ := round i hi C G a w hs b (.inLoop c :: k) cs hro hb hr
      cases e with
      | normal =>
        obtain ⟨j, hj, hlt, hw⟩ := hq
        obtain ⟨G2, hs2⟩ := hw P C G1 a1 w1 hs1
        obtain ⟨e2, a2, w2, hq2, harr2⟩ := ih (μ j) (hn ▸ hlt) j rfl hj G2 a1 w1 hs2
        exact ⟨e2, a2, w2, hq2, .of_steps (StepsIn.trans harr (.one (fenced_calm hb hr rfl) stepR_inLoop)) harr2⟩
      | exit id => exact ⟨_, a1, w1, ⟨G1, s1, hs1, hq⟩, .pass (x := .inLoop c) rfl (fun _ _ => .inl (by simp)) harr⟩
      | goto l => exact ⟨_, a1, w1, ⟨G1, s1, hs1, hq⟩, .pass (x := .inLoop c) rfl (fun _ _ => .inl (by simp)) harr⟩
      | ret => exact ⟨_, a1, w1, ⟨G1, s1, hs1, hq⟩, .pass (x := .inLoop c) rfl (fun _ _ => .inl (by simp)) harr⟩
      | panic ch => exact ⟨_, a1, w1, ⟨G1, s1, hs1, hq⟩, .pass (x := .inLoop c) rfl (fun _ _ => .inl (by simp)) harr⟩
      | outgrown => exact ⟨_, a1, w1, ⟨G1, s1, hs1, hq⟩, .pass (x := .inLoop c) rfl (fun _ _ => .inl (by simp)) harr⟩
  obtain ⟨e, a', w', hq, harr⟩ := key _ i0 rfl hok G0 a w hs0
  exact ⟨e, a', w', hq, .of_steps (.one (fenced_calm hb hr rfl) stepR_loop) harr⟩
end rules
end Go.Proofs.Yticlpcgkaffdmaa
