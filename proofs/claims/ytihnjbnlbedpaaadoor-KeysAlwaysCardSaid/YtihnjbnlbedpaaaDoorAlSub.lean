/- The abstract logic: what may stand for what; forgetting, in general; lists of things. -/
import Derived.Test.YtihnjbnlbedpaaaDoorAlR2
namespace Go.Proofs.YtihnjbnlbedpaaaDoor
set_option linter.unusedVariables false
set_option linter.unusedSimpArgs false
set_option maxHeartbeats 4000000
set_option maxRecDepth 100000
open Go.RowKit
/-- Whatever is x is y too. -/
def Sim (x y : AV) : Prop := ∀ (G : Gh) (w : World) (v : Value), x.rel G w v → y.rel G w v
def SimL : List AV → List AV → Prop
  | [], [] => True
  | x :: xs, y :: ys => Sim x y ∧ SimL xs ys
  | _, _ => False
theorem Sim.refl (x : AV) : Sim x x := fun _ _ _ h => h
theorem Sim.of_eq {x y : AV} (h : x = y) : Sim x y := h ▸ Sim.refl x
theorem SimL.refl : ∀ (xs : List AV), SimL xs xs
  | [] => trivial
  | x :: xs => ⟨Sim.refl x, SimL.refl xs⟩
theorem SimL.of_eq {xs ys : List AV} (h : xs = ys) : SimL xs ys := h ▸ SimL.refl xs
theorem SimL.rel {G : Gh} {w : World} : ∀ {xs ys : List AV} {vs : List Value}, SimL xs ys → AV.relL G w xs vs → AV.relL G w ys vs
  | [], [], _, _, h => h
  | x :: xs, y :: ys, _, s, ⟨v, r, e, h1, h2⟩ => ⟨v, r, e, s.1 _ _ _ h1, SimL.rel s.2 h2⟩
  | [], _ :: _, _, s, _ => s.elim
  | _ :: _, [], _, s, _ => s.elim
theorem Sim.lst {sz n n' : Nat} {el el' : Nat → List AV} (hn : n = n') (h : ∀ i, i < n → SimL (el i) (el' i)) : Sim (.lst sz n el) (.lst sz n' el') := by
  subst hn
  rintro G w v ⟨A, cap, e1, e2, e3, e4⟩
  refine ⟨A, cap, e1, e2, e3, fun hn => ?_⟩
  obtain ⟨b, o, e5, e6⟩ := e4 hn
  refine ⟨b, o, e5, fun i hi => ?_⟩
  obtain ⟨vs, h1, h2⟩ := e6 i hi
  exact ⟨vs, (h i hi).rel h1, h2⟩
theorem Sim.lstE {sz n n' : Nat} {el el' : Nat → List AV} (hn : n = n') (h : ∀ i, i < n → el i = el' i) : Sim (.lst sz n el) (.lst sz n' el') := Sim.lst hn fun i hi => .of_eq (h i hi)
theorem Sim.nil {sz n : Nat} {el : Nat → List AV} (hn : n = 0) : Sim (.raw (.slice none 0 0)) (.lst sz n el) := by
  subst hn
  rintro G w v rfl
  exact ⟨none, 0, rfl, Nat.le_refl _, Nat.zero_le _, fun h => absurd h (Nat.lt_irrefl _)⟩
theorem Sim.agg {xs ys : List AV} (h : SimL xs ys) : Sim (.agg xs) (.agg ys) := fun _ _ _ ⟨vs, e, h1⟩ => ⟨vs, e, h.rel h1⟩
theorem Sim.tup {xs ys : List AV} (h : SimL xs ys) : Sim (.tup xs) (.tup ys) := fun _ _ _ ⟨vs, e, h1⟩ => ⟨vs, e, h.rel h1⟩
theorem Sim.elt {xs ys : List AV} {o : Nat} (h : SimL xs ys) : Sim (.elt xs o) (.elt ys o) := fun _ _ _ ⟨b, p, vs, e, h1, h2⟩ => ⟨b, p, vs, e, h.rel h1, h2⟩
theorem Sim.fn {f : Fn} {xs ys xs' ys' : List AV} (h : SimL xs ys) (h' : SimL xs' ys') : Sim (.fn f xs xs') (.fn f ys ys') := fun _ _ _ ⟨fs, cs, e, h1, h2⟩ => ⟨fs, cs, e, h.rel h1, h'.rel h2⟩
theorem Sim.trans {x y z : AV} (h : Sim x y) (h' : Sim y z) : Sim x z := fun _ _ _ r => h' _ _ _ (h _ _ _ r)
theorem FnA.sim {P : Program} {f : FuncId} {args args' : List AV} {r : AV} (h : FnA P f args' r) (hs : SimL args args') : FnA P f args r :=
  ⟨h.ok, fun imm w vs ht hi hr => h.calls imm w vs ht hi (hs.rel hr)⟩
theorem FnA.res {P : Program} {f : FuncId} {args : List AV} {r r' : AV} (h : FnA P f args r) (hs : Sim r r') : FnA P f args r' :=
  ⟨h.ok, fun imm w vs ht hi hr => (h.calls imm w vs ht hi hr).mono fun _ _ ⟨v, i', e, h1, h2, h3, h4, h5⟩ => ⟨v, i', e, h1, h2, h3, h4, hs _ _ _ h5⟩⟩
theorem OutOk.sim {st : ASt} {x r r' : AV} (h : OutOk st x r) (hs : Sim r r') : OutOk st x r' := fun G w v hm hr => hs _ _ _ (h G w v hm hr)
theorem OutOk.simF {st : ASt} {x r : AV} (hs : Sim x r) (h : x.free) : OutOk st x r := (OutOk.free h).sim hs

/-! ### Lists of things -/
/-- The elements of a list, by the cells of each. -/
def els {α : Type} [Inhabited α] (enc : α → List AV) (l : List α) (i : Nat) : List AV := enc (l.getD i default)
def lA {α : Type} [Inhabited α] (sz : Nat) (enc : α → List AV) (l : List α) : AV := .lst sz l.length (els enc l)
theorem els_lt {α : Type} [Inhabited α] {enc : α → List AV} {l : List α} {i : Nat} (h : i < l.length) : els enc l i = enc l[i] := by simp [els, h]
theorem els_append {α : Type} [Inhabited α] {enc : α → List AV} {l l' : List α} {n i : Nat} (hn : l.length = n) : appEl n (els enc l) (els enc l') i = els enc (l ++ l') i := by
  subst hn
  by_cases h : i < l.length
  · rw [appEl_lt h]; simp [els, List.getElem?_append_left h]
  · rw [appEl_ge (by omega)]; simp [els, List.getElem?_append_right (show l.length ≤ i by omega)]
theorem appEl_els {α : Type} [Inhabited α] {enc : α → List AV} {l l' : List α} {n : Nat} (hn : n = l.length) : appEl n (els enc l) (els enc l') = els enc (l ++ l') := funext fun i => els_append hn.symm
theorem els_snoc {α : Type} [Inhabited α] {enc : α → List AV} {l : List α} {x : α} {n i : Nat} {el : Nat → List AV} (hn : l.length = n) (hi : i < n + 1) (h : el 0 = enc x) : appEl n (els enc l) el i = els enc (l ++ [x]) i := by
  subst hn
  by_cases h' : i < l.length
  · rw [appEl_lt h']; simp [els, List.getElem?_append_left h']
  · rw [appEl_ge (by omega), show i - l.length = 0 from by omega, h]; simp [els, List.getElem?_append_right (show l.length ≤ i by omega), show i - l.length = 0 from by omega]
theorem lA_free {α : Type} [Inhabited α] {sz : Nat} {enc : α → List AV} (h : ∀ x, AV.freeL (enc x)) (l : List α) : (lA sz enc l).free := fun _ _ => h _
theorem lA_bel {α : Type} [Inhabited α] {sz m : Nat} {enc : α → List AV} (h : ∀ x, AV.belL m (enc x)) (l : List α) : (lA sz enc l).bel m := fun _ _ => h _
theorem lA_sub {α : Type} [Inhabited α] {sz m n : Nat} {enc : α → List AV} (h : ∀ x, AV.subL m n (enc x)) (l : List α) : (lA sz enc l).sub m n := fun _ _ => h _
/-- Integers. -/
def iC (n : Int) : List AV := [.raw (.int .i64 n)]
def kC (k : IntKind) (n : Int) : List AV := [.raw (.int k n)]
def bC (b : Bool) : List AV := [.raw (.bool b)]
abbrev liA (l : List Int) : AV := lA 1 iC l

mutual
/-- What is free stands on no variable and no row. -/
theorem AV.sub_free {m n : Nat} : ∀ (x : AV), x.free → x.sub m n
  | .raw _, _ => trivial
  | .agg cs, h => AV.subL_free cs h
  | .tup cs, h => AV.subL_free cs h
  | .lst _ _ el, h => fun i hi => AV.subL_free (el i) (h i hi)
  | .elt cs _, h => AV.subL_free cs h
  | .box _ _, h => h.elim
  | .fn _ a b, h => ⟨AV.subL_free a h.1, AV.subL_free b h.2⟩
  | .row _ _, h => h.elim
  | .bsl _ _ _ _ _, h => h.elim
theorem AV.subL_free {m n : Nat} : ∀ (xs : List AV), AV.freeL xs → AV.subL m n xs
  | [], _ => trivial
  | x :: xs, h => ⟨AV.sub_free x h.1, AV.subL_free xs h.2⟩
end
mutual
theorem AV.bel_free {m : Nat} : ∀ (x : AV), x.free → x.bel m
  | .raw _, _ => trivial
  | .agg cs, h => AV.belL_free cs h
  | .tup cs, h => AV.belL_free cs h
  | .lst _ _ el, h => fun i hi => AV.belL_free (el i) (h i hi)
  | .elt cs _, h => AV.belL_free cs h
  | .box _ _, h => h.elim
  | .fn _ a b, h => ⟨AV.belL_free a h.1, AV.belL_free b h.2⟩
  | .row _ _, h => h.elim
  | .bsl _ _ _ _ _, h => h.elim
theorem AV.belL_free {m : Nat} : ∀ (xs : List AV), AV.freeL xs → AV.belL m xs
  | [], _ => trivial
  | x :: xs, h => ⟨AV.bel_free x h.1, AV.belL_free xs h.2⟩
end
mutual
theorem AV.rel_sub {G G' : Gh} {w : World} {m n : Nat} (h0 : ∀ b o, G.imm b o → G'.imm b o) (hb : ∀ (k x : Nat), k < m → G.bx[k]? = some x → G'.bx[k]? = some x) (hr : ∀ (k : Nat) (e : Nat × Value), k < n → G.rw[k]? = some e → G'.rw[k]? = some e) : ∀ (x : AV) (v : Value), x.sub m n → x.rel G w v → x.rel G' w v
  | .raw _, _, _, h => h
  | .agg cs, _, f, ⟨vs, e, h⟩ => ⟨vs, e, AV.relL_sub h0 hb hr cs vs f h⟩
  | .tup cs, _, f, ⟨vs, e, h⟩ => ⟨vs, e, AV.relL_sub h0 hb hr cs vs f h⟩
  | .lst sz n el, _, f, h => by
    obtain ⟨A, cap, e, h1, h2, h3⟩ := h
    refine ⟨A, cap, e, h1, h2, fun hn => ?_⟩
    obtain ⟨b, o, hA, h4⟩ := h3 hn
    refine ⟨b, o, hA, fun i hi => ?_⟩
    obtain ⟨vs, h5, h6, h7⟩ := h4 i hi
    exact ⟨vs, AV.relL_sub h0 hb hr (el i) vs (f i hi) h5, h6, fun j u hj => ⟨h0 _ _ (h7 j u hj).1, (h7 j u hj).2⟩⟩
  | .elt cs off, _, f, h => by
    obtain ⟨b, o, vs, e, h1, h2⟩ := h
    exact ⟨b, o, vs, e, AV.relL_sub h0 hb hr cs vs f h1, fun j u hj => ⟨h0 _ _ (h2 j u hj).1, (h2 j u hj).2⟩⟩
  | .box b off, _, f, h => by
    obtain ⟨blk, h1, h2⟩ := h
    exact ⟨blk, hb _ _ f h1, h2⟩
  | .fn _ first cap, _, f, h => by
    obtain ⟨fs, cs, e, h1, h2⟩ := h
    exact ⟨fs, cs, e, AV.relL_sub h0 hb hr first fs f.1 h1, AV.relL_sub h0 hb hr cap cs f.2 h2⟩
  | .row k n, _, f, h => by
    obtain ⟨e, h1, h2⟩ := h
    exact ⟨e, hr _ _ f h1, h2⟩
  | .bsl _ b off n cap, _, f, h => by
    obtain ⟨blk, A, h1, h2⟩ := h
    exact ⟨blk, A, hb _ _ f h1, h2⟩
theorem AV.relL_sub {G G' : Gh} {w : World} {m n : Nat} (h0 : ∀ b o, G.imm b o → G'.imm b o) (hb : ∀ (k x : Nat), k < m → G.bx[k]? = some x → G'.bx[k]? = some x) (hr : ∀ (k : Nat) (e : Nat × Value), k < n → G.rw[k]? = some e → G'.rw[k]? = some e) : ∀ (xs : List AV) (vs : List Value), AV.subL m n xs → AV.relL G w xs vs → AV.relL G' w xs vs
  | [], _, _, h => h
  | x :: xs, _, f, h => by
    obtain ⟨v, r, e, h1, h2⟩ := h
    exact ⟨v, r, e, AV.rel_sub h0 hb hr x v f.1 h1, AV.relL_sub h0 hb hr xs r f.2 h2⟩
end

/-! ### Forgetting -/
/-- Whatever is x is y too, with such variables and rows. -/
def Sims (bx : List (List AV)) (rw : List ARow) (x y : AV) : Prop := ∀ (G : Gh) (w : World) (v : Value), MSat G w bx rw → x.rel G w v → y.rel G w v
def SimsL (bx : List (List AV)) (rw : List ARow) : List AV → List AV → Prop
  | [], [] => True
  | x :: xs, y :: ys => Sims bx rw x y ∧ SimsL bx rw xs ys
  | _, _ => False
section sims
variable {bx : List (List AV)} {rw : List ARow}
theorem Sim.s {x y : AV} (h : Sim x y) : Sims bx rw x y := fun _ _ _ _ hr => h _ _ _ hr
theorem Sims.refl (x : AV) : Sims bx rw x x := (Sim.refl x).s
theorem Sims.of_eq {x y : AV} (h : x = y) : Sims bx rw x y := (Sim.of_eq h).s
theorem Sims.int {k : IntKind} {a b : Int} (h : a = b) : Sims bx rw (.raw (.int k a)) (.raw (.int k b)) := .of_eq (h ▸ rfl)
theorem Sims.bool {a b : Bool} (h : a = b) : Sims bx rw (.raw (.bool a)) (.raw (.bool b)) := .of_eq (h ▸ rfl)
theorem Sims.rowN {k a b : Nat} (h : a = b) : Sims bx rw (.row k a) (.row k b) := .of_eq (h ▸ rfl)
theorem Sims.row {k n : Nat} {r : ARow} {sz m : Nat} {el : Nat → List AV} (h : rw[k]? = some r) (h1 : n = r.n) (h2 : r.sz = sz) (h3 : r.n = m) (h4 : ∀ i, i < m → r.el i = el i) : Sims bx rw (.row k n) (.lst sz m el) := by
  subst h2; subst h3
  intro G w v hm hr
  exact Sim.lstE rfl h4 _ _ _ (asL_sound (st := ⟨0, 0, [], bx, rw, ((0, []), [], true)⟩) hm (v := .row k n) (by simp only [ASt.asL, h]) h1 hr)
theorem SimsL.refl : ∀ (xs : List AV), SimsL bx rw xs xs
  | [] => trivial
  | x :: xs => ⟨Sims.refl x, SimsL.refl xs⟩
theorem SimsL.of_eq {xs ys : List AV} (h : xs = ys) : SimsL bx rw xs ys := h ▸ SimsL.refl xs
theorem SimsL.rel {G : Gh} {w : World} (hm : MSat G w bx rw) : ∀ {xs ys : List AV} {vs : List Value}, SimsL bx rw xs ys → AV.relL G w xs vs → AV.relL G w ys vs
  | [], [], _, _, h => h
  | x :: xs, y :: ys, _, s, ⟨v, r, e, h1, h2⟩ => ⟨v, r, e, s.1 _ _ _ hm h1, SimsL.rel hm s.2 h2⟩
  | [], _ :: _, _, s, _ => s.elim
  | _ :: _, [], _, s, _ => s.elim
theorem Sims.agg {xs ys : List AV} (h : SimsL bx rw xs ys) : Sims bx rw (.agg xs) (.agg ys) := fun _ _ _ hm ⟨vs, e, h1⟩ => ⟨vs, e, h.rel hm h1⟩
theorem Sims.tup {xs ys : List AV} (h : SimsL bx rw xs ys) : Sims bx rw (.tup xs) (.tup ys) := fun _ _ _ hm ⟨vs, e, h1⟩ => ⟨vs, e, h.rel hm h1⟩
theorem Sims.fn {f : Fn} {xs ys xs' ys' : List AV} (h : SimsL bx rw xs ys) (h' : SimsL bx rw xs' ys') : Sims bx rw (.fn f xs xs') (.fn f ys ys') := fun _ _ _ hm ⟨fs, cs, e, h1, h2⟩ => ⟨fs, cs, e, h.rel hm h1, h'.rel hm h2⟩
end sims
theorem OutOk.sims {st : ASt} {x r : AV} (h : Sims st.bx st.rw x r) (hf : r.free) : OutOk st x r := fun G w v hm hr => AV.rel_free (G := G) (G' := ⟨G.all w, [], []⟩) (fun _ _ i => .inl i) _ _ hf (h G w v hm hr)
def SlSim (bx : List (List AV)) (rw : List ARow) : List (Nat × (Bool × AV)) → List (Nat × (Bool × AV)) → Prop
  | [], _ => True
  | (t, (c, x)) :: r, sl => (∃ y, lookN t sl = some (c, y) ∧ Sims bx rw y x) ∧ SlSim bx rw r sl
theorem SlSim.look {bx : List (List AV)} {rw : List ARow} {t : Nat} {c : Bool} {x : AV} {sl : List (Nat × (Bool × AV))} : ∀ {sl' : List (Nat × (Bool × AV))}, SlSim bx rw sl' sl → lookN t sl' = some (c, x) → ∃ y, lookN t sl = some (c, y) ∧ Sims bx rw y x
  | (u, (c', x')) :: r, h, hl => by
    rw [lookN_cons] at hl
    split at hl
    · rename_i e'; subst e'; cases hl; exact h.1
    · exact SlSim.look h.2 hl
def BxSim (bx : List (List AV)) (rw : List ARow) : List (List AV) → List (List AV) → Prop
  | [], _ => True
  | c' :: r', c :: r => SimsL bx rw c c' ∧ BxSim bx rw r' r
  | _ :: _, [] => False
theorem BxSim.get {bx : List (List AV)} {rw : List ARow} : ∀ {b' b : List (List AV)} {k : Nat} {c' : List AV}, BxSim bx rw b' b → b'[k]? = some c' → ∃ c, b[k]? = some c ∧ SimsL bx rw c c'
  | c1 :: r', c :: r, 0, c', h, hk => by
    simp only [List.getElem?_cons_zero, Option.some.injEq] at hk
    subst hk; exact ⟨c, rfl, h.1⟩
  | c1 :: r', c :: r, k + 1, c', h, hk => BxSim.get (k := k) h.2 (by simpa using hk)
  | _ :: _, [], _, _, h, _ => h.elim
  | [], _, k, _, _, hk => by simp at hk
theorem BxSim.len {bx : List (List AV)} {rw : List ARow} : ∀ {b' b : List (List AV)}, BxSim bx rw b' b → b'.length ≤ b.length
  | [], _, _ => Nat.zero_le _
  | _ :: r', _ :: r, h => Nat.succ_le_succ (BxSim.len h.2)
  | _ :: _, [], h => h.elim
def RwSim (bx : List (List AV)) (rw : List ARow) : List ARow → List ARow → Prop
  | [], _ => True
  | c' :: r', c :: r => (c.e = c'.e ∧ c.sz = c'.sz ∧ c.n = c'.n ∧ ∀ q, q < c'.n → SimsL bx rw (c.el q) (c'.el q)) ∧ RwSim bx rw r' r
  | _ :: _, [] => False
theorem RwSim.get {bx : List (List AV)} {rw : List ARow} : ∀ {b' b : List ARow} {k : Nat} {c' : ARow}, RwSim bx rw b' b → b'[k]? = some c' → ∃ c, b[k]? = some c ∧ (c.e = c'.e ∧ c.sz = c'.sz ∧ c.n = c'.n ∧ ∀ q, q < c'.n → SimsL bx rw (c.el q) (c'.el q))
  | c1 :: r', c :: r, 0, c', h, hk => by
    simp only [List.getElem?_cons_zero, Option.some.injEq] at hk
    subst hk; exact ⟨c, rfl, h.1⟩
  | c1 :: r', c :: r, k + 1, c', h, hk => RwSim.get (k := k) h.2 (by simpa using hk)
  | _ :: _, [], _, _, h, _ => h.elim
  | [], _, k, _, _, hk => by simp at hk
theorem RwSim.len {bx : List (List AV)} {rw : List ARow} : ∀ {b' b : List ARow}, RwSim bx rw b' b → b'.length ≤ b.length
  | [], _, _ => Nat.zero_le _
  | _ :: r', _ :: r, h => Nat.succ_le_succ (RwSim.len h.2)
  | _ :: _, [], h => h.elim
def subSl (m n : Nat) : List (Nat × (Bool × AV)) → Prop
  | [] => True
  | (_, (_, x)) :: r => x.sub m n ∧ subSl m n r
theorem subSl.look {m n t : Nat} {c : Bool} {x : AV} : ∀ {sl : List (Nat × (Bool × AV))}, subSl m n sl → lookN t sl = some (c, x) → x.sub m n
  | (u, (_, y)) :: r, h, hl => by
    rw [lookN_cons] at hl
    split at hl
    · cases hl; exact h.1
    · exact subSl.look h.2 hl
def subB (m n : Nat) : List (List AV) → Prop
  | [] => True
  | c :: r => AV.subL m n c ∧ subB m n r
theorem subB.get {m n : Nat} : ∀ {bx : List (List AV)} {k : Nat} {cs : List AV}, subB m n bx → bx[k]? = some cs → AV.subL m n cs
  | c :: r, 0, cs, h, hk => by simp only [List.getElem?_cons_zero, Option.some.injEq] at hk; subst hk; exact h.1
  | c :: r, k + 1, cs, h, hk => subB.get (k := k) h.2 (by simpa using hk)
  | [], k, _, _, hk => by simp at hk
def subR (m n : Nat) : List ARow → Prop
  | [] => True
  | c :: r => (∀ q, q < c.n → AV.subL m n (c.el q)) ∧ subR m n r
theorem subR.get {m n : Nat} : ∀ {rw : List ARow} {k : Nat} {c : ARow}, subR m n rw → rw[k]? = some c → ∀ q, q < c.n → AV.subL m n (c.el q)
  | c :: r, 0, cs, h, hk => by simp only [List.getElem?_cons_zero, Option.some.injEq] at hk; subst hk; exact h.1
  | c :: r, k + 1, cs, h, hk => subR.get (k := k) h.2 (by simpa using hk)
  | [], k, _, _, hk => by simp at hk
theorem Sat.gen {P : Program} {C : Ctx P} {G : Gh} {a : Act} {w : World} {nt nb : Nat} {sl sl' : List (Nat × (Bool × AV))} {bx bx' : List (List AV)} {rw rw' : List ARow} {ys : (Nat × List (List AV)) × List (List AV) × Bool} (h1 : SlSim bx rw sl' sl) (h2 : BxSim bx rw bx' bx) (h3 : RwSim bx rw rw' rw)
    (h4 : nb % 64 ≤ bx'.length ∧ nb / 64 ≤ rw'.length) (h5 : subSl bx'.length rw'.length sl' ∧ subB bx'.length rw'.length bx' ∧ subR bx'.length rw'.length rw') (hs : Sat C G a w ⟨nt, nb, sl, bx, rw, ys⟩) : Sat C ⟨G.imm, G.bx.take bx'.length, G.rw.take rw'.length⟩ a w ⟨nt, nb, sl', bx', rw', ys⟩ := by
  obtain ⟨c1, c2⟩ := hs.callers
  simp only at c1 c2
  have lb := h2.len
  have lr := h3.len
  have lB : G.bx.length = bx.length := hs.mem.lenB
  have lR : G.rw.length = rw.length := hs.mem.lenR
  have tb : ∀ (k x : Nat), (G.bx.take bx'.length)[k]? = some x → G.bx[k]? = some x ∧ k < bx'.length := fun k x hx => by
    rw [List.getElem?_take] at hx
    split at hx
    · rename_i h; exact ⟨hx, h⟩
    · cases hx
  have tr : ∀ (k : Nat) (x : Nat × Value), (G.rw.take rw'.length)[k]? = some x → G.rw[k]? = some x ∧ k < rw'.length := fun k x hx => by
    rw [List.getElem?_take] at hx
    split at hx
    · rename_i h; exact ⟨hx, h⟩
    · cases hx
  have ub : ∀ (k x : Nat), k < bx'.length → G.bx[k]? = some x → (G.bx.take bx'.length)[k]? = some x := fun k x hk hx => by rw [List.getElem?_take, if_pos hk]; exact hx
  have ur : ∀ (k : Nat) (x : Nat × Value), k < rw'.length → G.rw[k]? = some x → (G.rw.take rw'.length)[k]? = some x := fun k x hk hx => by rw [List.getElem?_take, if_pos hk]; exact hx
  have up : ∀ (x : AV) (v : Value), x.sub bx'.length rw'.length → x.rel G w v → x.rel ⟨G.imm, G.bx.take bx'.length, G.rw.take rw'.length⟩ w v := fun x v hx hr => AV.rel_sub (G := G) (G' := ⟨G.imm, G.bx.take bx'.length, G.rw.take rw'.length⟩) (fun _ _ i => i) ub ur x v hx hr
  have upL : ∀ (xs : List AV) (vs : List Value), AV.subL bx'.length rw'.length xs → AV.relL G w xs vs → AV.relL ⟨G.imm, G.bx.take bx'.length, G.rw.take rw'.length⟩ w xs vs := fun x v hx hr => AV.relL_sub (G := G) (G' := ⟨G.imm, G.bx.take bx'.length, G.rw.take rw'.length⟩) (fun _ _ i => i) ub ur x v hx hr
  obtain ⟨D, hD⟩ := hs.env
  refine ⟨hs.size, hs.callers, hs.frame, ⟨hs.le.imm, hs.le.cell, fun k x hx => ub k x ?_ (hs.le.bx k x hx), fun k e he => ?_⟩, hs.fresh, fun blk hb => hs.ownB blk (List.mem_of_mem_take hb), fun x hx => hs.ownR x (List.mem_of_mem_take hx),
    ⟨D, hD.l, hD.cons, hD.sub, hD.lt, fun k hk => hD.bx k (List.mem_of_mem_take hk), fun x hx => hD.rw x (List.mem_of_mem_take hx), hD.imm, hD.marks, hD.record⟩, ⟨hs.mem.immOk, ?_, ?_, hs.mem.nodup.sublist (List.take_sublist _ _), fun k cs blk hk hg => ?_, fun k r x hk hg => ?_, fun k x g hk hg hm => ?_, fun k k' x x' g hk hk' hx hx' => ?_⟩, fun t c x hl => ?_⟩
  · have := (List.getElem?_eq_some_iff.1 hx).1; omega
  · obtain ⟨e', q1, q2⟩ := hs.le.rw k e he
    exact ⟨e', ur k e' (by have := (List.getElem?_eq_some_iff.1 he).1; omega) q1, q2⟩
  · show (G.bx.take bx'.length).length = bx'.length
    simp only [List.length_take]; omega
  · show (G.rw.take rw'.length).length = rw'.length
    simp only [List.length_take]; omega
  · obtain ⟨hg', _⟩ := tb k blk hg
    obtain ⟨c, e1, e2⟩ := h2.get hk
    obtain ⟨i1, vs, T, i2, i3⟩ := hs.mem.box k c blk e1 hg'
    exact ⟨i1, vs, T, i2, upL _ _ (h5.2.1.get hk) (e2.rel hs.mem i3)⟩
  · obtain ⟨hg', _⟩ := tr k x hg
    obtain ⟨c, e1, q1, q2, q3, q4⟩ := h3.get hk
    have ro := hs.mem.row k c x e1 hg'
    obtain ⟨xs, o1, o2⟩ := ro.own
    refine ⟨ro.len.trans q3, ⟨xs, by rw [← q1, ← q2, ← q3]; exact o1, fun i hi => ?_⟩, by rw [← q2, ← q3]; exact ro.imm⟩
    obtain ⟨vs, p1, p2, p3⟩ := o2 i (by omega)
    exact ⟨vs, upL _ _ (h5.2.2.get hk i hi) ((q4 i hi).rel hs.mem p1), by rw [← q2]; exact p2, by rw [← q2]; exact p3⟩
  · exact hs.mem.sepB k x g (tr k x hk).1 hg (List.mem_of_mem_take hm)
  · exact hs.mem.sepR k k' x x' g (tr k x hk).1 (tr k' x' hk').1 hx hx'
  · obtain ⟨y, q1, q2⟩ := h1.look hl
    obtain ⟨v, e1, e2, e3⟩ := hs.slot t c y q1
    exact ⟨v, e1, fun hc => up x v (h5.1.look hl) (q2 G w v hs.mem (e2 hc)), e3⟩
theorem Weak.gen {nt nb : Nat} {sl sl' : List (Nat × (Bool × AV))} {bx bx' : List (List AV)} {rw rw' : List ARow} {ys : (Nat × List (List AV)) × List (List AV) × Bool} (h1 : SlSim bx rw sl' sl) (h2 : BxSim bx rw bx' bx) (h3 : RwSim bx rw rw' rw)
    (h4 : nb % 64 ≤ bx'.length ∧ nb / 64 ≤ rw'.length) (h5 : subSl bx'.length rw'.length sl' ∧ subB bx'.length rw'.length bx' ∧ subR bx'.length rw'.length rw') : Weak ⟨nt, nb, sl, bx, rw, ys⟩ ⟨nt, nb, sl', bx', rw', ys⟩ :=
  fun _ _ _ _ _ hs => ⟨_, hs.gen h1 h2 h3 h4 h5⟩
/-! ### Bytes and strings -/
def u8C (b : UInt8) : List AV := [.raw (.int .u8 (b.toNat : Int))]
abbrev byA (l : List UInt8) : AV := lA 1 u8C l
def sA (l : List UInt8) : AV := .raw (.string ⟨l.toArray⟩)
@[simp] theorem els_free {α : Type} [Inhabited α] {enc : α → List AV} (h : ∀ x, AV.freeL (enc x)) (l : List α) (i : Nat) : AV.freeL (els enc l i) := h _
@[simp] theorem iC_free (n : Int) : AV.freeL (iC n) := ⟨trivial, trivial⟩
@[simp] theorem kC_free (k : IntKind) (n : Int) : AV.freeL (kC k n) := ⟨trivial, trivial⟩
@[simp] theorem bC_free (b : Bool) : AV.freeL (bC b) := ⟨trivial, trivial⟩
@[simp] theorem u8C_free (b : UInt8) : AV.freeL (u8C b) := ⟨trivial, trivial⟩
@[simp] theorem sA_free (l : List UInt8) : (sA l).free := trivial
def sC (l : List UInt8) : List AV := [sA l]
@[simp] theorem sC_free (l : List UInt8) : AV.freeL (sC l) := ⟨trivial, trivial⟩
theorem strEl_eq (s : ByteArray) : strEl s = els u8C s.data.toList := by
  funext q; simp [strEl, els, u8C]; rfl
@[go_sem] theorem strEl_mk (l : List UInt8) : strEl ⟨l.toArray⟩ = els u8C l := strEl_eq _
theorem str_mk (s : ByteArray) : (⟨s.data.toList.toArray⟩ : ByteArray) = s := by simp
theorem str_append (l l' : List UInt8) : (⟨l.toArray⟩ : ByteArray) ++ ⟨l'.toArray⟩ = ⟨(l ++ l').toArray⟩ := by
  apply ByteArray.ext
  simp
@[simp, go_sem] theorem str_size (l : List UInt8) : (⟨l.toArray⟩ : ByteArray).size = l.length := by simp [ByteArray.size]
theorem u8_back (b : UInt8) : UInt8.ofNat ((b.toNat : Int).toNat) = b := by simp
@[simp] theorem strOf_size (n : Nat) (el : Nat → List AV) : (strOf n el).size = n := by simp [strOf, strOfNums_size]
theorem strOf_els (l : List UInt8) : strOf l.length (els u8C l) = ⟨l.toArray⟩ := by
  unfold strOf strOfNums
  congr 2
  apply List.ext_getElem (by simp)
  intro i h1 h2
  simp [els, u8C, u8Of, h2]
theorem strOf_eq {n : Nat} {el : Nat → List AV} (l : List UInt8) (hn : n = l.length) (h : ∀ i, i < n → el i = els u8C l i) : strOf n el = ⟨l.toArray⟩ := by
  subst hn
  rw [← strOf_els]
  unfold strOf
  congr 1
  exact List.map_congr_left fun i hi => by rw [h i (List.mem_range.1 hi)]
theorem strOf_one (k : Int) (el : Nat → List AV) (h : el 0 = [.raw (.int .u8 k)]) : strOf 1 el = ⟨[UInt8.ofNat k.toNat].toArray⟩ := by
  simp [strOf, strOfNums, u8Of, h]
/- Tactics under names. -/
theorem simsT {p : Prop} (h : p := by
    first
      | exact Sims.refl _
      | (refine Sims.int ?_; first | rfl | omega | (simp; done) | (simp; omega))
      | (refine Sims.bool ?_; first | rfl | (simp; done) | (simp; omega))
      | exact (Sim.nil rfl).s
      | (refine Sims.rowN ?_; first | rfl | omega | (simp; done) | (simp; omega))
      | exact Sims.row rfl rfl rfl rfl (fun _ _ => rfl)
      | exact SimsL.refl _
      | (refine SimsL.of_eq ?_; first | rfl | (simp; done))
      | trivial) : p := h
theorem simT {p : Prop} (h : p := by
    first
      | exact SimL.refl _
      | ((repeat' apply And.intro) <;> first
        | trivial
        | exact Sim.refl _
        | exact Sim.nil rfl
        | (refine Sim.lstE ?_ ?_ <;> first | rfl | (simp [lA]; done) | (simp; done) | (simp; omega) | (intro i hi; first | rfl | (simp [els]; done) | exact els_append rfl)))) : p := h
theorem isU8_els (l : List UInt8) (i : Nat) : isU8 (els u8C l i) := trivial
theorem isU8_one {k : Int} {i : Nat} (h : i < 1) : isU8 (chunkA 1 [.raw (.int .u8 k)] i) := by
  obtain rfl : i = 0 := by omega
  trivial
theorem oblS {p : Prop} (h : p := by
    first
      | (intro hg; refine ⟨by simp, by first | trivial | (simp; done) | (simp_all; done), by first | trivial | (simp; done), fun i hi => ?_⟩; first | exact isU8_els _ _ | exact isU8_one hi)
      | (intro hg; simp only [sA, strOf_size, str_size, ByteArray.size_append] at hg ⊢; omega)
      | (intro hg; simp [sA, strOf_size, str_size, ByteArray.size_append] at hg ⊢; omega)) : p := h
@[go_sem] theorem getD_int (l : List Int) (k : Nat) : l.getD k default = l.getD k 0 := rfl
@[go_sem] theorem getD_u8 (l : List UInt8) (k : Nat) : l.getD k default = l.getD k 0 := rfl
attribute [go_sem] els lA iC kC bC u8C sA sC List.size_toArray
end Go.Proofs.YtihnjbnlbedpaaaDoor
