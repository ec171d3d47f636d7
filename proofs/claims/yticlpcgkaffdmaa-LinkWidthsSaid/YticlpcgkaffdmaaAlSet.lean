/- The rules by which the abstract logic is evaluated, under one name. -/
import Derived.Test.YticlpcgkaffdmaaAlDraw
namespace Go.Proofs.Yticlpcgkaffdmaa
set_option linter.unusedSectionVars false
set_option linter.unusedVariables false
set_option linter.unusedSimpArgs false
open Go.RowKit
attribute [go_sem] opA mkA chunkA zerosA eqC eqA2 negIf byteA wrapA wrapP List.isEmpty_cons List.isEmpty_nil placesA fillA ASt.ev ASt.evL ASt.look lookN_cons
  avOf binA unA lenA minA maxA ASt.asL cutA nthA TK.agg guardA callA calleeA_func calleeA_fn cellsA retA resA pickB_and pickB_or pickB_t
  pickB_f putL overL List.getElem?_toArray List.getElem?_cons_zero List.getElem?_cons_succ List.drop_succ_cons List.drop_zero List.take_succ_cons
  List.take_zero List.set_cons_zero List.set_cons_succ List.length_cons List.length_nil List.nil_append List.append_nil List.cons_append
  Option.bind_some cond_true cond_false Int.toNat_natCast List.map_cons List.map_nil List.toList_toArray decide_true decide_false Bool.true_and
  Bool.and_true Bool.false_and Bool.and_false Bool.true_or Bool.or_true Bool.false_or Bool.or_false Bool.not_true Bool.not_false Nat.zero_add
  Nat.add_zero

/- Goals that are closed by evaluation, and what the operations ask for: the way is written once, here. -/
theorem evl {α : Type} {a b : α} (h : a = b := by first | ((conv => lhs; simp only [go_sem, ↓reduceIte, Nat.reduceEqDiff, Nat.reduceAdd, Nat.reduceMul]) <;> rfl) | rfl) : a = b := h
theorem obl {p : Prop} (h : p := by
    intro hg
    first
      | (simp only [List.forall_mem_cons, List.not_mem_nil, false_implies, implies_true, forall_const, true_and, and_true, and_self, true_implies, imp_self, or_false, AV.freeL, AV.free, AV.oneL, AV.one, Value.oneCell', inK, cellsA, List.length_cons, List.length_nil, List.map_cons, List.map_nil, reduceCtorEq, ne_eq, not_false_eq_true, Nat.zero_add]; done)
      | (simp only [List.forall_mem_cons, List.not_mem_nil, false_implies, implies_true, forall_const, true_and, and_true, and_self, true_implies, imp_self, or_false, AV.freeL, AV.free, AV.oneL, AV.one, Value.oneCell', inK, cellsA, List.length_cons, List.length_nil, List.map_cons, List.map_nil, reduceCtorEq, ne_eq, not_false_eq_true, Nat.zero_add, Bool.not_eq_true', Bool.not_eq_false']; done)
      | (simp only [List.forall_mem_cons, List.not_mem_nil, false_implies, implies_true, forall_const, true_and, and_true, and_self, true_implies, imp_self, or_false, AV.freeL, AV.free, AV.oneL, AV.one, Value.oneCell', inK, cellsA, List.length_cons, List.length_nil, List.map_cons, List.map_nil, reduceCtorEq, ne_eq, not_false_eq_true, Nat.zero_add]; omega)
      | (simp only [List.forall_mem_cons, List.not_mem_nil, false_implies, implies_true, forall_const, true_and, and_true, and_self, true_implies, imp_self, or_false, AV.freeL, AV.free, AV.oneL, AV.one, Value.oneCell', inK, cellsA, List.length_cons, List.length_nil, List.map_cons, List.map_nil, reduceCtorEq, ne_eq, not_false_eq_true, Nat.zero_add]; (repeat' refine And.intro ?_ ?_) <;> (intro _ _; refine freeL_chunk ?_; simp only [List.forall_mem_cons, List.not_mem_nil, false_implies, implies_true, forall_const, true_and, and_true, and_self, true_implies, imp_self, or_false, AV.freeL, AV.free, AV.oneL, AV.one, Value.oneCell', inK, cellsA, List.length_cons, List.length_nil, List.map_cons, List.map_nil, reduceCtorEq, ne_eq, not_false_eq_true, Nat.zero_add]; done))
      | ((try simp only [Bool.and_eq_true, Bool.or_eq_true, Bool.not_eq_true', decide_eq_true_eq, decide_eq_false_iff_not, Bool.and_eq_false_iff, Bool.or_eq_false_iff, Bool.not_eq_false'] at hg)
         (try simp only [List.forall_mem_cons, List.not_mem_nil, false_implies, implies_true, forall_const, true_and, and_true, and_self, true_implies, imp_self, or_false, AV.freeL, AV.free, AV.oneL, AV.one, Value.oneCell', inK, cellsA, List.length_cons, List.length_nil, List.map_cons, List.map_nil, reduceCtorEq, ne_eq, not_false_eq_true, Nat.zero_add, Bool.and_eq_true, Bool.or_eq_true, Bool.not_eq_true', decide_eq_true_eq, decide_eq_false_iff_not, Bool.and_eq_false_iff, Bool.or_eq_false_iff, Bool.not_eq_false'])
         (repeat' apply And.intro) <;> first | omega | (intro _ _; refine freeL_chunk ?_; simp only [List.forall_mem_cons, List.not_mem_nil, false_implies, implies_true, forall_const, true_and, and_true, and_self, true_implies, imp_self, or_false, AV.freeL, AV.free, AV.oneL, AV.one, Value.oneCell', inK, cellsA, List.length_cons, List.length_nil, List.map_cons, List.map_nil, reduceCtorEq, ne_eq, not_false_eq_true, Nat.zero_add]; done) | (simp [hg]; done) | (simp_all; done))
      | (simp only [List.forall_mem_cons, List.not_mem_nil, false_implies, implies_true, forall_const, true_and, and_true, and_self, true_implies, imp_self, or_false, AV.freeL, AV.free, AV.oneL, AV.one, Value.oneCell', inK, cellsA, List.length_cons, List.length_nil, List.map_cons, List.map_nil, reduceCtorEq, ne_eq, not_false_eq_true, Nat.zero_add, Bool.and_eq_true, Bool.or_eq_true, Bool.not_eq_true', decide_eq_true_eq, decide_eq_false_iff_not, Bool.and_eq_false_iff, Bool.or_eq_false_iff, Bool.not_eq_false'] at hg ⊢; omega)
      | (simp_all; done)
      | (simp_all; omega)) : p := h
theorem ob0 {p : Prop} (h : p := by first | (simp only [List.forall_mem_cons, List.not_mem_nil, false_implies, implies_true, forall_const, true_and, and_true, and_self, true_implies, imp_self, or_false, AV.freeL, AV.free, AV.oneL, AV.one, Value.oneCell', inK, cellsA, List.length_cons, List.length_nil, List.map_cons, List.map_nil, reduceCtorEq, ne_eq, not_false_eq_true, Nat.zero_add]; done) | (simp only [List.forall_mem_cons, List.not_mem_nil, false_implies, implies_true, forall_const, true_and, and_true, and_self, true_implies, imp_self, or_false, AV.freeL, AV.free, AV.oneL, AV.one, Value.oneCell', inK, cellsA, List.length_cons, List.length_nil, List.map_cons, List.map_nil, reduceCtorEq, ne_eq, not_false_eq_true, Nat.zero_add]; omega) | (simp; done) | (simp_all; done) | (simp_all; omega)) : p := h
theorem ob1 {p : Prop} (h : p := by first | (simp only [List.forall_mem_cons, List.not_mem_nil, false_implies, implies_true, forall_const, true_and, and_true, and_self, true_implies, imp_self, or_false, AV.freeL, AV.free, AV.oneL, AV.one, Value.oneCell', inK, cellsA, List.length_cons, List.length_nil, List.map_cons, List.map_nil, reduceCtorEq, ne_eq, not_false_eq_true, Nat.zero_add]; done) | (simp [AV.oneL, AV.one, Value.oneCell', cellsA]; done)) : p := h
section
variable {P : Program} {T : TT} {ops : Array Oper} {r : List Oper} {k : ASt → Prop} {nt nb : Nat} {sl : List (Nat × (Bool × AV))} {bx : List (List AV)} {rw : List ARow} {ys : (Nat × List (List AV)) × List (List AV) × Bool} {o : Oper} {d : Nat}
theorem sBox {t : TypeId} {x : Operand} (hop : o.op = .box t x) (hg : o.guard = none) (hd : o.dst = some d) (hn : Nat.blt d nt = true)
    (h : ∃ y, (ASt.mk nt nb sl bx rw ys).ev x = some (true, y) ∧ AV.oneL ⟨nt, nb, sl, bx, rw, ys⟩ (cellsA y) ∧ ∃ m, bx.length = m ∧ ∃ bx', bx ++ [cellsA y] = bx' ∧ runS P ops r k ⟨nt, nb, (d, (true, .box m 0)) :: sl, bx', rw, ys⟩) : runS P ops (o :: r) k ⟨nt, nb, sl, bx, rw, ys⟩ := by
  obtain ⟨y, h1, h2, m, rfl, bx', rfl, h3⟩ := h
  exact runS_box' hop hg hd hn ⟨y, h1, h2, h3⟩
theorem sAlloc (hT : TOk P T) {t : TypeId} (hop : o.op = .alloc t) (hg : o.guard = none) (hd : o.dst = some d) (hn : Nat.blt d nt = true)
    (h : ∃ i, T t = some i ∧ ∃ m, bx.length = m ∧ ∃ bx', bx ++ [i.zero.map .raw] = bx' ∧ runS P ops r k ⟨nt, nb, (d, (true, .box m 0)) :: sl, bx', rw, ys⟩) : runS P ops (o :: r) k ⟨nt, nb, sl, bx, rw, ys⟩ := by
  obtain ⟨i, h1, m, rfl, bx', rfl, h3⟩ := h
  exact runS_alloc' hT hop hg hd hn ⟨i, h1, h3⟩
theorem sStore (hT : TOk P T) {t : TypeId} {p x : Operand} (hop : o.op = .store t p x) (hg : o.guard = none) (hd : o.dst = none)
    (h : ∃ b off, (ASt.mk nt nb sl bx rw ys).ev p = some (true, .box b off) ∧ ∃ cs, bx[b]? = some cs ∧ ∃ i, T t = some i ∧ ∃ y, (ASt.mk nt nb sl bx rw ys).ev x = some (true, y) ∧
      (AV.oneL ⟨nt, nb, sl, bx, rw, ys⟩ (cellsA y) ∧ (cellsA y).length = i.size ∧ off + i.size ≤ cs.length) ∧ ∃ bx', bx.set b (putL cs off (cellsA y)) = bx' ∧ runS P ops r k ⟨nt, nb, sl, bx', rw, ys⟩) : runS P ops (o :: r) k ⟨nt, nb, sl, bx, rw, ys⟩ := by
  obtain ⟨b, off, h1, cs, h2, i, h3, y, h4, h5, bx', rfl, h6⟩ := h
  exact runS_store' hT hop hg hd ⟨b, off, h1, cs, h2, i, h3, y, h4, h5, h6⟩
end
end Go.Proofs.Yticlpcgkaffdmaa
