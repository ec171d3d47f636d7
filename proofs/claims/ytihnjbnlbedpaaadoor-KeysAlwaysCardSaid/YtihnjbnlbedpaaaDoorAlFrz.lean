/- The abstract logic: own variables that nobody writes any more; functions that are handed functions. -/
import Derived.Test.YtihnjbnlbedpaaaDoorAlSub
namespace Go.Proofs.YtihnjbnlbedpaaaDoor
set_option linter.unusedVariables false
set_option linter.unusedSimpArgs false
set_option maxHeartbeats 4000000
set_option maxRecDepth 100000
open Go.RowKit
mutual
/-- Own variables from a place on are cells that nobody writes. -/
def AV.frz (m : Nat) (bx : List (List AV)) : AV → AV
  | .raw v => .raw v
  | .agg cs => .agg (AV.frzL m bx cs)
  | .tup cs => .tup (AV.frzL m bx cs)
  | .lst sz n el => .lst sz n el
  | .elt cs o => .elt (AV.frzL m bx cs) o
  | .box b o => bif Nat.blt b m then .box b o else .elt ((bx[b]?).getD []) o
  | .fn f a b => .fn f (AV.frzL m bx a) (AV.frzL m bx b)
  | .row k n => .row k n
  | .bsl sz b off n cap => bif Nat.blt b m then .bsl sz b off n cap else .lst sz n (chunkA sz (((bx[b]?).getD []).drop off))
def AV.frzL (m : Nat) (bx : List (List AV)) : List AV → List AV
  | [] => []
  | c :: cs => AV.frz m bx c :: AV.frzL m bx cs
end
mutual
def AV.okF (m : Nat) (bx : List (List AV)) : AV → Prop
  | .raw _ => True
  | .agg cs => AV.okFL m bx cs
  | .tup cs => AV.okFL m bx cs
  | .lst _ n el => ∀ i, i < n → AV.belL m (el i)
  | .elt cs _ => AV.okFL m bx cs
  | .box b _ => b < m ∨ (b < bx.length ∧ AV.belL m ((bx[b]?).getD []))
  | .fn _ a b => AV.okFL m bx a ∧ AV.okFL m bx b
  | .row _ _ => True
  | .bsl sz b off n _ => b < m ∨ (b < bx.length ∧ AV.belL m ((bx[b]?).getD []) ∧ off + n * sz ≤ ((bx[b]?).getD []).length)
def AV.okFL (m : Nat) (bx : List (List AV)) : List AV → Prop
  | [] => True
  | c :: cs => AV.okF m bx c ∧ AV.okFL m bx cs
end
section
variable {G : Gh} {w : World} {bx : List (List AV)} {rw : List ARow} {m : Nat}
theorem cut_up (xs : List AV) (vs : List Value) (hb : AV.belL m xs) (hr : AV.relL G w xs vs) : AV.relL (G.cut m w) w xs vs :=
  AV.relL_bel (G := G) (G' := G.cut m w) (fun _ _ i => .inl i) (fun k x hk hx => cut_bx hk hx) rfl xs vs hb hr
mutual
theorem AV.rel_frz (hm : MSat G w bx rw) : ∀ (x : AV) (v : Value), x.okF m bx → x.rel G w v → (x.frz m bx).rel (G.cut m w) w v
  | .raw _, _, _, h => h
  | .agg cs, _, f, ⟨vs, e, h⟩ => ⟨vs, e, AV.relL_frz hm cs vs f h⟩
  | .tup cs, _, f, ⟨vs, e, h⟩ => ⟨vs, e, AV.relL_frz hm cs vs f h⟩
  | .lst sz n el, v, f, h => by
    have := cut_up (m := m) [.lst sz n el] [v] ⟨f, trivial⟩ ⟨v, [], rfl, h, rfl⟩
    obtain ⟨v', r, e, h1, _⟩ := this
    cases e
    exact h1
  | .elt cs _, _, f, ⟨b, o, vs, e, h1, h2⟩ => ⟨b, o, vs, e, AV.relL_frz hm cs vs f h1, fun j u hj => ⟨.inl (h2 j u hj).1, (h2 j u hj).2⟩⟩
  | .box b off, v, f, ⟨blk, h1, h2⟩ => by
    unfold AV.frz
    cases hb : Nat.blt b m
    · have hge : m ≤ b := by
        rcases Nat.lt_or_ge b m with h | h
        · rw [← Nat.blt_eq] at h; rw [h] at hb; cases hb
        · exact h
      simp only [cond_false]
      rcases f with f | ⟨f1, f2⟩
      · omega
      have hcs : bx[b]? = some ((bx[b]?).getD []) := by rw [List.getElem?_eq_getElem f1]; rfl
      obtain ⟨_, vs, T, h3, h4⟩ := hm.box b _ blk hcs h1
      refine ⟨blk, 0, vs, by simpa using h2, cut_up _ _ f2 h4, fun j u hj => ?_⟩
      have hc : w.cell? ⟨blk, 0 + j, none⟩ = some u := by simp [World.cell?, h3, hj]
      refine ⟨.inr ⟨?_, by rw [hc]; rfl⟩, hc⟩
      refine List.mem_of_getElem? (i := b - m) ?_
      rw [List.getElem?_drop, show m + (b - m) = b from by omega]
      exact h1
    · simp only [cond_true]
      exact ⟨blk, cut_bx (by rwa [← Nat.blt_eq]) h1, h2⟩
  | .fn _ a b, _, f, ⟨fs, cs, e, h1, h2⟩ => ⟨fs, cs, e, AV.relL_frz hm a fs f.1 h1, AV.relL_frz hm b cs f.2 h2⟩
  | .row _ _, _, _, h => h
  | .bsl sz b off n cap, v, f, ⟨blk, A, h1, h2, h3, h4, h5⟩ => by
    unfold AV.frz
    cases hb : Nat.blt b m
    · have hge : m ≤ b := by
        rcases Nat.lt_or_ge b m with h | h
        · rw [← Nat.blt_eq] at h; rw [h] at hb; cases hb
        · exact h
      simp only [cond_false]
      rcases f with f | ⟨f1, f2, f3⟩
      · omega
      have hcs : bx[b]? = some ((bx[b]?).getD []) := by rw [List.getElem?_eq_getElem f1]; rfl
      obtain ⟨_, vs, T, h6, h7⟩ := hm.box b _ blk hcs h1
      have hl := AV.relL_length h7
      refine ⟨A, cap, h2, h3, h4, fun hn => ⟨blk, off, h5 (by omega), fun i hi => ⟨((vs.drop off).drop (i * sz)).take sz, AV.relL_take _ (AV.relL_drop _ (AV.relL_drop _ (cut_up _ _ f2 h7))), ?_, fun j u hj => ?_⟩⟩⟩
      · have h8 : (i + 1) * sz ≤ n * sz := Nat.mul_le_mul_right _ hi
        rw [Nat.add_mul] at h8
        simp only [List.length_take, List.length_drop]
        omega
      · rw [List.getElem?_take] at hj
        split at hj
        · rw [List.getElem?_drop, List.getElem?_drop] at hj
          have hc : w.cell? ⟨blk, off + i * sz + j, none⟩ = some u := by
            rw [show off + i * sz + j = off + (i * sz + j) from by omega]
            simp [World.cell?, h6, hj]
          refine ⟨.inr ⟨?_, by rw [hc]; rfl⟩, hc⟩
          refine List.mem_of_getElem? (i := b - m) ?_
          rw [List.getElem?_drop, show m + (b - m) = b from by omega]
          exact h1
        · cases hj
    · simp only [cond_true]
      exact ⟨blk, A, cut_bx (by rwa [← Nat.blt_eq]) h1, h2, h3, h4, h5⟩
theorem AV.relL_frz (hm : MSat G w bx rw) : ∀ (xs : List AV) (vs : List Value), AV.okFL m bx xs → AV.relL G w xs vs → AV.relL (G.cut m w) w (AV.frzL m bx xs) vs
  | [], _, _, h => h
  | x :: xs, _, f, ⟨v, r, e, h1, h2⟩ => ⟨v, r, e, AV.rel_frz hm x v f.1 h1, AV.relL_frz hm xs r f.2 h2⟩
end
end
def frzS (m : Nat) (bx : List (List AV)) : List (Nat × (Bool × AV)) → List (Nat × (Bool × AV))
  | [] => []
  | (t, (c, x)) :: r => (t, (c, x.frz m bx)) :: frzS m bx r
def okFS (m : Nat) (bx : List (List AV)) : List (Nat × (Bool × AV)) → Prop
  | [] => True
  | (_, (_, x)) :: r => x.okF m bx ∧ okFS m bx r
theorem frzS_look {m t : Nat} {bx : List (List AV)} {c : Bool} {x : AV} : ∀ {sl : List (Nat × (Bool × AV))}, okFS m bx sl → lookN t (frzS m bx sl) = some (c, x) → ∃ y, lookN t sl = some (c, y) ∧ x = y.frz m bx ∧ y.okF m bx
  | (u, (c', y)) :: r, h, hl => by
    rw [frzS, lookN_cons] at hl
    rw [lookN_cons]
    split at hl
    · rename_i e
      cases hl
      exact ⟨y, by simp [e], rfl, h.1⟩
    · rename_i e
      rw [if_neg e]
      exact frzS_look h.2 hl
theorem Weak.freeze {nt nb : Nat} {sl : List (Nat × (Bool × AV))} {bx : List (List AV)} {rw : List ARow} {ys : (Nat × List (List AV)) × List (List AV) × Bool} (m : Nat) (h1 : nb % 64 ≤ m) (h2 : belB m (bx.take m)) (h3 : belR m rw) (h4 : okFS m bx sl) :
    Weak ⟨nt, nb, sl, bx, rw, ys⟩ ⟨nt, nb, frzS m bx sl, bx.take m, rw, ys⟩ := by
  intro P C G a w hs
  obtain ⟨c1, c2⟩ := hs.callers
  simp only at c1 c2
  have hlb : C.G0.bx.length ≤ m := by omega
  have hmem := msat_cut hs.mem h2 h3
  obtain ⟨D, hD⟩ := hs.env
  refine ⟨G.cut m w, hs.size, hs.callers, hs.frame, ⟨fun b o i => .inl (hs.le.imm b o i), hs.le.cell, fun k x hx => cut_bx (Nat.lt_of_lt_of_le (List.getElem?_eq_some_iff.1 hx).1 hlb) (hs.le.bx k x hx), hs.le.rw⟩, fun b o i => ?_, fun blk hb => hs.ownB blk (List.mem_of_mem_take hb), hs.ownR,
    ⟨D, hD.l, ?_, hD.sub, hD.lt, fun k hk => hD.bx k (List.mem_of_mem_take hk), hD.rw, fun b o i => ?_, hD.marks, hD.record⟩, hmem, fun t c x hl => ?_⟩
  · rcases i with i | ⟨i, _⟩
    · exact hs.fresh b o i
    · rcases hs.ownB b (List.mem_of_mem_drop i) with hb2 | hb2
      · exfalso
        obtain ⟨q, hq⟩ := List.getElem?_of_mem hb2
        have h6 := hs.le.bx q b hq
        obtain ⟨q2, hq2⟩ := List.getElem?_of_mem i
        rw [List.getElem?_drop] at hq2
        have hl : q < G.bx.length := (List.getElem?_eq_some_iff.1 h6).1
        have := (List.getElem?_inj hl hs.mem.nodup).1 (h6.trans hq2.symm)
        have hql : q < C.G0.bx.length := (List.getElem?_eq_some_iff.1 hq).1
        omega
      · exact .inr (.inl hb2)
  · exact C.stable _ _ _ _ _ _ _ hD.cons (Outside.refl _ _) (fun b o i => ⟨.inl i, rfl⟩)
  · rcases i with i | ⟨i, _⟩
    · exact hD.imm b o i
    · exact .inr (hD.bx b (List.mem_of_mem_drop i))
  · obtain ⟨y, q1, rfl, q2⟩ := frzS_look h4 hl
    obtain ⟨v, e1, e2, e3⟩ := hs.slot t c y q1
    exact ⟨v, e1, fun hc => AV.rel_frz hs.mem y v q2 (e2 hc), e3⟩
theorem wpA_freeze {P : Program} {c : Code} {Q : Exit → ASt → Prop} {nt nb : Nat} {sl : List (Nat × (Bool × AV))} {bx : List (List AV)} {rw : List ARow} {ys : (Nat × List (List AV)) × List (List AV) × Bool} (m : Nat)
    (h1 : nb % 64 ≤ m ∧ belB m (bx.take m) ∧ belR m rw ∧ okFS m bx sl) (h : ∃ sl', frzS m bx sl = sl' ∧ ∃ bx', bx.take m = bx' ∧ wpA P c Q ⟨nt, nb, sl', bx', rw, ys⟩) : wpA P c Q ⟨nt, nb, sl, bx, rw, ys⟩ := by
  obtain ⟨_, rfl, _, rfl, h⟩ := h
  exact wpA_weak (Weak.freeze m h1.1 h1.2.1 h1.2.2.1 h1.2.2.2) h
theorem runS_weak {P : Program} {ops : Array Oper} {l : List Oper} {K : ASt → Prop} {st st' : ASt} (h : Weak st st') (hr : runS P ops l K st') : runS P ops l K st := fun C G a w Q hs hQ =>
  let ⟨G', h1⟩ := h P C G a w hs
  hr C G' a w Q h1 hQ
theorem runS_freeze {P : Program} {ops : Array Oper} {l : List Oper} {K : ASt → Prop} {nt nb : Nat} {sl : List (Nat × (Bool × AV))} {bx : List (List AV)} {rw : List ARow} {ys : (Nat × List (List AV)) × List (List AV) × Bool} (m : Nat)
    (h1 : nb % 64 ≤ m ∧ belB m (bx.take m) ∧ belR m rw ∧ okFS m bx sl) (h : ∃ sl', frzS m bx sl = sl' ∧ ∃ bx', bx.take m = bx' ∧ runS P ops l K ⟨nt, nb, sl', bx', rw, ys⟩) : runS P ops l K ⟨nt, nb, sl, bx, rw, ys⟩ := by
  obtain ⟨_, rfl, _, rfl, h⟩ := h
  exact runS_weak (Weak.freeze m h1.1 h1.2.1 h1.2.2.1 h1.2.2.2) h
section
variable (m : Nat) (bx : List (List AV))
@[go_sem] theorem frz_raw (v : Value) : AV.frz m bx (.raw v) = .raw v := rfl
@[go_sem] theorem frz_agg (cs : List AV) : AV.frz m bx (.agg cs) = .agg (AV.frzL m bx cs) := rfl
@[go_sem] theorem frz_tup (cs : List AV) : AV.frz m bx (.tup cs) = .tup (AV.frzL m bx cs) := rfl
@[go_sem] theorem frz_lst (sz n : Nat) (el : Nat → List AV) : AV.frz m bx (.lst sz n el) = .lst sz n el := rfl
@[go_sem] theorem frz_elt (cs : List AV) (o : Nat) : AV.frz m bx (.elt cs o) = .elt (AV.frzL m bx cs) o := rfl
@[go_sem] theorem frz_fn (f : Fn) (a b : List AV) : AV.frz m bx (.fn f a b) = .fn f (AV.frzL m bx a) (AV.frzL m bx b) := rfl
@[go_sem] theorem frz_row (k n : Nat) : AV.frz m bx (.row k n) = .row k n := rfl
end
@[go_sem] theorem frzb_0_0 (bx : List (List AV)) (o : Nat) : AV.frz 0 bx (.box 0 o) = .elt ((bx[0]?).getD []) o := rfl
@[go_sem] theorem frzb_0_1 (bx : List (List AV)) (o : Nat) : AV.frz 0 bx (.box 1 o) = .elt ((bx[1]?).getD []) o := rfl
@[go_sem] theorem frzb_0_2 (bx : List (List AV)) (o : Nat) : AV.frz 0 bx (.box 2 o) = .elt ((bx[2]?).getD []) o := rfl
@[go_sem] theorem frzb_0_3 (bx : List (List AV)) (o : Nat) : AV.frz 0 bx (.box 3 o) = .elt ((bx[3]?).getD []) o := rfl
@[go_sem] theorem frzb_0_4 (bx : List (List AV)) (o : Nat) : AV.frz 0 bx (.box 4 o) = .elt ((bx[4]?).getD []) o := rfl
@[go_sem] theorem frzb_0_5 (bx : List (List AV)) (o : Nat) : AV.frz 0 bx (.box 5 o) = .elt ((bx[5]?).getD []) o := rfl
@[go_sem] theorem frzb_0_6 (bx : List (List AV)) (o : Nat) : AV.frz 0 bx (.box 6 o) = .elt ((bx[6]?).getD []) o := rfl
@[go_sem] theorem frzb_1_0 (bx : List (List AV)) (o : Nat) : AV.frz 1 bx (.box 0 o) = .box 0 o := rfl
@[go_sem] theorem frzb_1_1 (bx : List (List AV)) (o : Nat) : AV.frz 1 bx (.box 1 o) = .elt ((bx[1]?).getD []) o := rfl
@[go_sem] theorem frzb_1_2 (bx : List (List AV)) (o : Nat) : AV.frz 1 bx (.box 2 o) = .elt ((bx[2]?).getD []) o := rfl
@[go_sem] theorem frzb_1_3 (bx : List (List AV)) (o : Nat) : AV.frz 1 bx (.box 3 o) = .elt ((bx[3]?).getD []) o := rfl
@[go_sem] theorem frzb_1_4 (bx : List (List AV)) (o : Nat) : AV.frz 1 bx (.box 4 o) = .elt ((bx[4]?).getD []) o := rfl
@[go_sem] theorem frzb_1_5 (bx : List (List AV)) (o : Nat) : AV.frz 1 bx (.box 5 o) = .elt ((bx[5]?).getD []) o := rfl
@[go_sem] theorem frzb_1_6 (bx : List (List AV)) (o : Nat) : AV.frz 1 bx (.box 6 o) = .elt ((bx[6]?).getD []) o := rfl
@[go_sem] theorem frzb_2_0 (bx : List (List AV)) (o : Nat) : AV.frz 2 bx (.box 0 o) = .box 0 o := rfl
@[go_sem] theorem frzb_2_1 (bx : List (List AV)) (o : Nat) : AV.frz 2 bx (.box 1 o) = .box 1 o := rfl
@[go_sem] theorem frzb_2_2 (bx : List (List AV)) (o : Nat) : AV.frz 2 bx (.box 2 o) = .elt ((bx[2]?).getD []) o := rfl
@[go_sem] theorem frzb_2_3 (bx : List (List AV)) (o : Nat) : AV.frz 2 bx (.box 3 o) = .elt ((bx[3]?).getD []) o := rfl
@[go_sem] theorem frzb_2_4 (bx : List (List AV)) (o : Nat) : AV.frz 2 bx (.box 4 o) = .elt ((bx[4]?).getD []) o := rfl
@[go_sem] theorem frzb_2_5 (bx : List (List AV)) (o : Nat) : AV.frz 2 bx (.box 5 o) = .elt ((bx[5]?).getD []) o := rfl
@[go_sem] theorem frzb_2_6 (bx : List (List AV)) (o : Nat) : AV.frz 2 bx (.box 6 o) = .elt ((bx[6]?).getD []) o := rfl
@[go_sem] theorem frzb_3_0 (bx : List (List AV)) (o : Nat) : AV.frz 3 bx (.box 0 o) = .box 0 o := rfl
@[go_sem] theorem frzb_3_1 (bx : List (List AV)) (o : Nat) : AV.frz 3 bx (.box 1 o) = .box 1 o := rfl
@[go_sem] theorem frzb_3_2 (bx : List (List AV)) (o : Nat) : AV.frz 3 bx (.box 2 o) = .box 2 o := rfl
@[go_sem] theorem frzb_3_3 (bx : List (List AV)) (o : Nat) : AV.frz 3 bx (.box 3 o) = .elt ((bx[3]?).getD []) o := rfl
@[go_sem] theorem frzb_3_4 (bx : List (List AV)) (o : Nat) : AV.frz 3 bx (.box 4 o) = .elt ((bx[4]?).getD []) o := rfl
@[go_sem] theorem frzb_3_5 (bx : List (List AV)) (o : Nat) : AV.frz 3 bx (.box 5 o) = .elt ((bx[5]?).getD []) o := rfl
@[go_sem] theorem frzb_3_6 (bx : List (List AV)) (o : Nat) : AV.frz 3 bx (.box 6 o) = .elt ((bx[6]?).getD []) o := rfl
@[go_sem] theorem frzb_4_0 (bx : List (List AV)) (o : Nat) : AV.frz 4 bx (.box 0 o) = .box 0 o := rfl
@[go_sem] theorem frzb_4_1 (bx : List (List AV)) (o : Nat) : AV.frz 4 bx (.box 1 o) = .box 1 o := rfl
@[go_sem] theorem frzb_4_2 (bx : List (List AV)) (o : Nat) : AV.frz 4 bx (.box 2 o) = .box 2 o := rfl
@[go_sem] theorem frzb_4_3 (bx : List (List AV)) (o : Nat) : AV.frz 4 bx (.box 3 o) = .box 3 o := rfl
@[go_sem] theorem frzb_4_4 (bx : List (List AV)) (o : Nat) : AV.frz 4 bx (.box 4 o) = .elt ((bx[4]?).getD []) o := rfl
@[go_sem] theorem frzb_4_5 (bx : List (List AV)) (o : Nat) : AV.frz 4 bx (.box 5 o) = .elt ((bx[5]?).getD []) o := rfl
@[go_sem] theorem frzb_4_6 (bx : List (List AV)) (o : Nat) : AV.frz 4 bx (.box 6 o) = .elt ((bx[6]?).getD []) o := rfl
@[go_sem] theorem frzb_5_0 (bx : List (List AV)) (o : Nat) : AV.frz 5 bx (.box 0 o) = .box 0 o := rfl
@[go_sem] theorem frzb_5_1 (bx : List (List AV)) (o : Nat) : AV.frz 5 bx (.box 1 o) = .box 1 o := rfl
@[go_sem] theorem frzb_5_2 (bx : List (List AV)) (o : Nat) : AV.frz 5 bx (.box 2 o) = .box 2 o := rfl
@[go_sem] theorem frzb_5_3 (bx : List (List AV)) (o : Nat) : AV.frz 5 bx (.box 3 o) = .box 3 o := rfl
@[go_sem] theorem frzb_5_4 (bx : List (List AV)) (o : Nat) : AV.frz 5 bx (.box 4 o) = .box 4 o := rfl
@[go_sem] theorem frzb_5_5 (bx : List (List AV)) (o : Nat) : AV.frz 5 bx (.box 5 o) = .elt ((bx[5]?).getD []) o := rfl
@[go_sem] theorem frzb_5_6 (bx : List (List AV)) (o : Nat) : AV.frz 5 bx (.box 6 o) = .elt ((bx[6]?).getD []) o := rfl
@[go_sem] theorem frzb_6_0 (bx : List (List AV)) (o : Nat) : AV.frz 6 bx (.box 0 o) = .box 0 o := rfl
@[go_sem] theorem frzb_6_1 (bx : List (List AV)) (o : Nat) : AV.frz 6 bx (.box 1 o) = .box 1 o := rfl
@[go_sem] theorem frzb_6_2 (bx : List (List AV)) (o : Nat) : AV.frz 6 bx (.box 2 o) = .box 2 o := rfl
@[go_sem] theorem frzb_6_3 (bx : List (List AV)) (o : Nat) : AV.frz 6 bx (.box 3 o) = .box 3 o := rfl
@[go_sem] theorem frzb_6_4 (bx : List (List AV)) (o : Nat) : AV.frz 6 bx (.box 4 o) = .box 4 o := rfl
@[go_sem] theorem frzb_6_5 (bx : List (List AV)) (o : Nat) : AV.frz 6 bx (.box 5 o) = .box 5 o := rfl
@[go_sem] theorem frzb_6_6 (bx : List (List AV)) (o : Nat) : AV.frz 6 bx (.box 6 o) = .elt ((bx[6]?).getD []) o := rfl
/-- What kind of operation it is: so that no rule is tried in vain. -/
def opCls : Op → Nat
  | .call c => match c.callee with
    | .builtin .append => 2
    | .builtin _ => 0
    | _ => 1
  | .buildSlice _ _ _ => 3
  | .makeSlice _ _ _ => 3
  | .alloc _ => 4
  | .box _ _ => 5
  | .store _ _ _ => 6
  | _ => 0
theorem gateS {P : Program} {ops : Array Oper} {r : List Oper} {k : ASt → Prop} {st : ASt} {o : Oper} (n : Nat) (hc : opCls o.op = n) (h : runS P ops (o :: r) k st) : runS P ops (o :: r) k st := h
theorem gateF {P : Program} {full : List Oper} {es : List (Nat × (Bool × AV))} {ks : List Kd} {r : List Oper} {k : ASt → Prop} {sl0 : List (Nat × (Bool × AV))} {st : ASt} {o : Oper} (n : Nat) (hc : opCls o.op = n) (h : runF P full es ks (o :: r) k sl0 st) : runF P full es ks (o :: r) k sl0 st := h
@[go_sem] theorem frzs_0_0 (bx : List (List AV)) (sz o n c : Nat) : AV.frz 0 bx (.bsl sz 0 o n c) = .lst sz n (chunkA sz (((bx[0]?).getD []).drop o)) := rfl
@[go_sem] theorem frzs_0_1 (bx : List (List AV)) (sz o n c : Nat) : AV.frz 0 bx (.bsl sz 1 o n c) = .lst sz n (chunkA sz (((bx[1]?).getD []).drop o)) := rfl
@[go_sem] theorem frzs_0_2 (bx : List (List AV)) (sz o n c : Nat) : AV.frz 0 bx (.bsl sz 2 o n c) = .lst sz n (chunkA sz (((bx[2]?).getD []).drop o)) := rfl
@[go_sem] theorem frzs_0_3 (bx : List (List AV)) (sz o n c : Nat) : AV.frz 0 bx (.bsl sz 3 o n c) = .lst sz n (chunkA sz (((bx[3]?).getD []).drop o)) := rfl
@[go_sem] theorem frzs_0_4 (bx : List (List AV)) (sz o n c : Nat) : AV.frz 0 bx (.bsl sz 4 o n c) = .lst sz n (chunkA sz (((bx[4]?).getD []).drop o)) := rfl
@[go_sem] theorem frzs_0_5 (bx : List (List AV)) (sz o n c : Nat) : AV.frz 0 bx (.bsl sz 5 o n c) = .lst sz n (chunkA sz (((bx[5]?).getD []).drop o)) := rfl
@[go_sem] theorem frzs_0_6 (bx : List (List AV)) (sz o n c : Nat) : AV.frz 0 bx (.bsl sz 6 o n c) = .lst sz n (chunkA sz (((bx[6]?).getD []).drop o)) := rfl
@[go_sem] theorem frzs_1_0 (bx : List (List AV)) (sz o n c : Nat) : AV.frz 1 bx (.bsl sz 0 o n c) = .bsl sz 0 o n c := rfl
@[go_sem] theorem frzs_1_1 (bx : List (List AV)) (sz o n c : Nat) : AV.frz 1 bx (.bsl sz 1 o n c) = .lst sz n (chunkA sz (((bx[1]?).getD []).drop o)) := rfl
@[go_sem] theorem frzs_1_2 (bx : List (List AV)) (sz o n c : Nat) : AV.frz 1 bx (.bsl sz 2 o n c) = .lst sz n (chunkA sz (((bx[2]?).getD []).drop o)) := rfl
@[go_sem] theorem frzs_1_3 (bx : List (List AV)) (sz o n c : Nat) : AV.frz 1 bx (.bsl sz 3 o n c) = .lst sz n (chunkA sz (((bx[3]?).getD []).drop o)) := rfl
@[go_sem] theorem frzs_1_4 (bx : List (List AV)) (sz o n c : Nat) : AV.frz 1 bx (.bsl sz 4 o n c) = .lst sz n (chunkA sz (((bx[4]?).getD []).drop o)) := rfl
@[go_sem] theorem frzs_1_5 (bx : List (List AV)) (sz o n c : Nat) : AV.frz 1 bx (.bsl sz 5 o n c) = .lst sz n (chunkA sz (((bx[5]?).getD []).drop o)) := rfl
@[go_sem] theorem frzs_1_6 (bx : List (List AV)) (sz o n c : Nat) : AV.frz 1 bx (.bsl sz 6 o n c) = .lst sz n (chunkA sz (((bx[6]?).getD []).drop o)) := rfl
@[go_sem] theorem frzs_2_0 (bx : List (List AV)) (sz o n c : Nat) : AV.frz 2 bx (.bsl sz 0 o n c) = .bsl sz 0 o n c := rfl
@[go_sem] theorem frzs_2_1 (bx : List (List AV)) (sz o n c : Nat) : AV.frz 2 bx (.bsl sz 1 o n c) = .bsl sz 1 o n c := rfl
@[go_sem] theorem frzs_2_2 (bx : List (List AV)) (sz o n c : Nat) : AV.frz 2 bx (.bsl sz 2 o n c) = .lst sz n (chunkA sz (((bx[2]?).getD []).drop o)) := rfl
@[go_sem] theorem frzs_2_3 (bx : List (List AV)) (sz o n c : Nat) : AV.frz 2 bx (.bsl sz 3 o n c) = .lst sz n (chunkA sz (((bx[3]?).getD []).drop o)) := rfl
@[go_sem] theorem frzs_2_4 (bx : List (List AV)) (sz o n c : Nat) : AV.frz 2 bx (.bsl sz 4 o n c) = .lst sz n (chunkA sz (((bx[4]?).getD []).drop o)) := rfl
@[go_sem] theorem frzs_2_5 (bx : List (List AV)) (sz o n c : Nat) : AV.frz 2 bx (.bsl sz 5 o n c) = .lst sz n (chunkA sz (((bx[5]?).getD []).drop o)) := rfl
@[go_sem] theorem frzs_2_6 (bx : List (List AV)) (sz o n c : Nat) : AV.frz 2 bx (.bsl sz 6 o n c) = .lst sz n (chunkA sz (((bx[6]?).getD []).drop o)) := rfl
@[go_sem] theorem frzs_3_0 (bx : List (List AV)) (sz o n c : Nat) : AV.frz 3 bx (.bsl sz 0 o n c) = .bsl sz 0 o n c := rfl
@[go_sem] theorem frzs_3_1 (bx : List (List AV)) (sz o n c : Nat) : AV.frz 3 bx (.bsl sz 1 o n c) = .bsl sz 1 o n c := rfl
@[go_sem] theorem frzs_3_2 (bx : List (List AV)) (sz o n c : Nat) : AV.frz 3 bx (.bsl sz 2 o n c) = .bsl sz 2 o n c := rfl
@[go_sem] theorem frzs_3_3 (bx : List (List AV)) (sz o n c : Nat) : AV.frz 3 bx (.bsl sz 3 o n c) = .lst sz n (chunkA sz (((bx[3]?).getD []).drop o)) := rfl
@[go_sem] theorem frzs_3_4 (bx : List (List AV)) (sz o n c : Nat) : AV.frz 3 bx (.bsl sz 4 o n c) = .lst sz n (chunkA sz (((bx[4]?).getD []).drop o)) := rfl
@[go_sem] theorem frzs_3_5 (bx : List (List AV)) (sz o n c : Nat) : AV.frz 3 bx (.bsl sz 5 o n c) = .lst sz n (chunkA sz (((bx[5]?).getD []).drop o)) := rfl
@[go_sem] theorem frzs_3_6 (bx : List (List AV)) (sz o n c : Nat) : AV.frz 3 bx (.bsl sz 6 o n c) = .lst sz n (chunkA sz (((bx[6]?).getD []).drop o)) := rfl
@[go_sem] theorem frzs_4_0 (bx : List (List AV)) (sz o n c : Nat) : AV.frz 4 bx (.bsl sz 0 o n c) = .bsl sz 0 o n c := rfl
@[go_sem] theorem frzs_4_1 (bx : List (List AV)) (sz o n c : Nat) : AV.frz 4 bx (.bsl sz 1 o n c) = .bsl sz 1 o n c := rfl
@[go_sem] theorem frzs_4_2 (bx : List (List AV)) (sz o n c : Nat) : AV.frz 4 bx (.bsl sz 2 o n c) = .bsl sz 2 o n c := rfl
@[go_sem] theorem frzs_4_3 (bx : List (List AV)) (sz o n c : Nat) : AV.frz 4 bx (.bsl sz 3 o n c) = .bsl sz 3 o n c := rfl
@[go_sem] theorem frzs_4_4 (bx : List (List AV)) (sz o n c : Nat) : AV.frz 4 bx (.bsl sz 4 o n c) = .lst sz n (chunkA sz (((bx[4]?).getD []).drop o)) := rfl
@[go_sem] theorem frzs_4_5 (bx : List (List AV)) (sz o n c : Nat) : AV.frz 4 bx (.bsl sz 5 o n c) = .lst sz n (chunkA sz (((bx[5]?).getD []).drop o)) := rfl
@[go_sem] theorem frzs_4_6 (bx : List (List AV)) (sz o n c : Nat) : AV.frz 4 bx (.bsl sz 6 o n c) = .lst sz n (chunkA sz (((bx[6]?).getD []).drop o)) := rfl
@[go_sem] theorem frzs_5_0 (bx : List (List AV)) (sz o n c : Nat) : AV.frz 5 bx (.bsl sz 0 o n c) = .bsl sz 0 o n c := rfl
@[go_sem] theorem frzs_5_1 (bx : List (List AV)) (sz o n c : Nat) : AV.frz 5 bx (.bsl sz 1 o n c) = .bsl sz 1 o n c := rfl
@[go_sem] theorem frzs_5_2 (bx : List (List AV)) (sz o n c : Nat) : AV.frz 5 bx (.bsl sz 2 o n c) = .bsl sz 2 o n c := rfl
@[go_sem] theorem frzs_5_3 (bx : List (List AV)) (sz o n c : Nat) : AV.frz 5 bx (.bsl sz 3 o n c) = .bsl sz 3 o n c := rfl
@[go_sem] theorem frzs_5_4 (bx : List (List AV)) (sz o n c : Nat) : AV.frz 5 bx (.bsl sz 4 o n c) = .bsl sz 4 o n c := rfl
@[go_sem] theorem frzs_5_5 (bx : List (List AV)) (sz o n c : Nat) : AV.frz 5 bx (.bsl sz 5 o n c) = .lst sz n (chunkA sz (((bx[5]?).getD []).drop o)) := rfl
@[go_sem] theorem frzs_5_6 (bx : List (List AV)) (sz o n c : Nat) : AV.frz 5 bx (.bsl sz 6 o n c) = .lst sz n (chunkA sz (((bx[6]?).getD []).drop o)) := rfl
@[go_sem] theorem frzs_6_0 (bx : List (List AV)) (sz o n c : Nat) : AV.frz 6 bx (.bsl sz 0 o n c) = .bsl sz 0 o n c := rfl
@[go_sem] theorem frzs_6_1 (bx : List (List AV)) (sz o n c : Nat) : AV.frz 6 bx (.bsl sz 1 o n c) = .bsl sz 1 o n c := rfl
@[go_sem] theorem frzs_6_2 (bx : List (List AV)) (sz o n c : Nat) : AV.frz 6 bx (.bsl sz 2 o n c) = .bsl sz 2 o n c := rfl
@[go_sem] theorem frzs_6_3 (bx : List (List AV)) (sz o n c : Nat) : AV.frz 6 bx (.bsl sz 3 o n c) = .bsl sz 3 o n c := rfl
@[go_sem] theorem frzs_6_4 (bx : List (List AV)) (sz o n c : Nat) : AV.frz 6 bx (.bsl sz 4 o n c) = .bsl sz 4 o n c := rfl
@[go_sem] theorem frzs_6_5 (bx : List (List AV)) (sz o n c : Nat) : AV.frz 6 bx (.bsl sz 5 o n c) = .bsl sz 5 o n c := rfl
@[go_sem] theorem frzs_6_6 (bx : List (List AV)) (sz o n c : Nat) : AV.frz 6 bx (.bsl sz 6 o n c) = .lst sz n (chunkA sz (((bx[6]?).getD []).drop o)) := rfl
attribute [go_sem] AV.frzL frzS List.getElem?_nil Option.getD_some
theorem obf {p : Prop} (h : p := by
    first
      | (simp [belB, belR, okFS, AV.okF, AV.okFL, AV.bel, AV.belL, go_sem]; done)
      | (simp_all [belB, belR, okFS, AV.okF, AV.okFL, AV.bel, AV.belL, go_sem]; done)
      | fail) : p := h
/-- The cells of a list literal. -/
theorem chunk_els {α : Type} [Inhabited α] {enc : α → List AV} {sz : Nat} (h : ∀ x, (enc x).length = sz) : ∀ {l : List α} {i : Nat}, i < l.length → chunkA sz (l.flatMap enc) i = els enc l i
  | [], i, hi => by simp at hi
  | x :: l, 0, _ => by simp [chunkA, els, List.flatMap_cons, ← h x]
  | x :: l, i + 1, hi => by
    have e := chunk_els h (l := l) (i := i) (by simpa using hi)
    unfold chunkA at e ⊢
    rw [List.flatMap_cons, Nat.add_mul, Nat.one_mul, Nat.add_comm, ← List.drop_drop, List.drop_left' (h x)]
    exact e
theorem chunk_lit {α : Type} [Inhabited α] {enc : α → List AV} {sz : Nat} {cs : List AV} {l : List α} {i : Nat} (h : ∀ x, (enc x).length = sz) (hc : l.flatMap enc = cs) (hi : i < l.length) : chunkA sz cs i = els enc l i := hc ▸ chunk_els h hi
/-- The index of the first element of which something holds, or -1. -/
def idxM {α : Type} (p : α → Bool) (l : List α) : Int := match l.findIdx? p with
  | some i => (i : Int)
  | none => -1
theorem idxM_hit {α : Type} [Inhabited α] {p : α → Bool} {l : List α} {k : Nat} (hk : k < l.length) (h : ∀ i, i < k → p (l.getD i default) = false) (hp : p (l.getD k default) = true) : idxM p l = (k : Int) := by
  have g : ∀ i, (hi : i < l.length) → l.getD i default = l[i] := fun i hi => by simp [hi]
  have e : l.findIdx? p = some k := by
    rw [List.findIdx?_eq_some_iff_getElem]
    refine ⟨hk, by rw [← g k hk]; exact hp, fun j hj => ?_⟩
    have := h j hj
    rw [g j (by omega)] at this
    simp [this]
  rw [idxM, e]
theorem idxM_none {α : Type} [Inhabited α] {p : α → Bool} {l : List α} (h : ∀ i, i < l.length → p (l.getD i default) = false) : idxM p l = -1 := by
  have e : l.findIdx? p = none := by
    rw [List.findIdx?_eq_none_iff]
    intro x hx
    obtain ⟨i, hi, rfl⟩ := List.mem_iff_getElem.1 hx
    have := h i hi
    simpa [hi] using this
  rw [idxM, e]
theorem idxM_any {α : Type} (p : α → Bool) (l : List α) : decide (0 ≤ idxM p l) = l.any p := by
  unfold idxM
  cases h : l.findIdx? p with
  | none =>
    rw [List.findIdx?_eq_none_iff] at h
    simp only [Int.reduceNeg, Int.reduceLE, decide_false]
    rw [eq_comm, List.any_eq_false]
    intro x hx
    simp [h x hx]
  | some i =>
    have := List.findIdx?_eq_some_iff_getElem.1 h
    obtain ⟨h1, h2, _⟩ := this
    simp only [show decide (0 ≤ (i : Int)) = true from by simp]
    rw [eq_comm, List.any_eq_true]
    exact ⟨l[i], List.getElem_mem _, h2⟩
theorem Sim.func (g : FuncId) : Sim (.raw (.func (.func g) #[] #[])) (.fn (.func g) [] []) := by
  rintro G w v rfl
  exact ⟨[], [], rfl, rfl, rfl⟩
theorem simF {p : Prop} (h : p := by
    ((repeat' apply And.intro) <;> first
        | trivial
        | exact Sim.refl _
        | exact Sim.func _
        | exact Sim.nil rfl
        | (refine Sim.lstE ?_ ?_ <;> first | rfl | (simp [lA]; done) | (simp; done) | (simp; omega) | (intro i hi; first | rfl | exact chunk_lit (fun _ => rfl) rfl hi | (simp [els]; done) | exact els_append rfl)))) : p := h
theorem simsF {p : Prop} (h : p := by
    first
      | exact simsT
      | exact (Sim.lstE rfl fun i hi => chunk_lit (fun _ => rfl) rfl hi).s
      | exact (Sim.func _).s) : p := h
end Go.Proofs.YtihnjbnlbedpaaaDoor
