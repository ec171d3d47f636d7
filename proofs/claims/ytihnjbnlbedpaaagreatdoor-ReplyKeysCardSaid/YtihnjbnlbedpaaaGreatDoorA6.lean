/- The abstract logic: own variables that nobody writes any more; functions that are handed functions. -/
import Derived.Test.YtihnjbnlbedpaaaGreatDoorA5
namespace Go.Proofs.YtihnjbnlbedpaaaGreatDoor
set_option linter.unusedVariables false
set_option linter.unusedSimpArgs false
set_option maxHeartbeats 4000000
set_option maxRecDepth 100000
open Go.RowKit
mutual
/-- Own variables from a place on are cells that nobody writes. -/
def AV.frz (m : Nat) (bx : List (List AV)) : AV → AV
  | .raw v => .raw v
  | .agg cs => .agg (AV.frzL m bx cs)
  | .tup cs => .tup (AV.frzL m bx cs)
  | .lst sz n el => .lst sz n el
  | .elt cs o => .elt (AV.frzL m bx cs) o
  | .box b o => bif Nat.blt b m then .box b o else .elt ((bx[b]?).getD []) o
  | .fn f a b => .fn f (AV.frzL m bx a) (AV.frzL m bx b)
  | .row k n => .row k n
  | .bsl sz b off n cap => bif Nat.blt b m then .bsl sz b off n cap else .lst sz n (chunkA sz (((bx[b]?).getD []).drop off))
def AV.frzL (m : Nat) (bx : List (List AV)) : List AV → List AV
  | [] => []
  | c :: cs => AV.frz m bx c :: AV.frzL m bx cs
end
mutual
def AV.okF (m : Nat) (bx : List (List AV)) : AV → Prop
  | .raw _ => True
  | .agg cs => AV.okFL m bx cs
  | .tup cs => AV.okFL m bx cs
  | .lst _ n el => ∀ i, i < n → AV.belL m (el i)
  | .elt cs _ => AV.okFL m bx cs
  | .box b _ => b < m ∨ (b < bx.length ∧ AV.belL m ((bx[b]?).getD []))
  | .fn _ a b => AV.okFL m bx a ∧ AV.okFL m bx b
  | .row _ _ => True
  | .bsl sz b off n _ => b < m ∨ (b < bx.length ∧ AV.belL m ((bx[b]?).getD []) ∧ off + n * sz ≤ ((bx[b]?).getD []).length)
def AV.okFL (m : Nat) (bx : List (List AV)) : List AV → Prop
  | [] => True
  | c :: cs => AV.okF m bx c ∧ AV.okFL m bx cs
end
section
variable {G : Gh} {w : World} {bx : List (List AV)} {rw : List ARow} {m : Nat}
theorem cut_up (xs : List AV) (vs : List Value) (hb : AV.belL m xs) (hr : AV.relL G w xs vs) : AV.relL (G.cut m w) w xs vs :=
  AV.relL_bel (G := G) (G' := G.cut m w) (fun _ _ i => .inl i) (fun k x hk hx => cut_bx hk hx) rfl xs vs hb hr
mutual
theorem AV.rel_frz (hm : MSat G w bx rw) : ∀ (x : AV) (v : Value), x.okF m bx → x.rel G w v → (x.frz m bx).rel (G.cut m w) w v
  | .raw _, _, _, h => h
  | .agg cs, _, f, ⟨vs, e, h⟩ => ⟨vs, e, AV.relL_frz hm cs vs f h⟩
  | .tup cs, _, f, ⟨vs, e, h⟩ => ⟨vs, e, AV.relL_frz hm cs vs f h⟩
  | .lst sz n el, v, f, h => by
    have := cut_up (m := m) [.lst sz n el] [v] ⟨f, trivial⟩ ⟨v, [], rfl, h, rfl⟩
    obtain ⟨v', r, e, h1, _⟩ := this
    cases e
    exact h1
  | .elt cs _, _, f, ⟨b, o, vs, e, h1, h2⟩ => ⟨b, o, vs, e, AV.relL_frz hm cs vs f h1, fun j u hj => ⟨.inl (h2 j u hj).1, (h2 j u hj).2⟩⟩
  | .box b off, v, f, ⟨blk, h1, h2⟩ => by
    unfold AV.frz
    cases hb : Nat.blt b m
    · have hge : m ≤ b := by
        rcases Nat.lt_or_ge b m with h | h
        · rw [← Nat.blt_eq] at h; rw [h] at hb; cases hb
        · exact h
      simp only [cond_false]
      rcases f with f | ⟨f1, f2⟩
      · omega
      have hcs : bx[b]? = some ((bx[b]?).getD []) := by rw [List.getElem?_eq_getElem f1]; rfl
      obtain ⟨_, vs, T, h3, h4⟩ := hm.box b _ blk hcs h1
      refine ⟨blk, 0, vs, by simpa using h2, cut_up _ _ f2 h4, fun j u hj => ?_⟩
      have hc : w.cell? ⟨blk, 0 + j, none⟩ = some u := by simp [World.cell?, h3, hj]
      refine ⟨.inr ⟨?_, by rw [hc]; rfl⟩, hc⟩
      refine List.mem_of_getElem? (i := b - m) ?_
      rw [List.getElem?_drop, show m + (b - m) = b from by omega]
      exact h1
    · simp only [cond_true]
      exact ⟨blk, cut_bx (by rwa [← Nat.blt_eq]) h1, h2⟩
  | .fn _ a b, _, f, ⟨fs, cs, e, h1, h2⟩ => ⟨fs, cs, e, AV.relL_frz hm a fs f.1 h1, AV.relL_frz hm b cs f.2 h2⟩
  | .row _ _, _, _, h => h
  | .bsl sz b off n cap, v, f, ⟨blk, A, h1, h2, h3, h4, h5⟩ => by
    unfold AV.frz
    cases hb : Nat.blt b m
    · have hge : m ≤ b := by
        rcases Nat.lt_or_ge b m with h | h
        · rw [← Nat.blt_eq] at h; rw [h] at hb; cases hb
        · exact h
      simp only [cond_false]
      rcases f with f | ⟨f1, f2, f3⟩
      · omega
      have hcs : bx[b]? = some ((bx[b]?).getD []) := by rw [List.getElem?_eq_getElem f1]; rfl
      obtain ⟨_, vs, T, h6, h7⟩ := hm.box b _ blk hcs h1
      have hl := AV.relL_length h7
      refine ⟨A, cap, h2, h3, h4, fun hn => ⟨blk, off, h5 (by omega), fun i hi => ⟨((vs.drop off).drop (i * sz)).take sz, AV.relL_take _ (AV.relL_drop _ (AV.relL_drop _ (cut_up _ _ f2 h7))), ?_, fun j u hj => ?_⟩⟩⟩
      · have h8 : (i + 1) * sz ≤ n * sz := Nat.mul_le_mul_right _ hi
        rw [Nat.add_mul] at h8
        simp only [List.length_take, List.length_drop]
        omega
      · rw [List.getElem?_take] at hj
        split at hj
        · rw [List.getElem?_drop, List.getElem?_drop] at hj
          have hc : w.cell? ⟨blk, off + i * sz + j, none⟩ = some u := by
            rw [show off + i * sz + j = off + (i * sz + j) from by omega]
            simp [World.cell?, h6, hj]
          refine ⟨.inr ⟨?_, by rw [hc]; rfl⟩, hc⟩
          refine List.mem_of_getElem? (i := b - m) ?_
          rw [List.getElem?_drop, show m + (b - m) = b from by omega]
          exact h1
        · cases hj
    · simp only [cond_true]
      exact ⟨blk, A, cut_bx (by rwa [← Nat.blt_eq]) h1, h2, h3, h4, h5⟩
theorem AV.relL_frz (hm : MSat G w bx rw) : ∀ (xs : List AV) (vs : List Value), AV.okFL m bx xs → AV.relL G w xs vs → AV.relL (G.cut m w) w (AV.frzL m bx xs) vs
  | [], _, _, h => h
  | x :: xs, _, f, ⟨v, r, e, h1, h2⟩ => ⟨v, r, e, AV.rel_frz hm x v f.1 h1, AV.relL_frz hm xs r f.2 h2⟩
end
end
def frzS (m : Nat) (bx : List (List AV)) : List (Nat × (Bool × AV)) → List (Nat × (Bool × AV))
  | [] => []
  | (t, (c, x)) :: r => (t, (c, x.frz m bx)) :: frzS m bx r
def okFS (m : Nat) (bx : List (List AV)) : List (Nat × (Bool × AV)) → Prop
  | [] => True
  | (_, (_, x)) :: r => x.okF m bx ∧ okFS m bx r
theorem frzS_look {m t : Nat} {bx : List (List AV)} {c : Bool} {x : AV} : ∀ {sl : List (Nat × (Bool × AV))}, okFS m bx sl → lookN t (frzS m bx sl) = some (c, x) → ∃ y, lookN t sl = some (c, y) ∧ x = y.frz m bx ∧ y.okF m bx
  | (u, (c', y)) :: r, h, hl => by
    rw [frzS, lookN_cons] at hl
    rw [lookN_cons]
    split at hl
    · rename_i e
      cases hl
      exact ⟨y, by simp [e], rfl, h.1⟩
    · rename_i e
      rw [if_neg e]
      exact frzS_look h.2 hl
theorem Weak.freeze {nt nb : Nat} {sl : List (Nat × (Bool × AV))} {bx : List (List AV)} {rw : List ARow} {ys : (Nat × List (List AV)) × List (List AV) × Bool} (m : Nat) (h1 : nb % 64 ≤ m) (h2 : belB m (bx.take m)) (h3 : belR m rw) (h4 : okFS m bx sl) :
    Weak ⟨nt, nb, sl, bx, rw, ys⟩ ⟨nt, nb, frzS m bx sl, bx.take m, rw, ys⟩ := by
  intro P C G a w hs
  obtain ⟨c1, c2⟩ := hs.callers
  simp only at c1 c2
  have hlb : C.G0.bx.length ≤ m := by omega
  have hmem := msat_cut hs.mem h2 h3
  obtain ⟨D, hD⟩ := hs.env
  refine ⟨G.cut m w, hs.size, hs.callers, hs.frame, ⟨fun b o i => .inl (hs.le.imm b o i), hs.le.cell, fun k x hx => cut_bx (Nat.lt_of_lt_of_le (List.getElem?_eq_some_iff.1 hx).1 hlb) (hs.le.bx k x hx), hs.le.rw⟩, fun b o i => ?_, fun blk hb => hs.ownB blk (List.mem_of_mem_take hb), hs.ownR,
    ⟨D, hD.l, ?_, hD.sub, hD.lt, fun k hk => hD.bx k (List.mem_of_mem_take hk), hD.rw, fun b o i => ?_, hD.marks, hD.record⟩, hmem, fun t c x hl => ?_⟩
  · rcases i with i | ⟨i, _⟩
    · exact hs.fresh b o i
    · rcases hs.ownB b (List.mem_of_mem_drop i) with hb2 | hb2
      · exfalso
        obtain ⟨q, hq⟩ := List.getElem?_of_mem hb2
        have h6 := hs.le.bx q b hq
        obtain ⟨q2, hq2⟩ := List.getElem?_of_mem i
        rw [List.getElem?_drop] at hq2
        have hl : q < G.bx.length := (List.getElem?_eq_some_iff.1 h6).1
        have := (List.getElem?_inj hl hs.mem.nodup).1 (h6.trans hq2.symm)
        have hql : q < C.G0.bx.length := (List.getElem?_eq_some_iff.1 hq).1
        omega
      · exact .inr (.inl hb2)
  · exact C.stable _ _ _ _ _ _ _ hD.cons (Outside.refl _ _) (fun b o i => ⟨.inl i, rfl⟩)
  · rcases i with i | ⟨i, _⟩
    · exact hD.imm b o i
    · exact .inr (hD.bx b (List.mem_of_mem_drop i))
  · obtain ⟨y, q1, rfl, q2⟩ := frzS_look h4 hl
    obtain ⟨v, e1, e2, e3⟩ := hs.slot t c y q1
    exact ⟨v, e1, fun hc => AV.rel_frz hs.mem y v q2 (e2 hc), e3⟩
theorem wpA_freeze {P : Program} {c : Code} {Q : Exit → ASt → Prop} {nt nb : Nat} {sl : List (Nat × (Bool × AV))} {bx : List (List AV)} {rw : List ARow} {ys : (Nat × List (List AV)) × List (List AV) × Bool} (m : Nat)
    (h1 : nb % 64 ≤ m ∧ belB m (bx.take m) ∧ belR m rw ∧ okFS m bx sl) (h : ∃ sl', frzS m bx sl = sl' ∧ ∃ bx', bx.take m = bx' ∧ wpA P c Q ⟨nt, nb, sl', bx', rw, ys⟩) : wpA P c Q ⟨nt, nb, sl, bx, rw, ys⟩ := by
  obtain ⟨_, rfl, _, rfl, h⟩ := h
  exact wpA_weak (Weak.freeze m h1.1 h1.2.1 h1.2.2.1 h1.2.2.2) h
theorem runS_weak {P : Program} {ops : Array Oper} {l : List Oper} {K : ASt → Prop} {st st' : ASt} (h : Weak st st') (hr : runS P ops l K st') : runS P ops l K st := fun C G a w Q hs hQ =>
  let ⟨G', h1⟩ := h P C G a w hs
  hr C G' a w Q h1 hQ
theorem runS_freeze {P : Program} {ops : Array Oper} {l : List Oper} {K : ASt → Prop} {nt nb : Nat} {sl : List (Nat × (Bool × AV))} {bx : List (List AV)} {rw : List ARow} {ys : (Nat × List (List AV)) × List (List AV) × Bool} (m : Nat)
    (h1 : nb % 64 ≤ m ∧ belB m (bx.take m) ∧ belR m rw ∧ okFS m bx sl) (h : ∃ sl', frzS m bx sl = sl' ∧ ∃ bx', bx.take m = bx' ∧ runS P ops l K ⟨nt, nb, sl', bx', rw, ys⟩) : runS P ops l K ⟨nt, nb, sl, bx, rw, ys⟩ := by
  obtain ⟨_, rfl, _, rfl, h⟩ := h
  exact runS_weak (Weak.freeze m h1.1 h1.2.1 h1.2.2.1 h1.2.2.2) h
section
variable (m : Nat) (bx : List (List AV))
@[go_sem] theorem frz_raw (v : Value) : AV.frz m bx (.raw v) = .raw v := rfl
@[go_sem] theorem frz_agg (cs : List AV) : AV.frz m bx (.agg cs) = .agg (AV.frzL m bx cs) := rfl
@[go_sem] theorem frz_tup (cs : List AV) : AV.frz m bx (.tup cs) = .tup (AV.frzL m bx cs) := rfl
@[go_sem] theorem frz_lst (sz n : Nat) (el : Nat → List AV) : AV.frz m bx (.lst sz n el) = .lst sz n el := rfl
@[go_sem] theorem frz_elt (cs : List AV) (o : Nat) : AV.frz m bx (.elt cs o) = .elt (AV.frzL m bx cs) o := rfl
@[go_sem] theorem frz_fn (f : Fn) (a b : List AV) : AV.frz m bx (.fn f a b) = .fn f (AV.frzL m bx a) (AV.frzL m bx b) := rfl
@[go_sem] theorem frz_row (k n : Nat) : AV.frz m bx (.row k n) = .row k n := rfl
end
@[go_sem] theorem frzb_0_0 (bx : List (List AV)) (o : Nat) : AV.frz 0 bx (.box 0 o) = .elt ((bx[0]?).getD []) o := rfl
@[go_sem] theorem frzb_0_1 (bx : List (List AV)) (o : Nat) : AV.frz 0 bx (.box 1 o) = .elt ((bx[1]?).getD []) o := rfl
@[go_sem] theorem frzb_0_2 (bx : List (List AV)) (o : Nat) : AV.frz 0 bx (.box 2 o) = .elt ((bx[2]?).getD []) o := rfl
@[go_sem] theorem frzb_0_3 (bx : List (List AV)) (o : Nat) : AV.frz 0 bx (.box 3 o) = .elt ((bx[3]?).getD []) o := rfl
@[go_sem] theorem frzb_0_4 (bx : List (List AV)) (o : Nat) : AV.frz 0 bx (.box 4 o) = .elt ((bx[4]?).getD []) o := rfl
@[go_sem] theorem frzb_0_5 (bx : List (List AV)) (o : Nat) : AV.frz 0 bx (.box 5 o) = .elt ((bx[5]?).getD []) o := rfl
@[go_sem] theorem frzb_0_6 (bx : List (List AV)) (o : Nat) : AV.frz 0 bx (.box 6 o) = .elt ((bx[6]?).getD []) o := rfl
@[go_sem] theorem frzb_1_0 (bx : List (List AV)) (o : Nat) : AV.frz 1 bx (.box 0 o) = .box 0 o := rfl
@[go_sem] theorem frzb_1_1 (bx : List (List AV)) (o : Nat) : AV.frz 1 bx (.box 1 o) = .elt ((bx[1]?).getD []) o := rfl
@[go_sem] theorem frzb_1_2 (bx : List (List AV)) (o : Nat) : AV.frz 1 bx (.box 2 o) = .elt ((bx[2]?).getD []) o := rfl
@[go_sem] theorem frzb_1_3 (bx : List (List AV)) (o : Nat) : AV.frz 1 bx (.box 3 o) = .elt ((bx[3]?).getD []) o := rfl
@[go_sem] theorem frzb_1_4 (bx : List (List AV)) (o : Nat) : AV.frz 1 bx (.box 4 o) = .elt ((bx[4]?).getD []) o := rfl
@[go_sem] theorem frzb_1_5 (bx : List (List AV)) (o : Nat) : AV.frz 1 bx (.box 5 o) = .elt ((bx[5]?).getD []) o := rfl
@[go_sem] theorem frzb_1_6 (bx : List (List AV)) (o : Nat) : AV.frz 1 bx (.box 6 o) = .elt ((bx[6]?).getD []) o := rfl
@[go_sem] theorem frzb_2_0 (bx : List (List AV)) (o : Nat) : AV.frz 2 bx (.box 0 o) = .box 0 o := rfl
@[go_sem] theorem frzb_2_1 (bx : List (List AV)) (o : Nat) : AV.frz 2 bx (.box 1 o) = .box 1 o := rfl
@[go_sem] theorem frzb_2_2 (bx : List (List AV)) (o : Nat) : AV.frz 2 bx (.box 2 o) = .elt ((bx[2]?).getD []) o := rfl
@[go_sem] theorem frzb_2_3 (bx : List (List AV)) (o : Nat) : AV.frz 2 bx (.box 3 o) = .elt ((bx[3]?).getD []) o := rfl
@[go_sem] theorem frzb_2_4 (bx : List (List AV)) (o : Nat) : AV.frz 2 bx (.box 4 o) = .elt ((bx[4]?).getD []) o := rfl
@[go_sem] theorem frzb_2_5 (bx : List (List AV)) (o : Nat) : AV.frz 2 bx (.box 5 o) = .elt ((bx[5]?).getD []) o := rfl
@[go_sem] theorem frzb_2_6 (bx : List (List AV)) (o : Nat) : AV.frz 2 bx (.box 6 o) = .elt ((bx[6]?).getD []) o := rfl
@[go_sem] theorem frzb_3_0 (bx : List (List AV)) (o : Nat) : AV.frz 3 bx (.box 0 o) = .box 0 o := rfl
@[go_sem] theorem frzb_3_1 (bx : List (List AV)) (o : Nat) : AV.frz 3 bx (.box 1 o) = .box 1 o := rfl
@[go_sem] theorem frzb_3_2 (bx : List (List AV)) (o : Nat) : AV.frz 3 bx (.box 2 o) = .box 2 o := rfl
@[go_sem] theorem frzb_3_3 (bx : List (List AV)) (o : Nat) : AV.frz 3 bx (.box 3 o) = .elt ((bx[3]?).getD []) o := rfl
@[go_sem] theorem frzb_3_4 (bx : List (List AV)) (o : Nat) : AV.frz 3 bx (.box 4 o) = .elt ((bx[4]?).getD []) o := rfl
@[go_sem] theorem frzb_3_5 (bx : List (List AV)) (o : Nat) : AV.frz 3 bx (.box 5 o) = .elt ((bx[5]?).getD []) o := rfl
@[go_sem] theorem frzb_3_6 (bx : List (List AV)) (o : Nat) : AV.frz 3 bx (.box 6 o) = .elt ((bx[6]?).getD []) o := rfl
@[go_sem] theorem frzb_4_0 (bx : List (List AV)) (o : Nat) : AV.frz 4 bx (.box 0 o) = .box 0 o := rfl
@[go_sem] theorem frzb_4_1 (bx : List (List AV)) (o : Nat) : AV.frz 4 bx (.box 1 o) = .box 1 o := rfl
@[go_sem] theorem frzb_4_2 (bx : List (List AV)) (o : Nat) : AV.frz 4 bx (.box 2 o) = .box 2 o := rfl
@[go_sem] theorem frzb_4_3 (bx : List (List AV)) (o : Nat) : AV.frz 4 bx (.box 3 o) = .box 3 o := rfl
@[go_sem] theorem frzb_4_4 (bx : List (List AV)) (o : Nat) : AV.frz 4 bx (.box 4 o) = .elt ((bx[4]?).getD []) o := rfl
@[go_sem] theorem frzb_4_5 (bx : List (List AV)) (o : Nat) : AV.frz 4 bx (.box 5 o) = .elt ((bx[5]?).getD []) o := rfl
@[go_sem] theorem frzb_4_6 (bx : List (List AV)) (o : Nat) : AV.frz 4 bx (.box 6 o) = .elt ((bx[6]?).getD []) o := rfl
@[go_sem] theorem frzb_5_0 (bx : List (List AV)) (o : Nat) : AV.frz 5 bx (.box 0 o) = .box 0 o := rfl
@[go_sem] theorem frzb_5_1 (bx : List (List AV)) (o : Nat) : AV.frz 5 bx (.box 1 o) = .box 1 o := rfl
@[go_sem] theorem frzb_5_2 (bx : List (List AV)) (o : Nat) : AV.frz 5 bx (.box 2 o) = .box 2 o := rfl
@[go_sem] theorem frzb_5_3 (bx : List (List AV)) (o : Nat) : AV.frz 5 bx (.box 3 o) = .box 3 o := rfl
@[go_sem] theorem frzb_5_4 (bx : List (List AV)) (o : Nat) : AV.frz 5 bx (.box 4 o) = .box 4 o := rfl
@[go_sem] theorem frzb_5_5 (bx : List (List AV)) (o : Nat) : AV.frz 5 bx (.box 5 o) = .elt ((bx[5]?).getD []) o := rfl
@[go_sem] theorem frzb_5_6 (bx : List (List AV)) (o : Nat) : AV.frz 5 bx (.box 6 o) = .elt ((bx[6]?).getD []) o := rfl
@[go_sem] theorem frzb_6_0 (bx : List (List AV)) (o : Nat) : AV.frz 6 bx (.box 0 o) = .box 0 o := rfl
@[go_sem] theorem frzb_6_1 (bx : List (List AV)) (o : Nat) : AV.frz 6 bx (.box 1 o) = .box 1 o := rfl
@[go_sem] theorem frzb_6_2 (bx : List (List AV)) (o : Nat) : AV.frz 6 bx (.box 2 o) = .box 2 o := rfl
@[go_sem] theorem frzb_6_3 (bx : List (List AV)) (o : Nat) : AV.frz 6 bx (.box 3 o) = .box 3 o := rfl
@[go_sem] theorem frzb_6_4 (bx : List (List AV)) (o : Nat) : AV.frz 6 bx (.box 4 o) = .box 4 o := rfl
@[go_sem] theorem frzb_6_5 (bx : List (List AV)) (o : Nat) : AV.frz 6 bx (.box 5 o) = .box 5 o := rfl
@[go_sem] theorem frzb_6_6 (bx : List (List AV)) (o : Nat) : AV.frz 6 bx (.box 6 o) = .elt ((bx[6]?).getD []) o := rfl
/-- What kind of operation it is: so that no rule is tried in vain. -/
def opCls : Op → Nat
  | .call c => match c.callee with
    | .builtin .append => 2
    | .builtin _ => 0
    | _ => 1
  | .buildSlice _ _ _ => 3
  | .makeSlice _ _ _ => 3
  | .alloc _ => 4
  | .box _ _ => 5
  | .store _ _ _ => 6
  | .makeMap _ _ => 7
  | .mapUpdate _ _ _ _ => 8
  | .lookup _ _ _ _ => 9
  | _ => 0
theorem gateS {P : Program} {ops : Array Oper} {r : List Oper} {k : ASt → Prop} {st : ASt} {o : Oper} (n : Nat) (hc : opCls o.op = n) (h : runS P ops (o :: r) k st) : runS P ops (o :: r) k st := h
theorem gateF {P : Program} {full : List Oper} {es : List (Nat × (Bool × AV))} {ks : List Kd} {r : List Oper} {k : ASt → Prop} {sl0 : List (Nat × (Bool × AV))} {st : ASt} {o : Oper} (n : Nat) (hc : opCls o.op = n) (h : runF P full es ks (o :: r) k sl0 st) : runF P full es ks (o :: r) k sl0 st := h
@[go_sem] theorem frzs_0_0 (bx : List (List AV)) (sz o n c : Nat) : AV.frz 0 bx (.bsl sz 0 o n c) = .lst sz n (chunkA sz (((bx[0]?).getD []).drop o)) := rfl
@[go_sem] theorem frzs_0_1 (bx : List (List AV)) (sz o n c : Nat) : AV.frz 0 bx (.bsl sz 1 o n c) = .lst sz n (chunkA sz (((bx[1]?).getD []).drop o)) := rfl
@[go_sem] theorem frzs_0_2 (bx : List (List AV)) (sz o n c : Nat) : AV.frz 0 bx (.bsl sz 2 o n c) = .lst sz n (chunkA sz (((bx[2]?).getD []).drop o)) := rfl
@[go_sem] theorem frzs_0_3 (bx : List (List AV)) (sz o n c : Nat) : AV.frz 0 bx (.bsl sz 3 o n c) = .lst sz n (chunkA sz (((bx[3]?).getD []).drop o)) := rfl
@[go_sem] theorem frzs_0_4 (bx : List (List AV)) (sz o n c : Nat) : AV.frz 0 bx (.bsl sz 4 o n c) = .lst sz n (chunkA sz (((bx[4]?).getD []).drop o)) := rfl
@[go_sem] theorem frzs_0_5 (bx : List (List AV)) (sz o n c : Nat) : AV.frz 0 bx (.bsl sz 5 o n c) = .lst sz n (chunkA sz (((bx[5]?).getD []).drop o)) := rfl
@[go_sem] theorem frzs_0_6 (bx : List (List AV)) (sz o n c : Nat) : AV.frz 0 bx (.bsl sz 6 o n c) = .lst sz n (chunkA sz (((bx[6]?).getD []).drop o)) := rfl
@[go_sem] theorem frzs_1_0 (bx : List (List AV)) (sz o n c : Nat) : AV.frz 1 bx (.bsl sz 0 o n c) = .bsl sz 0 o n c := rfl
@[go_sem] theorem frzs_1_1 (bx : List (List AV)) (sz o n c : Nat) : AV.frz 1 bx (.bsl sz 1 o n c) = .lst sz n (chunkA sz (((bx[1]?).getD []).drop o)) := rfl
@[go_sem] theorem frzs_1_2 (bx : List (List AV)) (sz o n c : Nat) : AV.frz 1 bx (.bsl sz 2 o n c) = .lst sz n (chunkA sz (((bx[2]?).getD []).drop o)) := rfl
@[go_sem] theorem frzs_1_3 (bx : List (List AV)) (sz o n c : Nat) : AV.frz 1 bx (.bsl sz 3 o n c) = .lst sz n (chunkA sz (((bx[3]?).getD []).drop o)) := rfl
@[go_sem] theorem frzs_1_4 (bx : List (List AV)) (sz o n c : Nat) : AV.frz 1 bx (.bsl sz 4 o n c) = .lst sz n (chunkA sz (((bx[4]?).getD []).drop o)) := rfl
@[go_sem] theorem frzs_1_5 (bx : List (List AV)) (sz o n c : Nat) : AV.frz 1 bx (.bsl sz 5 o n c) = .lst sz n (chunkA sz (((bx[5]?).getD []).drop o)) := rfl
@[go_sem] theorem frzs_1_6 (bx : List (List AV)) (sz o n c : Nat) : AV.frz 1 bx (.bsl sz 6 o n c) = .lst sz n (chunkA sz (((bx[6]?).getD []).drop o)) := rfl
@[go_sem] theorem frzs_2_0 (bx : List (List AV)) (sz o n c : Nat) : AV.frz 2 bx (.bsl sz 0 o n c) = .bsl sz 0 o n c := rfl
@[go_sem] theorem frzs_2_1 (bx : List (List AV)) (sz o n c : Nat) : AV.frz 2 bx (.bsl sz 1 o n c) = .bsl sz 1 o n c := rfl
@[go_sem] theorem frzs_2_2 (bx : List (List AV)) (sz o n c : Nat) : AV.frz 2 bx (.bsl sz 2 o n c) = .lst sz n (chunkA sz (((bx[2]?).getD []).drop o)) := rfl
@[go_sem] theorem frzs_2_3 (bx : List (List AV)) (sz o n c : Nat) : AV.frz 2 bx (.bsl sz 3 o n c) = .lst sz n (chunkA sz (((bx[3]?).getD []).drop o)) := rfl
@[go_sem] theorem frzs_2_4 (bx : List (List AV)) (sz o n c : Nat) : AV.frz 2 bx (.bsl sz 4 o n c) = .lst sz n (chunkA sz (((bx[4]?).getD []).drop o)) := rfl
@[go_sem] theorem frzs_2_5 (bx : List (List AV)) (sz o n c : Nat) : AV.frz 2 bx (.bsl sz 5 o n c) = .lst sz n (chunkA sz (((bx[5]?).getD []).drop o)) := rfl
@[go_sem] theorem frzs_2_6 (bx : List (List AV)) (sz o n c : Nat) : AV.frz 2 bx (.bsl sz 6 o n c) = .lst sz n (chunkA sz (((bx[6]?).getD []).drop o)) := rfl
@[go_sem] theorem frzs_3_0 (bx : List (List AV)) (sz o n c : Nat) : AV.frz 3 bx (.bsl sz 0 o n c) = .bsl sz 0 o n c := rfl
@[go_sem] theorem frzs_3_1 (bx : List (List AV)) (sz o n c : Nat) : AV.frz 3 bx (.bsl sz 1 o n c) = .bsl sz 1 o n c := rfl
@[go_sem] theorem frzs_3_2 (bx : List (List AV)) (sz o n c : Nat) : AV.frz 3 bx (.bsl sz 2 o n c) = .bsl sz 2 o n c := rfl
@[go_sem] theorem frzs_3_3 (bx : List (List AV)) (sz o n c : Nat) : AV.frz 3 bx (.bsl sz 3 o n c) = .lst sz n (chunkA sz (((bx[3]?).getD []).drop o)) := rfl
@[go_sem] theorem frzs_3_4 (bx : List (List AV)) (sz o n c : Nat) : AV.frz 3 bx (.bsl sz 4 o n c) = .lst sz n (chunkA sz (((bx[4]?).getD []).drop o)) := rfl
@[go_sem] theorem frzs_3_5 (bx : List (List AV)) (sz o n c : Nat) : AV.frz 3 bx (.bsl sz 5 o n c) = .lst sz n (chunkA sz (((bx[5]?).getD []).drop o)) := rfl
@[go_sem] theorem frzs_3_6 (bx : List (List AV)) (sz o n c : Nat) : AV.frz 3 bx (.bsl sz 6 o n c) = .lst sz n (chunkA sz (((bx[6]?).getD []).drop o)) := rfl
@[go_sem] theorem frzs_4_0 (bx : List (List AV)) (sz o n c : Nat) : AV.frz 4 bx (.bsl sz 0 o n c) = .bsl sz 0 o n c := rfl
@[go_sem] theorem frzs_4_1 (bx : List (List AV)) (sz o n c : Nat) : AV.frz 4 bx (.bsl sz 1 o n c) = .bsl sz 1 o n c := rfl
@[go_sem] theorem frzs_4_2 (bx : List (List AV)) (sz o n c : Nat) : AV.frz 4 bx (.bsl sz 2 o n c) = .bsl sz 2 o n c := rfl
@[go_sem] theorem frzs_4_3 (bx : List (List AV)) (sz o n c : Nat) : AV.frz 4 bx (.bsl sz 3 o n c) = .bsl sz 3 o n c := rfl
@[go_sem] theorem frzs_4_4 (bx : List (List AV)) (sz o n c : Nat) : AV.frz 4 bx (.bsl sz 4 o n c) = .lst sz n (chunkA sz (((bx[4]?).getD []).drop o)) := rfl
@[go_sem] theorem frzs_4_5 (bx : List (List AV)) (sz o n c : Nat) : AV.frz 4 bx (.bsl sz 5 o n c) = .lst sz n (chunkA sz (((bx[5]?).getD []).drop o)) := rfl
@[go_sem] theorem frzs_4_6 (bx : List (List AV)) (sz o n c : Nat) : AV.frz 4 bx (.bsl sz 6 o n c) = .lst sz n (chunkA sz (((bx[6]?).getD []).drop o)) := rfl
@[go_sem] theorem frzs_5_0 (bx : List (List AV)) (sz o n c : Nat) : AV.frz 5 bx (.bsl sz 0 o n c) = .bsl sz 0 o n c := rfl
@[go_sem] theorem frzs_5_1 (bx : List (List AV)) (sz o n c : Nat) : AV.frz 5 bx (.bsl sz 1 o n c) = .bsl sz 1 o n c := rfl
@[go_sem] theorem frzs_5_2 (bx : List (List AV)) (sz o n c : Nat) : AV.frz 5 bx (.bsl sz 2 o n c) = .bsl sz 2 o n c := rfl
@[go_sem] theorem frzs_5_3 (bx : List (List AV)) (sz o n c : Nat) : AV.frz 5 bx (.bsl sz 3 o n c) = .bsl sz 3 o n c := rfl
@[go_sem] theorem frzs_5_4 (bx : List (List AV)) (sz o n c : Nat) : AV.frz 5 bx (.bsl sz 4 o n c) = .bsl sz 4 o n c := rfl
@[go_sem] theorem frzs_5_5 (bx : List (List AV)) (sz o n c : Nat) : AV.frz 5 bx (.bsl sz 5 o n c) = .lst sz n (chunkA sz (((bx[5]?).getD []).drop o)) := rfl
@[go_sem] theorem frzs_5_6 (bx : List (List AV)) (sz o n c : Nat) : AV.frz 5 bx (.bsl sz 6 o n c) = .lst sz n (chunkA sz (((bx[6]?).getD []).drop o)) := rfl
@[go_sem] theorem frzs_6_0 (bx : List (List AV)) (sz o n c : Nat) : AV.frz 6 bx (.bsl sz 0 o n c) = .bsl sz 0 o n c := rfl
@[go_sem] theorem frzs_6_1 (bx : List (List AV)) (sz o n c : Nat) : AV.frz 6 bx (.bsl sz 1 o n c) = .bsl sz 1 o n c := rfl
@[go_sem] theorem frzs_6_2 (bx : List (List AV)) (sz o n c : Nat) : AV.frz 6 bx (.bsl sz 2 o n c) = .bsl sz 2 o n c := rfl
@[go_sem] theorem frzs_6_3 (bx : List (List AV)) (sz o n c : Nat) : AV.frz 6 bx (.bsl sz 3 o n c) = .bsl sz 3 o n c := rfl
@[go_sem] theorem frzs_6_4 (bx : List (List AV)) (sz o n c : Nat) : AV.frz 6 bx (.bsl sz 4 o n c) = .bsl sz 4 o n c := rfl
@[go_sem] theorem frzs_6_5 (bx : List (List AV)) (sz o n c : Nat) : AV.frz 6 bx (.bsl sz 5 o n c) = .bsl sz 5 o n c := rfl
@[go_sem] theorem frzs_6_6 (bx : List (List AV)) (sz o n c : Nat) : AV.frz 6 bx (.bsl sz 6 o n c) = .lst sz n (chunkA sz (((bx[6]?).getD []).drop o)) := rfl
attribute [go_sem] AV.frzL frzS List.getElem?_nil Option.getD_some
theorem obf {p : Prop} (h : p := by
    first
      | (simp [belB, belR, okFS, AV.okF, AV.okFL, AV.bel, AV.belL, go_sem]; done)
      | (simp_all [belB, belR, okFS, AV.okF, AV.okFL, AV.bel, AV.belL, go_sem]; done)
      | fail) : p := h
/-- The cells of a list literal. -/
theorem chunk_els {α : Type} [Inhabited α] {enc : α → List AV} {sz : Nat} (h : ∀ x, (enc x).length = sz) : ∀ {l : List α} {i : Nat}, i < l.length → chunkA sz (l.flatMap enc) i = els enc l i
  | [], i, hi => by simp at hi
  | x :: l, 0, _ => by simp [chunkA, els, List.flatMap_cons, ← h x]
  | x :: l, i + 1, hi => by
    have e := chunk_els h (l := l) (i := i) (by simpa using hi)
    unfold chunkA at e ⊢
    rw [List.flatMap_cons, Nat.add_mul, Nat.one_mul, Nat.add_comm, ← List.drop_drop, List.drop_left' (h x)]
    exact e
theorem chunk_lit {α : Type} [Inhabited α] {enc : α → List AV} {sz : Nat} {cs : List AV} {l : List α} {i : Nat} (h : ∀ x, (enc x).length = sz) (hc : l.flatMap enc = cs) (hi : i < l.length) : chunkA sz cs i = els enc l i := hc ▸ chunk_els h hi
/-- The index of the first element of which something holds, or -1. -/
def idxM {α : Type} (p : α → Bool) (l : List α) : Int := match l.findIdx? p with
  | some i => (i : Int)
  | none => -1
theorem idxM_hit {α : Type} [Inhabited α] {p : α → Bool} {l : List α} {k : Nat} (hk : k < l.length) (h : ∀ i, i < k → p (l.getD i default) = false) (hp : p (l.getD k default) = true) : idxM p l = (k : Int) := by
  have g : ∀ i, (hi : i < l.length) → l.getD i default = l[i] := fun i hi => by simp [hi]
  have e : l.findIdx? p = some k := by
    rw [List.findIdx?_eq_some_iff_getElem]
    refine ⟨hk, by rw [← g k hk]; exact hp, fun j hj => ?_⟩
    have := h j hj
    rw [g j (by omega)] at this
    simp [this]
  rw [idxM, e]
theorem idxM_none {α : Type} [Inhabited α] {p : α → Bool} {l : List α} (h : ∀ i, i < l.length → p (l.getD i default) = false) : idxM p l = -1 := by
  have e : l.findIdx? p = none := by
    rw [List.findIdx?_eq_none_iff]
    intro x hx
    obtain ⟨i, hi, rfl⟩ := List.mem_iff_getElem.1 hx
    have := h i hi
    simpa [hi] using this
  rw [idxM, e]
theorem idxM_any {α : Type} (p : α → Bool) (l : List α) : decide (0 ≤ idxM p l) = l.any p := by
  unfold idxM
  cases h : l.findIdx? p with
  | none =>
    rw [List.findIdx?_eq_none_iff] at h
    simp only [Int.reduceNeg, Int.reduceLE, decide_false]
    rw [eq_comm, List.any_eq_false]
    intro x hx
    simp [h x hx]
  | some i =>
    have := List.findIdx?_eq_some_iff_getElem.1 h
    obtain ⟨h1, h2, _⟩ := this
    simp only [show decide (0 ≤ (i : Int)) = true from by simp]
    rw [eq_comm, List.any_eq_true]
    exact ⟨l[i], List.getElem_mem _, h2⟩
theorem Sim.func (g : FuncId) : Sim (.raw (.func (.func g) #[] #[])) (.fn (.func g) [] []) := by
  rintro G w v rfl
  exact ⟨[], [], rfl, rfl, rfl⟩
theorem simF {p : Prop} (h : p := by
    ((repeat' apply And.intro) <;> first
        | trivial
        | exact Sim.refl _
        | exact Sim.func _
        | exact Sim.nil rfl
        | (refine Sim.lstE ?_ ?_ <;> first | rfl | (simp [lA]; done) | (simp; done) | (simp; omega) | (intro i hi; first | rfl | exact chunk_lit (fun _ => rfl) rfl hi | (simp [els]; done) | exact els_append rfl)))) : p := h
theorem simsF {p : Prop} (h : p := by
    first
      | exact simsT
      | exact (Sim.lstE rfl fun i hi => chunk_lit (fun _ => rfl) rfl hi).s
      | exact (Sim.func _).s) : p := h
end Go.Proofs.YtihnjbnlbedpaaaGreatDoor
/- The abstract logic: slices of own variables. -/
namespace Go.Proofs.YtihnjbnlbedpaaaGreatDoor
set_option linter.unusedVariables false
set_option linter.unusedSimpArgs false
set_option maxHeartbeats 4000000
set_option maxRecDepth 100000
open Go.RowKit
/-- Operations on slices of own variables. -/
def opB (T : TT) (st : ASt) (o : Op) : Option (List Bool × AV × Prop) :=
  match o with
  | .call c => match c.callee with
    | .builtin .len => match c.args.toList, c.argTypes.toList with
      | [x], [t] => match st.ev x, T t with
        | some (g, .bsl _ _ _ n _), some ⟨.slice _, _, _, _, _⟩ => some ([g], .raw (.int .i64 n), True)
        | _, _ => none
      | _, _ => none
    | .builtin .cap => match c.args.toList, c.argTypes.toList with
      | [x], [t] => match st.ev x, T t with
        | some (g, .bsl _ _ _ _ cap), some ⟨.slice _, _, _, _, _⟩ => some ([g], .raw (.int .i64 cap), True)
        | _, _ => none
      | _, _ => none
    | _ => none
  | .indexAddr t x ix => match T t with
    | some ⟨.slice e, _, _, _, _⟩ => match st.ev x, st.ev ix, T e with
      | some (g, .bsl sz b off n _), some (g', .raw (.int _ i)), some j => some ([g, g'], .box b (off + i.toNat * sz), 0 ≤ i ∧ i < n ∧ j.size = sz)
      | _, _, _ => none
    | _ => none
  | .slice t x lo hi none => match T t with
    | some ⟨.slice e, _, _, _, _⟩ => match st.ev x, T e, optI st lo, optI st hi with
      | some (g, .bsl sz b off n cap), some j, some (gl, l), some (gh, h) => some (g :: (gl ++ gh), .bsl sz b (off + (loI l).toNat * sz) (cutN n l h) (cap - (loI l).toNat), (0 ≤ loI l ∧ loI l ≤ hiI n h ∧ hiI n h ≤ cap) ∧ j.size = sz)
      | _, _, _, _ => none
    | some ⟨.array n e, _, _, _, _⟩ => match st.ev x, T e, optI st lo, optI st hi with
      | some (g, .box b off), some j, some (gl, l), some (gh, h) => some (g :: (gl ++ gh), .bsl j.size b (off + (loI l).toNat * j.size) (cutN n l h) (n - (loI l).toNat), (0 ≤ loI l ∧ loI l ≤ hiI n h ∧ hiI n h ≤ n) ∧ n ≤ maxLen)
      | _, _, _, _ => none
    | _ => none
  | _ => none
section
variable {P : Program} {T : TT} {G : Gh} {w : World} {a : Act} {st : ASt}
theorem add_lit (b o k : Nat) : (⟨b, o, none⟩ : Addr).add k = ⟨b, o + k, none⟩ := by
  unfold Addr.add; split
  · rename_i h0; rw [h0]; rfl
  · rfl
theorem slice_bsl {t sz b off n cap : Nat} {lo hi : Option Operand} {l h : Option Int} (u1 : P.underlying t = some (.slice (P.elem t))) (hs : (sizeOf (P.elem t)).run P w = .ok sz w)
    (o1 : (lo = none ∧ l = none) ∨ ∃ k i, l = some i ∧ lo.map a.eval = some (.int k i)) (o2 : (hi = none ∧ h = none) ∨ ∃ k i, h = some i ∧ hi.map a.eval = some (.int k i)) (hb : 0 ≤ loI l ∧ loI l ≤ hiI n h ∧ hiI n h ≤ cap) {x : Value} (hx : (AV.bsl sz b off n cap).rel G w x) :
    ∃ u, (Instr.slice t x (lo.map a.eval) (hi.map a.eval) none).run P w = .ok u w ∧ (AV.bsl sz b (off + (loI l).toNat * sz) (cutN n l h) (cap - (loI l).toNat)).rel G w u := by
  obtain ⟨blk, A, hA0, rfl, hnc, hcm, hA⟩ := hx
  obtain ⟨b1, b2, b3⟩ := hb
  have run : (Instr.slice t (.slice A n cap) (lo.map a.eval) (hi.map a.eval) none).run P w = .ok (sliced A (loI l).toNat (hiI n h).toNat cap sz) w := by
    rcases o1 with ⟨rfl, rfl⟩ | ⟨k, i, rfl, e1⟩ <;> rcases o2 with ⟨rfl, rfl⟩ | ⟨k', i', rfl, e2⟩
    · simp only [Option.map_none, run_slice_all w t A n cap u1, hs, loI, hiI, Int.toNat_natCast]; rfl
    · simp only [loI, hiI] at b1 b2 b3
      simp only [Option.map_none, e2, run_slice_h w t A n cap u1 k' i' (by omega) (by omega), hs, loI, hiI]; rfl
    · simp only [loI, hiI] at b1 b2 b3
      simp only [Option.map_none, e1, run_slice_l w t A n cap u1 k i (by omega) (by omega), hs, loI, hiI, Int.toNat_natCast]; rfl
    · simp only [loI, hiI] at b1 b2 b3
      simp only [e1, e2, run_slice_lh w t A n cap u1 k k' i i' (by omega) (by omega) (by omega), hs, loI, hiI]; rfl
  refine ⟨_, run, ?_⟩
  have hN : cutN n l h = (hiI n h).toNat - (loI l).toNat := by
    cases l <;> cases h <;> simp [cutN, loI, hiI]
  rw [hN]
  refine ⟨blk, _, hA0, rfl, by omega, by omega, fun hn => ?_⟩
  rw [if_neg (by omega), hA (by omega)]
  simp [add_lit]
theorem slice_arr {t sz b off n : Nat} {lo hi : Option Operand} {l h : Option Int} (u1 : P.underlying t = some (.array (P.arrayLen t) (P.elem t))) (hn : P.arrayLen t = n) (hs : (sizeOf (P.elem t)).run P w = .ok sz w)
    (o1 : (lo = none ∧ l = none) ∨ ∃ k i, l = some i ∧ lo.map a.eval = some (.int k i)) (o2 : (hi = none ∧ h = none) ∨ ∃ k i, h = some i ∧ hi.map a.eval = some (.int k i)) (hb : (0 ≤ loI l ∧ loI l ≤ hiI n h ∧ hiI n h ≤ n) ∧ n ≤ maxLen) {x : Value} (hx : (AV.box b off).rel G w x) :
    ∃ u, (Instr.sliceAt t x (lo.map a.eval) (hi.map a.eval) none).run P w = .ok u w ∧ (AV.bsl sz b (off + (loI l).toNat * sz) (cutN n l h) (n - (loI l).toNat)).rel G w u := by
  obtain ⟨blk, hA0, rfl⟩ := hx
  subst hn
  obtain ⟨⟨b1, b2, b3⟩, b4⟩ := hb
  have run : (Instr.sliceAt t (.pointer (some ⟨blk, off, none⟩)) (lo.map a.eval) (hi.map a.eval) none).run P w = .ok (slicedAt ⟨blk, off, none⟩ (loI l).toNat (hiI (P.arrayLen t) h).toNat (P.arrayLen t) sz) w := by
    rcases o1 with ⟨rfl, rfl⟩ | ⟨k, i, rfl, e1⟩ <;> rcases o2 with ⟨rfl, rfl⟩ | ⟨k', i', rfl, e2⟩
    · simp only [Option.map_none, run_sliceAt_array_all w t _ u1, hs, loI, hiI, Int.toNat_natCast]; rfl
    · simp only [loI, hiI] at b1 b2 b3
      simp only [Option.map_none, e2, run_sliceAt_array_h w t _ u1 k' i' (by omega) (by omega), hs, loI, hiI]; rfl
    · simp only [loI, hiI] at b1 b2 b3
      simp only [Option.map_none, e1, run_sliceAt_array_l w t _ u1 k i (by omega) (by omega), hs, loI, hiI, Int.toNat_natCast]; rfl
    · simp only [loI, hiI] at b1 b2 b3
      simp only [e1, e2, run_sliceAt_array_lh w t _ u1 k k' i i' (by omega) (by omega) (by omega), hs, loI, hiI]; rfl
  refine ⟨_, run, ?_⟩
  have hN : cutN (P.arrayLen t) l h = (hiI (P.arrayLen t) h).toNat - (loI l).toNat := by
    cases l <;> cases h <;> simp [cutN, loI, hiI]
  rw [hN]
  refine ⟨blk, _, hA0, rfl, by omega, by omega, fun hn => ?_⟩
  rw [if_neg (by omega), add_lit]
theorem opB_sound (hT : TOk P T) {o : Oper} (hev : ∀ x ∈ o.op.operands.toList, EvOk G w a st x) {cs : List Bool} {r : AV} {p : Prop}
    (h : opB T st o.op = some (cs, r, p)) (hc : ∀ c ∈ cs, c = true) (hp : p) : ∃ v, (execOp a.eval o).run P w = .ok (.value v) w ∧ r.rel G w v := by
  obtain ⟨dst, op, type, pos, after, guard⟩ := o
  simp only at h hev
  cases op with
  | call c =>
    obtain ⟨callee, args, argTypes⟩ := c
    obtain ⟨args⟩ := args
    obtain ⟨argTypes⟩ := argTypes
    simp only [opB] at h
    split at h
    · split at h
      · rename_i x t
        split at h
        · rename_i g sz b off n cap e _ _ _ _ h1 h2
          simp only [Option.some.injEq, Prod.mk.injEq] at h
          obtain ⟨rfl, rfl, rfl⟩ := h
          obtain ⟨blk, A, _, e1, _⟩ := hev x (by simp [Op.operands, Call.operands]) _ _ h1 (hc g (by simp))
          refine ⟨.int .i64 n, ?_, rfl⟩
          simp [execOp, resolve, invoke, builtin, e1, len_slice_run (hT _ _ h2) rfl]
        · cases h
      · cases h
    · split at h
      · rename_i x t
        split at h
        · rename_i g sz b off n cap e _ _ _ _ h1 h2
          simp only [Option.some.injEq, Prod.mk.injEq] at h
          obtain ⟨rfl, rfl, rfl⟩ := h
          obtain ⟨blk, A, _, e1, _⟩ := hev x (by simp [Op.operands, Call.operands]) _ _ h1 (hc g (by simp))
          refine ⟨.int .i64 cap, ?_, rfl⟩
          obtain ⟨d1, q1, q2⟩ := (hT _ _ h2).und_some
          have u1 : P.underlying t = some (.slice (P.elem t)) := by rw [q1, tkOf_slice q2]; simp [Program.elem, q1, tkOf_slice q2]
          simp [execOp, resolve, invoke, builtin, e1, run_cap_slice w t type A n cap u1, goInt]
        · cases h
      · cases h
    · cases h
  | indexAddr t x ix =>
    simp only [opB] at h
    split at h
    · rename_i e _ _ _ _ h4
      split at h
      · rename_i g sz b off n cap g' k i j h1 h2 h5
        simp only [Option.some.injEq, Prod.mk.injEq] at h
        obtain ⟨rfl, rfl, rfl⟩ := h
        obtain ⟨p1, p2, p3⟩ := hp
        obtain ⟨blk, A, hA0, e1, hnc, _, hA⟩ := hev x (by simp [Op.operands]) _ _ h1 (hc g (by simp))
        have e3 := rel_raw (hev ix (by simp [Op.operands]) _ _ h2 (hc g' (by simp)))
        have hA' := hA (by omega)
        subst hA'
        refine ⟨.pointer (some ⟨blk, off + i.toNat * sz, none⟩), ?_, blk, hA0, rfl⟩
        simp only [execOp, e1, e3, Sem.run_bind]
        rw [indexAt_run (hT _ _ h4) rfl (hT _ _ h5) p1 p2, p3]
        rfl
      · cases h
    · cases h
  | slice t x lo hi mx =>
    cases mx with
    | some _ => simp [opB] at h
    | none =>
    simp only [opB] at h
    split at h
    · rename_i e _ _ _ _ h1
      split at h
      · rename_i g sz b off n cap j gl l gh hh h2 h3 h4 h5
        simp only [Option.some.injEq, Prod.mk.injEq] at h
        obtain ⟨rfl, rfl, rfl⟩ := h
        obtain ⟨hb, hsz⟩ := hp
        have e1 := hev x (by simp [Op.operands]) _ _ h2 (hc g (by simp))
        obtain ⟨d1, q1, q2⟩ := (hT _ _ h1).und_some
        have u1 : P.underlying t = some (.slice (P.elem t)) := by rw [q1, tkOf_slice q2]; simp [Program.elem, q1, tkOf_slice q2]
        have u2 : P.elem t = e := by simp [Program.elem, q1, tkOf_slice q2]
        have o1 := optI_sound (fun y hy => hev y (by simp [Op.operands, hy])) h4 (fun c hcc => hc c (by simp [hcc]))
        have o2 := optI_sound (fun y hy => hev y (by simp [Op.operands, hy])) h5 (fun c hcc => hc c (by simp [hcc]))
        have s1 := (hT _ _ h3).size_run w
        rw [← u2] at s1
        obtain ⟨u, r1, r2⟩ := slice_bsl u1 (by rw [s1, hsz]) o1 o2 hb e1
        exact ⟨u, by simp only [execOp, Sem.run_bind, run_sliceAt_slice w t _ _ _ _ u1, Option.map_none, r1]; rfl, r2⟩
      · cases h
    · rename_i n e _ _ _ _ h1
      split at h
      · rename_i g b off j gl l gh hh h2 h3 h4 h5
        simp only [Option.some.injEq, Prod.mk.injEq] at h
        obtain ⟨rfl, rfl, rfl⟩ := h
        have e1 := hev x (by simp [Op.operands]) _ _ h2 (hc g (by simp))
        obtain ⟨d1, q1, q2⟩ := (hT _ _ h1).und_some
        have u0 := tkOf_array q2
        have u1 : P.underlying t = some (.array (P.arrayLen t) (P.elem t)) := by simp [Program.elem, Program.arrayLen, q1, u0]
        have u2 : P.elem t = e := by simp [Program.elem, q1, u0]
        have u3 : P.arrayLen t = n := by simp [Program.arrayLen, q1, u0]
        have o1 := optI_sound (fun y hy => hev y (by simp [Op.operands, hy])) h4 (fun c hcc => hc c (by simp [hcc]))
        have o2 := optI_sound (fun y hy => hev y (by simp [Op.operands, hy])) h5 (fun c hcc => hc c (by simp [hcc]))
        have s1 := (hT _ _ h3).size_run w
        rw [← u2] at s1
        obtain ⟨u, r1, r2⟩ := slice_arr u1 u3 s1 o1 o2 hp e1
        exact ⟨u, by simp only [execOp, Sem.run_bind, Option.map_none, r1]; rfl, r2⟩
      · cases h
    · cases h
  | _ => simp [opB] at h
theorem opSpec_B (hT : TOk P T) {ops : Array Oper} {o : Oper} {g : Bool} {cs : List Bool} {x : AV} {p : Prop} (hg : guardA ops st o = some g) (h : opB T st o.op = some (cs, x, p))
    (hp : g = true → (∀ c ∈ cs, c = true) ∧ p) : OpSpec P ops o st g x := by
  intro G a w htb hm hs
  refine ⟨guardA_sound hg hs, fun hgt ro K Q hK => ?_⟩
  obtain ⟨v, h1, h2⟩ := opB_sound (P := P) (a := a) hT (fun y hy => evOk_of fun t ht => hs t (looks_operand (by rw [← ht]; exact hy))) h (hp hgt).1 (hp hgt).2
  refine wpIn_of_run (fun c hc => by rw [hc] at h; simp [opB] at h) ?_
  rw [h1]
  exact hK v G w (Ext.refl hm) h2
end
section runs
variable {P : Program} {T : TT} {ops : Array Oper} {r : List Oper} {k : ASt → Prop} {nt nb : Nat} {sl : List (Nat × (Bool × AV))} {bx : List (List AV)} {rw : List ARow} {ys : (Nat × List (List AV)) × List (List AV) × Bool} {o : Oper} {d : Nat}
  {full : List Oper} {es : List (Nat × (Bool × AV))} {ks : List Kd} {sl0 : List (Nat × (Bool × AV))}
theorem runS_bsl (hT : TOk P T) (hd : o.dst = some d) (hn : Nat.blt d nt = true)
    (h : ∃ g, guardA ops ⟨nt, nb, sl, bx, rw, ys⟩ o = some g ∧ ∃ cs x p, opB T ⟨nt, nb, sl, bx, rw, ys⟩ o.op = some (cs, x, p) ∧ (g = true → (∀ c ∈ cs, c = true) ∧ p) ∧ runS P ops r k ⟨nt, nb, (d, (g, x)) :: sl, bx, rw, ys⟩) : runS P ops (o :: r) k ⟨nt, nb, sl, bx, rw, ys⟩ :=
  let ⟨_, hg, _, _, _, h, hp, hk⟩ := h
  runS_op hd (opSpec_B hT hg h hp) hn hk
theorem runF_bsl (hT : TOk P T) (hd : o.dst = some d)
    (h : ∃ g, guardA full.toArray ⟨nt, nb, sl, bx, rw, ys⟩ o = some g ∧ ∃ cs x p, opB T ⟨nt, nb, sl, bx, rw, ys⟩ o.op = some (cs, x, p) ∧ (g = true → (∀ c ∈ cs, c = true) ∧ p) ∧ runF P full (es ++ [(d, (g, x))]) (ks ++ [.pure]) r k sl0 ⟨nt, nb, (d, (g, x)) :: sl, bx, rw, ys⟩) : runF P full es ks (o :: r) k sl0 ⟨nt, nb, sl, bx, rw, ys⟩ := by
  obtain ⟨g, hg, cs, x, p, h1, h2, h3⟩ := h
  exact runF_step (g := g) (x := x) (kd := .pure) hd (fun _ _ => opSpec_B hT hg h1 h2) (fun cs h => by cases h) h3
end runs
attribute [go_sem] opB
end Go.Proofs.YtihnjbnlbedpaaaGreatDoor
/- The abstract logic: slices of own variables are made. -/
namespace Go.Proofs.YtihnjbnlbedpaaaGreatDoor
set_option linter.unusedVariables false
set_option linter.unusedSimpArgs false
set_option maxHeartbeats 4000000
set_option maxRecDepth 100000
open Go.RowKit
theorem relL_flat {G : Gh} {w : World} {sz : Nat} {el : Nat → List AV} : ∀ {m : Nat} {news : List Value}, news.length = m * sz → (∀ i, i < m → ∃ vs, AV.relL G w (el i) vs ∧ vs.length = sz ∧ ∀ q u, vs[q]? = some u → news[i * sz + q]? = some u) → AV.relL G w ((List.range m).flatMap el) news
  | 0, news, hl, _ => by
    have : news = [] := List.eq_nil_of_length_eq_zero (by simpa using hl)
    subst this
    rfl
  | m + 1, news, hl, h => by
    rw [List.range_succ, List.flatMap_append]
    have hl1 : news.length = m * sz + sz := by rw [hl, Nat.add_mul, Nat.one_mul]
    obtain ⟨vs, h1, h2, h3⟩ := h m (by omega)
    have e : news = news.take (m * sz) ++ vs := by
      refine List.ext_getElem (by simp; omega) fun k k1 k2 => ?_
      by_cases hk : k < m * sz
      · rw [List.getElem_append_left (by simp; omega), List.getElem_take]
      · rw [List.getElem_append_right (by simp; omega)]
        have hq : k - (news.take (m * sz)).length = k - m * sz := by simp; omega
        have := h3 (k - m * sz) (vs[k - m * sz]'(by omega)) (List.getElem?_eq_getElem (by omega))
        rw [show m * sz + (k - m * sz) = k from by omega, List.getElem?_eq_getElem k1] at this
        simp only [Option.some.injEq] at this
        rw [this]
        congr 1
        exact hq.symm
    rw [e]
    refine AV.relL_append (relL_flat (sz := sz) (by simp; omega) fun i hi => ?_) (by simpa using h1)
    obtain ⟨us, g1, g2, g3⟩ := h i (by omega)
    refine ⟨us, g1, g2, fun q u hq => ?_⟩
    have hql : q < sz := by rw [← g2]; exact (List.getElem?_eq_some_iff.1 hq).1
    have hle : (i + 1) * sz ≤ m * sz := Nat.mul_le_mul_right _ hi
    rw [Nat.add_mul, Nat.one_mul] at hle
    rw [List.getElem?_take, if_pos (by omega)]
    exact g3 q u hq
theorem flat_els {α : Type} [Inhabited α] (enc : α → List AV) (l : List α) : (List.range l.length).flatMap (els enc l) = l.flatMap enc := by
  have : (List.range l.length).map (els enc l) = l.map enc := by
    refine List.ext_getElem (by simp) fun i h1 h2 => ?_
    simp at h1
    simp [els, h1]
  rw [List.flatMap_def, List.flatMap_def, this]
/-- A literal, as a slice of an own variable. -/
theorem runS_mkBsl {P : Program} {T : TT} (hT : TOk P T) {ops : Array Oper} {rest : List Oper} {K : ASt → Prop} {nt nb : Nat} {sl : List (Nat × (Bool × AV))} {bx : List (List AV)} {rw : List ARow} {ys : (Nat × List (List AV)) × List (List AV) × Bool} {o : Oper} {d : Nat}
    {t len : Nat} {parts : Array (Nat × Operand)} (hop : o.op = .buildSlice t len parts) (hg : o.guard = none) (hd : o.dst = some d) (hn : Nat.blt d nt = true)
    (h : ∃ e s1 b1 z1 q1, T t = some ⟨.slice e, s1, b1, z1, q1⟩ ∧ ∃ j, T e = some j ∧ ∃ gs cs p, fillA ⟨nt, nb, sl, bx, rw, ys⟩ (fun i => some (i * j.size, j.size)) parts.toList (zerosA len j.zero) = some (gs, cs, p) ∧ ((∀ c ∈ gs, c = true) ∧ p) ∧ (0 < j.size ∧ len * j.size ≤ 16777216 ∧ j.zero.length = j.size) ∧
      ∃ m, bx.length = m ∧ ∃ bx', bx ++ [cs] = bx' ∧ runS P ops rest K ⟨nt, nb, (d, (true, .bsl j.size m 0 len len)) :: sl, bx', rw, ys⟩) : runS P ops (o :: rest) K ⟨nt, nb, sl, bx, rw, ys⟩ := by
  obtain ⟨e, s1, b1, z1, q1, h1, j, h2, gs, cs, p, h3, ⟨hc, hp⟩, ⟨p2, p3, p4⟩, m, rfl, bx', rfl, hk⟩ := h
  intro C G a w Q hs hQ
  refine wpListIn_plain hg fun K' hK => ?_
  refine wpIn_of_run (fun c hc => by rw [hop] at hc; cases hc) ?_
  obtain ⟨dst, op, type, pos, after, guard⟩ := o
  simp only at hop hd
  subst hop
  subst hd
  obtain ⟨us, e1, e2⟩ := fillA_sound (a := a) hs.mem _ _ _ _ _ _ (fun q hq => evOk_of fun t ht => hs.slot t) h3 hc hp (zerosA_rel len j.zero)
  have e3 := buildSlice_run (w := w) (hT _ _ h1) rfl (hT _ _ h2) p2 p3 p4 (parts := parts.map fun q => (q.1, a.eval q.2)) (us := us) (by simpa using e1)
  have hrun : (execOp a.eval ⟨some d, .buildSlice t len parts, type, pos, after, guard⟩).run P w = .ok (.value (.slice (some ⟨w.heap.size, 0, none⟩) len len)) (w.alloc (.cells us.toArray e)) := by
    simp only [execOp, Sem.run_bind, e3, Result.andThen_ok]; rfl
  rw [hrun, Oper.uponIn_value]
  have hml : len ≤ maxLen := by
    have : len ≤ len * j.size := Nat.le_mul_of_pos_right _ p2
    simp only [maxLen]; omega
  refine hK _ _ (hk C _ _ _ Q ((hs.push e e2).put (by simpa [Nat.blt_eq] using hn) (fun _ => ⟨w.heap.size, _, ?_, rfl, Nat.le_refl _, hml, fun _ => rfl⟩) (fun h => by cases h)) hQ)
  show (G.bx ++ [w.heap.size])[bx.length]? = _
  rw [← hs.mem.lenB, List.getElem?_append_right (Nat.le_refl _), Nat.sub_self]
  rfl
theorem zeroCells_list (z : Array Value) (k : Nat) : (Builtin.zeroCells z k).toList = zerosV k z.toList := by
  refine List.ext_getElem? fun j => ?_
  by_cases h : j < k * z.size
  · rw [zerosV_get k z.toList j (by simpa using h)]
    have hz : 0 < z.size := by
      rcases Nat.eq_zero_or_pos z.size with h0 | h0
      · rw [h0] at h; omega
      · exact h0
    have hm : j % z.size < z.size := Nat.mod_lt _ hz
    simp [Builtin.zeroCells, h, hm]
  · rw [List.getElem?_eq_none (by simp [Builtin.zeroCells]; omega), List.getElem?_eq_none (by rw [zerosV_length]; simp; omega)]
/-- What is appended to an empty slice of an own variable. -/
def appBS (st : ASt) (o : Op) : Option (List Bool × Nat × Nat × Nat × (Nat → List AV) × Prop × TypeId) :=
  match o with
  | .call c => match c.callee with
    | .builtin .append => match c.args.toList, c.argTypes.toList with
      | [x, y], [t, t'] => bif Nat.beq t t' then match st.ev x, st.ev y with
        | some (g1, .bsl sz _ _ 0 0), some (g2, v) => match st.asL v with
          | some (sz', m, el, p) => some ([g1, g2], sz, sz', m, el, p, t)
          | none => none
        | _, _ => none
      else none
      | _, _ => none
    | _ => none
  | _ => none
/-- What is appended to an empty slice lies in an own variable. -/
theorem runS_appBsl {P : Program} {T : TT} (hT : TOk P T) {ops : Array Oper} {rest : List Oper} {K : ASt → Prop} {nt nb : Nat} {sl : List (Nat × (Bool × AV))} {bx : List (List AV)} {rw : List ARow} {ys : (Nat × List (List AV)) × List (List AV) × Bool} {o : Oper} {d : Nat}
    (hg : o.guard = none) (hd : o.dst = some d) (hn : Nat.blt d nt = true)
    (h : ∃ cs sz sz' m el p t, appBS ⟨nt, nb, sl, bx, rw, ys⟩ o.op = some (cs, sz, sz', m, el, p, t) ∧ ((∀ c ∈ cs, c = true) ∧ p) ∧ ∃ e s1 b1 z1 q1, T t = some ⟨.slice e, s1, b1, z1, q1⟩ ∧ ∃ j, T e = some j ∧ (sz = j.size ∧ sz' = j.size ∧ 0 < j.size ∧ j.zero.length = j.size) ∧
      (∀ q, q < m → AV.oneL ⟨nt, nb, sl, bx, rw, ys⟩ (el q)) ∧ (0 < m ∧ m ≤ maxLen ∧ m * j.bytes ≤ 140737488355328) ∧ ∃ bn, bx.length = bn ∧
      ∀ c, m ≤ c → c ≤ maxLen → ∃ bx', bx ++ [(List.range m).flatMap el ++ zerosA (c - m) j.zero] = bx' ∧ runS P ops rest K ⟨nt, nb, (d, (true, .bsl j.size bn 0 m c)) :: sl, bx', rw, ys⟩) : runS P ops (o :: rest) K ⟨nt, nb, sl, bx, rw, ys⟩ := by
  obtain ⟨cs, sz, sz', m, el, p, t, h1, ⟨hc, hp⟩, e, s1, b1, z1, q1, h2, j, h3, ⟨rfl, rfl, j0, jz⟩, hone, ⟨m0, m1, m2⟩, bn, rfl, hk⟩ := h
  intro C G a w Q hs hQ
  refine wpListIn_plain hg fun K' hK => ?_
  refine wpIn_of_run (fun c hc => by rw [hc] at h1; simp [appBS] at h1) ?_
  have hev : ∀ y ∈ o.op.operands.toList, EvOk G w a ⟨nt, nb, sl, bx, rw, ys⟩ y := fun y hy => evOk_of fun t ht => hs.slot t
  obtain ⟨dst, op, type, pos, after, guard⟩ := o
  simp only at h1 hev hd
  subst hd
  unfold appBS at h1
  split at h1
  · rename_i cl
    obtain ⟨callee, args, argTypes⟩ := cl
    obtain ⟨args⟩ := args
    obtain ⟨argTypes⟩ := argTypes
    simp only at h1
    split at h1
    · split at h1
      · rename_i x y t1 t2
        cases hbt : Nat.beq t1 t2
        · rw [hbt] at h1; cases h1
        · rw [hbt] at h1
          simp only [cond_true] at h1
          obtain rfl := Nat.eq_of_beq_eq_true hbt
          split at h1
          · rename_i g1 szx b off g2 v' hx hy
            split at h1
            · rename_i sz' m' el' p' hl
              simp only [Option.some.injEq, Prod.mk.injEq] at h1
              obtain ⟨rfl, rfl, rfl, rfl, rfl, rfl, rfl⟩ := h1
              obtain ⟨blk, A, hA0, ex, _, _, _⟩ := hev x (by simp [Op.operands, Call.operands]) _ _ hx (hc g1 (by simp))
              have hyr := asL_sound hs.mem hl hp (hev y (by simp [Op.operands, Call.operands]) _ _ hy (hc g2 (by simp)))
              obtain ⟨A', cap', ey, _⟩ := id hyr
              rw [ey] at hyr
              obtain ⟨news, hnl, hna, hnw, _⟩ := lst_cells j0 hyr
              obtain ⟨a', rfl, hsrc⟩ := hna m0
              obtain ⟨d1, u1, u2⟩ := (hT _ _ h2).und_some
              have hu : P.underlying t1 = some (.slice e) := by rw [u1, tkOf_slice u2]
              obtain ⟨ie, z, g2', g1', g3, g4, e2⟩ : ∃ ie z, P.info? e = some ie ∧ ie.size = j.size ∧ ie.zero = some z ∧ ie.bytes = j.bytes ∧ z.cells.toList = j.zero := by
                have h1 := (hT _ _ h3).info
                cases hie : P.info? e with
                | none => rw [hie] at h1; cases h1
                | some x =>
                  rw [hie] at h1
                  simp only [Option.map_some, Option.some.injEq, Prod.mk.injEq] at h1
                  cases hzz : x.zero with
                  | none => rw [hzz] at h1; cases h1.1
                  | some z =>
                    rw [hzz] at h1
                    simp only [Option.map_some, Option.some.injEq] at h1
                    exact ⟨x, z, rfl, h1.2.1, hzz, h1.2.2, h1.1⟩
              have hm63 : ((0 + m' : Nat) : Int) ≤ 9223372036854775807 := by simp only [maxLen] at m1; omega
              have hfit : Builtin.nextslicecap (0 + m') 0 * ie.bytes ≤ 281474976710656 := growslice_fits (by omega) (by rw [g4, Nat.zero_add]; exact m2)
              have hrun : (Builtin.append_ #[t1, t1] type #[.slice A 0 0, .slice (some a') m' cap']).run P w = .ok (.slice (some ⟨w.heap.size, 0, none⟩) m' (grownCap w m' 0 e)) (w.drew.alloc (.cells (news.toArray ++ Builtin.zeroCells z.cells (grownCap w m' 0 e - m')) e)) := by
                cases A with
                | none => exact run_append_nil (P := P) w t1 type e ie z hu g2' g3 a' m' cap' news (by rw [g1']; exact hnl) hsrc (by omega) (by omega) (by rw [g4]; omega)
                | some A =>
                  have := run_append_grow (P := P) w t1 type e ie z hu g2' g3 A 0 0 [] (by simp) (by simp) a' m' cap' news (by rw [g1']; exact hnl) hsrc (by omega) hm63 hfit
                  simpa using this
              have hge := grownCap_ge w m' 0 e
              have hcm : grownCap w m' 0 e ≤ maxLen := grownCap_le_maxLen w m' 0 e m1
              obtain ⟨bx', rfl, hk⟩ := hk (grownCap w m' 0 e) hge hcm
              generalize grownCap w m' 0 e = c at *
              have hexec : (execOp a.eval ⟨some d, .call ⟨.builtin .append, ⟨[x, y]⟩, ⟨[t1, t1]⟩⟩, type, pos, after, guard⟩).run P w = .ok (.value (.slice (some ⟨w.heap.size, 0, none⟩) m' c)) (w.drew.alloc (.cells (news.toArray ++ Builtin.zeroCells z.cells (c - m')) e)) := by
                simp [execOp, resolve, invoke, builtin, ex, ey, hrun]
              rw [hexec, Oper.uponIn_value]
              have hb1 : Below w.heap.size w w.drew := (Below.refl _ _).drew
              have E := msat_ext hs.mem hb1 G.imm (fun _ _ i => i) (fun _ _ i => .inl i) (fun b o i => hs.mem.immOk b o i)
              have hs1 : Sat C G a w.drew ⟨nt, nb, sl, bx, rw, ys⟩ := hs.called (Outside.of_below hb1) E.le (fun _ _ i => .inl i) (fun _ h => .inl h) (fun x hx g hg => .inl ⟨x, hx, hg⟩) E.mem
              have hcells : AV.relL G w.drew ((List.range m').flatMap el' ++ zerosA (c - m') j.zero) (news ++ zerosV (c - m') j.zero) := AV.relL_append (AV.relL_mono E.le _ _ (relL_flat hnl hnw)) (zerosA_rel _ _)
              have hs2 := hs1.push e hcells
              have harr : (news ++ zerosV (c - m') j.zero).toArray = news.toArray ++ Builtin.zeroCells z.cells (c - m') := by
                apply Array.ext'
                simp [zeroCells_list, e2]
              rw [harr] at hs2
              refine hK _ _ (hk C _ _ _ Q (hs2.put (by simpa [Nat.blt_eq] using hn) (fun _ => ⟨w.heap.size, _, ?_, rfl, hge, hcm, fun _ => rfl⟩) (fun h => by cases h)) hQ)
              show (G.bx ++ [w.heap.size])[bx.length]? = _
              rw [← hs.mem.lenB, List.getElem?_append_right (Nat.le_refl _), Nat.sub_self]
              rfl
            · cases h1
          · cases h1
      · cases h1
    · cases h1
  · cases h1
attribute [go_sem] appBS
/-- One of the elements is another. -/
theorem putL_flat {α : Type} {enc : α → List AV} {sz : Nat} (hsz : ∀ x, (enc x).length = sz) : ∀ (l : List α) (i : Nat) (x : α) (r : List AV), i < l.length → putL (l.flatMap enc ++ r) (i * sz) (enc x) = (l.set i x).flatMap enc ++ r
  | [], i, x, r, h => by simp at h
  | y :: l, 0, x, r, _ => by
    have over : ∀ (us vs cs : List AV), us.length = vs.length → overL us (vs ++ cs) = us ++ cs := by
      intro us
      induction us with
      | nil => intro vs cs h; have : vs = [] := List.eq_nil_of_length_eq_zero (by simpa using h.symm); subst this; rfl
      | cons u us ih => intro vs cs h; cases vs with
        | nil => simp at h
        | cons v vs => simp only [List.cons_append, overL]; rw [ih vs cs (by simpa using h)]
    have p0 : ∀ cs us : List AV, putL cs 0 us = overL us cs := fun cs us => by cases cs <;> rfl
    simp only [Nat.zero_mul, p0, List.set_cons_zero, List.flatMap_cons, List.append_assoc]
    exact over _ _ _ ((hsz x).trans (hsz y).symm)
  | y :: l, i + 1, x, r, h => by
    have skip : ∀ (vs cs us : List AV) (k : Nat), putL (vs ++ cs) (vs.length + k) us = vs ++ putL cs k us := by
      intro vs
      induction vs with
      | nil => intro cs us k; simp
      | cons v vs ih => intro cs us k; rw [List.length_cons, show vs.length + 1 + k = vs.length + k + 1 from by omega, List.cons_append, putL, ih]; rfl
    rw [List.flatMap_cons, List.append_assoc, List.set_cons_succ, List.flatMap_cons, List.append_assoc, Nat.add_mul, Nat.one_mul, Nat.add_comm, ← hsz y, skip, hsz y, putL_flat hsz l i x r (by simpa using h)]
end Go.Proofs.YtihnjbnlbedpaaaGreatDoor
/- The abstract logic: functions of which it is left open which of some things they hand back. -/
namespace Go.Proofs.YtihnjbnlbedpaaaGreatDoor
set_option linter.unusedVariables false
set_option linter.unusedSimpArgs false
set_option maxHeartbeats 4000000
set_option maxRecDepth 100000
open Go.RowKit
/-- A function that is given variables and rows of its caller: what it may make of them. -/
structure FnX (P : Program) (f : FuncId) (args : List AV) (bx : List (List AV)) (rw : List ARow) (R : AV → List (List AV) → List ARow → Prop) : Prop where
  ok : CallOk P f
  calls : ∀ (G : Gh) (w : World) (vs : List Value), Tabs P w → (∀ g, tabBlk P g → g ∉ G.bx ∧ ∀ x ∈ G.rw, (ownBlk x.2) ≠ some g) → MSat G w bx rw → AV.relL G w args vs →
    Calls P f vs.toArray w fun e w' => ∃ r bx' rw', R r bx' rw' ∧ ∃ v G', e = .returned v ∧ Outside (fun k => k ∈ G.bx ∨ ∃ x ∈ G.rw, (ownBlk x.2) = some k) w w' ∧ G.Le w G' w' ∧ (∀ b o, G'.imm b o → G.imm b o ∨ w.heap.size ≤ b ∨ ∃ x ∈ G.rw, (ownBlk x.2) = some b) ∧
      (∀ k ∈ G'.bx, k ∈ G.bx ∨ w.heap.size ≤ k) ∧ (∀ x ∈ G'.rw, ∀ g, (ownBlk x.2) = some g → (∃ y ∈ G.rw, (ownBlk y.2) = some g) ∨ w.heap.size ≤ g) ∧ MSat G' w' bx' rw' ∧ r.rel G' w' v
theorem FnG.toX {P : Program} {f : FuncId} {args : List AV} {bx bx' : List (List AV)} {rw rw' : List ARow} {r : AV} {R : AV → List (List AV) → List ARow → Prop} (h : FnG P f args bx rw r bx' rw') (hR : R r bx' rw') : FnX P f args bx rw R :=
  ⟨h.ok, fun G w vs a b c d => (h.calls G w vs a b c d).mono fun _ _ h => ⟨r, bx', rw', hR, h⟩⟩
theorem FnX.imp {P : Program} {f : FuncId} {args : List AV} {bx : List (List AV)} {rw : List ARow} {R R' : AV → List (List AV) → List ARow → Prop} (h : FnX P f args bx rw R) (hR : ∀ r bx' rw', R r bx' rw' → R' r bx' rw') : FnX P f args bx rw R' :=
  ⟨h.ok, fun G w vs a b c d => (h.calls G w vs a b c d).mono fun _ _ ⟨r, bx', rw', h1, h2⟩ => ⟨r, bx', rw', hR _ _ _ h1, h2⟩⟩
def retPostX (T : TT) (rs : List ResultVar) (R : AV → List (List AV) → List ARow → Prop) (e : Exit) (st : ASt) : Prop := ∃ m r bx' rw', R r bx' rw' ∧ retPostG T rs m r bx' rw' e st
theorem retX_of {T : TT} {rs : List ResultVar} {R : AV → List (List AV) → List ARow → Prop} {e : Exit} {st : ASt} (m : Nat) (r : AV) (bx' : List (List AV)) (rw' : List ARow) (hR : R r bx' rw') (he : e = .normal ∨ e = .ret)
    (h : ∃ cs x p, retA T st rs = some (cs, x, p) ∧ ((∀ c ∈ cs, c = true) ∧ p) ∧ OutG m st x r ∧ st.nb % 64 ≤ m ∧ st.bx.take m = bx' ∧ st.rw = rw' ∧ belB m bx' ∧ belR m rw') : retPostX T rs R e st := ⟨m, r, bx', rw', hR, retG_of he h⟩
theorem fnX_of {P : Program} {T : TT} (hT : TOk P T) {f : FuncId} {fn : Func} {c : Code} {args : List AV} {bx : List (List AV)} {rw : List ARow} {R : AV → List (List AV) → List ARow → Prop} (hf : P.funcs[f]? = some fn) (hb : fn.body = some c) (hnm : (fn.name == "runtime.NumGoroutine") = false) (n : Nat) (hn : fn.ntmps = n) (hlen : args.length ≤ n) (rs : List ResultVar) (hrs : fn.results.toList = rs)
    (h64 : bx.length < 64) (h : wpA P c (retPostX T rs R) (entryG n args bx rw)) : FnX P f args bx rw R := by
  subst hrs
  refine ⟨⟨fn, hf, hnm, by rw [hb]; rfl⟩, fun G0 w vs htb hto hM hr => ?_⟩
  have hvl := AV.relL_length hr
  let C : Ctx P := ⟨none, (0, []), tabBlk P, W0 P w, G0.imm, G0, w, fun _ _ i => i, W0_stable htb, W0_y, W0_tabs htb⟩
  have hs : Sat C G0 { tmps := vs.toArray ++ Array.replicate (fn.ntmps - vs.toArray.size) undef, defers := [] } w (entryG n args bx rw) := by
    refine ⟨by simp [entryG, hn]; omega, ⟨by have := hM.lenB; show G0.bx.length = (bx.length + 64 * rw.length) % 64; omega, by have := hM.lenR; show G0.rw.length = (bx.length + 64 * rw.length) / 64; omega⟩, Outside.refl _ _, Gh.Le.refl _ _, fun _ _ i => .inl i, fun _ h => .inl h, fun x hx g hg => .inl ⟨x, hx, hg⟩, ⟨tabBlk P, rfl, ⟨rfl, fun _ => Iff.rfl, fun _ _ => rfl⟩, fun _ h => .inl h, fun _ h => htb.lt h, fun k h hd => (hto k hd).1 h, fun x hx g hg hd => (hto g hd).2 x hx hg, fun _ _ i => .inl i, ⟨[], rfl, by simp, fun _ h => by simp at h⟩, fun _ h => by cases h⟩, hM, ?_⟩
    intro t c x hl
    obtain ⟨j, e1, e2, rfl⟩ := argSl_look hl
    obtain ⟨v, e3, e4⟩ := AV.relL_get hr e2
    have hj : j < vs.length := (List.getElem?_eq_some_iff.1 e3).1
    refine ⟨v, ?_, fun _ => e4, fun h => by cases h⟩
    rw [show t = j from by omega, Array.getElem?_append_left (by simpa using hj)]
    simpa using e3
  refine callsIn_wide.1 (callsIn_of_wp_marks (n := 0) hf hb trivial (wpIn_mono (h _ _ _ _ hs) ?_))
  rintro e a' w1 ⟨G', st', hs1, m, r, bx', rw', hR, he, cs, x, p, h1, h2, hp, h3, hnb, rfl, rfl, h4, h5⟩
  obtain ⟨tm, df⟩ := a'
  obtain ⟨D1, hD1⟩ := hs1.env
  obtain ⟨ml, hml, _⟩ := hD1.marks
  simp only at hml
  subst hml
  have fin := Sat.leaves (F := Fence.wide) (n := 0) (fn := fn) (tmps := tm) (R := fun e w' => ∃ r bx' rw', R r bx' rw' ∧ ∃ v G', e = .returned v ∧ Outside (fun k => k ∈ G0.bx ∨ ∃ x ∈ G0.rw, (ownBlk x.2) = some k) w w' ∧ G0.Le w G' w' ∧ (∀ b o, G'.imm b o → G0.imm b o ∨ w.heap.size ≤ b ∨ ∃ x ∈ G0.rw, (ownBlk x.2) = some b) ∧
      (∀ k ∈ G'.bx, k ∈ G0.bx ∨ w.heap.size ≤ k) ∧ (∀ x ∈ G'.rw, ∀ g, (ownBlk x.2) = some g → (∃ y ∈ G0.rw, (ownBlk y.2) = some g) ∨ w.heap.size ≤ g) ∧ MSat G' w' bx' rw' ∧ r.rel G' w' v) (fun w' hs' => by
    have key : ∃ v, (results fn tm).run P w' = .ok v w' ∧ x.rel G' w' v := by
      unfold retA at h1
      split at h1
      · rename_i y p' hy
        simp only [Option.some.injEq, Prod.mk.injEq] at h1
        obtain ⟨rfl, rfl, rfl⟩ := h1
        obtain ⟨us, e1, e2⟩ := resA_sound (P := P) hT hs' hy (fun z hz => h2 z.1 (by simp at hz; subst hz; simp)) hp
        obtain ⟨v, us', rfl, e3, e4⟩ := e1
        rw [show us' = [] from e4] at e2
        exact ⟨v, by rw [results_run e2], e3⟩
      · rename_i ys p' hys hy
        simp only [Option.some.injEq, Prod.mk.injEq] at h1
        obtain ⟨rfl, rfl, rfl⟩ := h1
        obtain ⟨us, e1, e2⟩ := resA_sound (P := P) hT hs' hy (fun z hz => h2 z.1 (List.mem_map.2 ⟨z, hz, rfl⟩)) hp
        refine ⟨.tuple us.toArray, ?_, us, rfl, e1⟩
        rw [results_run e2]
        have hl := AV.relL_length e1
        rw [List.length_map] at hl
        split
        · rename_i v
          exfalso
          match ys, hl with
          | [z], _ => exact hys z rfl
        · rfl
      · cases h1
    obtain ⟨v, k2, k3⟩ := key
    have hlb : G0.bx.length ≤ m := by rw [hs'.callers.1]; exact hnb
    refine ⟨v, k2, r, _, _, hR, v, G'.cut m w', rfl, ⟨hs'.frame.os, hs'.frame.tape, hs'.frame.output, hs'.frame.size, fun k hk hn => (Classical.em (tabBlk P k)).elim (fun ht => let ⟨_, e⟩ := hs'.env; e.cons.2.2 k ht) fun ht => hs'.frame.block k hk fun hm => by
      rcases hm with hm | hm
      · exact ht hm
      · exact hn hm⟩, ⟨fun b o i => .inl (hs'.le.imm b o i), hs'.le.cell, fun k x hx => cut_bx (Nat.lt_of_lt_of_le (List.getElem?_eq_some_iff.1 hx).1 hlb) (hs'.le.bx k x hx), hs'.le.rw⟩, fun b o i => ?_, fun k hk => hs'.ownB k (List.mem_of_mem_take hk), hs'.ownR, msat_cut hs'.mem h4 h5, h3 _ _ _ hs'.mem k3⟩
    rcases i with i | ⟨i, _⟩
    · exact hs'.fresh b o i
    · rcases hs'.ownB b (List.mem_of_mem_drop i) with hb2 | hb2
      · exfalso
        obtain ⟨q, hq⟩ := List.getElem?_of_mem hb2
        have h6 := hs'.le.bx q b hq
        obtain ⟨q2, hq2⟩ := List.getElem?_of_mem i
        rw [List.getElem?_drop] at hq2
        have hl : q < G'.bx.length := (List.getElem?_eq_some_iff.1 h6).1
        have := (List.getElem?_inj hl hs'.mem.nodup).1 (h6.trans hq2.symm)
        have hql : q < G0.bx.length := (List.getElem?_eq_some_iff.1 hq).1
        omega
      · exact .inr (.inl hb2)) ml w1 hs1
  rcases he with rfl | rfl <;> exact fin
/-- A contract among more variables and rows, under other numbers. -/
theorem FnX.frame {P : Program} {f : FuncId} {args : List AV} {bx sub : List (List AV)} {rw rsub : List ARow} {R : AV → List (List AV) → List ARow → Prop} (F : FnX P f args sub rsub R) (ib ir : List Nat)
    (H : HandOk ib ir bx sub rw rsub (idx ib bx.length) (idx ir rw.length)) (ha : AV.subL ib.length ir.length args) (hl : ∀ r sub' rsub', R r sub' rsub' → ib.length ≤ sub'.length ∧ ir.length ≤ rsub'.length) :
    FnX P f (AV.renL (idx ib bx.length) (idx ir rw.length) args) bx rw fun r1 bx1 rw1 => ∃ r sub' rsub', R r sub' rsub' ∧ r1 = r.ren (idx ib bx.length) (idx ir rw.length) ∧ bx1 = setAll bx ib (sub'.map (AV.renL (idx ib bx.length) (idx ir rw.length))) ∧ rw1 = setAll rw ir (rsub'.map (ARow.ren (idx ib bx.length) (idx ir rw.length))) := by
  refine ⟨F.ok, fun G w vs htb hto hm hr => ?_⟩
  obtain ⟨hp, down⟩ := msat_pick hm H
  have inB : ∀ k, k ∈ (pickG G ib ir).bx → k ∈ G.bx := fun k hk => by
    obtain ⟨q, hq⟩ := List.getElem?_of_mem hk
    obtain ⟨j, _, j2⟩ := pick_bx hm H hq
    exact List.mem_of_getElem? j2
  have inR : ∀ x, x ∈ (pickG G ib ir).rw → x ∈ G.rw := fun k hk => by
    obtain ⟨q, hq⟩ := List.getElem?_of_mem hk
    obtain ⟨j, _, j2⟩ := pick_rw hm H hq
    exact List.mem_of_getElem? j2
  refine (F.calls _ w vs htb (fun g hg => ⟨fun h => (hto g hg).1 (inB g h), fun x hx => (hto g hg).2 x (inR x hx)⟩) hp (down _ _ ha hr)).mono ?_
  rintro e w' ⟨r, sub', rsub', hR, v, G1, rfl, hout, hle, hfr, hoB, hoR, hm1, hv⟩
  obtain ⟨l1, l2⟩ := hl r sub' rsub' hR
  obtain ⟨G2, hi, m2, le2, b2, r2, up⟩ := msat_back hm H hout hle hfr hoB hoR hm1 (setAll_upd (AV.renL (idx ib bx.length) (idx ir rw.length)) ib bx sub' H.hb.nodup H.hb.lt l1) (setAll_upd (ARow.ren (idx ib bx.length) (idx ir rw.length)) ir rw rsub' H.hr.nodup H.hr.lt l2)
  refine ⟨_, _, _, ⟨r, sub', rsub', hR, rfl, rfl, rfl⟩, v, G2, rfl, hout.mono fun k _ h => h.elim (fun h => .inl (inB k h)) fun ⟨x, hx, hg⟩ => .inr ⟨x, inR x hx, hg⟩, le2, fun b o i => ?_, b2, r2, m2, up _ _ hv⟩
  rw [hi] at i
  rcases hfr b o i with h | h | ⟨x, hx, hg⟩
  · exact .inl h
  · exact .inr (.inl h)
  · exact .inr (.inr ⟨x, inR x hx, hg⟩)
section runs
variable {P : Program} {ops : Array Oper} {rest : List Oper} {o : Oper} {cs : List Bool} {f : FuncId} {args : List AV} {R : AV → List (List AV) → List ARow → Prop}
theorem callX_walk {st : ASt} (hg : o.guard = none) (h : callA st o.op = some (cs, f, args)) (hc : ∀ c ∈ cs, c = true) (F : FnX P f args st.bx st.rw R) {C : Ctx P} {G : Gh} {a : Act} {w : World} {Q : Exit → Act → World → Prop} (hs : Sat C G a w st)
    (hQ : ∀ r bx' rw', R r bx' rw' → ∀ v G' w', Sat C G' a w' { st with bx := bx', rw := rw' } → r.rel G' w' v → wpListIn (fen C.round) 0 P ops Q rest (a.put o.dst v) w') : wpListIn (fen C.round) 0 P ops Q (o :: rest) a w := by
  obtain ⟨vs, h1, h2⟩ := callA_sound (P := P) (a := a) h (fun y hy => evOk_of fun t ht => hs.slot t) hc F.ok
  refine wpListIn_plain hg fun K hK => ?_
  refine wpIn_of_run (fun c hc => by rw [hc] at h; simp [callA] at h) ?_
  rw [h2, Oper.uponIn_enter]
  refine ⟨fun h => by simp [fen] at h, callsIn_fen ?_⟩
  refine (F.calls G w vs hs.tabs hs.tabs_own hs.mem h1).mono ?_
  rintro e w' ⟨r, bx', rw', hR, v, G', rfl, hout, hle, hfr, hB, hR', hm1, hv⟩
  exact hK _ _ (hQ r bx' rw' hR v G' w' (hs.called hout hle hfr hB hR' hm1) hv)
variable {K : ASt → Prop} {nt nb : Nat} {sl : List (Nat × (Bool × AV))} {bx : List (List AV)} {rw : List ARow} {ys : (Nat × List (List AV)) × List (List AV) × Bool} {d : Nat}
/-- A call of a function that writes, ready for evaluation. -/
theorem sCallX (ib ir : List Nat) {sub : List (List AV)} {rsub : List ARow} (F : FnX P f args sub rsub R) (hg : o.guard = none) (hd : o.dst = some d) (hn : Nat.blt d nt = true)
    (h : ∃ m, bx.length = m ∧ ∃ n, rw.length = n ∧ ∃ cs, callA ⟨nt, nb, sl, bx, rw, ys⟩ o.op = some (cs, f, AV.renL (idx ib m) (idx ir n) args) ∧ (∀ c ∈ cs, c = true) ∧ ib.Nodup ∧ ir.Nodup ∧ handL bx (AV.renL (idx ib m) (idx ir n)) ib sub ∧ handL rw (ARow.ren (idx ib m) (idx ir n)) ir rsub ∧
      ((∀ cs ∈ sub, AV.subL ib.length ir.length cs) ∧ (∀ r ∈ rsub, ∀ q, q < r.n → AV.subL ib.length ir.length (r.el q)) ∧ AV.subL ib.length ir.length args) ∧ (∀ r sub' rsub', R r sub' rsub' → ib.length ≤ sub'.length ∧ ir.length ≤ rsub'.length) ∧
      ∀ r sub' rsub', R r sub' rsub' → ∃ r1, r.ren (idx ib m) (idx ir n) = r1 ∧ ∃ bx1, setAll bx ib (sub'.map (AV.renL (idx ib m) (idx ir n))) = bx1 ∧ ∃ rw1, setAll rw ir (rsub'.map (ARow.ren (idx ib m) (idx ir n))) = rw1 ∧
      runS P ops rest K ⟨nt, nb, (d, (true, r1)) :: sl, bx1, rw1, ys⟩) : runS P ops (o :: rest) K ⟨nt, nb, sl, bx, rw, ys⟩ := by
  obtain ⟨m, rfl, n, rfl, cs, h1, h2, h3, h4, h5, h6, ⟨h7, h8, h9⟩, hl, h12⟩ := h
  intro C G a w Q hs hQ
  refine callX_walk hg h1 h2 (F.frame ib ir (handOk_of h3 h4 h5 h6 h7 h8) h9 hl) hs ?_
  rintro r1 bx1 rw1 ⟨r, sub', rsub', hR, rfl, rfl, rfl⟩ v G' w' hs' hv
  obtain ⟨_, rfl, _, rfl, _, rfl, hk⟩ := h12 r sub' rsub' hR
  rw [hd]
  exact hk C G' _ w' Q (hs'.put (by simpa [Nat.blt_eq] using hn) (fun _ => hv) (fun h => by cases h)) hQ
end runs
/-! ### Cells of lists -/
theorem freeL_append {a b : List AV} : AV.freeL a → AV.freeL b → AV.freeL (a ++ b) := by
  induction a with
  | nil => intro _ h; exact h
  | cons x a ih => intro h1 h2; exact ⟨h1.1, ih h1.2 h2⟩
theorem freeL_flat {α : Type} {enc : α → List AV} (h : ∀ x, AV.freeL (enc x)) : ∀ l : List α, AV.freeL (l.flatMap enc)
  | [] => trivial
  | x :: l => by rw [List.flatMap_cons]; exact freeL_append (h x) (freeL_flat h l)
theorem freeL_raws : ∀ z : List Value, AV.freeL (z.map .raw)
  | [] => trivial
  | _ :: z => ⟨trivial, freeL_raws z⟩
theorem freeL_zeros (n : Nat) (z : List Value) : AV.freeL (zerosA n z) := by
  induction n with
  | zero => trivial
  | succ n ih => exact freeL_append (freeL_raws z) ih
theorem flat_len {α : Type} {enc : α → List AV} {sz : Nat} (h : ∀ x, (enc x).length = sz) : ∀ l : List α, (l.flatMap enc).length = l.length * sz
  | [] => by simp
  | x :: l => by rw [List.flatMap_cons, List.length_append, h, flat_len h l, List.length_cons, Nat.add_mul, Nat.one_mul, Nat.add_comm]
theorem chunk_flat {α : Type} [Inhabited α] {enc : α → List AV} {sz : Nat} (h : ∀ x, (enc x).length = sz) {l : List α} {r : List AV} {i : Nat} (hi : i < l.length) : chunkA sz (l.flatMap enc ++ r) i = els enc l i := by
  rw [← chunk_els h hi]
  unfold chunkA
  have hle : (i + 1) * sz ≤ l.length * sz := Nat.mul_le_mul_right _ hi
  rw [Nat.add_mul, Nat.one_mul] at hle
  rw [List.drop_append_of_le_length (by rw [flat_len h]; omega), List.take_append_of_le_length (by rw [List.length_drop, flat_len h]; omega)]
end Go.Proofs.YtihnjbnlbedpaaaGreatDoor
/- Iterators that have variables of their own, which the one who made them has left. -/
namespace Go.Proofs.YtihnjbnlbedpaaaGreatDoor
set_option linter.unusedVariables false
set_option linter.unusedSimpArgs false
set_option maxHeartbeats 4000000
set_option maxRecDepth 100000
open Go.RowKit
/-- An iterator with own variables. -/
structure SeqB (P : Program) (f : FuncId) (cap : List AV) (own : List (List AV)) (items : List (List AV)) : Prop where
  ok : CallOk P f
  calls : ∀ (l : Nat) (I0 : Nat → Nat → Prop) (B : List Nat) (D : Nat → Prop) (W : Env) (w : World) (vs : List Value), StableW W → (∀ h s I D w, W h s I D w → Tabs P w ∧ ∀ g, tabBlk P g → D g) → YOk P (l, items) I0 W → W [] false I0 D w → (∀ k, D k → k < w.heap.size) → (∀ k ∈ B, ¬ D k) → MSat ⟨I0, B, []⟩ w own [] →
    AV.relL ⟨I0, B, []⟩ w ([.raw (.func (.yield l) #[] #[])] ++ cap) vs →
    Calls P f vs.toArray w fun e w' => ∃ v I' D' pre s, e = .returned v ∧ (∀ k, D' k → k < w'.heap.size) ∧ W pre s I' D' w' ∧ pre <+: items ∧ (s = false → pre = items)
theorem seqB_of {P : Program} {f : FuncId} {fn : Func} {c : Code} {cap : List AV} {own items : List (List AV)} (hf : P.funcs[f]? = some fn) (hb : fn.body = some c) (hnm : (fn.name == "runtime.NumGoroutine") = false) (n : Nat) (hn : fn.ntmps = n) (hlen : cap.length + 1 ≤ n) (hrs : fn.results.toList = []) (h64 : own.length < 64)
    (h : ∀ l, wpA P c (seqPost items) ⟨n, own.length, argSl 0 ([.raw (.func (.yield l) #[] #[])] ++ cap), own, [], ((l, items), [], false)⟩) : SeqB P f cap own items := by
  refine ⟨⟨fn, hf, hnm, by rw [hb]; rfl⟩, fun l I0 B D W w vs hst htb hy hW hD hBD hM hr => ?_⟩
  have hvl := AV.relL_length hr
  let C : Ctx P := ⟨none, (l, items), D, W, I0, ⟨I0, B, []⟩, w, fun _ _ i => i, hst, hy, htb⟩
  have hs : Sat C ⟨I0, B, []⟩ { tmps := vs.toArray ++ Array.replicate (fn.ntmps - vs.toArray.size) undef, defers := [] } w ⟨n, own.length, argSl 0 ([.raw (.func (.yield l) #[] #[])] ++ cap), own, [], ((l, items), [], false)⟩ := by
    refine ⟨by simp [hn]; simp at hvl; omega, ⟨by have := hM.lenB; show B.length = own.length % 64; simp only at this; omega, by show (0 : Nat) = own.length / 64; omega⟩, Outside.refl _ _, Gh.Le.refl _ _, fun _ _ i => .inl i, fun _ h => .inl h, fun _ h => by simp at h, ⟨D, rfl, hW, fun _ h => .inl h, hD, hBD, fun _ h => by simp at h, fun _ _ i => .inl i, ⟨[], rfl, by simp, fun _ h => by simp at h⟩, fun _ h => by cases h⟩, hM, ?_⟩
    intro t c x hl
    obtain ⟨j, e1, e2, rfl⟩ := argSl_look hl
    obtain ⟨v, e3, e4⟩ := AV.relL_get hr e2
    have hj : j < vs.length := (List.getElem?_eq_some_iff.1 e3).1
    refine ⟨v, ?_, fun _ => e4, fun h => by cases h⟩
    rw [show t = j from by omega, Array.getElem?_append_left (by simpa using hj)]
    simpa using e3
  refine callsIn_wide.1 (callsIn_of_wp_marks (n := 0) hf hb trivial (wpIn_mono (h l C _ _ _ hs) ?_))
  rintro e a' w1 ⟨G', st', hs1, he, h1, h2⟩
  obtain ⟨tm, df⟩ := a'
  obtain ⟨D1, hD1⟩ := hs1.env
  obtain ⟨ml, hml, _⟩ := hD1.marks
  simp only at hml
  subst hml
  have fin := Sat.leaves (F := Fence.wide) (n := 0) (fn := fn) (tmps := tm) (R := fun e w' => ∃ v I' D' pre s, e = .returned v ∧ (∀ k, D' k → k < w'.heap.size) ∧ W pre s I' D' w' ∧ pre <+: items ∧ (s = false → pre = items)) (fun w' hs' => by
    obtain ⟨D2, hD2⟩ := hs'.env
    exact ⟨_, results_run (vs := []) (by rw [hrs]; rfl), _, _, D2, _, _, rfl, hD2.lt, hD2.cons, h1, h2⟩) ml w1 hs1
  rcases he with rfl | rfl <;> exact fin
theorem bxSim_take {bx : List (List AV)} {rw : List ARow} : ∀ (bk own : List (List AV)), BxSim bx rw bk (bk ++ own)
  | [], _ => trivial
  | c :: r, own => ⟨SimsL.refl c, bxSim_take r own⟩
theorem rwSim_refl {bx : List (List AV)} {rw : List ARow} : ∀ (r : List ARow), RwSim bx rw r r
  | [] => trivial
  | c :: r => ⟨⟨rfl, rfl, rfl, fun _ => rfl, fun _ _ => SimsL.refl _⟩, rwSim_refl r⟩
theorem nodup_cut {l : List Nat} (h : l.Nodup) {m x : Nat} (h1 : x ∈ l.take m) (h2 : x ∈ l.drop m) : False := by
  rw [← List.take_append_drop m l] at h
  exact (List.nodup_append.1 h).2.2 x h1 x h2 rfl
section
variable {P : Program} {nt nb : Nat} {sl sl' : List (Nat × (Bool × AV))}
/-- A loop over an iterator with own variables, which are left to it. -/
theorem wpA_rangeFuncB {g : Operand} {ps : Array Tmp} {assign body : Code} {Q : Exit → ASt → Prop} {x : AV} {f : FuncId} {cap cap' : List AV} {items : List (List AV)} {bx bk own : List (List AV)} {rw : List ARow} {ys : (Nat × List (List AV)) × List (List AV) × Bool} (Inv : LInv)
    (hg : (ASt.mk nt nb sl bx rw ys).ev g = some (true, x)) (hx : calleeA x = some (f, [], cap')) (hbx : bx = bk ++ own) (hcap' : cap' = AV.renL (fun k => bk.length + k) (fun k => k) cap) (hcap : AV.subL own.length 0 cap) (hown : ∀ cs ∈ own, AV.freeL cs) (hseq : SeqB P f cap own items)
    (hps : ps.toList.Nodup ∧ ∀ p ∈ ps.toList, p < nt) (hm64 : bk.length < 64) (hsl : SlSim bx rw sl' sl) (h4 : nb % 64 ≤ bk.length ∧ nb / 64 ≤ rw.length) (h5 : subSl bk.length rw.length sl' ∧ subB bk.length rw.length bk ∧ subR bk.length rw.length rw) (h0 : Inv [] none bk rw ys)
    (hround : ∀ h item bx' rw' ys', Inv h none bx' rw' ys' → (h ++ [item]) <+: items → bx'.length = bk.length → item.length = ps.toList.length ∧ wpA P assign (fun e s => e = .normal ∧ wpA P body (roundEnd bk.length Inv (h ++ [item])) s) ⟨nt, bk.length + 64 * rw'.length, zipSl ps.toList item ++ sl', bx', rw', ys'⟩)
    (hdone : ∀ bx' rw' ys', Inv items none bx' rw' ys' → Q .normal ⟨nt, nb, sl', bx', rw', ys'⟩)
    (hjump : ∀ h j bx' rw' ys', h <+: items → Inv h (some j) bx' rw' ys' → Q (je j) ⟨nt, nb, sl', bx', rw', ys'⟩) : wpA P (.rangeFunc g ps assign body) Q ⟨nt, nb, sl, bx, rw, ys⟩ := by
  intro C G a w hs
  refine wpIn_rangeFunc fun fn _ => ?_
  obtain ⟨L, mk, w1, D, dB, q1, hs1, e1, q2, q3, q4, q5, q6, q7, q8⟩ := hs.enterLoop fn ps assign body
  obtain ⟨rec, hrec⟩ : ∃ r : LoopState → Option Code → Loop, r = fun st pe => { state := st, pending := pe, fn, tmps := a.tmps, params := ps, assign, body, defers := dB } := ⟨_, rfl⟩
  have e2 := (evOk_of (x := g) fun t _ => hs1.slot t) _ _ hg rfl
  have hval : ∃ cs : List Value, a.eval g = .func (.func f) #[] cs.toArray ∧ AV.relL G w1 cap' cs := by
    have e2' : x.rel G w1 (a.eval g) := e2
    unfold calleeA at hx
    split at hx
    · simp only [Option.some.injEq, Prod.mk.injEq] at hx
      obtain ⟨rfl, _, rfl⟩ := hx
      exact ⟨[], rel_raw e2', rfl⟩
    · simp only [Option.some.injEq, Prod.mk.injEq] at hx
      obtain ⟨rfl, rfl, rfl⟩ := hx
      obtain ⟨fs, cs, r1, r2, r3⟩ := e2'
      exact ⟨cs, by rw [r1, show fs = [] from r2], r3⟩
    · cases hx
  obtain ⟨cs, hv, hcs⟩ := hval
  have hlb : G.bx.length = bx.length := hs1.mem.lenB
  have hlr : G.rw.length = rw.length := hs1.mem.lenR
  have hbl : bx.length = bk.length + own.length := by rw [hbx]; simp
  obtain ⟨m, hm⟩ : ∃ m, m = bk.length := ⟨_, rfl⟩
  have hcs' : AV.relL ⟨G.imm, G.bx.drop m, []⟩ w1 cap cs := by
    rw [hcap'] at hcs
    refine AV.relL_unren (G' := G) (G := ⟨G.imm, G.bx.drop m, []⟩) (f := fun k => bk.length + k) (g := fun k => k) (m := own.length) (n := 0) (fun _ _ i => i) (fun k x _ hx => ?_) (fun k e hk => by omega) cap cs hcap hcs
    show (G.bx.drop m)[k]? = some x
    rw [List.getElem?_drop, hm]; exact hx
  have hMB : MSat ⟨G.imm, G.bx.drop m, []⟩ w1 own [] := by
    refine ⟨hs1.mem.immOk, by show (G.bx.drop m).length = own.length; rw [List.length_drop]; omega, rfl, hs1.mem.nodup.sublist (List.drop_sublist _ _), fun k cs' blk hk hg' => ?_, fun k r x hk _ => by simp at hk, fun k x g' hk _ => by simp at hk, fun k k' x x' g' hk _ _ _ => by simp at hk⟩
    have hg2 : G.bx[m + k]? = some blk := by rw [← List.getElem?_drop]; exact hg'
    have hk2 : bx[m + k]? = some cs' := by
      rw [hbx, List.getElem?_append_right (by omega), hm, Nat.add_sub_cancel_left]; exact hk
    obtain ⟨i1, vs, T, i2, i3⟩ := hs1.mem.box _ _ _ hk2 hg2
    exact ⟨i1, vs, T, i2, AV.relL_free (G := G) (G' := ⟨G.imm, G.bx.drop m, []⟩) (fun _ _ i => i) _ _ (hown _ (List.mem_of_getElem? hk)) i3⟩
  have hsk := hs1.gen (sl' := sl') (bx' := bk) (rw' := rw) hsl (by rw [hbx]; exact bxSim_take _ _) (rwSim_refl _) h4 h5
  obtain ⟨Gk, hGk⟩ : ∃ Gk : Gh, Gk = ⟨G.imm, G.bx.take bk.length, G.rw.take rw.length⟩ := ⟨_, rfl⟩
  rw [← hGk] at hsk
  have kb : ∀ k ∈ Gk.bx, k ∈ G.bx.take m := fun k hk => by rw [hGk] at hk; rw [hm]; exact hk
  have kr : ∀ x ∈ Gk.rw, x ∈ G.rw := fun x hx => by rw [hGk] at hx; exact List.mem_of_mem_take hx
  have ki : ∀ b o, Gk.imm b o ↔ G.imm b o := fun b o => by rw [hGk]
  have ek : EnvD C Gk (mk ++ a.defers) ys D w1 := by
    refine ⟨e1.l, ?_, e1.sub, e1.lt, fun k hk => e1.bx k (List.mem_of_mem_take (kb k hk)), fun x hx => e1.rw x (kr x hx), fun b o i => e1.imm b o ((ki b o).1 i), e1.marks, e1.record⟩
    rw [hGk]; exact e1.cons
  refine ⟨L, mk, w1, { target := .fn (.func f) cs.toArray, args := #[.func (.yield L) #[] #[]] }, w1, f, #[.func (.yield L) #[] #[]] ++ cs.toArray, w1, q1, ?_, fun _ _ => trivial, ?_, (fun h => by cases h), callsIn_fen ?_⟩
  · simp only [resolve, hv]
    simp [go_sem]
  · have := hseq.ok.run (#[.func (.yield L) #[] #[]] ++ cs.toArray) w1
    simp only [invoke]
    simpa using this
  have hlw : LoopS C Gk w1 ⟨a.tmps, mk ++ a.defers⟩ nt nb sl' bk.length L (fun k => k ∈ G.bx.drop m) G.imm (fun k => k < w1.heap.size ∧ k ∉ G.bx.drop m) w1 Gk bk rw ys D :=
    ⟨hsk, ek, rfl, rfl, Gh.Le.refl _ _, fun _ _ i => .inl ((ki _ _).1 i), fun _ h h' => ⟨h, h'⟩, fun k hk => by
      have hk' := List.mem_of_mem_drop hk
      refine ⟨?_, fun hk2 => nodup_cut hs1.mem.nodup (kb k hk2) hk, fun e => ?_, fun hmk => ?_, fun hr => ?_⟩
      · rcases hs1.ownB k hk' with hb2 | hb2
        · exfalso
          obtain ⟨q, hq⟩ := List.getElem?_of_mem hb2
          have h6 := hs1.le.bx q k hq
          obtain ⟨q2', hq2⟩ := List.getElem?_of_mem hk
          rw [List.getElem?_drop] at hq2
          have hl : q < G.bx.length := (List.getElem?_eq_some_iff.1 h6).1
          have := (List.getElem?_inj hl hs1.mem.nodup).1 (h6.trans hq2.symm)
          have hql : q < C.G0.bx.length := (List.getElem?_eq_some_iff.1 hq).1
          have hc := hs1.callers.1
          simp only at hc
          omega
        · exact hb2
      · subst e; exact hs1.mem.not_box q8 rfl hk'
      · obtain ⟨l, h1, _, h3⟩ := e1.marks
        rw [h1] at hmk
        obtain ⟨k', hk2, he⟩ := List.mem_map.1 hmk
        have : k' = k := by simpa [mark] using he
        subst this
        exact hs1.mem.not_box (h3 k' hk2).1 rfl hk'
      · obtain ⟨⟨L', h1⟩, _⟩ := e1.record k hr
        exact hs1.mem.not_box h1 rfl hk',
    fun x hx g hg => by
      obtain ⟨k, hk⟩ := List.mem_iff_getElem?.1 (kr x hx)
      exact ⟨hs1.mem.lt_row hk hg, fun hd => hs1.mem.sepB k x g hk hg (List.mem_of_mem_drop hd)⟩,
    fun k hk => ⟨e1.lt k hk, fun hd => e1.bx k (List.mem_of_mem_drop hd) hk⟩, q2, q3, q4, fun k hk => hs1.mem.lt_box (List.mem_of_mem_take (kb k hk)), Nat.le_refl _, q5, q6⟩
  have hcall := hseq.calls L G.imm (G.bx.drop m) (fun k => k < w1.heap.size ∧ k ∉ G.bx.drop m) (LoopW C Gk w1 ⟨a.tmps, mk ++ a.defers⟩ nt nb sl' bk.length L (fun k => k ∈ G.bx.drop m) rec Inv) w1 ([.func (.yield L) #[] #[]] ++ cs) loopW_stable (fun _ _ _ _ _ hW => loopW_tabs hW)
    (by
      have := loopW_yOk (C := C) (Gl := Gk) (wl := w1) (nb := nb) (L := L) (E := fun k => k ∈ G.bx.drop m) (Inv := Inv) (rec := rec) (dB := dB) (fn := fn) hm64 (a1 := ⟨a.tmps, mk ++ a.defers⟩) hrec hps (fun h item bx' rw' ys' hi hp hl => hround h item bx' rw' ys' hi hp hl)
      rw [show Gk.imm = G.imm from by rw [hGk]] at this
      exact this) ⟨Gk, none, bk, rw, ys, D, hlw, h0, rfl, by rw [hrec]; exact q8⟩ (fun _ h => h.1) (fun k hk hd => hd.2 hk) hMB ⟨_, _, rfl, rfl, hcs'⟩
  rw [show #[Value.func (.yield L) #[] #[]] ++ cs.toArray = ([Value.func (.yield L) #[] #[]] ++ cs).toArray from by simp]
  refine hcall.mono ?_
  rintro e w3 ⟨v, I', D', pre, s, rfl, _, ⟨G', j, bx', rw', ys', Do, S, hi, rfl, hr⟩, hpre, hall⟩
  have hb : (rec (if j.isNone then .ready else .done) (j.map jc)).state ≠ .busy := by rw [hrec]; cases j <;> simp
  refine ⟨_, _, run_endLoop hr hb, ?_⟩
  have hpend : (rec (if j.isNone then .ready else .done) (j.map jc)).pending = j.map jc := by rw [hrec]
  rw [hpend]
  have fin : ∀ o : Loop, Sat C G' ⟨a.tmps, mk ++ a.defers⟩ (w3.putObj L (.loop o)) ⟨nt, nb, sl', bx', rw', ys'⟩ := fun o => by
    refine S.sat.non _ hr rfl S.c0 rfl ⟨Do, S.env.non S.sat.mem _ hr rfl S.notL (fun _ => ⟨_, rfl⟩) ?_⟩
    obtain ⟨l, h1, h2, h3⟩ := S.env.marks
    exact ⟨l, h1, h2, fun k hk => ⟨fun e => (by subst e; rw [(h3 k hk).1] at hr; cases hr), h3 k hk⟩⟩
  cases j with
  | none =>
    have : pre = items := hall rfl
    subst this
    exact ⟨G', _, fin _, hdone _ _ _ hi⟩
  | some j =>
    have hQ := hjump pre j bx' rw' ys' hpre hi
    cases j with
    | none => exact wpIn_ret ⟨G', _, fin _, hQ⟩
    | some id => exact wpIn_exit ⟨G', _, fin _, hQ⟩
end
end Go.Proofs.YtihnjbnlbedpaaaGreatDoor
