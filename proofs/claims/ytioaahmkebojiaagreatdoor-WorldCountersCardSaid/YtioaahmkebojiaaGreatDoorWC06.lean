import Derived.Test.YtioaahmkebojiaaGreatDoorWC01
import Derived.Test.YtioaahmkebojiaaGreatDoorWC05
namespace Go.Proofs.YtioaahmkebojiaaGreatDoor
set_option linter.unusedVariables false
set_option linter.unusedSimpArgs false
set_option maxHeartbeats 4000000
set_option maxRecDepth 100000
open Go.RowKit
mutual
/-- Own variables from a place on are cells that nobody writes. -/
def AV.frz (m : Nat) (bx : List (List AV)) : AV → AV
 | .raw v => .raw v
 | .agg cs => .agg (AV.frzL m bx cs)
 | .tup cs => .tup (AV.frzL m bx cs)
 | .lst sz n el => .lst sz n el
 | .elt cs o => .elt (AV.frzL m bx cs) o
 | .box b o => bif Nat.blt b m then .box b o else .elt ((bx[b]?).getD []) o
 | .fn f a b => .fn f (AV.frzL m bx a) (AV.frzL m bx b)
 | .row k n => .row k n
 | .bsl sz b off n cap => bif Nat.blt b m then .bsl sz b off n cap else .lst sz n (zU sz (((bx[b]?).getD []).drop off))
 | .ifc t x => .ifc t (AV.frz m bx x)
 | .ful x => .ful (AV.frz m bx x)
def AV.frzL (m : Nat) (bx : List (List AV)) : List AV → List AV
 | [] => []
 | c :: cs => AV.frz m bx c :: AV.frzL m bx cs
end
mutual
def AV.okF (m : Nat) (bx : List (List AV)) : AV → Prop
 | .raw _ => True
 | .agg cs => AV.okFL m bx cs
 | .tup cs => AV.okFL m bx cs
 | .lst _ n el => ∀ i, i < n → AV.belL m (el i)
 | .elt cs _ => AV.okFL m bx cs
 | .box b _ => b < m ∨ (b < bx.length ∧ AV.belL m ((bx[b]?).getD []))
 | .fn _ a b => AV.okFL m bx a ∧ AV.okFL m bx b
 | .row _ _ => True
 | .bsl sz b off n _ => b < m ∨ (b < bx.length ∧ AV.belL m ((bx[b]?).getD []) ∧ off + n * sz ≤ ((bx[b]?).getD []).length)
 | .ifc _ x => AV.okF m bx x
 | .ful x => AV.okF m bx x
def AV.okFL (m : Nat) (bx : List (List AV)) : List AV → Prop
 | [] => True
 | c :: cs => AV.okF m bx c ∧ AV.okFL m bx cs
end
section
variable {G : Gh} {w : World} {bx : List (List AV)} {rw : List zV} {m : Nat}
theorem zT7 (xs : List AV) (vs : List Value) (hb : AV.belL m xs) (hr : AV.relL G w xs vs) : AV.relL (G.cut m w) w xs vs :=
 AV.relL_bel (G := G) (G' := G.cut m w) (fun _ _ i => .inl i) (fun k x hk hx => zBr hk hx) rfl xs vs hb hr
mutual
theorem AV.rel_frz (hm : xU G w bx rw) : ∀ (x : AV) (v : Value), x.okF m bx → x.rel G w v → (x.frz m bx).rel (G.cut m w) w v
 | .raw _, _, _, h => h
 | .agg cs, _, f, ⟨vs, e, h⟩ => ⟨vs, e, AV.relL_frz hm cs vs f h⟩
 | .tup cs, _, f, ⟨vs, e, h⟩ => ⟨vs, e, AV.relL_frz hm cs vs f h⟩
 | .lst sz n el, v, f, h => by
  have := zT7 (m := m) [.lst sz n el] [v] ⟨f, trivial⟩ ⟨v, [], rfl, h, rfl⟩
  obtain ⟨v', r, e, h1, _⟩ := this
  cases e
  exact h1
 | .elt cs _, _, f, ⟨b, o, vs, e, h1, h2⟩ => ⟨b, o, vs, e, AV.relL_frz hm cs vs f h1, fun j u hj => ⟨.inl (h2 j u hj).1, (h2 j u hj).2⟩⟩
 | .box b off, v, f, ⟨blk, h1, h2⟩ => by
  unfold AV.frz
  cases hb : Nat.blt b m
  ·have hge : m ≤ b := by
    rcases yMn b m with h | h
    ·rw [← yNz] at h; rw [h] at hb; cases hb
    ·exact h
   simp only [yN5]
   rcases f with f | ⟨f1, f2⟩
   ·omega
   have hcs : bx[b]? = some ((bx[b]?).getD []) := by rw [yNf f1]; rfl
   obtain ⟨_, vs, T, h3, h4⟩ := hm.box b _ blk hcs h1
   refine ⟨blk, 0, vs, by simpa using h2, zT7 _ _ f2 h4, fun j u hj => ?_⟩
   have hc : w.cell? ⟨blk, 0 + j, none⟩ = some u := by simp [World.cell?, h3, hj]
   refine ⟨.inr ⟨?_, by rw [hc]; rfl⟩, hc⟩
   refine yNr (i := b - m) ?_
   rw [yMf, show m + (b - m) = b from by omega]
   exact h1
  ·simp only [yMq]
   exact ⟨blk, zBr (by rwa [← yNz]) h1, h2⟩
 | .fn _ a b, _, f, ⟨fs, cs, e, h1, h2⟩ => ⟨fs, cs, e, AV.relL_frz hm a fs f.1 h1, AV.relL_frz hm b cs f.2 h2⟩
 | .row _ _, _, _, h => h
 | .ifc t x, _, f, ⟨u, e, h⟩ => ⟨u, e, AV.rel_frz hm x u f h⟩
 | .ful x, v, f, h => ⟨AV.rel_frz hm x v f h.1, h.2⟩
 | .bsl sz b off n cap, v, f, ⟨blk, A, h1, h2, h3, h4, h5⟩ => by
  unfold AV.frz
  cases hb : Nat.blt b m
  ·have hge : m ≤ b := by
    rcases yMn b m with h | h
    ·rw [← yNz] at h; rw [h] at hb; cases hb
    ·exact h
   simp only [yN5]
   rcases f with f | ⟨f1, f2, f3⟩
   ·omega
   have hcs : bx[b]? = some ((bx[b]?).getD []) := by rw [yNf f1]; rfl
   obtain ⟨_, vs, T, h6, h7⟩ := hm.box b _ blk hcs h1
   have hl := AV.relL_length h7
   refine ⟨A, cap, h2, h3, h4, fun hn => ⟨blk, off, h5 oq, fun i hi => ⟨((vs.drop off).drop (i * sz)).take sz, AV.relL_take _ (AV.relL_drop _ (AV.relL_drop _ (zT7 _ _ f2 h7))), ?_, fun j u hj => ?_⟩⟩⟩
   ·have h8 : (i + 1) * sz ≤ n * sz := yNe _ hi
    rw [yN4] at h8
    simp only [yOt, yOu]
    omega
   ·rw [yMg] at hj
    split at hj
    ·rw [yMf, yMf] at hj
     have hc : w.cell? ⟨blk, off + i * sz + j, none⟩ = some u := by
      rw [show off + i * sz + j = off + (i * sz + j) from by omega]
      simp [World.cell?, h6, hj]
     refine ⟨.inr ⟨?_, by rw [hc]; rfl⟩, hc⟩
     refine yNr (i := b - m) ?_
     rw [yMf, show m + (b - m) = b from by omega]
     exact h1
    ·cases hj
  ·simp only [yMq]
   exact ⟨blk, A, zBr (by rwa [← yNz]) h1, h2, h3, h4, h5⟩
theorem AV.relL_frz (hm : xU G w bx rw) : ∀ (xs : List AV) (vs : List Value), AV.okFL m bx xs → AV.relL G w xs vs → AV.relL (G.cut m w) w (AV.frzL m bx xs) vs
 | [], _, _, h => h
 | x :: xs, _, f, ⟨v, r, e, h1, h2⟩ => ⟨v, r, e, AV.rel_frz hm x v f.1 h1, AV.relL_frz hm xs r f.2 h2⟩
end
end
def zWx (m : Nat) (bx : List (List AV)) : List (Nat × (Bool × AV)) → List (Nat × (Bool × AV))
 | [] => []
 | (t, (c, x)) :: r => (t, (c, x.frz m bx)) :: zWx m bx r
def zUy (m : Nat) (bx : List (List AV)) : List (Nat × (Bool × AV)) → Prop
 | [] => True
 | (_, (_, x)) :: r => x.okF m bx ∧ zUy m bx r
theorem zEt {m t : Nat} {bx : List (List AV)} {c : Bool} {x : AV} : ∀ {sl : List (Nat × (Bool × AV))}, zUy m bx sl → yL t (zWx m bx sl) = some (c, x) → ∃ y, yL t sl = some (c, y) ∧ x = y.frz m bx ∧ y.okF m bx
 | (u, (c', y)) :: r, h, hl => by
  rw [zWx, zL] at hl
  rw [zL]
  split at hl
  ·rename_i e
   cases hl
   exact ⟨y, by simp [e], rfl, h.1⟩
  ·rename_i e
   rw [if_neg e]
   exact zEt h.2 hl
theorem xT.freeze {nt nb : Nat} {sl : List (Nat × (Bool × AV))} {bx : List (List AV)} {rw : List zV} {ys : (Nat × List (List AV)) × List (List AV) × Bool} (m : Nat) (h1 : nb % 64 ≤ m) (h2 : zFk m (bx.take m)) (h3 : zQ3 m rw) (h4 : zUy m bx sl) :
  xT ⟨nt, nb, sl, bx, rw, ys⟩ ⟨nt, nb, zWx m bx sl, bx.take m, rw, ys⟩ := by
 intro P C G a w hs
 obtain ⟨c1, c2⟩ := hs.callers
 simp only at c1 c2
 have hlb : C.G0.bx.length ≤ m := by omega
 have hmem := zHn hs.mem h2 h3
 obtain ⟨D, hD⟩ := hs.env
 refine ⟨G.cut m w, hs.size, hs.callers, hs.frame, ⟨fun b o i => .inl (hs.le.imm b o i), hs.le.cell, fun k x hx => zBr (yMl (yNd.1 hx).1 hlb) (hs.le.bx k x hx), hs.le.rw⟩, fun b o i => ?_, fun blk hb => hs.ownB blk (yO8 hb), hs.ownR,
  ⟨D, hD.l, ?_, hD.sub, hD.lt, fun k hk => hD.bx k (yO8 hk), hD.rw, fun b o i => ?_, hD.marks, hD.record⟩, hmem, fun t c x hl => ?_⟩
 ·rcases i with i | ⟨i, _⟩
  ·exact hs.fresh b o i
  ·rcases hs.ownB b (yOx i) with hb2 | hb2
   ·exfalso
    obtain ⟨q, hq⟩ := yOw hb2
    have h6 := hs.le.bx q b hq
    obtain ⟨q2, hq2⟩ := yOw i
    rw [yMf] at hq2
    have hl : q < G.bx.length := (yNd.1 h6).1
    have := (yO3 hl hs.mem.nodup).1 (h6.trans hq2.symm)
    have hql : q < C.G0.bx.length := (yNd.1 hq).1
    omega
   ·exact .inr (.inl hb2)
 ·exact C.stable _ _ _ _ _ _ _ hD.cons (zR.refl _ _) (fun b o i => ⟨.inl i, rfl⟩)
 ·rcases i with i | ⟨i, _⟩
  ·exact hD.imm b o i
  ·exact .inr (hD.bx b (yOx i))
 ·obtain ⟨y, q1, rfl, q2⟩ := zEt h4 hl
  obtain ⟨v, e1, e2, e3⟩ := hs.slot t c y q1
  exact ⟨v, e1, fun hc => AV.rel_frz hs.mem y v q2 (e2 hc), e3⟩
theorem zA0 {P : Program} {c : Code} {Q : Exit → ASt → Prop} {nt nb : Nat} {sl : List (Nat × (Bool × AV))} {bx : List (List AV)} {rw : List zV} {ys : (Nat × List (List AV)) × List (List AV) × Bool} (m : Nat)
  (h1 : nb % 64 ≤ m ∧ zFk m (bx.take m) ∧ zQ3 m rw ∧ zUy m bx sl) (h : ∃ sl', zWx m bx sl = sl' ∧ ∃ bx', bx.take m = bx' ∧ wpA P c Q ⟨nt, nb, sl', bx', rw, ys⟩) : wpA P c Q ⟨nt, nb, sl, bx, rw, ys⟩ := by
 obtain ⟨_, rfl, _, rfl, h⟩ := h
 exact y6 (xT.freeze m h1.1 h1.2.1 h1.2.2.1 h1.2.2.2) h
theorem zE5 {P : Program} {ops : Array Oper} {l : List Oper} {K : ASt → Prop} {st st' : ASt} (h : xT st st') (hr : yZ P ops l K st') : yZ P ops l K st := fun C G a w Q hs hQ =>
 let ⟨G', h1⟩ := h P C G a w hs
 hr C G' a w Q h1 hQ
theorem zAn {P : Program} {ops : Array Oper} {l : List Oper} {K : ASt → Prop} {nt nb : Nat} {sl : List (Nat × (Bool × AV))} {bx : List (List AV)} {rw : List zV} {ys : (Nat × List (List AV)) × List (List AV) × Bool} (m : Nat)
  (h1 : nb % 64 ≤ m ∧ zFk m (bx.take m) ∧ zQ3 m rw ∧ zUy m bx sl) (h : ∃ sl', zWx m bx sl = sl' ∧ ∃ bx', bx.take m = bx' ∧ yZ P ops l K ⟨nt, nb, sl', bx', rw, ys⟩) : yZ P ops l K ⟨nt, nb, sl, bx, rw, ys⟩ := by
 obtain ⟨_, rfl, _, rfl, h⟩ := h
 exact zE5 (xT.freeze m h1.1 h1.2.1 h1.2.2.1 h1.2.2.2) h
section
variable (m : Nat) (bx : List (List AV))
@[go_sem] theorem yLd (v : Value) : AV.frz m bx (.raw v) = .raw v := rfl
@[go_sem] theorem yLi (cs : List AV) : AV.frz m bx (.agg cs) = .agg (AV.frzL m bx cs) := rfl
@[go_sem] theorem yLf (t : TypeId) (x : AV) : AV.frz m bx (.ifc t x) = .ifc t (AV.frz m bx x) := rfl
@[go_sem] theorem yLg (x : AV) : AV.frz m bx (.ful x) = .ful (AV.frz m bx x) := rfl
@[go_sem] theorem yLb (cs : List AV) : AV.frz m bx (.tup cs) = .tup (AV.frzL m bx cs) := rfl
@[go_sem] theorem yLe (sz n : Nat) (el : Nat → List AV) : AV.frz m bx (.lst sz n el) = .lst sz n el := rfl
@[go_sem] theorem yLh (cs : List AV) (o : Nat) : AV.frz m bx (.elt cs o) = .elt (AV.frzL m bx cs) o := rfl
@[go_sem] theorem frz_fn (f : Fn) (a b : List AV) : AV.frz m bx (.fn f a b) = .fn f (AV.frzL m bx a) (AV.frzL m bx b) := rfl
@[go_sem] theorem yLc (k n : Nat) : AV.frz m bx (.row k n) = .row k n := rfl
end
@[go_sem] theorem yFv (bx : List (List AV)) (o : Nat) : AV.frz 0 bx (.box 0 o) = .elt ((bx[0]?).getD []) o := rfl
@[go_sem] theorem yFu (bx : List (List AV)) (o : Nat) : AV.frz 0 bx (.box 1 o) = .elt ((bx[1]?).getD []) o := rfl
@[go_sem] theorem yFt (bx : List (List AV)) (o : Nat) : AV.frz 0 bx (.box 2 o) = .elt ((bx[2]?).getD []) o := rfl
@[go_sem] theorem yFs (bx : List (List AV)) (o : Nat) : AV.frz 0 bx (.box 3 o) = .elt ((bx[3]?).getD []) o := rfl
@[go_sem] theorem yFr (bx : List (List AV)) (o : Nat) : AV.frz 0 bx (.box 4 o) = .elt ((bx[4]?).getD []) o := rfl
@[go_sem] theorem yFq (bx : List (List AV)) (o : Nat) : AV.frz 0 bx (.box 5 o) = .elt ((bx[5]?).getD []) o := rfl
@[go_sem] theorem yFp (bx : List (List AV)) (o : Nat) : AV.frz 0 bx (.box 6 o) = .elt ((bx[6]?).getD []) o := rfl
@[go_sem] theorem yFo (bx : List (List AV)) (o : Nat) : AV.frz 1 bx (.box 0 o) = .box 0 o := rfl
@[go_sem] theorem yFn (bx : List (List AV)) (o : Nat) : AV.frz 1 bx (.box 1 o) = .elt ((bx[1]?).getD []) o := rfl
@[go_sem] theorem yFm (bx : List (List AV)) (o : Nat) : AV.frz 1 bx (.box 2 o) = .elt ((bx[2]?).getD []) o := rfl
@[go_sem] theorem yFl (bx : List (List AV)) (o : Nat) : AV.frz 1 bx (.box 3 o) = .elt ((bx[3]?).getD []) o := rfl
@[go_sem] theorem yFk (bx : List (List AV)) (o : Nat) : AV.frz 1 bx (.box 4 o) = .elt ((bx[4]?).getD []) o := rfl
@[go_sem] theorem yFj (bx : List (List AV)) (o : Nat) : AV.frz 1 bx (.box 5 o) = .elt ((bx[5]?).getD []) o := rfl
@[go_sem] theorem yFi (bx : List (List AV)) (o : Nat) : AV.frz 1 bx (.box 6 o) = .elt ((bx[6]?).getD []) o := rfl
@[go_sem] theorem yFh (bx : List (List AV)) (o : Nat) : AV.frz 2 bx (.box 0 o) = .box 0 o := rfl
@[go_sem] theorem yFg (bx : List (List AV)) (o : Nat) : AV.frz 2 bx (.box 1 o) = .box 1 o := rfl
@[go_sem] theorem yFf (bx : List (List AV)) (o : Nat) : AV.frz 2 bx (.box 2 o) = .elt ((bx[2]?).getD []) o := rfl
@[go_sem] theorem yFe (bx : List (List AV)) (o : Nat) : AV.frz 2 bx (.box 3 o) = .elt ((bx[3]?).getD []) o := rfl
@[go_sem] theorem yFd (bx : List (List AV)) (o : Nat) : AV.frz 2 bx (.box 4 o) = .elt ((bx[4]?).getD []) o := rfl
@[go_sem] theorem yFc (bx : List (List AV)) (o : Nat) : AV.frz 2 bx (.box 5 o) = .elt ((bx[5]?).getD []) o := rfl
@[go_sem] theorem yFb (bx : List (List AV)) (o : Nat) : AV.frz 2 bx (.box 6 o) = .elt ((bx[6]?).getD []) o := rfl
@[go_sem] theorem yFa (bx : List (List AV)) (o : Nat) : AV.frz 3 bx (.box 0 o) = .box 0 o := rfl
@[go_sem] theorem yF9 (bx : List (List AV)) (o : Nat) : AV.frz 3 bx (.box 1 o) = .box 1 o := rfl
@[go_sem] theorem yF8 (bx : List (List AV)) (o : Nat) : AV.frz 3 bx (.box 2 o) = .box 2 o := rfl
@[go_sem] theorem yF7 (bx : List (List AV)) (o : Nat) : AV.frz 3 bx (.box 3 o) = .elt ((bx[3]?).getD []) o := rfl
@[go_sem] theorem yF6 (bx : List (List AV)) (o : Nat) : AV.frz 3 bx (.box 4 o) = .elt ((bx[4]?).getD []) o := rfl
@[go_sem] theorem yF5 (bx : List (List AV)) (o : Nat) : AV.frz 3 bx (.box 5 o) = .elt ((bx[5]?).getD []) o := rfl
@[go_sem] theorem yF4 (bx : List (List AV)) (o : Nat) : AV.frz 3 bx (.box 6 o) = .elt ((bx[6]?).getD []) o := rfl
@[go_sem] theorem yF3 (bx : List (List AV)) (o : Nat) : AV.frz 4 bx (.box 0 o) = .box 0 o := rfl
@[go_sem] theorem yF2 (bx : List (List AV)) (o : Nat) : AV.frz 4 bx (.box 1 o) = .box 1 o := rfl
@[go_sem] theorem yF1 (bx : List (List AV)) (o : Nat) : AV.frz 4 bx (.box 2 o) = .box 2 o := rfl
@[go_sem] theorem yF0 (bx : List (List AV)) (o : Nat) : AV.frz 4 bx (.box 3 o) = .box 3 o := rfl
@[go_sem] theorem yEz (bx : List (List AV)) (o : Nat) : AV.frz 4 bx (.box 4 o) = .elt ((bx[4]?).getD []) o := rfl
@[go_sem] theorem yEy (bx : List (List AV)) (o : Nat) : AV.frz 4 bx (.box 5 o) = .elt ((bx[5]?).getD []) o := rfl
@[go_sem] theorem yEx (bx : List (List AV)) (o : Nat) : AV.frz 4 bx (.box 6 o) = .elt ((bx[6]?).getD []) o := rfl
@[go_sem] theorem yEw (bx : List (List AV)) (o : Nat) : AV.frz 5 bx (.box 0 o) = .box 0 o := rfl
@[go_sem] theorem yEv (bx : List (List AV)) (o : Nat) : AV.frz 5 bx (.box 1 o) = .box 1 o := rfl
@[go_sem] theorem yEu (bx : List (List AV)) (o : Nat) : AV.frz 5 bx (.box 2 o) = .box 2 o := rfl
@[go_sem] theorem yEt (bx : List (List AV)) (o : Nat) : AV.frz 5 bx (.box 3 o) = .box 3 o := rfl
@[go_sem] theorem yEs (bx : List (List AV)) (o : Nat) : AV.frz 5 bx (.box 4 o) = .box 4 o := rfl
@[go_sem] theorem yEr (bx : List (List AV)) (o : Nat) : AV.frz 5 bx (.box 5 o) = .elt ((bx[5]?).getD []) o := rfl
@[go_sem] theorem yEq (bx : List (List AV)) (o : Nat) : AV.frz 5 bx (.box 6 o) = .elt ((bx[6]?).getD []) o := rfl
@[go_sem] theorem yEp (bx : List (List AV)) (o : Nat) : AV.frz 6 bx (.box 0 o) = .box 0 o := rfl
@[go_sem] theorem yEo (bx : List (List AV)) (o : Nat) : AV.frz 6 bx (.box 1 o) = .box 1 o := rfl
@[go_sem] theorem yEn (bx : List (List AV)) (o : Nat) : AV.frz 6 bx (.box 2 o) = .box 2 o := rfl
@[go_sem] theorem yEm (bx : List (List AV)) (o : Nat) : AV.frz 6 bx (.box 3 o) = .box 3 o := rfl
@[go_sem] theorem yEl (bx : List (List AV)) (o : Nat) : AV.frz 6 bx (.box 4 o) = .box 4 o := rfl
@[go_sem] theorem yEk (bx : List (List AV)) (o : Nat) : AV.frz 6 bx (.box 5 o) = .box 5 o := rfl
@[go_sem] theorem yEj (bx : List (List AV)) (o : Nat) : AV.frz 6 bx (.box 6 o) = .elt ((bx[6]?).getD []) o := rfl
def yBb : Op → Nat
 | .call c => match c.callee with
  | .builtin .append => 2
  | .builtin _ => 0
  | _ => 1
 | .buildSlice _ _ _ => 3
 | .makeSlice _ _ _ => 3
 | .alloc _ => 4
 | .box _ _ => 5
 | .store _ _ _ => 6
 | .makeMap _ _ => 7
 | .mapUpdate _ _ _ _ => 8
 | .lookup _ _ _ _ => 9
 | _ => 0
theorem yO {P : Program} {ops : Array Oper} {r : List Oper} {k : ASt → Prop} {st : ASt} {o : Oper} (n : Nat) (hc : yBb o.op = n) (h : yZ P ops (o :: r) k st) : yZ P ops (o :: r) k st := h
@[go_sem] theorem yEi (bx : List (List AV)) (sz o n c : Nat) : AV.frz 0 bx (.bsl sz 0 o n c) = .lst sz n (zU sz (((bx[0]?).getD []).drop o)) := rfl
@[go_sem] theorem yEh (bx : List (List AV)) (sz o n c : Nat) : AV.frz 0 bx (.bsl sz 1 o n c) = .lst sz n (zU sz (((bx[1]?).getD []).drop o)) := rfl
@[go_sem] theorem yEg (bx : List (List AV)) (sz o n c : Nat) : AV.frz 0 bx (.bsl sz 2 o n c) = .lst sz n (zU sz (((bx[2]?).getD []).drop o)) := rfl
@[go_sem] theorem yEf (bx : List (List AV)) (sz o n c : Nat) : AV.frz 0 bx (.bsl sz 3 o n c) = .lst sz n (zU sz (((bx[3]?).getD []).drop o)) := rfl
@[go_sem] theorem yEe (bx : List (List AV)) (sz o n c : Nat) : AV.frz 0 bx (.bsl sz 4 o n c) = .lst sz n (zU sz (((bx[4]?).getD []).drop o)) := rfl
@[go_sem] theorem yEd (bx : List (List AV)) (sz o n c : Nat) : AV.frz 0 bx (.bsl sz 5 o n c) = .lst sz n (zU sz (((bx[5]?).getD []).drop o)) := rfl
@[go_sem] theorem yEc (bx : List (List AV)) (sz o n c : Nat) : AV.frz 0 bx (.bsl sz 6 o n c) = .lst sz n (zU sz (((bx[6]?).getD []).drop o)) := rfl
@[go_sem] theorem yEb (bx : List (List AV)) (sz o n c : Nat) : AV.frz 1 bx (.bsl sz 0 o n c) = .bsl sz 0 o n c := rfl
@[go_sem] theorem yEa (bx : List (List AV)) (sz o n c : Nat) : AV.frz 1 bx (.bsl sz 1 o n c) = .lst sz n (zU sz (((bx[1]?).getD []).drop o)) := rfl
@[go_sem] theorem yE9 (bx : List (List AV)) (sz o n c : Nat) : AV.frz 1 bx (.bsl sz 2 o n c) = .lst sz n (zU sz (((bx[2]?).getD []).drop o)) := rfl
@[go_sem] theorem yE8 (bx : List (List AV)) (sz o n c : Nat) : AV.frz 1 bx (.bsl sz 3 o n c) = .lst sz n (zU sz (((bx[3]?).getD []).drop o)) := rfl
@[go_sem] theorem yE7 (bx : List (List AV)) (sz o n c : Nat) : AV.frz 1 bx (.bsl sz 4 o n c) = .lst sz n (zU sz (((bx[4]?).getD []).drop o)) := rfl
@[go_sem] theorem yE6 (bx : List (List AV)) (sz o n c : Nat) : AV.frz 1 bx (.bsl sz 5 o n c) = .lst sz n (zU sz (((bx[5]?).getD []).drop o)) := rfl
@[go_sem] theorem yE5 (bx : List (List AV)) (sz o n c : Nat) : AV.frz 1 bx (.bsl sz 6 o n c) = .lst sz n (zU sz (((bx[6]?).getD []).drop o)) := rfl
@[go_sem] theorem yE4 (bx : List (List AV)) (sz o n c : Nat) : AV.frz 2 bx (.bsl sz 0 o n c) = .bsl sz 0 o n c := rfl
@[go_sem] theorem yE3 (bx : List (List AV)) (sz o n c : Nat) : AV.frz 2 bx (.bsl sz 1 o n c) = .bsl sz 1 o n c := rfl
@[go_sem] theorem yE2 (bx : List (List AV)) (sz o n c : Nat) : AV.frz 2 bx (.bsl sz 2 o n c) = .lst sz n (zU sz (((bx[2]?).getD []).drop o)) := rfl
@[go_sem] theorem yE1 (bx : List (List AV)) (sz o n c : Nat) : AV.frz 2 bx (.bsl sz 3 o n c) = .lst sz n (zU sz (((bx[3]?).getD []).drop o)) := rfl
@[go_sem] theorem yE0 (bx : List (List AV)) (sz o n c : Nat) : AV.frz 2 bx (.bsl sz 4 o n c) = .lst sz n (zU sz (((bx[4]?).getD []).drop o)) := rfl
@[go_sem] theorem yDz (bx : List (List AV)) (sz o n c : Nat) : AV.frz 2 bx (.bsl sz 5 o n c) = .lst sz n (zU sz (((bx[5]?).getD []).drop o)) := rfl
@[go_sem] theorem yDy (bx : List (List AV)) (sz o n c : Nat) : AV.frz 2 bx (.bsl sz 6 o n c) = .lst sz n (zU sz (((bx[6]?).getD []).drop o)) := rfl
@[go_sem] theorem yDx (bx : List (List AV)) (sz o n c : Nat) : AV.frz 3 bx (.bsl sz 0 o n c) = .bsl sz 0 o n c := rfl
@[go_sem] theorem yDw (bx : List (List AV)) (sz o n c : Nat) : AV.frz 3 bx (.bsl sz 1 o n c) = .bsl sz 1 o n c := rfl
@[go_sem] theorem yDv (bx : List (List AV)) (sz o n c : Nat) : AV.frz 3 bx (.bsl sz 2 o n c) = .bsl sz 2 o n c := rfl
@[go_sem] theorem yDu (bx : List (List AV)) (sz o n c : Nat) : AV.frz 3 bx (.bsl sz 3 o n c) = .lst sz n (zU sz (((bx[3]?).getD []).drop o)) := rfl
@[go_sem] theorem yDt (bx : List (List AV)) (sz o n c : Nat) : AV.frz 3 bx (.bsl sz 4 o n c) = .lst sz n (zU sz (((bx[4]?).getD []).drop o)) := rfl
@[go_sem] theorem yDs (bx : List (List AV)) (sz o n c : Nat) : AV.frz 3 bx (.bsl sz 5 o n c) = .lst sz n (zU sz (((bx[5]?).getD []).drop o)) := rfl
@[go_sem] theorem yDr (bx : List (List AV)) (sz o n c : Nat) : AV.frz 3 bx (.bsl sz 6 o n c) = .lst sz n (zU sz (((bx[6]?).getD []).drop o)) := rfl
@[go_sem] theorem yDq (bx : List (List AV)) (sz o n c : Nat) : AV.frz 4 bx (.bsl sz 0 o n c) = .bsl sz 0 o n c := rfl
@[go_sem] theorem yDp (bx : List (List AV)) (sz o n c : Nat) : AV.frz 4 bx (.bsl sz 1 o n c) = .bsl sz 1 o n c := rfl
@[go_sem] theorem yDo (bx : List (List AV)) (sz o n c : Nat) : AV.frz 4 bx (.bsl sz 2 o n c) = .bsl sz 2 o n c := rfl
@[go_sem] theorem yDn (bx : List (List AV)) (sz o n c : Nat) : AV.frz 4 bx (.bsl sz 3 o n c) = .bsl sz 3 o n c := rfl
@[go_sem] theorem yDm (bx : List (List AV)) (sz o n c : Nat) : AV.frz 4 bx (.bsl sz 4 o n c) = .lst sz n (zU sz (((bx[4]?).getD []).drop o)) := rfl
@[go_sem] theorem yDl (bx : List (List AV)) (sz o n c : Nat) : AV.frz 4 bx (.bsl sz 5 o n c) = .lst sz n (zU sz (((bx[5]?).getD []).drop o)) := rfl
@[go_sem] theorem yDk (bx : List (List AV)) (sz o n c : Nat) : AV.frz 4 bx (.bsl sz 6 o n c) = .lst sz n (zU sz (((bx[6]?).getD []).drop o)) := rfl
@[go_sem] theorem yDj (bx : List (List AV)) (sz o n c : Nat) : AV.frz 5 bx (.bsl sz 0 o n c) = .bsl sz 0 o n c := rfl
@[go_sem] theorem yDi (bx : List (List AV)) (sz o n c : Nat) : AV.frz 5 bx (.bsl sz 1 o n c) = .bsl sz 1 o n c := rfl
@[go_sem] theorem yDh (bx : List (List AV)) (sz o n c : Nat) : AV.frz 5 bx (.bsl sz 2 o n c) = .bsl sz 2 o n c := rfl
@[go_sem] theorem yDg (bx : List (List AV)) (sz o n c : Nat) : AV.frz 5 bx (.bsl sz 3 o n c) = .bsl sz 3 o n c := rfl
@[go_sem] theorem yDf (bx : List (List AV)) (sz o n c : Nat) : AV.frz 5 bx (.bsl sz 4 o n c) = .bsl sz 4 o n c := rfl
@[go_sem] theorem yDe (bx : List (List AV)) (sz o n c : Nat) : AV.frz 5 bx (.bsl sz 5 o n c) = .lst sz n (zU sz (((bx[5]?).getD []).drop o)) := rfl
@[go_sem] theorem yDd (bx : List (List AV)) (sz o n c : Nat) : AV.frz 5 bx (.bsl sz 6 o n c) = .lst sz n (zU sz (((bx[6]?).getD []).drop o)) := rfl
@[go_sem] theorem yDc (bx : List (List AV)) (sz o n c : Nat) : AV.frz 6 bx (.bsl sz 0 o n c) = .bsl sz 0 o n c := rfl
@[go_sem] theorem yDb (bx : List (List AV)) (sz o n c : Nat) : AV.frz 6 bx (.bsl sz 1 o n c) = .bsl sz 1 o n c := rfl
@[go_sem] theorem yDa (bx : List (List AV)) (sz o n c : Nat) : AV.frz 6 bx (.bsl sz 2 o n c) = .bsl sz 2 o n c := rfl
@[go_sem] theorem yD9 (bx : List (List AV)) (sz o n c : Nat) : AV.frz 6 bx (.bsl sz 3 o n c) = .bsl sz 3 o n c := rfl
@[go_sem] theorem yD8 (bx : List (List AV)) (sz o n c : Nat) : AV.frz 6 bx (.bsl sz 4 o n c) = .bsl sz 4 o n c := rfl
@[go_sem] theorem yD7 (bx : List (List AV)) (sz o n c : Nat) : AV.frz 6 bx (.bsl sz 5 o n c) = .bsl sz 5 o n c := rfl
@[go_sem] theorem yD6 (bx : List (List AV)) (sz o n c : Nat) : AV.frz 6 bx (.bsl sz 6 o n c) = .lst sz n (zU sz (((bx[6]?).getD []).drop o)) := rfl
attribute [go_sem] AV.frzL zWx List.getElem?_nil Option.getD_some
theorem obf {p : Prop} (h : p := by
  first
   | (simp [zFk, zQ3, zUy, AV.okF, AV.okFL, AV.bel, AV.belL, go_sem]; done)
   | (simp_all [zFk, zQ3, zUy, AV.okF, AV.okFL, AV.bel, AV.belL, go_sem]; done)
   | fail) : p := h
theorem zF3 {α : Type} [Inhabited α] {enc : α → List AV} {sz : Nat} (h : ∀ x, (enc x).length = sz) : ∀ {l : List α} {i : Nat}, i < l.length → zU sz (l.flatMap enc) i = els enc l i
 | [], i, hi => by simp at hi
 | x :: l, 0, _ => by simp [zU, els, yP3, ← h x]
 | x :: l, i + 1, hi => by
  have e := zF3 h (l := l) (i := i) (by simpa using hi)
  unfold zU at e ⊢
  rw [yP3, yN4, Nat.one_mul, Nat.add_comm, ← List.drop_drop, List.drop_left' (h x)]
  exact e
theorem zK4 {α : Type} [Inhabited α] {enc : α → List AV} {sz : Nat} {cs : List AV} {l : List α} {i : Nat} (h : ∀ x, (enc x).length = sz) (hc : l.flatMap enc = cs) (hi : i < l.length) : zU sz cs i = els enc l i := hc ▸ zF3 h hi
def zNr {α : Type} (p : α → Bool) (l : List α) : Int := match l.findIdx? p with
 | some i => (i : Int)
 | none => -1
theorem zDo {α : Type} [Inhabited α] {p : α → Bool} {l : List α} {k : Nat} (hk : k < l.length) (h : ∀ i, i < k → p (l.getD i default) = false) (hp : p (l.getD k default) = true) : zNr p l = (k : Int) := by
 have g : ∀ i, (hi : i < l.length) → l.getD i default = l[i] := fun i hi => by simp [hi]
 have e : l.findIdx? p = some k := by
  rw [yP4]
  refine ⟨hk, by rw [← g k hk]; exact hp, fun j hj => ?_⟩
  have := h j hj
  rw [g j oq] at this
  simp [this]
 rw [zNr, e]
theorem zBh {α : Type} [Inhabited α] {p : α → Bool} {l : List α} (h : ∀ i, i < l.length → p (l.getD i default) = false) : zNr p l = -1 := by
 have e : l.findIdx? p = none := by
  rw [List.findIdx?_eq_none_iff]
  intro x hx
  obtain ⟨i, hi, rfl⟩ := List.mem_iff_getElem.1 hx
  have := h i hi
  simpa [hi] using this
 rw [zNr, e]
theorem zDp {α : Type} (p : α → Bool) (l : List α) : decide (0 ≤ zNr p l) = l.any p := by
 unfold zNr
 cases h : l.findIdx? p with
 | none =>
  rw [List.findIdx?_eq_none_iff] at h
  simp only [Int.reduceNeg, Int.reduceLE, decide_false]
  rw [eq_comm, List.any_eq_false]
  intro x hx
  simp [h x hx]
 | some i =>
  have := yP4.1 h
  obtain ⟨h1, h2, _⟩ := this
  simp only [show decide (0 ≤ (i : Int)) = true from by simp]
  rw [eq_comm, List.any_eq_true]
  exact ⟨l[i], yP5 _, h2⟩
theorem Sim.func (g : FuncId) : Sim (.raw (.func (.func g) #[] #[])) (.fn (.func g) [] []) := by
 rintro G w v rfl
 exact ⟨[], [], rfl, rfl, rfl⟩
theorem vW {p : Prop} (h : p := by
  ((repeat' apply And.intro) <;> first
    | trivial
    | exact Sim.refl _
    | exact Sim.func _
    | exact Sim.nil rfl
    | (refine Sim.lstE ?_ ?_ <;> first | rfl | (simp [lA]; done) | (simp; done) | (simp; omega) | (intro i hi; first | rfl | exact zK4 (fun _ => rfl) rfl hi | (simp [els]; done) | exact zGx rfl)))) : p := h
theorem x7 {p : Prop} (h : p := by
  first
   | exact zXn
   | exact (Sim.lstE rfl fun i hi => zK4 (fun _ => rfl) rfl hi).s
   | exact (Sim.func _).s) : p := h
def opB (T : TT) (st : ASt) (o : Op) : Option (List Bool × AV × Prop) :=
 match o with
 | .call c => match c.callee with
  | .builtin .len => match c.args.toList, c.argTypes.toList with
   | [x], [t] => match st.ev x, T t with
    | some (g, .bsl _ _ _ n _), some ⟨.slice _, _, _, _, _⟩ => some ([g], .raw (.int .i64 n), True)
    | _, _ => none
   | _, _ => none
  | .builtin .cap => match c.args.toList, c.argTypes.toList with
   | [x], [t] => match st.ev x, T t with
    | some (g, .bsl _ _ _ _ cap), some ⟨.slice _, _, _, _, _⟩ => some ([g], .raw (.int .i64 cap), True)
    | _, _ => none
   | _, _ => none
  | _ => none
 | .indexAddr t x ix => match T t with
  | some ⟨.slice e, _, _, _, _⟩ => match st.ev x, st.ev ix, T e with
   | some (g, .bsl sz b off n _), some (g', .raw (.int _ i)), some j => some ([g, g'], .box b (off + i.toNat * sz), 0 ≤ i ∧ i < n ∧ j.size = sz)
   | _, _, _ => none
  | _ => none
 | .slice t x lo hi none => match T t with
  | some ⟨.slice e, _, _, _, _⟩ => match st.ev x, T e, zRs st lo, zRs st hi with
   | some (g, .bsl sz b off n cap), some j, some (gl, l), some (gh, h) => some (g :: (gl ++ gh), .bsl sz b (off + (loI l).toNat * sz) (zFj n l h) (cap - (loI l).toNat), (0 ≤ loI l ∧ loI l ≤ hiI n h ∧ hiI n h ≤ cap) ∧ j.size = sz)
   | _, _, _, _ => none
  | some ⟨.array n e, _, _, _, _⟩ => match st.ev x, T e, zRs st lo, zRs st hi with
   | some (g, .box b off), some j, some (gl, l), some (gh, h) => some (g :: (gl ++ gh), .bsl j.size b (off + (loI l).toNat * j.size) (zFj n l h) (n - (loI l).toNat), (0 ≤ loI l ∧ loI l ≤ hiI n h ∧ hiI n h ≤ n) ∧ n ≤ maxLen)
   | _, _, _, _ => none
  | _ => none
 | _ => none
section
variable {P : Program} {T : TT} {G : Gh} {w : World} {a : Act} {st : ASt}
theorem add_lit (b o k : Nat) : (⟨b, o, none⟩ : Addr).add k = ⟨b, o + k, none⟩ := by
 unfold Addr.add; split
 ·rename_i h0; rw [h0]; rfl
 ·rfl
theorem zQs {t sz b off n cap : Nat} {lo hi : Option Operand} {l h : Option Int} (u1 : P.underlying t = some (.slice (P.elem t))) (hs : (sizeOf (P.elem t)).run P w = .ok sz w)
  (o1 : (lo = none ∧ l = none) ∨ ∃ k i, l = some i ∧ lo.map a.eval = some (.int k i)) (o2 : (hi = none ∧ h = none) ∨ ∃ k i, h = some i ∧ hi.map a.eval = some (.int k i)) (hb : 0 ≤ loI l ∧ loI l ≤ hiI n h ∧ hiI n h ≤ cap) {x : Value} (hx : (AV.bsl sz b off n cap).rel G w x) :
  ∃ u, (Instr.slice t x (lo.map a.eval) (hi.map a.eval) none).run P w = .ok u w ∧ (AV.bsl sz b (off + (loI l).toNat * sz) (zFj n l h) (cap - (loI l).toNat)).rel G w u := by
 obtain ⟨blk, A, hA0, rfl, hnc, hcm, hA⟩ := hx
 obtain ⟨b1, b2, b3⟩ := hb
 have run : (Instr.slice t (.slice A n cap) (lo.map a.eval) (hi.map a.eval) none).run P w = .ok (sliced A (loI l).toNat (hiI n h).toNat cap sz) w := by
  rcases o1 with ⟨rfl, rfl⟩ | ⟨k, i, rfl, e1⟩ <;> rcases o2 with ⟨rfl, rfl⟩ | ⟨k', i', rfl, e2⟩
  ·simp only [yNp, run_slice_all w t A n cap u1, hs, loI, hiI, yNq]; rfl
  ·simp only [loI, hiI] at b1 b2 b3
   simp only [yNp, e2, run_slice_h w t A n cap u1 k' i' oq oq, hs, loI, hiI]; rfl
  ·simp only [loI, hiI] at b1 b2 b3
   simp only [yNp, e1, run_slice_l w t A n cap u1 k i oq oq, hs, loI, hiI, yNq]; rfl
  ·simp only [loI, hiI] at b1 b2 b3
   simp only [e1, e2, run_slice_lh w t A n cap u1 k k' i i' oq oq oq, hs, loI, hiI]; rfl
 refine ⟨_, run, ?_⟩
 have hN : zFj n l h = (hiI n h).toNat - (loI l).toNat := by
  cases l <;> cases h <;> simp [zFj, loI, hiI]
 rw [hN]
 refine ⟨blk, _, hA0, rfl, by omega, by omega, fun hn => ?_⟩
 rw [if_neg oq, hA oq]
 simp [add_lit]
theorem zIs {t sz b off n : Nat} {lo hi : Option Operand} {l h : Option Int} (u1 : P.underlying t = some (.array (P.arrayLen t) (P.elem t))) (hn : P.arrayLen t = n) (hs : (sizeOf (P.elem t)).run P w = .ok sz w)
  (o1 : (lo = none ∧ l = none) ∨ ∃ k i, l = some i ∧ lo.map a.eval = some (.int k i)) (o2 : (hi = none ∧ h = none) ∨ ∃ k i, h = some i ∧ hi.map a.eval = some (.int k i)) (hb : (0 ≤ loI l ∧ loI l ≤ hiI n h ∧ hiI n h ≤ n) ∧ n ≤ maxLen) {x : Value} (hx : (AV.box b off).rel G w x) :
  ∃ u, (Instr.sliceAt t x (lo.map a.eval) (hi.map a.eval) none).run P w = .ok u w ∧ (AV.bsl sz b (off + (loI l).toNat * sz) (zFj n l h) (n - (loI l).toNat)).rel G w u := by
 obtain ⟨blk, hA0, rfl⟩ := hx
 subst hn
 obtain ⟨⟨b1, b2, b3⟩, b4⟩ := hb
 have run : (Instr.sliceAt t (.pointer (some ⟨blk, off, none⟩)) (lo.map a.eval) (hi.map a.eval) none).run P w = .ok (slicedAt ⟨blk, off, none⟩ (loI l).toNat (hiI (P.arrayLen t) h).toNat (P.arrayLen t) sz) w := by
  rcases o1 with ⟨rfl, rfl⟩ | ⟨k, i, rfl, e1⟩ <;> rcases o2 with ⟨rfl, rfl⟩ | ⟨k', i', rfl, e2⟩
  ·simp only [yNp, run_sliceAt_array_all w t _ u1, hs, loI, hiI, yNq]; rfl
  ·simp only [loI, hiI] at b1 b2 b3
   simp only [yNp, e2, run_sliceAt_array_h w t _ u1 k' i' oq oq, hs, loI, hiI]; rfl
  ·simp only [loI, hiI] at b1 b2 b3
   simp only [yNp, e1, run_sliceAt_array_l w t _ u1 k i oq oq, hs, loI, hiI, yNq]; rfl
  ·simp only [loI, hiI] at b1 b2 b3
   simp only [e1, e2, run_sliceAt_array_lh w t _ u1 k k' i i' oq oq oq, hs, loI, hiI]; rfl
 refine ⟨_, run, ?_⟩
 have hN : zFj (P.arrayLen t) l h = (hiI (P.arrayLen t) h).toNat - (loI l).toNat := by
  cases l <;> cases h <;> simp [zFj, loI, hiI]
 rw [hN]
 refine ⟨blk, _, hA0, rfl, by omega, by omega, fun hn => ?_⟩
 rw [if_neg oq, add_lit]
theorem zRz (hT : TOk P T) {o : Oper} (hev : ∀ x ∈ o.op.operands.toList, zIf G w a st x) {cs : List Bool} {r : AV} {p : Prop}
  (h : opB T st o.op = some (cs, r, p)) (hc : ∀ c ∈ cs, c = true) (hp : p) : ∃ v, (execOp a.eval o).run P w = .ok (.value v) w ∧ r.rel G w v := by
 obtain ⟨dst, op, type, pos, after, guard⟩ := o
 simp only at h hev
 cases op with
 | call c =>
  obtain ⟨callee, args, argTypes⟩ := c
  obtain ⟨args⟩ := args
  obtain ⟨argTypes⟩ := argTypes
  simp only [opB] at h
  split at h
  ·split at h
   ·rename_i x t
    split at h
    ·rename_i g sz b off n cap e _ _ _ _ h1 h2
     simp only [yMc, yMu] at h
     obtain ⟨rfl, rfl, rfl⟩ := h
     obtain ⟨blk, A, _, e1, _⟩ := hev x (by simp [Op.operands, Call.operands]) _ _ h1 (hc g sq)
     refine ⟨.int .i64 n, ?_, rfl⟩
     simp [execOp, resolve, invoke, builtin, e1, xQ (hT _ _ h2) rfl]
    ·cases h
   ·cases h
  ·split at h
   ·rename_i x t
    split at h
    ·rename_i g sz b off n cap e _ _ _ _ h1 h2
     simp only [yMc, yMu] at h
     obtain ⟨rfl, rfl, rfl⟩ := h
     obtain ⟨blk, A, _, e1, _⟩ := hev x (by simp [Op.operands, Call.operands]) _ _ h1 (hc g sq)
     refine ⟨.int .i64 cap, ?_, rfl⟩
     obtain ⟨d1, q1, q2⟩ := (hT _ _ h2).und_some
     have u1 : P.underlying t = some (.slice (P.elem t)) := by rw [q1, zF q2]; simp [Program.elem, q1, zF q2]
     simp [execOp, resolve, invoke, builtin, e1, run_cap_slice w t type A n cap u1, goInt]
    ·cases h
   ·cases h
  ·cases h
 | indexAddr t x ix =>
  simp only [opB] at h
  split at h
  ·rename_i e _ _ _ _ h4
   split at h
   ·rename_i g sz b off n cap g' k i j h1 h2 h5
    simp only [yMc, yMu] at h
    obtain ⟨rfl, rfl, rfl⟩ := h
    obtain ⟨p1, p2, p3⟩ := hp
    obtain ⟨blk, A, hA0, e1, hnc, _, hA⟩ := hev x (by simp [Op.operands]) _ _ h1 (hc g sq)
    have e3 := zQ (hev ix (by simp [Op.operands]) _ _ h2 (hc g' sq))
    have hA' := hA oq
    subst hA'
    refine ⟨.pointer (some ⟨blk, off + i.toNat * sz, none⟩), ?_, blk, hA0, rfl⟩
    simp only [execOp, e1, e3, Sem.run_bind]
    rw [zAy (hT _ _ h4) rfl (hT _ _ h5) p1 p2, p3]
    rfl
   ·cases h
  ·cases h
 | slice t x lo hi mx =>
  cases mx with
  | some _ => simp [opB] at h
  | none =>
  simp only [opB] at h
  split at h
  ·rename_i e _ _ _ _ h1
   split at h
   ·rename_i g sz b off n cap j gl l gh hh h2 h3 h4 h5
    simp only [yMc, yMu] at h
    obtain ⟨rfl, rfl, rfl⟩ := h
    obtain ⟨hb, hsz⟩ := hp
    have e1 := hev x (by simp [Op.operands]) _ _ h2 (hc g sq)
    obtain ⟨d1, q1, q2⟩ := (hT _ _ h1).und_some
    have u1 : P.underlying t = some (.slice (P.elem t)) := by rw [q1, zF q2]; simp [Program.elem, q1, zF q2]
    have u2 : P.elem t = e := by simp [Program.elem, q1, zF q2]
    have o1 := wN (fun y hy => hev y (by simp [Op.operands, hy])) h4 (fun c hcc => hc c (by simp [hcc]))
    have o2 := wN (fun y hy => hev y (by simp [Op.operands, hy])) h5 (fun c hcc => hc c (by simp [hcc]))
    have s1 := (hT _ _ h3).size_run w
    rw [← u2] at s1
    obtain ⟨u, r1, r2⟩ := zQs u1 (by rw [s1, hsz]) o1 o2 hb e1
    exact ⟨u, by simp only [execOp, Sem.run_bind, run_sliceAt_slice w t _ _ _ _ u1, yNp, r1]; rfl, r2⟩
   ·cases h
  ·rename_i n e _ _ _ _ h1
   split at h
   ·rename_i g b off j gl l gh hh h2 h3 h4 h5
    simp only [yMc, yMu] at h
    obtain ⟨rfl, rfl, rfl⟩ := h
    have e1 := hev x (by simp [Op.operands]) _ _ h2 (hc g sq)
    obtain ⟨d1, q1, q2⟩ := (hT _ _ h1).und_some
    have u0 := vE q2
    have u1 : P.underlying t = some (.array (P.arrayLen t) (P.elem t)) := by simp [Program.elem, Program.arrayLen, q1, u0]
    have u2 : P.elem t = e := by simp [Program.elem, q1, u0]
    have u3 : P.arrayLen t = n := by simp [Program.arrayLen, q1, u0]
    have o1 := wN (fun y hy => hev y (by simp [Op.operands, hy])) h4 (fun c hcc => hc c (by simp [hcc]))
    have o2 := wN (fun y hy => hev y (by simp [Op.operands, hy])) h5 (fun c hcc => hc c (by simp [hcc]))
    have s1 := (hT _ _ h3).size_run w
    rw [← u2] at s1
    obtain ⟨u, r1, r2⟩ := zIs u1 u3 s1 o1 o2 hp e1
    exact ⟨u, by simp only [execOp, Sem.run_bind, yNp, r1]; rfl, r2⟩
   ·cases h
  ·cases h
 | _ => simp [opB] at h
theorem zNg (hT : TOk P T) {ops : Array Oper} {o : Oper} {g : Bool} {cs : List Bool} {x : AV} {p : Prop} (hg : y9 ops st o = some g) (h : opB T st o.op = some (cs, x, p))
  (hp : g = true → (∀ c ∈ cs, c = true) ∧ p) : vU P ops o st g x := by
 intro G a w htb hm hs
 refine ⟨y3 hg hs, fun hgt ro K Q hK => ?_⟩
 obtain ⟨v, h1, h2⟩ := zRz (P := P) (a := a) hT (fun y hy => yN fun t ht => hs t (y7 (by rw [← ht]; exact hy))) h (hp hgt).1 (hp hgt).2
 refine zJ (fun c hc => by rw [hc] at h; simp [opB] at h) ?_
 rw [h1]
 exact hK v G w (Ext.refl hm) h2
end
section runs
variable {P : Program} {T : TT} {ops : Array Oper} {r : List Oper} {k : ASt → Prop} {nt nb : Nat} {sl : List (Nat × (Bool × AV))} {bx : List (List AV)} {rw : List zV} {ys : (Nat × List (List AV)) × List (List AV) × Bool} {o : Oper} {d : Nat}
 {full : List Oper} {es : List (Nat × (Bool × AV))} {ks : List Kd} {sl0 : List (Nat × (Bool × AV))}
theorem zUn (hT : TOk P T) (hd : o.dst = some d) (hn : Nat.blt d nt = true)
  (h : ∃ g, y9 ops ⟨nt, nb, sl, bx, rw, ys⟩ o = some g ∧ ∃ cs x p, opB T ⟨nt, nb, sl, bx, rw, ys⟩ o.op = some (cs, x, p) ∧ (g = true → (∀ c ∈ cs, c = true) ∧ p) ∧ yZ P ops r k ⟨nt, nb, (d, (g, x)) :: sl, bx, rw, ys⟩) : yZ P ops (o :: r) k ⟨nt, nb, sl, bx, rw, ys⟩ :=
 let ⟨_, hg, _, _, _, h, hp, hk⟩ := h
 qI hd (zNg hT hg h hp) hn hk
end runs
attribute [go_sem] opB
theorem zEb {G : Gh} {w : World} {sz : Nat} {el : Nat → List AV} : ∀ {m : Nat} {news : List Value}, news.length = m * sz → (∀ i, i < m → ∃ vs, AV.relL G w (el i) vs ∧ vs.length = sz ∧ ∀ q u, vs[q]? = some u → news[i * sz + q]? = some u) → AV.relL G w ((List.range m).flatMap el) news
 | 0, news, hl, _ => by
  have : news = [] := yMe (by simpa using hl)
  subst this
  rfl
 | m + 1, news, hl, h => by
  rw [List.range_succ, List.flatMap_append]
  have hl1 : news.length = m * sz + sz := by rw [hl, yN4, Nat.one_mul]
  obtain ⟨vs, h1, h2, h3⟩ := h m oq
  have e : news = news.take (m * sz) ++ vs := by
   refine List.ext_getElem (by simp; omega) fun k k1 k2 => ?_
   by_cases hk : k < m * sz
   ·rw [List.getElem_append_left (by simp; omega), List.getElem_take]
   ·rw [List.getElem_append_right (by simp; omega)]
    have hq : k - (news.take (m * sz)).length = k - m * sz := by simp; omega
    have := h3 (k - m * sz) (vs[k - m * sz]'oq) (yNf oq)
    rw [show m * sz + (k - m * sz) = k from by omega, yNf k1] at this
    simp only [yMc] at this
    rw [this]
    congr 1
    exact hq.symm
  rw [e]
  refine AV.relL_append (zEb (sz := sz) (by simp; omega) fun i hi => ?_) (by simpa using h1)
  obtain ⟨us, g1, g2, g3⟩ := h i oq
  refine ⟨us, g1, g2, fun q u hq => ?_⟩
  have hql : q < sz := by rw [← g2]; exact (yNd.1 hq).1
  have hle : (i + 1) * sz ≤ m * sz := yNe _ hi
  rw [yN4, Nat.one_mul] at hle
  rw [yMg, if_pos oq]
  exact g3 q u hq
theorem zP1 {P : Program} {T : TT} (hT : TOk P T) {ops : Array Oper} {rest : List Oper} {K : ASt → Prop} {nt nb : Nat} {sl : List (Nat × (Bool × AV))} {bx : List (List AV)} {rw : List zV} {ys : (Nat × List (List AV)) × List (List AV) × Bool} {o : Oper} {d : Nat}
  {t len : Nat} {parts : Array (Nat × Operand)} (hop : o.op = .buildSlice t len parts) (hg : o.guard = none) (hd : o.dst = some d) (hn : Nat.blt d nt = true)
  (h : ∃ e s1 b1 z1 q1, T t = some ⟨.slice e, s1, b1, z1, q1⟩ ∧ ∃ j, T e = some j ∧ ∃ gs cs p, zG0 ⟨nt, nb, sl, bx, rw, ys⟩ (fun i => some (i * j.size, j.size)) parts.toList (wI len j.zero) = some (gs, cs, p) ∧ ((∀ c ∈ gs, c = true) ∧ p) ∧ (0 < j.size ∧ len * j.size ≤ 16777216 ∧ j.zero.length = j.size) ∧
   ∃ m, bx.length = m ∧ ∃ bx', bx ++ [cs] = bx' ∧ yZ P ops rest K ⟨nt, nb, (d, (true, .bsl j.size m 0 len len)) :: sl, bx', rw, ys⟩) : yZ P ops (o :: rest) K ⟨nt, nb, sl, bx, rw, ys⟩ := by
 obtain ⟨e, s1, b1, z1, q1, h1, j, h2, gs, cs, p, h3, ⟨hc, hp⟩, ⟨p2, p3, p4⟩, m, rfl, bx', rfl, hk⟩ := h
 intro C G a w Q hs hQ
 refine wpListIn_plain hg fun K' hK => ?_
 refine zJ (fun c hc => by rw [hop] at hc; cases hc) ?_
 obtain ⟨dst, op, type, pos, after, guard⟩ := o
 simp only at hop hd
 subst hop
 subst hd
 obtain ⟨us, e1, e2⟩ := vL (a := a) hs.mem _ _ _ _ _ _ (fun q hq => yN fun t ht => hs.slot t) h3 hc hp (qC len j.zero)
 have e3 := vQ (w := w) (hT _ _ h1) rfl (hT _ _ h2) p2 p3 p4 (parts := parts.map fun q => (q.1, a.eval q.2)) (us := us) (by simpa using e1)
 have hrun : (execOp a.eval ⟨some d, .buildSlice t len parts, type, pos, after, guard⟩).run P w = .ok (.value (.slice (some ⟨w.heap.size, 0, none⟩) len len)) (w.alloc (.cells us.toArray e)) := by
  simp only [execOp, Sem.run_bind, e3, Result.andThen_ok]; rfl
 rw [hrun, Oper.uponIn_value]
 have hml : len ≤ maxLen := by
  have : len ≤ len * j.size := Nat.le_mul_of_pos_right _ p2
  simp only [maxLen]; omega
 refine hK _ _ (hk C _ _ _ Q ((hs.push e e2).put (by simpa [yNz] using hn) (fun _ => ⟨w.heap.size, _, ?_, rfl, yMj _, hml, fun _ => rfl⟩) (fun h => by cases h)) hQ)
 show (G.bx ++ [w.heap.size])[bx.length]? = _
 rw [← hs.mem.lenB, yNu (yMj _), Nat.sub_self]
 rfl
theorem xZ (z : Array Value) (k : Nat) : (Builtin.zeroCells z k).toList = yT k z.toList := by
 refine List.ext_getElem? fun j => ?_
 by_cases h : j < k * z.size
 ·rw [zC3 k z.toList j (by simpa using h)]
  have hz : 0 < z.size := by
   rcases yNc z.size with h0 | h0
   ·rw [h0] at h; omega
   ·exact h0
  have hm : j % z.size < z.size := Nat.mod_lt _ hz
  simp [Builtin.zeroCells, h, hm]
 ·rw [yNw (by simp [Builtin.zeroCells]; omega), yNw (by rw [yQ]; simp; omega)]
def zWd (st : ASt) (o : Op) : Option (List Bool × Nat × Nat × Nat × (Nat → List AV) × Prop × TypeId) :=
 match o with
 | .call c => match c.callee with
  | .builtin .append => match c.args.toList, c.argTypes.toList with
   | [x, y], [t, t'] => bif Nat.beq t t' then match st.ev x, st.ev y with
    | some (g1, .bsl sz _ _ 0 0), some (g2, v) => match st.asL v with
     | some (sz', m, el, p) => some ([g1, g2], sz, sz', m, el, p, t)
     | none => none
    | _, _ => none
   else none
   | _, _ => none
  | _ => none
 | _ => none
theorem yM {P : Program} {T : TT} (hT : TOk P T) {ops : Array Oper} {rest : List Oper} {K : ASt → Prop} {nt nb : Nat} {sl : List (Nat × (Bool × AV))} {bx : List (List AV)} {rw : List zV} {ys : (Nat × List (List AV)) × List (List AV) × Bool} {o : Oper} {d : Nat}
  (hg : o.guard = none) (hd : o.dst = some d) (hn : Nat.blt d nt = true)
  (h : ∃ cs sz sz' m el p t, zWd ⟨nt, nb, sl, bx, rw, ys⟩ o.op = some (cs, sz, sz', m, el, p, t) ∧ ((∀ c ∈ cs, c = true) ∧ p) ∧ ∃ e s1 b1 z1 q1, T t = some ⟨.slice e, s1, b1, z1, q1⟩ ∧ ∃ j, T e = some j ∧ (sz = j.size ∧ sz' = j.size ∧ 0 < j.size ∧ j.zero.length = j.size) ∧
   (∀ q, q < m → AV.oneL ⟨nt, nb, sl, bx, rw, ys⟩ (el q)) ∧ (0 < m ∧ m ≤ maxLen ∧ m * j.bytes ≤ 140737488355328) ∧ ∃ bn, bx.length = bn ∧
   ∀ c, m ≤ c → c ≤ maxLen → ∃ bx', bx ++ [(List.range m).flatMap el ++ wI (c - m) j.zero] = bx' ∧ yZ P ops rest K ⟨nt, nb, (d, (true, .bsl j.size bn 0 m c)) :: sl, bx', rw, ys⟩) : yZ P ops (o :: rest) K ⟨nt, nb, sl, bx, rw, ys⟩ := by
 obtain ⟨cs, sz, sz', m, el, p, t, h1, ⟨hc, hp⟩, e, s1, b1, z1, q1, h2, j, h3, ⟨rfl, rfl, j0, jz⟩, hone, ⟨m0, m1, m2⟩, bn, rfl, hk⟩ := h
 intro C G a w Q hs hQ
 refine wpListIn_plain hg fun K' hK => ?_
 refine zJ (fun c hc => by rw [hc] at h1; simp [zWd] at h1) ?_
 have hev : ∀ y ∈ o.op.operands.toList, zIf G w a ⟨nt, nb, sl, bx, rw, ys⟩ y := fun y hy => yN fun t ht => hs.slot t
 obtain ⟨dst, op, type, pos, after, guard⟩ := o
 simp only at h1 hev hd
 subst hd
 unfold zWd at h1
 split at h1
 ·rename_i cl
  obtain ⟨callee, args, argTypes⟩ := cl
  obtain ⟨args⟩ := args
  obtain ⟨argTypes⟩ := argTypes
  simp only at h1
  split at h1
  ·split at h1
   ·rename_i x y t1 t2
    cases hbt : Nat.beq t1 t2
    ·rw [hbt] at h1; cases h1
    ·rw [hbt] at h1
     simp only [yMq] at h1
     obtain rfl := yMs hbt
     split at h1
     ·rename_i g1 szx b off g2 v' hx hy
      split at h1
      ·rename_i sz' m' el' p' hl
       simp only [yMc, yMu] at h1
       obtain ⟨rfl, rfl, rfl, rfl, rfl, rfl, rfl⟩ := h1
       obtain ⟨blk, A, hA0, ex, _, _, _⟩ := hev x (by simp [Op.operands, Call.operands]) _ _ hx (hc g1 sq)
       have hyr := xN hs.mem hl hp (hev y (by simp [Op.operands, Call.operands]) _ _ hy (hc g2 sq))
       obtain ⟨A', cap', ey, _⟩ := id hyr
       rw [ey] at hyr
       obtain ⟨news, hnl, hna, hnw, _⟩ := jU j0 hyr
       obtain ⟨a', rfl, hsrc⟩ := hna m0
       obtain ⟨d1, u1, u2⟩ := (hT _ _ h2).und_some
       have hu : P.underlying t1 = some (.slice e) := by rw [u1, zF u2]
       obtain ⟨ie, z, g2', g1', g3, g4, e2⟩ : ∃ ie z, P.info? e = some ie ∧ ie.size = j.size ∧ ie.zero = some z ∧ ie.bytes = j.bytes ∧ z.cells.toList = j.zero := by
        have h1 := (hT _ _ h3).info
        cases hie : P.info? e with
        | none => rw [hie] at h1; cases h1
        | some x =>
         rw [hie] at h1
         simp only [yMw, yMc, yMu] at h1
         cases hzz : x.zero with
         | none => rw [hzz] at h1; cases h1.1
         | some z =>
          rw [hzz] at h1
          simp only [yMw, yMc] at h1
          exact ⟨x, z, rfl, h1.2.1, hzz, h1.2.2, h1.1⟩
       have hm63 : ((0 + m' : Nat) : Int) ≤ 9223372036854775807 := by simp only [maxLen] at m1; omega
       have hfit : Builtin.nextslicecap (0 + m') 0 * ie.bytes ≤ 281474976710656 := growslice_fits oq (by rw [g4, yN9]; exact m2)
       have hrun : (Builtin.append_ #[t1, t1] type #[.slice A 0 0, .slice (some a') m' cap']).run P w = .ok (.slice (some ⟨w.heap.size, 0, none⟩) m' (grownCap w m' 0 e)) (w.drew.alloc (.cells (news.toArray ++ Builtin.zeroCells z.cells (grownCap w m' 0 e - m')) e)) := by
        cases A with
        | none => exact run_append_nil (P := P) w t1 type e ie z hu g2' g3 a' m' cap' news (by rw [g1']; exact hnl) hsrc oq oq (by rw [g4]; omega)
        | some A =>
         have := run_append_grow (P := P) w t1 type e ie z hu g2' g3 A 0 0 [] sq sq a' m' cap' news (by rw [g1']; exact hnl) hsrc oq hm63 hfit
         simpa using this
       have hge := grownCap_ge w m' 0 e
       have hcm : grownCap w m' 0 e ≤ maxLen := grownCap_le_maxLen w m' 0 e m1
       obtain ⟨bx', rfl, hk⟩ := hk (grownCap w m' 0 e) hge hcm
       generalize grownCap w m' 0 e = c at *
       have hexec : (execOp a.eval ⟨some d, .call ⟨.builtin .append, ⟨[x, y]⟩, ⟨[t1, t1]⟩⟩, type, pos, after, guard⟩).run P w = .ok (.value (.slice (some ⟨w.heap.size, 0, none⟩) m' c)) (w.drew.alloc (.cells (news.toArray ++ Builtin.zeroCells z.cells (c - m')) e)) := by
        simp [execOp, resolve, invoke, builtin, ex, ey, hrun]
       rw [hexec, Oper.uponIn_value]
       have hb1 : Below w.heap.size w w.drew := (Below.refl _ _).drew
       have E := wX hs.mem hb1 G.imm (fun _ _ i => i) (fun _ _ i => .inl i) (fun b o i => hs.mem.immOk b o i)
       have hs1 : Sat C G a w.drew ⟨nt, nb, sl, bx, rw, ys⟩ := hs.called (zR.of_below hb1) E.le (fun _ _ i => .inl i) (fun _ h => .inl h) (fun x hx g hg => .inl ⟨x, hx, hg⟩) E.mem
       have hcells : AV.relL G w.drew ((List.range m').flatMap el' ++ wI (c - m') j.zero) (news ++ yT (c - m') j.zero) := AV.relL_append (AV.relL_mono E.le _ _ (zEb hnl hnw)) (qC _ _)
       have hs2 := hs1.push e hcells
       have harr : (news ++ yT (c - m') j.zero).toArray = news.toArray ++ Builtin.zeroCells z.cells (c - m') := by
        apply Array.ext'
        simp [xZ, e2]
       rw [harr] at hs2
       refine hK _ _ (hk C _ _ _ Q (hs2.put (by simpa [yNz] using hn) (fun _ => ⟨w.heap.size, _, ?_, rfl, hge, hcm, fun _ => rfl⟩) (fun h => by cases h)) hQ)
       show (G.bx ++ [w.heap.size])[bx.length]? = _
       rw [← hs.mem.lenB, yNu (yMj _), Nat.sub_self]
       rfl
      ·cases h1
     ·cases h1
   ·cases h1
  ·cases h1
 ·cases h1
attribute [go_sem] zWd
structure FnX (P : Program) (f : FuncId) (args : List AV) (bx : List (List AV)) (rw : List zV) (R : AV → List (List AV) → List zV → Prop) : Prop where
 ok : wS P f
 calls : ∀ (G : Gh) (w : World) (vs : List Value), zFm P w → (∀ g, vC P g → g ∉ G.bx ∧ ∀ x ∈ G.rw, (zC x.2) ≠ some g) → xU G w bx rw → AV.relL G w args vs →
  Calls P f vs.toArray w fun e w' => ∃ r bx' rw', R r bx' rw' ∧ ∃ v G', e = .returned v ∧ zR (fun k => k ∈ G.bx ∨ ∃ x ∈ G.rw, (zC x.2) = some k) w w' ∧ G.Le w G' w' ∧ (∀ b o, G'.imm b o → G.imm b o ∨ w.heap.size ≤ b ∨ ∃ x ∈ G.rw, (zC x.2) = some b) ∧
   (∀ k ∈ G'.bx, k ∈ G.bx ∨ w.heap.size ≤ k) ∧ (∀ x ∈ G'.rw, ∀ g, (zC x.2) = some g → (∃ y ∈ G.rw, (zC y.2) = some g) ∨ w.heap.size ≤ g) ∧ xU G' w' bx' rw' ∧ r.rel G' w' v
def zN5 (T : TT) (rs : List ResultVar) (R : AV → List (List AV) → List zV → Prop) (e : Exit) (st : ASt) : Prop := ∃ m r bx' rw', R r bx' rw' ∧ zDi T rs m r bx' rw' e st
theorem zRa {T : TT} {rs : List ResultVar} {R : AV → List (List AV) → List zV → Prop} {e : Exit} {st : ASt} (m : Nat) (r : AV) (bx' : List (List AV)) (rw' : List zV) (hR : R r bx' rw') (he : e = .normal ∨ e = .ret)
  (h : ∃ cs x p, zUs T st rs = some (cs, x, p) ∧ ((∀ c ∈ cs, c = true) ∧ p) ∧ zQ4 m st x r ∧ st.nb % 64 ≤ m ∧ st.bx.take m = bx' ∧ st.rw = rw' ∧ zFk m bx' ∧ zQ3 m rw') : zN5 T rs R e st := ⟨m, r, bx', rw', hR, zCj he h⟩
theorem zWy {P : Program} {T : TT} (hT : TOk P T) {f : FuncId} {fn : Func} {c : Code} {args : List AV} {bx : List (List AV)} {rw : List zV} {R : AV → List (List AV) → List zV → Prop} (hf : P.funcs[f]? = some fn) (hb : fn.body = some c) (hnm : (fn.name == "runtime.NumGoroutine") = false) (n : Nat) (hn : fn.ntmps = n) (hlen : args.length ≤ n) (rs : List ResultVar) (hrs : fn.results.toList = rs)
  (h64 : bx.length < 64) (h : wpA P c (zN5 T rs R) (zAh n args bx rw)) : FnX P f args bx rw R := by
 subst hrs
 refine ⟨⟨fn, hf, hnm, by rw [hb]; rfl⟩, fun G0 w vs htb hto hM hr => ?_⟩
 have hvl := AV.relL_length hr
 let C : Ctx P := ⟨none, (0, []), vC P, W0 P w, G0.imm, G0, w, fun _ _ i => i, zFe htb, yM0, zMm htb⟩
 have hs : Sat C G0 { tmps := vs.toArray ++ Array.replicate (fn.ntmps - vs.toArray.size) undef, defers := [] } w (zAh n args bx rw) := by
  refine ⟨by simp [zAh, hn]; omega, ⟨by have := hM.lenB; show G0.bx.length = (bx.length + 64 * rw.length) % 64; omega, by have := hM.lenR; show G0.rw.length = (bx.length + 64 * rw.length) / 64; omega⟩, zR.refl _ _, Gh.Le.refl _ _, fun _ _ i => .inl i, fun _ h => .inl h, fun x hx g hg => .inl ⟨x, hx, hg⟩, ⟨vC P, rfl, ⟨rfl, fun _ => Iff.rfl, fun _ _ => rfl⟩, fun _ h => .inl h, fun _ h => htb.lt h, fun k h hd => (hto k hd).1 h, fun x hx g hg hd => (hto g hd).2 x hx hg, fun _ _ i => .inl i, ⟨[], rfl, by simp, fun _ h => by simp at h⟩, fun _ h => by cases h⟩, hM, ?_⟩
  intro t c x hl
  obtain ⟨j, e1, e2, rfl⟩ := zA9 hl
  obtain ⟨v, e3, e4⟩ := AV.relL_get hr e2
  have hj : j < vs.length := (yNd.1 e3).1
  refine ⟨v, ?_, fun _ => e4, fun h => by cases h⟩
  rw [show t = j from by omega, yO5 (by simpa using hj)]
  simpa using e3
 refine callsIn_wide.1 (callsIn_of_wp_marks (n := 0) hf hb trivial (wpIn_mono (h _ _ _ _ hs) ?_))
 rintro e a' w1 ⟨G', st', hs1, m, r, bx', rw', hR, he, cs, x, p, h1, h2, hp, h3, hnb, rfl, rfl, h4, h5⟩
 obtain ⟨tm, df⟩ := a'
 obtain ⟨D1, hD1⟩ := hs1.env
 obtain ⟨ml, hml, _⟩ := hD1.marks
 simp only at hml
 subst hml
 have fin := Sat.leaves (F := Fence.wide) (n := 0) (fn := fn) (tmps := tm) (R := fun e w' => ∃ r bx' rw', R r bx' rw' ∧ ∃ v G', e = .returned v ∧ zR (fun k => k ∈ G0.bx ∨ ∃ x ∈ G0.rw, (zC x.2) = some k) w w' ∧ G0.Le w G' w' ∧ (∀ b o, G'.imm b o → G0.imm b o ∨ w.heap.size ≤ b ∨ ∃ x ∈ G0.rw, (zC x.2) = some b) ∧
   (∀ k ∈ G'.bx, k ∈ G0.bx ∨ w.heap.size ≤ k) ∧ (∀ x ∈ G'.rw, ∀ g, (zC x.2) = some g → (∃ y ∈ G0.rw, (zC y.2) = some g) ∨ w.heap.size ≤ g) ∧ xU G' w' bx' rw' ∧ r.rel G' w' v) (fun w' hs' => by
  have key : ∃ v, (results fn tm).run P w' = .ok v w' ∧ x.rel G' w' v := by
   unfold zUs at h1
   split at h1
   ·rename_i y p' hy
    simp only [yMc, yMu] at h1
    obtain ⟨rfl, rfl, rfl⟩ := h1
    obtain ⟨us, e1, e2⟩ := wK (P := P) hT hs' hy (fun z hz => h2 z.1 (by simp at hz; subst hz; simp)) hp
    obtain ⟨v, us', rfl, e3, e4⟩ := e1
    rw [show us' = [] from e4] at e2
    exact ⟨v, by rw [xH e2], e3⟩
   ·rename_i ys p' hys hy
    simp only [yMc, yMu] at h1
    obtain ⟨rfl, rfl, rfl⟩ := h1
    obtain ⟨us, e1, e2⟩ := wK (P := P) hT hs' hy (fun z hz => h2 z.1 (yO6.2 ⟨z, hz, rfl⟩)) hp
    refine ⟨.tuple us.toArray, ?_, us, rfl, e1⟩
    rw [xH e2]
    have hl := AV.relL_length e1
    rw [yO7] at hl
    split
    ·rename_i v
     exfalso
     match ys, hl with
     | [z], _ => exact hys z rfl
    ·rfl
   ·cases h1
  obtain ⟨v, k2, k3⟩ := key
  have hlb : G0.bx.length ≤ m := by rw [hs'.callers.1]; exact hnb
  refine ⟨v, k2, r, _, _, hR, v, G'.cut m w', rfl, ⟨hs'.frame.os, hs'.frame.tape, hs'.frame.output, hs'.frame.size, fun k hk hn => (Classical.em (vC P k)).elim (fun ht => let ⟨_, e⟩ := hs'.env; e.cons.2.2 k ht) fun ht => hs'.frame.block k hk fun hm => by
   rcases hm with hm | hm
   ·exact ht hm
   ·exact hn hm⟩, ⟨fun b o i => .inl (hs'.le.imm b o i), hs'.le.cell, fun k x hx => zBr (yMl (yNd.1 hx).1 hlb) (hs'.le.bx k x hx), hs'.le.rw⟩, fun b o i => ?_, fun k hk => hs'.ownB k (yO8 hk), hs'.ownR, zHn hs'.mem h4 h5, h3 _ _ _ hs'.mem k3⟩
  rcases i with i | ⟨i, _⟩
  ·exact hs'.fresh b o i
  ·rcases hs'.ownB b (yOx i) with hb2 | hb2
   ·exfalso
    obtain ⟨q, hq⟩ := yOw hb2
    have h6 := hs'.le.bx q b hq
    obtain ⟨q2, hq2⟩ := yOw i
    rw [yMf] at hq2
    have hl : q < G'.bx.length := (yNd.1 h6).1
    have := (yO3 hl hs'.mem.nodup).1 (h6.trans hq2.symm)
    have hql : q < G0.bx.length := (yNd.1 hq).1
    omega
   ·exact .inr (.inl hb2)) ml w1 hs1
 rcases he with rfl | rfl <;> exact fin
theorem FnX.frame {P : Program} {f : FuncId} {args : List AV} {bx sub : List (List AV)} {rw rsub : List zV} {R : AV → List (List AV) → List zV → Prop} (F : FnX P f args sub rsub R) (ib ir : List Nat)
  (H : zC1 ib ir bx sub rw rsub (idx ib bx.length) (idx ir rw.length)) (ha : AV.subL ib.length ir.length args) (hl : ∀ r sub' rsub', R r sub' rsub' → ib.length ≤ sub'.length ∧ ir.length ≤ rsub'.length) :
  FnX P f (AV.renL (idx ib bx.length) (idx ir rw.length) args) bx rw fun r1 bx1 rw1 => ∃ r sub' rsub', R r sub' rsub' ∧ r1 = r.ren (idx ib bx.length) (idx ir rw.length) ∧ bx1 = y8 bx ib (sub'.map (AV.renL (idx ib bx.length) (idx ir rw.length))) ∧ rw1 = y8 rw ir (rsub'.map (zV.ren (idx ib bx.length) (idx ir rw.length))) := by
 refine ⟨F.ok, fun G w vs htb hto hm hr => ?_⟩
 obtain ⟨hp, zKk⟩ := zJg hm H
 have inB : ∀ k, k ∈ (x8 G ib ir).bx → k ∈ G.bx := fun k hk => by
  obtain ⟨q, hq⟩ := yOw hk
  obtain ⟨j, _, j2⟩ := kX hm H hq
  exact yNr j2
 have inR : ∀ x, x ∈ (x8 G ib ir).rw → x ∈ G.rw := fun k hk => by
  obtain ⟨q, hq⟩ := yOw hk
  obtain ⟨j, _, j2⟩ := zAs hm H hq
  exact yNr j2
 refine (F.calls _ w vs htb (fun g hg => ⟨fun h => (hto g hg).1 (inB g h), fun x hx => (hto g hg).2 x (inR x hx)⟩) hp (zKk _ _ ha hr)).mono ?_
 rintro e w' ⟨r, sub', rsub', hR, v, G1, rfl, hout, hle, hfr, hoB, hoR, hm1, hv⟩
 obtain ⟨l1, l2⟩ := hl r sub' rsub' hR
 obtain ⟨G2, hi, m2, le2, b2, r2, up⟩ := zJi hm H hout hle hfr hoB hoR hm1 (vG (AV.renL (idx ib bx.length) (idx ir rw.length)) ib bx sub' H.hb.nodup H.hb.lt l1) (vG (zV.ren (idx ib bx.length) (idx ir rw.length)) ir rw rsub' H.hr.nodup H.hr.lt l2)
 refine ⟨_, _, _, ⟨r, sub', rsub', hR, rfl, rfl, rfl⟩, v, G2, rfl, hout.mono fun k _ h => h.elim (fun h => .inl (inB k h)) fun ⟨x, hx, hg⟩ => .inr ⟨x, inR x hx, hg⟩, le2, fun b o i => ?_, b2, r2, m2, up _ _ hv⟩
 rw [hi] at i
 rcases hfr b o i with h | h | ⟨x, hx, hg⟩
 ·exact .inl h
 ·exact .inr (.inl h)
 ·exact .inr (.inr ⟨x, inR x hx, hg⟩)
section runs
variable {P : Program} {ops : Array Oper} {rest : List Oper} {o : Oper} {cs : List Bool} {f : FuncId} {args : List AV} {R : AV → List (List AV) → List zV → Prop}
theorem zPu {st : ASt} (hg : o.guard = none) (h : kL st o.op = some (cs, f, args)) (hc : ∀ c ∈ cs, c = true) (F : FnX P f args st.bx st.rw R) {C : Ctx P} {G : Gh} {a : Act} {w : World} {Q : Exit → Act → World → Prop} (hs : Sat C G a w st)
  (hQ : ∀ r bx' rw', R r bx' rw' → ∀ v G' w', Sat C G' a w' { st with bx := bx', rw := rw' } → r.rel G' w' v → wpListIn (fen C.round) 0 P ops Q rest (a.put o.dst v) w') : wpListIn (fen C.round) 0 P ops Q (o :: rest) a w := by
 obtain ⟨vs, h1, h2⟩ := qQ (P := P) (a := a) h (fun y hy => yN fun t ht => hs.slot t) hc F.ok
 refine wpListIn_plain hg fun K hK => ?_
 refine zJ (fun c hc => by rw [hc] at h; simp [kL] at h) ?_
 rw [h2, Oper.uponIn_enter]
 refine ⟨fun h => by simp [fen] at h, xM ?_⟩
 refine (F.calls G w vs hs.tabs hs.tabs_own hs.mem h1).mono ?_
 rintro e w' ⟨r, bx', rw', hR, v, G', rfl, hout, hle, hfr, hB, hR', hm1, hv⟩
 exact hK _ _ (hQ r bx' rw' hR v G' w' (hs.called hout hle hfr hB hR' hm1) hv)
variable {K : ASt → Prop} {nt nb : Nat} {sl : List (Nat × (Bool × AV))} {bx : List (List AV)} {rw : List zV} {ys : (Nat × List (List AV)) × List (List AV) × Bool} {d : Nat}
theorem zWo (ib ir : List Nat) {sub : List (List AV)} {rsub : List zV} (F : FnX P f args sub rsub R) (hg : o.guard = none) (hd : o.dst = some d) (hn : Nat.blt d nt = true)
  (h : ∃ m, bx.length = m ∧ ∃ n, rw.length = n ∧ ∃ cs, kL ⟨nt, nb, sl, bx, rw, ys⟩ o.op = some (cs, f, AV.renL (idx ib m) (idx ir n) args) ∧ (∀ c ∈ cs, c = true) ∧ ib.Nodup ∧ ir.Nodup ∧ zDf bx (AV.renL (idx ib m) (idx ir n)) ib sub ∧ zDf rw (zV.ren (idx ib m) (idx ir n)) ir rsub ∧
   ((∀ cs ∈ sub, AV.subL ib.length ir.length cs) ∧ (∀ r ∈ rsub, ∀ q, q < r.n → AV.subL ib.length ir.length (r.el q)) ∧ AV.subL ib.length ir.length args) ∧ (∀ r sub' rsub', R r sub' rsub' → ib.length ≤ sub'.length ∧ ir.length ≤ rsub'.length) ∧
   ∀ r sub' rsub', R r sub' rsub' → ∃ r1, r.ren (idx ib m) (idx ir n) = r1 ∧ ∃ bx1, y8 bx ib (sub'.map (AV.renL (idx ib m) (idx ir n))) = bx1 ∧ ∃ rw1, y8 rw ir (rsub'.map (zV.ren (idx ib m) (idx ir n))) = rw1 ∧
   yZ P ops rest K ⟨nt, nb, (d, (true, r1)) :: sl, bx1, rw1, ys⟩) : yZ P ops (o :: rest) K ⟨nt, nb, sl, bx, rw, ys⟩ := by
 obtain ⟨m, rfl, n, rfl, cs, h1, h2, h3, h4, h5, h6, ⟨h7, h8, h9⟩, hl, h12⟩ := h
 intro C G a w Q hs hQ
 refine zPu hg h1 h2 (F.frame ib ir (zEs h3 h4 h5 h6 h7 h8) h9 hl) hs ?_
 rintro r1 bx1 rw1 ⟨r, sub', rsub', hR, rfl, rfl, rfl⟩ v G' w' hs' hv
 obtain ⟨_, rfl, _, rfl, _, rfl, hk⟩ := h12 r sub' rsub' hR
 rw [hd]
 exact hk C G' _ w' Q (hs'.put (by simpa [yNz] using hn) (fun _ => hv) (fun h => by cases h)) hQ
end runs
theorem zJs {a b : List AV} : AV.freeL a → AV.freeL b → AV.freeL (a ++ b) := by
 induction a with
 | nil => intro _ h; exact h
 | cons x a ih => intro h1 h2; exact ⟨h1.1, ih h1.2 h2⟩
theorem xS {α : Type} {enc : α → List AV} (h : ∀ x, AV.freeL (enc x)) : ∀ l : List α, AV.freeL (l.flatMap enc)
 | [] => trivial
 | x :: l => by rw [yP3]; exact zJs (h x) (xS h l)
theorem k9 {α : Type} {enc : α → List AV} {sz : Nat} (h : ∀ x, (enc x).length = sz) : ∀ l : List α, (l.flatMap enc).length = l.length * sz
 | [] => by simp
 | x :: l => by rw [yP3, yN1, h, k9 h l, yMy, yN4, Nat.one_mul, Nat.add_comm]
theorem zH1 {α : Type} [Inhabited α] {enc : α → List AV} {sz : Nat} (h : ∀ x, (enc x).length = sz) {l : List α} {r : List AV} {i : Nat} (hi : i < l.length) : zU sz (l.flatMap enc ++ r) i = els enc l i := by
 rw [← zF3 h hi]
 unfold zU
 have hle : (i + 1) * sz ≤ l.length * sz := yNe _ hi
 rw [yN4, Nat.one_mul] at hle
 rw [List.drop_append_of_le_length (by rw [k9 h]; omega), yP6 (by rw [yOu, k9 h]; omega)]
section
variable {P : Program} {nt nb : Nat} {sl sl' : List (Nat × (Bool × AV))}
end
end Go.Proofs.YtioaahmkebojiaaGreatDoor
