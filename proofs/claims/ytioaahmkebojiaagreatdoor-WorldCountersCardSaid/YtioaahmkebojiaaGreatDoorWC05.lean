import Derived.Test.YtioaahmkebojiaaGreatDoorWC01
import Derived.Test.YtioaahmkebojiaaGreatDoorWC04
namespace Go.Proofs.YtioaahmkebojiaaGreatDoor
set_option linter.unusedVariables false
set_option linter.unusedSimpArgs false
set_option maxHeartbeats 4000000
set_option maxRecDepth 100000
open Go.RowKit

structure FnG (P : Program) (f : FuncId) (args : List AV) (bx : List (List AV)) (rw : List zV) (r : AV) (bx' : List (List AV)) (rw' : List zV) : Prop where
 ok : wS P f
 calls : ∀ (G : Gh) (w : World) (vs : List Value), zFm P w → (∀ g, vC P g → g ∉ G.bx ∧ ∀ x ∈ G.rw, (zC x.2) ≠ some g) → xU G w bx rw → AV.relL G w args vs →
  Calls P f vs.toArray w fun e w' => ∃ v G', e = .returned v ∧ zR (fun k => k ∈ G.bx ∨ ∃ x ∈ G.rw, (zC x.2) = some k) w w' ∧ G.Le w G' w' ∧ (∀ b o, G'.imm b o → G.imm b o ∨ w.heap.size ≤ b ∨ ∃ x ∈ G.rw, (zC x.2) = some b) ∧
   (∀ k ∈ G'.bx, k ∈ G.bx ∨ w.heap.size ≤ k) ∧ (∀ x ∈ G'.rw, ∀ g, (zC x.2) = some g → (∃ y ∈ G.rw, (zC y.2) = some g) ∨ w.heap.size ≤ g) ∧ xU G' w' bx' rw' ∧ r.rel G' w' v

def Gh.cut (G : Gh) (m : Nat) (w : World) : Gh := ⟨fun b o => G.imm b o ∨ (b ∈ G.bx.drop m ∧ (w.cell? ⟨b, o, none⟩).isSome = true), G.bx.take m, G.rw⟩
def zQ3 (m : Nat) (rw : List zV) : Prop := ∀ r ∈ rw, ∀ q, q < r.n → AV.belL m (r.el q)
theorem zBr {G : Gh} {m : Nat} {w : World} {k x : Nat} (hk : k < m) (h : G.bx[k]? = some x) : (G.cut m w).bx[k]? = some x := by
 show (G.bx.take m)[k]? = some x
 rw [yMg, if_pos hk]; exact h
theorem zHn {G : Gh} {w : World} {bx : List (List AV)} {rw : List zV} (h : xU G w bx rw) {m : Nat} (hb : zFk m (bx.take m)) (hr : zQ3 m rw) : xU (G.cut m w) w (bx.take m) rw := by
 have h0 : ∀ b o, G.imm b o → (G.cut m w).imm b o := fun _ _ i => .inl i
 have up : ∀ (xs : List AV) (vs : List Value), AV.belL m xs → AV.relL G w xs vs → AV.relL (G.cut m w) w xs vs := fun xs vs hx hv => AV.relL_bel h0 (fun k x hk hx => zBr hk hx) rfl xs vs hx hv
 have taken : ∀ {k blk : Nat}, (G.bx.take m)[k]? = some blk → k < m ∧ G.bx[k]? = some blk := fun {k blk} hk => by
  rw [yMg] at hk
  split at hk
  ·exact ⟨by assumption, hk⟩
  ·cases hk
 refine ⟨fun b o i => ?_, ?_, h.lenR, h.nodup.sublist (List.take_sublist _ _), fun k cs blk hk hg => ?_, fun k r x hk hg => ?_, fun k x g hk hg hm => h.sepB k x g hk hg (yO8 hm), h.sepR⟩
 ·rcases i with i | ⟨_, i⟩
  ·exact h.immOk b o i
  ·exact i
 ·show (G.bx.take m).length = (bx.take m).length
  simp [h.lenB]
 ·obtain ⟨hkm, hg'⟩ := taken hg
  rw [yMg, if_pos hkm] at hk
  obtain ⟨e1, vs, T, e2, e3⟩ := h.box k cs blk hk hg'
  refine ⟨fun o i => ?_, vs, T, e2, up _ _ (zFk.get hb (by rw [yMg, if_pos hkm]; exact hk)) e3⟩
  rcases i with i | ⟨i, _⟩
  ·exact e1 o i
  ·obtain ⟨q, hq⟩ := yOw i
   rw [yMf] at hq
   have hl : k < G.bx.length := (yNd.1 hg').1
   have := (yO3 hl h.nodup).1 (hg'.trans hq.symm)
   omega
 ·have ro := h.row k r x hk hg
  obtain ⟨xs, ho, hel⟩ := ro.own
  refine ⟨ro.len, ⟨xs, ho, fun i hi => ?_⟩, fun g hg2 o => ?_⟩
  ·obtain ⟨vs, e1, e2⟩ := hel i hi
   exact ⟨vs, up _ _ (hr r (yNr hk) i hi) e1, e2⟩
  ·rw [← ro.imm g hg2 o]
   refine ⟨fun i => ?_, .inl⟩
   rcases i with i | ⟨i, _⟩
   ·exact i
   ·exact absurd (yOx i) (h.sepB k x g hg hg2)
def zQ4 (m : Nat) (st : ASt) (x r : AV) : Prop := ∀ (G : Gh) (w : World) (v : Value), xU G w st.bx st.rw → x.rel G w v → r.rel (G.cut m w) w v
theorem zQ4.bel {m : Nat} {st : ASt} {x r : AV} (h : x = r) (hb : x.bel m) : zQ4 m st x r := fun G w v _ hr => h ▸ AV.rel_bel (G := G) (G' := G.cut m w) (fun _ _ i => .inl i) (fun k x hk hx => zBr hk hx) rfl x v hb hr
def zDi (T : TT) (rs : List ResultVar) (m : Nat) (r : AV) (bx' : List (List AV)) (rw' : List zV) (e : Exit) (st : ASt) : Prop :=
 (e = .normal ∨ e = .ret) ∧ ∃ cs x p, zUs T st rs = some (cs, x, p) ∧ (∀ c ∈ cs, c = true) ∧ p ∧ zQ4 m st x r ∧ st.nb % 64 ≤ m ∧ st.bx.take m = bx' ∧ st.rw = rw' ∧ zFk m bx' ∧ zQ3 m rw'
def zAh (n : Nat) (args : List AV) (bx : List (List AV)) (rw : List zV) : ASt := { nt := n, nb := bx.length + 64 * rw.length, sl := zIa 0 args, bx := bx, rw := rw, ys := ((0, []), [], true) }
theorem yBs {P : Program} {T : TT} (hT : TOk P T) {f : FuncId} {fn : Func} {c : Code} {args : List AV} {bx bx' : List (List AV)} {rw rw' : List zV} {r : AV} (hf : P.funcs[f]? = some fn) (hb : fn.body = some c) (hnm : (fn.name == "runtime.NumGoroutine") = false) (n : Nat) (hn : fn.ntmps = n) (hlen : args.length ≤ n) (rs : List ResultVar) (hrs : fn.results.toList = rs)
  (m : Nat) (h64 : bx.length < 64) (h : wpA P c (zDi T rs m r bx' rw') (zAh n args bx rw)) : FnG P f args bx rw r bx' rw' := by
 subst hrs
 refine ⟨⟨fn, hf, hnm, by rw [hb]; rfl⟩, fun G0 w vs htb hto hM hr => ?_⟩
 have hvl := AV.relL_length hr
 let C : Ctx P := ⟨none, (0, []), vC P, W0 P w, G0.imm, G0, w, fun _ _ i => i, zFe htb, yM0, zMm htb⟩
 have hs : Sat C G0 { tmps := vs.toArray ++ Array.replicate (fn.ntmps - vs.toArray.size) undef, defers := [] } w (zAh n args bx rw) := by
  refine ⟨by simp [zAh, hn]; omega, ⟨by have := hM.lenB; show G0.bx.length = (bx.length + 64 * rw.length) % 64; omega, by have := hM.lenR; show G0.rw.length = (bx.length + 64 * rw.length) / 64; omega⟩, zR.refl _ _, Gh.Le.refl _ _, fun _ _ i => .inl i, fun _ h => .inl h, fun x hx g hg => .inl ⟨x, hx, hg⟩, ⟨vC P, rfl, ⟨rfl, fun _ => Iff.rfl, fun _ _ => rfl⟩, fun _ h => .inl h, fun _ h => htb.lt h, fun k h hd => (hto k hd).1 h, fun x hx g hg hd => (hto g hd).2 x hx hg, fun _ _ i => .inl i, ⟨[], rfl, by simp, fun _ h => by simp at h⟩, fun _ h => by cases h⟩, hM, ?_⟩
  intro t c x hl
  obtain ⟨j, e1, e2, rfl⟩ := zA9 hl
  obtain ⟨v, e3, e4⟩ := AV.relL_get hr e2
  have hj : j < vs.length := (yNd.1 e3).1
  refine ⟨v, ?_, fun _ => e4, fun h => by cases h⟩
  rw [show t = j from by omega, yO5 (by simpa using hj)]
  simpa using e3
 refine callsIn_wide.1 (callsIn_of_wp_marks (n := 0) hf hb trivial (wpIn_mono (h _ _ _ _ hs) ?_))
 rintro e a' w1 ⟨G', st', hs1, he, cs, x, p, h1, h2, hp, h3, hnb, rfl, rfl, h4, h5⟩
 obtain ⟨tm, df⟩ := a'
 obtain ⟨D1, hD1⟩ := hs1.env
 obtain ⟨ml, hml, _⟩ := hD1.marks
 simp only at hml
 subst hml
 have fin := Sat.leaves (F := Fence.wide) (n := 0) (fn := fn) (tmps := tm) (R := fun e w' => ∃ v G', e = .returned v ∧ zR (fun k => k ∈ G0.bx ∨ ∃ x ∈ G0.rw, (zC x.2) = some k) w w' ∧ G0.Le w G' w' ∧ (∀ b o, G'.imm b o → G0.imm b o ∨ w.heap.size ≤ b ∨ ∃ x ∈ G0.rw, (zC x.2) = some b) ∧
   (∀ k ∈ G'.bx, k ∈ G0.bx ∨ w.heap.size ≤ k) ∧ (∀ x ∈ G'.rw, ∀ g, (zC x.2) = some g → (∃ y ∈ G0.rw, (zC y.2) = some g) ∨ w.heap.size ≤ g) ∧ xU G' w' (st'.bx.take m) st'.rw ∧ r.rel G' w' v) (fun w' hs' => by
  have key : ∃ v, (results fn tm).run P w' = .ok v w' ∧ x.rel G' w' v := by
   unfold zUs at h1
   split at h1
   ·rename_i y p' hy
    simp only [yMc, yMu] at h1
    obtain ⟨rfl, rfl, rfl⟩ := h1
    obtain ⟨us, e1, e2⟩ := wK (P := P) hT hs' hy (fun z hz => h2 z.1 (by simp at hz; subst hz; simp)) hp
    obtain ⟨v, us', rfl, e3, e4⟩ := e1
    rw [show us' = [] from e4] at e2
    exact ⟨v, by rw [xH e2], e3⟩
   ·rename_i ys p' hys hy
    simp only [yMc, yMu] at h1
    obtain ⟨rfl, rfl, rfl⟩ := h1
    obtain ⟨us, e1, e2⟩ := wK (P := P) hT hs' hy (fun z hz => h2 z.1 (yO6.2 ⟨z, hz, rfl⟩)) hp
    refine ⟨.tuple us.toArray, ?_, us, rfl, e1⟩
    rw [xH e2]
    have hl := AV.relL_length e1
    rw [yO7] at hl
    split
    ·rename_i v
     exfalso
     match ys, hl with
     | [z], _ => exact hys z rfl
    ·rfl
   ·cases h1
  obtain ⟨v, k2, k3⟩ := key
  have hlb : G0.bx.length ≤ m := by rw [hs'.callers.1]; exact hnb
  refine ⟨v, k2, v, G'.cut m w', rfl, ⟨hs'.frame.os, hs'.frame.tape, hs'.frame.output, hs'.frame.size, fun k hk hn => (Classical.em (vC P k)).elim (fun ht => let ⟨_, e⟩ := hs'.env; e.cons.2.2 k ht) fun ht => hs'.frame.block k hk fun hm => by
   rcases hm with hm | hm
   ·exact ht hm
   ·exact hn hm⟩, ⟨fun b o i => .inl (hs'.le.imm b o i), hs'.le.cell, fun k x hx => zBr (yMl (yNd.1 hx).1 hlb) (hs'.le.bx k x hx), hs'.le.rw⟩, fun b o i => ?_, fun k hk => hs'.ownB k (yO8 hk), hs'.ownR, zHn hs'.mem h4 h5, h3 _ _ _ hs'.mem k3⟩
  rcases i with i | ⟨i, _⟩
  ·exact hs'.fresh b o i
  ·rcases hs'.ownB b (yOx i) with hb2 | hb2
   ·exfalso
    obtain ⟨q, hq⟩ := yOw hb2
    have h6 := hs'.le.bx q b hq
    obtain ⟨q2, hq2⟩ := yOw i
    rw [yMf] at hq2
    have hl : q < G'.bx.length := (yNd.1 h6).1
    have := (yO3 hl hs'.mem.nodup).1 (h6.trans hq2.symm)
    have hql : q < G0.bx.length := (yNd.1 hq).1
    omega
   ·exact .inr (.inl hb2)) ml w1 hs1
 rcases he with rfl | rfl <;> exact fin
theorem FnA.toG {P : Program} {f : FuncId} {args : List AV} {r : AV} (h : FnA P f args r) : FnG P f args [] [] r [] [] := by
 refine ⟨h.ok, fun G w vs htb _ hM hr => ?_⟩
 have hbx : G.bx = [] := yMe hM.lenB
 have hrw : G.rw = [] := yMe hM.lenR
 obtain ⟨imm, gb, gr⟩ := G
 simp only at hbx hrw
 subst hbx; subst hrw
 refine (h.calls imm w vs htb hM.immOk hr).mono ?_
 rintro e w' ⟨v, imm', rfl, hb, i1, i2, i3, hr⟩
 have E := wX hM hb imm' i1 i2 i3
 exact ⟨v, ⟨imm', [], []⟩, rfl, zR.of_below hb, E.le, fun b o i => (i2 b o i).elim .inl fun h => .inr (.inl h), fun k hk => by simp at hk, fun x hx => by simp at hx, E.mem, hr⟩

mutual
/-- Variables and rows get other numbers. -/
def AV.ren (f g : Nat → Nat) : AV → AV
 | .raw v => .raw v
 | .agg cs => .agg (AV.renL f g cs)
 | .tup cs => .tup (AV.renL f g cs)
 | .lst sz n el => .lst sz n fun i => AV.renL f g (el i)
 | .elt cs off => .elt (AV.renL f g cs) off
 | .box b off => .box (f b) off
 | .fn h first cap => .fn h (AV.renL f g first) (AV.renL f g cap)
 | .row k n => .row (g k) n
 | .bsl sz b off n cap => .bsl sz (f b) off n cap
 | .ifc t x => .ifc t (AV.ren f g x)
 | .ful x => .ful (AV.ren f g x)
def AV.renL (f g : Nat → Nat) : List AV → List AV
 | [] => []
 | c :: cs => AV.ren f g c :: AV.renL f g cs
end
mutual
/-- Only the first variables and rows are named. -/
def AV.sub (m n : Nat) : AV → Prop
 | .raw _ => True
 | .agg cs => AV.subL m n cs
 | .tup cs => AV.subL m n cs
 | .lst _ k el => ∀ i, i < k → AV.subL m n (el i)
 | .elt cs _ => AV.subL m n cs
 | .box b _ => b < m
 | .fn _ first cap => AV.subL m n first ∧ AV.subL m n cap
 | .row k _ => k < n
 | .bsl _ b _ _ _ => b < m
 | .ifc _ x => AV.sub m n x
 | .ful x => AV.sub m n x
def AV.subL (m n : Nat) : List AV → Prop
 | [] => True
 | c :: cs => AV.sub m n c ∧ AV.subL m n cs
end
section
variable {G G' : Gh} {w : World} {f g : Nat → Nat}
theorem AV.renL_length (f g : Nat → Nat) : ∀ (xs : List AV), (AV.renL f g xs).length = xs.length
 | [] => rfl
 | _ :: xs => by simp [AV.renL, AV.renL_length f g xs]
mutual
theorem AV.rel_ren (h0 : ∀ b o, G.imm b o → G'.imm b o) (hb : ∀ (k x : Nat), G.bx[k]? = some x → G'.bx[f k]? = some x) (hr : ∀ (k : Nat) (e : Nat × Value), G.rw[k]? = some e → G'.rw[g k]? = some e) : ∀ (x : AV) (v : Value), x.rel G w v → (x.ren f g).rel G' w v
 | .raw _, _, h => h
 | .agg cs, _, h => by
  obtain ⟨vs, e, h⟩ := h
  exact ⟨vs, e, AV.relL_ren h0 hb hr cs vs h⟩
 | .tup cs, _, h => by
  obtain ⟨vs, e, h⟩ := h
  exact ⟨vs, e, AV.relL_ren h0 hb hr cs vs h⟩
 | .lst sz n el, _, h => by
  obtain ⟨A, cap, e, h1, h2, h3⟩ := h
  refine ⟨A, cap, e, h1, h2, fun hn => ?_⟩
  obtain ⟨b, o, hA, h4⟩ := h3 hn
  refine ⟨b, o, hA, fun i hi => ?_⟩
  obtain ⟨vs, h5, h6, h7⟩ := h4 i hi
  exact ⟨vs, AV.relL_ren h0 hb hr (el i) vs h5, h6, fun j u hj => ⟨h0 _ _ (h7 j u hj).1, (h7 j u hj).2⟩⟩
 | .elt cs off, _, h => by
  obtain ⟨b, o, vs, e, h1, h2⟩ := h
  exact ⟨b, o, vs, e, AV.relL_ren h0 hb hr cs vs h1, fun j u hj => ⟨h0 _ _ (h2 j u hj).1, (h2 j u hj).2⟩⟩
 | .box b off, _, h => by
  obtain ⟨blk, h1, h2⟩ := h
  exact ⟨blk, hb _ _ h1, h2⟩
 | .fn _ first cap, _, h => by
  obtain ⟨fs, cs, e, h1, h2⟩ := h
  exact ⟨fs, cs, e, AV.relL_ren h0 hb hr first fs h1, AV.relL_ren h0 hb hr cap cs h2⟩
 | .bsl _ b off n cap, _, h => by
  obtain ⟨blk, A, h1, h2⟩ := h
  exact ⟨blk, A, hb _ _ h1, h2⟩
 | .ifc t x, _, h => by
  obtain ⟨u, e, h⟩ := h
  exact ⟨u, e, AV.rel_ren h0 hb hr x u h⟩
 | .ful x, v, h => ⟨AV.rel_ren h0 hb hr x v h.1, h.2⟩
 | .row k n, _, h => by
  obtain ⟨e, h1, h2⟩ := h
  exact ⟨e, hr _ _ h1, h2⟩
theorem AV.relL_ren (h0 : ∀ b o, G.imm b o → G'.imm b o) (hb : ∀ (k x : Nat), G.bx[k]? = some x → G'.bx[f k]? = some x) (hr : ∀ (k : Nat) (e : Nat × Value), G.rw[k]? = some e → G'.rw[g k]? = some e) : ∀ (xs : List AV) (vs : List Value), AV.relL G w xs vs → AV.relL G' w (AV.renL f g xs) vs
 | [], _, h => h
 | x :: xs, _, h => by
  obtain ⟨v, r, e, h1, h2⟩ := h
  exact ⟨v, r, e, AV.rel_ren h0 hb hr x v h1, AV.relL_ren h0 hb hr xs r h2⟩
end
mutual
theorem AV.rel_unren {m n : Nat} (h0 : ∀ b o, G'.imm b o → G.imm b o) (hb : ∀ (k x : Nat), k < m → G'.bx[f k]? = some x → G.bx[k]? = some x) (hr : ∀ (k : Nat) (e : Nat × Value), k < n → G'.rw[g k]? = some e → G.rw[k]? = some e) : ∀ (x : AV) (v : Value), x.sub m n → (x.ren f g).rel G' w v → x.rel G w v
 | .raw _, _, _, h => h
 | .agg cs, _, s, h => by
  obtain ⟨vs, e, h⟩ := h
  exact ⟨vs, e, AV.relL_unren h0 hb hr cs vs s h⟩
 | .tup cs, _, s, h => by
  obtain ⟨vs, e, h⟩ := h
  exact ⟨vs, e, AV.relL_unren h0 hb hr cs vs s h⟩
 | .lst sz n el, _, s, h => by
  obtain ⟨A, cap, e, h1, h2, h3⟩ := h
  refine ⟨A, cap, e, h1, h2, fun hn => ?_⟩
  obtain ⟨b, o, hA, h4⟩ := h3 hn
  refine ⟨b, o, hA, fun i hi => ?_⟩
  obtain ⟨vs, h5, h6, h7⟩ := h4 i hi
  exact ⟨vs, AV.relL_unren h0 hb hr (el i) vs (s i hi) h5, h6, fun j u hj => ⟨h0 _ _ (h7 j u hj).1, (h7 j u hj).2⟩⟩
 | .elt cs off, _, s, h => by
  obtain ⟨b, o, vs, e, h1, h2⟩ := h
  exact ⟨b, o, vs, e, AV.relL_unren h0 hb hr cs vs s h1, fun j u hj => ⟨h0 _ _ (h2 j u hj).1, (h2 j u hj).2⟩⟩
 | .box b off, _, s, h => by
  obtain ⟨blk, h1, h2⟩ := h
  exact ⟨blk, hb _ _ s h1, h2⟩
 | .fn _ first cap, _, s, h => by
  obtain ⟨fs, cs, e, h1, h2⟩ := h
  exact ⟨fs, cs, e, AV.relL_unren h0 hb hr first fs s.1 h1, AV.relL_unren h0 hb hr cap cs s.2 h2⟩
 | .ifc t x, _, s, h => by
  obtain ⟨u, e, h⟩ := h
  exact ⟨u, e, AV.rel_unren h0 hb hr x u s h⟩
 | .ful x, v, s, h => ⟨AV.rel_unren h0 hb hr x v s h.1, h.2⟩
 | .bsl _ b off n cap, _, s, h => by
  obtain ⟨blk, A, h1, h2⟩ := h
  exact ⟨blk, A, hb _ _ s h1, h2⟩
 | .row k n, _, s, h => by
  obtain ⟨e, h1, h2⟩ := h
  exact ⟨e, hr _ _ s h1, h2⟩
theorem AV.relL_unren {m n : Nat} (h0 : ∀ b o, G'.imm b o → G.imm b o) (hb : ∀ (k x : Nat), k < m → G'.bx[f k]? = some x → G.bx[k]? = some x) (hr : ∀ (k : Nat) (e : Nat × Value), k < n → G'.rw[g k]? = some e → G.rw[k]? = some e) : ∀ (xs : List AV) (vs : List Value), AV.subL m n xs → AV.relL G' w (AV.renL f g xs) vs → AV.relL G w xs vs
 | [], _, _, h => h
 | x :: xs, _, s, h => by
  obtain ⟨v, r, e, h1, h2⟩ := h
  exact ⟨v, r, e, AV.rel_unren h0 hb hr x v s.1 h1, AV.relL_unren h0 hb hr xs r s.2 h2⟩
end
end
def idx (ib : List Nat) (len k : Nat) : Nat := match ib[k]? with
 | some j => j
 | none => len + (k - ib.length)
theorem zHr {ib : List Nat} {len k j : Nat} (h : ib[k]? = some j) : idx ib len k = j := by unfold idx; rw [h]
theorem zSh {ib : List Nat} {len k : Nat} (h : ib.length ≤ k) : idx ib len k = len + (k - ib.length) := by
 unfold idx; rw [yNw h]
def zV.ren (f g : Nat → Nat) (r : zV) : zV := ⟨r.e, r.sz, r.n, fun q => AV.renL f g (r.el q)⟩
theorem zP5 (f g : Nat → Nat) (l : List (Value × Value)) (i : Nat) : AV.renL f g (vS l i) = vS l i := by
 rcases zJk l i with h | ⟨k, v, h⟩ <;> rw [h] <;> rfl
theorem zRd {f g : Nat → Nat} {x : AV} {v : Value} (h : x.ren f g = .raw v) : x = .raw v := by
 cases x <;> simp only [AV.ren, AV.raw.injEq, reduceCtorEq] at h
 rw [h]
theorem zRe {f g : Nat → Nat} {xs : List AV} {l : List (Value × Value)} {i : Nat} (h : AV.renL f g xs = vS l i) : xs = vS l i := by
 rcases zJk l i with e | ⟨k, v, e⟩ <;> rw [e] at h ⊢
 ·cases xs with
  | nil => rfl
  | cons a xs => simp only [AV.renL, reduceCtorEq] at h
 ·cases xs with
  | nil => simp only [AV.renL, reduceCtorEq] at h
  | cons a xs =>
   cases xs with
   | nil => simp only [AV.renL, yOy, reduceCtorEq, and_false] at h
   | cons b xs =>
    cases xs with
    | nil =>
     simp only [AV.renL, yOy, yOi] at h
     rw [zRd h.1, zRd h.2]
    | cons c xs => simp only [AV.renL, yOy, reduceCtorEq, and_false] at h
theorem zG8.ren {w : World} {r : zV} {v : Value} {xs : List Value} {f g : Nat → Nat} (h : zG8 w r v xs) : zG8 w (r.ren f g) v xs :=
 ⟨h.1, h.2.elim .inl fun h => .inr (h.elim .inl fun ⟨m, es, ck, hv, hz, hm, hr⟩ => .inr ⟨m, es, ck, hv, hz, hm, funext fun q => by show AV.renL f g (r.el q) = _; rw [hr, zP5]⟩)⟩
theorem zG8.unren {w : World} {r : zV} {v : Value} {xs : List Value} {f g : Nat → Nat} (h : zG8 w (r.ren f g) v xs) : zG8 w r v xs :=
 ⟨h.1, h.2.elim .inl fun h => .inr (h.elim .inl fun ⟨m, es, ck, hv, hz, hm, hr⟩ => .inr ⟨m, es, ck, hv, hz, hm, funext fun q => zRe (congrFun hr q)⟩)⟩
structure Handed {α : Type} (ib : List Nat) (bx sub : List α) (rn : α → α) : Prop where
 nodup : ib.Nodup
 len : sub.length = ib.length
 pick : ∀ (k j : Nat), ib[k]? = some j → ∃ c, sub[k]? = some c ∧ bx[j]? = some (rn c)
structure Upd {α : Type} (ib : List Nat) (bx sub' bx' : List α) (rn : α → α) : Prop where
 long : ib.length ≤ sub'.length
 len : bx'.length = bx.length + (sub'.length - ib.length)
 here : ∀ (k j : Nat), ib[k]? = some j → bx'[j]? = (sub'[k]?).map rn
 other : ∀ j, j < bx.length → j ∉ ib → bx'[j]? = bx[j]?
 new : ∀ q, bx'[bx.length + q]? = (sub'[ib.length + q]?).map rn
def y8 {α : Type} : List α → List Nat → List α → List α
 | bx, i :: ib, c :: cs => y8 (bx.set i c) ib cs
 | bx, _, cs => bx ++ cs
theorem vG {α : Type} (rn : α → α) : ∀ (ib : List Nat) (bx sub' : List α), ib.Nodup → (∀ j ∈ ib, j < bx.length) → ib.length ≤ sub'.length → Upd ib bx sub' (y8 bx ib (sub'.map rn)) rn
 | [], bx, sub', _, _, _ => ⟨yMh _, by simp [y8], fun k j h => by simp at h, fun j hj _ => by simp only [y8]; rw [yNt hj], fun q => by
   simp only [y8, yO4, yN9]
   rw [yNu oq, yOz, yNg]⟩
 | i :: ib, bx, [], _, _, h => by simp at h
 | i :: ib, bx, c :: cs, hn, hl, h => by
  obtain ⟨hi, hn'⟩ := List.nodup_cons.1 hn
  have U := vG rn ib (bx.set i (rn c)) cs hn' (fun j hj => by rw [List.length_set]; exact hl j (by simp [hj])) (by simpa using h)
  have hil := hl i sq
  have hsl : (bx.set i (rn c)).length = bx.length := by simp
  refine ⟨h, by simp only [yNm, y8]; rw [U.len, hsl]; simp, fun k j hk => ?_, fun j hj hm => ?_, fun q => ?_⟩
  ·simp only [yNm, y8]
   cases k with
   | zero =>
    simp only [yMb, yMc] at hk
    subst hk
    rw [U.other i (by rw [hsl]; exact hil) hi]
    simp [hil]
   | succ k =>
    rw [U.here k j (by simpa using hk)]
    simp
  ·simp only [yNa, not_or] at hm
   simp only [yNm, y8]
   rw [U.other j (by rw [hsl]; exact hj) hm.2, yP0 (fun e => hm.1 e.symm)]
  ·simp only [yNm, y8]
   have := U.new q
   rw [hsl] at this
   rw [this]
   simp [Nat.add_right_comm]
def x8 (G : Gh) (ib ir : List Nat) : Gh := ⟨G.imm, ib.filterMap (G.bx[·]?), ir.filterMap (G.rw[·]?)⟩
theorem wZ {α : Type} {l : List α} : ∀ {ib : List Nat}, (∀ j ∈ ib, j < l.length) → ∀ (k : Nat), (ib.filterMap (l[·]?))[k]? = (ib[k]?).bind (l[·]?)
 | [], _, k => by simp
 | i :: ib, h, k => by
  have hi : l[i]? = some (l[i]'(h i sq)) := yNf _
  rw [List.filterMap_cons_some hi]
  cases k with
  | zero => simp [hi]
  | succ k => simpa using wZ (fun j hj => h j (by simp [hj])) k
theorem jA {α : Type} {l : List α} : ∀ {ib : List Nat}, (∀ j ∈ ib, j < l.length) → (ib.filterMap (l[·]?)).length = ib.length
 | [], _ => rfl
 | i :: ib, h => by
  have hi : l[i]? = some (l[i]'(h i sq)) := yNf _
  rw [List.filterMap_cons_some hi, yMy, yMy, jA (ib := ib) (fun j hj => h j (by simp [hj]))]
section
variable {P : Program} {G : Gh} {w : World} {bx sub : List (List AV)} {rw rsub : List zV} {ib ir : List Nat} {f g : Nat → Nat}
structure zC1 (ib ir : List Nat) (bx sub : List (List AV)) (rw rsub : List zV) (f g : Nat → Nat) : Prop where
 hb : Handed ib bx sub (AV.renL f g)
 hr : Handed ir rw rsub (zV.ren f g)
 fb : ∀ (k j : Nat), ib[k]? = some j → f k = j
 fr : ∀ (k j : Nat), ir[k]? = some j → g k = j
 cb : ∀ cs ∈ sub, AV.subL ib.length ir.length cs
 cr : ∀ r ∈ rsub, ∀ q, q < r.n → AV.subL ib.length ir.length (r.el q)
theorem Handed.lt {α : Type} {ib : List Nat} {bx sub : List α} {rn : α → α} (h : Handed ib bx sub rn) : ∀ j ∈ ib, j < bx.length := fun j hj => by
 obtain ⟨k, hk⟩ := yOw hj
 obtain ⟨c, _, h2⟩ := h.pick k j hk
 exact (yNd.1 h2).1
theorem kX (hm : xU G w bx rw) (H : zC1 ib ir bx sub rw rsub f g) {k x : Nat} (h : (x8 G ib ir).bx[k]? = some x) : ∃ j, ib[k]? = some j ∧ G.bx[j]? = some x := by
 have hl : ∀ j ∈ ib, j < G.bx.length := fun j hj => by rw [hm.lenB]; exact H.hb.lt j hj
 have := wZ hl k
 rw [show (x8 G ib ir).bx = ib.filterMap (G.bx[·]?) from rfl, this] at h
 cases hk : ib[k]? with
 | none => rw [hk] at h; cases h
 | some j => rw [hk] at h; exact ⟨j, rfl, h⟩
theorem zAs (hm : xU G w bx rw) (H : zC1 ib ir bx sub rw rsub f g) {k : Nat} {x : Nat × Value} (h : (x8 G ib ir).rw[k]? = some x) : ∃ j, ir[k]? = some j ∧ G.rw[j]? = some x := by
 have hl : ∀ j ∈ ir, j < G.rw.length := fun j hj => by rw [hm.lenR]; exact H.hr.lt j hj
 have := wZ hl k
 rw [show (x8 G ib ir).rw = ir.filterMap (G.rw[·]?) from rfl, this] at h
 cases hk : ir[k]? with
 | none => rw [hk] at h; cases h
 | some j => rw [hk] at h; exact ⟨j, rfl, h⟩
theorem zNa (hm : xU G w bx rw) (H : zC1 ib ir bx sub rw rsub f g) {k j : Nat} (h : ib[k]? = some j) : (x8 G ib ir).bx[k]? = G.bx[j]? := by
 have hl : ∀ j ∈ ib, j < G.bx.length := fun j hj => by rw [hm.lenB]; exact H.hb.lt j hj
 rw [show (x8 G ib ir).bx = ib.filterMap (G.bx[·]?) from rfl, wZ hl k, h]; rfl
theorem zN9 (hm : xU G w bx rw) (H : zC1 ib ir bx sub rw rsub f g) {k j : Nat} (h : ir[k]? = some j) : (x8 G ib ir).rw[k]? = G.rw[j]? := by
 have hl : ∀ j ∈ ir, j < G.rw.length := fun j hj => by rw [hm.lenR]; exact H.hr.lt j hj
 rw [show (x8 G ib ir).rw = ir.filterMap (G.rw[·]?) from rfl, wZ hl k, h]; rfl
theorem zJg (hm : xU G w bx rw) (H : zC1 ib ir bx sub rw rsub f g) : xU (x8 G ib ir) w sub rsub ∧
  ∀ (xs : List AV) (vs : List Value), AV.subL ib.length ir.length xs → AV.relL G w (AV.renL f g xs) vs → AV.relL (x8 G ib ir) w xs vs := by
 have zKk : ∀ (xs : List AV) (vs : List Value), AV.subL ib.length ir.length xs → AV.relL G w (AV.renL f g xs) vs → AV.relL (x8 G ib ir) w xs vs := fun xs vs hs h =>
  AV.relL_unren (G := x8 G ib ir) (G' := G) (fun _ _ i => i) (fun k x hk hx => by
   have h1 : ib[k]? = some (ib[k]'hk) := yNf hk
   rw [zNa hm H h1, ← H.fb k _ h1]; exact hx) (fun k e hk he => by
   have h1 : ir[k]? = some (ir[k]'hk) := yNf hk
   rw [zN9 hm H h1, ← H.fr k _ h1]; exact he) xs vs hs h
 have hlB : ∀ j ∈ ib, j < G.bx.length := fun j hj => by rw [hm.lenB]; exact H.hb.lt j hj
 have hlR : ∀ j ∈ ir, j < G.rw.length := fun j hj => by rw [hm.lenR]; exact H.hr.lt j hj
 have nb : (x8 G ib ir).bx.Nodup := by
  refine yP1.2 fun i j hi hj hij he => ?_
  have hj' : (x8 G ib ir).bx[j]? = some ((x8 G ib ir).bx[j]'hj) := yNf hj
  have he : (x8 G ib ir).bx[i]? = some ((x8 G ib ir).bx[j]'hj) := by rw [yNf hi, he]
  obtain ⟨a, a1, a2⟩ := kX hm H he
  obtain ⟨b, b1, b2⟩ := kX hm H hj'
  have hab : a = b := (yO3 (yNd.1 a2).1 hm.nodup).1 (a2.trans b2.symm)
  subst hab
  have := (yO3 (yNd.1 a1).1 H.hb.nodup).1 (a1.trans b1.symm)
  omega
 refine ⟨⟨hm.immOk, ?_, ?_, nb, fun k cs blk hk hg => ?_, fun k r x hk hg => ?_, fun k x gg hk hg hmem => ?_, fun k k' x x' gg hk hk' hg hg' => ?_⟩, zKk⟩
 ·show (ib.filterMap (G.bx[·]?)).length = sub.length
  rw [jA hlB, H.hb.len]
 ·show (ir.filterMap (G.rw[·]?)).length = rsub.length
  rw [jA hlR, H.hr.len]
 ·obtain ⟨j, j1, j2⟩ := kX hm H hg
  obtain ⟨c, c1, c2⟩ := H.hb.pick k j j1
  rw [hk] at c1
  cases c1
  obtain ⟨e1, vs, T, e2, e3⟩ := hm.box j _ blk c2 j2
  exact ⟨e1, vs, T, e2, zKk _ _ (H.cb cs (yNr hk)) e3⟩
 ·obtain ⟨j, j1, j2⟩ := zAs hm H hg
  obtain ⟨c, c1, c2⟩ := H.hr.pick k j j1
  rw [hk] at c1
  cases c1
  have ro := hm.row j _ x c2 j2
  obtain ⟨xs, ho, hel⟩ := ro.own
  exact ⟨ro.len, ⟨xs, ho.unren, fun i hi => by
   obtain ⟨vs, e1, e2⟩ := hel i hi
   exact ⟨vs, zKk _ _ (H.cr r (yNr hk) i hi) e1, e2⟩⟩, ro.imm⟩
 ·obtain ⟨j, j1, j2⟩ := zAs hm H hk
  obtain ⟨q, hq⟩ := yOw hmem
  obtain ⟨a, a1, a2⟩ := kX hm H hq
  exact hm.sepB j x gg j2 hg (yNr a2)
 ·obtain ⟨j, j1, j2⟩ := zAs hm H hk
  obtain ⟨j', j1', j2'⟩ := zAs hm H hk'
  have := hm.sepR j j' x x' gg j2 j2' hg hg'
  subst this
  exact (yO3 (yNd.1 j1).1 H.hr.nodup).1 (j1.trans j1'.symm)
theorem Upd.from_ {α : Type} {ib : List Nat} {bx sub' bx' : List α} {rn : α → α} (U : Upd ib bx sub' bx' rn) {j : Nat} {c : α} (h : bx'[j]? = some c) :
  (∃ k c0, sub'[k]? = some c0 ∧ c = rn c0 ∧ j = idx ib bx.length k ∧ (ib[k]? = some j ∨ ib.length ≤ k)) ∨ (j < bx.length ∧ j ∉ ib ∧ bx[j]? = some c) := by
 by_cases hj : j < bx.length
 ·by_cases hm : j ∈ ib
  ·obtain ⟨k, hk⟩ := yOw hm
   rw [U.here k j hk] at h
   cases hs : sub'[k]? with
   | none => rw [hs] at h; cases h
   | some c0 =>
    rw [hs] at h
    simp only [yMw, yMc] at h
    exact .inl ⟨k, c0, hs, h.symm, (zHr hk).symm, .inl hk⟩
  ·rw [U.other j hj hm] at h
   exact .inr ⟨hj, hm, h⟩
 ·obtain ⟨q, rfl⟩ : ∃ q, j = bx.length + q := ⟨j - bx.length, by omega⟩
  rw [U.new q] at h
  cases hs : sub'[ib.length + q]? with
  | none => rw [hs] at h; cases h
  | some c0 =>
   rw [hs] at h
   simp only [yMw, yMc] at h
   exact .inl ⟨ib.length + q, c0, hs, h.symm, by rw [zSh oq]; omega, .inr oq⟩
theorem Upd.at_ {α : Type} {ib : List Nat} {bx sub' bx' : List α} {rn : α → α} (U : Upd ib bx sub' bx' rn) {k : Nat} {c0 : α} (h : sub'[k]? = some c0) : bx'[idx ib bx.length k]? = some (rn c0) := by
 cases hk : ib[k]? with
 | some j => rw [zHr hk, U.here k j hk, h]; rfl
 | none =>
  have hge : ib.length ≤ k := List.getElem?_eq_none_iff.1 hk
  rw [zSh hge, U.new, show ib.length + (k - ib.length) = k from by omega, h]; rfl
theorem zJi (hm : xU G w bx rw) (H : zC1 ib ir bx sub rw rsub (idx ib bx.length) (idx ir rw.length)) {G1 : Gh} {w' : World} {sub' bx' : List (List AV)} {rsub' rw' : List zV}
  (hout : zR (fun k => k ∈ (x8 G ib ir).bx ∨ ∃ x ∈ (x8 G ib ir).rw, (zC x.2) = some k) w w') (hle : (x8 G ib ir).Le w G1 w') (hfr : ∀ b o, G1.imm b o → G.imm b o ∨ w.heap.size ≤ b ∨ ∃ x ∈ (x8 G ib ir).rw, (zC x.2) = some b)
  (hoB : ∀ k ∈ G1.bx, k ∈ (x8 G ib ir).bx ∨ w.heap.size ≤ k) (hoR : ∀ x ∈ G1.rw, ∀ g, (zC x.2) = some g → (∃ y ∈ (x8 G ib ir).rw, (zC y.2) = some g) ∨ w.heap.size ≤ g) (hm1 : xU G1 w' sub' rsub')
  (U : Upd ib bx sub' bx' (AV.renL (idx ib bx.length) (idx ir rw.length))) (UR : Upd ir rw rsub' rw' (zV.ren (idx ib bx.length) (idx ir rw.length))) :
  ∃ G2 : Gh, G2.imm = G1.imm ∧ xU G2 w' bx' rw' ∧ G.Le w G2 w' ∧ (∀ k ∈ G2.bx, k ∈ G.bx ∨ w.heap.size ≤ k) ∧ (∀ x ∈ G2.rw, ∀ g, (zC x.2) = some g → (∃ y ∈ G.rw, (zC y.2) = some g) ∨ w.heap.size ≤ g) ∧
   ∀ (x : AV) (v : Value), x.rel G1 w' v → (x.ren (idx ib bx.length) (idx ir rw.length)).rel G2 w' v := by
 have hlB : ∀ j ∈ ib, j < G.bx.length := fun j hj => by rw [hm.lenB]; exact H.hb.lt j hj
 have hlR : ∀ j ∈ ir, j < G.rw.length := fun j hj => by rw [hm.lenR]; exact H.hr.lt j hj
 have UB := vG (id : Nat → Nat) ib G.bx G1.bx H.hb.nodup hlB (by rw [hm1.lenB]; exact U.long)
 have UX := vG (id : Nat × Value → Nat × Value) ir G.rw G1.rw H.hr.nodup hlR (by rw [hm1.lenR]; exact UR.long)
 simp only [List.map_id] at UB UX
 generalize y8 G.bx ib G1.bx = B2 at UB
 generalize y8 G.rw ir G1.rw = R2 at UX
 have hpb : ∀ k j x, ib[k]? = some j → G.bx[j]? = some x → G1.bx[k]? = some x := fun k j x hk hx => hle.bx k x (by rw [zNa hm H hk]; exact hx)
 -- variables keep their blocks
 have keepB : ∀ j, j < G.bx.length → B2[j]? = G.bx[j]? := fun j hj => by
  by_cases hmem : j ∈ ib
  ·obtain ⟨k, hk⟩ := yOw hmem
   have h1 : G.bx[j]? = some (G.bx[j]'hj) := yNf hj
   rw [UB.here k j hk, h1, hpb k j _ hk h1]; rfl
  ·exact UB.other j hj hmem
 have upB : ∀ (k x : Nat), G1.bx[k]? = some x → B2[idx ib bx.length k]? = some x := fun k x hx => by rw [← hm.lenB]; exact UB.at_ hx
 have upR : ∀ (k : Nat) (e : Nat × Value), G1.rw[k]? = some e → R2[idx ir rw.length k]? = some e := fun k e he => by rw [← hm.lenR]; exact UX.at_ he
 have up : ∀ (x : AV) (v : Value), x.rel G1 w' v → (x.ren (idx ib bx.length) (idx ir rw.length)).rel ⟨G1.imm, B2, R2⟩ w' v := fun x v h => AV.rel_ren (G := G1) (G' := ⟨G1.imm, B2, R2⟩) (fun _ _ i => i) upB upR x v h
 have upL : ∀ (xs : List AV) (vs : List Value), AV.relL G1 w' xs vs → AV.relL ⟨G1.imm, B2, R2⟩ w' (AV.renL (idx ib bx.length) (idx ir rw.length) xs) vs := fun xs vs h => AV.relL_ren (G := G1) (G' := ⟨G1.imm, B2, R2⟩) (fun _ _ i => i) upB upR xs vs h
 have le : G.Le w ⟨G1.imm, B2, R2⟩ w' := by
  refine ⟨hle.imm, hle.cell, fun k x hx => ?_, fun k e he => ?_⟩
  ·show B2[k]? = some x
   rw [keepB k (yNd.1 hx).1]; exact hx
  ·have hk : k < G.rw.length := (yNd.1 he).1
   by_cases hmem : k ∈ ir
   ·obtain ⟨q, hq⟩ := yOw hmem
    obtain ⟨e', h1, h2⟩ := hle.rw q e (by rw [zN9 hm H hq]; exact he)
    refine ⟨e', ?_, h2⟩
    show R2[k]? = some e'
    rw [UX.here q k hq, h1]; rfl
   ·exact ⟨e, by show R2[k]? = some e; rw [UX.other k hk hmem]; exact he, .inl rfl⟩
 -- the blocks of new variables are new
 have newB : ∀ k x, ib.length ≤ k → G1.bx[k]? = some x → w.heap.size ≤ x := fun k x hk hx => by
  rcases hoB x (yNr hx) with h | h
  ·exfalso
   obtain ⟨q, hq⟩ := yOw h
   obtain ⟨j, j1, j2⟩ := kX hm H hq
   have h3 := hpb q j x j1 j2
   have := (yO3 (yNd.1 h3).1 hm1.nodup).1 (h3.trans hx.symm)
   have : q < ib.length := (yNd.1 j1).1
   omega
  ·exact h
 have inG0 : ∀ j x, G.bx[j]? = some x → x ∈ (x8 G ib ir).bx → j ∈ ib := fun j x hx h => by
  obtain ⟨q, hq⟩ := yOw h
  obtain ⟨j', j1, j2⟩ := kX hm H hq
  have := (yO3 (yNd.1 hx).1 hm.nodup).1 (hx.trans j2.symm)
  rw [this]; exact yNr j1
 have rowG0 : ∀ y ∈ (x8 G ib ir).rw, ∃ j k, ir[k]? = some j ∧ G.rw[j]? = some y := fun y hy => by
  obtain ⟨q, hq⟩ := yOw hy
  obtain ⟨j', j1, j2⟩ := zAs hm H hq
  exact ⟨j', q, j1, j2⟩
 have clB : ∀ (k x : Nat), B2[k]? = some x → G.bx[k]? = some x ∨ (∃ q, ib.length ≤ q ∧ G1.bx[q]? = some x ∧ w.heap.size ≤ x) := fun k x hx => by
  by_cases hk : k < G.bx.length
  ·exact .inl (by rw [← keepB k hk]; exact hx)
  ·obtain ⟨q, rfl⟩ : ∃ q, k = G.bx.length + q := ⟨k - G.bx.length, by omega⟩
   rw [UB.new q, Option.map_id_fun] at hx
   exact .inr ⟨ib.length + q, by omega, hx, newB _ _ oq hx⟩
 have clR : ∀ (j : Nat) (x : Nat × Value), R2[j]? = some x → (∃ q, G1.rw[q]? = some x ∧ j = idx ir G.rw.length q) ∨ (j ∉ ir ∧ G.rw[j]? = some x) := fun j x hx => by
  rcases UX.from_ hx with ⟨k, c0, k1, h1, k2, _⟩ | ⟨_, k2, k3⟩
  ·exact .inl ⟨k, by rw [h1]; exact k1, k2⟩
  ·exact .inr ⟨k2, k3⟩
 have hUlenB : G.bx.length = bx.length := hm.lenB
 have hUlenR : G.rw.length = rw.length := hm.lenR
 refine ⟨⟨G1.imm, B2, R2⟩, rfl, ⟨hm1.immOk, ?_, ?_, ?_, fun j cs blk hj hg => ?_, fun j r x hj hg => ?_, fun j x gg hj hgg hmem => ?_, fun j j' x x' gg hj hj' hgg hgg' => ?_⟩, le, fun k hk => ?_, fun x hx gg hgg => ?_, up⟩
 ·show B2.length = bx'.length
  rw [UB.len, U.len, hm1.lenB, hm.lenB]
 ·show R2.length = rw'.length
  rw [UX.len, UR.len, hm1.lenR, hm.lenR]
 ·refine yP1.2 fun i j hi hj hij he => ?_
  have hj' : B2[j]? = some (B2[j]'hj) := yNf hj
  have hi' : B2[i]? = some (B2[j]'hj) := by rw [yNf hi, he]
  by_cases hjl : j < G.bx.length
  ·rw [keepB j hjl] at hj'
   rw [keepB i oq] at hi'
   have := (yO3 oq hm.nodup).1 (hi'.trans hj'.symm)
   omega
  ·obtain ⟨q, rfl⟩ : ∃ q, j = G.bx.length + q := ⟨j - G.bx.length, by omega⟩
   rw [UB.new q, Option.map_id_fun] at hj'
   by_cases hil : i < G.bx.length
   ·rw [keepB i hil] at hi'
    have h1 := newB _ _ oq hj'
    have h2 := hm.lt_box (yNr hi')
    omega
   ·obtain ⟨q', rfl⟩ : ∃ q', i = G.bx.length + q' := ⟨i - G.bx.length, by omega⟩
    rw [UB.new q', Option.map_id_fun] at hi'
    have := (yO3 (yNd.1 hi').1 hm1.nodup).1 (hi'.trans hj'.symm)
    omega
 ·rcases U.from_ hj with ⟨k, c0, k1, rfl, rfl, k2⟩ | ⟨k1, k2, k3⟩
  ·have hg1 : G1.bx[k]? = some blk := by
    have hkl : k < G1.bx.length := by rw [hm1.lenB]; exact (yNd.1 k1).1
    have h1 : G1.bx[k]? = some (G1.bx[k]'hkl) := yNf hkl
    have h2 := upB k _ h1
    rw [show B2[idx ib bx.length k]? = some blk from hg] at h2
    rw [h1, h2]
   obtain ⟨e1, vs, T, e2, e3⟩ := hm1.box k c0 blk k1 hg1
   exact ⟨e1, vs, T, e2, upL _ _ e3⟩
  ·have hg0 : G.bx[j]? = some blk := by rw [← keepB j oq]; exact hg
   obtain ⟨e1, vs, T, e2, e3⟩ := hm.box j cs blk k3 hg0
   have hmb := yNr hg0
   have hlt := hm.lt_box hmb
   have hnr : ∀ y ∈ (x8 G ib ir).rw, (zC y.2) ≠ some blk := fun y hy hyb => by
    obtain ⟨q, _, _, hq⟩ := rowG0 y hy
    exact hm.sepB q y blk hq hyb hmb
   refine ⟨fun o i => ?_, vs, T, by rw [hout.block blk hlt (fun h => h.elim (fun h => k2 (inG0 j blk hg0 h)) fun ⟨y, hy, hyb⟩ => hnr y hy hyb)]; exact e2, AV.relL_mono le _ _ e3⟩
   rcases hfr blk o i with h | h | ⟨y, hy, hyb⟩
   ·exact e1 o h
   ·omega
   ·exact hnr y hy hyb
 ·rcases UR.from_ hj with ⟨k, c0, k1, rfl, rfl, k2⟩ | ⟨k1, k2, k3⟩
  ·have hg1 : G1.rw[k]? = some x := by
    have hkl : k < G1.rw.length := by rw [hm1.lenR]; exact (yNd.1 k1).1
    have h1 : G1.rw[k]? = some (G1.rw[k]'hkl) := yNf hkl
    have h2 := upR k _ h1
    rw [show R2[idx ir rw.length k]? = some x from hg] at h2
    rw [h1, h2]
   have ro := hm1.row k c0 x k1 hg1
   obtain ⟨xs, ho, hel⟩ := ro.own
   exact ⟨ro.len, ⟨xs, ho.ren, fun i hi => by
    obtain ⟨vs, e1, e2⟩ := hel i hi
    exact ⟨vs, upL _ _ e1, e2⟩⟩, ro.imm⟩
  ·have hg0 : G.rw[j]? = some x := by rw [← UX.other j oq k2]; exact hg
   have ro := hm.row j r x k3 hg0
   obtain ⟨xs, ho, hel⟩ := ro.own
   have hnr : ∀ gq, (zC x.2) = some gq → ∀ y ∈ (x8 G ib ir).rw, (zC y.2) ≠ some gq := fun gq hgq y hy hyb => by
    obtain ⟨q, a, ha, hq⟩ := rowG0 y hy
    have := hm.sepR j q x y gq hg0 hq hgq hyb
    rw [this] at k2
    exact k2 (yNr ha)
   have hnb : ∀ gq, (zC x.2) = some gq → gq ∉ (x8 G ib ir).bx := fun gq hgq h => by
    obtain ⟨q, hq⟩ := yOw h
    obtain ⟨a, _, a2⟩ := kX hm H hq
    exact hm.sepB j x gq hg0 hgq (yNr a2)
   refine ⟨ro.len, ⟨xs, ⟨ho.1, ?_⟩, fun i hi => by
    obtain ⟨vs, e1, e2⟩ := hel i hi
    exact ⟨vs, AV.relL_mono le _ _ e1, e2⟩⟩, fun gq hgq o => ?_⟩
   ·exact (ho.keep fun gq hgq h2 => hout.block gq h2 (fun h => h.elim (hnb gq hgq) fun ⟨y, hy, hyb⟩ => hnr gq hgq y hy hyb)).2
   ·rw [← ro.imm gq hgq o]
    have hlt := hm.lt_row hg0 hgq
    refine ⟨fun i => ?_, hle.imm gq o⟩
    rcases hfr gq o i with h | h | ⟨y, hy, hyb⟩
    ·exact h
    ·omega
    ·exact absurd hyb (hnr gq hgq y hy)
 ·obtain ⟨kb, hkb⟩ := yOw hmem
  rcases clR j x hj with ⟨q, q1, q2⟩ | ⟨q1, q2⟩
  ·rcases clB kb gg hkb with b1 | ⟨q', _, b1, _⟩
   ·rcases hoR x (yNr q1) gg hgg with ⟨y, hy, hyg⟩ | h
    ·obtain ⟨a, _, _, ha⟩ := rowG0 y hy
     exact hm.sepB a y gg ha hyg (yNr b1)
    ·have := hm.lt_box (yNr b1)
     omega
   ·exact hm1.sepB q x gg q1 hgg (yNr b1)
  ·rcases clB kb gg hkb with b1 | ⟨q', _, _, b1⟩
   ·exact hm.sepB j x gg q2 hgg (yNr b1)
   ·have := hm.lt_row q2 hgg
    omega
 ·have mix : ∀ (j j' : Nat) (x x' : Nat × Value) (q : Nat), G1.rw[q]? = some x → j' ∉ ir → G.rw[j']? = some x' → (zC x.2) = some gg → (zC x'.2) = some gg → False := fun j j' x x' q q1 q2 q3 o1 o2 => by
   rcases hoR x (yNr q1) gg o1 with ⟨y, hy, hyg⟩ | h
   ·obtain ⟨a, k, hk, ha⟩ := rowG0 y hy
    have := hm.sepR a j' y x' gg ha q3 hyg o2
    rw [this] at hk
    exact q2 (yNr hk)
   ·have := hm.lt_row q3 o2
    omega
  rcases clR j x hj with ⟨q, q1, q2⟩ | ⟨q1, q2⟩
  ·rcases clR j' x' hj' with ⟨q', q1', q2'⟩ | ⟨q1', q2'⟩
   ·rw [q2, q2', hm1.sepR q q' x x' gg q1 q1' hgg hgg']
   ·exact (mix j j' x x' q q1 q1' q2' hgg hgg').elim
  ·rcases clR j' x' hj' with ⟨q', q1', q2'⟩ | ⟨q1', q2'⟩
   ·exact (mix j' j x' x q' q1' q1 q2 hgg' hgg).elim
   ·exact hm.sepR j j' x x' gg q2 q2' hgg hgg'
 ·obtain ⟨kb, hkb⟩ := yOw hk
  rcases clB kb k hkb with b1 | ⟨q', _, _, b1⟩
  ·exact .inl (yNr b1)
  ·exact .inr b1
 ·obtain ⟨j, hj⟩ := yOw hx
  rcases clR j x hj with ⟨q, q1, q2⟩ | ⟨q1, q2⟩
  ·rcases hoR x (yNr q1) gg hgg with ⟨y, hy, hyg⟩ | h
   ·obtain ⟨a, _, _, ha⟩ := rowG0 y hy
    exact .inl ⟨y, yNr ha, hyg⟩
   ·exact .inr h
  ·exact .inl ⟨x, yNr q2, hgg⟩
end
theorem FnG.frame {P : Program} {f : FuncId} {args : List AV} {bx sub sub' : List (List AV)} {rw rsub rsub' : List zV} {r : AV} (F : FnG P f args sub rsub r sub' rsub') (ib ir : List Nat)
  (H : zC1 ib ir bx sub rw rsub (idx ib bx.length) (idx ir rw.length)) (ha : AV.subL ib.length ir.length args) (hl : ib.length ≤ sub'.length) (hlr : ir.length ≤ rsub'.length) :
  FnG P f (AV.renL (idx ib bx.length) (idx ir rw.length) args) bx rw (r.ren (idx ib bx.length) (idx ir rw.length)) (y8 bx ib (sub'.map (AV.renL (idx ib bx.length) (idx ir rw.length)))) (y8 rw ir (rsub'.map (zV.ren (idx ib bx.length) (idx ir rw.length)))) := by
 refine ⟨F.ok, fun G w vs htb hto hm hr => ?_⟩
 obtain ⟨hp, zKk⟩ := zJg hm H
 have inB : ∀ k, k ∈ (x8 G ib ir).bx → k ∈ G.bx := fun k hk => by
  obtain ⟨q, hq⟩ := yOw hk
  obtain ⟨j, _, j2⟩ := kX hm H hq
  exact yNr j2
 have inR : ∀ x, x ∈ (x8 G ib ir).rw → x ∈ G.rw := fun k hk => by
  obtain ⟨q, hq⟩ := yOw hk
  obtain ⟨j, _, j2⟩ := zAs hm H hq
  exact yNr j2
 refine (F.calls _ w vs htb (fun g hg => ⟨fun h => (hto g hg).1 (inB g h), fun x hx => (hto g hg).2 x (inR x hx)⟩) hp (zKk _ _ ha hr)).mono ?_
 rintro e w' ⟨v, G1, rfl, hout, hle, hfr, hoB, hoR, hm1, hv⟩
 obtain ⟨G2, hi, m2, le2, b2, r2, up⟩ := zJi hm H hout hle hfr hoB hoR hm1 (vG (AV.renL (idx ib bx.length) (idx ir rw.length)) ib bx sub' H.hb.nodup H.hb.lt hl) (vG (zV.ren (idx ib bx.length) (idx ir rw.length)) ir rw rsub' H.hr.nodup H.hr.lt hlr)
 refine ⟨v, G2, rfl, hout.mono fun k _ h => h.elim (fun h => .inl (inB k h)) fun ⟨x, hx, hg⟩ => .inr ⟨x, inR x hx, hg⟩, le2, fun b o i => ?_, b2, r2, m2, up _ _ hv⟩
 rw [hi] at i
 rcases hfr b o i with h | h | ⟨x, hx, hg⟩
 ·exact .inl h
 ·exact .inr (.inl h)
 ·exact .inr (.inr ⟨x, inR x hx, hg⟩)
theorem Sat.called {P : Program} {C : Ctx P} {G G' : Gh} {a : Act} {w w' : World} {st : ASt} {bx' : List (List AV)} {rw' : List zV} (hs : Sat C G a w st) (hout : zR (fun k => k ∈ G.bx ∨ ∃ x ∈ G.rw, (zC x.2) = some k) w w') (le : G.Le w G' w')
  (hfr : ∀ b o, G'.imm b o → G.imm b o ∨ w.heap.size ≤ b ∨ ∃ x ∈ G.rw, (zC x.2) = some b) (hB : ∀ k ∈ G'.bx, k ∈ G.bx ∨ w.heap.size ≤ k)
  (hR : ∀ x ∈ G'.rw, ∀ g, (zC x.2) = some g → (∃ y ∈ G.rw, (zC y.2) = some g) ∨ w.heap.size ≤ g) (hm : xU G' w' bx' rw') : Sat C G' a w' { st with bx := bx', rw := rw' } := by
 have hsz := hs.frame.size
 obtain ⟨D, hD⟩ := hs.env
 have hfrm : zR C.may C.w0 w' := ⟨hout.os.trans hs.frame.os, hout.tape.trans hs.frame.tape, hout.output.trans hs.frame.output, yMk hsz hout.size, fun k hk hn => by
  refine (hout.block k oq fun h => ?_).trans (hs.frame.block k hk hn)
  rcases h with h | ⟨x, hx, hg⟩
  ·rcases hs.ownB k h with h | h
   ·exact hn (.inr (.inl h))
   ·omega
  ·rcases hs.ownR x hx k hg with h | h
   ·exact hn (.inr (.inr h))
   ·omega⟩
 refine ⟨hs.size, hs.callers, hfrm, hs.le.trans le, fun b o i => ?_, fun k hk => ?_, fun x hx g hg => ?_, ⟨D, hD.step hs.mem le hfr hB hR hout⟩, hm, fun t c y hl => ?_⟩
 ·rcases hfr b o i with h | h | ⟨x, hx, hg⟩
  ·exact hs.fresh b o h
  ·exact .inr (.inl oq)
  ·rcases hs.ownR x hx b hg with h | h
   ·exact .inr (.inr h)
   ·exact .inr (.inl h)
 ·rcases hB k hk with h | h
  ·exact hs.ownB k h
  ·exact .inr oq
 ·rcases hR x hx g hg with ⟨y, hy, hyg⟩ | h
  ·exact hs.ownR y hy g hyg
  ·exact .inr oq
 ·obtain ⟨v, h1, h2, h3⟩ := hs.slot t c y hl
  exact ⟨v, h1, fun hc => AV.rel_mono le _ _ (h2 hc), h3⟩
section runs
variable {P : Program} {ops : Array Oper} {rest : List Oper} {k : ASt → Prop} {st : ASt} {o : Oper} {cs : List Bool} {f : FuncId} {args : List AV} {r : AV} {bx' : List (List AV)} {rw' : List zV}
theorem zPv (hg : o.guard = none) (h : kL st o.op = some (cs, f, args)) (hc : ∀ c ∈ cs, c = true) (F : FnG P f args st.bx st.rw r bx' rw') {C : Ctx P} {G : Gh} {a : Act} {w : World} {Q : Exit → Act → World → Prop} (hs : Sat C G a w st)
  (hQ : ∀ v G' w', Sat C G' a w' { st with bx := bx', rw := rw' } → r.rel G' w' v → wpListIn (fen C.round) 0 P ops Q rest (a.put o.dst v) w') : wpListIn (fen C.round) 0 P ops Q (o :: rest) a w := by
 obtain ⟨vs, h1, h2⟩ := qQ (P := P) (a := a) h (fun y hy => yN fun t ht => hs.slot t) hc F.ok
 refine wpListIn_plain hg fun K hK => ?_
 refine zJ (fun c hc => by rw [hc] at h; simp [kL] at h) ?_
 rw [h2, Oper.uponIn_enter]
 refine ⟨fun h => by simp [fen] at h, xM ?_⟩
 refine (F.calls G w vs hs.tabs hs.tabs_own hs.mem h1).mono ?_
 rintro e w' ⟨v, G', rfl, hout, hle, hfr, hB, hR, hm1, hv⟩
 exact hK _ _ (hQ v G' w' (hs.called hout hle hfr hB hR hm1) hv)
theorem zP3 {d : Nat} (hg : o.guard = none) (hd : o.dst = some d) (hn : Nat.blt d st.nt = true) (h : kL st o.op = some (cs, f, args)) (hc : ∀ c ∈ cs, c = true) (F : FnG P f args st.bx st.rw r bx' rw')
  (hk : yZ P ops rest k { st with sl := (d, (true, r)) :: st.sl, bx := bx', rw := rw' }) : yZ P ops (o :: rest) k st := by
 intro C G a w Q hs hQ
 refine zPv hg h hc F hs fun v G' w' hs' hv => ?_
 rw [hd]
 exact hk C G' _ w' Q (hs'.put (by simpa [yNz] using hn) (fun _ => hv) (fun h => by cases h)) hQ
end runs
theorem zHo {G : Gh} {w w' : World} {bx : List (List AV)} {rw : List zV} (hm : xU G w bx rw) {k : Nat} {r r' : zV} {v v' : Value} (hk : rw[k]? = some r) (hg : G.rw[k]? = some (r.n, v)) {imm' : Nat → Nat → Prop} {m : Nat}
  (hA : ∀ b o, G.imm b o → imm' b o ∧ w'.cell? ⟨b, o, none⟩ = w.cell? ⟨b, o, none⟩) (hB : ∀ b o, imm' b o → G.imm b o ∨ (zC v') = some b) (hC : ∀ b o, imm' b o → (w'.cell? ⟨b, o, none⟩).isSome = true)
  (hD : zC0 ⟨imm', G.bx, G.rw⟩ w' r' (r.n + m, v')) (hE : m = 0 → v' = v) (hH : ((zC v') = (zC v) ∧ w.grownBy w' (zC v)) ∨ ((zC v') = some w.heap.size ∧ Below w.heap.size w w')) :
  xU ⟨imm', G.bx, G.rw.set k (r.n + m, v')⟩ w' bx (rw.set k r') ∧ G.Le w ⟨imm', G.bx, G.rw.set k (r.n + m, v')⟩ w' ∧ zR (fun q => q ∈ G.bx ∨ ∃ x ∈ G.rw, (zC x.2) = some q) w w' ∧
   (∀ b o, imm' b o → G.imm b o ∨ w.heap.size ≤ b ∨ ∃ x ∈ G.rw, (zC x.2) = some b) ∧ (∀ x ∈ G.rw.set k (r.n + m, v'), ∀ g, (zC x.2) = some g → (∃ y ∈ G.rw, (zC y.2) = some g) ∨ w.heap.size ≤ g) := by
 have hkl : k < G.rw.length := (yNd.1 hg).1
 have hmem := yNr hg
 have own : ∀ g, (zC v') = some g → (zC v) = some g ∨ g = w.heap.size := fun g h => by
  rcases hH with ⟨h1, _⟩ | ⟨h1, _⟩
  ·exact .inl (h1.symm.trans h)
  ·rw [h1] at h; exact .inr (by simpa using h.symm)
 have same : ∀ q, q < w.heap.size → (zC v) ≠ some q → w'.heap[q]? = w.heap[q]? := fun q hq hn => by
  rcases hH with ⟨_, h2⟩ | ⟨_, h2⟩
  ·exact h2.block q hq fun e => hn e.symm
  ·exact h2.block q hq
 have size : w.heap.size ≤ w'.heap.size := by
  rcases hH with ⟨_, h2⟩ | ⟨_, h2⟩
  ·exact h2.size
  ·exact h2.size
 have le1 : G.Le w ⟨imm', G.bx, G.rw⟩ w' := ⟨fun b o i => (hA b o i).1, fun b o i => (hA b o i).2, fun _ _ h => h, fun _ e h => ⟨e, h, .inl rfl⟩⟩
 have le2 : (⟨imm', G.bx, G.rw⟩ : Gh).Le w' ⟨imm', G.bx, G.rw.set k (r.n + m, v')⟩ w' := by
  refine ⟨fun _ _ i => i, fun _ _ _ => rfl, fun _ _ h => h, fun j e he => ?_⟩
  by_cases hj : k = j
  ·subst hj
   have he' : G.rw[k]? = some e := he
   rw [hg] at he'
   cases he'
   refine ⟨(r.n + m, v'), by simp [hkl], ?_⟩
   rcases yNc m with rfl | hp
   ·exact .inl (by rw [hE rfl]; rfl)
   ·exact .inr (by simp; omega)
  ·exact ⟨e, by rw [yP0 hj]; exact he, .inl rfl⟩
 have le := le1.trans le2
 refine ⟨⟨hC, hm.lenB, by simp [hm.lenR], hm.nodup, fun q cs blk hq hgq => ?_, fun j r1 x hj hx => ?_, fun j x g hx hxg hmem => ?_, fun j j' x x' g hx hx' hxg hxg' => ?_⟩, le, ⟨?_, ?_, ?_, size, fun q hq hn => same q hq fun e => hn (.inr ⟨_, hmem, e⟩)⟩, fun b o i => ?_, fun x hx g hxg => ?_⟩
 ·obtain ⟨e1, vs, T, e2, e3⟩ := hm.box q cs blk hq hgq
  have hmb := yNr hgq
  have hlt := hm.lt_box hmb
  refine ⟨fun o i => ?_, vs, T, by rw [same blk hlt fun e => hm.sepB k _ blk hg e hmb]; exact e2, AV.relL_mono le _ _ e3⟩
  rcases hB blk o i with i | i
  ·exact e1 o i
  ·rcases own blk i with h | h
   ·exact hm.sepB k _ blk hg h hmb
   ·omega
 ·by_cases hjk : k = j
  ·subst hjk
   have hx' : (G.rw.set k (r.n + m, v'))[k]? = some x := hx
   rw [yP2 hkl] at hx'
   cases hx'
   rw [yP2 (by rw [← hm.lenR]; exact hkl)] at hj
   cases hj
   obtain ⟨xs, ho, hel⟩ := hD.own
   exact ⟨hD.len, ⟨xs, ho, fun i hi => by
    obtain ⟨vs, e1, e2⟩ := hel i hi
    exact ⟨vs, AV.relL_mono le2 _ _ e1, e2⟩⟩, hD.imm⟩
  ·have hx' : G.rw[j]? = some x := by rw [← yP0 hjk (a := (r.n + m, v'))]; exact hx
   rw [yP0 hjk] at hj
   have ro := hm.row j r1 x hj hx'
   obtain ⟨xs, ho, hel⟩ := ro.own
   have hne : ∀ g, (zC x.2) = some g → (zC v) ≠ some g := fun g hgx e => hjk (hm.sepR k j _ x g hg hx' e hgx)
   refine ⟨ro.len, ⟨xs, ⟨ho.1, ?_⟩, fun i hi => by
    obtain ⟨vs, e1, e2⟩ := hel i hi
    exact ⟨vs, AV.relL_mono le _ _ e1, e2⟩⟩, fun g hgx o => ?_⟩
   ·exact (ho.keep (w' := w') fun gq h1 h2 => same gq h2 (hne gq h1)).2
   ·rw [← ro.imm g hgx o]
    refine ⟨fun i => ?_, fun i => (hA g o i).1⟩
    rcases hB g o i with i | i
    ·exact i
    ·rcases own g i with h | h
     ·exact absurd h (hne g hgx)
     ·have := hm.lt_row hx' hgx
      omega
 ·by_cases hjk : k = j
  ·subst hjk
   have hx' : (G.rw.set k (r.n + m, v'))[k]? = some x := hx
   rw [yP2 hkl] at hx'
   cases hx'
   rcases own g hxg with h | h
   ·exact hm.sepB k _ g hg h hmem
   ·have := hm.lt_box hmem
    omega
  ·have hx' : G.rw[j]? = some x := by rw [← yP0 hjk (a := (r.n + m, v'))]; exact hx
   exact hm.sepB j x g hx' hxg hmem
 ·have key : ∀ (j : Nat) (x : Nat × Value), (G.rw.set k (r.n + m, v'))[j]? = some x → (zC x.2) = some g → (k = j ∧ x = (r.n + m, v') ∧ ((zC v) = some g ∨ g = w.heap.size)) ∨ (k ≠ j ∧ G.rw[j]? = some x ∧ g < w.heap.size) := fun j x hx hxg => by
   by_cases hjk : k = j
   ·subst hjk
    rw [yP2 hkl] at hx
    cases hx
    exact .inl ⟨rfl, rfl, own g hxg⟩
   ·rw [yP0 hjk] at hx
    exact .inr ⟨hjk, hx, hm.lt_row hx hxg⟩
  rcases key j x hx hxg with ⟨h1, _, h2⟩ | ⟨h1, h2, h3⟩
  ·rcases key j' x' hx' hxg' with ⟨h1', _⟩ | ⟨h1', h2', h3'⟩
   ·rw [← h1, ← h1']
   ·rcases h2 with h2 | h2
    ·exact h1.symm.trans (hm.sepR k j' _ x' g hg h2' h2 hxg')
    ·omega
  ·rcases key j' x' hx' hxg' with ⟨h1', _, h2'⟩ | ⟨h1', h2', h3'⟩
   ·rcases h2' with h2' | h2'
    ·exact (hm.sepR j k x _ g h2 hg hxg h2').trans h1'
    ·omega
   ·exact hm.sepR j j' x x' g h2 h2' hxg hxg'
 ·rcases hH with ⟨_, h2⟩ | ⟨_, h2⟩ <;> exact h2.os
 ·rcases hH with ⟨_, h2⟩ | ⟨_, h2⟩ <;> exact h2.tape
 ·rcases hH with ⟨_, h2⟩ | ⟨_, h2⟩ <;> exact h2.output
 ·rcases hB b o i with i | i
  ·exact .inl i
  ·rcases own b i with h | h
   ·exact .inr (.inr ⟨_, hmem, h⟩)
   ·exact .inr (.inl oq)
 ·rcases List.mem_or_eq_of_mem_set hx with h | h
  ·exact .inl ⟨x, h, hxg⟩
  ·subst h
   rcases own g hxg with h | h
   ·exact .inl ⟨_, hmem, h⟩
   ·exact .inr oq
theorem zAu {G : Gh} {w : World} {bx : List (List AV)} {rw : List zV} (hm : xU G w bx rw) {r : zV} {x : Nat × Value} (hR : zC0 G w r x) (hn : ∀ g, (zC x.2) = some g → g ∉ G.bx ∧ ∀ y ∈ G.rw, (zC y.2) ≠ some g) :
  xU ⟨G.imm, G.bx, G.rw ++ [x]⟩ w bx (rw ++ [r]) ∧ G.Le w ⟨G.imm, G.bx, G.rw ++ [x]⟩ w := by
 have le : G.Le w ⟨G.imm, G.bx, G.rw ++ [x]⟩ w := ⟨fun _ _ i => i, fun _ _ _ => rfl, fun _ _ h => h, fun j e he => ⟨e, by rw [yNt (yNd.1 he).1]; exact he, .inl rfl⟩⟩
 have cls : ∀ (j : Nat) (y : Nat × Value), (G.rw ++ [x])[j]? = some y → G.rw[j]? = some y ∨ (j = G.rw.length ∧ y = x) := fun j y hy => by
  by_cases hj : j < G.rw.length
  ·rw [yNt hj] at hy; exact .inl hy
  ·rw [yNu oq] at hy
   have : j - G.rw.length = 0 := by
    rcases yNc (j - G.rw.length) with h | h
    ·exact h
    ·rw [yNw (by simp; omega)] at hy; cases hy
   rw [this] at hy
   simp only [yMb, yMc] at hy
   exact .inr ⟨by omega, hy.symm⟩
 have rok : ∀ {r1 : zV} {y : Nat × Value}, zC0 G w r1 y → zC0 ⟨G.imm, G.bx, G.rw ++ [x]⟩ w r1 y := fun h => by
  obtain ⟨xs, ho, hel⟩ := h.own
  exact ⟨h.len, ⟨xs, ho, fun i hi => by
   obtain ⟨vs, e1, e2⟩ := hel i hi
   exact ⟨vs, AV.relL_mono le _ _ e1, e2⟩⟩, h.imm⟩
 refine ⟨⟨hm.immOk, hm.lenB, by simp [hm.lenR], hm.nodup, fun q cs blk hq hg => ?_, fun j r1 y hj hy => ?_, fun j y g hy hyg hmem => ?_, fun j j' y y' g hy hy' hyg hyg' => ?_⟩, le⟩
 ·obtain ⟨e1, vs, T, e2, e3⟩ := hm.box q cs blk hq hg
  exact ⟨e1, vs, T, e2, AV.relL_mono le _ _ e3⟩
 ·rcases cls j y hy with h | ⟨rfl, rfl⟩
  ·rw [yNt (by rw [← hm.lenR]; exact (yNd.1 h).1)] at hj
   exact rok (hm.row j r1 y hj h)
  ·rw [hm.lenR, yNu (yMj _), Nat.sub_self] at hj
   simp only [yMb, yMc] at hj
   subst hj
   exact rok hR
 ·rcases cls j y hy with h | ⟨rfl, rfl⟩
  ·exact hm.sepB j y g h hyg hmem
  ·exact (hn g hyg).1 hmem
 ·rcases cls j y hy with h | ⟨h1, rfl⟩
  ·rcases cls j' y' hy' with h' | ⟨h1', rfl⟩
   ·exact hm.sepR j j' y y' g h h' hyg hyg'
   ·exact absurd hyg ((hn g hyg').2 y (yNr h))
  ·rcases cls j' y' hy' with h' | ⟨h1', rfl⟩
   ·exact absurd hyg' ((hn g hyg).2 y' (yNr h'))
   ·omega
theorem xT.nilRow {nt nb : Nat} {sl : List (Nat × (Bool × AV))} {bx : List (List AV)} {rw : List zV} {ys : (Nat × List (List AV)) × List (List AV) × Bool} (d : Nat) (e : TypeId) (sz : Nat) (hd : yL d sl = some (true, .raw (.slice none 0 0))) (hz : 0 < sz := by decide) :
  xT ⟨nt, nb, sl, bx, rw, ys⟩ ⟨nt, nb, (d, (true, .row rw.length 0)) :: sl, bx, rw ++ [⟨e, sz, 0, fun _ => []⟩], ys⟩ := by
 intro P C G a w hs
 have hR : zC0 G w ⟨e, sz, 0, fun _ => []⟩ (0, .slice none 0 0) := ⟨rfl, ⟨[], ⟨by simp, .inl ⟨rfl, rfl, hz⟩⟩, fun i hi => by simp at hi⟩, fun g hg => by simp [zC] at hg⟩
 obtain ⟨m2, le⟩ := zAu hs.mem hR (fun g hg => by simp [zC] at hg)
 refine ⟨⟨G.imm, G.bx, G.rw ++ [(0, .slice none 0 0)]⟩, ?_⟩
 have hs' := hs.called (zR.refl _ _) le (fun _ _ i => .inl i) (fun _ h => .inl h) (fun x hx g hg => by
  rw [yO2, yO1] at hx
  rcases hx with hx | rfl
  ·exact .inl ⟨x, hx, hg⟩
  ·simp [zC] at hg) m2
 refine ⟨hs'.size, hs'.callers, hs'.frame, hs'.le, hs'.fresh, hs'.ownB, hs'.ownR, hs'.env, hs'.mem, fun t c x hl => ?_⟩
 simp only [ASt.look, zL] at hl
 by_cases htd : t = d
 ·subst htd
  simp only [if_true, yMc, yMu] at hl
  obtain ⟨rfl, rfl⟩ := hl
  obtain ⟨v, h1, h2, h3⟩ := hs.slot t true _ hd
  refine ⟨v, h1, fun _ => ⟨(0, .slice none 0 0), ?_, yMj _, fun _ => h2 rfl⟩, fun h => by cases h⟩
  have hl : rw.length = G.rw.length := hs.mem.lenR.symm
  show (G.rw ++ [(0, Value.slice none 0 0)])[rw.length]? = _
  rw [hl, yNu (yMj _), Nat.sub_self]; rfl
 ·rw [if_neg htd] at hl
  exact hs'.slot t c x hl
def yFz (st : ASt) (o : Op) : Option (List Bool × Nat × Nat × Nat × Nat × (Nat → List AV) × Prop × TypeId) :=
 match o with
 | .call c => match c.callee with
  | .builtin .append => match c.args.toList, c.argTypes.toList with
   | [x, y], [t, t'] => bif Nat.beq t t' then match st.ev x, st.ev y with
    | some (g1, .row k n), some (g2, v) => match st.asL v with
     | some (sz, m, el, p) => some ([g1, g2], k, n, sz, m, el, p, t)
     | none => none
    | _, _ => none
   else none
   | _, _ => none
  | _ => none
 | _ => none
def zIb (st : ASt) (o : Op) : Option (List Bool × Nat × Nat × ByteArray × TypeId × TypeId) :=
 match o with
 | .call c => match c.callee with
  | .builtin .append => match c.args.toList, c.argTypes.toList with
   | [x, y], [t, t'] => match st.ev x, st.ev y with
    | some (g1, .row k n), some (g2, .raw (.string s)) => some ([g1, g2], k, n, s, t, t')
    | _, _ => none
   | _, _ => none
  | _ => none
 | _ => none
def zIc (T : TT) (st : ASt) (o : Op) : Option (List Bool × AV × Prop) :=
 match o with
 | .call c => match c.callee with
  | .builtin .append => match c.args.toList, c.argTypes.toList with
   | [x, y], [t, t'] => bif Nat.beq t t' then match st.ev x, st.ev y with
    | some (g1, .ful (.lst s n el)), some (g2, v) => match st.asL v, T t with
     | some (sz, m, el', p), some ⟨.slice e, _, _, _, _⟩ => match T e with
      | some j => some ([g1, g2], .lst j.size (n + m) (q8 n el el'), (p ∧ 0 < m) ∧ (s = j.size ∧ sz = j.size ∧ 0 < j.size ∧ j.zero.length = j.size) ∧ n + m ≤ maxLen ∧ (n + m) * j.bytes ≤ 140737488355328)
      | none => none
     | _, _ => none
    | _, _ => none
   else none
   | _, _ => none
  | _ => none
 | _ => none
theorem zHi {P : Program} {T : TT} (hT : TOk P T) {ops : Array Oper} {o : Oper} {st : ASt} {g : Bool} {cs : List Bool} {x : AV} {p : Prop} (hg : y9 ops st o = some g) (h : zIc T st o.op = some (cs, x, p))
  (hp : g = true → (∀ c ∈ cs, c = true) ∧ p) : vU P ops o st g x := by
 intro G a w htb hm hs
 refine ⟨y3 hg hs, fun hgt ro K Q hK => ?_⟩
 obtain ⟨hc, hq⟩ := hp hgt
 clear hp
 have hev : ∀ y ∈ o.op.operands.toList, zIf G w a st y := fun y hy => yN fun t ht => hs t (y7 (by rw [← ht]; exact hy))
 refine zJ (fun c hc => by rw [hc] at h; simp [zIc] at h) ?_
 obtain ⟨dst, op, type, pos, after, guard⟩ := o
 simp only at h hev
 unfold zIc at h
 split at h
 ·rename_i c
  obtain ⟨callee, args, argTypes⟩ := c
  obtain ⟨args⟩ := args
  obtain ⟨argTypes⟩ := argTypes
  simp only at h
  split at h
  ·split at h
   ·rename_i x1 y1 t1 t2
    cases hbt : Nat.beq t1 t2
    ·rw [hbt] at h; cases h
    ·rw [hbt] at h
     simp only [yMq] at h
     obtain rfl := yMs hbt
     split at h
     ·rename_i g1 s n el g2 v hx hy
      split at h
      ·rename_i sz m el' p' e _ _ _ _ hl h1
       split at h
       ·rename_i j h2
        simp only [yMc, yMu] at h
        obtain ⟨rfl, rfl, rfl⟩ := h
        obtain ⟨⟨hp', hm0⟩, ⟨rfl, hsz, hj0, hjz⟩, hmax, hbytes⟩ := hq
        subst hsz
        have hxr := hev x1 (by simp [Op.operands, Call.operands]) _ _ hx (hc g1 sq)
        have hyr := xN hm hl hp' (hev y1 (by simp [Op.operands, Call.operands]) _ _ hy (hc g2 sq))
        obtain ⟨hx1, A, nn, hxv⟩ := hxr
        obtain ⟨A', cap', hxv', _⟩ := id hx1
        rw [hxv] at hxv'
        cases hxv'
        rw [hxv] at hx1
        obtain ⟨B, bc, hyv, _⟩ := id hyr
        rw [hyv] at hyr
        obtain ⟨olds, ol, oA, onw, _⟩ := jU hj0 hx1
        obtain ⟨news, nl, nA, nnw, _⟩ := jU hj0 hyr
        obtain ⟨b, hB, nA2⟩ := nA hm0
        subst hB
        obtain ⟨d, hu, hdk⟩ := (hT _ _ h1).und_some
        have := zF hdk
        subst this
        obtain ⟨ie, z, q2, q1, q3, q4, e2⟩ : ∃ ie z, P.info? e = some ie ∧ ie.size = j.size ∧ ie.zero = some z ∧ ie.bytes = j.bytes ∧ z.cells.toList = j.zero := by
         have h1 := (hT _ _ h2).info
         cases hie : P.info? e with
         | none => rw [hie] at h1; cases h1
         | some x =>
          rw [hie] at h1
          simp only [yMw, yMc, yMu] at h1
          cases hzz : x.zero with
          | none => rw [hzz] at h1; cases h1.1
          | some z =>
           rw [hzz] at h1
           simp only [yMw, yMc] at h1
           exact ⟨x, z, rfl, h1.2.1, hzz, h1.2.2, h1.1⟩
        have hsmall : n + m ≤ 9223372036854775807 := by simp only [maxLen] at hmax; omega
        have hge := grownCap_ge w (n + m) n e
        have hcm : grownCap w (n + m) n e ≤ maxLen := grownCap_le_maxLen w (n + m) n e hmax
        have hlen : (olds ++ news).length = (n + m) * j.size := by rw [yN1, ol, nl, yN4]
        obtain ⟨cells, hcells, hrun⟩ : ∃ cells : Array Value, cells.toList.take ((n + m) * j.size) = olds ++ news ∧ (Builtin.append_ #[t1, t1] type #[.slice A n n, .slice (some b) m bc]).run P w = .ok (.slice (some ⟨w.heap.size, 0, none⟩) (n + m) (grownCap w (n + m) n e)) (w.drew.alloc (.cells cells e)) := by
         cases A with
         | none =>
          have hn0 : n = 0 := Nat.eq_zero_of_not_pos fun h => by obtain ⟨_, e, _⟩ := oA h; cases e
          subst hn0
          obtain rfl : olds = [] := yMe (by simpa using ol)
          have hr := run_append_nil (P := P) w t1 type e ie z hu q2 q3 b m bc news (by rw [q1]; exact nl) nA2 hm0 oq (by rw [q4]; simp only [yN9] at hbytes; omega)
          refine ⟨news.toArray ++ Builtin.zeroCells z.cells (grownCap w m 0 e - m), ?_, by simpa using hr⟩
          simp only [yOr, yN8] at hlen ⊢
          rw [← hlen]
          exact List.take_left
         | some a =>
          have oA' : ∀ j u, olds[j]? = some u → w.cell? (a.add j) = some u := by
           rcases yNc n with hn0 | hn0
           ·subst hn0
            obtain rfl : olds = [] := yMe (by simpa using ol)
            intro j u hj; simp at hj
           ·obtain ⟨a', e, h⟩ := oA hn0
            cases e
            exact h
          refine ⟨_, ?_, run_append_grow (P := P) w t1 type e ie z hu q2 q3 a n n olds (by rw [q1]; exact ol) oA' b m bc news (by rw [q1]; exact nl) nA2 oq oq (growslice_fits oq (by rw [q4]; exact hbytes))⟩
          simp only [yOr, yOs]
          rw [← yOs, ← hlen]
          exact List.take_left
        have hcell : ∀ k u, (olds ++ news)[k]? = some u → (w.drew.alloc (.cells cells e)).cell? ⟨w.heap.size, k, none⟩ = some u := fun k u hk => by
         have hk1 : k < (n + m) * j.size := by rw [← hlen]; exact (yNd.1 hk).1
         rw [← hcells, yMg, if_pos hk1] at hk
         have h4 : (w.drew.alloc (.cells cells e)).heap[w.heap.size]? = some (.cells cells e (0, 0)) := heap_alloc_new w.drew (.cells cells e)
         simp only [World.cell?, h4]
         simpa using hk
        have E := wX hm ((Below.refl _ _).drew.alloc (yMj _) (.cells cells e)) (fun b o => G.imm b o ∨ (b = w.heap.size ∧ o < (olds ++ news).length)) (fun b o i => .inl i) (fun b o i => i.elim .inl fun i => .inr oq)
         (fun b o i => by
          rcases i with i | ⟨rfl, i⟩
          ·have := hm.lt_imm i
           rw [World.cell?_of_block (w := w) (heap_alloc_old w.drew _ this)]
           exact hm.immOk b o i
          ·rw [hcell o _ (yNf i)]; rfl)
        have hrun' : (execOp a.eval ⟨dst, .call ⟨.builtin .append, ⟨[x1, y1]⟩, ⟨[t1, t1]⟩⟩, type, pos, after, guard⟩).run P w = .ok (.value (.slice (some ⟨w.heap.size, 0, none⟩) (n + m) (grownCap w (n + m) n e))) (w.drew.alloc (.cells cells e)) := by
         simp [execOp, resolve, invoke, builtin, hxv, hyv, hrun]
        rw [hrun', Oper.uponIn_value]
        refine hK _ _ _ E ⟨_, _, rfl, hge, hcm, fun hn => ⟨w.heap.size, 0, rfl, fun i hi => ?_⟩⟩
        have hels : ∃ vs, AV.relL G w (q8 n el el' i) vs ∧ vs.length = j.size ∧ ∀ q u, vs[q]? = some u → (olds ++ news)[i * j.size + q]? = some u := by
         by_cases hin : i < n
         ·obtain ⟨vs, v1, v2, v3⟩ := onw i hin
          rw [zDt hin]
          refine ⟨vs, v1, v2, fun q u hq => ?_⟩
          have h4 := v3 q u hq
          rw [yNt (yNd.1 h4).1]
          exact h4
         ·obtain ⟨vs, v1, v2, v3⟩ := nnw (i - n) oq
          rw [zBv oq]
          refine ⟨vs, v1, v2, fun q u hq => ?_⟩
          have hsub : i * j.size = n * j.size + (i - n) * j.size := by rw [← yN4]; congr 1; omega
          rw [yNu (by rw [ol]; omega), ol, show i * j.size + q - n * j.size = (i - n) * j.size + q from by omega]
          exact v3 q u hq
        obtain ⟨vs, v1, v2, v3⟩ := hels
        refine ⟨vs, AV.relL_mono E.le _ _ v1, v2, fun q u hq => ?_⟩
        have h4 := v3 q u hq
        rw [yN9]
        exact ⟨.inr ⟨rfl, (yNd.1 h4).1⟩, hcell _ _ h4⟩
       ·cases h
      ·cases h
     ·cases h
   ·cases h
  ·cases h
 ·cases h
section runs
variable {P : Program} {T : TT} {ops : Array Oper} {rest : List Oper} {K : ASt → Prop} {nt nb : Nat} {sl : List (Nat × (Bool × AV))} {bx : List (List AV)} {rw : List zV} {ys : (Nat × List (List AV)) × List (List AV) × Bool} {o : Oper} {d : Nat}
theorem zHc (hT : TOk P T) (hg : o.guard = none) (hd : o.dst = some d) (hn : Nat.blt d nt = true)
  (h : ∃ cs k n sz m el p t, yFz ⟨nt, nb, sl, bx, rw, ys⟩ o.op = some (cs, k, n, sz, m, el, p, t) ∧ ((∀ c ∈ cs, c = true) ∧ p) ∧ ∃ i, T t = some i ∧ ∃ e, i.k = .slice e ∧ ∃ jj, T e = some jj ∧ ∃ rr, rw[k]? = some rr ∧ (rr.n = n ∧ rr.e = e ∧ rr.sz = jj.size ∧ sz = jj.size ∧ 0 < jj.size ∧ jj.zero.length = jj.size) ∧
   (∀ q, q < m → AV.oneL ⟨nt, nb, sl, bx, rw, ys⟩ (el q)) ∧ (n + m ≤ maxLen ∧ (n + m) * jj.bytes ≤ 140737488355328) ∧ ∃ n', n + m = n' ∧ ∃ rw', rw.set k ⟨e, sz, n', q8 n rr.el el⟩ = rw' ∧
   yZ P ops rest K ⟨nt, nb, (d, (true, .row k n')) :: sl, bx, rw', ys⟩) : yZ P ops (o :: rest) K ⟨nt, nb, sl, bx, rw, ys⟩ := by
 obtain ⟨cs, k, n, sz, m, el, p, t, h1, ⟨h2, hp⟩, i, hi, e, hk, j, hj, rr, hrr, ⟨c0, c1, c2, c3, c4, c5⟩, hone, hmax, n', rfl, rw', rfl, h3⟩ := h
 subst c0
 subst c3
 intro C G a w Q hs hQ
 have hev : ∀ y ∈ o.op.operands.toList, zIf G w a ⟨nt, nb, sl, bx, rw, ys⟩ y := fun y hy => yN fun t ht => hs.slot t
 refine wpListIn_plain hg fun K' hK => ?_
 refine zJ (fun c hc => by rw [hc] at h1; simp [yFz] at h1) ?_
 obtain ⟨dst, op, type, pos, after, guard⟩ := o
 simp only at h1 hev hd
 subst hd
 unfold yFz at h1
 split at h1
 ·rename_i c
  obtain ⟨callee, args, argTypes⟩ := c
  obtain ⟨args⟩ := args
  obtain ⟨argTypes⟩ := argTypes
  simp only at h1
  split at h1
  ·split at h1
   ·rename_i x y t1 t2
    cases hbt : Nat.beq t1 t2
    ·rw [hbt] at h1; cases h1
    ·rw [hbt] at h1
     simp only [yMq] at h1
     obtain rfl := yMs hbt
     split at h1
     ·rename_i g1 k' n' g2 v' hx hy
      split at h1
      ·rename_i sz' m' el' p' hl
       simp only [yMc, yMu] at h1
       obtain ⟨rfl, rfl, hnn, rfl, rfl, rfl, rfl, rfl⟩ := h1
       subst hnn
       have hxr := hev x (by simp [Op.operands, Call.operands]) _ _ hx (h2 g1 sq)
       have hyr := xN hs.mem hl hp (hev y (by simp [Op.operands, Call.operands]) _ _ hy (h2 g2 sq))
       obtain ⟨⟨ne, v⟩, hge, _, hv⟩ := hxr
       have ro := hs.mem.row k' rr _ hrr hge
       have hne : ne = rr.n := ro.len
       subst hne
       have hv : a.eval x = v := hv rfl
       obtain ⟨v', w', imm', k1, k2, k3, k4, k5, k6, k7, k8⟩ := zMj hT (ty := type) (hT _ _ hi) hk (hT _ _ hj) c4 c5 hs.mem.immOk ro c1 c2 hyr (fun q hq vs hvs u hu => zA6 hs.mem (hone q hq) hvs u hu) hmax.1 hmax.2
       have hrun : (execOp a.eval ⟨some d, .call ⟨.builtin .append, ⟨[x, y]⟩, ⟨[t1, t1]⟩⟩, type, pos, after, guard⟩).run P w = .ok (.value v') w' := by
        simp [execOp, resolve, invoke, builtin, hv, k1]
       rw [hrun, Oper.uponIn_value]
       obtain ⟨q1, q2, q3, q4, q5⟩ := zHo hs.mem hrr hge k2 k3 k4 k5 (fun h => (k6 h).1) k8
       have hs' := hs.called q3 q2 q4 (fun _ h => .inl h) q5 q1
       refine hK _ _ (h3 C _ _ _ Q (hs'.put (by simpa [yNz] using hn) (fun _ => ⟨(rr.n + m', v'), ?_, yMj _, fun _ => rfl⟩) (fun h => by cases h)) hQ)
       show (G.rw.set k' (rr.n + m', v'))[k']? = _
       rw [yP2 (yNd.1 hge).1]
      ·cases h1
     ·cases h1
   ·cases h1
  ·cases h1
 ·cases h1
theorem zAo (hT : TOk P T) (hg : o.guard = none) (hd : o.dst = some d) (hn : Nat.blt d nt = true)
  (h : ∃ cs k n s t t', zIb ⟨nt, nb, sl, bx, rw, ys⟩ o.op = some (cs, k, n, s, t, t') ∧ (∀ c ∈ cs, c = true) ∧ ∃ i, T t = some i ∧ ∃ e, i.k = .slice e ∧ ∃ iu, T t' = some iu ∧ iu.k = .str ∧ ∃ jj, T e = some jj ∧ ∃ rr, rw[k]? = some rr ∧ (rr.n = n ∧ rr.e = e ∧ rr.sz = 1 ∧ jj.size = 1 ∧ jj.bytes = 1 ∧ jj.zero.length = 1) ∧
   (n + s.size ≤ maxLen ∧ n + s.size ≤ 140737488355328) ∧ ∃ n', n + s.size = n' ∧ ∃ rw', rw.set k ⟨e, 1, n', q8 n rr.el (zL1 s)⟩ = rw' ∧
   yZ P ops rest K ⟨nt, nb, (d, (true, .row k n')) :: sl, bx, rw', ys⟩) : yZ P ops (o :: rest) K ⟨nt, nb, sl, bx, rw, ys⟩ := by
 obtain ⟨cs, k, n, s, t, t', h1, h2, i, hi, e, hk, iu, hiu, hku, j, hj, rr, hrr, ⟨c0, c1, c2, c3, c4, c5⟩, hmax, n', rfl, rw', rfl, h3⟩ := h
 subst c0
 intro C G a w Q hs hQ
 have hev : ∀ y ∈ o.op.operands.toList, zIf G w a ⟨nt, nb, sl, bx, rw, ys⟩ y := fun y hy => yN fun t ht => hs.slot t
 refine wpListIn_plain hg fun K' hK => ?_
 refine zJ (fun c hc => by rw [hc] at h1; simp [zIb] at h1) ?_
 obtain ⟨dst, op, type, pos, after, guard⟩ := o
 simp only at h1 hev hd
 subst hd
 unfold zIb at h1
 split at h1
 ·rename_i c
  obtain ⟨callee, args, argTypes⟩ := c
  obtain ⟨args⟩ := args
  obtain ⟨argTypes⟩ := argTypes
  simp only at h1
  split at h1
  ·split at h1
   ·rename_i x y t1 t2
    split at h1
    ·rename_i g1 k' n' g2 s' hx hy
     simp only [yMc, yMu] at h1
     obtain ⟨rfl, rfl, hnn, rfl, rfl, rfl⟩ := h1
     subst hnn
     have hxr := hev x (by simp [Op.operands, Call.operands]) _ _ hx (h2 g1 sq)
     have hyr := zQ (hev y (by simp [Op.operands, Call.operands]) _ _ hy (h2 g2 sq))
     obtain ⟨⟨ne, v⟩, hge, _, hv⟩ := hxr
     have ro := hs.mem.row k' rr _ hrr hge
     have hne : ne = rr.n := ro.len
     subst hne
     have hv : a.eval x = v := hv rfl
     obtain ⟨v', w', imm', k1, k2, k3, k4, k5, k6, k7, k8⟩ := zFb hT (ty := type) (hT _ _ hi) hk (hT _ _ hiu) hku (hT _ _ hj) c3 c4 c5 hs.mem.immOk ro c1 (by rw [c2, c3]) s' hmax.1 hmax.2
     rw [c3] at k5 k7
     have hrun : (execOp a.eval ⟨some d, .call ⟨.builtin .append, ⟨[x, y]⟩, ⟨[t1, t2]⟩⟩, type, pos, after, guard⟩).run P w = .ok (.value v') w' := by
      simp [execOp, resolve, invoke, builtin, hv, hyr, k1]
     rw [hrun, Oper.uponIn_value]
     obtain ⟨q1, q2, q3, q4, q5⟩ := zHo hs.mem hrr hge k2 k3 k4 k5 (fun h => (k6 h).1) k8
     have hs' := hs.called q3 q2 q4 (fun _ h => .inl h) q5 q1
     refine hK _ _ (h3 C _ _ _ Q (hs'.put (by simpa [yNz] using hn) (fun _ => ⟨(rr.n + s'.size, v'), ?_, yMj _, fun _ => rfl⟩) (fun h => by cases h)) hQ)
     show (G.rw.set k' (rr.n + s'.size, v'))[k']? = _
     rw [yP2 (yNd.1 hge).1]
    ·cases h1
   ·cases h1
  ·cases h1
 ·cases h1
theorem zGe (hT : TOk P T) (hg : o.guard = none) (hd : o.dst = some d) (hn : Nat.blt d nt = true)
  (h : ∃ cs rr p, zGn T ⟨nt, nb, sl, bx, rw, ys⟩ o.op = some (cs, rr, p) ∧ ((∀ c ∈ cs, c = true) ∧ p) ∧ ∃ k, rw.length = k ∧ ∃ rw', rw ++ [rr] = rw' ∧
   yZ P ops rest K ⟨nt, nb, (d, (true, .row k rr.n)) :: sl, bx, rw', ys⟩) : yZ P ops (o :: rest) K ⟨nt, nb, sl, bx, rw, ys⟩ := by
 obtain ⟨cs, rr, p, h1, ⟨h2, hp⟩, k, rfl, rw', rfl, h3⟩ := h
 intro C G a w Q hs hQ
 have hev : ∀ y ∈ o.op.operands.toList, zIf G w a ⟨nt, nb, sl, bx, rw, ys⟩ y := fun y hy => yN fun t ht => hs.slot t
 refine wpListIn_plain hg fun K' hK => ?_
 refine zJ (fun c hc => by rw [hc] at h1; simp [zGn] at h1) ?_
 obtain ⟨us, e, g1, g2, g3, g4⟩ := zLk hT hs.mem h1 h2 hp (a := a) hev
 rw [g1, Oper.uponIn_value, hd]
 obtain ⟨m2, le2⟩ := zAu g2.mem g4 (fun g hg => by
  simp only [zC, yMc] at hg
  subst hg
  refine ⟨fun h => ?_, fun y hy e => ?_⟩
  ·have := hs.mem.lt_box h
   omega
  ·obtain ⟨q, hq⟩ := yOw hy
   have := hs.mem.lt_row hq e
   omega)
 have hs' := hs.called ((zR.of_below g2.below).mono fun _ _ h => h) (g2.le.trans le2) (fun b o i => (g2.fresh b o i).elim .inl fun h => .inr (.inl h)) (fun _ h => .inl h) (fun x hx g hg => by
  have hx : x ∈ G.rw ++ [_] := hx
  rw [yO2, yO1] at hx
  rcases hx with hx | rfl
  ·exact .inl ⟨x, hx, hg⟩
  ·simp only [zC, yMc] at hg
   exact .inr oq) m2
 refine hK _ _ (h3 C _ _ _ Q (hs'.put (by simpa [yNz] using hn) (fun _ => ⟨(rr.n, .slice (some ⟨w.heap.size, 0, none⟩) rr.n rr.n), ?_, yMj _, fun _ => rfl⟩) (fun h => by cases h)) hQ)
 ·show (G.rw ++ [_])[rw.length]? = _
  rw [← hs.mem.lenR, yNu (yMj _), Nat.sub_self]; rfl
theorem zAp (hT : TOk P T) (hd : o.dst = some d) (hn : Nat.blt d nt = true)
  (h : ∃ g, y9 ops ⟨nt, nb, sl, bx, rw, ys⟩ o = some g ∧ ∃ cs x p, zIc T ⟨nt, nb, sl, bx, rw, ys⟩ o.op = some (cs, x, p) ∧ (g = true → (∀ c ∈ cs, c = true) ∧ p) ∧ yZ P ops rest K ⟨nt, nb, (d, (g, x)) :: sl, bx, rw, ys⟩) : yZ P ops (o :: rest) K ⟨nt, nb, sl, bx, rw, ys⟩ :=
 let ⟨_, hg, _, _, _, h, hp, hk⟩ := h
 qI hd (zHi hT hg h hp) hn hk
end runs
def zIi (st : ASt) : List AV → Option (List AV × Prop)
 | [] => some ([], True)
 | .row k n :: xs => match st.rw[k]?, zIi st xs with
  | some r, some (ys, p) => bif Nat.beq r.sz 0 then none else some (.lst r.sz r.n r.el :: ys, n = r.n ∧ p)
  | _, _ => none
 | x :: xs => match zIi st xs with
  | some (ys, p) => some (x :: ys, p)
  | none => none
theorem zAl {st : ASt} {G : Gh} {w : World} (hm : xU G w st.bx st.rw) : ∀ {xs ys : List AV} {p : Prop} {vs : List Value}, zIi st xs = some (ys, p) → p → AV.relL G w xs vs → AV.relL G w ys vs
 | [], ys, p, vs, h, _, hr => by
  simp only [zIi, yMc, yMu] at h
  obtain ⟨rfl, _⟩ := h
  exact hr
 | x :: xs, ys, p, vs, h, hp, hr => by
  obtain ⟨v, r, rfl, h1, h2⟩ := hr
  unfold zIi at h
  split at h
  ·cases ‹_ :: _ = []›
  ·rename_i k n xs' heq
   cases heq
   split at h
   ·rename_i rr ys' p' hk hu
    have hz : 0 < rr.sz := by
     rcases yNc rr.sz with h0 | h0
     ·rw [h0] at h; cases h
     ·exact h0
    rw [show Nat.beq rr.sz 0 = false from by rw [← yNb, Nat.beq_eq]; omega] at h
    simp only [yN5, yMc, yMu] at h
    obtain ⟨rfl, rfl⟩ := h
    exact ⟨v, r, rfl, xN hm (v := .row k n) (zTk hk hz) hp.1 h1, zAl hm hu hp.2 h2⟩
   ·cases h
  ·rename_i xs' _ heq
   cases heq
   split at h
   ·rename_i ys' p' hu
    simp only [yMc, yMu] at h
    obtain ⟨rfl, rfl⟩ := h
    exact ⟨v, r, rfl, h1, zAl hm hu hp h2⟩
   ·cases h
theorem zJ9 {P : Program} {ops : Array Oper} {o : Oper} {st : ASt} {g : Bool} {cs : List Bool} {f : FuncId} {args args' : List AV} {p : Prop} {r : AV} (hg : y9 ops st o = some g) (h : kL st o.op = some (cs, f, args)) (hu : zIi st args = some (args', p))
  (hp : g = true → (∀ c ∈ cs, c = true) ∧ p ∧ AV.freeL args') (hf : g = true → FnA P f args' r) : vU P ops o st g r := by
 intro G a w htb hm hs
 refine ⟨y3 hg hs, fun hgt ro K Q hK => ?_⟩
 have F := hf hgt
 obtain ⟨hp1, hp2, hp3⟩ := hp hgt
 obtain ⟨vs, h1, h2⟩ := qQ (P := P) (a := a) h (fun y hy => yN fun t ht => hs t (y7 (by rw [← ht]; exact hy))) hp1 F.ok
 have h1 := zAl hm hu hp2 h1
 refine zJ (fun c hc => by rw [hc] at h; simp [kL] at h) ?_
 rw [h2, Oper.uponIn_enter]
 refine ⟨fun h => by simp [fen] at h, xM ?_⟩
 refine (F.calls G.imm w vs htb hm.immOk (AV.relL_free (G := G) (G' := ⟨G.imm, [], []⟩) (fun _ _ i => i) _ _ hp3 h1)).mono ?_
 rintro e w' ⟨v, imm', rfl, hb, i1, i2, i3, hr⟩
 have E := wX hm hb imm' i1 i2 i3
 refine hK v ⟨imm', G.bx, G.rw⟩ w' E (AV.rel_mono (G := ⟨imm', [], []⟩) (G' := ⟨imm', G.bx, G.rw⟩) ⟨fun _ _ i => i, fun _ _ _ => rfl, fun k x hx => by simp at hx, fun k e he => by simp at he⟩ _ _ hr)
section runs
variable {P : Program} {T : TT} {ops : Array Oper} {rest : List Oper} {K : ASt → Prop} {nt nb : Nat} {sl : List (Nat × (Bool × AV))} {bx : List (List AV)} {rw : List zV} {ys : (Nat × List (List AV)) × List (List AV) × Bool} {o : Oper} {d : Nat}
theorem zCg (hd : o.dst = some d) (hn : Nat.blt d nt = true)
  (h : ∃ g,y9 ops ⟨nt,nb,sl,bx,rw,ys⟩ o = some g ∧ ∃ cs f args,kL ⟨nt,nb,sl,bx,rw,ys⟩ o.op = some (cs,f,args) ∧ ∃ args' p,zIi ⟨nt,nb,sl,bx,rw,ys⟩ args = some (args',p) ∧ (g = true → (∀ c ∈ cs,c = true) ∧ p ∧ AV.freeL args') ∧ ∃ x,(g = true → FnA P f args' x) ∧ yZ P ops rest K ⟨nt,nb,(d,(g,x)) :: sl,bx,rw,ys⟩) : yZ P ops (o :: rest) K ⟨nt,nb,sl,bx,rw,ys⟩ := by
 obtain ⟨_, hg, _, _, _, h, _, _, hu, hp, _, hf, hk⟩ := h
 exact qI hd (zJ9 hg h hu hp hf) hn hk
end runs
def zDf {α : Type} (bx : List α) (rn : α → α) : List Nat → List α → Prop
 | [], [] => True
 | j :: ib, c :: sub => bx[j]? = some (rn c) ∧ zDf bx rn ib sub
 | _, _ => False
theorem zBi {α : Type} {bx : List α} {rn : α → α} : ∀ {ib : List Nat} {sub : List α}, zDf bx rn ib sub → sub.length = ib.length ∧ ∀ (k j : Nat), ib[k]? = some j → ∃ c, sub[k]? = some c ∧ bx[j]? = some (rn c)
 | [], [], _ => ⟨rfl, fun k j h => by simp at h⟩
 | j :: ib, c :: sub, h => by
  obtain ⟨h1, h2⟩ := zBi h.2
  refine ⟨by simp [h1], fun k j' hk => ?_⟩
  cases k with
  | zero =>
   simp only [yMb, yMc] at hk
   subst hk
   exact ⟨c, rfl, h.1⟩
  | succ k => simpa using h2 k j' (by simpa using hk)
 | [], _ :: _, h => h.elim
 | _ :: _, [], h => h.elim
theorem zEs {ib ir : List Nat} {bx sub : List (List AV)} {rw rsub : List zV} {m n : Nat} (h1 : ib.Nodup) (h2 : ir.Nodup) (h3 : zDf bx (AV.renL (idx ib m) (idx ir n)) ib sub) (h4 : zDf rw (zV.ren (idx ib m) (idx ir n)) ir rsub)
  (h5 : ∀ cs ∈ sub, AV.subL ib.length ir.length cs) (h6 : ∀ r ∈ rsub, ∀ q, q < r.n → AV.subL ib.length ir.length (r.el q)) : zC1 ib ir bx sub rw rsub (idx ib m) (idx ir n) :=
 ⟨⟨h1, (zBi h3).1, (zBi h3).2⟩, ⟨h2, (zBi h4).1, (zBi h4).2⟩, fun _ _ h => zHr h, fun _ _ h => zHr h, h5, h6⟩
theorem zCj {T : TT} {rs : List ResultVar} {m : Nat} {r : AV} {bx' : List (List AV)} {rw' : List zV} {e : Exit} {st : ASt} (he : e = .normal ∨ e = .ret)
  (h : ∃ cs x p, zUs T st rs = some (cs, x, p) ∧ ((∀ c ∈ cs, c = true) ∧ p) ∧ zQ4 m st x r ∧ st.nb % 64 ≤ m ∧ st.bx.take m = bx' ∧ st.rw = rw' ∧ zFk m bx' ∧ zQ3 m rw') : zDi T rs m r bx' rw' e st := by
 obtain ⟨cs, x, p, h1, ⟨h2, h3⟩, h4⟩ := h
 exact ⟨he, cs, x, p, h1, h2, h3, h4⟩
section
variable {P : Program} {T : TT} {ops : Array Oper} {rest : List Oper} {K : ASt → Prop} {nt nb : Nat} {sl : List (Nat × (Bool × AV))} {bx : List (List AV)} {rw : List zV} {ys : (Nat × List (List AV)) × List (List AV) × Bool} {o : Oper} {d : Nat}
theorem zE3 (ib ir : List Nat) {f : FuncId} {args : List AV} {sub sub' : List (List AV)} {rsub rsub' : List zV} {r : AV} (F : FnG P f args sub rsub r sub' rsub') (hg : o.guard = none) (hd : o.dst = some d) (hn : Nat.blt d nt = true)
  (h : ∃ m, bx.length = m ∧ ∃ n, rw.length = n ∧ ∃ cs, kL ⟨nt, nb, sl, bx, rw, ys⟩ o.op = some (cs, f, AV.renL (idx ib m) (idx ir n) args) ∧ (∀ c ∈ cs, c = true) ∧ ib.Nodup ∧ ir.Nodup ∧ zDf bx (AV.renL (idx ib m) (idx ir n)) ib sub ∧ zDf rw (zV.ren (idx ib m) (idx ir n)) ir rsub ∧
   ((∀ cs ∈ sub, AV.subL ib.length ir.length cs) ∧ (∀ r ∈ rsub, ∀ q, q < r.n → AV.subL ib.length ir.length (r.el q)) ∧ AV.subL ib.length ir.length args ∧ ib.length ≤ sub'.length ∧ ir.length ≤ rsub'.length) ∧
   ∃ r1, r.ren (idx ib m) (idx ir n) = r1 ∧ ∃ bx1, y8 bx ib (sub'.map (AV.renL (idx ib m) (idx ir n))) = bx1 ∧ ∃ rw1, y8 rw ir (rsub'.map (zV.ren (idx ib m) (idx ir n))) = rw1 ∧
   yZ P ops rest K ⟨nt, nb, (d, (true, r1)) :: sl, bx1, rw1, ys⟩) : yZ P ops (o :: rest) K ⟨nt, nb, sl, bx, rw, ys⟩ := by
 obtain ⟨m, rfl, n, rfl, cs, h1, h2, h3, h4, h5, h6, ⟨h7, h8, h9, h10, h11⟩, r1, rfl, bx1, rfl, rw1, rfl, h12⟩ := h
 exact zP3 hg hd hn h1 h2 (F.frame ib ir (zEs h3 h4 h5 h6 h7 h8) h9 h10 h11) h12
end
attribute [go_sem] zIi idx yFz zIb q8 zGn y8 zDf AV.renL AV.ren zV.ren
def Sim (x y : AV) : Prop := ∀ (G : Gh) (w : World) (v : Value), x.rel G w v → y.rel G w v
def zB8 : List AV → List AV → Prop
 | [], [] => True
 | x :: xs, y :: ys => Sim x y ∧ zB8 xs ys
 | _, _ => False
theorem Sim.refl (x : AV) : Sim x x := fun _ _ _ h => h
theorem Sim.of_eq {x y : AV} (h : x = y) : Sim x y := h ▸ Sim.refl x
theorem zB8.refl : ∀ (xs : List AV), zB8 xs xs
 | [] => trivial
 | x :: xs => ⟨Sim.refl x, zB8.refl xs⟩
theorem zB8.of_eq {xs ys : List AV} (h : xs = ys) : zB8 xs ys := h ▸ zB8.refl xs
theorem zB8.rel {G : Gh} {w : World} : ∀ {xs ys : List AV} {vs : List Value}, zB8 xs ys → AV.relL G w xs vs → AV.relL G w ys vs
 | [], [], _, _, h => h
 | x :: xs, y :: ys, _, s, ⟨v, r, e, h1, h2⟩ => ⟨v, r, e, s.1 _ _ _ h1, zB8.rel s.2 h2⟩
 | [], _ :: _, _, s, _ => s.elim
 | _ :: _, [], _, s, _ => s.elim
theorem Sim.lst {sz n n' : Nat} {el el' : Nat → List AV} (hn : n = n') (h : ∀ i, i < n → zB8 (el i) (el' i)) : Sim (.lst sz n el) (.lst sz n' el') := by
 subst hn
 rintro G w v ⟨A, cap, e1, e2, e3, e4⟩
 refine ⟨A, cap, e1, e2, e3, fun hn => ?_⟩
 obtain ⟨b, o, e5, e6⟩ := e4 hn
 refine ⟨b, o, e5, fun i hi => ?_⟩
 obtain ⟨vs, h1, h2⟩ := e6 i hi
 exact ⟨vs, (h i hi).rel h1, h2⟩
theorem Sim.lstE {sz n n' : Nat} {el el' : Nat → List AV} (hn : n = n') (h : ∀ i, i < n → el i = el' i) : Sim (.lst sz n el) (.lst sz n' el') := Sim.lst hn fun i hi => .of_eq (h i hi)
theorem Sim.nil {sz n : Nat} {el : Nat → List AV} (hn : n = 0) : Sim (.raw (.slice none 0 0)) (.lst sz n el) := by
 subst hn
 rintro G w v rfl
 exact ⟨none, 0, rfl, yMj _, yMh _, fun h => absurd h (Nat.lt_irrefl _)⟩
theorem Sim.agg {xs ys : List AV} (h : zB8 xs ys) : Sim (.agg xs) (.agg ys) := fun _ _ _ ⟨vs, e, h1⟩ => ⟨vs, e, h.rel h1⟩
theorem Sim.tup {xs ys : List AV} (h : zB8 xs ys) : Sim (.tup xs) (.tup ys) := fun _ _ _ ⟨vs, e, h1⟩ => ⟨vs, e, h.rel h1⟩
theorem FnA.sim {P : Program} {f : FuncId} {args args' : List AV} {r : AV} (h : FnA P f args' r) (hs : zB8 args args') : FnA P f args r :=
 ⟨h.ok, fun imm w vs ht hi hr => h.calls imm w vs ht hi (hs.rel hr)⟩
def els {α : Type} [Inhabited α] (enc : α → List AV) (l : List α) (i : Nat) : List AV := enc (l.getD i default)
def lA {α : Type} [Inhabited α] (sz : Nat) (enc : α → List AV) (l : List α) : AV := .lst sz l.length (els enc l)
theorem zGx {α : Type} [Inhabited α] {enc : α → List AV} {l l' : List α} {n i : Nat} (hn : l.length = n) : q8 n (els enc l) (els enc l') i = els enc (l ++ l') i := by
 subst hn
 by_cases h : i < l.length
 ·rw [zDt h]; simp [els, yNt h]
 ·rw [zBv oq]; simp [els, yNu (show l.length ≤ i by omega)]
theorem zVu {α : Type} [Inhabited α] {enc : α → List AV} {l : List α} {x : α} {n i : Nat} {el : Nat → List AV} (hn : l.length = n) (hi : i < n + 1) (h : el 0 = enc x) : q8 n (els enc l) el i = els enc (l ++ [x]) i := by
 subst hn
 by_cases h' : i < l.length
 ·rw [zDt h']; simp [els, yNt h']
 ·rw [zBv oq, show i - l.length = 0 from by omega, h]; simp [els, yNu (show l.length ≤ i by omega), show i - l.length = 0 from by omega]
theorem zO {α : Type} [Inhabited α] {sz : Nat} {enc : α → List AV} (h : ∀ x, AV.freeL (enc x)) (l : List α) : (lA sz enc l).free := fun _ _ => h _
def iC (n : Int) : List AV := [.raw (.int .i64 n)]
def kC (k : IntKind) (n : Int) : List AV := [.raw (.int k n)]
def bC (b : Bool) : List AV := [.raw (.bool b)]
abbrev liA (l : List Int) : AV := lA 1 iC l

mutual
/-- What is free stands on no variable and no row. -/
theorem AV.sub_free {m n : Nat} : ∀ (x : AV), x.free → x.sub m n
 | .raw _, _ => trivial
 | .agg cs, h => AV.subL_free cs h
 | .tup cs, h => AV.subL_free cs h
 | .lst _ _ el, h => fun i hi => AV.subL_free (el i) (h i hi)
 | .elt cs _, h => AV.subL_free cs h
 | .box _ _, h => h.elim
 | .fn _ a b, h => ⟨AV.subL_free a h.1, AV.subL_free b h.2⟩
 | .row _ _, h => h.elim
 | .bsl _ _ _ _ _, h => h.elim
 | .ifc _ x, h => AV.sub_free x h
 | .ful x, h => AV.sub_free x h
theorem AV.subL_free {m n : Nat} : ∀ (xs : List AV), AV.freeL xs → AV.subL m n xs
 | [], _ => trivial
 | x :: xs, h => ⟨AV.sub_free x h.1, AV.subL_free xs h.2⟩
end
mutual
theorem AV.bel_free {m : Nat} : ∀ (x : AV), x.free → x.bel m
 | .raw _, _ => trivial
 | .agg cs, h => AV.belL_free cs h
 | .tup cs, h => AV.belL_free cs h
 | .lst _ _ el, h => fun i hi => AV.belL_free (el i) (h i hi)
 | .elt cs _, h => AV.belL_free cs h
 | .box _ _, h => h.elim
 | .fn _ a b, h => ⟨AV.belL_free a h.1, AV.belL_free b h.2⟩
 | .row _ _, h => h.elim
 | .bsl _ _ _ _ _, h => h.elim
 | .ifc _ x, h => AV.bel_free x h
 | .ful x, h => AV.bel_free x h
theorem AV.belL_free {m : Nat} : ∀ (xs : List AV), AV.freeL xs → AV.belL m xs
 | [], _ => trivial
 | x :: xs, h => ⟨AV.bel_free x h.1, AV.belL_free xs h.2⟩
end
mutual
theorem AV.rel_sub {G G' : Gh} {w : World} {m n : Nat} (h0 : ∀ b o, G.imm b o → G'.imm b o) (hb : ∀ (k x : Nat), k < m → G.bx[k]? = some x → G'.bx[k]? = some x) (hr : ∀ (k : Nat) (e : Nat × Value), k < n → G.rw[k]? = some e → G'.rw[k]? = some e) : ∀ (x : AV) (v : Value), x.sub m n → x.rel G w v → x.rel G' w v
 | .raw _, _, _, h => h
 | .agg cs, _, f, ⟨vs, e, h⟩ => ⟨vs, e, AV.relL_sub h0 hb hr cs vs f h⟩
 | .tup cs, _, f, ⟨vs, e, h⟩ => ⟨vs, e, AV.relL_sub h0 hb hr cs vs f h⟩
 | .lst sz n el, _, f, h => by
  obtain ⟨A, cap, e, h1, h2, h3⟩ := h
  refine ⟨A, cap, e, h1, h2, fun hn => ?_⟩
  obtain ⟨b, o, hA, h4⟩ := h3 hn
  refine ⟨b, o, hA, fun i hi => ?_⟩
  obtain ⟨vs, h5, h6, h7⟩ := h4 i hi
  exact ⟨vs, AV.relL_sub h0 hb hr (el i) vs (f i hi) h5, h6, fun j u hj => ⟨h0 _ _ (h7 j u hj).1, (h7 j u hj).2⟩⟩
 | .elt cs off, _, f, h => by
  obtain ⟨b, o, vs, e, h1, h2⟩ := h
  exact ⟨b, o, vs, e, AV.relL_sub h0 hb hr cs vs f h1, fun j u hj => ⟨h0 _ _ (h2 j u hj).1, (h2 j u hj).2⟩⟩
 | .box b off, _, f, h => by
  obtain ⟨blk, h1, h2⟩ := h
  exact ⟨blk, hb _ _ f h1, h2⟩
 | .fn _ first cap, _, f, h => by
  obtain ⟨fs, cs, e, h1, h2⟩ := h
  exact ⟨fs, cs, e, AV.relL_sub h0 hb hr first fs f.1 h1, AV.relL_sub h0 hb hr cap cs f.2 h2⟩
 | .row k n, _, f, h => by
  obtain ⟨e, h1, h2⟩ := h
  exact ⟨e, hr _ _ f h1, h2⟩
 | .bsl _ b off n cap, _, f, h => by
  obtain ⟨blk, A, h1, h2⟩ := h
  exact ⟨blk, A, hb _ _ f h1, h2⟩
 | .ifc t x, _, f, ⟨u, e, h⟩ => ⟨u, e, AV.rel_sub h0 hb hr x u f h⟩
 | .ful x, v, f, h => ⟨AV.rel_sub h0 hb hr x v f h.1, h.2⟩
theorem AV.relL_sub {G G' : Gh} {w : World} {m n : Nat} (h0 : ∀ b o, G.imm b o → G'.imm b o) (hb : ∀ (k x : Nat), k < m → G.bx[k]? = some x → G'.bx[k]? = some x) (hr : ∀ (k : Nat) (e : Nat × Value), k < n → G.rw[k]? = some e → G'.rw[k]? = some e) : ∀ (xs : List AV) (vs : List Value), AV.subL m n xs → AV.relL G w xs vs → AV.relL G' w xs vs
 | [], _, _, h => h
 | x :: xs, _, f, h => by
  obtain ⟨v, r, e, h1, h2⟩ := h
  exact ⟨v, r, e, AV.rel_sub h0 hb hr x v f.1 h1, AV.relL_sub h0 hb hr xs r f.2 h2⟩
end

def xD (bx : List (List AV)) (rw : List zV) (x y : AV) : Prop := ∀ (G : Gh) (w : World) (v : Value), xU G w bx rw → x.rel G w v → y.rel G w v
def xF (bx : List (List AV)) (rw : List zV) : List AV → List AV → Prop
 | [], [] => True
 | x :: xs, y :: ys => xD bx rw x y ∧ xF bx rw xs ys
 | _, _ => False
section sims
variable {bx : List (List AV)} {rw : List zV}
theorem Sim.s {x y : AV} (h : Sim x y) : xD bx rw x y := fun _ _ _ _ hr => h _ _ _ hr
theorem xD.refl (x : AV) : xD bx rw x x := (Sim.refl x).s
theorem xD.of_eq {x y : AV} (h : x = y) : xD bx rw x y := (Sim.of_eq h).s
theorem xD.int {k : IntKind} {a b : Int} (h : a = b) : xD bx rw (.raw (.int k a)) (.raw (.int k b)) := .of_eq (h ▸ rfl)
theorem xD.bool {a b : Bool} (h : a = b) : xD bx rw (.raw (.bool a)) (.raw (.bool b)) := .of_eq (h ▸ rfl)
theorem xD.rowN {k a b : Nat} (h : a = b) : xD bx rw (.row k a) (.row k b) := .of_eq (h ▸ rfl)
theorem xD.row {k n : Nat} {r : zV} {sz m : Nat} {el : Nat → List AV} (h : rw[k]? = some r) (h1 : n = r.n) (h2 : r.sz = sz) (h3 : r.n = m) (h4 : ∀ i, i < m → r.el i = el i) (h5 : 0 < sz := by first | decide | simp) : xD bx rw (.row k n) (.lst sz m el) := by
 subst h2; subst h3
 intro G w v hm hr
 exact Sim.lstE rfl h4 _ _ _ (xN (st := ⟨0, 0, [], bx, rw, ((0, []), [], true)⟩) hm (v := .row k n) (zTk h h5) h1 hr)
theorem xF.refl : ∀ (xs : List AV), xF bx rw xs xs
 | [] => trivial
 | x :: xs => ⟨xD.refl x, xF.refl xs⟩
theorem xF.of_eq {xs ys : List AV} (h : xs = ys) : xF bx rw xs ys := h ▸ xF.refl xs
theorem xF.rel {G : Gh} {w : World} (hm : xU G w bx rw) : ∀ {xs ys : List AV} {vs : List Value}, xF bx rw xs ys → AV.relL G w xs vs → AV.relL G w ys vs
 | [], [], _, _, h => h
 | x :: xs, y :: ys, _, s, ⟨v, r, e, h1, h2⟩ => ⟨v, r, e, s.1 _ _ _ hm h1, xF.rel hm s.2 h2⟩
 | [], _ :: _, _, s, _ => s.elim
 | _ :: _, [], _, s, _ => s.elim
theorem xD.tup {xs ys : List AV} (h : xF bx rw xs ys) : xD bx rw (.tup xs) (.tup ys) := fun _ _ _ hm ⟨vs, e, h1⟩ => ⟨vs, e, h.rel hm h1⟩
end sims
theorem yP.sims {st : ASt} {x r : AV} (h : xD st.bx st.rw x r) (hf : r.free) : yP st x r := fun G w v hm hr => AV.rel_free (G := G) (G' := ⟨G.all w, [], []⟩) (fun _ _ i => .inl i) _ _ hf (h G w v hm hr)
def zFg (bx : List (List AV)) (rw : List zV) : List (Nat × (Bool × AV)) → List (Nat × (Bool × AV)) → Prop
 | [], _ => True
 | (t, (c, x)) :: r, sl => (∃ y, yL t sl = some (c, y) ∧ xD bx rw y x) ∧ zFg bx rw r sl
theorem zFg.look {bx : List (List AV)} {rw : List zV} {t : Nat} {c : Bool} {x : AV} {sl : List (Nat × (Bool × AV))} : ∀ {sl' : List (Nat × (Bool × AV))}, zFg bx rw sl' sl → yL t sl' = some (c, x) → ∃ y, yL t sl = some (c, y) ∧ xD bx rw y x
 | (u, (c', x')) :: r, h, hl => by
  rw [zL] at hl
  split at hl
  ·rename_i e'; subst e'; cases hl; exact h.1
  ·exact zFg.look h.2 hl
def zC2 (bx : List (List AV)) (rw : List zV) : List (List AV) → List (List AV) → Prop
 | [], _ => True
 | c' :: r', c :: r => xF bx rw c c' ∧ zC2 bx rw r' r
 | _ :: _, [] => False
theorem zC2.get {bx : List (List AV)} {rw : List zV} : ∀ {b' b : List (List AV)} {k : Nat} {c' : List AV}, zC2 bx rw b' b → b'[k]? = some c' → ∃ c, b[k]? = some c ∧ xF bx rw c c'
 | c1 :: r', c :: r, 0, c', h, hk => by
  simp only [yMb, yMc] at hk
  subst hk; exact ⟨c, rfl, h.1⟩
 | c1 :: r', c :: r, k + 1, c', h, hk => zC2.get (k := k) h.2 (by simpa using hk)
 | _ :: _, [], _, _, h, _ => h.elim
 | [], _, k, _, _, hk => by simp at hk
theorem zC2.len {bx : List (List AV)} {rw : List zV} : ∀ {b' b : List (List AV)}, zC2 bx rw b' b → b'.length ≤ b.length
 | [], _, _ => yMh _
 | _ :: r', _ :: r, h => Nat.succ_le_succ (zC2.len h.2)
 | _ :: _, [], h => h.elim
def zBz (bx : List (List AV)) (rw : List zV) : List zV → List zV → Prop
 | [], _ => True
 | c' :: r', c :: r => (c.e = c'.e ∧ c.sz = c'.sz ∧ c.n = c'.n ∧ (c.sz = 0 → c.el = c'.el) ∧ ∀ q, q < c'.n → xF bx rw (c.el q) (c'.el q)) ∧ zBz bx rw r' r
 | _ :: _, [] => False
theorem zBz.get {bx : List (List AV)} {rw : List zV} : ∀ {b' b : List zV} {k : Nat} {c' : zV}, zBz bx rw b' b → b'[k]? = some c' → ∃ c, b[k]? = some c ∧ (c.e = c'.e ∧ c.sz = c'.sz ∧ c.n = c'.n ∧ (c.sz = 0 → c.el = c'.el) ∧ ∀ q, q < c'.n → xF bx rw (c.el q) (c'.el q))
 | c1 :: r', c :: r, 0, c', h, hk => by
  simp only [yMb, yMc] at hk
  subst hk; exact ⟨c, rfl, h.1⟩
 | c1 :: r', c :: r, k + 1, c', h, hk => zBz.get (k := k) h.2 (by simpa using hk)
 | _ :: _, [], _, _, h, _ => h.elim
 | [], _, k, _, _, hk => by simp at hk
theorem zBz.len {bx : List (List AV)} {rw : List zV} : ∀ {b' b : List zV}, zBz bx rw b' b → b'.length ≤ b.length
 | [], _, _ => yMh _
 | _ :: r', _ :: r, h => Nat.succ_le_succ (zBz.len h.2)
 | _ :: _, [], h => h.elim
def zFq (m n : Nat) : List (Nat × (Bool × AV)) → Prop
 | [] => True
 | (_, (_, x)) :: r => x.sub m n ∧ zFq m n r
theorem zFq.look {m n t : Nat} {c : Bool} {x : AV} : ∀ {sl : List (Nat × (Bool × AV))}, zFq m n sl → yL t sl = some (c, x) → x.sub m n
 | (u, (_, y)) :: r, h, hl => by
  rw [zL] at hl
  split at hl
  ·cases hl; exact h.1
  ·exact zFq.look h.2 hl
def zU3 (m n : Nat) : List (List AV) → Prop
 | [] => True
 | c :: r => AV.subL m n c ∧ zU3 m n r
theorem zU3.get {m n : Nat} : ∀ {bx : List (List AV)} {k : Nat} {cs : List AV}, zU3 m n bx → bx[k]? = some cs → AV.subL m n cs
 | c :: r, 0, cs, h, hk => by simp only [yMb, yMc] at hk; subst hk; exact h.1
 | c :: r, k + 1, cs, h, hk => zU3.get (k := k) h.2 (by simpa using hk)
 | [], k, _, _, hk => by simp at hk
def zU2 (m n : Nat) : List zV → Prop
 | [] => True
 | c :: r => (∀ q, q < c.n → AV.subL m n (c.el q)) ∧ zU2 m n r
theorem zU2.get {m n : Nat} : ∀ {rw : List zV} {k : Nat} {c : zV}, zU2 m n rw → rw[k]? = some c → ∀ q, q < c.n → AV.subL m n (c.el q)
 | c :: r, 0, cs, h, hk => by simp only [yMb, yMc] at hk; subst hk; exact h.1
 | c :: r, k + 1, cs, h, hk => zU2.get (k := k) h.2 (by simpa using hk)
 | [], k, _, _, hk => by simp at hk
theorem Sat.gen {P : Program} {C : Ctx P} {G : Gh} {a : Act} {w : World} {nt nb : Nat} {sl sl' : List (Nat × (Bool × AV))} {bx bx' : List (List AV)} {rw rw' : List zV} {ys : (Nat × List (List AV)) × List (List AV) × Bool} (h1 : zFg bx rw sl' sl) (h2 : zC2 bx rw bx' bx) (h3 : zBz bx rw rw' rw)
  (h4 : nb % 64 ≤ bx'.length ∧ nb / 64 ≤ rw'.length) (h5 : zFq bx'.length rw'.length sl' ∧ zU3 bx'.length rw'.length bx' ∧ zU2 bx'.length rw'.length rw') (hs : Sat C G a w ⟨nt, nb, sl, bx, rw, ys⟩) : Sat C ⟨G.imm, G.bx.take bx'.length, G.rw.take rw'.length⟩ a w ⟨nt, nb, sl', bx', rw', ys⟩ := by
 obtain ⟨c1, c2⟩ := hs.callers
 simp only at c1 c2
 have lb := h2.len
 have lr := h3.len
 have lB : G.bx.length = bx.length := hs.mem.lenB
 have lR : G.rw.length = rw.length := hs.mem.lenR
 have tb : ∀ (k x : Nat), (G.bx.take bx'.length)[k]? = some x → G.bx[k]? = some x ∧ k < bx'.length := fun k x hx => by
  rw [yMg] at hx
  split at hx
  ·rename_i h; exact ⟨hx, h⟩
  ·cases hx
 have tr : ∀ (k : Nat) (x : Nat × Value), (G.rw.take rw'.length)[k]? = some x → G.rw[k]? = some x ∧ k < rw'.length := fun k x hx => by
  rw [yMg] at hx
  split at hx
  ·rename_i h; exact ⟨hx, h⟩
  ·cases hx
 have ub : ∀ (k x : Nat), k < bx'.length → G.bx[k]? = some x → (G.bx.take bx'.length)[k]? = some x := fun k x hk hx => by rw [yMg, if_pos hk]; exact hx
 have ur : ∀ (k : Nat) (x : Nat × Value), k < rw'.length → G.rw[k]? = some x → (G.rw.take rw'.length)[k]? = some x := fun k x hk hx => by rw [yMg, if_pos hk]; exact hx
 have up : ∀ (x : AV) (v : Value), x.sub bx'.length rw'.length → x.rel G w v → x.rel ⟨G.imm, G.bx.take bx'.length, G.rw.take rw'.length⟩ w v := fun x v hx hr => AV.rel_sub (G := G) (G' := ⟨G.imm, G.bx.take bx'.length, G.rw.take rw'.length⟩) (fun _ _ i => i) ub ur x v hx hr
 have upL : ∀ (xs : List AV) (vs : List Value), AV.subL bx'.length rw'.length xs → AV.relL G w xs vs → AV.relL ⟨G.imm, G.bx.take bx'.length, G.rw.take rw'.length⟩ w xs vs := fun x v hx hr => AV.relL_sub (G := G) (G' := ⟨G.imm, G.bx.take bx'.length, G.rw.take rw'.length⟩) (fun _ _ i => i) ub ur x v hx hr
 obtain ⟨D, hD⟩ := hs.env
 refine ⟨hs.size, hs.callers, hs.frame, ⟨hs.le.imm, hs.le.cell, fun k x hx => ub k x ?_ (hs.le.bx k x hx), fun k e he => ?_⟩, hs.fresh, fun blk hb => hs.ownB blk (yO8 hb), fun x hx => hs.ownR x (yO8 hx),
  ⟨D, hD.l, hD.cons, hD.sub, hD.lt, fun k hk => hD.bx k (yO8 hk), fun x hx => hD.rw x (yO8 hx), hD.imm, hD.marks, hD.record⟩, ⟨hs.mem.immOk, ?_, ?_, hs.mem.nodup.sublist (List.take_sublist _ _), fun k cs blk hk hg => ?_, fun k r x hk hg => ?_, fun k x g hk hg hm => ?_, fun k k' x x' g hk hk' hx hx' => ?_⟩, fun t c x hl => ?_⟩
 ·have := (yNd.1 hx).1; omega
 ·obtain ⟨e', q1, q2⟩ := hs.le.rw k e he
  exact ⟨e', ur k e' (by have := (yNd.1 he).1; omega) q1, q2⟩
 ·show (G.bx.take bx'.length).length = bx'.length
  simp only [yOt]; omega
 ·show (G.rw.take rw'.length).length = rw'.length
  simp only [yOt]; omega
 ·obtain ⟨hg', _⟩ := tb k blk hg
  obtain ⟨c, e1, e2⟩ := h2.get hk
  obtain ⟨i1, vs, T, i2, i3⟩ := hs.mem.box k c blk e1 hg'
  exact ⟨i1, vs, T, i2, upL _ _ (h5.2.1.get hk) (e2.rel hs.mem i3)⟩
 ·obtain ⟨hg', _⟩ := tr k x hg
  obtain ⟨c, e1, q1, q2, q3, q5, q4⟩ := h3.get hk
  have ro := hs.mem.row k c x e1 hg'
  obtain ⟨xs, o1, o2⟩ := ro.own
  refine ⟨ro.len.trans q3, ⟨xs, o1.like q1 q2 q3 q5, fun i hi => ?_⟩, by rw [← q2, ← q3]; exact ro.imm⟩
  obtain ⟨vs, p1, p2, p3⟩ := o2 i oq
  exact ⟨vs, upL _ _ (h5.2.2.get hk i hi) ((q4 i hi).rel hs.mem p1), by rw [← q2]; exact p2, by rw [← q2]; exact p3⟩
 ·exact hs.mem.sepB k x g (tr k x hk).1 hg (yO8 hm)
 ·exact hs.mem.sepR k k' x x' g (tr k x hk).1 (tr k' x' hk').1 hx hx'
 ·obtain ⟨y, q1, q2⟩ := h1.look hl
  obtain ⟨v, e1, e2, e3⟩ := hs.slot t c y q1
  exact ⟨v, e1, fun hc => up x v (h5.1.look hl) (q2 G w v hs.mem (e2 hc)), e3⟩
theorem xT.gen {nt nb : Nat} {sl sl' : List (Nat × (Bool × AV))} {bx bx' : List (List AV)} {rw rw' : List zV} {ys : (Nat × List (List AV)) × List (List AV) × Bool} (h1 : zFg bx rw sl' sl) (h2 : zC2 bx rw bx' bx) (h3 : zBz bx rw rw' rw)
  (h4 : nb % 64 ≤ bx'.length ∧ nb / 64 ≤ rw'.length) (h5 : zFq bx'.length rw'.length sl' ∧ zU3 bx'.length rw'.length bx' ∧ zU2 bx'.length rw'.length rw') : xT ⟨nt, nb, sl, bx, rw, ys⟩ ⟨nt, nb, sl', bx', rw', ys⟩ :=
 fun _ _ _ _ _ hs => ⟨_, hs.gen h1 h2 h3 h4 h5⟩
def u8C (b : UInt8) : List AV := [.raw (.int .u8 (b.toNat : Int))]
def sA (l : List UInt8) : AV := .raw (.string ⟨l.toArray⟩)
@[simp] theorem yFx {α : Type} [Inhabited α] {enc : α → List AV} (h : ∀ x, AV.freeL (enc x)) (l : List α) (i : Nat) : AV.freeL (els enc l i) := h _
@[simp] theorem yL9 (n : Int) : AV.freeL (iC n) := ⟨trivial, trivial⟩
@[simp] theorem yL5 (k : IntKind) (n : Int) : AV.freeL (kC k n) := ⟨trivial, trivial⟩
@[simp] theorem yLu (b : Bool) : AV.freeL (bC b) := ⟨trivial, trivial⟩
@[simp] theorem yCs (b : UInt8) : AV.freeL (u8C b) := ⟨trivial, trivial⟩
@[simp] theorem yKw (l : List UInt8) : (sA l).free := trivial
def sC (l : List UInt8) : List AV := [sA l]
@[simp] theorem yKu (l : List UInt8) : AV.freeL (sC l) := ⟨trivial, trivial⟩
theorem zUi (s : ByteArray) : zL1 s = els u8C s.data.toList := by
 funext q; simp [zL1, els, u8C]; rfl
@[go_sem] theorem yCt (l : List UInt8) : zL1 ⟨l.toArray⟩ = els u8C l := zUi _
@[simp, go_sem] theorem zMw (l : List UInt8) : (⟨l.toArray⟩ : ByteArray).size = l.length := by simp [ByteArray.size]
@[simp] theorem zGc (n : Nat) (el : Nat → List AV) : (zOu n el).size = n := by simp [zOu, strOfNums_size]
theorem zXn {p : Prop} (h : p := by
  first
   | exact xD.refl _
   | (refine xD.int ?_; first | rfl | omega | (simp; done) | (simp; omega))
   | (refine xD.bool ?_; first | rfl | (simp; done) | (simp; omega))
   | exact (Sim.nil rfl).s
   | (refine xD.rowN ?_; first | rfl | omega | (simp; done) | (simp; omega))
   | exact xD.row rfl rfl rfl rfl (fun _ _ => rfl)
   | exact xF.refl _
   | (refine xF.of_eq ?_; first | rfl | (simp; done))
   | trivial) : p := h
theorem vV {p : Prop} (h : p := by
  first
   | exact zB8.refl _
   | ((repeat' apply And.intro) <;> first
    | trivial
    | exact Sim.refl _
    | exact Sim.nil rfl
    | (refine Sim.lstE ?_ ?_ <;> first | rfl | (simp [lA]; done) | (simp; done) | (simp; omega) | (intro i hi; first | rfl | (simp [els]; done) | exact zGx rfl)))) : p := h
theorem zVf (l : List UInt8) (i : Nat) : yD2 (els u8C l i) := trivial
theorem zVe {k : Int} {i : Nat} (h : i < 1) : yD2 (zU 1 [.raw (.int .u8 k)] i) := by
 obtain rfl : i = 0 := by omega
 trivial
theorem zZs {p : Prop} (h : p := by
  first
   | (intro hg; refine ⟨by simp, by first | trivial | (simp; done) | (simp_all; done), by first | trivial | (simp; done), fun i hi => ?_⟩; first | exact zVf _ _ | exact zVe hi)
   | (intro hg; simp only [sA, zGc, zMw, ByteArray.size_append] at hg ⊢; omega)
   | (intro hg; simp [sA, zGc, zMw, ByteArray.size_append] at hg ⊢; omega)) : p := h
@[go_sem] theorem zA8 (l : List Int) (k : Nat) : l.getD k default = l.getD k 0 := rfl
@[go_sem] theorem yLa (l : List UInt8) (k : Nat) : l.getD k default = l.getD k 0 := rfl
attribute [go_sem] els lA iC kC bC u8C sA sC List.size_toArray
end Go.Proofs.YtioaahmkebojiaaGreatDoor
