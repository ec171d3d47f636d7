import Derived.Test.YtioaahmkebojiaaGreatDoorWC01
import Derived.Test.YtioaahmkebojiaaGreatDoorWC29
namespace Go.Proofs.YtioaahmkebojiaaGreatDoor
set_option linter.unusedVariables false
set_option linter.unusedSimpArgs false
set_option maxHeartbeats 4000000
set_option maxRecDepth 100000
set_option linter.unusedSectionVars false
open Go.RowKit
variable [SpT]
section
variable {P : Program} {T : TT} {φ : Phi} {w0 : FW} {w : World} {a : Act} {sl : CS} {h : CH} {nx : Nat}
theorem zLx (hT : TOk P T) (hs : HS P w0 φ h nx w) {t e s1 b1 : Nat} {z1 : List Value} {q1 : List CK} (h2 : T t = some ⟨.slice e, s1, b1, z1, q1⟩) {j : TI} (h3 : T e = some j) (j0 : 0 < j.size) (jz : j.zero.length = j.size)
  {A : Option Addr} {n cap m t' : Nat} {olds news : List Value} {co cn : List CV} (ho : olds.length = n * j.size) (hold : (Builtin.firstCells j.size n (.slice A n cap)).run P w.drew = .ok olds.toArray w.drew) {y : Value} (hsr : Src P j.size t' y m news w)
  (hr : CV.relL φ w co olds) (hr2 : CV.relL φ w cn news) (hg : cap < n + m) (hf : zPp (n + m) j = true) (ty : Nat) :
  ∃ v φ' w', (Builtin.append_ #[t, t'] ty #[.slice A n cap, y]).run P w = .ok v w' ∧ y0 φ w φ' w' ∧ HS P w0 φ' (h.put nx (some (.cells false (co ++ cn)))) (nx + 1) w' ∧ (CV.bsl j.size nx 0 (n + m) none).rel φ' w' v := by
 rw [zPp, yNj] at hf
 have f1 := yP8 hf.1
 have f2 := yP8 hf.2
 have hu := kR hT h2
 obtain ⟨ie, z, g2', g1', g3, g4, e2⟩ := zCq hT h3
 have hv := hsr.newsLen
 have hrun := run_append_grow_src (P := P) w t t' ty e ie z hu g2' g3 A n cap olds (by rw [g1']; exact hold) y m news (by rw [g1']; exact hsr) hg (by simp only [maxLen] at f1; omega) (growslice_fits hg (by rw [g4]; exact f2))
 have hge := grownCap_ge w (n + m) cap e
 have hcmx : grownCap w (n + m) cap e ≤ maxLen := grownCap_le_maxLen w (n + m) cap e f1
 generalize grownCap w (n + m) cap e = c at *
 have harr : (olds ++ news).toArray ++ Builtin.zeroCells z.cells (c - (n + m)) = ((olds ++ news) ++ yT (c - (n + m)) j.zero).toArray := by
  apply Array.ext'
  simp [xZ, e2]
 rw [harr] at hrun
 have hb1 : Below w.heap.size w w.drew := (Below.refl _ _).drew
 obtain ⟨E1, hs1⟩ := hs.same hb1
 have hsz : w.drew.heap.size = w.heap.size := rfl
 obtain ⟨φ', E2, hn, hs2⟩ := hs1.push (vM w.drew (.cells ((olds ++ news) ++ yT (c - (n + m)) j.zero).toArray e)) (zAa _ _) (blk := .cells false (co ++ cn)) fun φ' E => ⟨olds ++ news, _, e, heap_alloc_new w.drew _, CV.relL_append (CV.relL_mono (E1.trans E) _ _ hr) (CV.relL_mono (E1.trans E) _ _ hr2), fun h => by cases h⟩
 refine ⟨_, φ', _, hrun, E1.trans E2, hs2, w.heap.size, c, _, hn, rfl, hge, hcmx, fun _ => rfl, ?_, fun _ h => by cases h⟩
 have := zMh w.drew ((olds ++ news) ++ yT (c - (n + m)) j.zero) e
 rw [hsz] at this
 rw [this, yN1, yN1, yQ, jz, ho, hv, ← yN4, ← yN4]
 rw [show n + m + (c - (n + m)) = c by omega]
 omega
theorem zWc {t : Nat} {x r : CV} {src : Option (Nat × Nat × List CV)} {es : List (Nat × Option CB)} {nx' s' m : Nat} {us : List CV} (he : zZe T h nx t x src = some (r, es, nx')) (hs : src = some (s', m, us)) (hm : 0 < m) : vB us = true := by
 subst hs
 unfold zZe at he
 split at he
 ·split at he
  ·rename_i j _ _ _ h3 h4
   cases h4
   cases hm' : Nat.beq m 0 with
   | true => have := yMs hm'; omega
   | false =>
    rw [hm'] at he
    simp only [yN5] at he
    cases hb : (Nat.beq s' j.size && Nat.blt 0 j.size && Nat.beq j.zero.length j.size && vB us) with
    | false => rw [hb] at he; cases he
    | true => rw [yNj] at hb; exact hb.2
  ·cases he
 ·cases he
structure yM1 (P : Program) (φ : Phi) (w : World) (t' : Nat) (v : Value) (s' m : Nat) (us : List CV) : Prop where
 kind : (∃ e', P.underlying t' = some (.slice e')) ∨ P.underlying t' = some .string
 none : m = 0 → (∀ w', (Builtin.lenOf v).run P w' = .ok 0 w') ∧ ∀ size w', (Builtin.firstCells size 0 v).run P w' = .ok #[] w'
 some : 0 < m → 0 < s' → ∃ news, Src P s' t' v m news w ∧ CV.relL φ w us news
theorem zKb (hT : TOk P T) (hs : HS P w0 φ h nx w) {t t' : Nat} {x r : CV} {src : Option (Nat × Nat × List CV)} {es : List (Nat × Option CB)} {nx' : Nat} (he : zZe T h nx t x src = some (r, es, nx')) {u v : Value} (hx : x.rel φ w u)
  (hy : ∀ s' m us, src = some (s', m, us) → yM1 P φ w t' v s' m us) (ty : Nat) :
  ∃ q φ' w', (Builtin.append_ #[t, t'] ty #[u, v]).run P w = .ok q w' ∧ y0 φ w φ' w' ∧ HS P w0 φ' (apH h es) nx' w' ∧ r.rel φ' w' q := by
 unfold zZe at he
 split at he
 ·rename_i e s1 b1 z1 q1 h2
  have hu := kR hT h2
  split at he
  ·rename_i j s' m us h3
   obtain ⟨ie, z, g2', g1', g3, g4, e2⟩ := zCq hT h3
   cases hm : Nat.beq m 0 with
   | true =>
    rw [hm] at he
    simp only [yMq] at he
    obtain rfl := yMs hm
    have sk := hy _ _ _ rfl
    obtain ⟨hlen, h0⟩ := sk.none rfl
    have h0 := h0 ie.size w
    split at he
    ·cases he
     have hx' : u = .slice none 0 0 := hx
     subst hx'
     exact ⟨_, φ, w, by rcases sk.kind with ⟨e', hk⟩ | hk <;> simp [Builtin.append_, run_underlying hu, run_underlying hk, hlen, sizeOf, typeInfo, g2', h0], y0.refl _ _, hs, rfl⟩
    ·cases he
     obtain ⟨b, c', p, k1, rfl, k3, k4⟩ := id hx
     have hst : ∀ q : Addr, (storeCells q [] : Sem Unit).run P w = .ok () w := fun _ => rfl
     exact ⟨_, φ, w, by rcases sk.kind with ⟨e', hk⟩ | hk <;> simp [Builtin.append_, run_underlying hu, run_underlying hk, hlen, sizeOf, typeInfo, g2', h0, k3, hst], y0.refl _ _, hs, hx⟩
    ·cases he
   | false =>
    rw [hm] at he
    simp only [yN5] at he
    have hm0 : 0 < m := Nat.pos_of_ne_zero fun e => by subst e; cases hm
    cases hb : (Nat.beq s' j.size && Nat.blt 0 j.size && Nat.beq j.zero.length j.size && vB us) with
    | false => rw [hb] at he; cases he
    | true =>
     rw [hb] at he
     simp only [yMq] at he
     rw [yNj, yNj, yNj] at hb
     obtain ⟨⟨⟨c1, c2⟩, c3⟩, c4⟩ := hb
     have c1 := yMs c1
     have c2 := yY c2
     have c3 := yMs c3
     subst c1
     have sk := hy _ _ _ rfl
     obtain ⟨news, hsr, n2⟩ := sk.some hm0 c2
     have n1 := hsr.newsLen
     have hone := vJ c4 n2
     split at he
     ·cases hf : zPp m j with
      | false => rw [hf] at he; cases he
      | true =>
       rw [hf] at he
       cases he
       rw [show u = _ from hx]
       have := zLx hT hs h2 h3 c2 c3 (A := none) (n := 0) (cap := 0) (olds := []) (co := []) sq (by simp [run_firstCells_none]) hsr rfl n2 oq (by rw [yN9]; exact hf) ty
       rw [yN9] at this
       exact this
     ·rename_i s k off n cap
      split at he
      ·rename_i full cs h5
       cases hb2 : (Nat.beq s j.size && zPp (n + m) j) with
       | false => rw [hb2] at he; cases he
       | true =>
        rw [hb2] at he
        simp only [yMq] at he
        rw [yNj] at hb2
        obtain ⟨d1, d2⟩ := hb2
        obtain rfl := yMs d1
        obtain ⟨b, c, p0, k1, rfl, k3, k4, k5, k6, k7⟩ := hx
        obtain ⟨b', i1, i2, vs, tail, E, i3, i4, i5⟩ := hs.heap.here k _ h5
        rw [k1] at i1
        cases i1
        have l1 := CV.relL_length i4
        have hnc : n * j.size ≤ c * j.size := yNe _ k3
        have inplace : n + m ≤ c → off + (n + m) * j.size ≤ bsz w b → ∀ (w' : World), (storeCells ⟨b, off + n * j.size, none⟩ news).run P w = .ok () w' → (Builtin.append_ #[t, t'] ty #[.slice (some p0) n c, v]).run P w = .ok (.slice (some ⟨b, off, none⟩) (n + m) c) w' := fun hr _ w' hst => by
         have hf := hsr.cells
         have hlen := hsr.len
         rw [k5 oq]
         rcases sk.kind with ⟨e', hk⟩ | hk <;> simp [Builtin.append_, run_underlying hu, run_underlying hk, hlen, sizeOf, typeInfo, g2', g1', hf, hr, add_lit, hst]
        have hold : off + n * j.size ≤ cs.length → (Builtin.firstCells j.size n (.slice (some p0) n c)).run P w.drew = .ok ((vs.drop off).take (n * j.size)).toArray w.drew := fun hle => by
         refine run_firstCells_some (P := P) w.drew j.size n p0 n c _ (by simp; omega) (fun q u hq => ?_)
         rw [yMg] at hq
         split at hq
         ·rw [yMf] at hq
          have hn0 : 0 < n := Nat.pos_of_ne_zero fun e => by subst e; omega
          rw [k5 oq, add_lit]
          have := qX i3 (k := off + q) (u := u) (by rw [yNt (yNd.1 hq).1]; exact hq)
          simpa using this
         ·cases hq
        cases cap with
        | some c0 =>
         have := k7 c0 rfl
         subst this
         simp only at he
         cases hr : Nat.ble (n + m) c with
         | true =>
          rw [hr] at he
          simp only [yMq] at he
          have hr := yP8 hr
          cases hl : Nat.ble (off + (n + m) * j.size) cs.length with
          | false => rw [hl] at he; cases he
          | true =>
           rw [hl] at he
           cases he
           have hl := yP8 hl
           have l2 := CV.relL_length n2
           rw [yN4] at hl
           obtain ⟨w', e8, e9, e10⟩ := zDn hs h5 k1 (off := off + n * j.size) (us := us) oq n2 hone
           have hz := (e9 _ _ k1).2.le
           exact ⟨_, φ, w', inplace hr (by rw [xA i3]; simp; rw [yN4]; omega) w' e8, e9, e10, b, c, _, k1, rfl, hr, k4, fun _ => rfl, by omega, fun q hq => by cases hq; rfl⟩
         | false =>
          rw [hr] at he
          simp only [yN5] at he
          have hr : c < n + m := by
           rcases yMn c (n + m) with h6 | h6
           ·exact h6
           ·rw [yPs h6] at hr; cases hr
          cases hl : Nat.ble (off + n * j.size) cs.length with
          | false => rw [hl] at he; cases he
          | true =>
           rw [hl] at he
           cases he
           have hl := yP8 hl
           exact zLx hT hs h2 h3 c2 c3 (by simp; omega) (hold hl) hsr (CV.relL_take _ (CV.relL_drop _ i4)) n2 hr d2 ty
        | none =>
         simp only at he
         cases hl : (!full && Nat.beq off 0 && Nat.beq (n * j.size) cs.length) with
         | false => rw [hl] at he; cases he
         | true =>
          rw [hl] at he
          cases he
          rw [yNj, yNj, yNl] at hl
          obtain ⟨⟨f1, f2⟩, f3⟩ := hl
          obtain rfl := yMs f2
          have f3 := yMs f3
          subst f1
          have l2 := CV.relL_length n2
          have hkn := hs.lt h5
          by_cases hr : n + m ≤ c
          ·have hmle : (n + m) * j.size ≤ c * j.size := yNe _ hr
           have hz : bsz w b = (vs ++ tail).length := by rw [xA i3]; rfl
           rw [yN4] at hmle
           have hfit : n * j.size + news.length ≤ (vs ++ tail).length := by omega
           obtain ⟨w', e8, e9⟩ := kQ (P := P) (off := n * j.size) (us := news) i3 hfit hone
           have hp : wT (vs ++ tail) (n * j.size) news = (vs ++ news) ++ tail.drop news.length := by
            rw [zEd _ _ _ hfit, List.take_left' oq, ← List.drop_drop, List.drop_left' oq, yOs]
           rw [hp] at e9
           have hz2 : szK w w' b := .inr <| by
            rw [hz, xA e9.here]
            simp only [yN1, yOu, yNx] at hfit ⊢
            omega
           obtain ⟨E1, s1⟩ := hs.stored h5 k1 ⟨e9.os, e9.tape, e9.output⟩ e9.size e9.other hz2 (blk' := .cells false (cs ++ us)) fun E' => ⟨vs ++ news, tail.drop news.length, E, e9.here, CV.relL_append (CV.relL_mono E' _ _ i4) (CV.relL_mono E' _ _ n2), fun h => by cases h⟩
           obtain ⟨E2, s2⟩ := s1.move (Tr.get_same _ _ _) k1
           refine ⟨_, _, w', inplace hr (by rw [yN4]; omega) w' (by rw [yN9]; exact e8), E1.trans E2, s2.congr fun q => ?_, b, c, _, z8 _ _ _, rfl, hr, k4, fun _ => rfl, by have := hz2.le; omega, fun q hq => by cases hq⟩
           simp only [apH, Tr.get_put]
           cases Nat.beq q nx <;> cases Nat.beq q k <;> rfl
          ·obtain ⟨q, φ', w', r1, r2, r3, r4⟩ := zLx hT hs h2 h3 c2 c3 (by simp; omega) (hold oq) hsr (CV.relL_take _ (CV.relL_drop _ i4)) n2 oq d2 ty
           rw [List.drop_zero, List.take_of_length_le oq] at r3
           refine ⟨q, φ', w', r1, r2, (r3.drop k).congr fun q => ?_, r4⟩
           simp only [apH, Tr.get_put]
           cases hq1 : Nat.beq q nx <;> cases hq2 : Nat.beq q k <;> try rfl
           rw [← yMs hq1, yMs hq2] at hkn
           omega
      ·cases he
     ·cases he
  ·cases he
 ·cases he
theorem zZ2 (hT : TOk P T) (hs : HS P w0 φ h nx w) {t t' : Nat} {x y r : CV} {es : List (Nat × Option CB)} {nx' : Nat} (he : zZ3 T h nx t x y = some (r, es, nx')) {u v : Value} (hx : x.rel φ w u) (hy : y.rel φ w v) (ty : Nat) :
  ∃ q φ' w', (Builtin.copy_ #[t, t'] ty #[u, v]).run P w = .ok q w' ∧ y0 φ w φ' w' ∧ HS P w0 φ' (apH h es) nx' w' ∧ r.rel φ' w' q := by
 unfold zZ3 at he
 split at he
 ·rename_i e s1 b1 z1 q1 h2
  have hu := kR hT h2
  split at he
  ·rename_i j s' m us s k off n cap h3 h4
   obtain ⟨ie, z, g2', g1', g3, g4, e2⟩ := zCq hT h3
   split at he
   ·rename_i full cs h5
    obtain ⟨b, c, p0, k1, rfl, k3, k4, k5, k6, k7⟩ := hx
    have hv : ∃ A c, v = .slice A m c := by
     unfold zXk at h4
     split at h4
     ·split at h4
      ·cases hb : Nat.ble (_ + _) _ with
       | false => rw [hb] at h4; cases h4
       | true =>
        rw [hb] at h4; cases h4
        obtain ⟨b, c, p, _, rfl, _⟩ := hy
        exact ⟨_, _, rfl⟩
      ·cases h4
     ·cases h4; exact ⟨_, _, hy⟩
     ·cases h4
    cases hm : Nat.beq (min m n) 0 with
    | true =>
     rw [hm] at he
     cases he
     have hm := yMs hm
     obtain ⟨A, c', rfl⟩ := hv
     have h0 : (Builtin.firstCells ie.size 0 (.slice A m c')).run P w = .ok #[] w := by
      cases A with
      | none => simp [run_firstCells_none]
      | some A => exact run_firstCells_some w ie.size 0 A m c' [] sq (fun q u hq => by simp at hq)
     have hmn : Nat.min m n = 0 := hm
     have hst : (storeCells p0 [] : Sem Unit).run P w = .ok () w := rfl
     exact ⟨goInt 0, φ, w, by simp [Builtin.copy_, run_underlying hu, Builtin.lenOf, sizeOf, typeInfo, g2', hmn, h0, hst], y0.refl _ _, hs, rfl⟩
    | false =>
     rw [hm] at he
     simp only [yN5] at he
     have hm0 : 0 < min m n := Nat.pos_of_ne_zero fun e => by rw [e] at hm; cases hm
     cases hb : (Nat.beq s j.size && Nat.beq s' j.size && Nat.blt 0 j.size && vB us && Nat.ble (off + n * s) cs.length) with
     | false => rw [hb] at he; cases he
     | true =>
      rw [hb] at he
      cases he
      rw [yNj, yNj, yNj, yNj] at hb
      obtain ⟨⟨⟨⟨c1, c2⟩, c3⟩, c4⟩, c5⟩ := hb
      obtain rfl := yMs c1
      have c2 := yMs c2
      subst c2
      have c3 := yY c3
      have c5 := yP8 c5
      obtain ⟨p, cp, news, rfl, n1, n2, n3⟩ := zCe hs h4 oq hy c3
      have hone := vJ c4 n2
      have l2 := CV.relL_length n2
      have hkn : min m n * j.size ≤ n * j.size := yNe _ (Nat.min_le_right _ _)
      have hkm : min m n * j.size ≤ m * j.size := yNe _ (Nat.min_le_left _ _)
      obtain ⟨w', e8, e9, e10⟩ := zDn hs h5 k1 (off := off) (us := us.take (min m n * j.size)) (by simp; omega) (CV.relL_take _ n2) (fun u hu => hone u (yO8 hu))
      have hf := run_firstCells_some (P := P) w j.size (min m n) p m cp (news.take (min m n * j.size)) (by simp; omega) (fun q u hq => by
       rw [yMg] at hq
       split at hq
       ·exact n3 q u hq
       ·cases hq)
      have hmn : Nat.min m n = min m n := rfl
      refine ⟨goInt (min m n : Nat), φ, w', ?_, e9, e10, rfl⟩
      rw [k5 oq]
      simp [Builtin.copy_, run_underlying hu, Builtin.lenOf, sizeOf, typeInfo, g2', g1', hmn, hf, e8]
   ·cases he
  ·cases he
 ·cases he
theorem zJ5 {α : Type} : ∀ (n : Nat) (l : List α), wT l n ([] : List α) = l
 | 0, l => by cases l <;> rfl
 | n + 1, l => by cases l <;> simp [wT, zJ5 n]
theorem zO0 {d : IntKind} {a : Int} : ∀ {l : List (Value × Value)} {i : Nat} {j : Nat} {v : Value}, zPr d a l i = some (some (j, v)) → i ≤ j ∧ l[j - i]? = some (.int d a, v)
 | [], i, j, v, h => by cases h
 | x :: l, i, j, v, h => by
  unfold zPr at h
  split at h
  ·cases ‹_ :: _ = []›
  ·rename_i i k b u r' hx
   simp only [yOy] at hx
   obtain ⟨rfl, rfl⟩ := hx
   cases hk : kEq d k with
   | false => rw [hk] at h; cases h
   | true =>
    rw [hk] at h
    have hdk : d = k := yPn hk
    simp only [yMq, wA] at h
    by_cases hab : a = b
    ·subst hab; subst hdk
     simp only [decide_true, yMq, yMc, yMu] at h
     obtain ⟨rfl, rfl⟩ := h
     simp
    ·simp only [hab, decide_false, yN5] at h
     obtain ⟨h1, h2⟩ := zO0 h
     refine ⟨by omega, ?_⟩
     obtain ⟨d, rfl⟩ := Nat.le.dest h1
     rw [yOz] at h2
     rw [show ∀ x : Nat, x + 1 + d - x = d + 1 from fun x => by omega, yMd]
     exact h2
  ·cases h
theorem zNx {a b : Int} : ∀ {l : List (Value × Value)} {i : Nat} {j : Nat} {v : Value}, zPq a b l i = some (some (j, v)) → i ≤ j ∧ l[j - i]? = some (.agg #[.int .i64 a, .int .i64 b], v)
 | [], i, j, v, h => by cases h
 | x :: l, i, j, v, h => by
  unfold zPq at h
  split at h
  ·cases ‹_ :: _ = []›
  ·rename_i i x y u r' hx
   simp only [yOy] at hx
   obtain ⟨rfl, rfl⟩ := hx
   rw [wA, wA] at h
   by_cases hab : a = x ∧ b = y
   ·obtain ⟨rfl, rfl⟩ := hab
    simp only [decide_true, Bool.and_self, yMq, yMc, yMu] at h
    obtain ⟨rfl, rfl⟩ := h
    simp
   ·have h2 : (decide (a = x) && decide (b = y)) = false := by
     rw [Bool.eq_false_iff]
     simpa using hab
    rw [h2] at h
    simp only [yN5] at h
    obtain ⟨h1, h2⟩ := zNx h
    refine ⟨by omega, ?_⟩
    obtain ⟨d, rfl⟩ := Nat.le.dest h1
    rw [yOz] at h2
    rw [show ∀ x : Nat, x + 1 + d - x = d + 1 from fun x => by omega, yMd]
    exact h2
  ·cases h
theorem zVo {kt : Nat} {key : Value} {l : List (Value × Value)} {j : Nat} {v : Value} (h : zFy T kt key l = some (some (j, v))) : l[j]? = some (key, v) := by
 unfold zFy at h
 split at h
 ·split at h
  ·exact (zO0 h).2
  ·cases h
 ·cases hp : zEq T kt with
  | false => rw [hp] at h; cases h
  | true => rw [hp] at h; exact (zNx h).2
 ·cases h
theorem zOn (hT : TOk P T) {t kt et b ck : Nat} {es : Array MapEntry} {l : List (Value × Value)} {kv vv : Value} {res : Option (Nat × Value)} (ht : P.underlying t = some (.map kt et)) (e3 : w.heap[b]? = some (.map es ck)) (e4 : (es.toList.map fun e => (e.key, e.val)) = l) (hf : zFy T kt kv l = some res) :
  ∃ (es' : Array MapEntry) (ck' : Nat), (Instr.mapUpdate t (.map (some b)) kv vv).run P w = .ok () (w.putObj b (.map es' ck')) ∧ (es'.toList.map fun e => (e.key, e.val)) = zOo l kv vv res := by
 obtain ⟨hF, hK, hS⟩ := zNy hT hf
 have hff := hF w es.toList e4
 have hput : ∀ o, (setObj b o).run P w = .ok () (w.putObj b o) := fun o => by rw [zL4 o e3]; rfl
 unfold Instr.mapUpdate
 simp only [Sem.run_bind, run_underlying ht, Result.andThen_ok, zHt e3, hK _ w, hff]
 cases res with
 | none =>
  refine ⟨es.push { key := kv, val := vv, born := ck }, ck + 1, by simp only [hput], ?_⟩
  simp [zOo, e4]
 | some q =>
  obtain ⟨i, v⟩ := q
  have hi := zVo hf
  rw [← e4, yNg] at hi
  obtain ⟨en, hen, hkv⟩ := yMx.1 hi
  rw [yNv] at hen
  have hkey : ((es[i]?).map (·.key)).getD kv = kv := by rw [hen]; exact congrArg Prod.fst hkv
  have hlt : i < es.size := (yMi.1 hen).1
  refine ⟨es.modify i fun e => { e with key := kv, val := vv }, ck, by simp only [Sem.run_bind, hkey, Instr.keyThatStays, hS, if_true, Sem.run_pure, Result.andThen_ok, hput], ?_⟩
  rw [zOo, ← e4]
  refine List.ext_getElem? fun j => ?_
  rw [yNg, List.getElem?_set, yNv, Array.getElem?_modify, yO7, yNn, yNg, yNv]
  by_cases hij : i = j
  ·subst hij
   rw [if_pos rfl, if_pos rfl, if_pos hlt, hen]
   rfl
  ·rw [if_neg hij, if_neg hij]
theorem zWi (hT : TOk P T) (hs : HS P w0 φ h nx w) {t : Nat} {m x y : Operand} (hm : zCz φ w a sl m) (hx : zCz φ w a sl x) (hy : zCz φ w a sl y) {r : CV} {es : List (Nat × Option CB)} {nx' : Nat} (he : yCr T h nx sl t m x y = some (r, es, nx')) :
  ∃ w', (Instr.mapUpdate t (a.eval m) (a.eval x) (a.eval y)).run P w = .ok () w' ∧ y0 φ w φ w' ∧ HS P w0 φ (apH h es) nx' w' ∧ r = .raw undef := by
 unfold yCr at he
 split at he
 ·rename_i k v v' kt et _ _ _ _ h1 h2 h3 h4
  split at he
  ·rename_i l kv vv h5 h6 h7
   split at he
   ·rename_i res h8
    cases he
    obtain ⟨d1, u1, u2⟩ := (hT _ _ h4).und_some
    have ht : P.underlying t = some (.map kt et) := by
     rw [u1]
     cases d1 <;> simp [zC9] at u2
     rw [u2.1, u2.2]
    obtain ⟨b0, e1, e2⟩ := hm _ h1
    obtain ⟨b, es', ck, g1, g2, g3, g4⟩ := zNm hs h5
    rw [e1] at g2
    cases g2
    obtain ⟨es2, ck2, r1, r2⟩ := zOn (vv := vv) hT ht g3 g4 h8
    have hlt : b0 < w.heap.size := (yMi.1 g3).1
    obtain ⟨E, s1⟩ := hs.stored (w' := w.putObj b0 (.map es2 ck2)) g1 e1 ⟨rfl, rfl, rfl⟩ sq (fun j hj => World.putObj_heap_other hj) (.inl (by unfold bsz; rw [g3])) (blk' := .map (zOo l kv vv res)) fun E => ⟨es2, ck2, World.putObj_heap_same hlt, r2⟩
    exact ⟨_, by rw [e2, zKq h6 (hx _ h2), zKq h7 (hy _ h3), r1], E, s1, rfl⟩
   ·cases he
  ·cases he
 ·cases he
theorem zGo (hT : TOk P T) (hs : HS P w0 φ h nx w) {o : Oper} (hev : ∀ x ∈ o.op.operands.toList, zCz φ w a sl x) {r : CV} {es : List (Nat × Option CB)} {nx' : Nat} (he : zAv T h nx sl o.op = some (r, es, nx')) : yM2 P w0 φ w a o r (apH h es) nx' := by
 obtain ⟨dst, op, type, pos, after, guard⟩ := o
 simp only at he hev
 cases op with
 | alloc t =>
  simp only [zAv] at he
  split at he
  ·rename_i i h1
   cases he
   obtain ⟨z, e1, e2⟩ := (hT t i h1).zero_run w
   obtain ⟨φ', E1, hn, s1⟩ := zHq hs (CV.relL_raws (φ := φ) (w := w) i.zero) t
   refine ⟨.pointer (some ⟨w.heap.size, 0, none⟩), φ', _, .inl ?_, E1, s1, w.heap.size, hn, rfl⟩
   rw [← e2]
   simp [execOp, Instr.alloc, newVar, newRow, newObj, Sem.run_bind, e1, Sem.run]
  ·cases he
 | box t x =>
  simp only [zAv] at he
  split at he
  ·rename_i y h1
   cases hb : vB (y5 y) with
   | false => rw [hb] at he; cases he
   | true =>
    rw [hb] at he
    cases he
    obtain ⟨φ', E1, hn, s1⟩ := zHq hs (zCx hb (hev x (by simp [Op.operands]) _ h1)) t
    refine ⟨.pointer (some ⟨w.heap.size, 0, none⟩), φ', _, .inl ?_, E1, s1, w.heap.size, hn, rfl⟩
    simp [execOp, Instr.box, newVar, newRow, newObj, Sem.run]
  ·cases he
 | store t p x =>
  simp only [zAv] at he
  split at he
  ·rename_i k off y i h1 h2 h3
   split at he
   ·rename_i full cs h4
    cases hb : (vB (y5 y) && Nat.beq (y5 y).length i.size && Nat.ble (off + i.size) cs.length) with
    | false => rw [hb] at he; cases he
    | true =>
     rw [hb] at he
     cases he
     rw [yNj, yNj] at hb
     obtain ⟨⟨c1, c2⟩, c3⟩ := hb
     have c2 := yMs c2
     have c3 := yP8 c3
     obtain ⟨b, e1, e2⟩ := hev p (by simp [Op.operands]) _ h1
     have e3 := hev x (by simp [Op.operands]) _ h2
     have e4 := zCx c1 e3
     have e5 := vJ c1 e4
     obtain ⟨w', e8, e9, e10⟩ := zDn hs h4 e1 (off := off) (us := y5 y) oq e4 e5
     refine ⟨undef, φ, w', .inr ⟨?_, rfl⟩, e9, e10, rfl⟩
     have hl := CV.relL_length e4
     have hsz := (hT t i h3).size_run w
     simp only [execOp, Instr.storeAt, e2, Instr.sureAddr, Sem.run_bind, Sem.run_pure, Result.andThen_ok, storeVar, hsz]
     rw [if_neg (by simp only [yNn] at hl; omega), e8]
     rfl
   ·cases he
  ·cases he
 | buildSlice t len parts =>
  simp only [zAv] at he
  split at he
  ·rename_i e s1 b1 z1 q1 h1
   split at he
   ·rename_i j h2
    split at he
    ·rename_i cs h3
     cases hb : (Nat.blt 0 j.size && Nat.ble (len * j.size) 16777216 && Nat.beq j.zero.length j.size) with
     | false => rw [hb] at he; cases he
     | true =>
      rw [hb] at he
      cases he
      rw [yNj, yNj] at hb
      obtain ⟨⟨c1, c2⟩, c3⟩ := hb
      have c1 := yY c1
      have c2 := yP8 c2
      have c3 := yMs c3
      obtain ⟨us, e1, e2⟩ := jB (a := a) (φ := φ) (w := w) parts.toList _ _ (yT len j.zero) (fun q hq => hev q.2 (by
       simp only [Op.operands]
       exact yO6.2 ⟨q, hq, rfl⟩)) h3 (CV.relL_raws _)
      have hlen : us.length = len * j.size := by
       have := zBk _ _ _ e1
       simp only [yNx, yQ, c3] at this
       exact this
      have e3 := vQ (P := P) (w := w) (hT _ _ h1) rfl (hT _ _ h2) c1 c2 c3 (parts := parts.map fun q => (q.1, a.eval q.2)) (us := us) (by simpa using e1)
      have hml : len ≤ maxLen := by
       have : len ≤ len * j.size := Nat.le_mul_of_pos_right _ c1
       simp only [maxLen]; omega
      obtain ⟨φ', E1, hn, s1⟩ := zHq hs e2 e
      refine ⟨_, φ', _, .inl ?_, E1, s1, w.heap.size, len, _, hn, rfl, yMj _, hml, fun _ => rfl, ?_, fun q hq => by cases hq; rfl⟩
      ·simp only [execOp, Sem.run_bind, e3, Result.andThen_ok]; rfl
      ·rw [zMh, hlen]; omega
    ·cases he
   ·cases he
  ·cases he
 | makeSlice t l c =>
  simp only [zAv] at he
  split at he
  ·rename_i e s1 b1 z1 q1 h1
   split at he
   ·rename_i j k1 n k2 m h2 h3 h4
    cases hb : (leI 0 n && leI n m && leI m 16777216 && Nat.blt 0 j.size && Nat.beq j.zero.length j.size && Nat.ble j.bytes 1000000) with
    | false => rw [hb] at he; cases he
    | true =>
     rw [hb] at he
     cases he
     rw [yNj, yNj, yNj, yNj, yNj, yK, yK, yK, yNk, yNk, yNk] at hb
     obtain ⟨⟨⟨⟨⟨c1, c2⟩, c3⟩, c4⟩, c5⟩, c6⟩ := hb
     have c4 := yY c4
     have c5 := yMs c5
     have c6 := yP8 c6
     have hu := kR hT h1
     obtain ⟨ie, z, g2', g1', g3, g4, e2⟩ := zCq hT h2
     have e3 : a.eval l = _ := hev l (by simp [Op.operands]) _ h3
     have e4 : a.eval c = _ := hev c (by simp [Op.operands]) _ h4
     have hby : (ie.bytes : Int) * m ≤ 281474976710656 := by
      have h5 : (ie.bytes : Int) ≤ 1000000 := by omega
      have h6 : (ie.bytes : Int) * m ≤ 1000000 * 16777216 := Int.mul_le_mul h5 c3 oq oq
      omega
     have e5 := run_make (P := P) w t e ie z hu g2' g3 k1 k2 n m c1 c2 hby oq
     have hcells : madeCells z.cells (m.toNat * ie.size) = (yT m.toNat j.zero).toArray := by
      apply Array.ext'
      have : madeCells z.cells (m.toNat * ie.size) = Builtin.zeroCells z.cells m.toNat := by
       have hz : z.cells.size = ie.size := by rw [← yNn, e2, c5, g1']
       unfold madeCells Builtin.zeroCells
       rw [hz]
      rw [this, xZ, e2]
     rw [hcells] at e5
     obtain ⟨φ', E1, hn, s1⟩ := zHq hs (CV.relL_raws (φ := φ) (w := w) (yT m.toNat j.zero)) e
     refine ⟨_, φ', _, .inl ?_, E1, s1, w.heap.size, m.toNat, _, hn, rfl, by omega, by simp only [maxLen]; omega, fun _ => rfl, ?_, fun q hq => by cases hq; rfl⟩
     ·simp only [execOp, Sem.run_bind, e3, e4, e5, Result.andThen_ok]; rfl
     ·rw [zMh, yQ, c5]; omega
   ·cases he
  ·cases he
 | makeMap t r0 =>
  cases r0 with
  | some _ => simp [zAv] at he
  | none =>
  simp only [zAv] at he
  cases he
  obtain ⟨φ', E1, hn, s1⟩ := hs.push (vM w (.map #[] 0)) (zAa _ _) (blk := .map []) fun φ' _ => ⟨#[], 0, heap_alloc_new w _, rfl⟩
  exact ⟨.map (some w.heap.size), φ', _, .inl rfl, E1, s1, w.heap.size, hn, rfl⟩
 | mapUpdate t m x y =>
  simp only [zAv] at he
  obtain ⟨w', r1, r2, r3, rfl⟩ := zWi hT hs (hev m (by simp [Op.operands])) (hev x (by simp [Op.operands])) (hev y (by simp [Op.operands])) he
  exact ⟨undef, φ, w', .inr ⟨by simp only [execOp, Sem.run_bind, r1, Result.andThen_ok]; rfl, rfl⟩, r2, r3, rfl⟩
 | insert t m x y =>
  simp only [zAv] at he
  obtain ⟨w', r1, r2, r3, rfl⟩ := zWi hT hs (hev m (by simp [Op.operands])) (hev x (by simp [Op.operands])) (hev y (by simp [Op.operands])) he
  exact ⟨undef, φ, w', .inr ⟨by simp only [execOp, Sem.run_bind, r1, Result.andThen_ok]; rfl, rfl⟩, r2, r3, rfl⟩
 | call c =>
  obtain ⟨callee, args, argTypes⟩ := c
  obtain ⟨args⟩ := args
  obtain ⟨argTypes⟩ := argTypes
  simp only [zAv] at he
  split at he
  ·rename_i x y t t'
   cases hab : (SpT.abs && Nat.beq t yC4) with
   | true =>
    rw [hab] at he
    simp only [yMq] at he
    split at he
    ·rename_i v s _ _ _ _ h1 h2 h3
     have e2 : a.eval y = _ := hev y (by simp [Op.operands, Call.operands]) _ h2
     obtain ⟨d1, q1, q2⟩ := (hT _ _ h3).und_some
     have u1 : P.underlying t' = some .string := by rw [q1, wV q2]
     obtain ⟨hP, rfl, hm, n, r1, r2, r3⟩ := zR5 hT hs he (hev x (by simp [Op.operands, Call.operands]) _ h1)
     obtain ⟨v', w', k1, k2⟩ := zAe hP r1 s hm r2 type t' u1
     obtain ⟨φ', k3, k4, k5⟩ := r3 v' w' k2
     exact ⟨v', φ', w', .inl (by simp [execOp, resolve, invoke, builtin, e2, k1]), k3, k4, k5⟩
    ·rename_i v v' h1 h2 _
     cases ht : Nat.beq t t' with
     | false => rw [ht] at he; cases he
     | true =>
      obtain rfl := yMs ht
      rw [ht] at he
      simp only [yMq] at he
      split at he
      ·rename_i m us hsr
       cases hu : u8L us with
       | false => rw [hu] at he; cases he
       | true =>
        rw [hu] at he
        simp only [yMq] at he
        obtain ⟨hP, rfl, hm, n, r1, r2, r3⟩ := zR5 hT hs he (hev x (by simp [Op.operands, Call.operands]) _ h1)
        obtain ⟨p, c, news, e, n1, n2, n3⟩ := zCe hs hsr hm (hev y (by simp [Op.operands, Call.operands]) _ h2) oq
        obtain ⟨v', w', k1, k2⟩ := zGh hP r1 (a := p) (c := c) (news := news) (by simpa using n1) hm n3 (fun z hz => by
         obtain ⟨i, hi⟩ := yOw hz
         exact zKr hu n2 i z hi) r2 type
        obtain ⟨φ', k3, k4, k5⟩ := r3 v' w' k2
        exact ⟨v', φ', w', .inl (by simp [execOp, resolve, invoke, builtin, e, k1]), k3, k4, k5⟩
      ·cases he
    ·cases he
   | false =>
   rw [hab] at he
   simp only [yN5] at he
   split at he
   ·rename_i v s _ _ _ _ h1 h2 h3
    cases hs0 : Nat.beq s.size 0 with
    | true => rw [hs0] at he; cases he
    | false =>
     rw [hs0] at he
     simp only [yN5] at he
     have hpos : 0 < s.size := Nat.pos_of_ne_zero fun e => by rw [e] at hs0; cases hs0
     have e2 : a.eval y = _ := hev y (by simp [Op.operands, Call.operands]) _ h2
     obtain ⟨d1, q1, q2⟩ := (hT _ _ h3).und_some
     have u1 : P.underlying t' = some .string := by rw [q1, wV q2]
     obtain ⟨q, φ', w', r1, r2, r3, r4⟩ := zKb (t' := t') (v := .string s) hT hs he (hev x (by simp [Op.operands, Call.operands]) _ h1) (fun s' m us hsr => by
      simp only [yMc, yMu] at hsr
      obtain ⟨rfl, rfl, rfl⟩ := hsr
      refine ⟨.inr u1, fun h => by omega, fun _ _ => ⟨_, Src.ofString w u1 s, ?_⟩⟩
      have : zTf s = (byteCells s).map .raw := by simp [zTf, byteCells]
      rw [this]
      exact CV.relL_raws _) type
     exact ⟨q, φ', w', .inl (by simp [execOp, resolve, invoke, builtin, e2, r1]), r2, r3, r4⟩
   ·rename_i v v' h1 h2 _
    cases ht : Nat.beq t t' with
    | false => rw [ht] at he; cases he
    | true =>
     obtain rfl := yMs ht
     rw [ht] at he
     simp only [yMq] at he
     have hy := hev y (by simp [Op.operands, Call.operands]) _ h2
     have hk : ∃ e', P.underlying t = some (.slice e') := by
      unfold zZe at he
      split at he
      ·rename_i hTt; exact ⟨_, kR hT hTt⟩
      ·cases he
     obtain ⟨q, φ', w', r1, r2, r3, r4⟩ := zKb (t' := t) (v := a.eval y) hT hs he (hev x (by simp [Op.operands, Call.operands]) _ h1) (fun s' m us hsr => by
      refine ⟨.inl hk, fun h => ?_, fun hm hsz => ?_⟩
      ·subst h
       have hv : ∃ A c, a.eval y = .slice A 0 c := by
        unfold zXk at hsr
        split at hsr
        ·split at hsr
         ·cases hb : Nat.ble (_ + _) _ with
          | false => rw [hb] at hsr; cases hsr
          | true =>
           rw [hb] at hsr; cases hsr
           obtain ⟨b, c, p, _, e, _⟩ := hy
           exact ⟨_, _, e⟩
         ·cases hsr
        ·exact ⟨_, _, hy⟩
        ·cases hsr
       obtain ⟨A, c, e⟩ := hv
       rw [e]
       refine ⟨fun _ => rfl, fun size w' => ?_⟩
       cases A with
       | none => simp [run_firstCells_none]
       | some A => exact run_firstCells_some w' size 0 A 0 c [] sq (fun q u hq => by simp at hq)
      ·obtain ⟨p, c, news, e, n1, n2, n3⟩ := zCe hs hsr hm hy hsz
       rw [e]
       obtain ⟨e', hk⟩ := hk
       exact ⟨news, Src.ofSlice w hk p m c news n1 n3 (vJ (xs := us) (zWc he hsr hm) n2), n2⟩) type
     exact ⟨q, φ', w', .inl (by simp [execOp, resolve, invoke, builtin, r1]), r2, r3, r4⟩
   ·cases he
  ·rename_i x y t t'
   split at he
   ·rename_i v v' h1 h2
    obtain ⟨q, φ', w', r1, r2, r3, r4⟩ := zZ2 (t' := t') hT hs he (hev x (by simp [Op.operands, Call.operands]) _ h1) (hev y (by simp [Op.operands, Call.operands]) _ h2) type
    exact ⟨q, φ', w', .inl (by simp [execOp, resolve, invoke, builtin, r1]), r2, r3, r4⟩
   ·cases he
  ·rename_i x t
   split at he
   ·rename_i s k off n cap e s1 b1 z1 q1 h1 h2
    split at he
    ·rename_i j full cs h3 h4
     cases hb : (Nat.beq s j.size && Nat.beq j.zero.length j.size && vB (j.zero.map .raw) && Nat.ble (off + n * s) cs.length) with
     | false => rw [hb] at he; cases he
     | true =>
      rw [hb] at he
      cases he
      rw [yNj, yNj, yNj] at hb
      obtain ⟨⟨⟨c1, c2⟩, c3⟩, c4⟩ := hb
      obtain rfl := yMs c1
      have c2 := yMs c2
      have c4 := yP8 c4
      have hu := kR hT h2
      obtain ⟨ie, z, g2', g1', g3, g4, e2⟩ := zCq hT h3
      obtain ⟨b, c, p0, k1, k2, k3, k4, k5, k6, k7⟩ := hev x (by simp [Op.operands, Call.operands]) _ h1
      have hzl := yQ n j.zero
      rw [c2] at hzl
      obtain ⟨w', e8, e9, e10⟩ := zDn hs h4 k1 (off := off) (us := (yT n j.zero).map .raw) (by simp only [yO7]; omega) (CV.relL_raws _) (zGa c3 n)
      rcases yNc n with h0 | h0
      ·subst h0
       have hsame : ∀ q, (h.put k (some (.cells full (wT cs off ((yT 0 j.zero).map .raw))))).get q = h.get q := fun q => by
        have hp : wT cs off ((yT 0 j.zero).map CV.raw) = cs := zJ5 off cs
        rw [hp, Tr.get_put]
        cases hq : Nat.beq q k with
        | false => rfl
        | true => rw [yMs hq, h4]; rfl
       exact ⟨_, φ, w, .inl (by simp [execOp, resolve, invoke, builtin, k2, Builtin.clear_, run_underlying hu]), y0.refl _ _, hs.congr hsame, rfl⟩
      ·have hz : (zeroValue e).run P w = .ok z w := by simp [zeroValue, typeInfo, g2', g3]
       obtain ⟨i, rfl⟩ : ∃ i, n = i + 1 := ⟨n - 1, by omega⟩
       rw [k5 oq] at k2
       exact ⟨.tuple #[], φ, w', .inl (by simp [execOp, resolve, invoke, builtin, k2, Builtin.clear_, run_underlying hu, hz, xZ, e2, e8]), e9, e10, rfl⟩
    ·cases he
   ·cases he
  ·cases he
 | _ => simp [zAv] at he
end
end Go.Proofs.YtioaahmkebojiaaGreatDoor
