import Derived.Test.YtioaahmkebojiaaGreatDoorWC01
import Derived.Laws.MakeOwn
import Derived.Test.YtioaahmkebojiaaGreatDoorWC10
namespace Go.Proofs.YtioaahmkebojiaaGreatDoor
set_option linter.unusedVariables false
set_option linter.unusedSimpArgs false
set_option maxHeartbeats 4000000
set_option maxRecDepth 100000
open Go.RowKit
theorem zD6 : ∀ (n : Nat) (z : List Value), AV.freeL (wI n z)
 | 0, _ => trivial
 | n + 1, z => by
  rw [wI]
  have ih := zD6 n z
  generalize wI n z = r at *
  induction z with
  | nil => exact ih
  | cons v z iz => exact ⟨trivial, iz⟩
theorem zDu : ∀ (n : Nat) (z : List Value), (wI n z).length = n * z.length
 | 0, z => by simp [wI]
 | n + 1, z => by simp [wI, zDu n z, yN4, Nat.add_comm]
theorem yR {a b : List AV} (ha : AV.freeL a) (hb : AV.freeL b) : AV.freeL (a ++ b) := by
 induction a with
 | nil => exact hb
 | cons x a ih => exact ⟨ha.1, ih ha.2⟩
theorem zVm {a : List AV} (n : Nat) (ha : AV.freeL a) : AV.freeL (a.drop n) := by
 induction n generalizing a with
 | zero => exact ha
 | succ n ih =>
  cases a with
  | nil => exact ha
  | cons x a => exact ih ha.2
theorem zJ1 {G : Gh} {w : World} : ∀ {cs : List AV} {vs : List Value} {j : Nat} {x : AV}, AV.relL G w cs vs → (∀ v, vs[j]? = some v → x.rel G w v) → AV.relL G w (cs.set j x) vs
 | [], vs, j, x, h, _ => by simpa using h
 | c :: cs, vs, 0, x, h, hx => by
  obtain ⟨v, r, rfl, h1, h2⟩ := h
  exact ⟨v, r, rfl, hx v rfl, h2⟩
 | c :: cs, vs, j + 1, x, h, hx => by
  obtain ⟨v, r, rfl, h1, h2⟩ := h
  exact ⟨v, r, rfl, h1, zJ1 h2 fun u hu => hx u (by simpa using hu)⟩
theorem xT.nilBslV {nt nb : Nat} {sl : List (Nat × (Bool × AV))} {bx : List (List AV)} {rw : List zV} {ys : (Nat × List (List AV)) × List (List AV) × Bool} (b j sz q : Nat) {cs : List AV} (hb : bx[b]? = some cs) (hj : cs[j]? = some (.raw (.slice none 0 0))) (hq : q < bx.length) :
  xT ⟨nt, nb, sl, bx, rw, ys⟩ ⟨nt, nb, sl, bx.set b (cs.set j (.bsl sz q 0 0 0)), rw, ys⟩ := by
 intro P C G a w hs
 refine ⟨G, ⟨hs.size, hs.callers, hs.frame, hs.le, hs.fresh, hs.ownB, hs.ownR, hs.env, ?_, fun t c x hl => hs.slot t c x hl⟩⟩
 have m := hs.mem
 refine ⟨m.immOk, by rw [List.length_set]; exact m.lenB, m.lenR, m.nodup, fun k cs' blk hk hG => ?_, m.row, m.sepB, m.sepR⟩
 by_cases hkb : k = b
 ·subst hkb
  have hlt : k < bx.length := (yNd.1 hb).1
  rw [yP2 hlt, yMc] at hk
  subst hk
  obtain ⟨h1, vs, T, h2, h3⟩ := m.box k cs blk hb hG
  refine ⟨h1, vs, T, h2, zJ1 h3 fun v hv => ?_⟩
  obtain ⟨u, hu, hr⟩ := AV.relL_get h3 hj
  obtain rfl := yPc (hv.symm.trans hu)
  have hv0 : v = .slice none 0 0 := hr
  have hl : q < G.bx.length := by rw [m.lenB]; exact hq
  exact ⟨G.bx[q], none, yNf hl, hv0, yMj _, yMh _, fun h => absurd h dq⟩
 ·rw [yP0 (fun h => hkb h.symm)] at hk
  exact m.box k cs' blk hk hG
class StillZ (Z : List AV) : Prop where
 ren : ∀ f g, AV.renL f g Z = Z
 free : AV.freeL Z
@[go_sem, simp] theorem jN (f g : Nat → Nat) (Z : List AV) [h : StillZ Z] : AV.renL f g Z = Z := h.ren f g
@[simp] theorem zZn (Z : List AV) [h : StillZ Z] : AV.freeL Z := h.free
@[simp] theorem zIn (m n : Nat) (Z : List AV) [h : StillZ Z] : AV.subL m n Z := AV.subL_free _ h.free
@[simp] theorem yB3 (m : Nat) (Z : List AV) [h : StillZ Z] : AV.belL m Z := belL_free _ h.free
theorem zHg (f g : Nat → Nat) : ∀ (a b : List AV), AV.renL f g (a ++ b) = AV.renL f g a ++ AV.renL f g b
 | [], _ => rfl
 | x :: a, b => by rw [yMz, AV.renL, zHg f g a b]; rfl
instance still_app (a b : List AV) [ha : StillZ a] [hb : StillZ b] : StillZ (a ++ b) := ⟨fun f g => by rw [zHg, ha.ren, hb.ren], yR ha.free hb.free⟩
theorem zOv (n : Nat) : ∀ (a : List AV), StillZ a → StillZ (a.drop n)
 | a, h => by
  refine ⟨fun f g => ?_, zVm n h.free⟩
  have e := h.ren f g
  induction n generalizing a with
  | zero => exact e
  | succ n ih =>
   cases a with
   | nil => rfl
   | cons x a =>
    rw [AV.renL] at e
    injection e with e1 e2
    exact ih a ⟨fun f' g' => by have := h.ren f' g'; rw [AV.renL] at this; injection this, h.free.2⟩ e2
theorem zJ0 (f g : Nat → Nat) : ∀ z : List Value, AV.renL f g (z.map .raw) = z.map .raw
 | [] => rfl
 | v :: z => by rw [yNm, AV.renL, zJ0 f g z]; rfl
theorem zE1 (n : Nat) (z : List Value) : StillZ (wI n z) := by
 refine ⟨fun f g => ?_, zD6 n z⟩
 induction n with
 | zero => rfl
 | succ n ih =>
  rw [wI, zHg, ih]
  rw [zJ0]
theorem qD {α : Type} {enc : α → List AV} (h : ∀ x, StillZ (enc x)) : ∀ l : List α, StillZ (l.flatMap enc)
 | [] => ⟨fun _ _ => rfl, trivial⟩
 | x :: l => by
  rw [yP3]
  exact @still_app _ _ (h x) (qD h l)
class Enc {α : Type} (sz : outParam Nat) (enc : α → List AV) : Prop where
 len : ∀ x, (enc x).length = sz
 free : ∀ x, AV.freeL (enc x)
 one : ∀ st x, AV.oneL st (enc x)
def yM3 {α : Type} (sz k : Nat) (enc : α → List AV) (bx : List (List AV)) (b c : Nat) (L : List α) : Prop := ∃ zs, bx[b]? = some (L.flatMap enc ++ zs) ∧ L.length ≤ c ∧ c ≤ maxLen ∧ c * sz ≤ (L.flatMap enc ++ zs).length ∧ (0 < c → k ≤ b) ∧ StillZ zs
section
variable {P : Program} {T : TT} {ops : Array Oper} {rest : List Oper} {K : ASt → Prop} {nt nb : Nat} {sl : List (Nat × (Bool × AV))} {bx : List (List AV)} {rw : List zV} {ys : (Nat × List (List AV)) × List (List AV) × Bool} {o : Oper} {d : Nat}
theorem zIw {α : Type} {sz k : Nat} {enc : α → List AV} [E : Enc sz enc] {b c : Nat} {L : List α} (hA : yM3 sz k enc bx b c L) (x : α) (hk : k ≤ bx.length) (hT : TOk P T) (hg : o.guard = none) (hd : o.dst = some d) (hn : Nat.blt d nt = true)
  {cs : List Bool} {n : Nat} {us : List AV} {p : Prop} {t t' : TypeId} (h1 : zZl ⟨nt, nb, sl, bx, rw, ys⟩ .append o.op = some (cs, (sz, b, 0, n, c), (sz, 1, us, p), t, t')) (hc : ∀ c ∈ cs, c = true) (hp : p) (htt : t' = t)
  {e s1 b1 : Nat} {z1 : List Value} {q1 : List CK} (h2 : T t = some ⟨.slice e, s1, b1, z1, q1⟩) {j : TI} (h3 : T e = some j) (hsz : j.size = sz ∧ j.zero.length = sz ∧ j.bytes ≤ 1000 ∧ 0 < sz) (hL : L.length = n) (hus : us = enc x)
  (hmax : n + 1 ≤ 1000000)
  (h : ∀ bx' b' c', bx'.take k = bx.take k → bx'.length ≤ bx.length + 1 → yM3 sz k enc bx' b' c' (L ++ [x]) → yZ P ops rest K ⟨nt, nb, (d, (true, .bsl sz b' 0 (n + 1) c')) :: sl, bx', rw, ys⟩) : yZ P ops (o :: rest) K ⟨nt, nb, sl, bx, rw, ys⟩ := by
 obtain ⟨zs, a1, a2, a3, a4, a5, a6⟩ := hA
 obtain ⟨j1, j2, j3, j4⟩ := hsz
 have hj : sz = j.size ∧ sz = j.size ∧ 0 < j.size ∧ j.zero.length = j.size := ⟨j1.symm, j1.symm, by omega, by omega⟩
 subst hL hus
 have e0 : (L.flatMap enc).length = L.length * sz := k9 E.len L
 have e1 : (L ++ [x]).flatMap enc = L.flatMap enc ++ enc x := by rw [List.flatMap_append]; simp
 have e2 : (enc x).length = sz := E.len x
 refine zIx hT hg hd hn h1 hc hp htt h2 h3 hj Nat.zero_lt_one a1 (E.one _ _) oq ⟨by simp only [maxLen]; omega, ?_⟩ (fun hr bx' hb => ?_) (fun hr c' hc1 hc2 bx' bn hbn hb => ?_)
 ·have := Nat.mul_le_mul hmax j3
  omega
 ·have hb1 : k ≤ b := a5 oq
  have hlt := (yNd.1 a1).1
  subst hb
  have hle : L.length * sz + sz ≤ c * sz := by rw [← Nat.succ_mul]; exact yNe _ hr
  refine h _ _ _ (List.take_set_of_le hb1) (by rw [List.length_set]; omega) ⟨zs.drop sz, ?_, by rw [yN1]; exact hr, a3, ?_, a5, zOv _ _ a6⟩
  ·rw [yP2 hlt, yN9, e1]
   rw [yN1, e0] at a4
   conv => lhs; rw [← List.take_append_drop sz zs]
   rw [zRi e0 (by rw [e2, yOt]; omega), yOs]
  ·rw [yN1, e0] at a4
   rw [e1, yN1, yN1, yOu, e0, e2]
   omega
 ·subst hb hbn
  refine h _ _ _ (by rw [yP6 hk]) sq ⟨wI (c' - (L.length + 1)) j.zero, ?_, by rw [yN1]; exact hc1, hc2, ?_, fun _ => hk, zE1 _ _⟩
  ·rw [yNu (yMj _), Nat.sub_self, List.drop_zero, List.take_left' e0, e1]
   rfl
  ·rw [yN1, e1, yN1, e0, e2, zDu, j2]
   obtain ⟨d, rfl⟩ : ∃ d, c' = L.length + 1 + d := ⟨c' - (L.length + 1), by omega⟩
   rw [yOz, yN4, yN4, Nat.one_mul]
   omega
theorem zGg {α : Type} {sz k b : Nat} {enc : α → List AV} [E : Enc sz enc] (x : α) (hk : k ≤ bx.length) (hT : TOk P T) (hg : o.guard = none) (hd : o.dst = some d) (hn : Nat.blt d nt = true)
  {cs : List Bool} {us : List AV} {p : Prop} {t t' : TypeId} (h1 : zZl ⟨nt, nb, sl, bx, rw, ys⟩ .append o.op = some (cs, (sz, b, 0, 0, 0), (sz, 1, us, p), t, t')) (hc : ∀ c ∈ cs, c = true) (hp : p) (htt : t' = t)
  {e s1 b1 : Nat} {z1 : List Value} {q1 : List CK} (h2 : T t = some ⟨.slice e, s1, b1, z1, q1⟩) {j : TI} (h3 : T e = some j) (hsz : j.size = sz ∧ j.zero.length = sz ∧ j.bytes ≤ 1000 ∧ 0 < sz) (hus : us = enc x) (hb : b < bx.length)
  (h : ∀ bx' b' c', bx'.take k = bx.take k → bx'.length ≤ bx.length + 1 → yM3 sz k enc bx' b' c' [x] → yZ P ops rest K ⟨nt, nb, (d, (true, .bsl sz b' 0 1 c')) :: sl, bx', rw, ys⟩) : yZ P ops (o :: rest) K ⟨nt, nb, sl, bx, rw, ys⟩ := by
 obtain ⟨j1, j2, j3, j4⟩ := hsz
 have hj : sz = j.size ∧ sz = j.size ∧ 0 < j.size ∧ j.zero.length = j.size := ⟨j1.symm, j1.symm, by omega, by omega⟩
 subst hus
 have e2 : (enc x).length = sz := E.len x
 refine zIx hT hg hd hn h1 hc hp htt h2 h3 hj Nat.zero_lt_one (yNf hb) (E.one _ _) oq ⟨by simp only [maxLen]; omega, by omega⟩ (fun hr => absurd hr oq) (fun hr c' hc1 hc2 bx' bn hbn hb => ?_)
 subst hb hbn
 refine h _ _ _ (by rw [yP6 hk]) sq ⟨wI (c' - (0 + 1)) j.zero, ?_, hc1, hc2, ?_, fun _ => hk, zE1 _ _⟩
 ·rw [yNu (yMj _), Nat.sub_self]
  simp
 ·rw [yP3, List.flatMap_nil, yO9, yN1, e2, zDu, j2]
  obtain ⟨d, rfl⟩ : ∃ d, c' = 0 + 1 + d := ⟨c' - (0 + 1), by omega⟩
  rw [yOz, yN4, yN4, Nat.one_mul]
  omega
end
theorem zV7 {G : Gh} {w : World} {A : Option Addr} {c : Nat} (sz : Nat) (hc : c ≤ maxLen) : AV.rel G w (.lst sz 0 fun _ => []) (.slice A 0 c) := ⟨A, c, rfl, yMh _, hc, fun h => absurd h (Nat.lt_irrefl 0)⟩
theorem Sim.len {sz n : Nat} {el : Nat → List AV} : Sim (.lst sz n el) (.lst 0 n fun _ => []) := fun G w v ⟨A, c, h1, h2, h3, h4⟩ => ⟨A, c, h1, h2, h3, fun h => by
 obtain ⟨b, o, h5, _⟩ := h4 h
 exact ⟨b, o, h5, fun i _ => ⟨[], rfl, rfl, fun j u hu => by simp at hu⟩⟩⟩
theorem Sim.lenB {sz b off n c : Nat} : Sim (.bsl sz b off n c) (.lst 0 n fun _ => []) := fun G w v ⟨blk, A, _, h1, h2, h3, h4⟩ => ⟨A, c, h1, h2, h3, fun h => ⟨blk, off, h4 oq, fun i _ => ⟨[], rfl, rfl, fun j u hu => by simp at hu⟩⟩⟩
section
variable {P : Program} {T : TT} {ops : Array Oper} {rest : List Oper} {K : ASt → Prop} {nt nb : Nat} {sl : List (Nat × (Bool × AV))} {bx : List (List AV)} {rw : List zV} {ys : (Nat × List (List AV)) × List (List AV) × Bool} {o : Oper} {d : Nat}
theorem zGf (sz : Nat) {t e : TypeId} {l : Operand} (hop : o.op = .makeSlice t l l) (hg : o.guard = none) (hd : o.dst = some d) (hn : Nat.blt d nt = true) (hu : P.underlying t = some (.slice e)) (hz : ((P.info? e).bind (·.zero)).isSome = true)
  (h : ASt.ev ⟨nt, nb, sl, bx, rw, ys⟩ l = some (true, .raw (.int .i64 0)) ∧ ∃ bx', bx ++ [[]] = bx' ∧ yZ P ops rest K ⟨nt, nb, (d, (true, .lst sz 0 fun _ => [])) :: sl, bx', rw, ys⟩) : yZ P ops (o :: rest) K ⟨nt, nb, sl, bx, rw, ys⟩ := by
 obtain ⟨he, bx', rfl, hk⟩ := h
 intro C G a w Q hs hQ
 refine wpListIn_plain hg fun K' hK => ?_
 refine zJ (fun c hc => by rw [hop] at hc; cases hc) ?_
 obtain ⟨dst, op, type, pos, after, guard⟩ := o
 simp only at hop hd
 subst hop
 subst hd
 have e1 : a.eval l = .int .i64 0 := (yN (x := l) fun t _ => hs.slot t) _ _ he rfl
 obtain ⟨i, z, hi, hz⟩ : ∃ i z, P.info? e = some i ∧ i.zero = some z := by
  cases h1 : P.info? e with
  | none => rw [h1] at hz; cases hz
  | some i =>
   rw [h1] at hz
   obtain ⟨z, h2⟩ := Option.isSome_iff_exists.1 hz
   exact ⟨i, z, rfl, h2⟩
 have e3 := run_make (P := P) w t e i z hu hi hz .i64 .i64 0 0 oq (Int.le_refl _) oq oq
 have e4 : madeCells z.cells (Int.toNat 0 * i.size) = ([] : List Value).toArray := by simp [madeCells]
 rw [e4] at e3
 have hrun : (execOp a.eval ⟨some d, .makeSlice t l l, type, pos, after, guard⟩).run P w = .ok (.value (.slice (some ⟨w.heap.size, 0, none⟩) 0 0)) (w.alloc (.cells ([] : List Value).toArray e)) := by
  simp only [execOp, Sem.run_bind, e1, e3, Result.andThen_ok]; rfl
 rw [hrun, Oper.uponIn_value]
 have e2 : AV.relL G w ([] : List AV) ([] : List Value) := rfl
 exact hK _ _ (hk C _ _ _ Q ((hs.push e e2).put (by simpa [yNz] using hn) (fun _ => zV7 sz (yMh _)) (fun h => by cases h)) hQ)
theorem zP2 {sz : Nat} {el : Nat → List AV} {x y : Operand} {t t' e : TypeId} (hop : o.op = .call { callee := .builtin .copy, args := #[x, y], argTypes := #[t, t'] }) (hg : o.guard = none) (hd : o.dst = some d) (hn : Nat.blt d nt = true) (hu : P.underlying t = some (.slice e)) (hu' : P.underlying t' = some (.slice e)) (hz : (P.info? e).isSome = true)
  (h : ASt.ev ⟨nt, nb, sl, bx, rw, ys⟩ x = some (true, .lst sz 0 el) ∧ ASt.ev ⟨nt, nb, sl, bx, rw, ys⟩ y = some (true, .raw (.slice none 0 0)) ∧ yZ P ops rest K ⟨nt, nb, (d, (true, .raw (.int .i64 0))) :: sl, bx, rw, ys⟩) : yZ P ops (o :: rest) K ⟨nt, nb, sl, bx, rw, ys⟩ := by
 obtain ⟨hx, hy, hk⟩ := h
 intro C G a w Q hs hQ
 refine wpListIn_plain hg fun K' hK => ?_
 refine zJ (fun c hc => by rw [hop] at hc; cases hc) ?_
 obtain ⟨A, c, e1, _, _, _⟩ := (yN (x := x) fun t _ => hs.slot t) _ _ hx rfl
 have e2 : a.eval y = .slice none 0 0 := (yN (x := y) fun t _ => hs.slot t) _ _ hy rfl
 obtain ⟨i, hi⟩ := Option.isSome_iff_exists.1 hz
 have hf : (Builtin.firstCells i.size 0 (Value.slice none 0 0)).run P w = .ok #[] w := by simp [Builtin.firstCells]
 have hrun : ∀ ty, (Builtin.copy_ #[t, t'] ty #[.slice A 0 c, .slice none 0 0]).run P w = .ok (goInt ((0 : Nat) : Int)) w := fun ty => by
  simp [Builtin.copy_, run_underlying hu, run_underlying hu', Builtin.lenOf, sizeOf, typeInfo, hi, hf]
  cases A <;> simp [storeCells]
 have hexec : (execOp a.eval o).run P w = .ok (.value (goInt ((0 : Nat) : Int))) w := by
  obtain ⟨dst, op, type, pos, after, guard⟩ := o
  simp only at hop
  subst hop
  simp [execOp, resolve, invoke, builtin, e1, e2, hrun]
 rw [hexec, Oper.uponIn_value, hd]
 exact hK _ _ (hk C _ _ _ Q (hs.put (by simpa [yNz] using hn) (fun _ => rfl) (fun h => by cases h)) hQ)
end
def yCu (f : Nat → Nat) (m : Nat) (x y : AV) : Prop := (y.free ∧ x = y) ∨ (x = y.ren f id ∧ y.sub m 0)
def zZp (f : Nat → Nat) (m : Nat) : List AV → List AV → Prop
 | [], [] => True
 | x :: xs, y :: ys => yCu f m x y ∧ zZp f m xs ys
 | _, _ => False
theorem zI {f : Nat → Nat} {m : Nat} : ∀ {xs : List AV}, AV.freeL xs → zZp f m xs xs
 | [], _ => trivial
 | x :: xs, h => ⟨.inl ⟨h.1, rfl⟩, zI h.2⟩
def zZq (f : Nat → Nat) (m : Nat) (bx : List (List AV)) : List Nat → List (List AV) → Prop
 | [], [] => True
 | i :: is, c :: cs => (∃ xs, bx[i]? = some xs ∧ zZp f m xs c) ∧ zZq f m bx is cs
 | _, _ => False
def yCv (f : Nat → Nat) (m : Nat) (sl : List (Nat × (Bool × AV))) : List (Nat × (Bool × AV)) → Prop
 | [] => True
 | e :: r => (∃ x, yL e.1 sl = some (e.2.1, x) ∧ yCu f m x e.2.2) ∧ yCv f m sl r
theorem zN0 {f : Nat → Nat} {m : Nat} {sl : List (Nat × (Bool × AV))} : ∀ {sl' : List (Nat × (Bool × AV))}, yCv f m sl sl' → ∀ e ∈ sl', ∃ x, yL e.1 sl = some (e.2.1, x) ∧ yCu f m x e.2.2
 | e :: r, h, e', he => by
  rcases yNa.1 he with rfl | he
  ·exact h.1
  ·exact zN0 h.2 e' he
theorem zN1 {f : Nat → Nat} {m : Nat} {bx : List (List AV)} : ∀ {is : List Nat} {cs : List (List AV)}, zZq f m bx is cs → cs.length = is.length
 | [], [], _ => rfl
 | i :: is, c :: cs, h => by rw [yMy, yMy, zN1 h.2]
theorem zN2 {f : Nat → Nat} {m : Nat} {bx : List (List AV)} : ∀ {is : List Nat} {cs : List (List AV)} {k : Nat} {c : List AV}, zZq f m bx is cs → cs[k]? = some c → ∃ i xs, is[k]? = some i ∧ bx[i]? = some xs ∧ zZp f m xs c
 | [], [], k, c', _, hc => by simp at hc
 | i :: is, c :: cs, 0, c', h, hc => by
  cases hc
  obtain ⟨⟨xs, h1, h2⟩, _⟩ := h
  exact ⟨i, xs, rfl, h1, h2⟩
 | i :: is, c :: cs, k + 1, c', h, hc => zN2 (k := k) h.2 (by simpa using hc)
theorem zQv {f : Nat → Nat} {m : Nat} {bx : List (List AV)} : ∀ {is : List Nat} {cs : List (List AV)}, zZq f m bx is cs → ∀ i ∈ is, i < bx.length
 | i :: is, c :: cs, h, j, hj => by
  rcases yNa.1 hj with rfl | hj
  ·obtain ⟨⟨xs, h1, _⟩, _⟩ := h
   exact (yNd.1 h1).1
  ·exact zQv h.2 j hj
theorem xT.selR {nt nb : Nat} {sl sl' : List (Nat × (Bool × AV))} {bx bx' : List (List AV)} {rw : List zV} {ys : (Nat × List (List AV)) × List (List AV) × Bool} (hnr : nb / 64 = 0) (is : List Nat) (hnd : is.Nodup) (hnb : ∀ k, k < nb % 64 → is[k]? = some k)
  (hb : zZq (fun k => is.getD k 0) is.length bx is bx') (hs' : yCv (fun k => is.getD k 0) is.length sl sl') : xT ⟨nt, nb, sl, bx, rw, ys⟩ ⟨nt, nb, sl', bx', [], ys⟩ := by
 intro P C G a w hs
 have hm := hs.mem
 have hlen : G.bx.length = bx.length := hm.lenB
 have hlt := zQv hb
 have hl' := zN1 hb
 generalize hB : is.map (fun i => G.bx.getD i 0) = B
 have hBl : B.length = is.length := by rw [← hB, yO7]
 have hidx : ∀ k, k < is.length → B[k]? = G.bx[is.getD k 0]? := fun k hk => by
  have h1 : is.getD k 0 = is[k] := by rw [yNh, yNf hk]; rfl
  have h2 : is[k] < G.bx.length := by rw [hlen]; exact hlt _ (yP5 hk)
  rw [h1, ← hB, yNg, yNf hk, yNf h2]
  simp [yNh, yNf h2]
 have hmem : ∀ x ∈ B, x ∈ G.bx := fun x hx => by
  obtain ⟨k, hk⟩ := yOw hx
  have hkl := (yNd.1 hk).1
  rw [hidx k oq] at hk
  exact yNr hk
 have hbk : ∀ k y, k < is.length → G.bx[is.getD k 0]? = some y → B[k]? = some y := fun k y hk hy => (hidx k hk).trans hy
 have hrel : ∀ (x y : AV) (v : Value), yCu (fun k => is.getD k 0) is.length x y → x.rel G w v → y.rel ⟨G.imm, B, []⟩ w v := fun x y v h hr => by
  rcases h with ⟨h1, rfl⟩ | ⟨rfl, h2⟩
  ·exact AV.rel_free (G := G) (G' := ⟨G.imm, B, []⟩) (fun _ _ i => i) _ _ h1 hr
  ·exact AV.rel_unren (G := ⟨G.imm, B, []⟩) (G' := G) (f := fun k => is.getD k 0) (g := id) (fun _ _ i => i) hbk (fun k e hk => absurd hk (Nat.not_lt_zero _)) y v h2 hr
 have hrelL : ∀ (xs ys : List AV) (vs : List Value), zZp (fun k => is.getD k 0) is.length xs ys → AV.relL G w xs vs → AV.relL ⟨G.imm, B, []⟩ w ys vs := by
  intro xs
  induction xs with
  | nil =>
   intro ys vs h hr
   cases ys with
   | nil => exact hr
   | cons => cases h
  | cons x xs ih =>
   intro ys vs h hr
   cases ys with
   | nil => cases h
   | cons y ys =>
    obtain ⟨v, r, rfl, h1, h2⟩ := hr
    exact ⟨v, r, rfl, hrel _ _ _ h.1 h1, ih _ _ h.2 h2⟩
 obtain ⟨D, hD⟩ := hs.env
 refine ⟨⟨G.imm, B, []⟩, ⟨hs.size, hs.callers, hs.frame, ⟨hs.le.imm, hs.le.cell, fun k x hk => ?_, fun k x hk => ?_⟩, hs.fresh, fun blk hb => hs.ownB blk (hmem blk hb), (fun x hx => by cases hx), ⟨D, ⟨hD.l, hD.cons, hD.sub, hD.lt, fun k hk => hD.bx k (hmem k hk), (fun x hx => by cases hx), hD.imm, hD.marks, hD.record⟩⟩, ?_, fun t c x hl => ?_⟩⟩
 ·have hkl : k < nb % 64 := by
   have := (yNd.1 hk).1
   have h2 := hs.callers.1
   simp only at h2
   omega
  have h1 := hnb k hkl
  have h2 := (yNd.1 h1).1
  refine hbk k x h2 ?_
  rw [yNh, h1]
  exact hs.le.bx k x hk
 ·have h1 := (yNd.1 hk).1
  have h2 := hs.callers.2
  simp only at h2
  omega
 ·refine ⟨hm.immOk, hBl.trans hl'.symm, rfl, ?_, fun k cs blk hk hG => ?_, fun k r x hr => ?_, (fun k x g hx => by simp at hx), (fun k k' x y g hx => by simp at hx)⟩
  ·show B.Nodup
   refine yP1.2 fun i j hi hj hij h => ?_
   have e1 := hidx i oq
   have e2 := hidx j oq
   have hi' : i < is.length := by omega
   have hj' : j < is.length := by omega
   rw [yNf hi, yNh, yNf hi', yN6] at e1
   rw [yNf hj, yNh, yNf hj', yN6] at e2
   have l1 : is[i] < G.bx.length := by rw [hlen]; exact hlt _ (yP5 _)
   have l2 : is[j] < G.bx.length := by rw [hlen]; exact hlt _ (yP5 _)
   rw [yNf l1, yMc] at e1
   rw [yNf l2, yMc] at e2
   have hne : is[i] ≠ is[j] := yP1.1 hnd i j hi' hj' hij
   have hG : G.bx[is[i]] = G.bx[is[j]] := by rw [← e1, ← e2, h]
   rcases Nat.lt_or_gt_of_ne hne with hlt' | hlt'
   ·exact yP1.1 hm.nodup _ _ l1 l2 hlt' hG
   ·exact yP1.1 hm.nodup _ _ l2 l1 hlt' hG.symm
  ·obtain ⟨i, xs, h1, h2, h3⟩ := zN2 hb hk
   have hkl := (yNd.1 h1).1
   have hG' : G.bx[i]? = some blk := by
    rw [← hG, hidx k hkl, yNh, h1]; rfl
   obtain ⟨g1, vs, T, g2, g3⟩ := hm.box _ xs blk h2 hG'
   exact ⟨g1, vs, T, g2, hrelL _ _ _ h3 g3⟩
  ·simp at hr
 ·obtain ⟨x, h1, h2⟩ := zN0 hs' _ (zEl hl)
  obtain ⟨v, h3, h4, h5⟩ := hs.slot t c _ h1
  exact ⟨v, h3, fun hc => hrel _ _ _ h2 (h4 hc), h5⟩
theorem xT.sel {nt nb : Nat} {sl sl' : List (Nat × (Bool × AV))} {bx bx' : List (List AV)} {ys : (Nat × List (List AV)) × List (List AV) × Bool} (is : List Nat) (hnd : is.Nodup) (hnb : ∀ k, k < nb % 64 → is[k]? = some k)
  (hb : zZq (fun k => is.getD k 0) is.length bx is bx') (hs' : yCv (fun k => is.getD k 0) is.length sl sl') (hnr : nb / 64 = 0 := by rfl) : xT ⟨nt, nb, sl, bx, [], ys⟩ ⟨nt, nb, sl', bx', [], ys⟩ := xT.selR hnr is hnd hnb hb hs'
end Go.Proofs.YtioaahmkebojiaaGreatDoor
