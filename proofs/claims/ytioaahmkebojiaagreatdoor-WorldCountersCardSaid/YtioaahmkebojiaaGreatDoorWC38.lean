import Derived.Test.YtioaahmkebojiaaGreatDoorWC01
import Derived.Test.YtioaahmkebojiaaGreatDoorWC37
namespace Go.Proofs.YtioaahmkebojiaaGreatDoor
set_option linter.unusedVariables false
set_option linter.unusedSimpArgs false
set_option maxHeartbeats 4000000
set_option maxRecDepth 100000
set_option linter.unusedSectionVars false
open Go.RowKit
variable [SpT]
def yD4 (o : Oper) : Bool := match o.op with
 | .insert _ _ _ _ => true
 | _ => false
def zFu (o : Oper) : Bool := zZt o || yD4 o
inductive Anc (full : List Oper) : Nat → Nat → Prop where
 | one {i j : Nat} : zM full i j = true → Anc full i j
 | more {i k j : Nat} : zM full i k = true → Anc full k j → Anc full i j
theorem Anc.mem {full : List Oper} {L : Nat → Prop} (hc : ∀ c d, zM full c d = true → L c → L d) {i j : Nat} (h : Anc full i j) : L i → L j := by
 induction h with
 | one h => exact hc _ _ h
 | more h _ ih => exact fun hi => ih (hc _ _ h hi)
theorem Anc.first {full : List Oper} {L : Nat → Prop} (hc : ∀ c d, zM full c d = true → L c → L d) {i j : Nat} (hi : ∀ d, zM full i d = true → L d) (h : Anc full i j) : L j := by
 cases h with
 | one h => exact hi _ h
 | more h h' => exact h'.mem hc (hi _ h)
noncomputable def tb (m j : Nat) : Bool := Nat.beq (Nat.mod (Nat.div m (Nat.pow 2 j)) 2) 1
theorem zQj (m j : Nat) : tb m j = m.testBit j := by
 rw [Nat.testBit_eq_decide_div_mod_eq, yN7, yPk]
 exact ⟨yMs, fun h => by rw [show tb m j = Nat.beq (m / 2 ^ j % 2) 1 from rfl, h]; rfl⟩
theorem zKw (j : Nat) : tb 0 j = false := by rw [zQj]; exact Nat.zero_testBit j
theorem zXi (a b j : Nat) : tb (Nat.lor a b) j = (tb a j || tb b j) := by
 rw [zQj, zQj, zQj]; exact Nat.testBit_or a b j
theorem zWm {i j : Nat} (h : tb (Nat.pow 2 i) j = true) : i = j := by
 rw [zQj, show Nat.pow 2 i = 2 ^ i from rfl, Nat.testBit_two_pow, yPk] at h
 exact h
noncomputable def allQ {α : Type} (p : α → Bool) (l : List α) : Bool := @List.rec α (fun _ => Bool) true (fun x _ ih => @Bool.rec (fun _ => Bool) false ih (p x)) l
theorem v7 {α : Type} {p : α → Bool} : ∀ {l : List α}, allQ p l = true → ∀ x ∈ l, p x = true
 | [], _, x, hx => by cases hx
 | y :: r, h, x, hx => by
  change @Bool.rec (fun _ => Bool) false (allQ p r) (p y) = true at h
  cases hy : p y with
  | false => rw [hy] at h; cases h
  | true =>
   rw [hy] at h
   rcases yNa.1 hx with rfl | hx
   ·exact hy
   ·exact v7 h x hx
noncomputable def anyQ {α : Type} (p : α → Bool) (l : List α) : Bool := @List.rec α (fun _ => Bool) false (fun x _ ih => @Bool.rec (fun _ => Bool) ih true (p x)) l
theorem zTq {α : Type} {p : α → Bool} : ∀ {l : List α}, anyQ p l = true → ∃ x ∈ l, p x = true
 | [], h => by cases h
 | y :: r, h => by
  change @Bool.rec (fun _ => Bool) (anyQ p r) true (p y) = true at h
  cases hy : p y with
  | true => exact ⟨y, by simp, hy⟩
  | false =>
   rw [hy] at h
   obtain ⟨x, hx, hp⟩ := zTq h
   exact ⟨x, by simp [hx], hp⟩
noncomputable def orB (a b : Bool) : Bool := @Bool.rec (fun _ => Bool) b true a
noncomputable def anB (a b : Bool) : Bool := @Bool.rec (fun _ => Bool) false b a
noncomputable def noB (a : Bool) : Bool := @Bool.rec (fun _ => Bool) true false a
theorem zWs (a b : Bool) : orB a b = (a || b) := by cases a <;> rfl
theorem zBw (a b : Bool) : anB a b = (a && b) := by cases a <;> rfl
theorem yBd (a : Bool) : noB a = !a := by cases a <;> rfl
noncomputable def wL (o : Oper) : List Nat := @List.rec Edge (fun _ => List Nat) [] (fun e _ ih => @Bool.rec (fun _ => List Nat) ih (e.on :: ih) (Region.binds .any e)) o.after.toList
theorem yA2 : ∀ (l : List Edge) (j : Nat), j ∈ @List.rec Edge (fun _ => List Nat) [] (fun e _ ih => @Bool.rec (fun _ => List Nat) ih (e.on :: ih) (Region.binds .any e)) l ↔ ∃ e ∈ l, e.on = j ∧ Region.binds .any e = true
 | [], j => by simp
 | e :: r, j => by
  have ih := yA2 r j
  show j ∈ @Bool.rec (fun _ => List Nat) _ (e.on :: _) (Region.binds .any e) ↔ _
  cases hb : Region.binds .any e with
  | false =>
   rw [ih]
   constructor
   ·rintro ⟨x, hx, h⟩; exact ⟨x, by simp [hx], h⟩
   ·rintro ⟨x, hx, h⟩
    rcases yNa.1 hx with rfl | hx
    ·rw [hb] at h; cases h.2
    ·exact ⟨x, hx, h⟩
  | true =>
   rw [yNa, ih]
   constructor
   ·rintro (rfl | ⟨x, hx, h⟩)
    ·exact ⟨e, by simp, rfl, hb⟩
    ·exact ⟨x, by simp [hx], h⟩
   ·rintro ⟨x, hx, h⟩
    rcases yNa.1 hx with rfl | hx
    ·exact .inl h.1.symm
    ·exact .inr ⟨x, hx, h⟩
theorem zWg {o : Oper} {j : Nat} : j ∈ wL o ↔ ∃ e ∈ o.after, e.on = j ∧ Region.binds .any e = true := (yA2 _ _).trans sq
theorem zH3 {full : List Oper} {i j : Nat} {o : Oper} (ho : full[i]? = some o) (h : j ∈ wL o) : zM full i j = true := by
 obtain ⟨e, he, h1, h2⟩ := zWg.1 h
 unfold zM vN
 rw [ho]
 simp only [Array.any_eq_true']
 exact ⟨e, he, by rw [h1, h2]; simp⟩
section
variable {γ : Type}
noncomputable def opN (o : Option Nat) : Nat := @Option.rec Nat (fun _ => Nat) 0 (fun n => n) o
noncomputable def dirQ (l : List Nat) : Nat → (Nat → γ) → γ := @List.rec Nat (fun _ => Nat → (Nat → γ) → γ) (fun m k => k m) (fun j _ ih m k => fN (Nat.lor m (Nat.pow 2 j)) fun m => ih m k) l
noncomputable def mskQ (A : Tr Nat) (l : List Nat) : Nat → (Nat → γ) → γ := @List.rec Nat (fun _ => Nat → (Nat → γ) → γ) (fun m k => k m) (fun j _ ih m k => fN (Nat.lor m (Nat.lor (Nat.pow 2 j) (opN (getN A j)))) fun m => ih m k) l
theorem zT4 : ∀ (l : List Nat) (m : Nat), ∃ m', (∀ k : Nat → γ, dirQ l m k = k m') ∧ ∀ b, tb m' b = true → tb m b = true ∨ b ∈ l
 | [], m => ⟨m, fun _ => rfl, fun _ h => .inl h⟩
 | j :: r, m => by
  obtain ⟨m', h1, h2⟩ := zT4 r (Nat.lor m (Nat.pow 2 j))
  refine ⟨m', fun k => ?_, fun b hb => ?_⟩
  ·show fN (Nat.lor m (Nat.pow 2 j)) (fun m => dirQ r m k) = _
   rw [jC]; exact h1 k
  ·rcases h2 b hb with h | h
   ·rw [zXi, yOn] at h
    rcases h with h | h
    ·exact .inl h
    ·exact .inr (by rw [zWm h]; simp)
   ·exact .inr (by simp [h])
theorem zS2 (A : Tr Nat) : ∀ (l : List Nat) (m : Nat), ∃ m', (∀ k : Nat → γ, mskQ A l m k = k m') ∧ ∀ b, tb m' b = true → tb m b = true ∨ ∃ j ∈ l, b = j ∨ ∃ x, A.get j = some x ∧ tb x b = true
 | [], m => ⟨m, fun _ => rfl, fun _ h => .inl h⟩
 | j :: r, m => by
  obtain ⟨m', h1, h2⟩ := zS2 A r (Nat.lor m (Nat.lor (Nat.pow 2 j) (opN (getN A j))))
  refine ⟨m', fun k => ?_, fun b hb => ?_⟩
  ·show fN (Nat.lor m (Nat.lor (Nat.pow 2 j) (opN (getN A j)))) (fun m => mskQ A r m k) = _
   rw [jC]; exact h1 k
  ·rcases h2 b hb with h | ⟨j', hj, h⟩
   ·rw [zXi, zXi, yOn, yOn] at h
    rcases h with h | h | h
    ·exact .inl h
    ·exact .inr ⟨j, by simp, .inl (zWm h).symm⟩
    ·refine .inr ⟨j, by simp, .inr ?_⟩
     rw [yX] at h
     cases hA : A.get j with
     | none => rw [hA, show opN none = 0 from rfl, zKw] at h; cases h
     | some x => rw [hA] at h; exact ⟨x, rfl, h⟩
   ·exact .inr ⟨j', by simp [hj], h⟩
noncomputable def ancQ (l : List Oper) : Nat → Tr Nat → Tr Nat → (Tr Nat → Tr Nat → γ) → γ := @List.rec Oper (fun _ => Nat → Tr Nat → Tr Nat → (Tr Nat → Tr Nat → γ) → γ) (fun _ W A k => k W A)
 (fun o _ ih i W A k => dirQ (wL o) 0 fun w => mskQ A (wL o) 0 fun m => setP (some w) (pathQ i) W fun W => setP (some m) (pathQ i) A fun A => fN (Nat.succ i) fun i => ih i W A k) l
structure zZh (full : List Oper) (W A : Tr Nat) : Prop where
 dir : ∀ i m, W.get i = some m → ∀ b, tb m b = true → zM full i b = true
 anc : ∀ i m, A.get i = some m → ∀ b, tb m b = true → Anc full i b
theorem zTs {full : List Oper} : ∀ (l pre : List Oper) (W A : Tr Nat), full = pre ++ l → zZh full W A → ∃ W' A', zZh full W' A' ∧ ∀ k : Tr Nat → Tr Nat → γ, ancQ l pre.length W A k = k W' A'
 | [], pre, W, A, _, h => ⟨W, A, h, fun _ => rfl⟩
 | o :: r, pre, W, A, hf, h => by
  have ho : full[pre.length]? = some o := by rw [hf]; simp
  obtain ⟨w, w1, w2⟩ := zT4 (γ := γ) (wL o) 0
  obtain ⟨m, m1, m2⟩ := zS2 (γ := γ) A (wL o) 0
  obtain ⟨W', A', h1, h2⟩ := zTs (full := full) r (pre ++ [o]) (W.put pre.length (some w)) (A.put pre.length (some m)) (by rw [hf]; simp) ⟨fun i x hx b hb => by
    rw [Tr.get_put] at hx
    cases hi : Nat.beq i pre.length with
    | true =>
     rw [hi] at hx; cases hx
     rw [yMs hi]
     rcases w2 b hb with h | h
     ·rw [zKw] at h; cases h
     ·exact zH3 ho h
    | false => rw [hi] at hx; exact h.dir i x hx b hb, fun i x hx b hb => by
    rw [Tr.get_put] at hx
    cases hi : Nat.beq i pre.length with
    | true =>
     rw [hi] at hx; cases hx
     rw [yMs hi]
     rcases m2 b hb with h3 | ⟨j, hj, rfl | ⟨y, h3, h4⟩⟩
     ·rw [zKw] at h3; cases h3
     ·exact .one (zH3 ho hj)
     ·exact .more (zH3 ho hj) (h.anc j y h3 b h4)
    | false => rw [hi] at hx; exact h.anc i x hx b hb⟩
  refine ⟨W', A', h1, fun k => ?_⟩
  show dirQ (wL o) 0 (fun w => mskQ A (wL o) 0 fun m => setP (some w) (pathQ pre.length) W fun W => setP (some m) (pathQ pre.length) A fun A => fN (Nat.succ pre.length) fun i => ancQ r i W A k) = _
  rw [w1, m1, wD, wD, jC]
  have := h2 k
  rw [yN1] at this
  exact this
end
noncomputable def dstQ (l : List Oper) {γ : Type} : Nat → Tr Nat → (Tr Nat → Option γ) → Option γ := @List.rec Oper (fun _ => Nat → Tr Nat → (Tr Nat → Option γ) → Option γ) (fun _ D k => k D)
 (fun o _ ih i D k => @Option.rec Nat (fun _ => Option γ) (fN (Nat.succ i) fun i => ih i D k) (fun d => @Option.rec Nat (fun _ => Option γ) (setP (some i) (pathQ d) D fun D => fN (Nat.succ i) fun i => ih i D k) (fun _ => none) (getN D d)) o.dst) l
def zZg (full : List Oper) (n : Nat) (D : Tr Nat) : Prop := ∀ j o d, j < n → full[j]? = some o → o.dst = some d → D.get d = some j
theorem zM9 {full : List Oper} {γ : Type} : ∀ (l pre : List Oper) (D : Tr Nat) (k : Tr Nat → Option γ) (r : γ), full = pre ++ l → zZg full pre.length D → dstQ l pre.length D k = some r → ∃ D', zZg full full.length D' ∧ k D' = some r
 | [], pre, D, k, r, hf, h, hk => ⟨D, by rw [hf, yO9] at h ⊢; exact h, hk⟩
 | o :: l, pre, D, k, r, hf, h, hk => by
  have ho : full[pre.length]? = some o := by rw [hf]; simp
  have hf' : full = (pre ++ [o]) ++ l := by rw [hf]; simp
  have hl : (pre ++ [o]).length = pre.length + 1 := by simp
  change @Option.rec Nat (fun _ => Option γ) (fN (Nat.succ pre.length) fun i => dstQ l i D k) (fun d => @Option.rec Nat (fun _ => Option γ) (setP (some pre.length) (pathQ d) D fun D => fN (Nat.succ pre.length) fun i => dstQ l i D k) (fun _ => none) (getN D d)) o.dst = some r at hk
  cases hd : o.dst with
  | none =>
   rw [hd] at hk
   simp only [jC] at hk
   refine zM9 l (pre ++ [o]) D k r hf' (fun j o' d hj ho' hd' => ?_) (by rw [hl]; exact hk)
   rw [hl] at hj
   rcases yMn j pre.length with h1 | h1
   ·exact h j o' d h1 ho' hd'
   ·have : j = pre.length := by omega
    subst this
    rw [ho] at ho'; cases ho'
    rw [hd] at hd'; cases hd'
  | some d =>
   rw [hd] at hk
   simp only [yX] at hk
   cases hg : D.get d with
   | some x => rw [hg] at hk; cases hk
   | none =>
    rw [hg] at hk
    simp only [wD, jC] at hk
    refine zM9 l (pre ++ [o]) (D.put d (some pre.length)) k r hf' (fun j o' d' hj ho' hd' => ?_) (by rw [hl]; exact hk)
    rw [hl] at hj
    rw [Tr.get_put]
    rcases yMn j pre.length with h1 | h1
    ·have h2 := h j o' d' h1 ho' hd'
     cases hb : Nat.beq d' d with
     | true => rw [yMs hb, hg] at h2; cases h2
     | false => exact h2
    ·have : j = pre.length := by omega
     subst this
     rw [ho] at ho'; cases ho'
     rw [hd] at hd'; cases hd'
     rw [yMr]; rfl
noncomputable def tbT (W : Tr Nat) (i j : Nat) : Bool := @Option.rec Nat (fun _ => Bool) false (fun m => tb m j) (getN W i)
theorem zQk {W : Tr Nat} {i j : Nat} (h : tbT W i j = true) : ∃ m, W.get i = some m ∧ tb m j = true := by
 unfold tbT at h
 rw [yX] at h
 cases hW : W.get i with
 | none => rw [hW] at h; cases h
 | some m => rw [hW] at h; exact ⟨m, rfl, h⟩
def zRm (o : Oper) : Bool := match o.op with
 | .defer _ => false
 | _ => true
noncomputable def oneD (full : List Oper) (W D : Tr Nat) (i : Nat) (o : Oper) : Bool := anB (zRm o) (anB (allQ (fun e => Nat.blt e i) (wL o)) (allQ (fun t => @Option.rec Nat (fun _ => Bool) true (fun j => orB (Nat.beq j i) (orB (anB (Nat.blt j i) (tbT W i j)) (anB (Nat.blt i j) (tbT W j i)))) (getN D t)) (o.looksAt full.toArray)))
noncomputable def eachD (p : Nat → Oper → Bool) (l : List Oper) : Nat → Bool := @List.rec Oper (fun _ => Nat → Bool) (fun _ => true) (fun o _ ih i => @Bool.rec (fun _ => Bool) false (fN (Nat.succ i) ih) (p i o)) l
theorem zO4 {full : List Oper} {p : Nat → Oper → Bool} : ∀ (l pre : List Oper), full = pre ++ l → eachD p l pre.length = true → ∀ i o, pre.length ≤ i → full[i]? = some o → p i o = true
 | [], pre, hf, _, i, o, hi, ho => by
  have : i < full.length := (yNd.1 ho).1
  rw [hf, yO9] at this; omega
 | x :: r, pre, hf, h, i, o, hi, ho => by
  change @Bool.rec (fun _ => Bool) false (fN (Nat.succ pre.length) (eachD p r)) (p pre.length x) = true at h
  rw [jC] at h
  cases hp : p pre.length x with
  | false => rw [hp] at h; cases h
  | true =>
   rw [hp] at h
   rcases yMn pre.length i with h1 | h1
   ·exact zO4 r (pre ++ [x]) (by rw [hf]; simp) (by rw [yN1]; exact h) i o (by rw [yN1]; exact h1) ho
   ·have : i = pre.length := by omega
    subst this
    rw [hf] at ho
    simp at ho
    subst ho; exact hp
theorem zZ0 {full : List Oper} {W A D : Tr Nat} (hA : zZh full W A) (hD : zZg full full.length D) (h : eachD (oneD full W D) full 0 = true) : yCl full := by
 have h1 := zO4 full [] rfl h
 have lt : ∀ {i : Nat} {o : Oper}, full[i]? = some o → i < full.length := fun h => (yNd.1 h).1
 have g : ∀ i o, full[i]? = some o → zRm o = true ∧ (∀ e ∈ wL o, Nat.blt e i = true) ∧ ∀ t ∈ o.looksAt full.toArray, @Option.rec Nat (fun _ => Bool) true (fun j => orB (Nat.beq j i) (orB (anB (Nat.blt j i) (tbT W i j)) (anB (Nat.blt i j) (tbT W j i)))) (getN D t) = true := fun i o ho => by
  have := h1 i o (yMh _) ho
  unfold oneD at this
  rw [zBw, zBw, yNj, yNj] at this
  exact ⟨this.1, v7 this.2.1, v7 this.2.2⟩
 refine ⟨fun i o ho e he hb => ?_, fun i j o o' d ho ho' hd hd' => ?_, fun i o t ho ht j o' ho' hd => ?_, fun o ho c hc => ?_⟩
 ·exact yY ((g i o ho).2.1 e.on (zWg.2 ⟨e, he, rfl, hb⟩))
 ·have e1 := hD i o d (lt ho) ho hd
  have e2 := hD j o' d (lt ho') ho' hd'
  rw [e1] at e2; cases e2; rfl
 ·have e1 := hD j o' t (lt ho') ho' hd
  have e2 := (g i o ho).2.2 t ht
  rw [yX, e1] at e2
  change orB (Nat.beq j i) (orB (anB (Nat.blt j i) (tbT W i j)) (anB (Nat.blt i j) (tbT W j i))) = true at e2
  simp only [zWs, zBw, yOn, yNj] at e2
  rcases e2 with e2 | e2 | e2
  ·exact .inl (yMs e2)
  ·obtain ⟨m, e3, e4⟩ := zQk e2.2
   exact .inr (.inl ⟨yY e2.1, hA.dir _ _ e3 _ e4⟩)
  ·obtain ⟨m, e3, e4⟩ := zQk e2.2
   exact .inr (.inr ⟨yY e2.1, hA.dir _ _ e3 _ e4⟩)
 ·obtain ⟨i, hi⟩ := yOw ho
  have := (g i o hi).1
  unfold zRm at this
  rw [hc] at this; cases this
noncomputable def mayQ (p : Oper → Bool) (l : List Oper) : Nat → List Nat := @List.rec Oper (fun _ => Nat → List Nat) (fun _ => []) (fun o _ ih i => @Bool.rec (fun _ => List Nat) (ih (Nat.succ i)) (i :: ih (Nat.succ i)) (p o)) l
theorem zNk {p : Oper → Bool} : ∀ (l : List Oper) (n i : Nat), i ∈ mayQ p l n ↔ ∃ d o, i = n + d ∧ l[d]? = some o ∧ p o = true
 | [], n, i => by simp [mayQ]
 | x :: r, n, i => by
  have ih := zNk (p := p) r (n + 1) i
  have key : (∃ d o, i = n + d ∧ (x :: r)[d]? = some o ∧ p o = true) ↔ ((i = n ∧ p x = true) ∨ ∃ d o, i = (n + 1) + d ∧ r[d]? = some o ∧ p o = true) := by
   constructor
   ·rintro ⟨d, o, h1, h2, h3⟩
    cases d with
    | zero => simp at h2; subst h2; exact .inl ⟨by omega, h3⟩
    | succ d => exact .inr ⟨d, o, by omega, by simpa using h2, h3⟩
   ·rintro (⟨h1, h2⟩ | ⟨d, o, h1, h2, h3⟩)
    ·exact ⟨0, x, by omega, by simp, h2⟩
    ·exact ⟨d + 1, o, by omega, by simpa using h2, h3⟩
  rw [key]
  show i ∈ @Bool.rec (fun _ => List Nat) (mayQ p r (n + 1)) (n :: mayQ p r (n + 1)) (p x) ↔ _
  cases hp : p x with
  | false => simp only [ih]; simp
  | true => simp only [yNa, ih]; simp
theorem zJj {p : Oper → Bool} {l : List Oper} {i : Nat} : i ∈ mayQ p l 0 ↔ ∃ o, l[i]? = some o ∧ p o = true := by
 rw [zNk]
 constructor
 ·rintro ⟨d, o, h1, h2, h3⟩
  rw [yN9] at h1
  subst h1
  exact ⟨o, h2, h3⟩
 ·rintro ⟨o, h2, h3⟩; exact ⟨i, o, by omega, h2, h3⟩
def zL0 (o : Oper) : Bool := zFu o && o.guard.isNone
noncomputable def pairQ (A : Tr Nat) (M : List Nat) : Bool := allQ (fun b => allQ (fun a => orB (Nat.ble b a) (tbT A b a)) M) M
noncomputable def exclQ (A : Tr Nat) (S : List Nat) (i k : Nat) : Bool := anyQ (fun j => @Bool.rec (fun _ => Bool) (tbT A i j) (tbT A j i) (Nat.blt j k)) S
noncomputable def nomayQ (M : List Nat) (i k : Nat) : Bool := allQ (fun j => noB (@Bool.rec (fun _ => Bool) (anB (Nat.ble k j) (Nat.blt j i)) (anB (Nat.ble i j) (Nat.blt j k)) (Nat.ble i k))) M
noncomputable def cutsQ (A : Tr Nat) (M S : List Nat) (i : Nat) (C : List Nat) : List Nat := @List.rec Nat (fun _ => List Nat) [] (fun k _ ih => @Bool.rec (fun _ => List Nat) (@Bool.rec (fun _ => List Nat) (k :: ih) ih (nomayQ M i k)) ih (exclQ A S i k)) C
theorem zO9 {A : Tr Nat} {M S : List Nat} {i : Nat} : ∀ {C : List Nat} {k : Nat}, k ∈ C → exclQ A S i k = true ∨ nomayQ M i k = true ∨ k ∈ cutsQ A M S i C
 | [], _, h => by cases h
 | x :: r, k, h => by
  show _ ∨ _ ∨ k ∈ @Bool.rec (fun _ => List Nat) (@Bool.rec (fun _ => List Nat) (x :: cutsQ A M S i r) (cutsQ A M S i r) (nomayQ M i x)) (cutsQ A M S i r) (exclQ A S i x)
  rcases yNa.1 h with rfl | h
  ·cases h1 : exclQ A S i k with
   | true => exact .inl rfl
   | false =>
    cases h2 : nomayQ M i k with
    | true => exact .inr (.inl rfl)
    | false => exact .inr (.inr sq)
  ·rcases zO9 (A := A) (M := M) (S := S) (i := i) h with h1 | h1 | h1
   ·exact .inl h1
   ·exact .inr (.inl h1)
   ·refine .inr (.inr ?_)
    cases exclQ A S i x with
    | true => exact h1
    | false =>
     cases nomayQ M i x with
     | true => exact h1
     | false => exact yNy _ h1
noncomputable def flagQ (A : Tr Nat) (M S C : List Nat) (l : List Oper) : Nat → Option (List (Nat × Oper × List Nat)) := @List.rec Oper (fun _ => Nat → Option (List (Nat × Oper × List Nat))) (fun _ => some [])
 (fun o _ ih i => @Bool.rec (fun _ => Option (List (Nat × Oper × List Nat))) (ih (Nat.succ i)) (@List.rec Nat (fun _ => Option (List (Nat × Oper × List Nat))) (ih (Nat.succ i)) (fun k ks _ => @Bool.rec (fun _ => Option (List (Nat × Oper × List Nat))) none (@Option.rec _ (fun _ => Option (List (Nat × Oper × List Nat))) none (fun l => some ((i, o, k :: ks) :: l)) (ih (Nat.succ i))) o.guard.isNone) (cutsQ A M S i C)) (kZ o.op)) l
theorem zNu {A : Tr Nat} {M S C : List Nat} : ∀ (l : List Oper) (n : Nat) (fl : List (Nat × Oper × List Nat)), flagQ A M S C l n = some fl → ∀ d o, l[d]? = some o → kZ o.op = true → ∀ k ∈ cutsQ A M S (n + d) C, o.guard = none ∧ ∃ ks, (n + d, o, ks) ∈ fl ∧ k ∈ ks
 | [], _, _, _, d, o, ho, _, _, _ => by simp at ho
 | x :: r, n, fl, h, d, o, ho, hl, k, hk => by
  change @Bool.rec (fun _ => Option (List (Nat × Oper × List Nat))) (flagQ A M S C r (n + 1)) (@List.rec Nat (fun _ => Option (List (Nat × Oper × List Nat))) (flagQ A M S C r (n + 1)) (fun k ks _ => @Bool.rec (fun _ => Option (List (Nat × Oper × List Nat))) none (@Option.rec _ (fun _ => Option (List (Nat × Oper × List Nat))) none (fun l => some ((n, x, k :: ks) :: l)) (flagQ A M S C r (n + 1))) x.guard.isNone) (cutsQ A M S n C)) (kZ x.op) = some fl at h
  have rest : ∀ fl', flagQ A M S C r (n + 1) = some fl' → (∀ e ∈ fl', e ∈ fl) → ∀ d' , d = d' + 1 → o.guard = none ∧ ∃ ks, (n + d, o, ks) ∈ fl ∧ k ∈ ks := fun fl' h1 h2 d' hd => by
   subst hd
   obtain ⟨g1, ks, g2, g3⟩ := zNu r (n + 1) fl' h1 d' o (by simpa using ho) hl k (by rw [show n + 1 + d' = n + (d' + 1) by omega]; exact hk)
   exact ⟨g1, ks, h2 _ (by rw [show n + (d' + 1) = n + 1 + d' by omega]; exact g2), g3⟩
  cases hx : kZ x.op with
  | false =>
   rw [hx] at h
   cases d with
   | zero => simp at ho; subst ho; rw [hx] at hl; cases hl
   | succ d => exact rest fl h (fun _ h => h) d rfl
  | true =>
   rw [hx] at h
   cases hc : cutsQ A M S n C with
   | nil =>
    rw [hc] at h
    cases d with
    | zero => rw [Nat.add_zero, hc] at hk; cases hk
    | succ d => exact rest fl h (fun _ h => h) d rfl
   | cons k0 ks =>
    rw [hc] at h
    cases hg : x.guard.isNone with
    | false => rw [hg] at h; cases h
    | true =>
     rw [hg] at h
     cases hr : flagQ A M S C r (n + 1) with
     | none => rw [hr] at h; cases h
     | some fl' =>
      rw [hr] at h
      cases h
      cases d with
      | zero =>
       simp at ho
       subst ho
       refine ⟨by simpa using hg, k0 :: ks, by simp, ?_⟩
       rw [← hc]; exact hk
      | succ d => exact rest fl' hr (fun _ h => yNy _ h) d rfl
noncomputable def statQ (full : List Oper) : Option (List (Nat × Oper × List Nat)) := ancQ full 0 .e .e fun W A => dstQ full 0 .e fun D => @Bool.rec (fun _ => Option (List (Nat × Oper × List Nat))) none
 (@Bool.rec (fun _ => Option (List (Nat × Oper × List Nat))) none (flagQ A (mayQ zFu full 0) (mayQ zL0 full 0) (0 :: (mayQ zFu full 0).map Nat.succ) full 0) (pairQ A (mayQ zFu full 0))) (eachD (oneD full W D) full 0)
theorem zUj {full : List Oper} {fl : List (Nat × Oper × List Nat)} (h : statQ full = some fl) : yCl full ∧ ∃ A : Tr Nat, (∀ i j, tbT A i j = true → Anc full i j) ∧ pairQ A (mayQ zFu full 0) = true ∧ flagQ A (mayQ zFu full 0) (mayQ zL0 full 0) (0 :: (mayQ zFu full 0).map Nat.succ) full 0 = some fl := by
 obtain ⟨W, A, hA, hk⟩ := zTs (full := full) (γ := Option (List (Nat × Oper × List Nat))) full [] .e .e rfl ⟨fun i m h => (by cases h), fun i m h => (by cases h)⟩
 unfold statQ at h
 change ∀ k, ancQ full 0 .e .e k = k W A at hk
 rw [hk] at h
 obtain ⟨D, hD, h⟩ := zM9 full [] .e _ fl rfl (fun j o d hj => by cases hj) h
 cases h1 : eachD (oneD full W D) full 0 with
 | false => rw [h1] at h; cases h
 | true =>
  rw [h1] at h
  cases h2 : pairQ A (mayQ zFu full 0) with
  | false => rw [h2] at h; cases h
  | true =>
   rw [h2] at h
   exact ⟨zZ0 hA hD h1, A, fun i j h => by
    obtain ⟨m, e1, e2⟩ := zQk h
    exact hA.anc _ _ e1 _ e2, h2, h⟩
theorem zEk : ∀ (l : List Oper) (n : Nat), zBg false l n = l.map fun o => (o, none)
 | [], _ => rfl
 | o :: r, n => by simp only [zBg, Bool.false_and, yN5, yNm, zEk r n]
theorem zGw : ∀ (l : List Oper) (n : Nat), zQ2 false l n = n
 | [], _ => rfl
 | o :: r, n => by simp only [zQ2, Bool.false_and, yN5, zGw r n]
def zTy (l : List Oper) (R : List Rec) : Prop := ∀ (i : Nat) o q, l[i]? = some o → R[i]? = some q → q.flt = none ∧ (q.eff = true → zFu o = true) ∧ (zL0 o = true → q.eff = true)
theorem zTy.cons {l : List Oper} {R : List Rec} (h : zTy l R) {o : Oper} {q : Rec} (h1 : q.flt = none) (h2 : q.eff = true → zFu o = true) (h3 : zL0 o = true → q.eff = true) : zTy (o :: l) (q :: R) := fun i o' q' ho hq => by
 cases i with
 | zero => cases ho; cases hq; exact ⟨h1, h2, h3⟩
 | succ i => exact h i o' q' (by simpa using ho) (by simpa using hq)
theorem zPl {o : Oper} (h : yW o.op = true) : zFu o = true := by
 unfold zFu zZt
 cases ho : o.op with
 | call c =>
  rw [ho] at h
  simp only [yW] at h
  split at h
  ·rename_i hc; simp only [hc, Bool.true_or]
  ·rename_i hc; simp only [hc, Bool.true_or]
  ·cases h
 | _ => rw [ho] at h; cases h
theorem zY9 {T : TT} {h : CH} {nx : Nat} {sl : CS} {o : Oper} {r : CV × List (Nat × Option CB) × Nat} (hm : zAv T h nx sl o.op = some r) : zFu o = true := by
 unfold zFu zZt yD4
 cases ho : o.op with
 | call c =>
  rw [ho] at hm
  simp only [zAv] at hm
  split at hm
  ·rename_i hc _ _; simp only [hc, Bool.true_or]
  ·rename_i hc _ _; simp only [hc, Bool.true_or]
  ·rename_i hc _ _; simp only [hc, Bool.true_or]
  ·cases hm
 | _ => rw [ho] at hm; first | rfl | (simp only [zAv] at hm; cases hm)
theorem zRy {T : TT} {h : CH} {sl : CS} {o : Oper} {x : CV} (hm : opE T h sl o.op = some x) : zFu o = false := by
 unfold zFu zZt yD4
 cases ho : o.op with
 | call c =>
  rw [ho] at hm
  simp only [opE] at hm
  split at hm <;> first | (rename_i hc _ _; simp only [hc, Bool.or_self]; done) | (rename_i hc _; simp only [hc, Bool.or_self]; done) | (cases hm; done)
 | _ => rw [ho] at hm; first | rfl | (simp only [opE] at hm; cases hm)
def zZm (call : z6) (T : TT) (ops : Array Oper) (n : Nat) : List Oper → ES → (List ES → ES → Option ES) → Option ES
 | [], s, k => k [] s
 | o :: r, s, k => zWw false call T ops n o s fun s1 => zZm call T ops n r s1 fun L s' => k (s :: L) s'
noncomputable def stqL (call : z6) (T : TT) (ops : Array Oper) (n : Nat) (l : List FO) : ES → (List ES → ES → Option ES) → Option ES := @List.rec FO (fun _ => ES → (List ES → ES → Option ES) → Option ES) (fun s k => k [] s) (fun o _ ih s k => stepQ false call T ops n o s fun s1 => ih s1 fun L s' => k (s :: L) s') l
theorem zQn (call : z6) (T : TT) (ops : Array Oper) (n : Nat) : ∀ (l : List Oper) (s : ES) (k : List ES → ES → Option ES), stqL call T ops n (l.map (cO T ops n)) s k = zZm call T ops n l s k
 | [], _, _ => rfl
 | o :: r, s, k => by
  show stepQ false call T ops n (cO T ops n o) s (fun s1 => stqL call T ops n (r.map (cO T ops n)) s1 fun L s' => k (s :: L) s') = _
  rw [zMx, show (fun s1 => stqL call T ops n (r.map (cO T ops n)) s1 fun L s' => k (s :: L) s') = (fun s1 => zZm call T ops n r s1 fun L s' => k (s :: L) s') from funext fun s1 => zQn call T ops n r s1 _]
  rfl
theorem zE4 {call : z6} {T : TT} {ops : Array Oper} {n : Nat} : ∀ (l : List Oper) (s r : ES) (k : List ES → ES → Option ES), (∀ o ∈ l, ∀ sl, kJ sl o.op = none) → zZm call T ops n l s k = some r → ∃ R s', (∀ {γ : Type} (k : List Rec → ES → Option γ), zU4 call T ops n (l.map fun o => (o, none)) s k = k R s') ∧ zTy l R ∧ k (R.map (·.st)) s' = some r
 | [], s, r, k, _, h => ⟨[], s, fun k => rfl, fun i o q ho => by simp at ho, h⟩
 | o :: l, s, r, k, hd, h => by
  have hdr : ∀ o ∈ l, ∀ sl, kJ sl o.op = none := fun o ho => hd o (by simp [ho])
  simp only [zZm, zWw] at h
  simp only [yNm, zU4]
  cases hb : zB3 n o.dst with
  | false => rw [hb] at h; cases h
  | true =>
   rw [hb] at h
   simp only [yMq] at h ⊢
   cases hg : qK ops s.sl o with
   | none => rw [hg] at h; cases h
   | some g =>
    rw [hg] at h
    cases g with
    | false =>
     simp only [xI] at h
     obtain ⟨R, s', h1, h2, h3⟩ := zE4 l _ r _ hdr h
     refine ⟨⟨s, (false, .raw undef), false, none⟩ :: R, s', fun k => ?_, h2.cons rfl (fun h => by cases h) fun h => ?_, h3⟩
     ·simp only [Option.isNone_none, yMq, xI]
      exact h1 _
     ·unfold zL0 at h
      rw [yNj] at h
      have : o.guard = none := by simpa using h.2
      unfold qK at hg
      rw [this] at hg; cases hg
    | true =>
     simp only [doQ, hd o sq s.sl, zVw] at h
     simp only
     cases hc : yW o.op with
     | true =>
      rw [hc] at h
      simp only [yMq] at h ⊢
      cases he : zI5 call s.h s.nx s.sl o.op with
      | none => rw [he] at h; cases h
      | some q =>
       obtain ⟨x, h', nx'⟩ := q
       rw [he] at h
       simp only [xI] at h
       obtain ⟨R, s', h1, h2, h3⟩ := zE4 l _ r _ hdr h
       refine ⟨⟨s, (true, x), true, none⟩ :: R, s', fun k => ?_, h2.cons rfl (fun _ => zPl hc) (fun _ => rfl), h3⟩
       simp only [xI]
       exact h1 _
     | false =>
      rw [hc] at h
      simp only [yN5] at h ⊢
      cases he : opE T s.h s.sl o.op with
      | some x =>
       rw [he] at h
       simp only [CV.force_eq, xI] at h
       obtain ⟨R, s', h1, h2, h3⟩ := zE4 l _ r _ hdr h
       refine ⟨⟨s, (true, x), false, none⟩ :: R, s', fun k => ?_, h2.cons rfl (fun h => by cases h) (fun h => ?_), h3⟩
       ·simp only [CV.force_eq, xI]
        exact h1 _
       ·unfold zL0 at h
        rw [zRy he] at h; cases h
      | none =>
       rw [he] at h
       simp only at h ⊢
       cases hm : zAv T s.h s.nx s.sl o.op with
       | none => rw [hm] at h; cases h
       | some q =>
        obtain ⟨x, es, nx'⟩ := q
        rw [hm] at h
        simp only [CV.force_eq, zH2, zZ, xI] at h
        obtain ⟨R, s', h1, h2, h3⟩ := zE4 l _ r _ hdr h
        refine ⟨⟨s, (true, x), true, none⟩ :: R, s', fun k => ?_, h2.cons rfl (fun _ => zY9 hm) (fun _ => rfl), h3⟩
        simp only [CV.force_eq, zH2, zZ, xI]
        exact h1 _
noncomputable def stqN (L : List ES) (s' : ES) : Nat → ES := @List.rec ES (fun _ => Nat → ES) (fun _ => s') (fun s _ ih i => @Nat.rec (fun _ => ES) s (fun m _ => ih m) i) L
theorem zQm (s' : ES) : ∀ (R : List Rec) (i : Nat), stqN (R.map (·.st)) s' i = stD R s' i
 | [], _ => rfl
 | q :: R, 0 => rfl
 | q :: R, i + 1 => (zQm s' R i).trans (by unfold stD; rw [yMd])
noncomputable def chkQ (T : TT) (L : List ES) (s' : ES) (fl : List (Nat × Oper × List Nat)) : Bool := allQ (fun e => @Option.rec CV (fun _ => Bool) false (fun x => allQ (fun k => @Option.rec CV (fun _ => Bool) false (fun y => CV.beq y x) (opE T (stqN L s' k).h (stqN L s' e.1).sl e.2.1.op)) e.2.2) (opE T (stqN L s' e.1).h (stqN L s' e.1).sl e.2.1.op)) fl
theorem zZ5 {T : TT} {R : List Rec} {s' : ES} {fl : List (Nat × Oper × List Nat)} (h : chkQ T (R.map (·.st)) s' fl = true) {i k : Nat} {o : Oper} {ks : List Nat} (hm : (i, o, ks) ∈ fl) (hk : k ∈ ks) : opE T (stD R s' k).h (stD R s' i).sl o.op = opE T (stD R s' i).h (stD R s' i).sl o.op := by
 have h1 := v7 h _ hm
 simp only [zQm] at h1
 cases h2 : opE T (stD R s' i).h (stD R s' i).sl o.op with
 | none => rw [h2] at h1; cases h1
 | some x =>
  rw [h2] at h1
  have h3 := v7 h1 _ hk
  cases h4 : opE T (stD R s' k).h (stD R s' i).sl o.op with
  | none => rw [h4] at h3; cases h3
  | some y =>
   rw [h4] at h3
   rw [CV.beq_ok _ _ h3]
section
variable {call : z6} {T : TT} {n : Nat} {ops : Array Oper} {s s' : ES} {R : List Rec}
theorem zEr (S : zMn call T ops n (ops.toList.map fun o => (o, none)) s R s') (hr : zTy ops.toList R) : ∀ (d k : Nat), k + d ≤ R.length → (∀ j, k ≤ j → j < k + d → xW R j = false) → (stD R s' (k + d)).h = (stD R s' k).h
 | 0, _, _, _ => rfl
 | d + 1, k, hl, he => by
  rw [show k + (d + 1) = k + d + 1 by omega]
  refine Eq.trans ?_ (zEr S hr d k oq fun j h1 h2 => he j h1 oq)
  have hkl : k + d < R.length := by omega
  have hq : R[k + d]? = some R[k + d] := yNf hkl
  have hlen : R.length = ops.toList.length := by rw [S.1]; simp
  have ho : ops.toList[k + d]? = some (ops.toList[k + d]'oq) := yNf oq
  have hst : (stD R s' (k + d)) = (R[k + d]).st := by unfold stD; rw [hq]
  have hef := he (k + d) oq oq
  unfold xW at hef
  rw [hq] at hef
  have hfl := (hr _ _ _ ho hq).1
  obtain ⟨_, _, _, h4⟩ := S.2.2 (k + d) (ops.toList[k + d]'oq, none) _ (by rw [yNg, ho]; rfl) hq
  rw [hst]
  rcases h4 with h4 | ⟨x, h4⟩ | ⟨x, h4⟩ | ⟨x, m, blk, h4⟩
  ·exact h4.2.2.2.2.1
  ·exact h4.2.2.2.2.2.2.1
  ·have h5 := h4.2.2.2.1
   simp only at hef
   rw [h5] at hef; cases hef
  ·rw [h4.2.2.2.2.2.1] at hfl; cases hfl
theorem zVx {P : Program} (hC : wH P call) (hT : TOk P T) (hm : P.follows .mixedOrders = true) {fl : List (Nat × Oper × List Nat)} (hs : statQ ops.toList = some fl) {r : ES} (h : zZm call T ops n ops.toList s (fun L s' => ifQ (chkQ T L s' fl) (some s') none) = some r)
  (id : Nat) (w0 : FW) (ro : Option Nat) (φ : Phi) (a : Act) (w : World) (Q : Exit → Act → World → Prop) (hst : zDc P w0 n φ s a w) (hQ : ∀ φ' a' w', y0 φ w φ' w' → zDc P w0 n φ' r a' w' → Q .normal a' w') : (Code.region id ops true).wpIn (fen ro) 0 P Q a w := by
 obtain ⟨D, A, hA, hp, hf⟩ := zUj hs
 obtain ⟨R, s', hk, hr, hchk⟩ := zE4 ops.toList s r _ (fun o ho sl => by
  unfold kJ
  split
  ·rename_i c hc; exact absurd hc (D.plain o ho c)
  ·rfl) h
 rw [jY] at hchk
 cases hch : chkQ T (R.map (·.st)) s' fl with
 | false => rw [hch] at hchk; cases hchk
 | true =>
  rw [hch] at hchk
  cases hchk
  obtain ⟨R', s1, S, he⟩ := zAm (call := call) (T := T) (ops := ops) (n := n) (ops.toList.map fun o => (o, none)) s (fun R s' => some (R, s')) (R, r) (hk _)
  cases he
  have hlen : R.length = ops.toList.length := by rw [S.1]; simp
  have may : ∀ j, xW R j = true → j ∈ mayQ zFu ops.toList 0 ∧ j < ops.toList.length := fun j hj => by
   unfold xW at hj
   split at hj
   ·rename_i q hq
    have hjl : j < R.length := (yNd.1 hq).1
    have ho : ops.toList[j]? = some (ops.toList[j]'oq) := yNf oq
    exact ⟨zJj.2 ⟨_, ho, (hr _ _ _ ho hq).2.1 hj⟩, by omega⟩
   ·cases hj
  refine zEz hC hT hm false D (R := R) (by rw [zEk, zGw]; exact S) (fun L i hi hil h1 h2 j hj hji => ?_) ?_ (fun i o q ho hq hl he k hkl hkm L waitC hun waitL k3 => ?_) id w0 ro φ a w Q hst hQ
  ·have h3 := v7 (v7 hp i (may i hi).1) j (may j hj).1
   rw [zWs, yOn] at h3
   rcases h3 with h3 | h3
   ·have := yP8 h3; omega
   ·exact (hA _ _ h3).first h2 h1
  ·unfold zPn
   rw [yP7]
   intro i hi
   have hil : i < R.length := yOv.1 hi
   have ho : ops.toList[i]? = some (ops.toList[i]'oq) := yNf oq
   have hq : R[i]? = some R[i] := yNf hil
   rw [hq]
   simp only [(hr _ _ _ ho hq).1, Option.isNone_none, Bool.true_or]
  ·have hil : i < R.length := (yNd.1 hq).1
   have hnf := hr _ _ _ ho hq
   have hnm : zFu o = false := by
    unfold zFu zZt yD4
    cases h6 : o.op <;> rw [h6] at hl <;> first | rfl | cases hl
   have hst : (stD R r i) = q.st := by unfold stD; rw [hq]
   have own : opE T (stD R r i).h (stD R r i).sl o.op = some q.ent.2 := by
    rw [hst]
    obtain ⟨_, _, _, h4⟩ := S.2.2 i (o, none) q (by rw [yNg, ho]; rfl) hq
    rcases h4 with h4 | ⟨x, h4⟩ | ⟨x, h4⟩ | ⟨x, m, blk, h4⟩
    ·rw [h4.2.1] at he; cases he
    ·rw [h4.2.2.2.1]; exact h4.2.1
    ·have := hnf.2.1 h4.2.2.2.1
     rw [hnm] at this; cases this
    ·have := hnf.1
     rw [h4.2.2.2.2.2.1] at this; cases this
   have hkC : k ∈ 0 :: (mayQ zFu ops.toList 0).map Nat.succ := by
    simp only [yNa, yO6] at hkm
    rcases hkm with rfl | ⟨j, hj, rfl⟩
    ·simp
    ·exact yNy _ (yO6.2 ⟨j, (may j (List.mem_filter.1 hj).2).1, rfl⟩)
   rw [← hst]
   rcases zO9 (A := A) (M := mayQ zFu ops.toList 0) (S := mayQ zL0 ops.toList 0) (i := i) hkC with h1 | h1 | h1
   ·exfalso
    obtain ⟨j, hj, h2⟩ := zTq h1
    obtain ⟨oj, hoj, hsj⟩ := zJj.1 hj
    have hjl : j < ops.toList.length := (yNd.1 hoj).1
    have hqj : R[j]? = some (R[j]'oq) := yNf oq
    have hej : xW R j = true := by
     unfold xW
     rw [hqj]
     exact (hr _ _ _ hoj hqj).2.2 hsj
    have h3 := k3 j hjl hej
    cases hb : Nat.blt j k with
    | true =>
     rw [hb] at h2
     exact hun ((hA _ _ h2).mem waitC (h3.2 (yY hb)))
    | false =>
     rw [hb] at h2
     have h4 := h3.1 ((hA _ _ h2).first waitC waitL)
     have : Nat.blt j k = true := by rw [yNz]; exact h4
     rw [hb] at this; cases this
   ·have noeff : ∀ j, (i ≤ j ∧ j < k) ∨ (k ≤ j ∧ j < i) → xW R j = false := fun j hj => by
     cases he : xW R j with
     | false => rfl
     | true =>
      exfalso
      have h2 := v7 h1 j (may j he).1
      rw [yBd] at h2
      cases hb : Nat.ble i k with
      | true =>
       rw [hb] at h2
       change (!(anB (Nat.ble i j) (Nat.blt j k))) = true at h2
       have h5 := yP8 hb
       have h3 : Nat.ble i j = true := yPs oq
       have h4 : Nat.blt j k = true := by rw [yNz]; omega
       rw [h3, h4] at h2; cases h2
      | false =>
       rw [hb] at h2
       change (!(anB (Nat.ble k j) (Nat.blt j i))) = true at h2
       have h5 : k < i := by
        rcases yMn k i with h6 | h6
        ·exact h6
        ·rw [yPs h6] at hb; cases hb
       have h3 : Nat.ble k j = true := yPs oq
       have h4 : Nat.blt j i = true := by rw [yNz]; omega
       rw [h3, h4] at h2; cases h2
    have hh : (stD R r k).h = (stD R r i).h := by
     rcases Nat.le_total i k with h8 | h8
     ·have := zEr S hr (k - i) i oq fun j h1 h2 => noeff j (.inl ⟨h1, by omega⟩)
      rw [show i + (k - i) = k by omega] at this
      exact this
     ·have := zEr S hr (i - k) k oq fun j h1 h2 => noeff j (.inr ⟨h1, by omega⟩)
      rw [show k + (i - k) = i by omega] at this
      exact this.symm
    rw [hh]; exact own
   ·obtain ⟨_, ks, h2, h3⟩ := zNu ops.toList 0 fl hf i o ho hl k (by rw [yN9]; exact h1)
    rw [yN9] at h2
    rw [zZ5 hch h2 h3]; exact own
end
noncomputable def drawQ (T : TT) (call : z6) (n : Nat) (ops : Array Oper) (s : ES) : Option ES := @Option.rec (List (Nat × Oper × List Nat)) (fun _ => Option ES) (drawE T call n ops s) (fun fl => stqL call T ops n (ops.toList.map (cO T ops n)) s fun L s' => ifQ (chkQ T L s' fl) (some s') none) (statQ ops.toList)
theorem zBp {P : Program} {T : TT} {call : z6} (hC : wH P call) (hT : TOk P T) (hm : P.follows .mixedOrders = true) (n : Nat) : zDd P n (drawQ T call n) := by
 intro id ops s s' h
 unfold drawQ at h
 cases hs : statQ ops.toList with
 | none => rw [hs] at h; exact zVy hC hT hm n id ops s s' h
 | some fl =>
  rw [hs] at h
  simp only [zQn] at h
  exact zVx hC hT hm hs h id
theorem yA3 {P : Program} {T : TT} (hT : TOk P T) {tr : Tr TI} (ks : List Nat) (h : zV3 (yKr T ks) = tr) : TOk P (getN tr) := fun t i hi => by
 rw [yX, ← h] at hi
 exact zXj hT ks t i hi
theorem yA4 {P : Program} {l : List (Nat × Func)} (hl : zKg P l) {tr : Tr Func} (h : zV3 l = tr) : zU9 P (fun f => (getN tr f).bind fnE) := fun f x hx => by
 simp only [yX] at hx
 rw [← h] at hx
 exact yBt hl.all f x hx
noncomputable def runsQ (O : FuncId → List CV → CH → Option CV) (T : TT) (F : FuncId → Option FnE) (m f : Nat) : Option Bool := match evalFQ O T F (drawQ T) m (.fn f) [] .e 0 with
 | some (.raw (.bool b), _, _) => some b
 | _ => none
theorem zUm {P : Program} {O : FuncId → List CV → CH → Option CV} {T : TT} {F : FuncId → Option FnE} (hM : MOk P) (hO : v8 P O) (hT : TOk P T) (hF : zU9 P F) (hm : P.follows .mixedOrders = true) (hg : P.globalNamed "internal/strconv.uint64pow10" = some zKz ∧ ∀ t z, zU1 t = some z → (P.info? t).bind (·.zero) = some z) {m f : Nat} {b : Bool} (h : runsQ O T F m f = some b) : wS P f ∧ ∀ (imm : Nat → Nat → Prop) (w : World), zBx P w → (∀ b o, imm b o → (w.cell? ⟨b, o, none⟩).isSome = true) →
  Calls P f #[] w fun e w' => ∃ v imm', e = .returned v ∧ Below w.heap.size w w' ∧ (∀ b o, imm b o → imm' b o) ∧ (∀ b o, imm' b o → imm b o ∨ w.heap.size ≤ b) ∧ (∀ b o, imm' b o → (w'.cell? ⟨b, o, none⟩).isSome = true) ∧ (AV.raw (.bool b)).rel ⟨imm', [], []⟩ w' v := by
 unfold runsQ at h
 rw [kH] at h
 exact yB5 hM hO hT hF (fun call n hC => zBp hC hT hm n) hg h
end Go.Proofs.YtioaahmkebojiaaGreatDoor
