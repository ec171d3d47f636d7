import Derived.Test.YtioaahmkebojiaaGreatDoorWC01
import Derived.Test.YtioaahmkebojiaaGreatDoorWC35
namespace Go.Proofs.YtioaahmkebojiaaGreatDoor
set_option linter.unusedVariables false
set_option linter.unusedSimpArgs false
set_option maxHeartbeats 4000000
set_option maxRecDepth 100000
set_option linter.unusedSectionVars false
open Go.RowKit
variable [SpT]
inductive Pt where
 | h
 | l (p : Pt)
 | r (p : Pt)
def zFt : Nat → Nat → Pt
 | 0, _ => .h
 | f + 1, k => bif Nat.beq k 0 then .h else bif Nat.beq (Nat.mod k 2) 1 then .l (zFt f (Nat.div (Nat.pred k) 2)) else .r (zFt f (Nat.div (Nat.pred k) 2))
def z4 (k : Nat) : Pt := zFt (k + 1) k
section
variable {β γ : Type}
noncomputable def topT (t : Tr β) : Option β := @Tr.rec β (fun _ => Option β) none (fun x _ _ _ _ => x) t
noncomputable def lefT (t : Tr β) : Tr β := @Tr.rec β (fun _ => Tr β) .e (fun _ l _ _ _ => l) t
noncomputable def rigT (t : Tr β) : Tr β := @Tr.rec β (fun _ => Tr β) .e (fun _ _ r _ _ => r) t
noncomputable def getP (p : Pt) : Tr β → Option β := @Pt.rec (fun _ => Tr β → Option β) (fun t => topT t) (fun _ ih t => ih (lefT t)) (fun _ ih t => ih (rigT t)) p
noncomputable def setP (o : Option β) (p : Pt) : Tr β → (Tr β → γ) → γ := @Pt.rec (fun _ => Tr β → (Tr β → γ) → γ)
 (fun t k => @Tr.rec β (fun _ => γ) (k (.n o .e .e)) (fun _ l r _ _ => k (.n o l r)) t)
 (fun _ ih t k => @Tr.rec β (fun _ => γ) (ih .e fun l => k (.n none l .e)) (fun x l r _ _ => ih l fun l' => k (.n x l' r)) t)
 (fun _ ih t k => @Tr.rec β (fun _ => γ) (ih .e fun r => k (.n none .e r)) (fun x l r _ _ => ih r fun r' => k (.n x l r')) t) p
theorem jZ : ∀ (f k : Nat) (t : Tr β), k < f → getP (zFt f k) t = t.get k
 | 0, _, _, h => absurd h (Nat.not_lt_zero _)
 | f + 1, k, t, h => by
  have hlt : Nat.beq k 0 = false → Nat.div (Nat.pred k) 2 < f := fun h0 => by
   have a0 : k ≠ 0 := fun e => by subst e; cases h0
   show (k - 1) / 2 < f
   omega
  unfold zFt
  cases hk : Nat.beq k 0 with
  | true =>
   obtain rfl := yMs hk
   cases t <;> rfl
  | false =>
   cases hm : Nat.beq (Nat.mod k 2) 1 with
   | true =>
    cases t with
    | e => exact (jZ f _ .e (hlt hk)).trans rfl
    | n x l r =>
     refine (jZ f _ l (hlt hk)).trans ?_
     simp only [Tr.get, hk, hm, yMq, yN5]
   | false =>
    cases t with
    | e => exact (jZ f _ .e (hlt hk)).trans rfl
    | n x l r =>
     refine (jZ f _ r (hlt hk)).trans ?_
     simp only [Tr.get, hk, hm, yN5]
theorem zCf (o : Option β) : ∀ (f k : Nat) (t : Tr β) (c : Tr β → γ), k < f → setP o (zFt f k) t c = c (Tr.set f k o t)
 | 0, _, _, _, h => absurd h (Nat.not_lt_zero _)
 | f + 1, k, t, c, h => by
  have hlt : Nat.beq k 0 = false → Nat.div (Nat.pred k) 2 < f := fun h0 => by
   have a0 : k ≠ 0 := fun e => by subst e; cases h0
   show (k - 1) / 2 < f
   omega
  unfold zFt
  cases hk : Nat.beq k 0 with
  | true => cases t <;> simp only [Tr.set, hk, yMq] <;> rfl
  | false =>
   cases hm : Nat.beq (Nat.mod k 2) 1 with
   | true =>
    cases t with
    | e =>
     simp only [Tr.set, hk, hm, yMq, yN5]
     exact zCf o f _ .e (fun l => c (.n none l .e)) (hlt hk)
    | n x l r =>
     simp only [Tr.set, hk, hm, yMq, yN5]
     exact zCf o f _ l (fun l => c (.n x l r)) (hlt hk)
   | false =>
    cases t with
    | e =>
     simp only [Tr.set, hk, hm, yN5]
     exact zCf o f _ .e (fun l => c (.n none .e l)) (hlt hk)
    | n x l r =>
     simp only [Tr.set, hk, hm, yN5]
     exact zCf o f _ r (fun r => c (.n x l r)) (hlt hk)
end
noncomputable def getN {β : Type} (t : Tr β) : Nat → Option β := @Tr.rec β (fun _ => Nat → Option β) (fun _ => none)
 (fun x _ _ ihl ihr k => @Nat.rec (fun _ => Option β) x (fun m _ => @Bool.rec (fun _ => Option β) (ihr (Nat.div m 2)) (ihl (Nat.div m 2)) (Nat.beq (Nat.mod m 2) 0)) k) t
theorem yX {β : Type} : ∀ (t : Tr β) (k : Nat), getN t k = t.get k
 | .e, _ => rfl
 | .n x l r, 0 => rfl
 | .n x l r, m + 1 => by
  have hl := yX l (Nat.div m 2)
  have hr := yX r (Nat.div m 2)
  have hm : Nat.beq (Nat.mod (m + 1) 2) 1 = Nat.beq (Nat.mod m 2) 0 := by
   rw [yN7, Nat.beq_eq, Nat.beq_eq]
   show (m + 1) % 2 = 1 ↔ m % 2 = 0
   omega
  show @Bool.rec (fun _ => Option β) (getN r (Nat.div m 2)) (getN l (Nat.div m 2)) (Nat.beq (Nat.mod m 2) 0) = _
  simp only [Tr.get, hm, show Nat.beq (m + 1) 0 = false from rfl, yN5, show Nat.pred (m + 1) = m from rfl]
  cases Nat.beq (Nat.mod m 2) 0
  ·exact hr
  ·exact hl
inductive FX where
 | tmp (p : Pt)
 | cst (v : CV)
def cX : Operand → FX
 | .tmp t => .tmp (z4 t)
 | .const v => .cst (zW2 v)
 | .func f => .cst (.raw (.func (.func f) #[] #[]))
 | .global g => .cst (.gp g 0)
noncomputable def evX {γ : Type} (x : FX) (sl : CS) (k : CV → Option γ) : Option γ := @FX.rec (fun _ => Option γ)
 (fun p => @Option.rec (Bool × CV) (fun _ => Option γ) none (fun e => @Prod.rec Bool CV (fun _ => Option γ) (fun b v => @Bool.rec (fun _ => Option γ) none (k v) b) e) (getP p sl))
 (fun v => k v) x
theorem qN {γ : Type} (x : Operand) (sl : CS) (k : CV → Option γ) : evX (cX x) sl k = (evT sl x).bind k := by
 cases x with
 | tmp t =>
  have h := jZ (t + 1) t sl (yPr t)
  simp only [evX, cX, z4, evT, evE, h]
  cases sl.get t with
  | none => rfl
  | some e => obtain ⟨b, v⟩ := e; cases b <;> rfl
 | const v => rfl
 | func f => rfl
 | global g => rfl
noncomputable def fN {γ : Type} (n : Nat) (k : Nat → γ) : γ := @Nat.rec (fun _ => γ) (k 0) (fun m _ => k (Nat.succ m)) n
theorem jC {γ : Type} (n : Nat) (k : Nat → γ) : fN n k = k n := by cases n <;> rfl
noncomputable def fI {γ : Type} (i : Int) (k : Int → γ) : γ := @Int.rec (fun _ => γ) (fun n => fN n fun n => k (Int.ofNat n)) (fun n => fN n fun n => k (Int.negSucc n)) i
theorem zM3 {γ : Type} (i : Int) (k : Int → γ) : fI i k = k i := by
 cases i with
 | ofNat n => exact jC n fun n => k (Int.ofNat n)
 | negSucc n => exact jC n fun n => k (Int.negSucc n)
noncomputable def fB {γ : Type} (b : Bool) (k : Bool → γ) : γ := @Bool.rec (fun _ => γ) (k false) (k true) b
theorem yLj {γ : Type} (b : Bool) (k : Bool → γ) : fB b k = k b := by cases b <;> rfl
noncomputable def ifQ {γ : Type} (b : Bool) (x y : γ) : γ := @Bool.rec (fun _ => γ) y x b
theorem jY {γ : Type} (b : Bool) (x y : γ) : ifQ b x y = bif b then x else y := by cases b <;> rfl
noncomputable def pathR (f : Nat) : Nat → Pt := @Nat.rec (fun _ => Nat → Pt) (fun _ => .h) (fun _ ih k => @Nat.rec (fun _ => Pt) .h (fun m _ => @Bool.rec (fun _ => Pt) (.r (ih (Nat.div m 2))) (.l (ih (Nat.div m 2))) (Nat.beq (Nat.mod m 2) 0)) k) f
theorem zOe (m : Nat) : Nat.beq (Nat.mod (m + 1) 2) 1 = Nat.beq (Nat.mod m 2) 0 := by
 rw [yN7, Nat.beq_eq, Nat.beq_eq]
 show (m + 1) % 2 = 1 ↔ m % 2 = 0
 omega
theorem zNb : ∀ (f k : Nat), pathR f k = zFt f k
 | 0, _ => rfl
 | f + 1, 0 => rfl
 | f + 1, m + 1 => by
  show @Bool.rec (fun _ => Pt) (.r (pathR f (Nat.div m 2))) (.l (pathR f (Nat.div m 2))) (Nat.beq (Nat.mod m 2) 0) = _
  rw [zNb f]
  show _ = bif Nat.beq (m + 1) 0 then Pt.h else bif Nat.beq (Nat.mod (m + 1) 2) 1 then .l (zFt f (Nat.div m 2)) else .r (zFt f (Nat.div m 2))
  rw [zOe m, show Nat.beq (m + 1) 0 = false from rfl]
  cases Nat.beq (Nat.mod m 2) 0 <;> rfl
noncomputable def pathQ (k : Nat) : Pt := pathR (Nat.succ k) k
theorem wD {β γ : Type} (k : Nat) (o : Option β) (t : Tr β) (c : Tr β → γ) : setP o (pathQ k) t c = c (t.put k o) := by
 rw [pathQ, zNb]
 exact zCf o _ _ t c (yPr k)
section
variable {γ : Type}
noncomputable def rawQ (v : CV) (a : Value → Option γ) (b : Option γ) : Option γ := @CV.rec (fun _ => Option γ) (fun _ => Unit) (fun x => a x) (fun _ _ => b) (fun _ _ => b) (fun _ _ => b) (fun _ _ _ _ _ => b) (fun _ _ _ _ _ => b) (fun _ => b) (fun _ => b) (fun _ _ => b) (fun _ => b) (fun _ _ _ => b) (fun _ _ => b) () (fun _ _ _ _ => ()) v
noncomputable def boxQ (v : CV) (a : Nat → Nat → Option γ) (b : Option γ) : Option γ := @CV.rec (fun _ => Option γ) (fun _ => Unit) (fun _ => b) (fun _ _ => b) (fun _ _ => b) (fun k o => a k o) (fun _ _ _ _ _ => b) (fun _ _ _ _ _ => b) (fun _ => b) (fun _ => b) (fun _ _ => b) (fun _ => b) (fun _ _ _ => b) (fun _ _ => b) () (fun _ _ _ _ => ()) v
noncomputable def bslQ (v : CV) (a : Nat → Nat → Nat → Nat → Option Nat → Option γ) (b : Option γ) : Option γ := @CV.rec (fun _ => Option γ) (fun _ => Unit) (fun _ => b) (fun _ _ => b) (fun _ _ => b) (fun _ _ => b) (fun s k o n c => a s k o n c) (fun _ _ _ _ _ => b) (fun _ => b) (fun _ => b) (fun _ _ => b) (fun _ => b) (fun _ _ _ => b) (fun _ _ => b) () (fun _ _ _ _ => ()) v
noncomputable def aggQ (v : CV) (a : List CV → Option γ) (b : Option γ) : Option γ := @CV.rec (fun _ => Option γ) (fun _ => Unit) (fun _ => b) (fun cs _ => a cs) (fun _ _ => b) (fun _ _ => b) (fun _ _ _ _ _ => b) (fun _ _ _ _ _ => b) (fun _ => b) (fun _ => b) (fun _ _ => b) (fun _ => b) (fun _ _ _ => b) (fun _ _ => b) () (fun _ _ _ _ => ()) v
noncomputable def tupQ (v : CV) (a : List CV → Option γ) (b : Option γ) : Option γ := @CV.rec (fun _ => Option γ) (fun _ => Unit) (fun _ => b) (fun _ _ => b) (fun cs _ => a cs) (fun _ _ => b) (fun _ _ _ _ _ => b) (fun _ _ _ _ _ => b) (fun _ => b) (fun _ => b) (fun _ _ => b) (fun _ => b) (fun _ _ _ => b) (fun _ _ => b) () (fun _ _ _ _ => ()) v
noncomputable def celQ (v : CV) (k : List CV → Option γ) : Option γ := aggQ v k (k [v])
theorem zMe (v : CV) (k : List CV → Option γ) : celQ v k = k (y5 v) := by cases v <;> rfl
noncomputable def vintQ (v : Value) (a : IntKind → Int → Option γ) (b : Option γ) : Option γ := @Value.casesOn (fun _ => Option γ) v (fun _ => b) (fun k n => a k n) (fun _ _ => b) (fun _ _ _ => b) (fun _ => b) (fun _ => b) (fun _ _ _ => b) (fun _ => b) (fun _ => b) (fun _ _ _ => b) b (fun _ _ => b) b (fun _ => b) (fun _ => b)
noncomputable def vboolQ (v : Value) (a : Bool → Option γ) (b : Option γ) : Option γ := @Value.casesOn (fun _ => Option γ) v (fun x => a x) (fun _ _ => b) (fun _ _ => b) (fun _ _ _ => b) (fun _ => b) (fun _ => b) (fun _ _ _ => b) (fun _ => b) (fun _ => b) (fun _ _ _ => b) b (fun _ _ => b) b (fun _ => b) (fun _ => b)
noncomputable def intQ (v : CV) (a : IntKind → Int → Option γ) (b : Option γ) : Option γ := rawQ v (fun v => vintQ v a b) b
noncomputable def bolQ (v : CV) (a : Bool → Option γ) (b : Option γ) : Option γ := rawQ v (fun v => vboolQ v a b) b
noncomputable def nthQ (cs : List CV) (off : Nat) (k : CV → Option γ) : Option γ := @List.rec CV (fun _ => Nat → Option γ) (fun _ => none) (fun x _ ih n => @Nat.rec (fun _ => Option γ) (k x) (fun m _ => ih m) n) cs off
theorem zLi : ∀ (cs : List CV) (off : Nat) (k : CV → Option γ), nthQ cs off k = (cs[off]?).bind k
 | [], off, k => rfl
 | x :: r, 0, k => rfl
 | x :: r, off + 1, k => (zLi r off k).trans sq
theorem zUz (cs : List CV) (off : Nat) (k : CV → Option γ) : nthQ cs off k = bif Nat.ble (off + 1) cs.length then k (yBc cs off) else none := by
 rw [zLi]
 cases hb : Nat.ble (off + 1) cs.length with
 | true => rw [zHl (yP8 hb)]; rfl
 | false =>
  rw [yNw (by
   rcases yMn off cs.length with h | h
   ·rw [yPs h] at hb; cases hb
   ·exact h)]
  rfl
noncomputable def takeQ (n : Nat) : List CV → (List CV → Option γ) → Option γ := @Nat.rec (fun _ => List CV → (List CV → Option γ) → Option γ) (fun _ k => k []) (fun _ ih cs k => @List.rec CV (fun _ => Option γ) none (fun x r _ => ih r fun xs => k (x :: xs)) cs) n
theorem zMv : ∀ (n : Nat) (cs : List CV) (k : List CV → Option γ), takeQ n cs k = bif Nat.ble n cs.length then k (cs.take n) else none
 | 0, cs, k => rfl
 | n + 1, [], k => rfl
 | n + 1, x :: r, k => (zMv n r fun xs => k (x :: xs)).trans rfl
noncomputable def dropQ (n : Nat) (cs : List CV) (k : List CV → Option γ) : Option γ := @Nat.rec (fun _ => List CV → Option γ) k (fun _ ih cs => @List.rec CV (fun _ => Option γ) none (fun _ r _ => ih r) cs) n cs
theorem zO6 : ∀ (n : Nat) (cs : List CV) (k : List CV → Option γ), dropQ n cs k = bif Nat.ble n cs.length then k (cs.drop n) else none
 | 0, cs, k => rfl
 | n + 1, [], k => rfl
 | n + 1, x :: r, k => (zO6 n r k).trans rfl
noncomputable def cutQ (agg : Bool) (sz : Nat) (cs : List CV) (off : Nat) (k : CV → Option γ) : Option γ := @Bool.rec (fun _ => Option γ) (nthQ cs off k) (dropQ off cs fun r => takeQ sz r fun xs => k (.agg xs)) agg
theorem zI3 {agg : Bool} {sz : Nat} (h : agg = true ∨ sz = 1) (cs : List CV) (off : Nat) (k : CV → Option γ) : cutQ agg sz cs off k = bif Nat.ble (off + sz) cs.length then k (zAc agg sz cs off) else none := by
 cases agg with
 | false =>
  obtain rfl : sz = 1 := h.resolve_left sq
  exact zUz cs off k
 | true =>
  show dropQ off cs (fun r => takeQ sz r fun xs => k (.agg xs)) = _
  rw [zO6]
  cases hb : Nat.ble off cs.length with
  | false =>
   have : Nat.ble (off + sz) cs.length = false := by
    cases hc : Nat.ble (off + sz) cs.length with
    | false => rfl
    | true =>
     have := yP8 hc
     rw [yPs oq] at hb; cases hb
   rw [this]; rfl
  | true =>
   have h1 := yP8 hb
   show takeQ sz (cs.drop off) _ = _
   rw [zMv, yOu]
   have : Nat.ble sz (cs.length - off) = Nat.ble (off + sz) cs.length := by
    rw [yN7, Nat.ble_eq, Nat.ble_eq]; omega
   rw [this]; rfl
noncomputable def overQ (us : List CV) : List CV → (List CV → Option γ) → Option γ := @List.rec CV (fun _ => List CV → (List CV → Option γ) → Option γ) (fun cs k => k cs) (fun u _ ih cs k => @List.rec CV (fun _ => Option γ) none (fun _ r _ => ih r fun r' => k (u :: r')) cs) us
theorem zNe : ∀ (us cs : List CV) (k : List CV → Option γ), overQ us cs k = bif Nat.ble us.length cs.length then k (qS us cs) else none
 | [], cs, k => by cases cs <;> rfl
 | u :: us, [], k => rfl
 | u :: us, c :: cs, k => (zNe us cs fun r => k (u :: r)).trans rfl
noncomputable def putLQ (n : Nat) (us : List CV) : List CV → (List CV → Option γ) → Option γ := @Nat.rec (fun _ => List CV → (List CV → Option γ) → Option γ) (fun cs k => overQ us cs k) (fun _ ih cs k => @List.rec CV (fun _ => Option γ) none (fun c r _ => ih r fun r' => k (c :: r')) cs) n
theorem zHh : ∀ (n : Nat) (us cs : List CV) (k : List CV → Option γ), putLQ n us cs k = bif Nat.ble (n + us.length) cs.length then k (wT cs n us) else none
 | 0, us, cs, k => by
  show overQ us cs k = _
  rw [zNe, yN9]
  cases cs <;> rfl
 | n + 1, us, [], k => by
  rw [show n + 1 + us.length = (n + us.length) + 1 by omega]; rfl
 | n + 1, us, c :: cs, k => by
  rw [show n + 1 + us.length = (n + us.length) + 1 by omega]
  exact (zHh n us cs fun r => k (c :: r)).trans rfl
noncomputable def onesQ (sz : Nat) (us : List CV) (k : Option γ) : Option γ := @List.rec CV (fun _ => Nat → Option γ) (fun n => @Nat.rec (fun _ => Option γ) k (fun _ _ => none) n) (fun x _ ih n => @Nat.rec (fun _ => Option γ) none (fun m _ => @Bool.rec (fun _ => Option γ) none (ih m) x.one) n) us sz
theorem zHj : ∀ (sz : Nat) (us : List CV) (k : Option γ), onesQ sz us k = bif vB us && Nat.beq us.length sz then k else none
 | 0, [], k => rfl
 | n + 1, [], k => rfl
 | 0, x :: us, k => by
  show none = _
  rw [show Nat.beq (x :: us).length 0 = false from rfl, Bool.and_false]; rfl
 | n + 1, x :: us, k => by
  show @Bool.rec (fun _ => Option γ) none (onesQ n us k) x.one = _
  rw [zHj n us k]
  simp only [vB]
  rw [show Nat.beq (x :: us).length (n + 1) = Nat.beq us.length n from rfl]
  cases x.one <;> rfl
noncomputable def cbQ (o : Option CB) (a : Bool → List CV → Option γ) : Option γ := @Option.rec CB (fun _ => Option γ) none (fun b => @CB.rec (fun _ => Option γ) (fun full cs => a full cs) (fun _ => none) (fun _ _ _ _ _ _ => none) none none b) o
end
noncomputable def hiK (k : IntKind) : Nat := @IntKind.rec (fun _ => Nat) 127 32767 2147483647 9223372036854775807 255 65535 4294967295 18446744073709551615 k
noncomputable def sgK (k : IntKind) : Bool := @IntKind.rec (fun _ => Bool) true true true true false false false false k
noncomputable def idK (k : IntKind) : Nat := @IntKind.rec (fun _ => Nat) 0 1 2 3 4 5 6 7 k
noncomputable def kqQ (a b : IntKind) : Bool := Nat.beq (idK a) (idK b)
theorem yBg (a b : IntKind) : kqQ a b = kEq a b := by cases a <;> cases b <;> rfl
noncomputable def inQ (k : IntKind) (x : Int) : Bool := @Int.rec (fun _ => Bool) (fun n => Nat.ble n (hiK k)) (fun n => @Bool.rec (fun _ => Bool) false (Nat.ble n (hiK k)) (sgK k)) x
theorem zJq (k : IntKind) (x : Int) : inQ k x = zLu k x := by
 have h0 : ∀ (n c : Nat) (l u : Int), l ≤ 0 → u = Int.ofNat c → Nat.ble n c = (leI l (Int.ofNat n) && leI (Int.ofNat n) u) := fun n c l u hl hu => by
  subst hu
  rw [yK, yK, yN7, Nat.ble_eq, yNj, yPk, yPk]
  have := Int.natCast_nonneg n
  simp only [Int.ofNat_eq_natCast]
  omega
 have h1 : ∀ (n c : Nat) (l u : Int), 0 ≤ u → l = -(Int.ofNat c) - 1 → Nat.ble n c = (leI l (Int.negSucc n) && leI (Int.negSucc n) u) := fun n c l u hu hl => by
  subst hl
  rw [yK, yK, yN7, Nat.ble_eq, yNj, yPk, yPk, Int.negSucc_eq, Int.ofNat_eq_natCast]
  omega
 have z : ∀ (n : Nat) (u : Int), false = (leI 0 (Int.negSucc n) && leI (Int.negSucc n) u) := fun n u => rfl
 cases x with
 | ofNat n =>
  show Nat.ble n (hiK k) = _
  cases k
  ·exact h0 n 127 (-128) 127 dq rfl
  ·exact h0 n 32767 (-32768) 32767 dq rfl
  ·exact h0 n 2147483647 (-2147483648) 2147483647 dq rfl
  ·exact h0 n 9223372036854775807 (-9223372036854775808) 9223372036854775807 dq rfl
  ·exact h0 n 255 (0) 255 dq rfl
  ·exact h0 n 65535 (0) 65535 dq rfl
  ·exact h0 n 4294967295 (0) 4294967295 dq rfl
  ·exact h0 n 18446744073709551615 (0) 18446744073709551615 dq rfl
 | negSucc n =>
  show @Bool.rec (fun _ => Bool) false (Nat.ble n (hiK k)) (sgK k) = _
  cases k
  ·exact h1 n 127 (-128) 127 dq rfl
  ·exact h1 n 32767 (-32768) 32767 dq rfl
  ·exact h1 n 2147483647 (-2147483648) 2147483647 dq rfl
  ·exact h1 n 9223372036854775807 (-9223372036854775808) 9223372036854775807 dq rfl
  ·exact z n 255
  ·exact z n 65535
  ·exact z n 4294967295
  ·exact z n 18446744073709551615
theorem zX3 {k : IntKind} (h : sgK k = false) (n : Nat) : k.wrap (Int.ofNat n) = Int.ofNat (n % (hiK k + 1)) := by
 cases k <;> first | (cases h; done) | (simp only [IntKind.wrap, IntKind.bits, IntKind.signed]; simp [hiK])
noncomputable def wrQ {γ : Type} (k : IntKind) (x : Int) (c : Int → γ) : γ := @Bool.rec (fun _ => γ) (@Bool.rec (fun _ => γ) (@Int.rec (fun _ => γ) (fun n => fN (Nat.mod n (Nat.succ (hiK k))) fun n => c (Int.ofNat n)) (fun n => fI (k.wrap (Int.negSucc n)) c) x) (fI (k.wrap x) c) (sgK k)) (c x) (inQ k x)
theorem zQ7 {γ : Type} (k : IntKind) (x : Int) (c : Int → γ) : wrQ k x c = c (k.wrap x) := by
 unfold wrQ
 cases h : inQ k x with
 | true =>
  rw [zJq] at h
  rw [yV (zCr h)]
 | false =>
  cases hs : sgK k with
  | true => exact zM3 _ _
  | false =>
   cases x with
   | ofNat n =>
    show fN (Nat.mod n (Nat.succ (hiK k))) _ = _
    rw [jC, zX3 hs]; rfl
   | negSucc n => exact zM3 _ _
noncomputable def i32Q (k : IntKind) : Bool := @IntKind.rec (fun _ => Bool) false false true true false false false false k
noncomputable def arQ {γ : Type} (k : IntKind) (x : Int) (c : CV → Option γ) : Option γ := fI x fun x => @Bool.rec (fun _ => Option γ) (@Bool.rec (fun _ => Option γ) (wrQ k x fun x => c (.raw (.int k x))) none (i32Q k)) (c (.raw (.int k x))) (inQ k x)
theorem zTn {γ : Type} (k : IntKind) (x : Int) (c : CV → Option γ) : arQ k x c = (arI k x).bind fun v => c (.raw v) := by
 unfold arQ arI
 rw [zM3, ← zJq]
 cases inQ k x with
 | true => rfl
 | false =>
  simp only [zQ7]
  cases k <;> rfl
noncomputable def ltQ (a b : Int) : Bool := @Int.rec (fun _ => Bool) (fun m => @Int.rec (fun _ => Bool) (fun n => Nat.blt m n) (fun _ => false) b) (fun m => @Int.rec (fun _ => Bool) (fun _ => true) (fun n => Nat.blt n m) b) a
theorem zJm (a b : Int) : ltQ a b = ltI a b := by cases a <;> cases b <;> rfl
noncomputable def eqQ (a b : Int) : Bool := @Int.rec (fun _ => Bool) (fun m => @Int.rec (fun _ => Bool) (fun n => Nat.beq m n) (fun _ => false) b) (fun m => @Int.rec (fun _ => Bool) (fun _ => false) (fun n => Nat.beq m n) b) a
theorem zT0 (a b : Int) : eqQ a b = eqI a b := by cases a <;> cases b <;> rfl
section
variable {γ : Type}
noncomputable def tB (b : Bool) (c : CV → Option γ) : Option γ := @Bool.rec (fun _ => Option γ) (c (.raw (.bool false))) (c (.raw (.bool true))) b
noncomputable def nB (b : Bool) (c : CV → Option γ) : Option γ := @Bool.rec (fun _ => Option γ) (c (.raw (.bool true))) (c (.raw (.bool false))) b
theorem zUg (b : Bool) (c : CV → Option γ) : tB b c = c (.raw (.bool b)) := by cases b <;> rfl
theorem zV1 (b : Bool) (c : CV → Option γ) : nB b c = c (.raw (.bool (!b))) := by cases b <;> rfl
abbrev KF (γ : Type) := IntKind → Int → Int → (CV → Option γ) → Option γ
noncomputable def genZ (op : BinOp) : KF γ := fun k a b c => @Option.rec Value (fun _ => Option γ) none (fun v => zNs v fun v => c (.raw v)) (zG6 op k a b)
theorem zAz (op : BinOp) (k : IntKind) (a b : Int) (c : CV → Option γ) : genZ op k a b c = (zG6 op k a b).bind fun v => c (.raw v) := by
 unfold genZ
 cases zG6 op k a b with
 | none => rfl
 | some v => exact zJt v _
noncomputable def addZ : KF γ := fun k a b c => arQ k (Int.add a b) c
noncomputable def subZ : KF γ := fun k a b c => arQ k (Int.sub a b) c
noncomputable def mulZ : KF γ := fun k a b c => arQ k (Int.mul a b) c
noncomputable def quoZ : KF γ := fun k a b c => ifQ (ltQ (Int.ofNat 0) b) (ifQ (inQ k a) (fI (Int.tdiv a b) fun x => c (.raw (.int k x))) none) none
noncomputable def remZ : KF γ := fun k a b c => ifQ (eqQ b (Int.ofNat 0)) none (fI (Int.tmod a b) fun x => c (.raw (.int k x)))
noncomputable def eqlZ : KF γ := fun _ a b c => tB (eqQ a b) c
noncomputable def neqZ : KF γ := fun _ a b c => nB (eqQ a b) c
noncomputable def lssZ : KF γ := fun _ a b c => tB (ltQ a b) c
noncomputable def leqZ : KF γ := fun _ a b c => nB (ltQ b a) c
noncomputable def gtrZ : KF γ := fun _ a b c => tB (ltQ b a) c
noncomputable def geqZ : KF γ := fun _ a b c => nB (ltQ a b) c
noncomputable def bitZ (op : BinOp) (f : Nat → Nat → Nat) : KF γ := fun k a b c => @Int.rec (fun _ => Option γ) (fun m => @Int.rec (fun _ => Option γ) (fun n => ifQ (Nat.ble m (hiK k)) (ifQ (Nat.ble n (hiK k)) (fN (f m n) fun x => c (.raw (.int k (Int.ofNat x)))) (genZ op k a b c)) (genZ op k a b c)) (fun _ => genZ op k a b c) b) (fun _ => genZ op k a b c) a
theorem zZa (k : IntKind) : hiK k + 1 = 2 ^ (bif sgK k then k.bits - 1 else k.bits) := by cases k <;> rfl
theorem yBq {k : IntKind} {m : Nat} (h : m ≤ hiK k) : m < 2 ^ k.bits := by
 refine yMl (Nat.lt_succ_of_le h) ?_
 show hiK k + 1 ≤ _
 cases k <;> decide
theorem vK {w m : Nat} (h : m < 2 ^ w) : (BitVec.ofInt w (Int.ofNat m)).toNat = m := by
 rw [BitVec.toNat_ofInt]
 have : ((Int.ofNat m : Int) % ((2 ^ w : Nat) : Int)) = (m : Int) := by
  rw [Int.ofNat_eq_natCast, ← Int.natCast_emod, Nat.mod_eq_of_lt h]
 rw [this]; rfl
theorem zX4 {k : IntKind} {x : Nat} (h : x ≤ hiK k) : k.wrap (x : Int) = x := yV (zCr (by rw [← zJq]; exact yPs h))
theorem yCa (f : Nat → Nat → Nat) (hf : ∀ n a b : Nat, a < 2 ^ n → b < 2 ^ n → f a b < 2 ^ n) {k : IntKind} {m n : Nat} (h1 : m ≤ hiK k) (h2 : n ≤ hiK k) : f m n ≤ hiK k := by
 have e := zZa k
 have := hf (bif sgK k then k.bits - 1 else k.bits) m n oq oq
 omega
theorem zMi {op : BinOp} {f : Nat → Nat → Nat} (hf : ∀ n a b : Nat, a < 2 ^ n → b < 2 ^ n → f a b < 2 ^ n)
  (hop : ∀ (k : IntKind) (m n : Nat), m < 2 ^ k.bits → n < 2 ^ k.bits → zG6 op k (Int.ofNat m) (Int.ofNat n) = some (.int k (k.wrap (f m n : Nat)))) (k : IntKind) (a b : Int) (c : CV → Option γ) : bitZ op f k a b c = (zG6 op k a b).bind fun v => c (.raw v) := by
 unfold bitZ
 cases a with
 | negSucc m => exact zAz _ _ _ _ _
 | ofNat m =>
  cases b with
  | negSucc n => exact zAz _ _ _ _ _
  | ofNat n =>
   simp only [jY, jC]
   cases h1 : Nat.ble m (hiK k) with
   | false => exact zAz _ _ _ _ _
   | true =>
    cases h2 : Nat.ble n (hiK k) with
    | false => exact zAz _ _ _ _ _
    | true =>
     have h1 := yP8 h1
     have h2 := yP8 h2
     simp only [yMq]
     rw [hop k m n (yBq h1) (yBq h2), zX4 (yCa f hf h1 h2)]
     rfl
noncomputable def shlZ : KF γ := fun k a b c => @Int.rec (fun _ => Option γ) (fun n => @Int.rec (fun _ => Option γ) (fun m => fI (Int.ofNat (Nat.mul m (Nat.pow 2 (@Bool.rec (fun _ => Nat) k.bits n (Nat.ble n k.bits))))) fun x => wrQ k x fun x => c (.raw (.int k x))) (fun _ => genZ .shl k a b c) a) (fun _ => none) b
noncomputable def shrZ : KF γ := fun k a b c => @Int.rec (fun _ => Option γ) (fun n => @Int.rec (fun _ => Option γ) (fun m => fN (Nat.div m (Nat.pow 2 (@Bool.rec (fun _ => Nat) k.bits n (Nat.ble n k.bits)))) fun x => c (.raw (.int k (Int.ofNat x)))) (fun _ => genZ .shr k a b c) a) (fun _ => none) b
theorem minQ (n m : Nat) : @Bool.rec (fun _ => Nat) m n (Nat.ble n m) = min n m := by
 cases h : Nat.ble n m with
 | true => exact (Nat.min_eq_left (yP8 h)).symm
 | false =>
  refine (Nat.min_eq_right ?_).symm
  rcases Nat.le_total m n with h1 | h1
  ·exact h1
  ·rw [yPs h1] at h; cases h
noncomputable def opF (op : BinOp) : KF γ := @BinOp.rec (fun _ => KF γ) addZ subZ mulZ quoZ remZ (bitZ .and Nat.land) (bitZ .or Nat.lor) (bitZ .xor Nat.xor) shlZ shrZ (genZ .andNot) eqlZ neqZ lssZ leqZ gtrZ geqZ op
theorem yBa (op : BinOp) (k : IntKind) (a b : Int) (c : CV → Option γ) : opF op k a b c = (zG6 op k a b).bind fun v => c (.raw v) := by
 cases op
 case add => exact zTn _ _ _
 case sub => exact zTn _ _ _
 case mul => exact zTn _ _ _
 case quo =>
  show ifQ (ltQ (Int.ofNat 0) b) (ifQ (inQ k a) (fI (Int.tdiv a b) fun x => c (.raw (.int k x))) none) none = _
  simp only [zG6, jY, zJm, zJq, zM3, show Int.ofNat 0 = (0 : Int) from rfl]
  cases ltI 0 b <;> cases zLu k a <;> rfl
 case rem =>
  show ifQ (eqQ b (Int.ofNat 0)) none (fI (Int.tmod a b) fun x => c (.raw (.int k x))) = _
  simp only [zG6, jY, zT0, zM3, show Int.ofNat 0 = (0 : Int) from rfl]
  cases eqI b 0 <;> rfl
 case and =>
  refine zMi (fun n a b ha _ => Nat.lt_of_le_of_lt Nat.and_le_left ha) (fun k m n h1 h2 => ?_) k a b c
  simp only [zG6, zF9, BitVec.toNat_and, vK h1, vK h2]
 case or =>
  refine zMi (fun n a b ha hb => Nat.or_lt_two_pow ha hb) (fun k m n h1 h2 => ?_) k a b c
  simp only [zG6, zF9, BitVec.toNat_or, vK h1, vK h2]
 case xor =>
  refine zMi (fun n a b ha hb => Nat.xor_lt_two_pow ha hb) (fun k m n h1 h2 => ?_) k a b c
  simp only [zG6, zF9, BitVec.toNat_xor, vK h1, vK h2]
 case shl =>
  cases b with
  | negSucc n => rfl
  | ofNat n =>
   cases a with
   | negSucc m => exact zAz .shl k (Int.negSucc m) (Int.ofNat n) c
   | ofNat m =>
    show fI (Int.ofNat (Nat.mul m (Nat.pow 2 (@Bool.rec (fun _ => Nat) k.bits n (Nat.ble n k.bits))))) (fun x => wrQ k x fun x => c (.raw (.int k x))) = _
    rw [zM3, zQ7, minQ]
    have : (Int.ofNat (Nat.mul m (Nat.pow 2 (min n k.bits)))) = (Int.ofNat m : Int) * 2 ^ (min n k.bits) := by
     show ((m * 2 ^ (min n k.bits) : Nat) : Int) = _
     rw [Int.natCast_mul, Int.natCast_pow]; rfl
    rw [this]; rfl
 case shr =>
  cases b with
  | negSucc n => rfl
  | ofNat n =>
   cases a with
   | negSucc m => exact zAz .shr k (Int.negSucc m) (Int.ofNat n) c
   | ofNat m =>
    show fN (Nat.div m (Nat.pow 2 (@Bool.rec (fun _ => Nat) k.bits n (Nat.ble n k.bits)))) (fun x => c (.raw (.int k (Int.ofNat x)))) = _
    rw [jC, minQ]
    have : (Int.ofNat (Nat.div m (Nat.pow 2 (min n k.bits)))) = (Int.ofNat m : Int).fdiv (2 ^ (min n k.bits)) := by
     have h2 : (2 : Int) ^ (min n k.bits) = ((2 ^ (min n k.bits) : Nat) : Int) := by rw [Int.natCast_pow]; rfl
     rw [h2]
     show (((m / 2 ^ (min n k.bits) : Nat)) : Int) = _
     rw [yPd _ (Int.natCast_nonneg _)]
     rfl
    rw [this]; rfl
 case andNot => exact zAz .andNot k a b c
 case eql => show tB _ c = _; rw [zUg, zT0]; rfl
 case neq => show nB _ c = _; rw [zV1, zT0]; rfl
 case lss => show tB _ c = _; rw [zUg, zJm]; rfl
 case leq => show nB _ c = _; rw [zV1, zJm]; rfl
 case gtr => show tB _ c = _; rw [zUg, zJm]; rfl
 case geq => show nB _ c = _; rw [zV1, zJm]; rfl
noncomputable def genV (T : TT) (op : BinOp) (t : TypeId) (v u : CV) (c : CV → Option γ) : Option γ := @Option.rec CV (fun _ => Option γ) none (fun r => r.force c) (zU6 T op t v u)
theorem zYo (T : TT) (op : BinOp) (t : TypeId) (v u : CV) (c : CV → Option γ) : genV T op t v u c = (zU6 T op t v u).bind c := by
 unfold genV
 cases zU6 T op t v u with
 | none => rfl
 | some r => exact CV.force_eq r c
noncomputable def binV (T : TT) (op : BinOp) (t : TypeId) (v u : CV) (c : CV → Option γ) : Option γ := intQ v (fun k a => intQ u (fun k' b => @Bool.rec (fun _ => Option γ) (@Bool.rec (fun _ => Option γ) none (opF op k a b c) (kqQ k k')) (opF op k a b c) (jX op)) (genV T op t v u c)) (genV T op t v u c)
theorem zZb (T : TT) (op : BinOp) (t : TypeId) (v u : CV) (c : CV → Option γ) : binV T op t v u c = (zU6 T op t v u).bind c := by
 have hg := zYo T op t v u c
 cases v with
 | raw x =>
  cases x with
  | int k a =>
   cases u with
   | raw y =>
    cases y with
    | int k' b =>
     show @Bool.rec (fun _ => Option γ) (@Bool.rec (fun _ => Option γ) none (opF op k a b c) (kqQ k k')) (opF op k a b c) (jX op) = _
     simp only [zU6, yBa, yBg]
     cases jX op <;> cases kEq k k' <;> simp only [yNi, Bool.true_or, yMq, yN5] <;> cases zG6 op k a b <;> rfl
    | _ => exact hg
   | _ => exact hg
  | _ => exact hg
 | _ => exact hg
end
abbrev F1 := CH → CV → (CV → Option ES) → Option ES
abbrev F2 := CV → CV → (CV → Option ES) → Option ES
noncomputable def nilF : F1 := fun _ v c => boxQ v (fun _ _ => c v) none
noncomputable def fldF (fo : Nat) : F1 := fun _ v c => boxQ v (fun k off => fN (Nat.add off fo) fun o => c (.box k o)) none
noncomputable def lodG (agg : Bool) (sz : Nat) (v : CV) (c : CV → Option ES) : Option ES := match v with
 | .gp g off => bif (Nat.beq g zKz && Nat.blt off 20) && (Nat.beq sz 1 && !agg) then xL (10 ^ off) fun n => c (.raw (.int .u64 (Int.ofNat n))) else bif Nat.beq g spN && (Nat.beq sz 1 && !agg) then (SpT.sp off).bind fun b => fB b fun b => c (.sym (.nz b)) else none
 | _ => none
noncomputable def lodF (agg : Bool) (sz : Nat) : F1 := fun h v c => boxQ v (fun k off => cbQ (getN h k) fun _ cs => cutQ agg sz cs off c) (lodG agg sz v c)
noncomputable def fidF (agg : Bool) (sz fo : Nat) : F1 := fun _ v c => aggQ v (fun cs => cutQ agg sz cs fo c) none
noncomputable def cvtF (k : IntKind) : F1 := fun _ v c => intQ v (fun _ n => wrQ k n fun n => c (.raw (.int k n))) none
noncomputable def notF : F1 := fun _ v c => bolQ v (fun b => nB b c) none
noncomputable def negF : F1 := fun _ v c => intQ v (fun k a => fI (Int.neg a) fun x => ifQ (inQ k x) (c (.raw (.int k x))) none) none
noncomputable def extF (i : Nat) : F1 := fun _ v c => tupQ v (fun vs => nthQ vs i c) none
def yD0 (v : CV) (c : CV → Option ES) : Option ES := match v with
 | .raw (.slice none 0 0) => c (.raw (.int .i64 0))
 | .row _ bnd => c (.sym (.rng .i64 0 bnd))
 | _ => none
noncomputable def lenF : F1 := fun _ v c => bslQ v (fun _ _ _ n _ => c (.raw (.int .i64 (Int.ofNat n)))) (yD0 v c)
noncomputable def ixsF (sz : Nat) : F2 := fun v u c => bslQ v (fun s k off n _ => intQ u (fun _ i => @Int.rec (fun _ => Option ES) (fun i => ifQ (Nat.blt i n) (ifQ (Nat.beq sz s) (fN (Nat.add off (Nat.mul i s)) fun o => c (.box k o)) none) none) (fun _ => none) i) none) none
def ixaG (n sz : Nat) (v u : CV) (c : CV → Option ES) : Option ES := match v, u with
 | .gp g off, .raw (.int _ i) => bif leI 0 i && ltI i n then c (.gp g (off + i.toNat * sz)) else none
 | _, _ => none
noncomputable def ixaF (n sz : Nat) : F2 := fun v u c => boxQ v (fun k off => intQ u (fun _ i => @Int.rec (fun _ => Option ES) (fun i => ifQ (Nat.blt i n) (fN (Nat.add off (Nat.mul i sz)) fun o => c (.box k o)) none) (fun _ => none) i) none) (ixaG n sz v u c)
noncomputable def ixvF (agg : Bool) (n sz : Nat) : F2 := fun v u c => aggQ v (fun cs => intQ u (fun _ i => @Int.rec (fun _ => Option ES) (fun i => ifQ (Nat.blt i n) (cutQ agg sz cs (Nat.mul i sz) c) none) (fun _ => none) i) none) none
def zG1 (i : TI) : Bool := Nat.blt 0 i.size && (i.k.agg || Nat.beq i.size 1)
theorem zDq {i : TI} (h : zG1 i = true) : Nat.blt 0 i.size = true ∧ (i.k.agg = true ∨ i.size = 1) := by
 unfold zG1 at h
 rw [yNj, yOn] at h
 exact ⟨h.1, h.2.imp id yMs⟩
noncomputable def cP1 (T : TT) : Op → Option (F1 × Operand)
 | .nilCheck x => some (nilF, x)
 | .load t p => match T t with
  | some i => bif zG1 i then some (lodF i.k.agg i.size, p) else none
  | none => none
 | .fieldAddr s p f => match T s with
  | some ⟨.struct fs, _, _, _, _⟩ => match fs[f]? with
   | some (fo, ft) => match T ft with
    | some j => bif Nat.blt 0 j.size then some (fldF fo, p) else none
    | none => none
   | none => none
  | _ => none
 | .field s x f => match T s with
  | some ⟨.struct fs, _, _, _, _⟩ => match fs[f]? with
   | some (fo, ft) => match T ft with
    | some j => bif zG1 j then some (fidF j.k.agg j.size fo, x) else none
    | none => none
   | none => none
  | _ => none
 | .convert s t x => match T s with
  | some _ => match T t with
   | some ⟨.int k, _, _, _, _⟩ => some (cvtF k, x)
   | _ => none
  | none => none
 | .unOp .not _ x => some (notF, x)
 | .unOp .neg _ x => some (negF, x)
 | .extract x i => some (extF i, x)
 | .call c => match c.callee, c.args.toList, c.argTypes.toList with
  | .builtin .len, [x], [t] => match T t with
   | some ⟨.slice _, _, _, _, _⟩ => some (lenF, x)
   | _ => none
  | _, _, _ => none
 | _ => none
theorem boxQ_k {γ : Type} (v : CV) (a : Nat → Nat → Option γ) (b : Option γ) : boxQ v a b = match v with | .box k o => a k o | _ => b := by cases v <;> rfl
theorem aggQ_k {γ : Type} (v : CV) (a : List CV → Option γ) (b : Option γ) : aggQ v a b = match v with | .agg cs => a cs | _ => b := by cases v <;> rfl
theorem tupQ_k {γ : Type} (v : CV) (a : List CV → Option γ) (b : Option γ) : tupQ v a b = match v with | .tup cs => a cs | _ => b := by cases v <;> rfl
theorem intQ_k {γ : Type} (v : CV) (a : IntKind → Int → Option γ) (b : Option γ) : intQ v a b = match v with | .raw (.int k n) => a k n | _ => b := by
 cases v with
 | raw x => cases x <;> rfl
 | _ => rfl
def Is1 (T : TT) (o : Op) (f : F1) (x : Operand) : Prop := ∃ g : CH → CV → Option CV, (∀ h v c, f h v c = (g h v).bind c) ∧ ∀ h sl, opE T h sl o = (evT sl x).bind (g h)
theorem Is1.of {T : TT} {o : Op} {f : F1} {x : Operand} (g : CH → CV → Option CV) (h1 : ∀ h v c, f h v c = (g h v).bind c) (h2 : ∀ h sl, opE T h sl o = (evT sl x).bind (g h)) : Is1 T o f x := ⟨g, h1, h2⟩
theorem yC3 {T : TT} {o : Op} {f : F1} {x : Operand} (hc : cP1 T o = some (f, x)) : Is1 T o f x := by
 unfold cP1 at hc
 split at hc
 ·cases hc
  refine .of (fun _ v => match v with | .box k off => some (.box k off) | _ => none) (fun h v c => by cases v <;> rfl) fun h sl => ?_
  simp only [opE]
  cases evT sl x with
  | none => rfl
  | some v => cases v <;> rfl
 ·split at hc
  ·rename_i i hi
   cases hb : zG1 i with
   | false => rw [hb] at hc; cases hc
   | true =>
    rw [hb] at hc
    cases hc
    obtain ⟨h1, h2⟩ := zDq hb
    refine .of (fun h v => match v with
     | .box k off => match w8 h k with
      | some cs => bif Nat.ble (off + i.size) cs.length then some (zAc i.k.agg i.size cs off) else none
      | none => none
     | .gp g off => bif (Nat.beq g zKz && Nat.blt off 20) && (Nat.beq i.size 1 && !i.k.agg) then some (.raw (.int .u64 (10 ^ off : Nat))) else bif Nat.beq g spN && (Nat.beq i.size 1 && !i.k.agg) then (SpT.sp off).map fun b => .sym (.nz b) else none
     | _ => none) (fun h v c => ?_) fun h sl => ?_
    ·cases v with
     | box k off =>
      show cbQ (getN h k) (fun _ cs => cutQ i.k.agg i.size cs off c) = _
      simp only [yX, w8, zI3 h2]
      cases h.get k with
      | none => rfl
      | some b =>
       cases b with
       | cells full cs =>
        show (bif Nat.ble (off + i.size) cs.length then c (zAc i.k.agg i.size cs off) else none) = Option.bind (bif Nat.ble (off + i.size) cs.length then some (zAc i.k.agg i.size cs off) else none) c
        cases Nat.ble (off + i.size) cs.length <;> rfl
       | _ => rfl
     | gp g off =>
      show (bif ((Nat.beq g zKz && Nat.blt off 20) && (Nat.beq i.size 1 && !i.k.agg)) then xL (10 ^ off) (fun n => c (.raw (.int .u64 (Int.ofNat n)))) else bif Nat.beq g spN && (Nat.beq i.size 1 && !i.k.agg) then (SpT.sp off).bind (fun b => fB b fun b => c (.sym (.nz b))) else none) = Option.bind (bif ((Nat.beq g zKz && Nat.blt off 20) && (Nat.beq i.size 1 && !i.k.agg)) then some (.raw (.int .u64 (10 ^ off : Nat))) else bif Nat.beq g spN && (Nat.beq i.size 1 && !i.k.agg) then (SpT.sp off).map (fun b => .sym (.nz b)) else none) c
      rw [zZ]
      cases ((Nat.beq g zKz && Nat.blt off 20) && (Nat.beq i.size 1 && !i.k.agg)) with
      | true => rfl
      | false =>
       cases (Nat.beq g spN && (Nat.beq i.size 1 && !i.k.agg)) with
       | false => rfl
       | true =>
        simp only [yMq, yN5, yLj]
        cases SpT.sp off <;> rfl
     | _ => rfl
    ·simp only [opE, hi]
     cases evT sl x with
     | none => rfl
     | some v =>
      cases v with
      | box k off =>
       simp only [yMm, h1, Bool.true_and]
       cases w8 h k <;> rfl
      | _ => rfl
  ·cases hc
 ·split at hc
  ·rename_i s p g fs _ _ _ _ hs
   split at hc
   ·rename_i fo ft hf
    split at hc
    ·rename_i j hj
     cases hb : Nat.blt 0 j.size with
     | false => rw [hb] at hc; cases hc
     | true =>
      rw [hb] at hc
      cases hc
      refine .of (fun _ v => match v with | .box k off => some (.box k (off + fo)) | _ => none) (fun h v c => ?_) fun h sl => ?_
      ·cases v with
       | box k off => exact jC (off + fo) fun o => c (.box k o)
       | _ => rfl
      ·simp only [opE, hs]
       cases evT sl x with
       | none => rfl
       | some v =>
        cases v with
        | box k off => simp only [hf, hj, hb, yMq]; rfl
        | _ => rfl
    ·cases hc
   ·cases hc
  ·cases hc
 ·split at hc
  ·rename_i s p g fs _ _ _ _ hs
   split at hc
   ·rename_i fo ft hf
    split at hc
    ·rename_i j hj
     cases hb : zG1 j with
     | false => rw [hb] at hc; cases hc
     | true =>
      rw [hb] at hc
      cases hc
      obtain ⟨h1, h2⟩ := zDq hb
      refine .of (fun _ v => match v with | .agg cs => (bif Nat.ble (fo + j.size) cs.length then some (zAc j.k.agg j.size cs fo) else none) | _ => none) (fun h v c => ?_) fun h sl => ?_
      ·cases v with
       | agg cs =>
        show cutQ j.k.agg j.size cs fo c = _
        rw [zI3 h2]
        show (bif _ then _ else _) = Option.bind (bif _ then _ else _) _
        cases Nat.ble (fo + j.size) cs.length <;> rfl
       | _ => rfl
      ·simp only [opE, hs]
       cases evT sl x with
       | none => rfl
       | some v =>
        cases v with
        | agg cs => simp only [hf, hj, h1, Bool.true_and]; rfl
        | _ => rfl
    ·cases hc
   ·cases hc
  ·cases hc
 ·split at hc
  ·rename_i i hi
   split at hc
   ·rename_i k _ _ _ _ hk
    cases hc
    refine .of (fun _ v => match v with | .raw (.int _ n) => some (.raw (.int k (k.wrap n))) | _ => none) (fun h v c => ?_) fun h sl => ?_
    ·cases v with
     | raw y =>
      cases y with
      | int k' n => exact zQ7 k n fun n => c (.raw (.int k n))
      | _ => rfl
     | _ => rfl
    ·simp only [opE, hi, hk]
     cases evT sl x with
     | none => rfl
     | some v =>
      cases v with
      | raw y => cases y <;> rfl
      | _ => rfl
   ·cases hc
  ·cases hc
 ·cases hc
  refine .of (fun _ v => match v with | .raw (.bool b) => some (.raw (.bool (!b))) | _ => none) (fun h v c => ?_) fun h sl => ?_
  ·cases v with
   | raw y =>
    cases y with
    | bool b => exact zV1 b c
    | _ => rfl
   | _ => rfl
  ·simp only [opE]
   cases evT sl x with
   | none => rfl
   | some v =>
    cases v with
    | raw y => cases y <;> rfl
    | _ => rfl
 ·cases hc
  refine .of (fun _ v => match v with | .raw (.int k a) => (bif zLu k (-a) then some (.raw (.int k (-a))) else none) | _ => none) (fun h v c => ?_) fun h sl => ?_
  ·cases v with
   | raw y =>
    cases y with
    | int k a =>
     show fI (Int.neg a) (fun x => ifQ (inQ k x) (c (.raw (.int k x))) none) = _
     simp only [zM3, jY, zJq]
     show (bif zLu k (-a) then _ else _) = Option.bind (bif zLu k (-a) then _ else _) _
     cases zLu k (-a) <;> rfl
    | _ => rfl
   | _ => rfl
  ·simp only [opE]
   cases evT sl x with
   | none => rfl
   | some v =>
    cases v with
    | raw y => cases y <;> rfl
    | _ => rfl
 ·rename_i i
  cases hc
  refine .of (fun _ v => match v with | .tup vs => vs[i]? | _ => none) (fun h v c => ?_) fun h sl => ?_
  ·cases v with
   | tup vs => exact zLi vs i c
   | _ => rfl
  ·simp only [opE]
   cases evT sl x with
   | none => rfl
   | some v => cases v <;> rfl
 ·split at hc
  ·rename_i h1 h2 h3
   split at hc
   ·rename_i ht
    cases hc
    refine .of (fun _ v => match v with | .bsl _ _ _ n _ => some (.raw (.int .i64 n)) | .raw (.slice none 0 0) => some (.raw (.int .i64 0)) | .row _ bnd => some (.sym (.rng .i64 0 bnd)) | _ => none) (fun h v c => ?_) fun h sl => ?_
    ·show bslQ v (fun _ _ _ n _ => c (.raw (.int .i64 (Int.ofNat n)))) (yD0 v c) = _
     cases v with
     | raw y =>
      show yD0 _ c = _
      unfold yD0
      split
      ·rename_i e; cases e; rfl
      ·rename_i e; cases e
      ·rename_i hne _
       split
       ·rename_i e; cases e
       ·rename_i e; cases e; exact absurd rfl hne
       ·rename_i e; cases e
       ·rfl
     | _ => rfl
    ·simp only [opE, h1, h2, h3]
     cases evT sl x with
     | none => rfl
     | some v =>
      simp only [ht, yMm]
      cases v with
      | raw y =>
       split
       ·rename_i e _; cases e
       ·rename_i e _; cases e; rfl
       ·rename_i e; cases e
       ·rename_i e _; cases e
       ·rename_i e1 e2 e3 e4
        split
        ·rename_i e; cases e
        ·rename_i e; cases e; exact absurd rfl (e2 _ _ _ _ _ rfl)
        ·rename_i e; cases e
        ·rfl
      | _ => rfl
   ·cases hc
  ·cases hc
 ·cases hc
def yL6 (T : TT) (t : TypeId) : Bool := match T t with
 | some ⟨.iface, _, _, _, _⟩ => true
 | _ => false
noncomputable def cP2 (T : TT) : Op → Option (F2 × Operand × Operand)
 | .indexAddr t x ix => match T t with
  | some ⟨.slice e, _, _, _, _⟩ => match T e with
   | some j => some (ixsF j.size, x, ix)
   | none => none
  | some ⟨.array n e, _, _, _, _⟩ => match T e with
   | some j => some (ixaF n j.size, x, ix)
   | none => none
  | _ => none
 | .index t x ix => match T t with
  | some ⟨.array n e, _, _, _, _⟩ => match T e with
   | some j => bif zG1 j then some (ixvF j.k.agg n j.size, x, ix) else none
   | none => none
  | _ => none
 | .binOp op t x y _ => bif yL6 T t then none else some (binV T op t, x, y)
 | _ => none
def Is2 (T : TT) (o : Op) (f : F2) (x y : Operand) : Prop := ∃ g : CV → CV → Option CV, (∀ v u c, f v u c = (g v u).bind c) ∧ ∀ h sl, opE T h sl o = (evT sl x).bind fun v => (evT sl y).bind (g v)
theorem Is2.of {T : TT} {o : Op} {f : F2} {x y : Operand} (g : CV → CV → Option CV) (h1 : ∀ v u c, f v u c = (g v u).bind c) (h2 : ∀ h sl, opE T h sl o = (evT sl x).bind fun v => (evT sl y).bind (g v)) : Is2 T o f x y := ⟨g, h1, h2⟩
theorem zLm (i n : Nat) : ltI (Int.ofNat i) (n : Int) = Nat.blt i n := rfl
theorem zLo (i : Nat) : leI 0 (Int.ofNat i) = true := by rw [yK, yPk]; exact Int.natCast_nonneg i
theorem yC2 {T : TT} {o : Op} {f : F2} {x y : Operand} (hc : cP2 T o = some (f, x, y)) : Is2 T o f x y := by
 unfold cP2 at hc
 split at hc
 ·split at hc
  ·rename_i e _ _ _ _ ht
   split at hc
   ·rename_i j hj
    cases hc
    refine .of (fun v u => match v, u with
     | .bsl s k off n _, .raw (.int _ i) => bif leI 0 i && ltI i n && Nat.beq j.size s then some (.box k (off + i.toNat * s)) else none
     | _, _ => none) (fun v u c => ?_) fun h sl => ?_
    ·cases v with
     | bsl s k off n cp =>
      cases u with
      | raw z =>
       cases z with
       | int kk i =>
        cases i with
        | negSucc i => rfl
        | ofNat i =>
         show ifQ (Nat.blt i n) (ifQ (Nat.beq j.size s) (fN (Nat.add off (Nat.mul i s)) fun o => c (.box k o)) none) none = Option.bind (bif leI 0 (Int.ofNat i) && ltI (Int.ofNat i) n && Nat.beq j.size s then _ else _) _
         rw [zLo, zLm]
         simp only [jY, jC, Bool.true_and]
         cases Nat.blt i n <;> cases Nat.beq j.size s <;> rfl
       | _ => rfl
      | _ => rfl
     | _ => rfl
    ·simp only [opE, ht]
     cases evT sl x with
     | none => rfl
     | some v =>
      cases evT sl y with
      | none => cases v <;> rfl
      | some u =>
       simp only [yMm, hj]
       cases v with
       | bsl s k off n cp =>
        cases u with
        | raw z => cases z <;> rfl
        | _ => rfl
       | _ => rfl
   ·cases hc
  ·rename_i n e _ _ _ _ ht
   split at hc
   ·rename_i j hj
    cases hc
    refine .of (fun v u => match v, u with
     | .box k off, .raw (.int _ i) => bif leI 0 i && ltI i n then some (.box k (off + i.toNat * j.size)) else none
     | .gp g off, .raw (.int _ i) => bif leI 0 i && ltI i n then some (.gp g (off + i.toNat * j.size)) else none
     | _, _ => none) (fun v u c => ?_) fun h sl => ?_
    ·cases v with
     | box k off =>
      cases u with
      | raw z =>
       cases z with
       | int kk i =>
        cases i with
        | negSucc i => rfl
        | ofNat i =>
         show ifQ (Nat.blt i n) (fN (Nat.add off (Nat.mul i j.size)) fun o => c (.box k o)) none = Option.bind (bif leI 0 (Int.ofNat i) && ltI (Int.ofNat i) n then _ else _) _
         rw [zLo, zLm]
         simp only [jY, jC, Bool.true_and]
         cases Nat.blt i n <;> rfl
       | _ => rfl
      | _ => rfl
     | gp g off =>
      cases u with
      | raw z =>
       cases z with
       | int kk i =>
        show (bif leI 0 i && ltI i n then _ else _) = Option.bind (bif leI 0 i && ltI i n then _ else _) _
        cases (leI 0 i && ltI i n) <;> rfl
       | _ => rfl
      | _ => rfl
     | _ => rfl
    ·simp only [opE, ht]
     cases evT sl x with
     | none => rfl
     | some v =>
      cases evT sl y with
      | none => cases v <;> rfl
      | some u =>
       simp only [yMm, hj]
       cases v with
       | box k off =>
        cases u with
        | raw z => cases z <;> rfl
        | _ => rfl
       | gp g off =>
        cases u with
        | raw z => cases z <;> rfl
        | _ => rfl
       | _ => rfl
   ·cases hc
  ·cases hc
 ·split at hc
  ·rename_i n e _ _ _ _ ht
   split at hc
   ·rename_i j hj
    cases hb : zG1 j with
    | false => rw [hb] at hc; cases hc
    | true =>
     rw [hb] at hc
     cases hc
     obtain ⟨h1, h2⟩ := zDq hb
     refine .of (fun v u => match v, u with
      | .agg cs, .raw (.int _ i) => bif (leI 0 i && ltI i n) && Nat.ble (i.toNat * j.size + j.size) cs.length then some (zAc j.k.agg j.size cs (i.toNat * j.size)) else none
      | _, _ => none) (fun v u c => ?_) fun h sl => ?_
     ·cases v with
      | agg cs =>
       cases u with
       | raw z =>
        cases z with
        | int kk i =>
         cases i with
         | negSucc i => rfl
         | ofNat i =>
          show ifQ (Nat.blt i n) (cutQ j.k.agg j.size cs (Nat.mul i j.size) c) none = Option.bind (bif (leI 0 (Int.ofNat i) && ltI (Int.ofNat i) n) && Nat.ble (i * j.size + j.size) cs.length then some (zAc j.k.agg j.size cs (i * j.size)) else _) _
          rw [zLo, zLm, zI3 h2, jY]
          show (bif Nat.blt i n then (bif Nat.ble (i * j.size + j.size) cs.length then _ else _) else _) = _
          cases Nat.blt i n <;> cases Nat.ble (i * j.size + j.size) cs.length <;> rfl
        | _ => rfl
       | _ => rfl
      | _ => rfl
     ·simp only [opE, ht]
      cases evT sl x with
      | none => rfl
      | some v =>
       cases evT sl y with
       | none => cases v <;> rfl
       | some u =>
        simp only [yMm, hj, h1, Bool.true_and]
        cases v with
        | agg cs =>
         cases u with
         | raw z =>
          cases z with
          | int kk i => simp only [h1, Bool.true_and]
          | _ => rfl
         | _ => rfl
        | _ => rfl
   ·cases hc
  ·cases hc
 ·rename_i op t _ _ _
  cases hi : yL6 T t with
  | true => rw [hi] at hc; cases hc
  | false =>
   rw [hi] at hc
   cases hc
   refine .of (fun v u => zU6 T op t v u) (fun v u c => zZb T op t v u c) fun h sl => ?_
   simp only [opE]
   split
   ·rename_i h1 h2
    rw [h1, h2]
    simp only [yMm, zU6]
    split
    ·rename_i h3
     unfold yL6 at hi
     rw [h3] at hi
     cases hi
    ·rfl
   ·rename_i v u _ h1 h2
    rw [h1, h2]; rfl
   ·rename_i h1 h2
    cases h3 : evT sl x with
    | none => rfl
    | some v =>
     cases h4 : evT sl y with
     | none => rfl
     | some u => exact absurd h4 (h2 v u h3)
 ·cases hc
inductive FO where
 | mov (d : Pt) (x : FX)
 | p2 (d : Pt) (f : F2) (x y : FX)
 | pck (d : Pt) (c x y : FX)
 | gen (o : Oper)
 | whn (p : Pt) (want : Bool) (d : Option Pt) (f : FO)
 | p1 (d : Pt) (f : F1) (x : FX)
 | cal (d : Option Pt) (f : FuncId) (xs : List FX)
 | cad (d : Option Pt) (x : FX) (xs : List FX)
 | sto (d : Option Pt) (sz : Nat) (p x : FX)
 | alc (d : Pt) (b : CB)
 | bxo (d : Pt) (x : FX)
 | sli (d : Pt) (sz len : Nat) (ps : List (Nat × Nat × FX)) (zs : List CV)
 | bld (d : Pt) (ps : List (Nat × Nat × FX)) (zs : List CV)
section
variable {γ : Type}
noncomputable def evXs (xs : List FX) (sl : CS) : (List CV → Option γ) → Option γ := @List.rec FX (fun _ => (List CV → Option γ) → Option γ) (fun k => k []) (fun x _ ih k => evX x sl fun v => ih fun vs => k (v :: vs)) xs
theorem zM4 (sl : CS) : ∀ (xs : List Operand) (k : List CV → Option γ), evXs (xs.map cX) sl k = (zQ1 sl xs).bind k
 | [], k => rfl
 | x :: r, k => by
  show evX (cX x) sl (fun v => evXs (r.map cX) sl fun vs => k (v :: vs)) = _
  rw [qN]
  simp only [zQ1]
  cases evT sl x with
  | none => rfl
  | some v =>
   simp only [yMm]
   rw [zM4 sl r]
   cases zQ1 sl r <;> rfl
noncomputable def filQ (sl : CS) (ps : List (Nat × Nat × FX)) : List CV → (List CV → Option γ) → Option γ := @List.rec (Nat × Nat × FX) (fun _ => List CV → (List CV → Option γ) → Option γ) (fun cs k => k cs) (fun q _ ih cs k => evX q.2.2 sl fun v => celQ v fun us => onesQ q.2.1 us (putLQ q.1 us cs fun cs' => ih cs' k)) ps
def zK6 (place : Nat → Option (Nat × Nat)) : List (Nat × Operand) → Option (List (Nat × Nat × FX))
 | [] => some []
 | q :: r => match place q.1, zK6 place r with
  | some (off, sz), some l => some ((off, sz, cX q.2) :: l)
  | _, _ => none
theorem zM2 (sl : CS) {place : Nat → Option (Nat × Nat)} : ∀ {ps : List (Nat × Operand)} {qs : List (Nat × Nat × FX)}, zK6 place ps = some qs → ∀ (cs : List CV) (k : List CV → Option γ), filQ sl qs cs k = (zFz sl place ps cs).bind k
 | [], qs, h, cs, k => by cases h; rfl
 | q :: r, qs, h, cs, k => by
  simp only [zK6] at h
  split at h
  ·rename_i off sz l h1 h2
   cases h
   have ih := zM2 sl h2
   show evX (cX q.2) sl (fun v => celQ v fun us => onesQ sz us (putLQ off us cs fun cs' => filQ sl l cs' k)) = _
   rw [qN]
   simp only [zFz, h1]
   cases evT sl q.2 with
   | none => rfl
   | some v =>
    simp only [yMm, zMe, zHj, zHh, ih]
    cases h3 : vB (y5 v) with
    | false => rfl
    | true =>
     cases h4 : Nat.beq (y5 v).length sz with
     | false => rfl
     | true =>
      rw [yMs h4]
      cases h5 : Nat.ble (off + sz) cs.length <;> rfl
  ·cases h
end
noncomputable def putQ (d : Pt) (e : Bool × CV) (s : ES) (k : ES → Option ES) : Option ES := @ES.rec (fun _ => Option ES) (fun sl h nx ds => setP (some e) d sl fun sl => k ⟨sl, h, nx, ds⟩) s
noncomputable def putO (d : Option Pt) (e : Bool × CV) (s : ES) (k : ES → Option ES) : Option ES := @Option.rec Pt (fun _ => Option ES) (k s) (fun p => putQ p e s k) d
def doQ (top : Bool) (call : z6) (T : TT) (o : Oper) (s : ES) (k : ES → Option ES) : Option ES := match kJ s.sl o.op with
 | some d => bif top && o.dst.isNone then k ⟨s.sl, s.h, s.nx, d :: s.ds⟩ else none
 | none => zVw call T s.h s.nx s.sl o.op fun x h nx => zKi o.dst (true, x) s.sl fun sl => k ⟨sl, h, nx, s.ds⟩
def zWw (top : Bool) (call : z6) (T : TT) (ops : Array Oper) (n : Nat) (o : Oper) (s : ES) (k : ES → Option ES) : Option ES := bif zB3 n o.dst then match qK ops s.sl o with
   | some true => doQ top call T o s k
   | some false => zKi o.dst (false, .raw undef) s.sl fun sl => k ⟨sl, s.h, s.nx, s.ds⟩
   | none => none
  else none
def yC5 {γ : Type} (v : CV) (a b : Option γ) : Option γ := match v with
 | .raw (.bool true) => a
 | .raw (.bool false) => b
 | _ => none
def yB8 (v : CV) : Option CV := match v with
 | .raw (.bool b) => some (.raw (.bool b))
 | _ => none
noncomputable def bolK {γ : Type} (v : CV) (a b : Option γ) : Option γ := bolQ v (fun x => @Bool.rec (fun _ => Option γ) b a x) none
theorem zTi {γ : Type} (v : CV) (a b : Option γ) : bolK v a b = yC5 v a b := by
 cases v with
 | raw x =>
  cases x with
  | bool b => cases b <;> rfl
  | _ => rfl
 | _ => rfl
noncomputable def pckQ (v : CV) (k : CV → Option ES) : Option ES := bolQ v (fun x => tB x k) none
theorem zXz (v : CV) (k : CV → Option ES) : pckQ v k = (yB8 v).bind k := by
 cases v with
 | raw x =>
  cases x with
  | bool b => exact zUg b k
  | _ => rfl
 | _ => rfl
noncomputable def whnQ (e : Option (Bool × CV)) (want : Bool) (a b : Option ES) : Option ES := @Option.rec (Bool × CV) (fun _ => Option ES) none (fun e => @Prod.rec Bool CV (fun _ => Option ES) (fun t v => @Bool.rec (fun _ => Option ES) b (bolK v (ifQ want a b) (ifQ want b a)) t) e) e
noncomputable def calK (d : Option Pt) (s : ES) (k : ES → Option ES) (o : Option (CV × CH × Nat)) : Option ES := @Option.rec (CV × CH × Nat) (fun _ => Option ES) none (fun r => @Prod.rec CV (CH × Nat) (fun _ => Option ES) (fun x q => @Prod.rec CH Nat (fun _ => Option ES) (fun h nx => putO d (true, x) ⟨s.sl, h, nx, s.ds⟩ k) q) r) o
noncomputable def celK (call : z6) (s : ES) (v : CV) (vs : List CV) (k : Option (CV × CH × Nat) → Option ES) : Option ES := @CV.rec (fun _ => Option ES) (fun _ => Unit)
 (fun x => match vZ (.raw x) with
  | some (f, first, cap) => k (call f (first ++ vs ++ cap) s.h s.nx)
  | none => none) (fun _ _ => none) (fun _ _ => none) (fun _ _ => none) (fun _ _ _ _ _ => none)
 (fun f first cap _ _ => match f with
  | .func f => k (call (.fn f) (first ++ vs ++ cap) s.h s.nx)
  | _ => none) (fun _ => none) (fun b => k (call (.yl b) vs s.h s.nx)) (fun _ _ => none) (fun _ => none) (fun _ _ _ => none) (fun _ _ => none) () (fun _ _ _ _ => ()) v
noncomputable def stepQ (top : Bool) (call : z6) (T : TT) (ops : Array Oper) (n : Nat) (f : FO) : ES → (ES → Option ES) → Option ES := @FO.rec (fun _ => ES → (ES → Option ES) → Option ES)
 (fun d x s k => evX x s.sl fun v => putQ d (true, v) s k)
 (fun d f x y s k => evX x s.sl fun v => evX y s.sl fun u => f v u fun r => putQ d (true, r) s k)
 (fun d c x y s k => evX c s.sl fun v => bolK v (evX x s.sl fun u => pckQ u fun u => putQ d (true, u) s k) (evX y s.sl fun u => pckQ u fun u => putQ d (true, u) s k))
 (fun o s k => zWw top call T ops n o s k)
 (fun p want d _ ih s k => whnQ (getP p s.sl) want (ih s k) (putO d (false, .raw undef) s k))
 (fun d f x s k => evX x s.sl fun v => f s.h v fun r => putQ d (true, r) s k)
 (fun d f xs s k => evXs xs s.sl fun vs => calK d s k (call (.fn f) vs s.h s.nx))
 (fun d x xs s k => evX x s.sl fun v => evXs xs s.sl fun vs => celK call s v vs (calK d s k))
 (fun d sz p x s k => evX p s.sl fun v => evX x s.sl fun y => boxQ v (fun b off => cbQ (getN s.h b) fun full cs => celQ y fun us => onesQ sz us (putLQ off us cs fun cs' => setP (some (.cells full cs')) (pathQ b) s.h fun h => putO d (true, .raw undef) ⟨s.sl, h, s.nx, s.ds⟩ k)) none)
 (fun d b s k => fN s.nx fun nx => setP (some b) (pathQ nx) s.h fun h => fN (Nat.succ nx) fun nx' => putQ d (true, .box nx 0) ⟨s.sl, h, nx', s.ds⟩ k)
 (fun d x s k => evX x s.sl fun v => celQ v fun us => ifQ (vB us) (fN s.nx fun nx => setP (some (.cells true us)) (pathQ nx) s.h fun h => fN (Nat.succ nx) fun nx' => putQ d (true, .box nx 0) ⟨s.sl, h, nx', s.ds⟩ k) none)
 (fun d sz len ps zs s k => filQ s.sl ps zs fun cs => fN s.nx fun nx => setP (some (.cells true cs)) (pathQ nx) s.h fun h => fN (Nat.succ nx) fun nx' => putQ d (true, .bsl sz nx 0 len (some len)) ⟨s.sl, h, nx', s.ds⟩ k)
 (fun d ps zs s k => filQ s.sl ps zs fun cs => putQ d (true, .agg cs) s k) f
noncomputable def runQ (top : Bool) (call : z6) (T : TT) (ops : Array Oper) (n : Nat) (l : List FO) : ES → Option ES := @List.rec FO (fun _ => ES → Option ES) (fun s => some s) (fun o _ ih s => stepQ top call T ops n o s ih) l
theorem zCm (d : Nat) (e : Bool × CV) (s : ES) (k : ES → Option ES) : putQ (z4 d) e s k = zKi (some d) e s.sl fun sl => k ⟨sl, s.h, s.nx, s.ds⟩ := by
 obtain ⟨sl, h, nx, ds⟩ := s
 rw [xI]
 show setP (some e) (z4 d) sl _ = _
 rw [z4, zCf _ _ _ _ _ (yPr d)]
 rfl
theorem zLd (d : Option Nat) (e : Bool × CV) (s : ES) (k : ES → Option ES) : putO (d.map z4) e s k = zKi d e s.sl fun sl => k ⟨sl, s.h, s.nx, s.ds⟩ := by
 cases d with
 | none => rfl
 | some d => exact zCm d e s k
theorem zI6 (d : Option Nat) (s : ES) (k : ES → Option ES) (o : Option (CV × CH × Nat)) : calK (d.map z4) s k o = o.bind fun r => zKi d (true, r.1) s.sl fun sl => k ⟨sl, r.2.1, r.2.2, s.ds⟩ := by
 cases o with
 | none => rfl
 | some r => obtain ⟨x, h, nx⟩ := r; exact zLd d _ _ k
noncomputable def cM (T : TT) (o : Oper) : Option FO := match o.op with
 | .call c => match c.callee with
  | .value (.func f) => some (.cal (o.dst.map z4) f (c.args.toList.map cX))
  | .value x => some (.cad (o.dst.map z4) (cX x) (c.args.toList.map cX))
  | _ => none
 | .store t p x => match T t with
  | some i => some (.sto (o.dst.map z4) i.size (cX p) (cX x))
  | none => none
 | .alloc t => match o.dst, T t with
  | some d, some i => some (.alc (z4 d) (.cells true (i.zero.map .raw)))
  | _, _ => none
 | .box _ x => match o.dst with
  | some d => some (.bxo (z4 d) (cX x))
  | none => none
 | .buildSlice t len parts => match o.dst, T t with
  | some d, some ⟨.slice e, _, _, _, _⟩ => match T e with
   | some j => match zK6 (fun i => some (i * j.size, j.size)) parts.toList with
    | some ps => bif Nat.blt 0 j.size && Nat.ble (len * j.size) 16777216 && Nat.beq j.zero.length j.size then some (.sli (z4 d) j.size len ps ((yT len j.zero).map .raw)) else none
    | none => none
   | none => none
  | _, _ => none
 | .build t parts => match o.dst, T t with
  | some d, some ⟨.struct fs, _, _, z, _⟩ => match jQ T fs with
   | some ps => match zK6 (fun i => ps[i]?) parts.toList with
    | some qs => some (.bld (z4 d) qs (z.map .raw))
    | none => none
   | none => none
  | _, _ => none
 | _ => none
theorem zI1 {top : Bool} {call : z6} {T : TT} {o : Oper} {s : ES} {k : ES → Option ES} (h1 : kJ s.sl o.op = none) (h2 : yW o.op = false) (h3 : opE T s.h s.sl o.op = none) : doQ top call T o s k = (zAv T s.h s.nx s.sl o.op).bind fun r => zKi o.dst (true, r.1) s.sl fun sl => k ⟨sl, apH s.h r.2.1, r.2.2, s.ds⟩ := by
 unfold doQ
 rw [h1]
 simp only [zVw, h2, yN5, h3]
 cases zAv T s.h s.nx s.sl o.op with
 | none => rfl
 | some r =>
  obtain ⟨x, es, nx⟩ := r
  simp only [CV.force_eq, zH2, zZ, yMm]
theorem zO7 {top : Bool} {call : z6} {T : TT} {o : Oper} {s : ES} {k : ES → Option ES} (h1 : kJ s.sl o.op = none) (h2 : yW o.op = true) : doQ top call T o s k = (zI5 call s.h s.nx s.sl o.op).bind fun r => zKi o.dst (true, r.1) s.sl fun sl => k ⟨sl, r.2.1, r.2.2, s.ds⟩ := by
 unfold doQ
 rw [h1]
 simp only [zVw, h2, yMq]
 cases zI5 call s.h s.nx s.sl o.op <;> rfl
theorem yLt {top : Bool} {call : z6} {T : TT} {ops : Array Oper} {n : Nat} {o : Oper} {f : FO} (hc : cM T o = some f) (s : ES) (k : ES → Option ES) : stepQ top call T ops n f s k = doQ top call T o s k := by
 unfold cM at hc
 split at hc
 ·rename_i c hop
  split at hc
  ·rename_i f' hcal
   cases hc
   rw [zO7 (by rw [hop]; rfl) (by rw [hop]; simp only [yW, hcal])]
   show evXs (c.args.toList.map cX) s.sl (fun vs => calK (o.dst.map z4) s k (call (.fn f') vs s.h s.nx)) = _
   rw [zM4, hop]
   simp only [zI5, hcal]
   rw [show evT s.sl (.func f') = some (.raw (.func (.func f') #[] #[])) from rfl]
   cases zQ1 s.sl c.args.toList with
   | none => rfl
   | some vs =>
    simp only [yMm, zI6]
    rw [show vZ (.raw (.func (.func f') #[] #[])) = some (.fn f', [], []) from rfl]
    simp only [yN8, yO9]
  ·rename_i x _ hcal
   cases hc
   rw [zO7 (by rw [hop]; rfl) (by rw [hop]; simp only [yW, hcal])]
   show evX (cX x) s.sl (fun v => evXs (c.args.toList.map cX) s.sl fun vs => celK call s v vs (calK (o.dst.map z4) s k)) = _
   rw [qN, hop]
   simp only [zI5, hcal]
   cases evT s.sl x with
   | none => rfl
   | some v =>
    simp only [yMm]
    rw [zM4]
    cases zQ1 s.sl c.args.toList with
    | none => rfl
    | some vs =>
     simp only [yMm]
     cases v with
     | raw y =>
      show (match vZ (.raw y) with
       | some (f, first, cap) => calK (o.dst.map z4) s k (call f (first ++ vs ++ cap) s.h s.nx)
       | none => none) = _
      cases vZ (.raw y) with
      | none => rfl
      | some r => obtain ⟨f, first, cap⟩ := r; exact zI6 _ _ _ _
     | fn f first cap =>
      cases f with
      | func f => exact zI6 _ _ _ _
      | _ => rfl
     | yld b =>
      show calK (o.dst.map z4) s k (call (.yl b) vs s.h s.nx) = _
      rw [zI6]
      show _ = Option.bind (call (.yl b) ([] ++ vs ++ []) s.h s.nx) _
      rw [yN8, yO9]
     | _ => rfl
  ·cases hc
 ·rename_i t p x hop
  split at hc
  ·rename_i i hi
   cases hc
   rw [zI1 (by rw [hop]; rfl) (by rw [hop]; rfl) (by rw [hop]; rfl)]
   show evX (cX p) s.sl (fun v => evX (cX x) s.sl fun y => boxQ v (fun b off => cbQ (getN s.h b) fun full cs => celQ y fun us => onesQ i.size us (putLQ off us cs fun cs' => setP (some (.cells full cs')) (pathQ b) s.h fun h => putO (o.dst.map z4) (true, .raw undef) ⟨s.sl, h, s.nx, s.ds⟩ k)) none) = _
   rw [qN, hop]
   simp only [zAv, hi]
   cases evT s.sl p with
   | none => rfl
   | some v =>
    simp only [yMm]
    rw [qN]
    cases evT s.sl x with
    | none => cases v <;> rfl
    | some y =>
     cases v with
     | box b off =>
      simp only [yMm, yX, zMe, zHj, zHh, wD, zLd]
      show cbQ (s.h.get b) _ = _
      cases s.h.get b with
      | none => rfl
      | some blk =>
       cases blk with
       | cells full cs =>
        show (bif vB (y5 y) && Nat.beq (y5 y).length i.size then _ else none) = _
        cases h3 : vB (y5 y) with
        | false => rfl
        | true =>
         cases h4 : Nat.beq (y5 y).length i.size with
         | false => rfl
         | true =>
          rw [yMs h4]
          cases h5 : Nat.ble (off + i.size) cs.length with
          | false => simp only [h3, h4, h5, Bool.and_self, Bool.and_false, yMq, yN5, Option.bind_none]
          | true => simp only [h3, h4, h5, Bool.and_self, yMq, yMm, apH]
       | _ => rfl
     | _ => rfl
  ·cases hc
 ·rename_i t hop
  split at hc
  ·rename_i d i hd hi
   cases hc
   rw [zI1 (by rw [hop]; rfl) (by rw [hop]; rfl) (by rw [hop]; rfl)]
   show fN s.nx (fun nx => setP (some _) (pathQ nx) s.h fun h => fN (Nat.succ nx) fun nx' => putQ (z4 d) (true, .box nx 0) ⟨s.sl, h, nx', s.ds⟩ k) = _
   simp only [jC, wD, zCm]
   rw [hop]
   simp only [zAv, hi, yMm, hd, apH]
  ·cases hc
 ·rename_i t x hop
  split at hc
  ·rename_i d hd
   cases hc
   rw [zI1 (by rw [hop]; rfl) (by rw [hop]; rfl) (by rw [hop]; rfl)]
   show evX (cX x) s.sl (fun v => celQ v fun us => ifQ (vB us) (fN s.nx fun nx => setP (some (.cells true us)) (pathQ nx) s.h fun h => fN (Nat.succ nx) fun nx' => putQ (z4 d) (true, .box nx 0) ⟨s.sl, h, nx', s.ds⟩ k) none) = _
   rw [qN, hop]
   simp only [zAv]
   cases evT s.sl x with
   | none => rfl
   | some v =>
    simp only [yMm, zMe, jY, jC, wD, zCm]
    cases vB (y5 v) with
    | false => rfl
    | true => simp only [yMq, yMm, hd, apH]
  ·cases hc
 ·rename_i t len parts hop
  split at hc
  ·rename_i d e _ _ _ _ hd ht
   split at hc
   ·rename_i j hj
    split at hc
    ·rename_i ps hps
     cases hb : (Nat.blt 0 j.size && Nat.ble (len * j.size) 16777216 && Nat.beq j.zero.length j.size) with
     | false => rw [hb] at hc; cases hc
     | true =>
      rw [hb] at hc
      cases hc
      rw [zI1 (by rw [hop]; rfl) (by rw [hop]; rfl) (by rw [hop]; rfl)]
      show filQ s.sl ps _ (fun cs => fN s.nx fun nx => setP (some (.cells true cs)) (pathQ nx) s.h fun h => fN (Nat.succ nx) fun nx' => putQ (z4 d) (true, .bsl j.size nx 0 len (some len)) ⟨s.sl, h, nx', s.ds⟩ k) = _
      rw [zM2 _ hps, hop]
      simp only [zAv, ht, hj]
      cases zFz s.sl (fun i => some (i * j.size, j.size)) parts.toList ((yT len j.zero).map .raw) with
      | none => rfl
      | some cs => simp only [yMm, hb, yMq, jC, wD, zCm, hd, apH]
    ·cases hc
   ·cases hc
  ·cases hc
 ·rename_i t parts hop
  split at hc
  ·rename_i d fs _ _ z _ hd ht
   split at hc
   ·rename_i ps hps
    split at hc
    ·rename_i qs hqs
     cases hc
     show filQ s.sl qs _ (fun cs => putQ (z4 d) (true, .agg cs) s k) = _
     rw [zM2 _ hqs]
     unfold doQ
     rw [hop, show kJ s.sl (.build t parts) = none from rfl]
     simp only [zVw, show yW (.build t parts) = false from rfl, yN5, opE, ht, hps]
     cases zFz s.sl (fun i => ps[i]?) parts.toList (z.map .raw) with
     | none => rfl
     | some cs => simp only [yMm, CV.force_eq, zCm, hd]
    ·cases hc
   ·cases hc
  ·cases hc
 ·cases hc
noncomputable def cO1 (T : TT) (o : Oper) : FO := match o.op, o.dst with
 | .move x, some d => .mov (z4 d) (cX x)
 | .assign x, some d => .mov (z4 d) (cX x)
 | .pick c x y, some d => .pck (z4 d) (cX c) (cX x) (cX y)
 | op, some d => match cP1 T op with
  | some (f, x) => .p1 (z4 d) f (cX x)
  | none => match cP2 T op with
   | some (f, x, y) => .p2 (z4 d) f (cX x) (cX y)
   | none => match cM T o with
    | some f => f
    | none => .gen { o with guard := none }
 | _, none => match cM T o with
  | some f => f
  | none => .gen { o with guard := none }
noncomputable def cO (T : TT) (ops : Array Oper) (n : Nat) (o : Oper) : FO := bif zB3 n o.dst then (match o.guard with
  | none => cO1 T o
  | some (j, want) => match (ops[j]?).bind (·.dst) with
   | some g => .whn (z4 g) want (o.dst.map z4) (cO1 T o)
   | none => .gen o) else .gen o
theorem zBq {top : Bool} {call : z6} {T : TT} {o : Oper} {d : Nat} (hd : o.dst = some d) {s : ES} {k : ES → Option ES} {v : Option CV} (h1 : kJ s.sl o.op = none) (h2 : yW o.op = false) (h3 : opE T s.h s.sl o.op = v) (h4 : zAv T s.h s.nx s.sl o.op = none) : doQ top call T o s k = v.bind fun v => putQ (z4 d) (true, v) s k := by
 unfold doQ
 rw [h1]
 simp only [zVw, h2, yN5, h3, h4, hd]
 cases v with
 | none => rfl
 | some v => simp only [CV.force_eq, yMm, zCm]
theorem zTe {T : TT} {o : Op} {r : F1 × Operand} (hc : cP1 T o = some r) (h : CH) (nx : Nat) (sl : CS) : kJ sl o = none ∧ yW o = false ∧ zAv T h nx sl o = none := by
 unfold cP1 at hc
 split at hc <;> first | cases hc; done | exact ⟨rfl, rfl, rfl⟩ | skip
 split at hc
 ·rename_i h1 h2 h3
  refine ⟨rfl, ?_, ?_⟩
  ·simp only [yW, h1]
  ·simp only [zAv, h1, h2, h3]
 ·cases hc
theorem zTd {T : TT} {o : Op} {r : F2 × Operand × Operand} (hc : cP2 T o = some r) (h : CH) (nx : Nat) (sl : CS) : kJ sl o = none ∧ yW o = false ∧ zAv T h nx sl o = none := by
 unfold cP2 at hc
 split at hc <;> first | cases hc; done | exact ⟨rfl, rfl, rfl⟩
theorem zWz (top : Bool) (call : z6) (T : TT) (ops : Array Oper) (n : Nat) (o : Oper) (hn : zB3 n o.dst = true) (s : ES) (k : ES → Option ES) : stepQ top call T ops n (cO1 T o) s k = doQ top call T o s k := by
 have hgen : stepQ top call T ops n (.gen { o with guard := none }) s k = doQ top call T o s k := by
  show zWw top call T ops n { o with guard := none } s k = _
  unfold zWw
  simp only [hn, yMq, qK]
  rfl
 have hM : stepQ top call T ops n (match cM T o with | some f => f | none => .gen { o with guard := none }) s k = doQ top call T o s k := by
  cases hc : cM T o with
  | none => exact hgen
  | some f => exact yLt hc s k
 unfold cO1
 split
 ·rename_i x d hx hd
  rw [zBq hd (by rw [hx]; rfl) (by rw [hx]; rfl) (v := evT s.sl x) (by rw [hx]; rfl) (by rw [hx]; rfl)]
  exact qN x s.sl (fun v => putQ (z4 d) (true, v) s k)
 ·rename_i x d hx hd
  rw [zBq hd (by rw [hx]; rfl) (by rw [hx]; rfl) (v := evT s.sl x) (by rw [hx]; rfl) (by rw [hx]; rfl)]
  exact qN x s.sl (fun v => putQ (z4 d) (true, v) s k)
 ·rename_i c x y d hx hd
  have e1 : opE T s.h s.sl o.op = (evT s.sl c).bind fun v => yC5 v ((evT s.sl x).bind yB8) ((evT s.sl y).bind yB8) := by
   rw [hx]
   simp only [opE]
   cases evT s.sl c with
   | none => rfl
   | some v =>
    have side : ∀ z : Option CV, (match z with | some (.raw (.bool b)) => some (CV.raw (.bool b)) | _ => none) = z.bind yB8 := fun z => by
     cases z with
     | none => rfl
     | some u =>
      cases u with
      | raw u => cases u <;> rfl
      | _ => rfl
    cases v with
    | raw u =>
     cases u with
     | bool b =>
      cases b with
      | true => exact side _
      | false => exact side _
     | _ => rfl
    | _ => rfl
  rw [zBq hd (by rw [hx]; rfl) (by rw [hx]; rfl) e1 (by rw [hx]; rfl)]
  show evX (cX c) s.sl (fun v => bolK v (evX (cX x) s.sl fun u => pckQ u fun u => putQ (z4 d) (true, u) s k) (evX (cX y) s.sl fun u => pckQ u fun u => putQ (z4 d) (true, u) s k)) = _
  rw [qN]
  cases evT s.sl c with
  | none => rfl
  | some v =>
   simp only [yMm, zTi]
   have side : ∀ z : Operand, (evX (cX z) s.sl fun u => pckQ u fun u => putQ (z4 d) (true, u) s k) = ((evT s.sl z).bind yB8).bind fun v => putQ (z4 d) (true, v) s k := fun z => by
    rw [qN]
    cases evT s.sl z with
    | none => rfl
    | some u => exact zXz u _
   cases v with
   | raw u =>
    cases u with
    | bool b =>
     cases b with
     | true => exact side x
     | false => exact side y
    | _ => rfl
   | _ => rfl
 ·rename_i d hd _ _ _
  split
  ·rename_i f x hc
   obtain ⟨g, h1, h2⟩ := yC3 hc
   obtain ⟨c2, c3, c4⟩ := zTe hc s.h s.nx s.sl
   rw [zBq hd c2 c3 (h2 s.h s.sl) c4]
   show evX (cX x) s.sl (fun v => f s.h v fun r => putQ (z4 d) (true, r) s k) = _
   rw [qN]
   cases evT s.sl x with
   | none => rfl
   | some v => exact h1 s.h v _
  ·split
   ·rename_i f x y hc
    obtain ⟨g, h1, h2⟩ := yC2 hc
    obtain ⟨c2, c3, c4⟩ := zTd hc s.h s.nx s.sl
    rw [zBq hd c2 c3 (h2 s.h s.sl) c4]
    show evX (cX x) s.sl (fun v => evX (cX y) s.sl fun u => f v u fun r => putQ (z4 d) (true, r) s k) = _
    rw [qN]
    cases evT s.sl x with
    | none => rfl
    | some v =>
     simp only [yMm]
     rw [qN]
     cases evT s.sl y with
     | none => rfl
     | some u => exact h1 v u _
   ·exact hM
 ·exact hM
theorem zMx (top : Bool) (call : z6) (T : TT) (ops : Array Oper) (n : Nat) (o : Oper) (s : ES) (k : ES → Option ES) : stepQ top call T ops n (cO T ops n o) s k = zWw top call T ops n o s k := by
 unfold cO
 cases hb : zB3 n o.dst with
 | false => rfl
 | true =>
  simp only [yMq]
  split
  ·rename_i hg
   rw [zWz top call T ops n o hb]
   unfold zWw
   simp only [hb, yMq, qK, hg]
  ·rename_i j want hg
   split
   ·rename_i g hj
    show whnQ (getP (z4 g) s.sl) want (stepQ top call T ops n (cO1 T o) s k) (putO (o.dst.map z4) (false, .raw undef) s k) = _
    rw [zWz top call T ops n o hb, zLd, z4, jZ _ _ _ (yPr g)]
    unfold zWw
    simp only [hb, yMq, qK, hg, hj]
    cases s.sl.get g with
    | none => rfl
    | some e =>
     obtain ⟨b, v⟩ := e
     cases b with
     | false => rfl
     | true =>
      cases v with
      | raw u =>
       cases u with
       | bool b => cases b <;> cases want <;> rfl
       | _ => rfl
      | _ => rfl
   ·rfl
theorem zQz (top : Bool) (call : z6) (T : TT) (ops : Array Oper) (n : Nat) : ∀ (l : List Oper) (s : ES), runQ top call T ops n (l.map (cO T ops n)) s = zUp top call T ops n l s
 | [], s => rfl
 | o :: r, s => by
  show stepQ top call T ops n (cO T ops n o) s (runQ top call T ops n (r.map (cO T ops n))) = _
  rw [show runQ top call T ops n (r.map (cO T ops n)) = zUp top call T ops n r from funext (zQz top call T ops n r), zMx]
  rfl
end Go.Proofs.YtioaahmkebojiaaGreatDoor
