import Derived.Test.YtioaahmkebojiaaGreatDoorWC01
import Derived.Test.YtioaahmkebojiaaGreatDoorWC17
namespace Go.Proofs.YtioaahmkebojiaaGreatDoor
set_option linter.unusedVariables false
set_option linter.unusedSimpArgs false
set_option maxHeartbeats 4000000
set_option maxRecDepth 100000
set_option linter.unusedSectionVars false
open Go.RowKit

inductive Tr (β : Type) where
 | e
 | n (x : Option β) (l r : Tr β)
namespace Tr
variable {β : Type}
def get : Tr β → Nat → Option β
 | .e, _ => none
 | .n x l r, k => bif Nat.beq k 0 then x else bif Nat.beq (Nat.mod k 2) 1 then l.get (Nat.div (Nat.pred k) 2) else r.get (Nat.div (Nat.pred k) 2)
def set : Nat → Nat → Option β → Tr β → Tr β
 | 0, _, _, t => t
 | f + 1, k, o, .e => bif Nat.beq k 0 then .n o .e .e else bif Nat.beq (Nat.mod k 2) 1 then .n none (set f (Nat.div (Nat.pred k) 2) o .e) .e else .n none .e (set f (Nat.div (Nat.pred k) 2) o .e)
 | f + 1, k, o, .n x l r => bif Nat.beq k 0 then .n o l r else bif Nat.beq (Nat.mod k 2) 1 then .n x (set f (Nat.div (Nat.pred k) 2) o l) r else .n x l (set f (Nat.div (Nat.pred k) 2) o r)
def setK {γ : Type} : Nat → Nat → Option β → Tr β → (Tr β → γ) → γ
 | 0, _, _, t, c => c t
 | f + 1, k, o, .e, c => bif Nat.beq k 0 then c (.n o .e .e) else bif Nat.beq (Nat.mod k 2) 1 then setK f (Nat.div (Nat.pred k) 2) o .e fun l => c (.n none l .e) else setK f (Nat.div (Nat.pred k) 2) o .e fun r => c (.n none .e r)
 | f + 1, k, o, .n x l r, c => bif Nat.beq k 0 then c (.n o l r) else bif Nat.beq (Nat.mod k 2) 1 then setK f (Nat.div (Nat.pred k) 2) o l fun l => c (.n x l r) else setK f (Nat.div (Nat.pred k) 2) o r fun r => c (.n x l r)
theorem setK_eq {γ : Type} : ∀ (f k : Nat) (o : Option β) (t : Tr β) (c : Tr β → γ), setK f k o t c = c (set f k o t)
 | 0, _, _, _, _ => rfl
 | f + 1, k, o, .e, c => by
  unfold setK set
  cases Nat.beq k 0
  ·cases Nat.beq (Nat.mod k 2) 1 <;> simp only [yMq, yN5, setK_eq]
  ·rfl
 | f + 1, k, o, .n x l r, c => by
  unfold setK set
  cases Nat.beq k 0
  ·cases Nat.beq (Nat.mod k 2) 1 <;> simp only [yMq, yN5, setK_eq]
  ·rfl
theorem key {k k' : Nat} (h0 : Nat.beq k 0 = false) (h0' : Nat.beq k' 0 = false) (hm : Nat.beq (Nat.mod k 2) 1 = Nat.beq (Nat.mod k' 2) 1) (hd : Nat.div (Nat.pred k) 2 = Nat.div (Nat.pred k') 2) : k = k' := by
 have a0 : k ≠ 0 := fun e => by subst e; cases h0
 have a1 : k' ≠ 0 := fun e => by subst e; cases h0'
 have hd : (k - 1) / 2 = (k' - 1) / 2 := hd
 have hm : Nat.beq (k % 2) 1 = Nat.beq (k' % 2) 1 := hm
 have : (k % 2 = 1) ↔ (k' % 2 = 1) := ⟨fun h => yMs (by rw [← hm, h]; rfl), fun h => yMs (by rw [hm, h]; rfl)⟩
 omega
theorem zLy : ∀ (f k : Nat) (o : Option β) (t : Tr β) (k' : Nat), k < f → (set f k o t).get k' = bif Nat.beq k' k then o else t.get k'
 | 0, k, _, _, _, h => by omega
 | f + 1, k, o, .e, k', h => by
  have hlt : Nat.beq k 0 = false → Nat.div (Nat.pred k) 2 < f := fun h0 => by
   have a0 : k ≠ 0 := fun e => by subst e; cases h0
   show (k - 1) / 2 < f
   omega
  unfold set
  cases hk : Nat.beq k 0
  ·have ih := fun k' => zLy f (Nat.div (Nat.pred k) 2) o .e k' (hlt hk)
   cases hm : Nat.beq (Nat.mod k 2) 1 <;> simp only [yMq, yN5, get, hk, hm] <;> rcases hb : Nat.beq k' k with _ | _
   all_goals (try (obtain rfl := yMs hb; simp only [hk, hm, yMq, yN5, ih, yMr]; done))
   all_goals
    simp only [yN5]
    cases h0 : Nat.beq k' 0
    ·simp only [yN5]
     cases hm' : Nat.beq (Nat.mod k' 2) 1
     all_goals simp only [yMq, yN5, get]
     all_goals
      rw [ih]
      cases hd : Nat.beq (Nat.div (Nat.pred k') 2) (Nat.div (Nat.pred k) 2)
      ·rfl
      ·have := key h0 hk (by rw [hm, hm']) (yMs hd)
       subst this
       rw [yMr] at hb; cases hb
    ·rfl
  ·obtain rfl := yMs hk
   simp only [yMq, get]
   cases Nat.beq k' 0 <;> simp only [yMq, yN5, get] <;> cases Nat.beq (Nat.mod k' 2) 1 <;> rfl
 | f + 1, k, o, .n x l r, k', h => by
  have hlt : Nat.beq k 0 = false → Nat.div (Nat.pred k) 2 < f := fun h0 => by
   have a0 : k ≠ 0 := fun e => by subst e; cases h0
   show (k - 1) / 2 < f
   omega
  unfold set
  cases hk : Nat.beq k 0
  ·have ih := fun t k' => zLy f (Nat.div (Nat.pred k) 2) o t k' (hlt hk)
   cases hm : Nat.beq (Nat.mod k 2) 1 <;> simp only [yMq, yN5, get] <;> rcases hb : Nat.beq k' k with _ | _
   all_goals (try (obtain rfl := yMs hb; simp only [hk, hm, yMq, yN5, ih, yMr]; done))
   all_goals
    simp only [yN5]
    cases h0 : Nat.beq k' 0
    ·simp only [yN5]
     cases hm' : Nat.beq (Nat.mod k' 2) 1
     all_goals simp only [yMq, yN5]
     all_goals
      rw [ih]
      cases hd : Nat.beq (Nat.div (Nat.pred k') 2) (Nat.div (Nat.pred k) 2)
      ·rfl
      ·have := key h0 hk (by rw [hm, hm']) (yMs hd)
       subst this
       rw [yMr] at hb; cases hb
    ·rfl
  ·obtain rfl := yMs hk
   simp only [yMq, get]
   cases Nat.beq k' 0 <;> rfl
def put (t : Tr β) (k : Nat) (o : Option β) : Tr β := set (k + 1) k o t
theorem get_put (t : Tr β) (k : Nat) (o : Option β) (k' : Nat) : (t.put k o).get k' = bif Nat.beq k' k then o else t.get k' := zLy _ _ _ _ _ (yPr k)
theorem get_same (t : Tr β) (k : Nat) (o : Option β) : (t.put k o).get k = o := by rw [get_put, yMr]; rfl
theorem get_other (t : Tr β) {k k' : Nat} (o : Option β) (h : k' ≠ k) : (t.put k o).get k' = t.get k' := by
 rw [get_put]
 cases hb : Nat.beq k' k
 ·rfl
 ·exact absurd (yMs hb) h
end Tr

inductive SV where
 | rng (k : IntKind) (lo hi : Int)
 | nz (b : Bool)
 | top
def SV.has : SV → Value → Prop
 | .rng k lo hi, v => ∃ n, v = .int k n ∧ lo ≤ n ∧ n ≤ hi
 | .nz b, v => ∃ n, v = .int .u8 n ∧ (b = true ↔ n ≠ 0)
 | .top, _ => True
def SV.one : SV → Bool
 | .top => false
 | _ => true
inductive CV where
 | raw (v : Value)
 | agg (cs : List CV)
 | tup (cs : List CV)
 | box (k off : Nat)
 | bsl (s k off n : Nat) (cap : Option Nat)
 | fn (f : Fn) (first cap : List CV)
 | mp (k : Nat)
 | yld (k : Nat)
 | gp (g off : Nat)
 | sym (p : SV)
 | ifc (t : Nat) (x : CV)
 | row (k bnd : Nat)
abbrev CS := Tr (Bool × CV)
inductive LS where
 | ready
 | busy
 | done (j : Option Nat)
inductive CB where
 | cells (full : Bool) (cs : List CV)
 | map (es : List (Value × Value))
 | loop (n : Nat) (sl : CS) (ps : List Nat) (assign body : Code) (st : LS)
 | dfr
 | rowb
abbrev Phi := Nat → Option Nat
def bsz (w : World) (b : Nat) : Nat := match w.heap[b]? with
 | some (.cells a _ _) => a.size
 | _ => 0
mutual
def CV.rel (φ : Phi) (w : World) : CV → Value → Prop
 | .raw x, v => v = x
 | .agg cs, v => ∃ vs : List Value, v = .agg vs.toArray ∧ CV.relL φ w cs vs
 | .tup cs, v => ∃ vs : List Value, v = .tuple vs.toArray ∧ CV.relL φ w cs vs
 | .box k off, v => ∃ b, φ k = some b ∧ v = .pointer (some ⟨b, off, none⟩)
 | .bsl s k off n cap, v => ∃ b c p, φ k = some b ∧ v = .slice (some p) n c ∧ n ≤ c ∧ c ≤ maxLen ∧ (0 < c → p = ⟨b, off, none⟩) ∧ off + c * s ≤ bsz w b ∧ ∀ m, cap = some m → c = m
 | .fn f first cap, v => ∃ fs cs : List Value, v = .func f fs.toArray cs.toArray ∧ CV.relL φ w first fs ∧ CV.relL φ w cap cs
 | .mp k, v => ∃ b, φ k = some b ∧ v = .map (some b)
 | .yld k, v => ∃ b, φ k = some b ∧ v = .func (.yield b) #[] #[]
 | .gp g off, v => v = .pointer (some ⟨g, off, none⟩)
 | .sym p, v => p.has v
 | .ifc t x, v => ∃ u, v = .iface t u ∧ x.rel φ w u
 | .row k bnd, v => ∃ b n c, φ k = some b ∧ v = .slice (some ⟨b, 0, none⟩) n c ∧ n ≤ c ∧ c ≤ maxLen ∧ (c = bsz w b ∧ 0 < c) ∧ n ≤ bnd
def CV.relL (φ : Phi) (w : World) : List CV → List Value → Prop
 | [], vs => vs = []
 | c :: cs, vs => ∃ v r, vs = v :: r ∧ CV.rel φ w c v ∧ CV.relL φ w cs r
end
def szK (w w' : World) (b : Nat) : Prop := bsz w b = 0 ∨ bsz w b = bsz w' b
theorem szK.le {w w' : World} {b : Nat} (h : szK w w' b) : bsz w b ≤ bsz w' b := by
 rcases h with h | h
 ·rw [h]; exact yMh _
 ·exact Nat.le_of_eq h
theorem szK.refl (w : World) (b : Nat) : szK w w b := .inr rfl
theorem szK.trans {w w' w'' : World} {b : Nat} (h : szK w w' b) (h' : szK w' w'' b) : szK w w'' b := by
 rcases h with h | h
 ·exact .inl h
 ·rcases h' with h' | h'
  ·exact .inl (h.trans h')
  ·exact .inr (h.trans h')
theorem szK.none {w w' : World} {b : Nat} (h : w.heap.size ≤ b) : szK w w' b := .inl (by unfold bsz; rw [yMo h])
theorem szK.same {w w' : World} {b : Nat} (h : w'.heap[b]? = w.heap[b]?) : szK w w' b := .inr (by unfold bsz; rw [h])
def y0 (φ : Phi) (w : World) (φ' : Phi) (w' : World) : Prop := ∀ k b, φ k = some b → φ' k = some b ∧ szK w w' b
theorem y0.refl (φ : Phi) (w : World) : y0 φ w φ w := fun _ _ h => ⟨h, szK.refl _ _⟩
theorem y0.trans {φ φ' φ'' : Phi} {w w' w'' : World} (h : y0 φ w φ' w') (h' : y0 φ' w' φ'' w'') : y0 φ w φ'' w'' := fun k b hk => ⟨(h' k b (h k b hk).1).1, (h k b hk).2.trans (h' k b (h k b hk).1).2⟩
mutual
theorem CV.rel_mono {φ φ' : Phi} {w w' : World} (E : y0 φ w φ' w') : ∀ (x : CV) (v : Value), x.rel φ w v → x.rel φ' w' v
 | .raw _, _, h => h
 | .agg cs, _, h => by
  obtain ⟨vs, e, h⟩ := h
  exact ⟨vs, e, CV.relL_mono E cs vs h⟩
 | .tup cs, _, h => by
  obtain ⟨vs, e, h⟩ := h
  exact ⟨vs, e, CV.relL_mono E cs vs h⟩
 | .box _ _, _, h => by
  obtain ⟨b, h1, h2⟩ := h
  exact ⟨b, (E _ _ h1).1, h2⟩
 | .bsl _ _ _ _ _, _, h => by
  obtain ⟨b, c, p, h1, h2, h3, h4, h5, h6, h7⟩ := h
  exact ⟨b, c, p, (E _ _ h1).1, h2, h3, h4, h5, yMk h6 (E _ _ h1).2.le, h7⟩
 | .fn _ first cap, _, h => by
  obtain ⟨fs, cs, e, h1, h2⟩ := h
  exact ⟨fs, cs, e, CV.relL_mono E first fs h1, CV.relL_mono E cap cs h2⟩
 | .mp _, _, h => by
  obtain ⟨b, h1, h2⟩ := h
  exact ⟨b, (E _ _ h1).1, h2⟩
 | .yld _, _, h => by
  obtain ⟨b, h1, h2⟩ := h
  exact ⟨b, (E _ _ h1).1, h2⟩
 | .gp _ _, _, h => h
 | .sym _, _, h => h
 | .ifc _ x, _, h => by
  obtain ⟨u, e, h⟩ := h
  exact ⟨u, e, CV.rel_mono E x u h⟩
 | .row _ _, _, h => by
  obtain ⟨b, n, c, h1, h2, h3, h4, h5, h6⟩ := h
  exact ⟨b, n, c, (E _ _ h1).1, h2, h3, h4, ⟨h5.1.trans ((E _ _ h1).2.resolve_left (by have := h5.2; have := h5.1; omega)), h5.2⟩, h6⟩
theorem CV.relL_mono {φ φ' : Phi} {w w' : World} (E : y0 φ w φ' w') : ∀ (xs : List CV) (vs : List Value), CV.relL φ w xs vs → CV.relL φ' w' xs vs
 | [], _, h => h
 | x :: xs, _, h => by
  obtain ⟨v, r, e, h1, h2⟩ := h
  exact ⟨v, r, e, CV.rel_mono E x v h1, CV.relL_mono E xs r h2⟩
end
section
variable {φ : Phi} {w : World}
theorem CV.relL_length : ∀ {xs : List CV} {vs : List Value}, CV.relL φ w xs vs → vs.length = xs.length
 | [], _, h => by rw [show _ = _ from h]; rfl
 | _ :: _, _, h => by
  obtain ⟨v, r, e, _, h2⟩ := h
  rw [e]; simp [CV.relL_length h2]
theorem CV.relL_get : ∀ {xs : List CV} {vs : List Value} {j : Nat} {x : CV}, CV.relL φ w xs vs → xs[j]? = some x → ∃ v, vs[j]? = some v ∧ x.rel φ w v
 | y :: ys, _, j, x, h, hj => by
  obtain ⟨v, r, e, h1, h2⟩ := h
  subst e
  cases j with
  | zero => simp only [yMb, yMc] at hj ⊢; subst hj; exact ⟨v, rfl, h1⟩
  | succ j => simp only [yMd] at hj ⊢; exact CV.relL_get h2 hj
theorem CV.relL_append : ∀ {xs ys : List CV} {vs us : List Value}, CV.relL φ w xs vs → CV.relL φ w ys us → CV.relL φ w (xs ++ ys) (vs ++ us)
 | [], _, _, _, h, h' => by rw [show _ = _ from h]; exact h'
 | _ :: _, _, _, _, h, h' => by
  obtain ⟨v, r, e, h1, h2⟩ := h
  subst e
  exact ⟨v, _, rfl, h1, CV.relL_append h2 h'⟩
theorem CV.relL_drop : ∀ {xs : List CV} {vs : List Value} (k : Nat), CV.relL φ w xs vs → CV.relL φ w (xs.drop k) (vs.drop k)
 | _, _, 0, h => h
 | [], _, k + 1, h => by rw [show _ = _ from h]; rfl
 | _ :: _, _, k + 1, h => by
  obtain ⟨v, r, e, _, h2⟩ := h
  subst e
  exact CV.relL_drop k h2
theorem CV.relL_take : ∀ {xs : List CV} {vs : List Value} (k : Nat), CV.relL φ w xs vs → CV.relL φ w (xs.take k) (vs.take k)
 | _, _, 0, h => by simp [CV.relL]
 | [], _, k + 1, h => by rw [show _ = _ from h]; rfl
 | _ :: _, _, k + 1, h => by
  obtain ⟨v, r, e, h1, h2⟩ := h
  subst e
  exact ⟨v, _, rfl, h1, CV.relL_take k h2⟩
theorem CV.relL_raws : ∀ (vs : List Value), CV.relL φ w (vs.map .raw) vs
 | [] => rfl
 | v :: vs => ⟨v, vs, rfl, rfl, CV.relL_raws vs⟩
theorem CV.relL_over : ∀ {us cs : List CV} {ys vs : List Value}, CV.relL φ w us ys → CV.relL φ w cs vs → CV.relL φ w (qS us cs) (qS ys vs)
 | [], _, _, _, h, h' => by rw [show _ = [] from h]; exact h'
 | u :: us, [], _, _, h, h' => by
  obtain ⟨y, ys, rfl, _, _⟩ := h
  rw [show _ = [] from h']; exact rfl
 | u :: us, c :: cs, _, _, h, h' => by
  obtain ⟨y, ys, rfl, h1, h2⟩ := h
  obtain ⟨v, vs, rfl, _, h4⟩ := h'
  exact ⟨y, _, rfl, h1, CV.relL_over h2 h4⟩
theorem CV.relL_put : ∀ {cs : List CV} {vs : List Value} {n : Nat} {us : List CV} {ys : List Value}, CV.relL φ w cs vs → CV.relL φ w us ys → CV.relL φ w (wT cs n us) (wT vs n ys)
 | cs, vs, 0, us, ys, h, h' => by
  have : wT cs 0 us = qS us cs := by cases cs <;> rfl
  have h2 : wT vs 0 ys = qS ys vs := by cases vs <;> rfl
  rw [this, h2]
  exact CV.relL_over h' h
 | [], _, n + 1, us, ys, h, h' => by rw [show _ = [] from h]; exact rfl
 | c :: cs, _, n + 1, us, ys, h, h' => by
  obtain ⟨v, vs, rfl, h1, h2⟩ := h
  exact ⟨v, _, rfl, h1, CV.relL_put h2 h'⟩
end
def yBc : List CV → Nat → CV
 | [], _ => .raw undef
 | x :: _, 0 => x
 | _ :: r, n + 1 => yBc r n
theorem zHl : ∀ {cs : List CV} {k : Nat}, k < cs.length → cs[k]? = some (yBc cs k)
 | x :: _, 0, _ => rfl
 | _ :: r, k + 1, h => by simp only [yMd, yBc]; exact zHl (by simpa using h)
def zAc (agg : Bool) (sz : Nat) (cs : List CV) (off : Nat) : CV := bif agg then .agg ((cs.drop off).take sz) else yBc cs off
theorem zDr {φ : Phi} {w : World} {agg : Bool} {sz off : Nat} {cs : List CV} {vs : List Value} (h : CV.relL φ w cs vs) (h0 : 0 < sz) (hl : off + sz ≤ cs.length) :
  (zAc agg sz cs off).rel φ w (bif agg then .agg ((vs.drop off).take sz).toArray else (vs[off]?).getD undef) := by
 cases agg
 ·obtain ⟨v, h1, h2⟩ := CV.relL_get h (zHl (show off < cs.length by omega))
  simp only [zAc, yN5, h1, yN6]
  exact h2
 ·exact ⟨_, rfl, CV.relL_take _ (CV.relL_drop _ h)⟩
def y5 : CV → List CV
 | .agg cs => cs
 | x => [x]
def CV.one : CV → Bool
 | .raw v => v.oneCell'
 | .agg _ => false
 | .tup _ => false
 | .sym p => p.one
 | _ => true
def vB : List CV → Bool
 | [] => true
 | x :: xs => x.one && vB xs
theorem zPc {φ : Phi} {w : World} {x : CV} {v : Value} (h : x.one = true) (hr : x.rel φ w v) : v.oneCell' = true := by
 cases x with
 | raw u => rw [show v = u from hr]; exact h
 | agg _ => cases h
 | tup _ => cases h
 | box k off => obtain ⟨b, _, rfl⟩ := hr; rfl
 | bsl s k off n cap => obtain ⟨b, c, p, _, rfl, _⟩ := hr; rfl
 | fn f first cap => obtain ⟨fs, cs, rfl, _⟩ := hr; rfl
 | mp k => obtain ⟨b, _, rfl⟩ := hr; rfl
 | yld k => obtain ⟨b, _, rfl⟩ := hr; rfl
 | gp g off => rw [show v = _ from hr]; rfl
 | sym p =>
  cases p with
  | rng k lo hi => obtain ⟨n, rfl, _⟩ := hr; rfl
  | nz b => obtain ⟨n, rfl, _⟩ := hr; rfl
  | top => cases h
 | ifc t x => obtain ⟨u, rfl, _⟩ := hr; rfl
 | row k bnd => obtain ⟨b, n, c, _, rfl, _⟩ := hr; rfl
theorem vJ {φ : Phi} {w : World} : ∀ {xs : List CV} {vs : List Value}, vB xs = true → CV.relL φ w xs vs → ∀ v ∈ vs, v.oneCell' = true
 | [], _, _, h, v, hv => by rw [show _ = [] from h] at hv; cases hv
 | x :: xs, _, h, hr, v, hv => by
  obtain ⟨u, rr, rfl, h1, h2⟩ := hr
  simp only [vB, yNj] at h
  rcases yNa.1 hv with e | e
  ·subst e; exact zPc h.1 h1
  ·exact vJ h.2 h2 v e
theorem zCx {φ : Phi} {w : World} {x : CV} {v : Value} (h1 : vB (y5 x) = true) (h : x.rel φ w v) : CV.relL φ w (y5 x) v.cells.toList := by
 cases x with
 | agg cs =>
  obtain ⟨vs, rfl, h⟩ := h
  simpa [y5, Value.cells] using h
 | raw u =>
  rw [show v = u from h]
  have h2 : u.oneCell' = true := by simpa [y5, vB, CV.one] using h1
  have : u.cells.toList = [u] := by cases u <;> first | rfl | (cases h2)
  rw [this]
  exact ⟨u, [], rfl, rfl, rfl⟩
 | tup _ => cases h1
 | box k off => obtain ⟨b, h1, rfl⟩ := h; exact ⟨_, [], rfl, ⟨b, h1, rfl⟩, rfl⟩
 | bsl s k off n cap => obtain ⟨b, c, p, h1, rfl, h2⟩ := h; exact ⟨_, [], rfl, ⟨b, c, p, h1, rfl, h2⟩, rfl⟩
 | fn f first cap => obtain ⟨fs, cs, rfl, h⟩ := h; exact ⟨_, [], rfl, ⟨fs, cs, rfl, h⟩, rfl⟩
 | mp k => obtain ⟨b, h1, rfl⟩ := h; exact ⟨_, [], rfl, ⟨b, h1, rfl⟩, rfl⟩
 | yld k => obtain ⟨b, h1, rfl⟩ := h; exact ⟨_, [], rfl, ⟨b, h1, rfl⟩, rfl⟩
 | gp g off => rw [show v = _ from h]; exact ⟨_, [], rfl, rfl, rfl⟩
 | sym p =>
  cases p with
  | rng k lo hi => obtain ⟨n, rfl, h⟩ := h; exact ⟨_, [], rfl, ⟨n, rfl, h⟩, rfl⟩
  | nz b => obtain ⟨n, rfl, h⟩ := h; exact ⟨_, [], rfl, ⟨n, rfl, h⟩, rfl⟩
  | top => cases h1
 | ifc t x => obtain ⟨u, rfl, h⟩ := h; exact ⟨_, [], rfl, ⟨u, rfl, h⟩, rfl⟩
 | row k bnd => obtain ⟨b, n, c, h1, rfl, h2⟩ := h; exact ⟨_, [], rfl, ⟨b, n, c, h1, rfl, h2⟩, rfl⟩

abbrev CH := Tr CB
def zBy (φ : Phi) (w : World) (sl : CS) (tmps : Array Value) : Prop := ∀ t e, sl.get t = some e → ∃ v, tmps[t]? = some v ∧ (e.1 = true → e.2.rel φ w v) ∧ (e.1 = false → v = undef)
theorem zBy.mono {φ φ' : Phi} {w w' : World} {sl : CS} {tmps : Array Value} (E : y0 φ w φ' w') (h : zBy φ w sl tmps) : zBy φ' w' sl tmps := fun t e ht =>
 let ⟨v, h1, h2, h3⟩ := h t e ht
 ⟨v, h1, fun hc => CV.rel_mono E _ _ (h2 hc), h3⟩
def lsS : LS → LoopState
 | .ready => .ready
 | .busy => .busy
 | .done _ => .done
def lsP : LS → Option Code
 | .done j => some (jc j)
 | _ => none
def zKm (φ : Phi) (w : World) (b : Nat) : CB → Prop
 | .cells full cs => ∃ (vs tail : List Value) (T : TypeId), w.heap[b]? = some (.cells (vs ++ tail).toArray T (0, 0)) ∧ CV.relL φ w cs vs ∧ (full = true → tail = [])
 | .map es => ∃ es' ck, w.heap[b]? = some (.map es' ck) ∧ (es'.toList.map fun e => (e.key, e.val)) = es
 | .loop n sl ps assign body st => ∃ tmps fn dB, w.heap[b]? = some (.loop { state := lsS st, pending := lsP st, fn, tmps, params := ps.toArray, assign, body, defers := dB }) ∧ tmps.size = n ∧ zBy φ w sl tmps
 | .dfr => w.heap[b]? = some (.deferred (some []))
 | .rowb => ∃ a : Array Value, w.heap[b]? = some (.cells a 5 (0, 0)) ∧ ∀ x ∈ a.toList, ∃ m, x = .int .u8 m
structure FW where
 w : World
 sz : Nat
 kp : Nat → Prop
 n0 : Nat
 no : Nat → Prop
 le : sz ≤ w.heap.size
 lt : ∀ b, kp b → b < w.heap.size
 nolt : ∀ k, no k → k < n0
def FW.free (F : FW) (b : Nat) : Prop := F.sz ≤ b ∧ ¬ F.kp b
theorem FW.new {F : FW} {b : Nat} (h : F.w.heap.size ≤ b) : F.free b := ⟨yMk F.le h, fun hk => Nat.lt_irrefl _ (yMl (F.lt b hk) h)⟩
structure zOj (F : FW) (w : World) : Prop where
 os : w.os = F.w.os
 tape : w.tape = F.w.tape
 output : w.output = F.w.output
 size : F.w.heap.size ≤ w.heap.size
 block : ∀ b, ¬ F.free b → w.heap[b]? = F.w.heap[b]?
theorem zOj.trans {F : FW} {w w' : World} (h : zOj F w) (h' : Below w.heap.size w w') : zOj F w' :=
 ⟨h'.os.trans h.os, h'.tape.trans h.tape, h'.output.trans h.output, yMk h.size h'.size, fun b hb => (h'.block b (by
  rcases yMn b w.heap.size with g | g
  ·exact g
  ·exact absurd (FW.new (yMk h.size g)) hb)).trans (h.block b hb)⟩
structure HRel (φ : Phi) (F : FW) (h : CH) (nx : Nat) (w : World) : Prop where
 here : ∀ k blk, h.get k = some blk → ∃ b, φ k = some b ∧ F.free b ∧ zKm φ w b blk
 inj : ∀ k k' blk blk' b, h.get k = some blk → h.get k' = some blk' → φ k = some b → φ k' = some b → k = k'
 fresh : ∀ k, nx ≤ k → φ k = none
class SpT where
 sp : Nat → Option Bool
 abs : Bool
 mth : Nat → String → Option FuncId
def spN : Nat := 5
def SpOk [SpT] (w : World) : Prop := ∀ c b, SpT.sp c = some b → ∃ n, w.cell? ⟨spN, c, none⟩ = some (.int .u8 n) ∧ (b = true ↔ n ≠ 0)
structure zBx [SpT] (P : Program) (w : World) : Prop where
 tabs : zFm P w
 sp : SpOk w
theorem zBx.keep [SpT] {P : Program} {w w' : World} (h : zBx P w) (hk : ∀ g, g < w.heap.size → w'.heap[g]? = w.heap[g]?) : zBx P w' :=
 ⟨h.tabs.keep fun g hg => hk g (h.tabs.lt hg), fun c b hc => by
  obtain ⟨n, h1, h2⟩ := h.sp c b hc
  refine ⟨n, ?_, h2⟩
  rw [World.cell?_of_block (w := w) (a := ⟨spN, c, none⟩) (hk spN (World.block_lt_of_cell? w ⟨spN, c, none⟩ h1))]
  exact h1⟩
variable [SpT]
def zKz : Nat := 2
def zU1 (t : Nat) : Option Value := bif Nat.beq t 4 then some (.bool false) else bif Nat.beq t 141 then some (.int .u64 0) else bif Nat.beq t 3 then some (.int .i64 0) else bif Nat.beq t 5 then some (.int .u8 0) else none
structure HS (P : Program) (w0 : FW) (φ : Phi) (h : CH) (nx : Nat) (w : World) : Prop where
 below : zOj w0 w
 heap : HRel φ w0 h nx w
 tabs : ∀ w' : World, (∀ g, g < w0.sz → w'.heap[g]? = w0.w.heap[g]?) → zBx P w'
 tab : P.globalNamed "internal/strconv.uint64pow10" = some zKz ∧ ∀ t z, zU1 t = some z → (P.info? t).bind (·.zero) = some z
 num : w0.n0 ≤ nx ∧ ∀ k, w0.no k → φ k = none
theorem HS.tabs' {P : Program} {w0 : FW} {w : World} {φ : Phi} {h : CH} {nx : Nat} (hs : HS P w0 φ h nx w) : zBx P w := hs.tabs w fun g hg => hs.below.block g fun h => by have := h.1; omega
theorem xA {w : World} {b : Nat} {a : Array Value} {T : TypeId} {x : Nat × Nat} (h : w.heap[b]? = some (.cells a T x)) : bsz w b = a.size := by unfold bsz; rw [h]
def wM (φ : Phi) (k b : Nat) : Phi := fun j => bif Nat.beq j k then some b else φ j
theorem z8 (φ : Phi) (k b : Nat) : wM φ k b k = some b := by simp [wM]
theorem zK {φ : Phi} {k b j : Nat} (h : j ≠ k) : wM φ k b j = φ j := by
 unfold wM
 cases hb : Nat.beq j k
 ·rfl
 ·exact absurd (yMs hb) h
theorem HS.numS {P : Program} {w0 : FW} {w : World} {φ : Phi} {h : CH} {nx : Nat} (hs : HS P w0 φ h nx w) (b : Nat) : w0.n0 ≤ nx + 1 ∧ ∀ k, w0.no k → wM φ nx b k = none :=
 ⟨Nat.le_succ_of_le hs.num.1, fun k hk => by
  have := w0.nolt k hk
  rw [zK (by have := hs.num.1; omega)]; exact hs.num.2 k hk⟩
theorem zKm.mono {φ φ' : Phi} {w w' : World} {b : Nat} (E : y0 φ w φ' w') (hw : w'.heap[b]? = w.heap[b]?) : ∀ {blk : CB}, zKm φ w b blk → zKm φ' w' b blk
 | .cells _ cs, ⟨vs, tail, T, h1, h2, h3⟩ => ⟨vs, tail, T, hw.trans h1, CV.relL_mono E _ _ h2, h3⟩
 | .map _, ⟨es', ck, h1, h2⟩ => ⟨es', ck, hw.trans h1, h2⟩
 | .loop _ _ _ _ _ _, ⟨tmps, fn, dB, h1, h2, h3⟩ => ⟨tmps, fn, dB, hw.trans h1, h2, h3.mono E⟩
 | .dfr, h => hw.trans h
 | .rowb, ⟨a, h, h2⟩ => ⟨a, hw.trans h, h2⟩
section
variable {P : Program} {w0 : FW} {w w' : World} {φ φ' : Phi} {h : CH} {nx : Nat}
theorem zKm.lt {b : Nat} : ∀ {blk : CB}, zKm φ w b blk → b < w.heap.size
 | .cells _ _, ⟨_, _, _, h1, _⟩ => (yMi.1 h1).1
 | .map _, ⟨_, _, h1, _⟩ => (yMi.1 h1).1
 | .loop _ _ _ _ _ _, ⟨_, _, _, h1, _⟩ => (yMi.1 h1).1
 | .dfr, h1 => (yMi.1 h1).1
 | .rowb, ⟨_, h1, _⟩ => (yMi.1 h1).1
theorem HS.push (hs : HS P w0 φ h nx w) {blk : CB} (hb : Below w.heap.size w w') (hsz : w.heap.size < w'.heap.size) (hr : ∀ φ', y0 φ w φ' w' → zKm φ' w' w.heap.size blk) :
  ∃ φ', y0 φ w φ' w' ∧ φ' nx = some w.heap.size ∧ HS P w0 φ' (h.put nx (some blk)) (nx + 1) w' := by
 have E : y0 φ w (wM φ nx w.heap.size) w' := fun k b hk => by
  have hne : k ≠ nx := fun e => by subst e; rw [hs.heap.fresh k (yMj _)] at hk; cases hk
  refine ⟨by rw [zK hne]; exact hk, ?_⟩
  rcases yMn b w.heap.size with hlt | hge
  ·exact szK.same (hb.block b hlt)
  ·exact szK.none hge
 have hle : w0.free w.heap.size := FW.new hs.below.size
 refine ⟨wM φ nx w.heap.size, E, z8 _ _ _, ⟨hs.below.trans hb, ⟨fun k blk' hk => ?_, fun k k' b1 b2 b hk hk' e e' => ?_, fun k hk => ?_⟩, hs.tabs, hs.tab, hs.numS _⟩⟩
 ·rw [Tr.get_put] at hk
  cases hc : Nat.beq k nx
  ·rw [hc] at hk
   have hne : k ≠ nx := fun e => by subst e; rw [yMr] at hc; cases hc
   obtain ⟨b, h1, h2, h3⟩ := hs.heap.here k blk' hk
   exact ⟨b, (E k b h1).1, h2, h3.mono E (hb.block b h3.lt)⟩
  ·obtain rfl := yMs hc
   rw [hc] at hk
   cases hk
   exact ⟨_, z8 _ _ _, hle, hr _ E⟩
 ·have old : ∀ j c bl, h.get j = some bl → wM φ nx w.heap.size j = some c → j ≠ nx → φ j = some c ∧ c < w.heap.size := fun j c bl hj hc hne => by
   rw [zK hne] at hc
   obtain ⟨b', g1, _, g3⟩ := hs.heap.here j bl hj
   rw [hc] at g1
   cases g1
   exact ⟨hc, g3.lt⟩
  by_cases h1 : k = nx <;> by_cases h2 : k' = nx
  ·rw [h1, h2]
  ·subst h1
   rw [Tr.get_other _ _ h2] at hk'
   rw [z8] at e
   cases e
   have := (old k' _ _ hk' e' h2).2
   omega
  ·subst h2
   rw [Tr.get_other _ _ h1] at hk
   rw [z8] at e'
   cases e'
   have := (old k _ _ hk e h1).2
   omega
  ·rw [Tr.get_other _ _ h1] at hk
   rw [Tr.get_other _ _ h2] at hk'
   exact hs.heap.inj k k' b1 b2 b hk hk' (old k b b1 hk e h1).1 (old k' b b2 hk' e' h2).1
 ·rw [zK oq]
  exact hs.heap.fresh k oq
theorem HS.stored (hs : HS P w0 φ h nx w) {k b : Nat} {blk blk' : CB} (hk : h.get k = some blk) (hb : φ k = some b) (hos : w'.os = w.os ∧ w'.tape = w.tape ∧ w'.output = w.output) (hsz : w'.heap.size = w.heap.size) (ho : ∀ j, j ≠ b → w'.heap[j]? = w.heap[j]?) (hbz : szK w w' b)
  (hr : y0 φ w φ w' → zKm φ w' b blk') : y0 φ w φ w' ∧ HS P w0 φ (h.put k (some blk')) nx w' := by
 have E : y0 φ w φ w' := fun j c hj => ⟨hj, by
  by_cases e : c = b
  ·subst e; exact hbz
  ·exact szK.same (ho c e)⟩
 obtain ⟨b', g1, g2, g3⟩ := hs.heap.here k blk hk
 rw [hb] at g1
 cases g1
 refine ⟨E, ⟨⟨hos.1.trans hs.below.os, hos.2.1.trans hs.below.tape, hos.2.2.trans hs.below.output, by rw [hsz]; exact hs.below.size, fun j hj => (ho j fun e => hj (by rw [e]; exact g2)).trans (hs.below.block j hj)⟩, ⟨fun j bl hj => ?_, fun j j' b1 b2 c hj hj' e e' => ?_, hs.heap.fresh⟩, hs.tabs, hs.tab, hs.num⟩⟩
 ·rw [Tr.get_put] at hj
  cases hc : Nat.beq j k
  ·rw [hc] at hj
   have hne : j ≠ k := fun e => by subst e; rw [yMr] at hc; cases hc
   obtain ⟨c, h1, h2, h3⟩ := hs.heap.here j bl hj
   refine ⟨c, h1, h2, h3.mono E (ho c fun e => ?_)⟩
   subst e
   exact hne (hs.heap.inj j k bl blk c hj hk h1 hb)
  ·obtain rfl := yMs hc
   rw [hc] at hj
   cases hj
   exact ⟨b, hb, g2, hr E⟩
 ·have was : ∀ i bl, (h.put k (some blk')).get i = some bl → ∃ bl', h.get i = some bl' := fun i bl hi => by
   by_cases e : i = k
   ·subst e; exact ⟨_, hk⟩
   ·rw [Tr.get_other _ _ e] at hi; exact ⟨_, hi⟩
  obtain ⟨c1, d1⟩ := was j b1 hj
  obtain ⟨c2, d2⟩ := was j' b2 hj'
  exact hs.heap.inj j j' c1 c2 c d1 d2 e e'
theorem HS.same (hs : HS P w0 φ h nx w) (hb : Below w.heap.size w w') : y0 φ w φ w' ∧ HS P w0 φ h nx w' := by
 have E : y0 φ w φ w' := fun j c hj => ⟨hj, by
  rcases yMn c w.heap.size with hlt | hge
  ·exact szK.same (hb.block c hlt)
  ·exact szK.none hge⟩
 exact ⟨E, ⟨hs.below.trans hb, ⟨fun k blk hk => by
  obtain ⟨b, h1, h2, h3⟩ := hs.heap.here k blk hk
  exact ⟨b, h1, h2, h3.mono E (hb.block b h3.lt)⟩, hs.heap.inj, hs.heap.fresh⟩, hs.tabs, hs.tab, hs.num⟩⟩
theorem HS.drop (hs : HS P w0 φ h nx w) (k : Nat) : HS P w0 φ (h.put k none) nx w := by
 have was : ∀ i bl, (h.put k none).get i = some bl → h.get i = some bl := fun i bl hi => by
  by_cases e : i = k
  ·subst e; rw [Tr.get_same] at hi; cases hi
  ·rwa [Tr.get_other _ _ e] at hi
 exact ⟨hs.below, ⟨fun j bl hj => hs.heap.here j bl (was j bl hj), fun j j' b1 b2 c hj hj' => hs.heap.inj j j' b1 b2 c (was j b1 hj) (was j' b2 hj'), hs.heap.fresh⟩, hs.tabs, hs.tab, hs.num⟩
end

def zW2 : Value → CV
 | .agg cs => .agg (cs.toList.map .raw)
 | v => .raw v
theorem zI2 {φ : Phi} {w : World} (v : Value) : (zW2 v).rel φ w v := by
 cases v with
 | agg cs => exact ⟨cs.toList, rfl, CV.relL_raws _⟩
 | _ => rfl
def evE (sl : CS) : Operand → Option (Bool × CV)
 | .tmp t => sl.get t
 | .const v => some (true, zW2 v)
 | .func f => some (true, .raw (.func (.func f) #[] #[]))
 | .global g => some (true, .gp g 0)
def evT (sl : CS) (x : Operand) : Option CV := match evE sl x with
 | some (true, v) => some v
 | _ => none
def zId (φ : Phi) (w : World) (a : Act) (t : Nat) (e : Bool × CV) : Prop := ∃ v, a.tmps[t]? = some v ∧ (e.1 = true → e.2.rel φ w v) ∧ (e.1 = false → v = undef)
theorem zId.mono {φ φ' : Phi} {w w' : World} {a a' : Act} {t : Nat} {e : Bool × CV} (E : y0 φ w φ' w') (h : zId φ w a t e) (ha : a'.tmps[t]? = a.tmps[t]?) : zId φ' w' a' t e := by
 obtain ⟨v, h1, h2, h3⟩ := h
 exact ⟨v, by rw [ha]; exact h1, fun hc => CV.rel_mono E _ _ (h2 hc), h3⟩
def zCz (φ : Phi) (w : World) (a : Act) (sl : CS) (x : Operand) : Prop := ∀ y, evT sl x = some y → y.rel φ w (a.eval x)
theorem jE {φ : Phi} {w : World} {a : Act} {sl : CS} {x : Operand} (h : ∀ t, x = .tmp t → ∀ e, sl.get t = some e → zId φ w a t e) : zCz φ w a sl x := by
 intro y hy
 unfold evT at hy
 split at hy
 ·rename_i v he
  cases hy
  cases x with
  | tmp t =>
   obtain ⟨u, h1, h2, _⟩ := h t rfl _ he
   have : a.eval (.tmp t) = u := by simp [Act.eval, yMt, h1]
   rw [this]
   exact h2 rfl
  | const v => cases he; exact zI2 v
  | func f => cases he; rfl
  | global g => cases he; rfl
 ·cases hy
end Go.Proofs.YtioaahmkebojiaaGreatDoor
