import Derived.Test.YtioaahmkebojiaaGreatDoorWC01
import Derived.Test.YtioaahmkebojiaaGreatDoorWC11
import Derived.Test.YtioaahmkebojiaaGreatDoorWC20
import Derived.Test.YtioaahmkebojiaaGreatDoorWC22
namespace Go.Proofs.YtioaahmkebojiaaGreatDoor
open Tryz
set_option linter.unusedVariables false
set_option linter.unusedSimpArgs false
set_option maxHeartbeats 4000000
set_option maxRecDepth 100000
open Go.RowKit
structure Liv where
 id : Int
 base : Int
 count : Int
 part : Int
 err : Int
instance : Inhabited Liv := ⟨⟨0, 0, 0, 0, 0⟩⟩
def Liv.sum (h : Liv) (t : Int) : Int := h.count * 1000000000 + h.part + (t - h.base) * (1000000000 + h.err)
def Liv.right (h : Liv) : Prop := (0 ≤ h.base ∧ h.base ≤ 3000000000000000) ∧ (0 ≤ h.count ∧ h.count ≤ 3000000000000000) ∧ (0 ≤ h.part ∧ h.part ≤ 999999999) ∧ (-1000000 ≤ h.err ∧ h.err ≤ 1000000)
instance (h : Liv) : Decidable h.right := by unfold Liv.right; infer_instance
def Liv.turn (h : Liv) (t e : Int) : Liv := ⟨h.id, t, h.sum t / 1000000000, h.sum t % 1000000000, e⟩
theorem zMu (h : Liv) (t e u : Int) : (h.turn t e).sum u = h.sum t + (u - t) * (1000000000 + e) := by
 unfold Liv.turn
 rw [Liv.sum]
 have := Int.mul_ediv_add_emod (h.sum t) 1000000000
 simp only
 omega
theorem zTa {p d x : Int} (hd : 0 < d) : zAd p d ≤ x ↔ p ≤ x * d := by
 unfold zAd
 have h1 := Int.mul_ediv_add_emod p d
 have h2 := Int.emod_nonneg p (show d ≠ 0 by omega)
 have h3 := Int.emod_lt_of_pos p hd
 generalize p / d = q at *
 generalize p % d = r at *
 subst h1
 constructor
 ·intro h
  split at h
  ·have : d * q + d ≤ x * d := by
    have := yPp h (show 0 ≤ d by omega)
    rw [Int.mul_add, Int.mul_one, Int.mul_comm d x] at this
    exact this
   omega
  ·have := yPp h (show 0 ≤ d by omega)
   rw [Int.add_zero, Int.mul_comm d x] at this
   omega
 ·intro h
  split
  ·rcases Int.lt_or_le q x with h4 | h4
   ·omega
   ·have := Int.mul_le_mul_of_nonneg_right h4 (show 0 ≤ d by omega)
    rw [Int.mul_comm q d] at this
    omega
  ·rcases Int.lt_or_le x q with h4 | h4
   ·have := Int.mul_le_mul_of_nonneg_right (show x + 1 ≤ q by omega) (show 0 ≤ d by omega)
    rw [Int.add_mul, Int.one_mul, Int.mul_comm q d] at this
    omega
   ·omega
theorem zZ1 {rate e x : Int} (hr : 0 ≤ rate ∧ rate ≤ 1000000) (he : 0 ≤ e ∧ e ≤ 900000000000000) (h0 : 0 ≤ x) (hlo : e * (1000000000 - rate) < (x + 1) * 1000000000) (hhi : (x - 1) * 1000000000 < e * (1000000000 + rate)) :
  ((qP rate e).1.lo ≤ x ∧ x ≤ (qP rate e).1.hi) ∧ (qP rate e).2 = 0 ∧ (wC rate x).2 = 0 ∧ (wC rate x).1.lo ≤ e ∧ e ≤ (wC rate x).1.hi := by
 have hm : e * (1000000000 + rate) ≤ e * 1001000000 := yPp oq he.1
 have hx : x ≤ 1000000000000000 := by omega
 unfold wC qP
 rw [if_pos ⟨hr, he.1, by omega⟩, if_pos ⟨hr, h0, hx⟩]
 refine ⟨⟨?_, ?_⟩, rfl, rfl, ?_, ?_⟩
 ·have := yPq (show (0 : Int) < 1000000000 by decide) hlo
  simp only
  omega
 ·rcases Int.lt_or_le (zAd (e * (1000000000 + rate)) 1000000000) x with h | h
  ·have := (zTa (show (0 : Int) < 1000000000 by decide)).1 (show zAd (e * (1000000000 + rate)) 1000000000 ≤ x - 1 by omega)
   omega
  ·exact h
 ·simp only
  split
  ·have : (x - 1) * 1000000000 / (1000000000 + rate) < e := yPq oq hhi
   omega
  ·exact he.1
 ·have : ¬ zAd ((x + 1) * 1000000000) (1000000000 - rate) ≤ e := fun h3 => by
   have := (zTa oq).1 h3
   omega
  simp only
  omega
theorem zG2 {rate : Int} (hr : 0 ≤ rate ∧ rate ≤ 1000000) {h : Liv} (hh : -rate ≤ h.err ∧ h.err ≤ rate) {e t0 t1 t2 : Int} (he : -rate ≤ e ∧ e ≤ rate) (h1 : t0 ≤ t1) (h2 : t1 ≤ t2) (hd : t2 - t0 ≤ 900000000000000) {a b c : Int}
  (ha : a = h.sum t0 / 1000000000) (hb : b = h.sum t1 / 1000000000) (hc : c = (h.turn t1 e).sum t2 / 1000000000) :
  a ≤ b ∧ b = (h.turn t1 e).sum t1 / 1000000000 ∧ b ≤ c ∧ ((qP rate (t2 - t0)).1.lo ≤ c - a ∧ c - a ≤ (qP rate (t2 - t0)).1.hi) ∧ (qP rate (t2 - t0)).2 = 0 ∧ (wC rate (c - a)).2 = 0 ∧ (wC rate (c - a)).1.lo ≤ t2 - t0 ∧ t2 - t0 ≤ (wC rate (c - a)).1.hi := by
 rw [zMu] at hc ⊢
 have e1 : h.sum t1 = h.sum t0 + (t1 - t0) * (1000000000 + h.err) := by
  unfold Liv.sum
  rw [show t1 - h.base = (t0 - h.base) + (t1 - t0) by omega, Int.add_mul]
  omega
 have p1 : 0 ≤ (t1 - t0) * (1000000000 + h.err) := yPg oq oq
 have p2 : 0 ≤ (t2 - t1) * (1000000000 + e) := yPg oq oq
 have l1 : (t1 - t0) * (1000000000 - rate) ≤ (t1 - t0) * (1000000000 + h.err) := yPp oq oq
 have l2 : (t2 - t1) * (1000000000 - rate) ≤ (t2 - t1) * (1000000000 + e) := yPp oq oq
 have u1 : (t1 - t0) * (1000000000 + h.err) ≤ (t1 - t0) * (1000000000 + rate) := yPp oq oq
 have u2 : (t2 - t1) * (1000000000 + e) ≤ (t2 - t1) * (1000000000 + rate) := yPp oq oq
 have s1 : (t2 - t0) * (1000000000 - rate) = (t1 - t0) * (1000000000 - rate) + (t2 - t1) * (1000000000 - rate) := by rw [← Int.add_mul]; congr 1; omega
 have s2 : (t2 - t0) * (1000000000 + rate) = (t1 - t0) * (1000000000 + rate) + (t2 - t1) * (1000000000 + rate) := by rw [← Int.add_mul]; congr 1; omega
 generalize (t1 - t0) * (1000000000 + h.err) = D1 at *
 generalize (t2 - t1) * (1000000000 + e) = D2 at *
 generalize h.sum t0 = S0 at *
 rw [e1] at hb hc ⊢
 have hab : a ≤ b := by omega
 have hbc : b ≤ c := by omega
 refine ⟨hab, by rw [hb]; congr 1; omega, hbc, ?_⟩
 exact zZ1 hr ⟨by omega, hd⟩ oq (by rw [s1]; omega) (by rw [s2]; omega)
@[go_sem] def Liv.av (ch : AV) (h : Liv) : List AV := [.raw (.int .i64 h.id), .raw (.int .i64 h.base), .raw (.int .i64 h.count), .raw (.int .i64 h.part), .raw (.int .i64 h.err), .raw (.bool true), .raw (.bool false), .raw (.int .i64 0), .raw (.int .i64 0), .raw (.int .i64 3000000000000000),
 .raw (.int .i64 0), .raw (.int .i64 0), .raw (.int .i64 0), ch, .raw (.int .i64 0), .raw (.int .i64 0), .raw (.slice none 0 0), .raw (.slice none 0 0), .raw (.int .i64 0), .raw (.slice none 0 0), .raw (.slice none 0 0), .raw (.slice none 0 0)]
abbrev zX : AV := .raw (.slice none 0 0)
abbrev mtA : AV := .lst 1 0 fun _ => []
theorem yU : mtA.free := fun i hi => absurd hi (Nat.not_lt_zero i)
theorem zZo : Sim zX mtA := Sim.nil rfl
theorem zQt {ch : AV} (hc : Sim ch mtA) (h : Liv) : Sim (.agg (h.av ch)) (.agg (h.av mtA)) :=
 Sim.agg ⟨Sim.refl _, Sim.refl _, Sim.refl _, Sim.refl _, Sim.refl _, Sim.refl _, Sim.refl _, Sim.refl _, Sim.refl _, Sim.refl _, Sim.refl _, Sim.refl _, Sim.refl _, hc, Sim.refl _, Sim.refl _, Sim.refl _, Sim.refl _, Sim.refl _, Sim.refl _, Sim.refl _, Sim.refl _, trivial⟩
theorem Liv.free {ch : AV} (hc : ch.free) (h : Liv) : AV.freeL (h.av ch) := by simp [Liv.av, AV.freeL, AV.free, hc]
theorem zC6 (n lo hi : Int) : FnA Tryz.prog 31 [.raw (.int .i64 n), .raw (.int .i64 lo), .raw (.int .i64 hi)] (.raw (.bool (decide (lo ≤ n) && decide (n ≤ hi)))) := by
 refine en func31 ntmps31 [.tmp 6] rfl ?_
 repeat' first
  | refine wkg trivial ?_
  | (refine cS (fun hb => ?_) fun hb => ?_ <;> try (cases hb; done))
  | refine sM fun K hK => ?_
  | fail
 all_goals exact fA
theorem wU (n : Int) : FnA Tryz.prog 18 [.raw (.int .i64 n)] (.raw (.bool (decide (0 ≤ n) && decide (n ≤ 3000000000000000)))) := by
 have h := zC6 n 0 3000000000000000
 refine en func18 ntmps18 [.tmp 2] rfl ?_
 repeat' first
  | refine wkg h ?_
  | (refine cS (fun hb => ?_) fun hb => ?_ <;> try (cases hb; done))
  | refine sM fun K hK => ?_
  | fail
 all_goals exact fA
theorem zIh (h : Liv) : FnA Tryz.prog 23 [.agg (h.av mtA)] (.raw (.bool (decide h.right))) := by
 have h1 := wU h.base
 have h2 := wU h.count
 have h3 := zC6 h.part 0 999999999
 have h4 := zC6 h.err (-1000000) 1000000
 have e : decide h.right = (((decide (0 ≤ h.base) && decide (h.base ≤ 3000000000000000)) && (decide (0 ≤ h.count) && decide (h.count ≤ 3000000000000000))) && (decide (0 ≤ h.part) && decide (h.part ≤ 999999999)) && (decide (-1000000 ≤ h.err) && decide (h.err ≤ 1000000))) := by
  rw [yN7]
  simp only [Liv.right, yNk, yNj, and_assoc]
 rw [e]
 refine en func23 ntmps23 [.tmp 2] rfl ?_
 repeat' first
  | refine wkg (And.intro h1 (And.intro h2 (And.intro h3 h4))) ?_
  | (refine cS (fun hb => ?_) fun hb => ?_ <;> try (cases hb; done))
  | refine sM fun K hK => ?_
  | fail
 all_goals exact fA
theorem zUa (h : Liv) (ch : AV) (hc : Sim ch mtA) : FnA Tryz.prog 23 [.agg (h.av ch)] (.raw (.bool (decide h.right))) := FnA.sim (zIh h) ⟨zQt hc h, trivial⟩
theorem zMc {x n : Int} (hx : 0 ≤ x) (hn : 0 ≤ n) : x * n = x * n / 1000000000 * 1000000000 + (x.tmod 1000000000 * n).tmod 1000000000 ∧ 0 ≤ (x.tmod 1000000000 * n).tmod 1000000000 ∧ (x.tmod 1000000000 * n).tmod 1000000000 < 1000000000 ∧ 0 ≤ x.tmod 1000000000 ∧ x.tmod 1000000000 < 1000000000 := by
 rw [yPf hx]
 have h1 := Int.emod_nonneg x (show (1000000000 : Int) ≠ 0 by decide)
 have h2 := Int.emod_lt_of_pos x (show (0 : Int) < 1000000000 by decide)
 have e : (x % 1000000000 * n) % 1000000000 = x * n % 1000000000 := by rw [Int.mul_emod (x % 1000000000), Int.emod_emod_of_dvd _ (Int.dvd_refl _), ← Int.mul_emod]
 rw [yPf (yPg h1 hn), e]
 have h3 := Int.emod_nonneg (x * n) (show (1000000000 : Int) ≠ 0 by decide)
 have h4 := Int.emod_lt_of_pos (x * n) (show (0 : Int) < 1000000000 by decide)
 have h5 := Int.mul_ediv_add_emod (x * n) 1000000000
 omega
theorem zCv (h : Liv) (hr : h.right) (t : Int) (h0 : h.base ≤ t) (ht : t ≤ 900000000000000) :
  FnA Tryz.prog 24 [.agg (h.av mtA), .raw (.int .i64 t)] (.tup [.raw (.int .i64 (h.sum t / 1000000000)), .raw (.int .i64 (h.sum t % 1000000000)), .raw (.bool (decide (h.sum t / 1000000000 ≤ 3000000000000000)))]) := by
 obtain ⟨⟨b1, b2⟩, ⟨c1, c2⟩, ⟨p1, p2⟩, e1, e2⟩ := hr
 have hx : 0 ≤ t - h.base ∧ t - h.base ≤ 900000000000000 := by omega
 have hn : 999000000 ≤ 1000000000 + h.err ∧ 1000000000 + h.err ≤ 1001000000 := by omega
 have hm : (t - h.base) * (1000000000 + h.err) ≤ (t - h.base) * 1001000000 := yPp hn.2 hx.1
 have hm0 : 0 ≤ (t - h.base) * (1000000000 + h.err) := yPg hx.1 oq
 have f := zHu (t - h.base) (1000000000 + h.err) 1000000000 oq oq dq (by
  rw [show max (t - h.base) (-(t - h.base)) = t - h.base by omega]
  omega)
 obtain ⟨k1, k2, k3, k4, k5⟩ := zMc hx.1 (show 0 ≤ 1000000000 + h.err by omega)
 have q1 : 0 ≤ (t - h.base).tmod 1000000000 * (1000000000 + h.err) := yPg k4 oq
 have q2 : (t - h.base).tmod 1000000000 * (1000000000 + h.err) ≤ 1000000000 * 1001000000 := Int.mul_le_mul oq hn.2 oq dq
 obtain ⟨S, hS⟩ : ∃ S, S = h.sum t := ⟨_, rfl⟩
 rw [← hS]
 unfold Liv.sum at hS
 generalize (t - h.base) * (1000000000 + h.err) = W at *
 have w1 : 0 ≤ W / 1000000000 ∧ W / 1000000000 ≤ 900900000000000 := by omega
 have z1 : h.count + W / 1000000000 + (((t - h.base).tmod 1000000000 * (1000000000 + h.err)).tmod 1000000000 + h.part).tdiv 1000000000 = S / 1000000000 := by
  rw [yPj oq]
  omega
 have z2 : (((t - h.base).tmod 1000000000 * (1000000000 + h.err)).tmod 1000000000 + h.part).tmod 1000000000 = S % 1000000000 := by
  rw [yPf oq]
  omega
 have z3 : 0 ≤ (((t - h.base).tmod 1000000000 * (1000000000 + h.err)).tmod 1000000000 + h.part).tdiv 1000000000 ∧ (((t - h.base).tmod 1000000000 * (1000000000 + h.err)).tmod 1000000000 + h.part).tdiv 1000000000 ≤ 1 := by
  rw [yPj oq]
  omega
 clear k1 hS hm hm0
 refine en func24 ntmps24 [.tmp 4, .tmp 5, .tmp 6] rfl ?_
 repeat' first
  | refine wkg f ?_
  | (refine cS (fun hb => ?_) fun hb => ?_ <;> try (cases hb; done))
  | refine sM fun K hK => ?_
  | fail
 simp only [z1, z2]
 all_goals exact fA
theorem zF1 (h : Liv) (hr : h.right) (ch : AV) (hc : Sim ch mtA) (t : Int) (h0 : h.base ≤ t) (ht : t ≤ 900000000000000) :
  FnA Tryz.prog 24 [.agg (h.av ch), .raw (.int .i64 t)] (.tup [.raw (.int .i64 (h.sum t / 1000000000)), .raw (.int .i64 (h.sum t % 1000000000)), .raw (.bool (decide (h.sum t / 1000000000 ≤ 3000000000000000)))]) := FnA.sim (zCv h hr t h0 ht) ⟨zQt hc h, Sim.refl _, trivial⟩
end Go.Proofs.YtioaahmkebojiaaGreatDoor
