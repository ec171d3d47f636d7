import Derived.Test.YtchpbdecipcelaaGreatDoorHO01
import Derived.Test.YtchpbdecipcelaaGreatDoorHO24
import Derived.Test.YtchpbdecipcelaaGreatDoorHO31
import Derived.Test.YtchpbdecipcelaaGreatDoorHO45
import Derived.Test.YtchpbdecipcelaaGreatDoorHO46
namespace Go.Proofs.YtchpbdecipcelaaGreatDoor
set_option linter.unusedVariables false
set_option linter.unusedSimpArgs false
set_option maxHeartbeats 4000000
set_option maxRecDepth 100000
open Go.RowKit
def yZ (rate e : Int) : Rg := ⟨e * (1000000000 - rate) / 1000000000, jP (e * (1000000000 + rate)) 1000000000⟩
theorem zKo (rate e : Int) (hr : 0 ≤ rate ∧ rate ≤ 1000000) (he : 0 ≤ e ∧ e ≤ 10000000) : FnA Tryz.prog 71 [.raw (.int .i64 rate), .raw (.int .i64 e)] (.tup [.agg (yZ rate e).av, .raw (.int .i64 0)]) := by
 have h1 := zTv rate
 have h2 := zMi e
 rw [yM1 hr.1, yM1 hr.2] at h1
 rw [yM1 he.1, yM1 (by omega : e ≤ 1000000000000000)] at h2
 have q1 : e / 1000000000 ≤ 3000000000000000 / (1000000000 - rate) := by
  have : e / 1000000000 = 0 := Int.ediv_eq_zero_of_lt he.1 (by omega)
  rw [this]
  exact yMd (by decide) (by omega)
 have q2 : e / 1000000000 ≤ 3000000000000000 / (1000000000 + rate) := by
  have : e / 1000000000 = 0 := Int.ediv_eq_zero_of_lt he.1 (by omega)
  rw [this]
  exact yMd (by decide) (by omega)
 have w1 : e * (1000000000 - rate) / 1000000000 < 3000000000000000 := by
  refine yMe (by decide) ?_
  have : e * (1000000000 - rate) ≤ e * 1000000000 := yMc (by omega) he.1
  omega
 have w2 : e * (1000000000 + rate) / 1000000000 < 3000000000000000 := by
  refine yMe (by decide) ?_
  have : e * (1000000000 + rate) ≤ e * 1001000000 := yMc (by omega) he.1
  omega
 have f1 := zTl e (1000000000 - rate) 1000000000 (by omega) (by omega) (by decide) q1 w1
 have f2 := zWo e (1000000000 + rate) 1000000000 (by omega) (by omega) (by decide) q2 w2
 unfold yZ
 clear q1 q2 w1 w2
 generalize jP (e * (1000000000 + rate)) 1000000000 = Y at *
 generalize e * (1000000000 - rate) / 1000000000 = X at *
 refine en Tryz.func71 Tryz.ntmps71 [.cell 4 98, .tmp 5] rfl ?_
 repeat' first
  | refine wkg (And.intro h1 (And.intro h2 (And.intro f1 f2))) ?_
  | (refine cS (fun hb => ?_) fun hb => ?_ <;> try (cases hb; done))
  | refine sM fun K hK => ?_
  | fail
 ·refine rq ?_ ?_
  ·rfl
  ·simp [AV.free, AV.freeL, go_sem]
theorem zEj {p d x : Int} (hd : 0 < d) : jP p d ≤ x ↔ p ≤ x * d := by
 unfold jP
 have h1 := Int.mul_ediv_add_emod p d
 have h2 := Int.emod_nonneg p (show d ≠ 0 by omega)
 have h3 := yLz p hd
 generalize p / d = q at *
 generalize p % d = r at *
 subst h1
 constructor
 ·intro h
  split at h
  ·have : d * q + d ≤ x * d := by
    have := yMc h (show 0 ≤ d by omega)
    rw [Int.mul_add, Int.mul_one, Int.mul_comm d x] at this
    exact this
   omega
  ·have := yMc h (show 0 ≤ d by omega)
   rw [Int.add_zero, Int.mul_comm d x] at this
   omega
 ·intro h
  split
  ·rcases Int.lt_or_le q x with h4 | h4
   ·omega
   ·have := yM8 h4 (show 0 ≤ d by omega)
    rw [Int.mul_comm q d] at this
    omega
  ·rcases Int.lt_or_le x q with h4 | h4
   ·have := yM8 (show x + 1 ≤ q by omega) (show 0 ≤ d by omega)
    rw [Int.add_mul, Int.one_mul, Int.mul_comm q d] at this
    omega
   ·omega
theorem zAv {rate e x : Int} (hr : 0 ≤ rate ∧ rate ≤ 1000000) (he : 0 ≤ e ∧ e ≤ 10000000) (h : (yZ rate e).lo ≤ x ∧ x ≤ (yZ rate e).hi) : 0 ≤ x ∧ x ≤ 20000000 ∧ (xK rate x).1.lo ≤ e ∧ e ≤ (xK rate x).1.hi := by
 simp only [yZ] at h
 obtain ⟨h1, h2⟩ := h
 have h0 : 0 ≤ x := Int.le_trans (yMd (yLt he.1 (by omega)) (by decide)) h1
 have hlo : e * (1000000000 - rate) < (x + 1) * 1000000000 := by
  have := Int.lt_ediv_add_one_mul_self (e * (1000000000 - rate)) (show (0 : Int) < 1000000000 by decide)
  have h3 : (e * (1000000000 - rate) / 1000000000 + 1) * 1000000000 ≤ (x + 1) * 1000000000 := yM8 (by omega) (by decide)
  omega
 have hhi : (x - 1) * 1000000000 < e * (1000000000 + rate) := by
  rcases Int.lt_or_le ((x - 1) * 1000000000) (e * (1000000000 + rate)) with h3 | h3
  ·exact h3
  ·have := (zEj (show (0 : Int) < 1000000000 by decide)).2 h3
   omega
 have hm : e * (1000000000 + rate) ≤ e * 1001000000 := yMc (by omega) he.1
 have hx : x ≤ 20000000 := by omega
 refine ⟨h0, hx, ?_⟩
 unfold xK
 rw [if_pos ⟨hr, h0, by omega⟩]
 simp only
 constructor
 ·split
  ·rename_i hp
   have : (x - 1) * 1000000000 / (1000000000 + rate) < e := yMe (by omega) hhi
   omega
  ·exact he.1
 ·have : ¬ jP ((x + 1) * 1000000000) (1000000000 - rate) ≤ e := fun h3 => by
   have := (zEj (by omega)).1 h3
   omega
  omega
structure Six where
 a0 : Int
 a1 : Int
 a2 : Int
 a3 : Int
 a4 : Int
 a5 : Int
 deriving Inhabited, DecidableEq
@[go_sem] def Six.av (x : Six) : List AV := [.raw (.int .u16 x.a0), .raw (.int .u16 x.a1), .raw (.int .u16 x.a2), .raw (.int .u16 x.a3), .raw (.int .u16 x.a4), .raw (.int .u16 x.a5)]
def zP6 (a : Int) : Prop := 0 ≤ a ∧ a ≤ 65535
def Six.ok (x : Six) : Prop := zP6 x.a0 ∧ zP6 x.a1 ∧ zP6 x.a2 ∧ zP6 x.a3 ∧ zP6 x.a4 ∧ zP6 x.a5
@[simp] theorem Six.free (x : Six) : AV.freeL x.av := ⟨trivial, trivial, trivial, trivial, trivial, trivial, trivial⟩
structure Wd where
 rounds : List yP
 sent : List Int
 got : List (List Int)
 count : Int
 now : Int
def zAk (b : Change) (y : Six) : Int := b.outLo + y.a1.tmod (b.outHi - b.outLo + 1)
def vJ (b : Change) (y : Six) : Int := b.backLo + y.a2.tmod (b.backHi - b.backLo + 1)
def qK (y : Six) : Int := 1 + y.a0.tmod 2
def xO (b : Change) (i : Nat) (y : Six) (w : Wd) : zM :=
 ⟨qK y, 7, (i : Int) + 1, kS (wT w.rounds w.rounds.length) 7 ((i : Int) + 1) (qK y), ⟨max 0 (w.now + zAk b y - y.a3.tmod 40000), w.now + zAk b y + y.a4.tmod 40000⟩, 1, 0, ⟨0, 0⟩⟩
def zAx (b : Change) (i : Nat) (y : Six) (w : Wd) : zM := (zC1 (4 + qK y) 9 (xO b i y w)).1
def zP4 (b : Change) (rate : Int) (y : Six) : Int := (yZ rate (zAk b y + vJ b y)).lo + y.a5.tmod ((yZ rate (zAk b y + vJ b y)).hi - (yZ rate (zAk b y + vJ b y)).lo + 1)
def zDy (rate : Int) (y : Six) : Int := (yZ rate (3000000 + y.a5)).lo + y.a4.tmod ((yZ rate (3000000 + y.a5)).hi - (yZ rate (3000000 + y.a5)).lo + 1)
def zB0 (b : Change) (rate : Int) (i : Nat) (y : Six) (w : Wd) : Wd :=
 ⟨w.rounds ++ [⟨[zAx b i y w]⟩], w.sent ++ [w.count], w.got ++ [[w.count + zP4 b rate y]], w.count + zDy rate y, w.now + (3000000 + y.a5)⟩
def v9 (b : Change) (rate at_ : Int) (x : List Six) : Nat → Wd
 | 0 => ⟨[], [], [], 0, at_⟩
 | i + 1 => zB0 b rate i (x.getD i default) (v9 b rate at_ x i)
def kT : List zH := [⟨1, 1, 1024, 0, 3000000000000000, ⟨0, 0⟩⟩, ⟨2, 1, 4096, 0, 3000000000000000, ⟨0, 0⟩⟩]
def vK : List q9 := [⟨1, 40000, 0, 0⟩, ⟨2, 40000, 0, 0⟩]
def vI (c : List Change) : List wY := [⟨7, 1, c⟩, ⟨7, 2, c⟩]
def yHq (c : List Change) (rate : Int) (w : Wd) : zQ := ⟨⟨kT, vK, 2, [⟨7, w.rounds⟩]⟩, [⟨7, rate, w.sent, w.got⟩], vI c⟩
theorem zKu {c : List Change} (hv : Lk.ValidP c) : (0 ≤ (Lk.linkBoundsM c ⟨0, 3000000000000000⟩).1.outLo ∧ (Lk.linkBoundsM c ⟨0, 3000000000000000⟩).1.outLo ≤ (Lk.linkBoundsM c ⟨0, 3000000000000000⟩).1.outHi ∧ (Lk.linkBoundsM c ⟨0, 3000000000000000⟩).1.outHi ≤ 1000000) ∧
  (0 ≤ (Lk.linkBoundsM c ⟨0, 3000000000000000⟩).1.backLo ∧ (Lk.linkBoundsM c ⟨0, 3000000000000000⟩).1.backLo ≤ (Lk.linkBoundsM c ⟨0, 3000000000000000⟩).1.backHi ∧ (Lk.linkBoundsM c ⟨0, 3000000000000000⟩).1.backHi ≤ 1000000) := by
 have hb := Lk.bounds_formed (l := c) (i := ⟨0, 3000000000000000⟩) (yM1 hv) (by decide)
 rw [Lk.formed_iff] at hb
 omega
theorem yT {a d : Int} (ha : 0 ≤ a) (hd : 0 < d) : 0 ≤ a.tmod d ∧ a.tmod d < d ∧ a.tmod d ≤ a := by
 rw [yLs ha]
 refine ⟨Int.emod_nonneg _ (by omega), yLz _ hd, ?_⟩
 rcases Int.lt_or_le a d with h | h
 ·rw [Int.emod_eq_of_lt ha h]
  exact yM6 _
 ·have := yLz a hd
  omega
theorem vV {rate e : Int} (hr : 0 ≤ rate ∧ rate ≤ 1000000) (he : 0 ≤ e ∧ e ≤ 10000000) : 0 ≤ (yZ rate e).lo ∧ (yZ rate e).lo ≤ (yZ rate e).hi ∧ (yZ rate e).hi ≤ 20000000 := by
 unfold yZ
 simp only
 have h1 : 0 ≤ e * (1000000000 - rate) := yLt he.1 (by omega)
 have h2 : e * (1000000000 - rate) ≤ e * 1000000000 := yMc (by omega) he.1
 have h3 : e * 1000000000 ≤ e * (1000000000 + rate) := yMc (by omega) he.1
 have h4 : e * (1000000000 + rate) ≤ e * 1001000000 := yMc (by omega) he.1
 refine ⟨yMd h1 (by decide), ?_, ?_⟩
 ·have h5 : e * (1000000000 - rate) / 1000000000 ≤ e := by
   have := Int.ediv_le_ediv (c := 1000000000) (by decide) h2
   rwa [Int.mul_ediv_cancel _ (by decide)] at this
  have h6 : e ≤ jP (e * (1000000000 + rate)) 1000000000 := by
   rcases Int.lt_or_le (jP (e * (1000000000 + rate)) 1000000000) e with h | h
   ·have := (zEj (show (0 : Int) < 1000000000 by decide)).1 (show jP (e * (1000000000 + rate)) 1000000000 ≤ e - 1 by omega)
    omega
   ·exact h
  omega
 ·exact (zEj (by decide)).2 (by omega)
structure yA1 (b : Change) (rate : Int) (y : Six) : Prop where
 a : 1 ≤ qK y ∧ qK y ≤ 2
 o : b.outLo ≤ zAk b y ∧ zAk b y ≤ b.outHi ∧ 0 ≤ zAk b y ∧ zAk b y ≤ 1000000
 k : b.backLo ≤ vJ b y ∧ vJ b y ≤ b.backHi ∧ 0 ≤ vJ b y ∧ vJ b y ≤ 1000000
 g : (yZ rate (zAk b y + vJ b y)).lo ≤ zP4 b rate y ∧ zP4 b rate y ≤ (yZ rate (zAk b y + vJ b y)).hi ∧ 0 ≤ zP4 b rate y ∧ zP4 b rate y ≤ 20000000
 n : (yZ rate (3000000 + y.a5)).lo ≤ zDy rate y ∧ zDy rate y ≤ (yZ rate (3000000 + y.a5)).hi ∧ 0 ≤ zDy rate y ∧ zDy rate y ≤ 20000000
theorem zNw {c : List Change} (hv : Lk.ValidP c) {rate : Int} (hr : 0 ≤ rate ∧ rate ≤ 1000000) {y : Six} (hy : y.ok) : yA1 (Lk.linkBoundsM c ⟨0, 3000000000000000⟩).1 rate y := by
 obtain ⟨⟨b1, b2, b3⟩, b4, b5, b6⟩ := zKu hv
 generalize (Lk.linkBoundsM c ⟨0, 3000000000000000⟩).1 = b at *
 obtain ⟨y0, y1, y2, y3, y4, y5⟩ := hy
 unfold zP6 at *
 have t0 := yT y0.1 (show (0 : Int) < 2 by decide)
 have t1 := yT y1.1 (show 0 < b.outHi - b.outLo + 1 by omega)
 have t2 := yT y2.1 (show 0 < b.backHi - b.backLo + 1 by omega)
 have ho : b.outLo ≤ zAk b y ∧ zAk b y ≤ b.outHi ∧ 0 ≤ zAk b y ∧ zAk b y ≤ 1000000 := by unfold zAk; omega
 have hk : b.backLo ≤ vJ b y ∧ vJ b y ≤ b.backHi ∧ 0 ≤ vJ b y ∧ vJ b y ≤ 1000000 := by unfold vJ; omega
 have c1 := vV hr (show 0 ≤ zAk b y + vJ b y ∧ zAk b y + vJ b y ≤ 10000000 by omega)
 have c2 := vV hr (show 0 ≤ 3000000 + y.a5 ∧ 3000000 + y.a5 ≤ 10000000 by omega)
 have t5 := yT y5.1 (show 0 < (yZ rate (zAk b y + vJ b y)).hi - (yZ rate (zAk b y + vJ b y)).lo + 1 by omega)
 have t4 := yT y4.1 (show 0 < (yZ rate (3000000 + y.a5)).hi - (yZ rate (3000000 + y.a5)).lo + 1 by omega)
 exact ⟨by unfold qK; omega, ho, hk, by unfold zP4; omega, by unfold zDy; omega⟩
theorem zIl : zL4.fits := by
 refine ⟨?_, ?_, ?_, ?_, ⟨?_, ?_⟩, ?_, ?_, ?_, ?_⟩ <;> simp [zL4, inK]
theorem zRh {key once : Int} {r : zM} (hf : r.fits) (hk : zU key 1 = true) (ho : zU once 1 = true) : (zC1 key once r).1.fits := by
 unfold zC1
 split
 ·split
  ·obtain ⟨h1, h2, h3, h4, ⟨h5, h6⟩, h7, h8, h9, h10⟩ := hf
   obtain ⟨g1, g2⟩ := zB1 (m := zBo r) hk ho
   rw [yL] at g1 g2
   exact ⟨h1, h2, h3, h4, ⟨h5, h6⟩, h7, h8, by simp only [inK]; omega, by simp only [inK]; omega⟩
  ·exact zIl
 ·exact zIl
structure yC5 (i : Nat) (at_ : Int) (w : Wd) : Prop where
 now : at_ ≤ w.now ∧ w.now ≤ at_ + i * 3065535
 count : 0 ≤ w.count ∧ w.count ≤ i * 20000000
 rl : w.rounds.length = i
 sl : w.sent.length = i
 gl : w.got.length = i
 rf : ∀ r ∈ w.rounds, r.replies.length ≤ 400000 ∧ ∀ x ∈ r.replies, x.fits
theorem zGn {c : List Change} (hv : Lk.ValidP c) {rate at_ : Int} (hr : 0 ≤ rate ∧ rate ≤ 1000000) (ha : 0 ≤ at_ ∧ at_ ≤ 1500000000000000) {i : Nat} (hi : i < 6) {w : Wd} (hw : yC5 i at_ w) {y : Six} (hy : y.ok) : (xO (Lk.linkBoundsM c ⟨0, 3000000000000000⟩).1 i y w).fits := by
 have hn := zNw hv hr hy
 generalize (Lk.linkBoundsM c ⟨0, 3000000000000000⟩).1 = b at *
 obtain ⟨h1, h2, h3, h4, h5⟩ := hn
 obtain ⟨g1, g2, _, _, _, _⟩ := hw
 obtain ⟨y0, y1, y2, y3, y4, y5⟩ := hy
 unfold zP6 at *
 have t3 := yT y3.1 (show (0 : Int) < 40000 by decide)
 have t4 := yT y4.1 (show (0 : Int) < 40000 by decide)
 refine ⟨?_, ?_, ?_, zF5 _ _, ⟨?_, ?_⟩, ?_, ?_, ?_, ?_⟩ <;> simp only [xO, inK] <;> omega
theorem zXu {c : List Change} (hv : Lk.ValidP c) {rate at_ : Int} (hr : 0 ≤ rate ∧ rate ≤ 1000000) (ha : 0 ≤ at_ ∧ at_ ≤ 1500000000000000) {i : Nat} (hi : i < 6) {w : Wd} (hw : yC5 i at_ w) {y : Six} (hy : y.ok) : yC5 (i + 1) at_ (zB0 (Lk.linkBoundsM c ⟨0, 3000000000000000⟩).1 rate i y w) := by
 have hn := zNw hv hr hy
 have hf := zGn hv hr ha hi hw hy
 obtain ⟨h1, h2, h3, h4, h5⟩ := hn
 obtain ⟨g1, g2, g3, g4, g5, g6⟩ := hw
 have y5 := hy.2.2.2.2.2
 unfold zP6 at y5
 refine ⟨by simp only [zB0]; omega, by simp only [zB0]; omega, by simp [zB0, g3], by simp [zB0, g4], by simp [zB0, g5], fun r hr => ?_⟩
 simp only [zB0, yK6, yK4] at hr
 rcases hr with hr | rfl
 ·exact g6 r hr
 ·refine ⟨by simp, fun x hx => ?_⟩
  obtain rfl := yK4.1 hx
  exact zRh hf (by rw [yL]; omega) (by decide)
theorem zE5 {c : List Change} (hv : Lk.ValidP c) {rate at_ : Int} (hr : 0 ≤ rate ∧ rate ≤ 1000000) (ha : 0 ≤ at_ ∧ at_ ≤ 1500000000000000) {x : List Six} (hx : x.length ≤ 6) (hok : ∀ y ∈ x, y.ok) : ∀ i, i ≤ x.length → yC5 i at_ (v9 (Lk.linkBoundsM c ⟨0, 3000000000000000⟩).1 rate at_ x i)
 | 0, _ => ⟨by simp [v9], by simp [v9], rfl, rfl, rfl, fun r hr => by cases hr⟩
 | i + 1, h => zXu hv hr ha (by omega) (zE5 hv hr ha hx hok i (by omega)) (hok _ (zAn (by omega)))
theorem zEh {α : Type} (d : α) (l r : List α) {i : Nat} (h : i < l.length) : (l ++ r).getD i d = l.getD i d := by
 simp [yJk, yJw h]
theorem zFe {α : Type} (d : α) (l : List α) (x : α) {i : Nat} (h : i = l.length) : (l ++ [x]).getD i d = x := by
 subst h; simp
theorem zFb (l r : List yP) : ∀ k, k ≤ l.length → wT (l ++ r) k = wT l k
 | 0, _ => rfl
 | k + 1, h => by
  simp only [wT]
  rw [zFb l r k (by omega), zEh _ _ _ (by omega)]
structure Run (c : List Change) (rate at_ : Int) (x : List Six) : Prop where
 hv : Lk.ValidP c
 hr : 0 ≤ rate ∧ rate ≤ 1000000
 ha : 0 ≤ at_ ∧ at_ ≤ 1500000000000000
 hx : x.length ≤ 6
 hok : ∀ y ∈ x, y.ok
 hnow : (v9 (Lk.linkBoundsM c ⟨0, 3000000000000000⟩).1 rate at_ x x.length).now < 2999999991000000
theorem zBb : ValidP kT := by decide +kernel
section
variable {c : List Change} {rate at_ : Int} {x : List Six} (R : Run c rate at_ x)
abbrev bC2 (c : List Change) : Change := (Lk.linkBoundsM c ⟨0, 3000000000000000⟩).1
abbrev wAt (c : List Change) (rate at_ : Int) (x : List Six) (i : Nat) : Wd := v9 (bC2 c) rate at_ x i
abbrev yAt (x : List Six) (i : Nat) : Six := x.getD i default
include R
theorem Run.wd {i : Nat} (h : i ≤ x.length) : yC5 i at_ (wAt c rate at_ x i) := zE5 R.hv R.hr R.ha R.hx R.hok i h
theorem Run.num {i : Nat} (h : i < x.length) : yA1 (bC2 c) rate (yAt x i) := zNw R.hv R.hr (R.hok _ (zAn h))
theorem Run.yok {i : Nat} (h : i < x.length) : (yAt x i).ok := R.hok _ (zAn h)
theorem Run.now_le {i : Nat} (h : i ≤ x.length) : ∀ k, i + k ≤ x.length → (wAt c rate at_ x i).now + 3000000 * k ≤ (wAt c rate at_ x (i + k)).now := by
 intro k
 induction k with
 | zero => intro _; simp
 | succ k ih =>
  intro hk
  have h1 := ih (by omega)
  have h2 := (R.yok (i := i + k) (by omega)).2.2.2.2.2
  unfold zP6 at h2
  have : (wAt c rate at_ x (i + (k + 1))).now = (wAt c rate at_ x (i + k)).now + (3000000 + (yAt x (i + k)).a5) := rfl
  omega
theorem Run.now_lt {i : Nat} (h : i ≤ x.length) : (wAt c rate at_ x i).now < 2999999991000000 := by
 have h1 := R.now_le h (x.length - i) (by omega)
 have h2 := R.hnow
 rw [show i + (x.length - i) = x.length from by omega] at h1
 have : (wAt c rate at_ x x.length).now = (v9 (Lk.linkBoundsM c ⟨0, 3000000000000000⟩).1 rate at_ x x.length).now := rfl
 omega
theorem Run.nth {i : Nat} (hi : i < x.length) : ∀ n, n ≤ x.length → i < n → (wAt c rate at_ x n).rounds.getD i default = ⟨[zAx (bC2 c) i (yAt x i) (wAt c rate at_ x i)]⟩ ∧ (wAt c rate at_ x n).sent.getD i default = (wAt c rate at_ x i).count ∧
  (wAt c rate at_ x n).got.getD i default = [(wAt c rate at_ x i).count + zP4 (bC2 c) rate (yAt x i)] ∧ wT (wAt c rate at_ x n).rounds i = wT (wAt c rate at_ x i).rounds i := by
 intro n
 induction n with
 | zero => intro _ h; exact absurd h (Nat.not_lt_zero _)
 | succ n ih =>
  intro hn hlt
  have hw := R.wd (i := n) (by omega)
  show (zB0 (bC2 c) rate n (yAt x n) (wAt c rate at_ x n)).rounds.getD i default = _ ∧ (zB0 (bC2 c) rate n (yAt x n) (wAt c rate at_ x n)).sent.getD i default = _ ∧ (zB0 (bC2 c) rate n (yAt x n) (wAt c rate at_ x n)).got.getD i default = _ ∧ wT (zB0 (bC2 c) rate n (yAt x n) (wAt c rate at_ x n)).rounds i = _
  simp only [zB0]
  rcases yIq i n with h | h
  ·obtain ⟨h1, h2, h3, h4⟩ := ih (by omega) h
   exact ⟨by rw [zEh _ _ _ (by rw [hw.rl]; exact h), h1], by rw [zEh _ _ _ (by rw [hw.sl]; exact h), h2], by rw [zEh _ _ _ (by rw [hw.gl]; exact h), h3], by rw [zFb _ _ _ (by rw [hw.rl]; omega), h4]⟩
  ·obtain rfl : i = n := by omega
   exact ⟨zFe _ _ _ hw.rl.symm, zFe _ _ _ hw.sl.symm, zFe _ _ _ hw.gl.symm, zFb _ _ _ (by rw [hw.rl]; omega)⟩
theorem Run.stamp {i : Nat} (hi : i < x.length) : let r := xO (bC2 c) i (yAt x i) (wAt c rate at_ x i)
  (0 ≤ r.stamp.lo ∧ r.stamp.lo ≤ r.stamp.hi ∧ r.stamp.hi < 3000000000000000) ∧ (r.stamp.lo ≤ (wAt c rate at_ x i).now + zAk (bC2 c) (yAt x i) ∧ (wAt c rate at_ x i).now + zAk (bC2 c) (yAt x i) ≤ r.stamp.hi) ∧ r.stamp.hi - r.stamp.lo ≤ 80000 := by
 have h1 := R.now_lt (i := i) (by omega)
 have h2 := (R.wd (i := i) (by omega)).now
 have h3 := R.ha
 have h4 := (R.num hi).o
 obtain ⟨_, _, _, y3, y4, _⟩ := R.yok hi
 unfold zP6 at y3 y4
 have t3 := yT y3.1 (show (0 : Int) < 40000 by decide)
 have t4 := yT y4.1 (show (0 : Int) < 40000 by decide)
 simp only [xO]
 generalize (yAt x i).a3.tmod 40000 = u at *
 generalize (yAt x i).a4.tmod 40000 = v at *
 generalize zAk (bC2 c) (yAt x i) = o at *
 omega
theorem Run.bareP {i : Nat} (hi : i < x.length) : yJ (zOu (xO (bC2 c) i (yAt x i) (wAt c rate at_ x i))) := by
 have hs := R.stamp hi
 have hn := (R.num hi).a
 have hx := R.hx
 simp only at hs
 refine ⟨⟨?_, ?_, ?_⟩, ?_, ?_, ?_, ?_, ?_⟩ <;> simp only [zOu, xO] at hs ⊢ <;> omega
theorem Run.key {i : Nat} (hi : i < x.length) : zU (4 + qK (yAt x i)) 1 = true := by
 rw [yL]
 have := (R.num hi).a
 omega
theorem Run.signed {i : Nat} (hi : i < x.length) : zAx (bC2 c) i (yAt x i) (wAt c rate at_ x i) = { xO (bC2 c) i (yAt x i) (wAt c rate at_ x i) with sig := (qB (4 + qK (yAt x i)) 9 (zBo (xO (bC2 c) i (yAt x i) (wAt c rate at_ x i)))).1 } := by
 unfold zAx zC1
 rw [if_pos (R.bareP hi), zBy (R.key hi) (by decide), if_pos rfl]
theorem Run.right {i : Nat} (hi : i < x.length) : zAr kT (zAx (bC2 c) i (yAt x i) (wAt c rate at_ x i)) = true := by
 rw [R.signed hi]
 have hs := R.stamp hi
 have hn := (R.num hi).a
 simp only at hs
 have hsv := zLf (m := zBo (xO (bC2 c) i (yAt x i) (wAt c rate at_ x i))) (R.key hi) (show zU 9 1 = true by decide) (zPz (k := (4 + qK (yAt x i)).toNat) (by omega))
 have hp : zLp kT (qK (yAt x i)) 1 (xO (bC2 c) i (yAt x i) (wAt c rate at_ x i)).stamp = ((wD 4 (4 + qK (yAt x i)).toNat : Int), 0) := by
  generalize (xO (bC2 c) i (yAt x i) (wAt c rate at_ x i)).stamp = s at *
  unfold zLp
  rw [if_pos ⟨zBb, hs.1.1, hs.1.2.1, by omega⟩]
  obtain h | h : qK (yAt x i) = 1 ∨ qK (yAt x i) = 2 := by omega
  ·rw [h, show zCe kT 1 1 = true by decide +kernel, show zG9 kT 1 1 = 0 by decide +kernel]
   rw [if_pos rfl, if_neg (by show ¬ (s.lo < 0 ∨ (3000000000000000 : Int) ≤ s.hi); omega)]
   rw [show wD 4 ((4 : Int) + 1).toNat = 1024 by decide +kernel]
   rfl
  ·rw [h, show zCe kT 2 1 = true by decide +kernel, show zG9 kT 2 1 = 1 by decide +kernel]
   rw [if_pos rfl, if_neg (by show ¬ (s.lo < 0 ∨ (3000000000000000 : Int) ≤ s.hi); omega)]
   rw [show wD 4 ((4 : Int) + 2).toNat = 4096 by decide +kernel]
   rfl
 have e1 : (xO (bC2 c) i (yAt x i) (wAt c rate at_ x i)).auth = qK (yAt x i) := rfl
 have e2 : (xO (bC2 c) i (yAt x i) (wAt c rate at_ x i)).key = 1 := rfl
 unfold zAr
 rw [yJl, yJm]
 simp only [e1, e2, hp, yIw]
 show (yW _ _ (zBo (xO (bC2 c) i (yAt x i) (wAt c rate at_ x i)))).1 = true
 rw [hsv]
end
end Go.Proofs.YtchpbdecipcelaaGreatDoor
