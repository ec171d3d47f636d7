import Derived.Test.YtchpbdecipcelaaGreatDoorHO01
import Derived.Test.YtchpbdecipcelaaGreatDoorHO47
namespace Go.Proofs.YtchpbdecipcelaaGreatDoor
set_option linter.unusedVariables false
set_option linter.unusedSimpArgs false
set_option maxHeartbeats 4000000
set_option maxRecDepth 100000
open Go.RowKit
section
variable {c : List Change} {rate at_ : Int} {x : List Six} (R : Run c rate at_ x)
abbrev mAt (c : List Change) (rate at_ : Int) (x : List Six) : zQ := yHq c rate (wAt c rate at_ x x.length)
abbrev sAt (c : List Change) (rate at_ : Int) (x : List Six) (i : Nat) : zM := zAx (bC2 c) i (yAt x i) (wAt c rate at_ x i)
theorem yC0 {a : Int} (h : 1 ≤ a ∧ a ≤ 2) : zE3 vK a = (⟨a, 40000, 0, 0⟩, true) := by
 obtain rfl | rfl : a = 1 ∨ a = 2 := by omega
 ·rfl
 ·rfl
theorem yBl (hv : Lk.ValidP c) : (Lk.linkBoundsM c ⟨0, 3000000000000000⟩).2 = 0 := by
 unfold Lk.linkBoundsM
 simp only [Lk.validM, yM1 hv]
 rfl
theorem yAd (hv : Lk.ValidP c) {a : Int} (h : 1 ≤ a ∧ a ≤ 2) : qS (vI c) 7 a = (bC2 c, true) := by
 have he := yBl hv
 obtain rfl | rfl : a = 1 ∨ a = 2 := by omega
 ·show ((Lk.linkBoundsM c ⟨0, 3000000000000000⟩).1, decide ((Lk.linkBoundsM c ⟨0, 3000000000000000⟩).2 = 0)) = _
  rw [he]; rfl
 ·show ((Lk.linkBoundsM c ⟨0, 3000000000000000⟩).1, decide ((Lk.linkBoundsM c ⟨0, 3000000000000000⟩).2 = 0)) = _
  rw [he]; rfl
include R
theorem Run.sg {i : Nat} (hi : i < x.length) : sAt c rate at_ x i = { xO (bC2 c) i (yAt x i) (wAt c rate at_ x i) with sig := (qB (4 + qK (yAt x i)) 9 (zBo (xO (bC2 c) i (yAt x i) (wAt c rate at_ x i)))).1 } := R.signed hi
theorem Run.sP {i : Nat} (hi : i < x.length) : yJ (sAt c rate at_ x i) := by
 rw [R.sg hi]
 obtain ⟨h1, h2, h3, h4, _⟩ := R.bareP hi
 have hs := zB1 (m := zBo (xO (bC2 c) i (yAt x i) (wAt c rate at_ x i))) (R.key hi) (show zU 9 1 = true by decide)
 rw [yL, yL] at hs
 exact ⟨h1, h2, h3, h4, by simp only; omega, by simp only; omega, by simp only; omega⟩
theorem Run.chain : j9 ⟨7, (wAt c rate at_ x x.length).rounds⟩ := by
 have hw := R.wd (i := x.length) (yIn _)
 have hx := R.hx
 refine ⟨⟨by show (1 : Int) ≤ 7; decide, by show (7 : Int) ≤ 64; decide⟩, by simp only; rw [hw.rl]; omega, fun k hk => ?_⟩
 simp only at hk ⊢
 rw [hw.rl] at hk
 obtain ⟨h1, _, _, h4⟩ := R.nth hk _ (yIn _) hk
 rw [h1, h4]
 intro j hj
 obtain rfl : j = 0 := by simpa using hj
 refine ⟨fun y hy => ?_, ?_, ?_, ?_, ?_⟩
 ·simp [zL3] at hy
 ·exact R.sP hk
 ·show (sAt c rate at_ x k).host = 7
  rw [R.sg hk]; rfl
 ·show (sAt c rate at_ x k).round = _
  rw [R.sg hk]; rfl
 ·show (sAt c rate at_ x k).nonce = kS _ _ _ (sAt c rate at_ x k).auth
  rw [R.sg hk]
  show kS (wT _ (wAt c rate at_ x k).rounds.length) 7 ((k : Int) + 1) _ = _
  rw [(R.wd (i := k) (by omega)).rl]
  rfl
theorem Run.count_le {i : Nat} (h : i + 1 ≤ x.length) : (wAt c rate at_ x i).count ≤ (wAt c rate at_ x (i + 1)).count := by
 have := (R.num (i := i) (by omega)).n
 show _ ≤ (wAt c rate at_ x i).count + zDy rate (yAt x i)
 omega
theorem Run.diary : zDr ⟨7, (wAt c rate at_ x x.length).rounds⟩ ⟨7, rate, (wAt c rate at_ x x.length).sent, (wAt c rate at_ x x.length).got⟩ := by
 have hw := R.wd (i := x.length) (yIn _)
 have hx := R.hx
 refine ⟨rfl, R.hr, by rw [hw.sl, hw.rl], by rw [hw.gl, hw.rl], fun i hi => ?_, fun i hi => ?_⟩
 ·simp only at hi ⊢
  rw [hw.sl] at hi
  rw [(R.nth (i := i) (by omega) _ (yIn _) (by omega)).2.1, (R.nth hi _ (yIn _) hi).2.1]
  exact R.count_le (by omega)
 ·simp only at hi
  rw [hw.rl] at hi
  obtain ⟨h1, h2, h3, _⟩ := R.nth hi _ (yIn _) hi
  have hc := (R.wd (i := i) (by omega)).count
  have hg := (R.num hi).g
  have hci : (wAt c rate at_ x i).count ≤ 120000000 := by omega
  refine ⟨?_, ?_, ?_⟩
  ·simp only [h2]
   exact ⟨by omega, by omega⟩
  ·simp only [h1, h3]
   rfl
  ·simp only [h2, h3]
   intro u hu
   obtain rfl := yK4.1 hu
   omega
theorem Run.form : zBf (mAt c rate at_ x) := by
 refine ⟨zBb, by show jV vK; decide, by show (0 : Int) ≤ 2 ∧ (2 : Int) ≤ 5; decide, ⟨?_, by show 2 ≤ 1024; decide⟩, by show 1 ≤ 8; decide, rfl, fun i hi => ?_⟩
 ·intro i hi
  have hi2 : i < 2 := hi
  obtain rfl | rfl : i = 0 ∨ i = 1 := by omega
  ·exact ⟨rfl, by show (1 : Int) ≤ 7 ∧ (7 : Int) ≤ 64; decide, by show (1 : Int) ≤ 1 ∧ (1 : Int) ≤ 16; decide, R.hv⟩
  ·exact ⟨rfl, by show (1 : Int) ≤ 7 ∧ (7 : Int) ≤ 64; decide, by show (1 : Int) ≤ 2 ∧ (2 : Int) ≤ 16; decide, R.hv⟩
 ·obtain rfl : i = 0 := by have : i < 1 := hi; omega
  exact ⟨by show (0 : Int) < 7; decide, R.chain, R.diary⟩
theorem Run.okM : OkM (mAt c rate at_ x) := by
 have hw := R.wd (i := x.length) (yIn _)
 have hx := R.hx
 have hc := R.hv.2.1
 refine ⟨by show 2 ≤ _; decide, ?_, by show 2 ≤ _; decide, by show 2 ≤ _; decide, ?_, by show 1 ≤ _; decide, ?_, by show 1 ≤ _; decide, ?_⟩
 ·intro k hk
  have hk : k = ⟨1, 1, 1024, 0, 3000000000000000, ⟨0, 0⟩⟩ ∨ k = ⟨2, 1, 4096, 0, 3000000000000000, ⟨0, 0⟩⟩ := by
   rcases yJb.1 hk with h | h
   ·exact .inl h
   ·exact .inr (yK4.1 h)
  rcases hk with rfl | rfl <;> simp [zH.fits, Sig.fits, inK]
 ·intro w hw
  have : w.changes = c := by
   rcases yJb.1 hw with h | h
   ·rw [h]
   ·rw [yK4.1 h]
  rw [this]; omega
 ·intro k hk
  obtain rfl := yK4.1 hk
  refine ⟨by simp only; rw [hw.rl]; omega, by simp [inK], hw.rf⟩
 ·intro d hd
  obtain rfl := yK4.1 hd
  refine ⟨by simp only; rw [hw.sl]; omega, fun g hg => ?_⟩
  obtain ⟨i, hi, rfl⟩ := yL8.1 hg
  simp only at hi
  have hi' : i < x.length := by rw [hw.gl] at hi; exact hi
  have := (R.nth hi' _ (yIn _) hi').2.2.1
  rw [z5 hi] at this
  simp only [this]
  show 1 ≤ 4611686018427387904
  decide
theorem Run.check {i : Nat} (hi : i < x.length) : zCs (mAt c rate at_ x) (sAt c rate at_ x i) = 0 := by
 have ha := (R.num hi).a
 have e1 : (sAt c rate at_ x i).auth = qK (yAt x i) := by rw [R.sg hi]; rfl
 have e2 : (sAt c rate at_ x i).host = 7 := by rw [R.sg hi]; rfl
 unfold zCs
 rw [if_pos (show _ ∧ _ from ⟨by show (zE3 vK (sAt c rate at_ x i).auth).2 = true; rw [e1, yC0 ha], by show (qS (vI c) (sAt c rate at_ x i).host (sAt c rate at_ x i).auth).2 = true; rw [e1, e2, yAd R.hv ha]⟩), if_pos]
 rw [yJl, yJl]
 exact ⟨⟨yM1 zBb, yM1 (R.sP hi)⟩, R.right hi⟩
omit R in
def zH7 (c : List Change) (rate at_ : Int) (x : List Six) (i : Nat) : y7 := ⟨0, i, 1 + 3 * i, [sAt c rate at_ x i]⟩
theorem Run.evs : ∀ j, j ≤ x.length → qP 0 (wAt c rate at_ x x.length).rounds 1 j = ((List.range j).map (zH7 c rate at_ x), 1 + 3 * (j : Int))
 | 0, _ => rfl
 | j + 1, h => by
  have hj : j < x.length := by omega
  rw [qP, Run.evs j (by omega), (R.nth hj _ (yIn _) hj).1, yLc, yLh]
  refine Prod.ext ?_ ?_
  ·rfl
  ·show 1 + 3 * (j : Int) + (1 + 2 * ((1 : Nat) : Int)) = 1 + 3 * ((j + 1 : Nat) : Int)
   omega
theorem Run.evl : evL (mAt c rate at_ x) = (List.range x.length).map (zH7 c rate at_ x) ∧ evN (mAt c rate at_ x) = 1 + 3 * (x.length : Int) := by
 have h := R.evs x.length (yIn _)
 have hw := (R.wd (i := x.length) (yIn _)).rl
 have e : evM [⟨7, (wAt c rate at_ x x.length).rounds⟩] 1 = qP 0 (wAt c rate at_ x x.length).rounds 1 (wAt c rate at_ x x.length).rounds.length := rfl
 rw [hw, h] at e
 exact ⟨congrArg Prod.fst e, congrArg Prod.snd e⟩
theorem Run.wE : ∀ j, j ≤ x.length → Go.Proofs.YtchpbdecipcelaaGreatDoor.wE (mAt c rate at_ x) ((List.range j).map (zH7 c rate at_ x)) = 0
 | 0, _ => rfl
 | j + 1, h => by
  rw [yLc, yLh, yJo, yKf, zR0, Run.wE j (by omega)]
  show orC 0 (zCs _ (sAt c rate at_ x j)) = 0
  rw [R.check (by omega)]; rfl
omit R in
def tAt (c : List Change) (rate at_ : Int) (x : List Six) (t : Nat) : Int :=
 if t = 0 then 0 else (wAt c rate at_ x ((t - 1) / 3)).now + (if (t - 1) % 3 = 0 then 0 else if (t - 1) % 3 = 1 then zAk (bC2 c) (yAt x ((t - 1) / 3)) else zAk (bC2 c) (yAt x ((t - 1) / 3)) + vJ (bC2 c) (yAt x ((t - 1) / 3)))
omit R in
theorem yHa (i : Nat) : tAt c rate at_ x (1 + 3 * i) = (wAt c rate at_ x i).now := by
 unfold tAt
 rw [if_neg (by omega), show (1 + 3 * i - 1) / 3 = i by omega, if_pos (by omega)]; omega
omit R in
theorem tAt1 (i : Nat) : tAt c rate at_ x (1 + 3 * i + 1) = (wAt c rate at_ x i).now + zAk (bC2 c) (yAt x i) := by
 unfold tAt
 rw [if_neg (by omega), show (1 + 3 * i + 1 - 1) / 3 = i by omega, if_neg (by omega), if_pos (by omega)]
omit R in
theorem tAt2 (i : Nat) : tAt c rate at_ x (1 + 3 * i + 2) = (wAt c rate at_ x i).now + (zAk (bC2 c) (yAt x i) + vJ (bC2 c) (yAt x i)) := by
 unfold tAt
 rw [if_neg (by omega), show (1 + 3 * i + 2 - 1) / 3 = i by omega, if_neg (by omega), if_neg (by omega)]
omit R in
def zCa (X : Nat → Int) (b : zO) : Prop := X b.to_.toNat ≤ X b.from_.toNat + b.most
omit R in
theorem wP {X : Nat → Int} {a b : Int} {r : Rg} {who : List zB} (h : r.lo ≤ X b.toNat - X a.toNat ∧ X b.toNat - X a.toNat ≤ r.hi) : ∀ z ∈ zZ a b r who, zCa X z := by
 intro z hz
 simp only [zZ, yJb, yKj, yKq] at hz
 rcases hz with rfl | rfl <;> simp only [zCa] <;> omega
theorem Run.t_range {t : Nat} (h1 : 1 ≤ t) (h2 : t ≤ 3 * x.length) : 0 ≤ tAt c rate at_ x t ∧ tAt c rate at_ x t ≤ 3000000000000000 := by
 have hi : (t - 1) / 3 < x.length := by omega
 have n1 := R.now_lt (i := (t - 1) / 3) (by omega)
 have n2 := (R.wd (i := (t - 1) / 3) (by omega)).now
 have n3 := (R.num hi).o
 have n4 := (R.num hi).k
 have n5 := R.ha
 unfold tAt
 rw [if_neg (by omega)]
 split
 ·omega
 ·split <;> omega
theorem Run.base : ∀ z ∈ xH (evN (mAt c rate at_ x) - 1).toNat, zCa (tAt c rate at_ x) z := by
 rw [R.evl.2]
 intro z hz
 simp only [xH, yM9, yL1] at hz
 obtain ⟨t, ht, hz⟩ := hz
 refine wP ?_ z hz
 have := R.t_range (t := t + 1) (by omega) (by omega)
 rw [show ((t : Int) + 1).toNat = t + 1 by omega, show (0 : Int).toNat = 0 from rfl, show tAt c rate at_ x 0 = 0 from rfl]
 simp only
 omega
omit R in
theorem yBp (j : Nat) : yY (mAt c rate at_ x) (zH7 c rate at_ x j) = ⟨7, rate, (wAt c rate at_ x x.length).sent, (wAt c rate at_ x x.length).got⟩ := rfl
theorem Run.says {j : Nat} (hj : j < x.length) : ∀ z ∈ j4 (mAt c rate at_ x) (zH7 c rate at_ x j) 0, zCa (tAt c rate at_ x) z := by
 obtain ⟨h1, h2, h3, _⟩ := R.nth hj _ (yIn _) hj
 have hs := R.stamp hj
 obtain ⟨n1, n2, n3, n4, _⟩ := R.num hj
 have t0 := yHa (c := c) (rate := rate) (at_ := at_) (x := x) j
 have t1 := tAt1 (c := c) (rate := rate) (at_ := at_) (x := x) j
 have t2 := tAt2 (c := c) (rate := rate) (at_ := at_) (x := x) j
 have hce := zAv (x := zP4 (bC2 c) rate (yAt x j)) R.hr (e := zAk (bC2 c) (yAt x j) + vJ (bC2 c) (yAt x j)) (by omega) ⟨n4.1, n4.2.1⟩
 have ea : (zH7 c rate at_ x j).at_ = 1 + 3 * (j : Int) := rfl
 have er : (zH7 c rate at_ x j).replies.getD 0 default = sAt c rate at_ x j := rfl
 have en : (zH7 c rate at_ x j).round.toNat = j := by show ((j : Nat) : Int).toNat = j; omega
 unfold j4
 rw [yBp]
 simp only [er, en, ea, h2, h3]
 rw [show [(wAt c rate at_ x j).count + zP4 (bC2 c) rate (yAt x j)].getD 0 default - (wAt c rate at_ x j).count = zP4 (bC2 c) rate (yAt x j) by show (wAt c rate at_ x j).count + zP4 (bC2 c) rate (yAt x j) - (wAt c rate at_ x j).count = _; omega]
 have e1 : (sAt c rate at_ x j).auth = qK (yAt x j) := by rw [R.sg hj]; rfl
 have e2 : (sAt c rate at_ x j).host = 7 := by rw [R.sg hj]; rfl
 have e3 : (sAt c rate at_ x j).stamp = (xO (bC2 c) j (yAt x j) (wAt c rate at_ x j)).stamp := by rw [R.sg hj]
 have u0 : (1 + 3 * (j : Int)).toNat = 1 + 3 * j := by omega
 have u1 : (1 + 3 * (j : Int) + 1 + 2 * ((0 : Nat) : Int)).toNat = 1 + 3 * j + 1 := by omega
 have u2 : (1 + 3 * (j : Int) + 1 + 2 * ((0 : Nat) : Int) + 1).toNat = 1 + 3 * j + 2 := by omega
 unfold zAs
 rw [show (mAt c rate at_ x).evidence.auths = vK from rfl, show (mAt c rate at_ x).wires = vI c from rfl, e1, e2, e3, yC0 n1, yAd R.hv n1]
 simp only at hs ⊢
 intro z hz
 simp only [yK6] at hz
 rcases hz with (((hz | hz) | hz) | hz) | hz
 ·refine wP ?_ z hz
  rw [u1, show (0 : Int).toNat = 0 from rfl, show tAt c rate at_ x 0 = 0 from rfl, t1]
  simp only
  omega
 ·rw [if_neg (by omega)] at hz
  cases hz
 ·refine wP ?_ z hz
  rw [u1, u0, t1, t0]
  simp only
  omega
 ·refine wP ?_ z hz
  rw [u1, u2, t1, t2]
  simp only
  omega
 ·refine wP ?_ z hz
  rw [u2, u0, t0, t2]
  omega
omit R in
def yHm (c : List Change) (rate at_ : Int) (x : List Six) (j : Nat) : y7 := if j = 0 then ev0 else zH7 c rate at_ x (j - 1)
theorem Run.round {j : Nat} (hj : j < x.length) : ∀ z ∈ kP (mAt c rate at_ x) (zH7 c rate at_ x j) (yHm c rate at_ x j), zCa (tAt c rate at_ x) z := by
 intro z hz
 unfold kP at hz
 rcases yK6.1 hz with hz | hz
 ·cases j with
  | zero => rw [if_neg (by show ¬ (0 : Int) < ((0 : Nat) : Int); decide)] at hz; cases hz
  | succ k =>
   rw [if_pos (by show (0 : Int) < ((k + 1 : Nat) : Int); omega), show yHm c rate at_ x (k + 1) = zH7 c rate at_ x k from rfl] at hz
   obtain ⟨_, g2, _, _⟩ := R.nth hj _ (yIn _) hj
   obtain ⟨_, h2, _, _⟩ := R.nth (i := k) (by omega) _ (yIn _) (by omega)
   have t0 := yHa (c := c) (rate := rate) (at_ := at_) (x := x) k
   have t2 := tAt2 (c := c) (rate := rate) (at_ := at_) (x := x) k
   have s0 := yHa (c := c) (rate := rate) (at_ := at_) (x := x) (k + 1)
   obtain ⟨_, n2, n3, _, n5⟩ := R.num (i := k) (by omega)
   have y5 := (R.yok (i := k) (by omega)).2.2.2.2.2
   unfold zP6 at y5
   have hce := zAv (x := zDy rate (yAt x k)) R.hr (e := 3000000 + (yAt x k).a5) (by omega) ⟨n5.1, n5.2.1⟩
   have ec : (wAt c rate at_ x (k + 1)).count = (wAt c rate at_ x k).count + zDy rate (yAt x k) := rfl
   have eno : (wAt c rate at_ x (k + 1)).now = (wAt c rate at_ x k).now + (3000000 + (yAt x k).a5) := rfl
   rcases yK6.1 hz with hz | hz
   ·unfold zXb at hz
    rw [yBp] at hz
    refine wP ?_ z hz
    rw [show (zH7 c rate at_ x (k + 1)).at_.toNat = 1 + 3 * (k + 1) by show (1 + 3 * ((k + 1 : Nat) : Int)).toNat = _; omega, show (zH7 c rate at_ x k).at_.toNat = 1 + 3 * k by show (1 + 3 * ((k : Nat) : Int)).toNat = _; omega, t0, s0]
    rw [show (zH7 c rate at_ x (k + 1)).round.toNat = k + 1 by show ((k + 1 : Nat) : Int).toNat = _; omega, show ((zH7 c rate at_ x (k + 1)).round - 1).toNat = k by show (((k + 1 : Nat) : Int) - 1).toNat = _; omega]
    simp only [g2, h2]
    rw [show (wAt c rate at_ x (k + 1)).count - (wAt c rate at_ x k).count = zDy rate (yAt x k) by omega]
    omega
   ·simp only [yKb, yL1] at hz
    obtain ⟨q, hq, rfl⟩ := hz
    obtain rfl : q = 0 := by have : q < 1 := hq; omega
    unfold zCa qE
    simp only
    rw [show (zH7 c rate at_ x (k + 1)).at_.toNat = 1 + 3 * (k + 1) by show (1 + 3 * ((k + 1 : Nat) : Int)).toNat = _; omega, show ((zH7 c rate at_ x k).at_ + 2 + 2 * ((0 : Nat) : Int)).toNat = 1 + 3 * k + 2 by show (1 + 3 * ((k : Nat) : Int) + 2 + 2 * ((0 : Nat) : Int)).toNat = _; omega, t2, s0]
    omega
 ·rw [show (zH7 c rate at_ x j).replies.length = 1 from rfl] at hz
  simp only [List.range_one, yL7, yMh, yKe] at hz
  exact R.says hj z hz
theorem Run.fold : ∀ j, j ≤ x.length → (xU (mAt c rate at_ x) ((List.range j).map (zH7 c rate at_ x)) (xH (evN (mAt c rate at_ x) - 1).toNat, ev0)).2 = yHm c rate at_ x j ∧
  ∀ z ∈ (xU (mAt c rate at_ x) ((List.range j).map (zH7 c rate at_ x)) (xH (evN (mAt c rate at_ x) - 1).toNat, ev0)).1, zCa (tAt c rate at_ x) z
 | 0, _ => ⟨rfl, R.base⟩
 | j + 1, h => by
  obtain ⟨h1, h2⟩ := Run.fold j (by omega)
  rw [yLc, yLh, yJo, yKf, kV]
  refine ⟨rfl, fun z hz => ?_⟩
  simp only [h1] at hz
  rcases yK6.1 hz with hz | hz
  ·exact h2 z hz
  ·exact R.round (by omega) z hz
theorem Run.bounds : z4 (mAt c rate at_ x) = (yC3 (mAt c rate at_ x), 1 + 3 * (x.length : Int), 0) := by
 have hx := R.hx
 unfold z4
 rw [if_neg (fun h => h R.form), R.evl.2, if_neg (by omega), R.evl.1, R.wE _ (yIn _), if_neg (by simp)]
theorem Run.bok : BOk (mAt c rate at_ x) := by
 have hx := R.hx
 refine zU9 _ ?_ ?_
 ·rw [R.evl.1, yKc, yM4]; omega
 ·intro e he
  rw [R.evl.1] at he
  obtain ⟨i, _, rfl⟩ := yKb.1 he
  show 1 ≤ 1000; decide
theorem Run.poss : zDz (yC3 (mAt c rate at_ x)) (1 + 3 * (x.length : Int)).toNat [] = true := by
 have hx := R.hx
 have hB := R.bok
 unfold BOk at hB
 rw [R.bounds] at hB
 obtain ⟨_, _, hb⟩ := hB rfl
 simp only at hb
 refine (zVd (by omega) (fun b h => by rw [show (((1 + 3 * (x.length : Int)).toNat : Nat) : Int) = 1 + 3 * (x.length : Int) by omega]; exact hb b h) []).2 ⟨tAt c rate at_ x, fun e he => ?_⟩
 obtain ⟨z, hz, rfl⟩ := yKb.1 he
 have hz := (yLi.1 hz).1
 unfold yC3 at hz
 rw [R.evl.1] at hz
 exact (R.fold _ (yIn _)).2 z hz
theorem Run.sets {most : Int} (hm : 0 ≤ most ∧ most ≤ 3) : zAl (mAt c rate at_ x) most = ([[]], 0) ∧ zLa (mAt c rate at_ x) most = ([], 0) := by
 have h1 : zAl (mAt c rate at_ x) most = ([[]], 0) := by
  unfold zAl
  rw [R.bounds]
  simp only
  rw [Vd.setsOf_nil (zHe _) (by
   unfold okS
   rw [R.poss, Bool.and_true]
   rfl), if_neg (by simp), if_neg (by omega), if_neg (by simp)]
 refine ⟨h1, ?_⟩
 unfold zLa
 rw [h1, if_neg (by simp), if_neg (by simp)]
 rfl
end
end Go.Proofs.YtchpbdecipcelaaGreatDoor
