import Derived.Test.YtioaahmkebojiaaGreatDoorWC01
import Derived.Scope
import Derived.Test.YtioaahmkebojiaaGreatDoorWC14
import Derived.Test.YtioaahmkebojiaaGreatDoorWC15
namespace Go.Proofs.YtioaahmkebojiaaGreatDoor
open Tryz
set_option linter.unusedVariables false
set_option linter.unusedSimpArgs false
set_option maxHeartbeats 4000000
set_option maxRecDepth 100000
open Go.RowKit
def xX (l : List Int) (n : Int) : Int := zAb (fun x : Int => decide (x ≤ n)) l l.length
theorem wG (l : List Int) (n : Int) : -1 ≤ xX l n ∧ xX l n < l.length := zEo _ _ _
theorem zX0 (l : List Int) (hl : l.length ≤ maxLen) (n : Int) : FnA Tryz.prog 153 [liA l, .raw (.int .i64 n)] (.raw (.int .i64 (xX l n))) := by
 simp only [maxLen] at hl
 refine en func153 ntmps153 [.tmp 4] rfl ?_
 try (refine wg ?_; try refine sM fun K hK => ?_)
 refine zP (fun k : Nat => ⟨22, 0, [(0, true, liA l), (1, true, .raw (.int .i64 n)), (5, true, .raw (.int .i64 ((k : Int) - 1)))], [], [], ((0, []), [], true)⟩)
  (fun k => k ≤ l.length ∧ xX l n = zAb (fun x : Int => decide (x ≤ n)) l k) (fun k => k) l.length ?_ ⟨by omega, rfl⟩ ?_
 ·exact wkZ
 ·rintro k ⟨hk, he⟩
  cases k with
  | zero =>
   repeat' first
    | refine wkg trivial ?_
    | (refine cS (fun hb => ?_) fun hb => ?_ <;> try (cases hb; done))
    | refine sM fun K hK => ?_
    | fail
   ·exfalso; simp at hb
   ·refine rq ?_ ?_
    ·rw [he]; rfl
    ·simp [AV.free]
  | succ k =>
   have e1 : (((k + 1 : Nat) : Int) - 1).toNat = k := by omega
   repeat' first
    | refine wkg trivial ?_
    | (refine cS (fun hb => ?_) fun hb => ?_ <;> try (cases hb; done))
    | refine sM fun K hK => ?_
    | fail
   ·simp only [e1] at hb
    refine ⟨k, ⟨by omega, ?_⟩, by omega, ?_⟩
    ·rw [he, zAb, if_neg (by simp only [zA8, yNk]; omega)]
    ·exact wkZ
   ·simp only [e1] at hb
    refine rq ?_ ?_
    ·rw [he, zAb, if_pos (by simp only [zA8, yNk]; omega)]
     simp
    ·simp [AV.free]
theorem zR9 {l : List Int} (h : ∀ i, i + 1 < l.length → l.getD i default < l.getD (i + 1) default) : ∀ j i, i ≤ j → j < l.length → l.getD i default ≤ l.getD j default
 | 0, i, h1, _ => by
  obtain rfl : i = 0 := by omega
  exact Int.le_refl _
 | j + 1, i, h1, h2 => by
  by_cases e : i = j + 1
  ·subst e; exact Int.le_refl _
  ·have := zR9 h j i oq oq
   have := h j h2
   omega
def qP (rate e : Int) : Rg × Int := if (0 ≤ rate ∧ rate ≤ 1000000) ∧ 0 ≤ e ∧ e ≤ 1000000000000000 then (⟨e * (1000000000 - rate) / 1000000000, zAd (e * (1000000000 + rate)) 1000000000⟩, 0) else (⟨0, 0⟩, 1)
section
variable {P : Program} {b : Frame} {a : Act} {k : List Item} {cs : List Frame} {w : World}
theorem vF {c : Code} : step P (lone (b.atR a (.code (.scope c) :: k)) cs w) = .next (lone (b.atR a (.code c :: .inScope c :: k)) cs w) :=
 step_lone_go (by simp [stepG, stepG.exec, Frame.atR])
theorem zH6 {c : Code} : step P (lone (b.atR a (.inScope c :: k)) cs w) = .next (lone (b.atR a k) cs w) :=
 step_lone_go (by simp [stepG, stepG.exec, Frame.atR])
theorem zOk {F : Fence} {n : Nat} {Q : Exit → Act → World → Prop} {c : Code} (h : c.wpIn F n P (Exit.noGoto Q) a w) : (Code.scope c).wpIn F n P Q a w := by
 intro b k cs hro hb hr
 have h0 : (lone (b.atR a (.code (.scope c) :: k)) cs w).fenced P F := fenced_calm hb hr rfl
 obtain ⟨e, a₁, w₁, hq, harr⟩ := h b (.inScope c :: k) cs hro hb hr
 cases e with
 | normal => exact ⟨.normal, a₁, w₁, hq, .head h0 vF (StepsIn.trans harr (.one (fenced_calm hb hr rfl) zH6))⟩
 | exit id =>
  have hx : exitTo id (.inScope c :: k) = exitTo id k := by simp [exitTo]
  exact ⟨.exit id, a₁, w₁, hq, fun k' hk => .head h0 vF (harr.1 k' (by rw [hx]; exact hk)),
   fun hr' hk => let ⟨k₁, h1, h2⟩ := harr.2 hr' (by rw [hx]; exact hk); ⟨k₁, h1, .head h0 vF h2⟩⟩
 | goto l => exact hq.elim
 | ret => exact ⟨_, a₁, w₁, hq, .of_steps (.one h0 vF) harr⟩
 | panic ch => exact ⟨_, a₁, w₁, hq, .of_steps (.one h0 vF) harr⟩
 | outgrown => exact ⟨_, a₁, w₁, hq, .of_steps (.one h0 vF) harr⟩
end
theorem zQ9 {P : Program} {c : Code} {Q : Exit → ASt → Prop} {st : ASt} (hg : ∀ l s, ¬ Q (.goto l) s) (h : wpA P c Q st) : wpA P (.scope c) Q st := fun C G a w hs =>
 zOk (wpIn_mono (h C G a w hs) fun e a' w' hd => by
  cases e with
  | goto l => obtain ⟨G', st', _, hq⟩ := hd; exact hg l st' hq
  | _ => exact hd)
theorem zC4 {P : Program} {c : Code} {T : TT} {rs : List ResultVar} {r : AV} {st : ASt} (h : wpA P c (kS T rs r) st) : wpA P (.scope c) (kS T rs r) st := zQ9 (fun l s h => by rcases h.1 with h | h <;> cases h) h
theorem zEn {α : Type} [Inhabited α] (p : α → Bool) (l : List α) : ∀ (n j : Nat), j < n → p (l.getD j default) = true → (j : Int) ≤ zAb p l n ∧ p (l.getD (zAb p l n).toNat default) = true
 | n + 1, j, hj, hp => by
  unfold zAb
  split
  ·rename_i h
   exact ⟨by omega, by simpa using h⟩
  ·rename_i h
   have hjn : j < n := by
    rcases yPh.1 hj with h' | rfl
    ·exact h'
    ·exact absurd hp h
   exact zEn p l n j hjn hp
theorem zGp {α : Type} [Inhabited α] (p : α → Bool) (l : List α) : ∀ (n : Nat), 0 ≤ zAb p l n → p (l.getD (zAb p l n).toNat default) = true
 | 0, h => by simp [zAb] at h
 | n + 1, h => by
  unfold zAb at h ⊢
  split
  ·rename_i h1; simpa using h1
  ·rename_i h1; rw [if_neg h1] at h; exact zGp p l n h
theorem zDs {l : List Int} (h : vH l) (n : Int) {j : Nat} (hj : j < l.length) : l.getD j 0 ≤ n ↔ (j : Int) ≤ xX l n := by
 constructor
 ·intro h1
  exact (zEn (fun x : Int => decide (x ≤ n)) l l.length j hj (by simp only [zA8, yNk]; exact h1)).1
 ·intro h1
  have h2 := zGp (fun x : Int => decide (x ≤ n)) l l.length (by unfold xX at h1; omega)
  have h3 := wG l n
  have h4 := zR9 h.2.2.2 (xX l n).toNat j oq oq
  simp only [yNk] at h2
  simp only [zA8] at h2 h4
  unfold xX at h4 h3
  omega
theorem zK9 {l : List Int} (h : vH l) {a b : Int} (hab : a ≤ b) : xX l a ≤ xX l b := by
 rcases Int.lt_or_le (xX l a) 0 with h0 | h0
 ·have := wG l b; omega
 ·have hr := wG l a
  have h1 := (zDs h a (j := (xX l a).toNat) oq).2 oq
  have h2 := (zDs h b (j := (xX l a).toNat) oq).1 oq
  omega
def inW (t : yS) (a k c : Nat) (acc : Int) : Int := (List.range c).foldl (fun m q => max m ((t.rates.getD a default).getD (k + q) 0)) acc
def zZr (t : yS) (i k C R : Nat) : Int := (List.range R).foldl (fun m a => inW t (i + a) k C m) 0
theorem zVh (t : yS) (a k c : Nat) (acc : Int) : inW t a k (c + 1) acc = max (inW t a k c acc) ((t.rates.getD a default).getD (k + c) 0) := by simp [inW, List.range_succ]
theorem zJ7 (t : yS) (i k C R : Nat) : zZr t i k C (R + 1) = inW t (i + R) k C (zZr t i k C R) := by simp [zZr, List.range_succ]
def zGb (t : yS) (temp age : Rg) : Int × Int :=
 if zKy t ∧ temp.lo ≤ temp.hi ∧ age.lo ≤ age.hi then
  (if xX t.temps temp.lo < 0 ∨ xX t.ages age.lo < 0 then (0, 3) else
   (zZr t (xX t.temps temp.lo).toNat (xX t.ages age.lo).toNat (xX t.ages age.hi - xX t.ages age.lo + 1).toNat (xX t.temps temp.hi - xX t.temps temp.lo + 1).toNat, 0))
 else (0, 1)
theorem zX9 (t : yS) (ht : t.fits) (temp age : Rg) : FnA Tryz.prog 98 [.agg t.av, .agg temp.av, .agg age.av] (.tup [.raw (.int .i64 (zGb t temp age).1), .raw (.int .i64 (zGb t temp age).2)]) := by
 have h1 := zMt t ht
 have hfr : AV.freeL [AV.lst 1 t.temps.length (els iC t.temps), AV.lst 1 t.ages.length (els iC t.ages), AV.lst 1 t.rates.length (els (fun l : List Int => [AV.lst 1 l.length (els iC l)]) t.rates)] := yS.free t
 have b1 := zX0 t.temps ht.1.1 temp.lo
 have b2 := zX0 t.ages ht.2.1.1 age.lo
 have hf1 := xP t.temps
 have hf2 := xP t.ages
 have hf3 : (lA 1 liC t.rates).free := zO (fun y => show AV.freeL (liC y) from ⟨xP y, trivial⟩) _
 by_cases hc : zKy t ∧ temp.lo ≤ temp.hi ∧ age.lo ≤ age.hi
 ·rw [zGb, if_pos hc]
  obtain ⟨c1, c2, c3⟩ := hc
  rw [yPm c1] at h1
  have r1 := wG t.temps temp.lo
  have r2 := wG t.ages age.lo
  have m1 := zK9 c1.1 c2
  have m2 := zK9 c1.2.1 c3
  have r3 := wG t.temps temp.hi
  have r4 := wG t.ages age.hi
  have g1 := fun j hj => zDs c1.1 temp.hi (j := j) hj
  have g2 := fun j hj => zDs c1.2.1 age.hi (j := j) hj
  have hlen := c1.2.2.1
  have hl1 := c1.1.1
  have hl2 := c1.2.1.1
  have hrow := fun j (hj : j < t.rates.length) => (c1.2.2.2 (t.rates.getD j default) (by rw [yB hj]; exact yP5 _)).1
  clear c1 ht
  by_cases hn : xX t.temps temp.lo < 0 ∨ xX t.ages age.lo < 0
  ·rw [if_pos hn]
   clear g1 g2 hrow
   generalize xX t.temps temp.lo = I at *
   generalize xX t.ages age.lo = K at *
   refine en func98 ntmps98 [.tmp 6, .tmp 7] rfl ?_
   try (refine wg ?_; try refine sM fun K hK => ?_)
   refine zC4 ?_
   try (refine wkg h1 ?_; try refine sM fun K hK => ?_)
   refine zB ⟨_, evl, fun hb => absurd hb (by simp; omega), fun _ => ?_⟩
   try (refine wkg (And.intro b1 b2) ?_; try refine sM fun K hK => ?_)
   refine zB ⟨_, evl, fun _ => ?_, fun hb => absurd hb (by simp; omega)⟩
   try (refine wg ?_; try refine sM fun K hK => ?_)
   refine rq ?_ ?_
   ·rfl
   ·simp [AV.free, AV.freeL]
  ·rw [if_neg hn]
   obtain ⟨I, hI⟩ : ∃ I : Nat, xX t.temps temp.lo = I := ⟨(xX t.temps temp.lo).toNat, by omega⟩
   obtain ⟨K, hK⟩ : ∃ K : Nat, xX t.ages age.lo = K := ⟨(xX t.ages age.lo).toNat, by omega⟩
   obtain ⟨R, hR⟩ : ∃ R : Nat, (xX t.temps temp.hi - xX t.temps temp.lo + 1).toNat = R := ⟨_, rfl⟩
   obtain ⟨C, hC⟩ : ∃ C : Nat, (xX t.ages age.hi - xX t.ages age.lo + 1).toNat = C := ⟨_, rfl⟩
   rw [hR, hC]
   rw [hI] at b1 r1 m1 hR hn ⊢
   rw [hK] at b2 r2 m2 hC hn ⊢
   simp only [yNq]
   have G1 : ∀ j, j < t.temps.length → (t.temps.getD j 0 ≤ temp.hi ↔ j < I + R) := fun j hj => by rw [g1 j hj]; omega
   have G2 : ∀ j, j < t.ages.length → (t.ages.getD j 0 ≤ age.hi ↔ j < K + C) := fun j hj => by rw [g2 j hj]; omega
   have hIR : I + R ≤ t.temps.length ∧ 1 ≤ R := by omega
   have hKC : K + C ≤ t.ages.length ∧ 1 ≤ C := by omega
   clear g1 g2 r3 r4 m1 m2 hI hK hR hC hn
   refine en func98 ntmps98 [.tmp 6, .tmp 7] rfl ?_
   try (refine wg ?_; try refine sM fun K hK => ?_)
   refine zC4 ?_
   try (refine wkg h1 ?_; try refine sM fun K hK => ?_)
   refine zB ⟨_, evl, fun hb => absurd hb (by simp; omega), fun _ => ?_⟩
   try (refine wkg (And.intro b1 b2) ?_; try refine sM fun K hK => ?_)
   refine zB ⟨_, evl, fun hb => absurd hb (by simp <;> omega), fun _ => ?_⟩
   try (refine wg ?_; try refine sM fun K hK => ?_)
   refine zP (fun a : Nat => ⟨95,0,[(3,true,.box 0 0),(4,true,.box 1 0),(5,true,.box 2 0),(8,true,.raw (.int .i64 I)),(9,true,.raw (.int .i64 K)),(10,true,.raw (.int .i64 (zZr t I K C a))),(51,true,.lst 1 (t.rates.length - I) fun q => liC (t.rates.getD (I + q) default)),(52,true,.raw (.int .i64 ((t.rates.length - I : Nat)))),(53,true,.raw (.int .i64 a))],[t.av,Rg.av temp,Rg.av age],[],((0,[]),[],true)⟩)
    (fun a => a ≤ R) (fun a => R - a) 0 ?_ oq ?_
   ·exact wkZ
   ·intro a ha
    try (refine wg ?_; try refine sM fun K hK => ?_)
    refine zB ⟨_, evl, fun hb => ?_, fun hb => ?_⟩
    ·simp only [yNk] at hb
     have hrl := hrow (I + a) oq
     have eA : ((I : Int) + (a : Int)).toNat = I + a := by omega
     try (refine wg ?_; try refine sM fun K hK => ?_)
     refine zP (fun b : Nat => ⟨95,0,[(3,true,.box 0 0),(4,true,.box 1 0),(5,true,.box 2 0),(8,true,.raw (.int .i64 I)),(9,true,.raw (.int .i64 K)),(10,true,.raw (.int .i64 (inW t (I + a) K b (zZr t I K C a)))),(11,true,.raw (.int .i64 a)),(51,true,.lst 1 (t.rates.length - I) fun q => liC (t.rates.getD (I + q) default)),(52,true,.raw (.int .i64 ((t.rates.length - I : Nat)))),(53,true,.raw (.int .i64 a)),(60,true,.lst 1 (t.ages.length - K) fun q => iC ((t.rates.getD (I + a) default).getD (K + q) 0)),(61,true,.raw (.int .i64 ((t.ages.length - K : Nat)))),(62,true,.raw (.int .i64 b))],[t.av,Rg.av temp,Rg.av age],[],((0,[]),[],true)⟩)
      (fun b => b ≤ C ∧ (0 < b → a < R)) (fun b => C - b) 0 ?_ ⟨by omega, fun h => by omega⟩ ?_
     ·rw [← hrl]
      exact wkZ
     ·rintro b ⟨hbC, hbR⟩
      have eB : ((K : Int) + (b : Int)).toNat = K + b := by omega
      try (refine wg ?_; try refine sM fun K hK => ?_)
      refine zB ⟨_, evl, fun hb2 => ?_, fun hb2 => ?_⟩
      ·simp only [yNk] at hb2
       have q1 := G1 (I + a) oq
       have q2 := G2 (K + b) oq
       try (refine wg ?_; try refine sM fun K hK => ?_)
       refine zB ⟨_, evl, fun hb3 => ?_, fun hb3 => ?_⟩
       ·simp only [eA, yNk] at hb3
        obtain rfl : a = R := by omega
        obtain rfl : b = 0 := by omega
        try (refine wg ?_; try refine sM fun K hK => ?_)
        refine rq ?_ ?_
        ·rfl
        ·simp [AV.free, AV.freeL]
       ·simp only [eA, yOo] at hb3
        try (refine wg ?_; try refine sM fun K hK => ?_)
        refine zB ⟨_, evl, fun hb4 => ?_, fun hb4 => ?_⟩
        ·simp only [eB, yNk] at hb4
         obtain rfl : b = C := by omega
         try (refine wg ?_; try refine sM fun K hK => ?_)
         refine ⟨a + 1, by omega, by omega, ?_⟩
         rw [zJ7]
         exact wkZ
        ·simp only [eB, yOo] at hb4
         try (refine wg ?_; try refine sM fun K hK => ?_)
         refine ⟨b + 1, ⟨by omega, fun _ => by omega⟩, by omega, ?_⟩
         rw [zVh]
         exact wkZ
      ·simp only [yOo] at hb2
       obtain rfl : b = C := by omega
       try (refine wg ?_; try refine sM fun K hK => ?_)
       refine ⟨a + 1, by omega, by omega, ?_⟩
       rw [zJ7]
       exact wkZ
    ·simp only [yOo] at hb
     obtain rfl : a = R := by omega
     try (refine wg ?_; try refine sM fun K hK => ?_)
     refine rq ?_ ?_
     ·rfl
     ·simp [AV.free, AV.freeL]
 ·have hno : decide (zKy t) = true → temp.lo ≤ temp.hi → age.lo ≤ age.hi → False := fun a b c => hc ⟨yPn a, b, c⟩
  rw [zGb, if_neg hc]
  clear hc b1 b2
  generalize decide (zKy t) = v at *
  refine en func98 ntmps98 [.tmp 6, .tmp 7] rfl ?_
  try (refine wg ?_; try refine sM fun K hK => ?_)
  refine zC4 ?_
  try (refine wkg h1 ?_; try refine sM fun K hK => ?_)
  refine zB ⟨_, evl, fun _ => ?_, fun hb => ?_⟩
  ·try (refine wg ?_; try refine sM fun K hK => ?_)
   refine rq ?_ ?_
   ·rfl
   ·simp [AV.free, AV.freeL]
  ·exfalso
   simp at hb
   exact hno hb.1.1 hb.1.2 hb.2
structure Change where
 at_ : Int
 outLo : Int
 outHi : Int
 backLo : Int
 backHi : Int
 deriving Inhabited, DecidableEq
@[go_sem] def Change.av (x : Change) : List AV := [.raw (.int .i64 x.at_), .raw (.int .i64 x.outLo), .raw (.int .i64 x.outHi), .raw (.int .i64 x.backLo), .raw (.int .i64 x.backHi)]
@[simp] theorem Change.free (x : Change) : AV.freeL x.av := ⟨trivial, trivial, trivial, trivial, trivial, trivial⟩
namespace Lk
def gD {α : Type} [Inhabited α] (l : List α) (i : Nat) : α := l.getD i default
end Lk
@[go_sem] def Change.c (c : Change) : List AV := [.raw (.int .i64 c.at_), .raw (.int .i64 c.outLo), .raw (.int .i64 c.outHi), .raw (.int .i64 c.backLo), .raw (.int .i64 c.backHi)]
namespace Lk
def chL (l : List Change) : AV := .lst 5 l.length fun i => (gD l i).c
end Lk
@[go_sem] def Iv.c (c : Iv) : List AV := [.raw (.int .i64 c.lo), .raw (.int .i64 c.hi)]
namespace Lk
def zI7 (lo hi : Int) : Bool := decide (0 ≤ lo) && decide (lo ≤ hi) && decide (hi ≤ 1000000)
theorem zOd (lo hi : Int) : FnA Tryz.prog 240 [.raw (.int .i64 lo), .raw (.int .i64 hi)] (.raw (.bool (zI7 lo hi))) := by
 refine en func240 ntmps240 [.tmp 4] rfl ?_
 try (refine wg ?_; try refine sM fun K hK => ?_)
 refine rq ?_ ?_
 ·simp [zI7]
 ·simp [AV.free]
def zM0 (c : Change) : Bool := zI7 c.outLo c.outHi && zI7 c.backLo c.backHi
theorem formed_A (c : Change) : FnA Tryz.prog 154 [.agg c.c] (.raw (.bool (zM0 c))) := by
 refine en func154 ntmps154 [.tmp 2] rfl ?_
 try (first | refine wkM hK zOd ?_ | refine wkg zOd ?_)
 try clear hK K
 try refine sM fun K hK => ?_
 refine rq ?_ ?_
 ·simp [zM0]
 ·simp [AV.free]
def vOk (l : List Change) (i : Nat) : Prop := zM0 (gD l i) = true ∧ (0 < i → (gD l (i - 1)).at_ < (gD l i).at_)
instance (l : List Change) (i : Nat) : Decidable (vOk l i) := by unfold vOk; infer_instance
def ValidP (l : List Change) : Prop := 1 ≤ l.length ∧ l.length ≤ 20 ∧ (gD l 0).at_ = 0 ∧ (gD l (l.length - 1)).at_ ≤ 3000000000000000 ∧ ∀ i, i < l.length → vOk l i
instance (l : List Change) : Decidable (ValidP l) := by unfold ValidP; infer_instance
def validM (l : List Change) : Bool := decide (ValidP l)
theorem valid_A (l : List Change) (hmax : l.length ≤ 4611686018427387904) : FnA Tryz.prog 102 [chL l] (.raw (.bool (validM l))) := by
 unfold chL
 refine en func102 ntmps102 [.tmp 2] rfl ?_
 try (first | refine wkM hK formed_A ?_ | refine wkg formed_A ?_)
 try clear hK K
 try refine sM fun K hK => ?_
 refine zB ⟨_, evl, ?_, ?_⟩
 ·intro hb
  try (refine wg ?_; try refine sM fun K hK => ?_)
  refine rq ?_ ?_
  ·simp only [AV.raw.injEq, Value.bool.injEq]
   rw [eq_comm, validM, yOo]
   rintro ⟨h1, h2, h3, h4, h5⟩
   have e : ((l.length : Int) - 1).toNat = l.length - 1 := by omega
   rw [e] at hb
   simp at hb
   omega
  ·simp [AV.free]
 ·intro hb
  simp only [yOq, yOo, yOm, yNk] at hb
  obtain ⟨⟨⟨hb1, hb2⟩, hb3⟩, hb4⟩ := hb
  try (first | refine wkM hK formed_A ?_ | refine wkg formed_A ?_)
  try clear hK K
  try refine sM fun K hK => ?_
  refine zP (fun k : Nat => ⟨56, 0, [(0, true, .lst 5 l.length fun i => (gD l i).c), (30, true, .lst 5 l.length fun i => (gD l i).c), (31, true, .raw (.int .i64 l.length)), (32, true, .raw (.int .i64 k))], [], [], ((0, []), [], true)⟩)
   (fun k => k ≤ l.length ∧ ∀ i, i < k → vOk l i) (fun k => l.length - k) 0 ?_ ⟨by omega, fun i h => by omega⟩ ?_
  ·refine xT.sl ?_
   (try simp only [zB6, zL, ↓reduceIte, Nat.reduceEqDiff, yOi, yMv, yMc, yMu, AV.raw.injEq, Value.int.injEq, Value.bool.injEq])
   all_goals ((repeat' apply And.intro) <;> first | rfl | omega | (simp; done))
  ·rintro k ⟨hk, hall⟩
   try (first | refine wkM hK formed_A ?_ | refine wkg formed_A ?_)
   try clear hK K
   try refine sM fun K hK => ?_
   refine zB ⟨_, evl, ?_, ?_⟩
   ·intro hlt
    simp only [yNk] at hlt
    try (first | refine wkM hK formed_A ?_ | refine wkg formed_A ?_)
    try clear hK K
    try refine sM fun K hK => ?_
    refine zB ⟨_, evl, ?_, ?_⟩
    ·intro hbad
     try (refine wg ?_; try refine sM fun K hK => ?_)
     refine rq ?_ ?_
     ·simp only [AV.raw.injEq, Value.bool.injEq]
      rw [eq_comm, validM, yOo]
      rintro ⟨_, _, _, _, h5⟩
      obtain ⟨h6, h7⟩ := h5 k oq
      have e : ((k : Int) - 1).toNat = k - 1 := by omega
      rw [h6, e] at hbad
      simp at hbad
      have := h7 oq
      omega
     ·simp [AV.free]
    ·intro hgood
     try (refine wg ?_; try refine sM fun K hK => ?_)
     refine ⟨k + 1, ⟨by omega, fun i hi => ?_⟩, by omega, ?_⟩
     ·by_cases hik : i < k
      ·exact hall i hik
      ·obtain rfl : i = k := by omega
       have e : ((i : Int) - 1).toNat = i - 1 := by omega
       rw [e] at hgood
       simp at hgood
       exact ⟨hgood.1, fun h => by have := hgood.2 h; omega⟩
     ·refine xT.mk rfl ?_ ?_
      rotate_left
      ·simp [zU7, zFk, AV.bel, AV.belL, go_sem]
      (try simp only [zB6, zL, ↓reduceIte, Nat.reduceEqDiff, yOi, yMv, yMc, yMu, AV.raw.injEq, Value.int.injEq, Value.bool.injEq])
      all_goals ((repeat' apply And.intro) <;> first | rfl | omega | (simp; done))
   ·intro hge
    simp only [yOo] at hge
    try (first | refine wkM hK formed_A ?_ | refine wkg formed_A ?_)
    try clear hK K
    try refine sM fun K hK => ?_
    refine rq ?_ ?_
    ·simp only [AV.raw.injEq, Value.bool.injEq]
     rw [eq_comm, validM, yNk]
     have e : ((l.length : Int) - 1).toNat = l.length - 1 := by omega
     rw [e] at hb4
     exact ⟨by omega, by omega, hb3, by omega, fun i hi => hall i oq⟩
    ·simp [AV.free]
end Lk
namespace Lk
theorem few_A (l : List Change) : FnA Tryz.prog 16 [chL l] (.raw (.bool (decide (l.length ≤ 30)))) := by
 unfold chL
 refine en func16 ntmps16 [.tmp 2] rfl ?_
 try (refine wg ?_; try refine sM fun K hK => ?_)
 refine rq ?_ ?_
 ·simp; omega
 ·simp [AV.free]
end Lk
end Go.Proofs.YtioaahmkebojiaaGreatDoor
