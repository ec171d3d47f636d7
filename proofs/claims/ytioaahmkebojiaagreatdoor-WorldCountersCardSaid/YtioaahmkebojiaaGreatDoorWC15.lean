import Derived.Test.YtioaahmkebojiaaGreatDoorWC01
import Derived.Test.YtioaahmkebojiaaGreatDoorWC14
namespace Go.Proofs.YtioaahmkebojiaaGreatDoor
open Tryz
set_option linter.unusedVariables false
set_option linter.unusedSimpArgs false
set_option maxHeartbeats 4000000
set_option maxRecDepth 100000
open Go.RowKit
theorem zTt {α : Type} {l : List α} {p : α → Bool} {x : α} (h : x ∈ l) (hp : p x = false) : l.all p = false := by
 rw [List.all_eq_false]; exact ⟨x, h, by simp [hp]⟩
theorem zMk {α : Type} [Inhabited α] {l : List α} {p : α → Bool} (h : ∀ i, i < l.length → p (l.getD i default) = true) : l.all p = true := by
 rw [yP7]
 intro x hx
 obtain ⟨i, hi, rfl⟩ := List.mem_iff_getElem.1 hx
 rw [← yB hi]
 exact h i hi
abbrev liC (l : List Int) : List AV := [liA l]
abbrev pC (p : Int × Int) : List AV := [.raw (.int .i64 p.1), .raw (.int .i64 p.2)]
theorem zRq (ps : List (Int × Int)) : (lA 2 pC ps).free := zO (fun x => show AV.freeL (pC x) from ⟨trivial, trivial, trivial⟩) _
theorem xP (l : List Int) : (liA l).free := zO (fun x => show AV.freeL (iC x) from ⟨trivial, trivial⟩) _
theorem yLx (l : List Int) (hl : l.length ≤ 9223372036854775807) (g : FuncId) (cap : List AV) (hcap : AV.freeL cap) (p : Int → Bool) (hp : ∀ x ∈ l, FnA Tryz.prog g (.raw (.int .i64 x) :: cap) (.raw (.bool (p x)))) :
  FnA Tryz.prog 97 [lA 1 iC l, .fn (.func g) [] cap] (.raw (.bool (l.all p))) := by
 refine en func97 ntmps97 [.tmp 4] rfl ?_
 try (refine wg ?_; try refine sM fun K hK => ?_)
 refine zP (fun k : Nat => ⟨18, 0, [(0, true, lA 1 iC l), (1, true, .fn (.func g) [] cap), (7, true, lA 1 iC l), (8, true, .raw (.int .i64 l.length)), (9, true, .raw (.int .i64 k))], [], [], ((0, []), [], true)⟩)
  (fun k => k ≤ l.length ∧ ∀ i, i < k → p (l.getD i default) = true) (fun k => l.length - k) 0 ?_ ⟨by omega, fun i h => by omega⟩ ?_
 ·exact wkZ
 ·rintro k ⟨hk, hall⟩
  try (refine wg ?_; try refine sM fun K hK => ?_)
  refine zB ⟨_, evl, ?_, ?_⟩
  ·intro hlt
   simp only [yNk] at hlt
   have hmem : l.getD k default ∈ l := by rw [yB (show k < l.length by omega)]; exact yP5 _
   have hpk := hp _ hmem
   try (refine wkg hpk ?_; try refine sM fun K hK => ?_)
   refine zB ⟨_, evl, ?_, ?_⟩
   ·intro hb
    try (refine wg ?_; try refine sM fun K hK => ?_)
    refine rq ?_ ?_
    ·rw [zTt hmem (by simpa using hb)]
    ·simp [AV.free]
   ·intro hb
    try (refine wg ?_; try refine sM fun K hK => ?_)
    refine ⟨k + 1, ⟨by omega, fun i hi => ?_⟩, by omega, ?_⟩
    ·rcases yPh.1 hi with h | rfl
     ·exact hall i h
     ·simpa using hb
    ·exact wkZ
  ·intro hge
   simp only [yOo] at hge
   try (refine wg ?_; try refine sM fun K hK => ?_)
   refine rq ?_ ?_
   ·rw [zMk (fun i hi => hall i oq)]
   ·simp [AV.free]
theorem yLw (l : List (List Int)) (hl : l.length ≤ 9223372036854775807) (g : FuncId) (cap : List AV) (hcap : AV.freeL cap) (p : (List Int) → Bool) (hp : ∀ x ∈ l, FnA Tryz.prog g (liA x :: cap) (.raw (.bool (p x)))) :
  FnA Tryz.prog 95 [lA 1 liC l, .fn (.func g) [] cap] (.raw (.bool (l.all p))) := by
 refine en func95 ntmps95 [.tmp 4] rfl ?_
 try (refine wg ?_; try refine sM fun K hK => ?_)
 refine zP (fun k : Nat => ⟨18, 0, [(0, true, lA 1 liC l), (1, true, .fn (.func g) [] cap), (7, true, lA 1 liC l), (8, true, .raw (.int .i64 l.length)), (9, true, .raw (.int .i64 k))], [], [], ((0, []), [], true)⟩)
  (fun k => k ≤ l.length ∧ ∀ i, i < k → p (l.getD i default) = true) (fun k => l.length - k) 0 ?_ ⟨by omega, fun i h => by omega⟩ ?_
 ·exact wkZ
 ·rintro k ⟨hk, hall⟩
  try (refine wg ?_; try refine sM fun K hK => ?_)
  refine zB ⟨_, evl, ?_, ?_⟩
  ·intro hlt
   simp only [yNk] at hlt
   have hmem : l.getD k default ∈ l := by rw [yB (show k < l.length by omega)]; exact yP5 _
   have hpk := hp _ hmem
   try (refine wkg hpk ?_; try refine sM fun K hK => ?_)
   refine zB ⟨_, evl, ?_, ?_⟩
   ·intro hb
    try (refine wg ?_; try refine sM fun K hK => ?_)
    refine rq ?_ ?_
    ·rw [zTt hmem (by simpa using hb)]
    ·simp [AV.free]
   ·intro hb
    try (refine wg ?_; try refine sM fun K hK => ?_)
    refine ⟨k + 1, ⟨by omega, fun i hi => ?_⟩, by omega, ?_⟩
    ·rcases yPh.1 hi with h | rfl
     ·exact hall i h
     ·simpa using hb
    ·exact wkZ
  ·intro hge
   simp only [yOo] at hge
   try (refine wg ?_; try refine sM fun K hK => ?_)
   refine rq ?_ ?_
   ·rw [zMk (fun i hi => hall i oq)]
   ·simp [AV.free]
theorem yLv (l : List (Int × Int)) (hl : l.length ≤ 9223372036854775807) (g : FuncId) (cap : List AV) (hcap : AV.freeL cap) (p : (Int × Int) → Bool) (hp : ∀ x ∈ l, FnA Tryz.prog g (.agg (pC x) :: cap) (.raw (.bool (p x)))) :
  FnA Tryz.prog 150 [lA 2 pC l, .fn (.func g) [] cap] (.raw (.bool (l.all p))) := by
 refine en func150 ntmps150 [.tmp 4] rfl ?_
 try (refine wg ?_; try refine sM fun K hK => ?_)
 refine zP (fun k : Nat => ⟨18, 0, [(0, true, lA 2 pC l), (1, true, .fn (.func g) [] cap), (7, true, lA 2 pC l), (8, true, .raw (.int .i64 l.length)), (9, true, .raw (.int .i64 k))], [], [], ((0, []), [], true)⟩)
  (fun k => k ≤ l.length ∧ ∀ i, i < k → p (l.getD i default) = true) (fun k => l.length - k) 0 ?_ ⟨by omega, fun i h => by omega⟩ ?_
 ·exact wkZ
 ·rintro k ⟨hk, hall⟩
  try (refine wg ?_; try refine sM fun K hK => ?_)
  refine zB ⟨_, evl, ?_, ?_⟩
  ·intro hlt
   simp only [yNk] at hlt
   have hmem : l.getD k default ∈ l := by rw [yB (show k < l.length by omega)]; exact yP5 _
   have hpk := hp _ hmem
   try (refine wkg hpk ?_; try refine sM fun K hK => ?_)
   refine zB ⟨_, evl, ?_, ?_⟩
   ·intro hb
    try (refine wg ?_; try refine sM fun K hK => ?_)
    refine rq ?_ ?_
    ·rw [zTt hmem (by simpa using hb)]
    ·simp [AV.free]
   ·intro hb
    try (refine wg ?_; try refine sM fun K hK => ?_)
    refine ⟨k + 1, ⟨by omega, fun i hi => ?_⟩, by omega, ?_⟩
    ·rcases yPh.1 hi with h | rfl
     ·exact hall i h
     ·simpa using hb
    ·exact wkZ
  ·intro hge
   simp only [yOo] at hge
   try (refine wg ?_; try refine sM fun K hK => ?_)
   refine rq ?_ ?_
   ·rw [zMk (fun i hi => hall i oq)]
   ·simp [AV.free]
theorem zSg (n : Int) : FnA Tryz.prog 25 [.raw (.int .i64 n)] (.raw (.bool (decide (0 ≤ n) && decide (n ≤ 1000000)))) := by
 refine en func25 ntmps25 [.tmp 2] rfl ?_
 repeat' first
  | refine wkg trivial ?_
  | (refine cS (fun hb => ?_) fun hb => ?_ <;> try (cases hb; done))
  | refine sM fun K hK => ?_
  | fail
 all_goals exact fA
def prs (l : List Int) (n : Nat) : List (Int × Int) := (List.range n).map fun j => (l.getD j default, l.getD (j + 1) default)
theorem zY0 (l : List Int) (hl : l.length ≤ 1000) : FnA Tryz.prog 151 [liA l] (lA 2 pC (prs l (l.length - 1))) := by
 refine en func151 ntmps151 [.tmp 2] rfl ?_
 try (refine wg ?_; try refine sM fun K hK => ?_)
 refine y6 (xT.nilRow 3 195 2 rfl) ?_
 refine zP (fun k : Nat => ⟨25, 0, [(0, true, liA l), (3, true, .row 0 (prs l k).length), (4, true, .raw (.int .i64 (k + 1)))], [], [⟨195, 2, (prs l k).length, els pC (prs l k)⟩], ((0, []), [], true)⟩)
  (fun k => k = 0 ∨ k + 1 ≤ l.length) (fun k => l.length - k) 0 ?_ (.inl rfl) ?_
 ·simp only [prs, List.range_zero, yOa, yO4]
  exact wkZ
 ·intro k hk
  have hlen : (prs l k).length = k := by simp [prs]
  have hs : prs l (k + 1) = prs l k ++ [(l.getD k default, l.getD (k + 1) default)] := by simp [prs, List.range_succ]
  rw [hlen]
  have e1 : ((k : Int) + 1 - 1).toNat = k := by omega
  have e2 : ((k : Int) + 1).toNat = k + 1 := by omega
  try (refine wkR trivial ?_; try refine sM fun K hK => ?_)
  refine zB ⟨_, evl, fun hb => ?_, fun hb => ?_⟩
  ·simp only [yNk] at hb
   try (refine wkR trivial ?_; try refine sM fun K hK => ?_)
   refine ⟨k + 1, .inr oq, by omega, ?_⟩
   rw [hs, yN1, hlen]
   simp only [e1, e2]
   generalize prs l k = R at *
   subst hlen
   exact wkZ
  ·simp only [yOo] at hb
   rw [show l.length - 1 = k by omega]
   try (refine wkR trivial ?_; try refine sM fun K hK => ?_)
   refine yA sq ⟨_, _, _, evl, ob0, ?_⟩
   refine yP.sims (xD.row rfl rfl rfl ?_ (fun i hi => rfl)) (zRq _)
   exact hlen.symm
def vH (l : List Int) : Prop := (1 ≤ l.length ∧ l.length ≤ 8) ∧ -1000000 ≤ l.getD 0 default ∧ l.getD (l.length - 1) default ≤ 1000000 ∧ ∀ i, i + 1 < l.length → l.getD i default < l.getD (i + 1) default
theorem zRk (l : List Int) : (prs l (l.length - 1)).all (fun p => decide (p.1 < p.2)) = true ↔ ∀ i, i + 1 < l.length → l.getD i default < l.getD (i + 1) default := by
 simp only [prs, List.all_map, yP7, yOv, Function.comp, yNk]
 exact ⟨fun h i hi => h i oq, fun h i hi => h i oq⟩
instance (l : List Int) : Decidable (∀ i, i + 1 < l.length → l.getD i default < l.getD (i + 1) default) := decidable_of_iff _ (zRk l)
instance (l : List Int) : Decidable (vH l) := by unfold vH; infer_instance
theorem yBf (p : Int × Int) : FnA Tryz.prog 152 [.agg (pC p)] (.raw (.bool (decide (p.1 < p.2)))) := by
 refine en func152 ntmps152 [.tmp 2] rfl ?_
 repeat' first
  | refine wkg trivial ?_
  | (refine cS (fun hb => ?_) fun hb => ?_ <;> try (cases hb; done))
  | refine sM fun K hK => ?_
  | fail
 all_goals exact fA
theorem zN4 (l : List Int) (hl : l.length ≤ maxLen) : FnA Tryz.prog 94 [liA l] (.raw (.bool (decide (vH l)))) := by
 have hfr : (liA l).free := zO (fun _ => by simp [AV.free, AV.freeL, iC]) _
 by_cases h8 : 1 ≤ l.length ∧ l.length ≤ 8
 ·have h1 := zY0 l oq
  have h2 := yLv (prs l (l.length - 1)) (by simp [prs]; omega) _ [] trivial (fun p => decide (p.1 < p.2)) (fun x _ => yBf x)
  have hpf := zRq (prs l (l.length - 1))
  have e : decide (vH l) = (decide (-1000000 ≤ l.getD 0 default) && decide (l.getD (l.length - 1) default ≤ 1000000) && (prs l (l.length - 1)).all fun p => decide (p.1 < p.2)) := by
   rw [yN7, yPk]
   simp only [yNj, yNk, zRk, vH]
   exact ⟨fun h => ⟨⟨h.2.1, h.2.2.1⟩, h.2.2.2⟩, fun h => ⟨h8, h.1.1, h.1.2, h.2⟩⟩
  have e1 : ((l.length : Int) - 1).toNat = l.length - 1 := by omega
  rw [e]
  generalize (prs l (l.length - 1)).all (fun p => decide (p.1 < p.2)) = B at *
  generalize lA 2 pC (prs l (l.length - 1)) = R at *
  clear e
  refine en func94 ntmps94 [.tmp 2] rfl ?_
  repeat' first
   | refine wkg (And.intro h1 h2) ?_
   | (refine cS (fun hb => ?_) fun hb => ?_ <;> try (cases hb; done))
   | refine sM fun K hK => ?_
   | fail
  ·refine yA sq ⟨_, _, _, evl, ob0, yP.eq ?_ (by simp [AV.free])⟩
   congr 2
   simp only [e1, zA8] at hb ⊢
   rcases hb with ((h | h) | h) | h
   ·omega
   ·omega
   ·rw [yPl (show ¬ -1000000 ≤ l.getD 0 0 by omega)]; rfl
   ·rw [yPl (show ¬ l.getD (l.length - 1) 0 ≤ 1000000 by omega), Bool.and_false]; rfl
  ·refine yA sq ⟨_, _, _, evl, ob0, yP.eq ?_ (by simp [AV.free])⟩
   congr 2
   simp only [e1, zA8] at hb ⊢
   rw [yPm (show -1000000 ≤ l.getD 0 0 by omega), yPm (show l.getD (l.length - 1) 0 ≤ 1000000 by omega)]
   rfl
 ·rw [yPl (fun h => h8 h.1)]
  refine en func94 ntmps94 [.tmp 2] rfl ?_
  try (refine wg ?_; try refine sM fun K hK => ?_)
  refine zB ⟨_, evl, fun _ => ?_, fun hb => ?_⟩
  ·try (refine wg ?_; try refine sM fun K hK => ?_)
   refine rq ?_ ?_
   ·rfl
   ·simp [AV.free]
  ·exfalso
   simp at hb
   omega
structure Rg where
 lo : Int
 hi : Int
 deriving Inhabited, DecidableEq
@[go_sem] def Rg.av (x : Rg) : List AV := [.raw (.int .i64 x.lo), .raw (.int .i64 x.hi)]
@[simp] theorem Rg.free (x : Rg) : AV.freeL x.av := ⟨trivial, trivial, trivial⟩
structure yS where
 temps : List Int
 ages : List Int
 rates : List (List Int)
 deriving Inhabited, DecidableEq
@[go_sem] def yS.av (x : yS) : List AV := [lA 1 iC x.temps, lA 1 iC x.ages, lA 1 (fun l => [lA 1 iC l]) x.rates]
def yS.fits (x : yS) : Prop := (x.temps.length ≤ maxLen ∧ ∀ y ∈ x.temps, inK .i64 y) ∧ (x.ages.length ≤ maxLen ∧ ∀ y ∈ x.ages, inK .i64 y) ∧ (x.rates.length ≤ maxLen ∧ ∀ y ∈ x.rates, y.length ≤ maxLen ∧ ∀ y' ∈ y, inK .i64 y')
@[simp] theorem yS.free (x : yS) : AV.freeL x.av := ⟨zO (fun y => show AV.freeL (iC y) from ⟨trivial, trivial⟩) _, zO (fun y => show AV.freeL (iC y) from ⟨trivial, trivial⟩) _, zO (fun y => show AV.freeL ((fun l => [lA 1 iC l]) y) from ⟨zO (fun y => show AV.freeL (iC y) from ⟨trivial, trivial⟩) _, trivial⟩) _, trivial⟩
def zUq (n : Nat) (r : List Int) : Prop := r.length = n ∧ ∀ x ∈ r, 0 ≤ x ∧ x ≤ 1000000
instance (n : Nat) (r : List Int) : Decidable (zUq n r) := by unfold zUq; infer_instance
def zKy (t : yS) : Prop := vH t.temps ∧ vH t.ages ∧ t.rates.length = t.temps.length ∧ ∀ r ∈ t.rates, zUq t.ages.length r
instance (t : yS) : Decidable (zKy t) := by unfold zKy; infer_instance
theorem yKx (t : yS) (r : List Int) (hr : r.length ≤ 9223372036854775807) : FnA Tryz.prog 96 [liA r, .elt t.av 0] (.raw (.bool (decide (zUq t.ages.length r)))) := by
 have h1 := yLx r hr _ [] trivial (fun n => decide (0 ≤ n) && decide (n ≤ 1000000)) (fun x _ => zSg x)
 have e : decide (zUq t.ages.length r) = (decide ((r.length : Int) = t.ages.length) && r.all fun n => decide (0 ≤ n) && decide (n ≤ 1000000)) := by
  rw [yN7, yPk]
  simp only [zUq, yNj, yNk, yP7, Int.natCast_inj]
 rw [e]
 have hfr := xP r
 generalize (r.all fun n => decide (0 ≤ n) && decide (n ≤ 1000000)) = B at *
 clear e
 refine en func96 ntmps96 [.tmp 3] rfl ?_
 repeat' first
  | refine wkg h1 ?_
  | (refine cS (fun hb => ?_) fun hb => ?_ <;> try (cases hb; done))
  | refine sM fun K hK => ?_
  | fail
 all_goals exact fA
theorem zMt (t : yS) (ht : t.fits) : FnA Tryz.prog 39 [.agg t.av] (.raw (.bool (decide (zKy t)))) := by
 have h1 := zN4 t.temps ht.1.1
 have h2 := zN4 t.ages ht.2.1.1
 have hrl := ht.2.2.1
 have h3 := yLw t.rates hrl _ [.elt t.av 0] ⟨yS.free t, trivial⟩ (fun r => decide (zUq t.ages.length r)) (fun x hx => yKx t x (ht.2.2.2 x hx).1)
 have e : decide (zKy t) = (decide (vH t.temps) && decide (vH t.ages) && decide ((t.rates.length : Int) = t.temps.length) && t.rates.all fun r => decide (zUq t.ages.length r)) := by
  rw [yN7, yPk]
  simp only [zKy, yNj, yNk, yP7, Int.natCast_inj, and_assoc]
 have hfr := yS.free t
 have hf2 : (AV.lst 1 t.rates.length (els (fun l : List Int => [AV.lst 1 l.length (els iC l)]) t.rates)).free := zO (enc := liC) (fun y => show AV.freeL (liC y) from ⟨xP y, trivial⟩) _
 have hf3 : (AV.lst 1 t.temps.length (els iC t.temps)).free := xP t.temps
 have hf4 : (AV.lst 1 t.ages.length (els iC t.ages)).free := xP t.ages
 rw [e]
 generalize (t.rates.all fun r => decide (zUq t.ages.length r)) = B at *
 generalize decide (vH t.temps) = b1 at *
 generalize decide (vH t.ages) = b2 at *
 clear e ht hrl
 refine en func39 ntmps39 [.tmp 2] rfl ?_
 try (refine wkg (And.intro h1 h2) ?_; try refine sM fun K hK => ?_)
 refine yLs ⟨_, evl, ⟨cb, cb⟩, fun hb => ?_, fun hb => ?_⟩
 ·try (refine wg ?_; try refine sM fun K hK => ?_)
  refine rq ?_ ?_
  ·rcases hb with (h | h) | h <;> simp [h]
  ·simp [AV.free]
 ·refine zA0 0 obf ⟨_, evl, _, evl, ?_⟩
  try (first | refine wkM hK trivial ?_ | refine wkg trivial ?_)
  try clear hK K
  try refine sM fun K hK => ?_
  refine yO 1 rfl ?_
  refine yD rfl rfl ⟨_, evl, _, _, _, evl, ?_, ?_⟩
  ·intro _
   refine ⟨by simp, hf2, ?_⟩
   exact ⟨⟨trivial, ⟨hfr, trivial⟩⟩, trivial⟩
  refine ⟨_, fun hg => FnA.at_ h3 rfl rfl, ?_⟩
  try (first | refine wkM hK trivial ?_ | refine wkg trivial ?_)
  try clear hK K
  try refine sM fun K hK => ?_
  refine rq ?_ ?_
  ·obtain ⟨⟨h4, h5⟩, h6⟩ := hb
   simp [h4, h5, h6]
  ·simp [AV.free]
end Go.Proofs.YtioaahmkebojiaaGreatDoor
