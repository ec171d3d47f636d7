import Derived.Test.YtchpbdecipcelaaGreatDoorMR01
import Derived.ArgAppend
import Derived.BigCall
import Derived.BigGuard
import Derived.CellFam
import Derived.Lib.Hide
import Derived.Lib.ItoaLen
import Derived.Lib.ItoaMem
import Derived.Lib.ItoaNum
import Derived.Lib.Slices
import Derived.OwnWalk
import Derived.WalkKit
import Derived.Test.YtchpbdecipcelaaGreatDoorMR11
import Derived.Test.YtchpbdecipcelaaGreatDoorMR21
import Derived.Test.YtchpbdecipcelaaGreatDoorMR22
namespace Go.Proofs.YtchpbdecipcelaaGreatDoor
set_option linter.unusedVariables false
set_option linter.unusedSimpArgs false
set_option maxHeartbeats 4000000
set_option maxRecDepth 100000
namespace Bf
def fn (l : List Int) : Nat → Int := fun i => l.getD i 0
def relaxL (t : List Int) (e : E) : List Int := t.set e.b (min (t.getD e.b 0) (t.getD e.a 0 + e.m))
theorem relaxL_len (t : List Int) (e : E) : (relaxL t e).length = t.length := by simp [relaxL]
theorem getD_set {t : List Int} {i j : Nat} {v : Int} (h : i < t.length) : (t.set i v).getD j 0 = if j = i then v else t.getD j 0 := by
 rw [yLp, List.getElem?_set, yLp]
 by_cases hji : j = i
 ·subst hji; simp [h]
 ·rw [if_neg (fun e => hji e.symm), if_neg hji]
theorem zA7 {t : List Int} {e : E} (h : e.b < t.length) : fn (relaxL t e) = relax (fn t) e := by
 funext i
 unfold fn relaxL relax
 rw [getD_set h]
def sweepL (c : Int) : List E → List Int → Option (List Int)
 | [], t => some t
 | e :: l, t => if (relaxL t e).getD e.b 0 < -c then none else sweepL c l (relaxL t e)
def viol (l : List E) (t : List Int) : Bool := l.any fun e => decide (t.getD e.a 0 + e.m < t.getD e.b 0)
def possL (c : Int) (l : List E) : Nat → List Int → Bool
 | 0, _ => false
 | k + 1, t => if viol l t then (match sweepL c l t with | none => false | some t' => possL c l k t') else true
theorem zO2 {l : List E} {t : List Int} : viol l t = false ↔ keepsAll l (fn t) := by
 unfold viol keepsAll zFw fn
 rw [yNc]
 constructor
 ·intro h e he
  have := h e he
  simp only [yLr] at this
  omega
 ·intro h e he
  have := h e he
  simp only [yLr]
  omega
theorem zF4 {c : Int} {h : Nat → Int} (hc : ∀ i, -c ≤ h i) : ∀ (l : List E) (t : List Int), (∀ e ∈ l, e.a < t.length ∧ e.b < t.length) → keepsAll l h → (∀ i, h i ≤ fn t i) → ∃ t', sweepL c l t = some t' ∧ t'.length = t.length ∧ fn t' = zGp l (fn t)
 | [], t, _, _, _ => ⟨t, rfl, rfl, rfl⟩
 | e :: l, t, hin, hk, hf => by
  have hb := (hin e (by simp)).2
  have h1 := zIk (hk e (by simp)) hf
  rw [← zA7 hb] at h1
  have h2 := h1 e.b
  have h3 := hc e.b
  unfold sweepL
  rw [if_neg (by have : (relaxL t e).getD e.b 0 = fn (relaxL t e) e.b := rfl; rw [this]; omega)]
  obtain ⟨t', e1, e2, e3⟩ := zF4 hc l (relaxL t e) (fun e' he => by rw [relaxL_len]; exact hin e' (by simp [he])) (fun e' he => hk e' (by simp [he])) h1
  refine ⟨t', e1, by rw [e2, relaxL_len], ?_⟩
  rw [e3, zA7 hb]
  rfl
theorem zV6 (n : Nat) : fn (List.replicate n 0) = fun _ => 0 := by
 funext i
 unfold fn
 rw [yLp, List.getElem?_replicate]
 split <;> rfl
theorem zHd {c : Int} {l : List E} : ∀ (k : Nat) (t : List Int), possL c l k t = true → ∃ x, keepsAll l x
 | 0, _, h => by cases h
 | k + 1, t, h => by
  unfold possL at h
  split at h
  ·split at h
   ·cases h
   ·exact zHd k _ h
  ·rename_i hv
   exact ⟨fn t, zO2.1 (by simpa using hv)⟩
structure Ok (l : List E) (n : Nat) (c : Int) : Prop where
 pos : 0 < n
 inn : ∀ e ∈ l, e.a < n ∧ e.b < n
 nn : 0 ≤ c
 most : ∀ e ∈ l, -c ≤ e.m
theorem zOo {l : List E} {n : Nat} {c : Int} (ho : Ok l n c) {x : Nat → Int} (hx : keepsAll l x) {h : Nat → Int} (hk : keepsAll l h) (h0 : ∀ i, h i ≤ 0) (hc : ∀ i, -((n : Int) * c) ≤ h i) :
  ∀ (k j : Nat) (t : List Int), t.length = n → fn t = zB2 (zGp l) j → j ≤ n - 1 → k + j = n + 1 → possL ((n : Int) * c) l k t = true
 | 0, j, _, _, _, hj, hkj => by have := ho.pos; omega
 | k + 1, j, t, ht, hf, hj, hkj => by
  unfold possL
  split
  ·rename_i hv
   have hjn : j ≠ n - 1 := fun e => by
    have hs := zMc ho.pos ho.inn hx (zC3 l)
    rw [← e, ← hf] at hs
    rw [zO2.2 hs] at hv
    cases hv
   obtain ⟨t', e1, e2, e3⟩ := zF4 (c := (n : Int) * c) hc l t (fun e he => by rw [ht]; exact ho.inn e he) hk (fun i => by rw [hf]; exact zN6 (zC3 l) hk h0 j i)
   rw [e1]
   exact zOo ho hx hk h0 hc k (j + 1) t' (e2.trans ht) (by rw [e3, hf]; rfl) (by omega) (by omega)
  ·rfl
theorem possL_iff {l : List E} {n : Nat} {c : Int} (ho : Ok l n c) : possL ((n : Int) * c) l (n + 1) (List.replicate n 0) = true ↔ ∃ x, keepsAll l x := by
 constructor
 ·exact zHd _ _
 ·rintro ⟨x, hx⟩
  obtain ⟨h, h1, h2, h3⟩ := best ho.pos ho.inn hx ho.nn ho.most
  exact zOo ho hx h1 h2 h3 (n + 1) 0 _ (by simp) (zV6 n) (by omega) (by omega)
abbrev Sk := Bool × E
def used (l : List Sk) : List E := (l.filter fun s => !s.1).map (·.2)
def stepSk (t : List Int × Bool) (s : Sk) : List Int × Bool := if !s.1 && decide (t.1.getD s.2.a 0 + s.2.m < t.1.getD s.2.b 0) then (t.1.set s.2.b (t.1.getD s.2.a 0 + s.2.m), true) else t
def roundL (c : Int) : List Sk → List Int × Bool → Option (List Int × Bool)
 | [], t => some t
 | s :: l, t => if (stepSk t s).1.getD s.2.b 0 < -c then none else roundL c l (stepSk t s)
theorem zQb (t : List Int × Bool) (s : Sk) : (stepSk t s).1.length = t.1.length ∧ (t.2 = true → (stepSk t s).2 = true) := by
 unfold stepSk
 split
 ·exact ⟨by simp, fun _ => rfl⟩
 ·exact ⟨rfl, id⟩
theorem zBa (t : List Int × Bool) {s : Sk} (h : s.1 = true) : stepSk t s = t := by unfold stepSk; rw [h]; simp
theorem zJq (t : List Int × Bool) {s : Sk} (h : s.1 = false) (hlt : t.1.getD s.2.a 0 + s.2.m < t.1.getD s.2.b 0) : stepSk t s = (t.1.set s.2.b (t.1.getD s.2.a 0 + s.2.m), true) := by
 unfold stepSk; rw [h, yO3 hlt]; rfl
theorem zF6 (t : List Int × Bool) {s : Sk} (h : s.1 = false) (hlt : ¬ t.1.getD s.2.a 0 + s.2.m < t.1.getD s.2.b 0) : stepSk t s = t := by
 unfold stepSk; rw [h, yO4 hlt]; rfl
def timesL (c : Int) (l : List Sk) : Nat → List Int → Option (List Int)
 | 0, _ => none
 | k + 1, t => match roundL c l (t, false) with
  | none => none
  | some (t', ch) => if ch then timesL c l k t' else some t'
theorem fn_set {t : List Int} {e : E} (h : e.b < t.length) (hlt : t.getD e.a 0 + e.m < t.getD e.b 0) : t.set e.b (t.getD e.a 0 + e.m) = relaxL t e := by
 unfold relaxL
 rw [Int.min_def, if_neg (by omega)]
theorem zMk {t : List Int} {e : E} (h : e.b < t.length) (hle : ¬ t.getD e.a 0 + e.m < t.getD e.b 0) : relaxL t e = t := by
 unfold relaxL
 rw [Int.min_def, if_pos (by omega)]
 refine List.ext_getElem (by simp) fun i h1 h2 => ?_
 rw [List.getElem_set]
 split
 ·rename_i hi; subst hi
  simp [yLp, h]
 ·rfl
theorem used_cons (s : Sk) (l : List Sk) : used (s :: l) = if s.1 then used l else s.2 :: used l := by
 unfold used
 cases h : s.1 <;> simp [h]
theorem jI {c : Int} {h : Nat → Int} (hc : ∀ i, -c ≤ h i) : ∀ (l : List Sk) (t : List Int) (ch : Bool), (∀ s ∈ l, s.2.a < t.length ∧ s.2.b < t.length) → keepsAll (used l) h → (∀ i, h i ≤ fn t i) →
  ∃ t' ch', roundL c l (t, ch) = some (t', ch') ∧ t'.length = t.length ∧ fn t' = zGp (used l) (fn t)
 | [], t, ch, _, _, _ => ⟨t, ch, rfl, rfl, rfl⟩
 | s :: l, t, ch, hin, hk, hf => by
  have hb := (hin s (by simp)).2
  unfold roundL
  rw [used_cons] at hk ⊢
  cases hs : s.1 with
  | true =>
   rw [hs, if_pos rfl] at hk
   rw [if_pos rfl, zBa _ hs]
   have h1 := hf s.2.b
   have h2 := hc s.2.b
   rw [if_neg (by have : t.getD s.2.b 0 = fn t s.2.b := rfl; simp only [this]; omega)]
   exact jI hc l t ch (fun e he => hin e (by simp [he])) hk hf
  | false =>
   rw [hs, if_neg (by decide)] at hk
   rw [if_neg (show ¬ (false = true) by decide)]
   have h1 := zIk (hk s.2 (by simp)) hf
   rw [← zA7 hb] at h1
   have h2 := h1 s.2.b
   have h3 := hc s.2.b
   have hne : ¬ (relaxL t s.2).getD s.2.b 0 < -c := by have : (relaxL t s.2).getD s.2.b 0 = fn (relaxL t s.2) s.2.b := rfl; rw [this]; omega
   by_cases hlt : t.getD s.2.a 0 + s.2.m < t.getD s.2.b 0
   ·rw [zJq (t, ch) hs hlt, fn_set hb hlt, if_neg hne]
    obtain ⟨t', ch', e1, e2, e3⟩ := jI hc l (relaxL t s.2) true (fun e he => by rw [relaxL_len]; exact hin e (by simp [he])) (fun e he => hk e (by simp [he])) h1
    exact ⟨t', ch', e1, by rw [e2, relaxL_len], by rw [e3, zA7 hb]; rfl⟩
   ·have hsame := zMk hb hlt
    rw [hsame] at hne h1
    rw [zF6 (t, ch) hs hlt, if_neg hne]
    obtain ⟨t', ch', e1, e2, e3⟩ := jI hc l t ch (fun e he => hin e (by simp [he])) (fun e he => hk e (by simp [he])) h1
    refine ⟨t', ch', e1, e2, ?_⟩
    rw [e3]
    show zGp (used l) (fn t) = zGp (used l) (relax (fn t) s.2)
    rw [← zA7 hb, hsame]
theorem zDc {c : Int} : ∀ (l : List Sk) (t : List Int × Bool) (r : List Int × Bool), roundL c l t = some r → r.1.length = t.1.length ∧ (t.2 = true → r.2 = true)
 | [], t, r, h => by cases h; exact ⟨rfl, id⟩
 | s :: l, t, r, h => by
  unfold roundL at h
  split at h
  ·cases h
  ·obtain ⟨h1, h2⟩ := zDc l _ r h
   obtain ⟨h3, h4⟩ := zQb t s
   exact ⟨h1.trans h3, fun e => h2 (h4 e)⟩
theorem zA1 {c : Int} : ∀ (l : List Sk) (t : List Int) (t' : List Int), roundL c l (t, false) = some (t', false) → t' = t ∧ keepsAll (used l) (fn t)
 | [], t, t', h => by cases h; exact ⟨rfl, fun e he => by cases he⟩
 | s :: l, t, t', h => by
  unfold roundL at h
  split at h
  ·cases h
  ·rw [used_cons]
   cases hs : s.1 with
   | true =>
    rw [zBa _ hs] at h
    rw [if_pos rfl]
    exact zA1 l t t' h
   | false =>
    rw [if_neg (by decide)]
    by_cases hlt : t.getD s.2.a 0 + s.2.m < t.getD s.2.b 0
    ·rw [zJq (t, false) hs hlt] at h
     have := (zDc l _ _ h).2 rfl
     cases this
    ·rw [zF6 (t, false) hs hlt] at h
     obtain ⟨rfl, h2⟩ := zA1 l t t' h
     refine ⟨rfl, fun e he => ?_⟩
     rcases yLf.1 he with rfl | he
     ·unfold zFw fn; omega
     ·exact h2 e he
theorem zF2 {c : Int} {l : List Sk} : ∀ (k : Nat) (t : List Int) (r : List Int), timesL c l k t = some r → r.length = t.length ∧ keepsAll (used l) (fn r)
 | 0, _, _, h => by cases h
 | k + 1, t, r, h => by
  unfold timesL at h
  split at h
  ·cases h
  ·rename_i t' ch e
   cases ch with
   | true =>
    rw [if_pos rfl] at h
    obtain ⟨h1, h2⟩ := zF2 k t' r h
    exact ⟨h1.trans (zDc _ _ _ e).1, h2⟩
   | false =>
    rw [if_neg (by decide)] at h
    cases h
    obtain ⟨rfl, h2⟩ := zA1 _ _ _ e
    exact ⟨rfl, h2⟩
theorem zJk {l : List Sk} {n : Nat} {c : Int} (ho : Ok (used l) n c) (hin : ∀ s ∈ l, s.2.a < n ∧ s.2.b < n) {x : Nat → Int} (hx : keepsAll (used l) x) {h : Nat → Int} (hk : keepsAll (used l) h) (h0 : ∀ i, h i ≤ 0) (hc : ∀ i, -((n : Int) * c) ≤ h i) :
  ∀ (k j : Nat) (t : List Int), t.length = n → fn t = zB2 (zGp (used l)) j → j ≤ n - 1 → k + j = n + 1 → timesL ((n : Int) * c) l k t ≠ none
 | 0, j, _, _, _, hj, hkj => by have := ho.pos; omega
 | k + 1, j, t, ht, hf, hj, hkj => by
  obtain ⟨t', ch, e1, e2, e3⟩ := jI (c := (n : Int) * c) hc l t false (fun s hs => by rw [ht]; exact hin s hs) hk (fun i => by rw [hf]; exact zN6 (zC3 _) hk h0 j i)
  unfold timesL
  rw [e1]
  cases ch with
  | false => simp
  | true =>
   simp only [if_true]
   by_cases hjn : j = n - 1
   ·have hs := zMc ho.pos ho.inn hx (zC3 (used l))
    rw [← hjn, ← hf] at hs
    exfalso
    have hst : ∀ (l : List Sk) (t : List Int), (∀ s ∈ l, s.2.b < t.length) → keepsAll (used l) (fn t) → ∀ r, roundL ((n : Int) * c) l (t, false) = some r → r.2 = false := by
     intro l
     induction l with
     | nil => intro t _ _ r hr; cases hr; rfl
     | cons s l ih =>
      intro t hb hk r hr
      unfold roundL at hr
      rw [used_cons] at hk
      split at hr
      ·cases hr
      ·cases hs : s.1 with
       | true =>
        rw [hs, if_pos rfl] at hk
        rw [zBa _ hs] at hr
        exact ih t (fun s hs => hb s (by simp [hs])) hk r hr
       | false =>
        rw [hs, if_neg (by decide)] at hk
        have h1 := hk s.2 (by simp)
        unfold zFw fn at h1
        rw [zF6 (t, false) hs (by simp only; omega)] at hr
        exact ih t (fun s hs => hb s (by simp [hs])) (fun e he => hk e (by simp [he])) r hr
    have := hst l t (fun s hs => by rw [ht]; exact (hin s hs).2) hs _ e1
    cases this
   ·exact zJk ho hin hx hk h0 hc k (j + 1) t' (e2.trans ht) (by rw [e3, hf]; rfl) (by omega) (by omega)
theorem timesL_iff {l : List Sk} {n : Nat} {c : Int} (ho : Ok (used l) n c) (hin : ∀ s ∈ l, s.2.a < n ∧ s.2.b < n) : (timesL ((n : Int) * c) l (n + 1) (List.replicate n 0)).isSome = true ↔ ∃ x, keepsAll (used l) x := by
 constructor
 ·intro h
  obtain ⟨r, hr⟩ := Option.isSome_iff_exists.1 h
  exact ⟨fn r, (zF2 _ _ _ hr).2⟩
 ·rintro ⟨x, hx⟩
  obtain ⟨h, h1, h2, h3⟩ := best ho.pos ho.inn hx ho.nn ho.most
  have := zJk ho hin hx h1 h2 h3 (n + 1) 0 _ (by simp) (zV6 n) (by omega) (by omega)
  exact Option.isSome_iff_ne_none.2 this
end Bf
open Go.RowKit
namespace Lk
theorem zV3 (p : Change → Int) : ∀ (r : List Change) (b : Int), r.foldl (fun b x => min b (p x)) b ≤ b ∧ (∀ x ∈ r, r.foldl (fun b x => min b (p x)) b ≤ p x) ∧ (r.foldl (fun b x => min b (p x)) b = b ∨ ∃ x ∈ r, r.foldl (fun b x => min b (p x)) b = p x)
 | [], b => ⟨yO8 _, fun x h => by simp at h, .inl rfl⟩
 | y :: r, b => by
  obtain ⟨h1, h2, h3⟩ := zV3 p r (min b (p y))
  simp only [yL4]
  refine ⟨by omega, fun x hx => ?_, ?_⟩
  ·simp only [yLf] at hx
   rcases hx with rfl | hx
   ·omega
   ·exact h2 x hx
  ·rcases h3 with h3 | ⟨x, hx, h3⟩
   ·rcases Int.le_total b (p y) with h | h
    ·left; omega
    ·right; exact ⟨y, by simp, by omega⟩
   ·exact .inr ⟨x, by simp [hx], h3⟩
theorem zV4 (p : Change → Int) : ∀ (r : List Change) (b : Int), b ≤ r.foldl (fun b x => max b (p x)) b ∧ (∀ x ∈ r, p x ≤ r.foldl (fun b x => max b (p x)) b) ∧ (r.foldl (fun b x => max b (p x)) b = b ∨ ∃ x ∈ r, r.foldl (fun b x => max b (p x)) b = p x)
 | [], b => ⟨yO8 _, fun x h => by simp at h, .inl rfl⟩
 | y :: r, b => by
  obtain ⟨h1, h2, h3⟩ := zV4 p r (max b (p y))
  simp only [yL4]
  refine ⟨by omega, fun x hx => ?_, ?_⟩
  ·simp only [yLf] at hx
   rcases hx with rfl | hx
   ·omega
   ·exact h2 x hx
  ·rcases h3 with h3 | ⟨x, hx, h3⟩
   ·rcases Int.le_total b (p y) with h | h
    ·right; exact ⟨y, by simp, by omega⟩
    ·left; omega
   ·exact .inr ⟨x, by simp [hx], h3⟩
theorem zPc {p : Change → Int} {l : List Change} (h : l ≠ []) : (∀ x ∈ l, (zG4 1 p l).1 ≤ p x) ∧ ∃ x ∈ l, (zG4 1 p l).1 = p x := by
 match l, h with
 | c :: r, _ =>
  rw [zCn]
  obtain ⟨h1, h2, h3⟩ := zV3 p r (p c)
  refine ⟨fun x hx => ?_, ?_⟩
  ·simp only [yLf] at hx
   rcases hx with rfl | hx
   ·exact h1
   ·exact h2 x hx
  ·rcases h3 with h3 | ⟨x, hx, h3⟩
   ·exact ⟨c, by simp, h3⟩
   ·exact ⟨x, by simp [hx], h3⟩
theorem zPd {p : Change → Int} {l : List Change} (h : l ≠ []) : (∀ x ∈ l, p x ≤ (zG4 (-1) p l).1) ∧ ∃ x ∈ l, (zG4 (-1) p l).1 = p x := by
 match l, h with
 | c :: r, _ =>
  rw [zCo]
  obtain ⟨h1, h2, h3⟩ := zV4 p r (p c)
  refine ⟨fun x hx => ?_, ?_⟩
  ·simp only [yLf] at hx
   rcases hx with rfl | hx
   ·exact h1
   ·exact h2 x hx
  ·rcases h3 with h3 | ⟨x, hx, h3⟩
   ·exact ⟨c, by simp, h3⟩
   ·exact ⟨x, by simp [hx], h3⟩
theorem zZc {l : List Change} {k : Nat} (h : k < l.length) : gD l k ∈ l := by rw [yDo h]; exact yNe h
theorem zCg {l : List Change} {i : Iv} {x : Change} (h : x ∈ q9 l i l.length) : x ∈ l := by
 simp only [q9, yMf, yNl, yN5] at h
 obtain ⟨k, ⟨hk, _⟩, rfl⟩ := h
 exact zZc hk
theorem zKo (l : List Change) (t : Int) (n : Nat) : zHj l ⟨t, t⟩ n = [] := by
 simp only [zHj, List.map_eq_nil_iff, List.filter_eq_nil_iff, yN5, yLr]
 intro k _ h
 omega
structure ChP (l : List Change) (i : Iv) (t : Int) (a b : Change) : Prop where
 ea : linkBoundsM l i = (a, 0)
 eb : linkBoundsM l ⟨t, t⟩ = (b, 0)
 ta : a.at_ = i.lo
 tb : b.at_ = t
 n1 : a.outLo ≤ b.outLo
 n2 : b.outHi ≤ a.outHi
 n3 : a.backLo ≤ b.backLo
 n4 : b.backHi ≤ a.backHi
 f1 : ∃ x ∈ l, x.outLo = a.outLo
 f2 : ∃ x ∈ l, x.outHi = a.outHi
 f3 : ∃ x ∈ l, x.backLo = a.backLo
 f4 : ∃ x ∈ l, x.backHi = a.backHi
 f5 : ∃ x ∈ l, { x with at_ := t } = b
theorem yE2 {l : List Change} {i : Iv} {t : Int} (hl : validM l = true) (hi : qJ i = true) (ht : i.lo ≤ t ∧ t ≤ i.hi) : ∃ a b, ChP l i t a b := by
 have hv := hl
 rw [validM, yLr] at hv
 obtain ⟨v1, v2, v3, v4, v5⟩ := hv
 have hi' := (kL i).1 hi
 have hs := zLt v5
 have htv : qJ ⟨t, t⟩ = true := by rw [kL]; simp only; omega
 obtain ⟨q, q1, q2, q3⟩ := zZ9 (lo := t) v1 (by omega) hs
 -- the delays in force at the time
 have hq : inF l i q = true := by
  simp only [inF, yLq, yLs, yN0, yMz, yLr]
  have e : ((q : Int) + 1).toNat = q + 1 := by omega
  rw [e]
  refine ⟨?_, by omega⟩
  by_cases hn : q + 1 < l.length
  ·have := q3 (q + 1) (by omega) hn; right; omega
  ·left; omega
 have hqm : gD l q ∈ q9 l i l.length := by
  simp only [q9, yMf, yNl, yN5]
  exact ⟨q, ⟨q1, hq⟩, rfl⟩
 have hne : q9 l i l.length ≠ [] := List.ne_nil_of_mem hqm
 have hone : q9 l ⟨t, t⟩ l.length = [gD l q] := by
  have hat : ∀ n, n ≤ l.length → q < n → atM l t n = gD l q := by
   intro n
   induction n with
   | zero => intro _ h; omega
   | succ n ih =>
    intro hn hqn
    rw [zEv]
    by_cases hnq : n = q
    ·subst hnq; rw [if_pos q2]
    ·have := q3 n (by omega) (by omega)
     rw [if_neg (by omega)]
     exact ih (by omega) (by omega)
  rw [zP6 v1 (by simp only; omega) (yO8 _) hs, zKo, hat l.length (yKq _) q1]
 refine ⟨_, _, by rw [linkBoundsM, if_pos ⟨hl, hi⟩], by rw [linkBoundsM, if_pos ⟨hl, htv⟩], rfl, rfl, ?_, ?_, ?_, ?_, ?_, ?_, ?_, ?_, ?_⟩
 all_goals simp only [hone]
 ·rw [zCn]; exact (zPc hne).1 _ hqm
 ·rw [zCo]; exact (zPd hne).1 _ hqm
 ·rw [zCn]; exact (zPc hne).1 _ hqm
 ·rw [zCo]; exact (zPd hne).1 _ hqm
 ·obtain ⟨x, hx, e⟩ := (zPc (p := Change.outLo) hne).2; exact ⟨x, zCg hx, e.symm⟩
 ·obtain ⟨x, hx, e⟩ := (zPd (p := Change.outHi) hne).2; exact ⟨x, zCg hx, e.symm⟩
 ·obtain ⟨x, hx, e⟩ := (zPc (p := Change.backLo) hne).2; exact ⟨x, zCg hx, e.symm⟩
 ·obtain ⟨x, hx, e⟩ := (zPd (p := Change.backHi) hne).2; exact ⟨x, zCg hx, e.symm⟩
 ·refine ⟨gD l q, zZc q1, ?_⟩
  simp only [zCn, zCo, List.foldl_nil]
theorem bounds_formed {l : List Change} {i : Iv} (hl : validM l = true) (hi : qJ i = true) : formedM (linkBoundsM l i).1 = true := by
 have hi' := (kL i).1 hi
 obtain ⟨a, b, h⟩ := yE2 hl hi (t := i.lo) ⟨yO8 _, hi'.2.1⟩
 have hall : ∀ x ∈ l, 0 ≤ x.outLo ∧ x.outLo ≤ x.outHi ∧ x.outHi ≤ 1000000 ∧ 0 ≤ x.backLo ∧ x.backLo ≤ x.backHi ∧ x.backHi ≤ 1000000 := fun x hx => by
  rw [validM, yLr] at hl
  obtain ⟨k, hk, rfl⟩ := yNb.1 hx
  have := (hl.2.2.2.2 k hk).1
  rw [yDo hk, formed_iff] at this
  exact this
 rw [h.ea, formed_iff]
 obtain ⟨x1, m1, e1⟩ := h.f1
 obtain ⟨x2, m2, e2⟩ := h.f2
 obtain ⟨x3, m3, e3⟩ := h.f3
 obtain ⟨x4, m4, e4⟩ := h.f4
 obtain ⟨x5, m5, e5⟩ := h.f5
 have a1 := hall _ m1
 have a2 := hall _ m2
 have a3 := hall _ m3
 have a4 := hall _ m4
 have a5 := hall _ m5
 have n1 := h.n1
 have n2 := h.n2
 have n3 := h.n3
 have n4 := h.n4
 rw [← e5] at n1 n2 n3 n4
 simp only at n1 n2 n3 n4 ⊢
 omega
end Lk
open Go.Shelf Go.RowKit Go.Sort Go.Lib
theorem zYz : (Tryz.prog.info? 5).map (fun i => (i.zero, i.size, i.bytes)) = some (some (.int .u8 0), 1, 1) := by kernel_rfl
theorem kD {P : Program} (w : World) {ops : Array Oper} {rest : List Oper} {o : Oper} {a : Act} {Q : Exit → Act → World → Prop} (hgd : o.guard = none) (sl x : Operand) (t u : TypeId)
  (ho : o.op = .call { callee := .builtin .append, args := #[sl, x], argTypes := #[t, u] })
  (e : TypeId) (i : TypeInfo) (ht : P.underlying t = some (.slice e)) (hu : P.underlying u = some .string) (hi : P.info? e = some i) (hz : i.zero = some (.int .u8 0)) (hsize : i.size = 1) (hby : i.bytes = 1)
  (g n : Nat) (xs : List Value) (hs : a.eval sl = .slice (some ⟨g, 0, none⟩) n n) (hl : xs.length = n) (hc : ∀ j v, xs[j]? = some v → w.cell? ⟨g, j, none⟩ = some v) (s : ByteArray) (hx : a.eval x = .string s) (hpos : 0 < s.size)
  (hlim : n + s.size ≤ 140737488355328)
  (h : ∀ v' w', w'.ownsRow w.heap.size e 1 v' (n + s.size) (xs ++ strCells s) → w.grownBy w' none → wpList P ops Q rest (a.put o.dst v') w') : wpList P ops Q (o :: rest) a w := by
 refine wpList_plain hgd fun K hK => ?_
 have hr := run_append_grow_string (P := P) w t u o.type e i (.int .u8 0) ht hu hi hz ⟨g, 0, none⟩ n n xs (by rw [hsize, hl, yLv]) (fun j v hj => by rw [Addr.add_lit, yLe]; exact hc j v hj) s (by omega) (by omega) (by rw [hby]; have := growslice_fits (need := n + s.size) (old := n) (bytes := 1) (by omega) (by omega); exact this)
 have h63 : n + s.size ≤ maxLen := by unfold maxLen; omega
 unfold Oper.wp execOp
 simp only [ho, resolve, invoke, builtin, Sem.run_bind, Sem.run_pure, Result.andThen_ok, List.map_toArray, yLt, yMk, hs, hx, hr]
 have hge := grownCap_ge w (n + s.size) n e
 have hcm : grownCap w (n + s.size) n e ≤ maxLen := grownCap_le_maxLen w (n + s.size) n e h63
 refine hK _ _ (h _ _ ⟨?_, .inr ⟨w.heap.size, _, _, rfl, yKq _, heap_alloc_new w.drew _, hge, hcm, ?_, ?_⟩⟩ ⟨rfl, rfl, rfl, by simp, fun k hk _ => Go.heap_alloc_old w.drew _ hk⟩)
 ·rw [yL5, hl, strCells_length, yLv]
 ·simp only [Array.size_append, yM5, size_zeroCells, hl, strCells_length]
  show n + s.size + (grownCap w (n + s.size) n e - (n + s.size)) * 1 = _
  omega
 ·simp only [Array.toList_append, yN2]
  rw [← yN2, yLv, show n + s.size = (xs ++ strCells s).length from by rw [yL5, hl, strCells_length]]
  exact List.take_left
theorem jS (u : Nat) : 0 < (Lib.decDigits u).length := by
 rw [Lib.decDigits_length]
 by_cases h10 : u < 10
 ·rw [Lib.nDigits_small h10]; omega
 ·rw [Lib.nDigits_big h10]; omega
section
variable (g n : Nat) (xs : List Value) (w : World)
set_option maxHeartbeats 6400000 in
set_option maxRecDepth 100000 in
theorem zNu (u : Nat) (hl : xs.length = n) (hc : ∀ j v, xs[j]? = some v → w.cell? ⟨g, j, none⟩ = some v) (hu64 : u < 18446744073709551616) (hlim : n + 20 ≤ 140737488355328) (htab : Lib.TabIs Tryz.prog w "internal/strconv.uint64pow10" .u64 Lib.pow10Tab) :
  Calls Tryz.prog 262 #[.slice (some ⟨g, 0, none⟩) n n, .int .u64 u, .int .i64 10] w fun e w' => ∃ v', e = .returned v' ∧ w'.ownsRow w.heap.size 5 1 v' (n + (Lib.decDigits u).length) (xs ++ Lib.byteCells (Lib.decDigits u)) ∧ RowKit.Below w.heap.size w w' := by
 have L := laysAI
 obtain ⟨i0, hi, hz0, hz1, hz2⟩ := info_parts zYz
 by_cases hu : u < 100
 ·have hlen : (Lib.decDigits u).length ≤ 20 := by
   rw [Lib.decDigits_length]
   by_cases h10 : u < 10
   ·rw [Lib.nDigits_small h10]; omega
   ·rw [Lib.nDigits_big h10, Lib.nDigits_small (show u / 10 < 10 by omega)]; omega
  have hsz : (⟨(Lib.decDigits u).toArray⟩ : ByteArray).size = (Lib.decDigits u).length := by simp [ByteArray.size]
  go_enter Tryz.func262, Tryz.ntmps262
  go_wp2_with (go_at_call 264; go_loud (refine (Any.internal_strconv_small { L with } u hu _).mono ?_); rintro e w1 ⟨rfl, rfl⟩; refine Hid.out ?_)
  refine Lib.hid ?_
  go_wp2_with (at_builtin; refine kD _ rfl _ _ 211 9 rfl 5 i0 Tryz.underlying211 Tryz.underlying9 hi hz0 hz1 hz2 g n xs rfl hl hc ⟨(Lib.decDigits u).toArray⟩ rfl (by rw [hsz]; exact jS u) (by rw [hsz]; omega) ?_)
  intro v' w1 hown' hgrow
  go_wp2
  go_ret
  refine ⟨v', rfl, ?_, (RowKit.Below.refl _ _).grown hgrow (yKq _) (fun k hk => by cases hk)⟩
  first | exact hown' | (rw [hsz] at hown'; exact hown')
 ·have hu1 : 1 ≤ u := by omega
  have hnd20 : Lib.nDigits u ≤ 20 := by have := Lib.numDigits_eq u hu1 hu64; split at this <;> omega
  have hal : Tryz.prog.arrayLen 297 = 24 := by kernel_rfl
  have hel : Tryz.prog.elem 297 = 5 := by kernel_rfl
  have hsl : ∀ W, (Instr.sliceAt 297 (.pointer (some ⟨w.heap.size, 0, none⟩)) none (some (.int .i64 (Lib.nDigits u : Int))) none).run Tryz.prog W = .ok (.slice (some ⟨w.heap.size, 0, none⟩) (Lib.nDigits u) 24) W := fun W => by
   rw [run_sliceAt_array_h W 297 ⟨w.heap.size, 0, none⟩ (by kernel_rfl) .i64 (Lib.nDigits u : Int) (by omega) (by rw [hal]; omega), hel]
   simp [sizeOf, typeInfo, hi, hz1, hal, slicedAt, Result.andThen, Addr.add]
  have hH0 := Lib.holds_zero0 w 297 (Lib.nDigits u) (by omega)
  have hfmt := Any.internal_strconv_formatBase10 { L with } w.heap.size 0 24 u (Array.replicate (Lib.nDigits u) 0) (w.alloc (.cells Lib.zeros24 297)) hH0 (by rw [Array.size_replicate]; exact Lib.lt_pow_nDigits u) hu64 (by rw [Array.size_replicate]; omega)
  rw [Array.size_replicate] at hfmt
  have HH0 := Lib.hid hH0
  clear hH0
  go_enter Tryz.func262, Tryz.ntmps262
  go_wp2_with (go_at_call 265; go_loud (refine (Any.internal_strconv_numDigits { L with } u hu1 hu64 _ (Lib.tabIs_alloc htab _)).mono ?_); rintro e w1 ⟨rfl, rfl⟩; refine Hid.out ?_)
  refine Lib.hid ?_
  go_wp2_with (go_at_call 266; go_loud (refine hfmt.mono ?_); rintro e w' ⟨rfl, k, v', dk, rfl, hF⟩; refine Hid.out ?_)
  refine Lib.hid ?_
  have hd : ∀ j u', (Lib.byteCells (Lib.decDigits u))[j]? = some u' → ((putRow (fun (b : UInt8) => Value.int .u8 (b.toNat : Int)) (w.alloc (.cells Lib.zeros24 297)) w.heap.size 0 dk).drewN k).cell? ((⟨w.heap.size, 0, none⟩ : Addr).add j) = some u' := by
   intro j u' hj
   obtain ⟨hjl, rfl⟩ := yLk.1 hj
   rw [Lib.byteCells_length] at hjl
   have e5 : (Lib.byteCells (Lib.decDigits u))[j]'(by rw [Lib.byteCells_length]; exact hjl) = Value.int .u8 ((Lib.decDigits u)[j].toNat : Int) := by simp [Lib.byteCells]
   rw [e5, Lib.row_is_numeral hF j hjl, Lib.add_plain, World.cell?_drewN]
   exact cell?_putRow (fun (b : UInt8) => Value.int .u8 (b.toNat : Int)) _ w.heap.size 0 _ dk HH0.out (by rw [hF.size, Array.size_replicate]) j (by rw [hF.size]; rw [Lib.decDigits_length] at hjl; exact hjl)
  obtain ⟨os, eo⟩ := Lib.fin_at w (.cells Lib.zeros24 297) dk k 0
  have hnx : RowKit.Below w.heap.size w ((putRow (fun (b : UInt8) => Value.int .u8 (b.toNat : Int)) (w.alloc (.cells Lib.zeros24 297)) w.heap.size 0 dk).drewN k) := by rw [eo]; exact Lib.below_grow _ w (yKq _) k os
  have hsz := hnx.size
  generalize (putRow (fun (b : UInt8) => Value.int .u8 (b.toNat : Int)) (w.alloc (.cells Lib.zeros24 297)) w.heap.size 0 dk).drewN k = W at hd hnx hsz ⊢
  have hc2 : ∀ j v, xs[j]? = some v → W.cell? ⟨g, 0 + j, none⟩ = some v := fun j v hj => by
   have := hc j v hj
   rw [yLe, hnx.cell (p := ⟨g, j, none⟩) (World.block_lt_of_cell? w ⟨g, j, none⟩ this)]
   exact this
  clear eo HH0 hfmt
  go_wp2_with (at_builtin; refine wpList_append_arg _ rfl _ _ 211 rfl 5 i0 (.int .u8 0) 1 1 Tryz.underlying211 hi hz0 hz1 hz2 rfl (by decide) g 0 n n xs rfl ?lo hc2 ⟨w.heap.size, 0, none⟩ (Lib.nDigits u) 24 (Lib.byteCells (Lib.decDigits u)) rfl ?c0 hd ?c2 ?sp ?c3 ?c4 ?rm ?_)
  case lo => rw [hl, yLv]
  case c0 => rw [Lib.byteCells_length, Lib.decDigits_length, yLv]
  case c2 => intro u' hu'; simp only [Lib.byteCells, yMf] at hu'; obtain ⟨b, _, rfl⟩ := hu'; rfl
  case sp => intro h; have := jS u; rw [Lib.decDigits_length] at this; omega
  case c3 => unfold maxLen; omega
  case c4 => omega
  case rm => intro h; have := jS u; rw [Lib.decDigits_length] at this; omega
  intro _ v2 w3 hown' hgrow
  go_wp2
  go_ret
  refine ⟨v2, rfl, ?_, hnx.grown hgrow (by omega) (fun k hk => by cases hk)⟩
  rw [Lib.decDigits_length]
  obtain ⟨h1, h2⟩ := hown'
  refine ⟨h1, h2.imp_right ?_⟩
  rintro ⟨g', cap', cur', e1, e2, e3⟩
  exact ⟨g', cap', cur', e1, by omega, e3⟩
set_option maxHeartbeats 6400000 in
set_option maxRecDepth 100000 in
theorem zRx (i : Int) (h0 : -9223372036854775808 ≤ i) (h1 : i ≤ 9223372036854775807) (hl : xs.length = n) (hc : ∀ j v, xs[j]? = some v → w.cell? ⟨g, j, none⟩ = some v) (hlim : n + 21 ≤ 140737488355328) (htab : Lib.TabIs Tryz.prog w "internal/strconv.uint64pow10" .u64 Lib.pow10Tab) :
  Calls Tryz.prog 260 #[.slice (some ⟨g, 0, none⟩) n n, .int .i64 i, .int .i64 10] w fun e w' => ∃ v', e = .returned v' ∧ w'.ownsRow w.heap.size 5 1 v' (n + (Lib.itoa i).length) (xs ++ Lib.byteCells (Lib.itoa i)) ∧ RowKit.Below w.heap.size w w' := by
 have L := laysAI
 obtain ⟨i0, hi, hz0, hz1, hz2⟩ := info_parts zYz
 have hT := Lib.tabBelow_of_tabIs htab
 by_cases hneg : i < 0
 ·obtain ⟨u, rfl⟩ : ∃ u : Nat, i = -(u : Int) := ⟨i.natAbs, by omega⟩
  have hu1 : 1 ≤ u := by omega
  have hu64 : u < 18446744073709551616 := by omega
  have hwr : IntKind.u64.wrap (-IntKind.u64.wrap (-(u : Int))) = (u : Int) := by rw [IntKind.wrap_u64, IntKind.wrap_u64]; omega
  rw [Lib.itoa_neg u hu1]
  go_enter Tryz.func260, Tryz.ntmps260
  go_wp2_with (at_builtin; refine wpList_append_arg _ rfl _ _ 211 rfl 5 i0 (.int .u8 0) 1 1 Tryz.underlying211 hi hz0 hz1 hz2 rfl (by decide) g 0 n n xs rfl ?lo ?hc2 ⟨w.heap.size, 0, none⟩ 1 1 [Value.int .u8 45] rfl ?c0 ?hd ?c2 ?sp ?c3 ?c4 ?rm ?_)
  case lo => rw [hl, yLv]
  case hc2 =>
   intro j v hj
   have := hc j v hj
   have hlt := World.block_lt_of_cell? w ⟨g, j, none⟩ this
   rw [yLe, World.cell?_alloc_old _ _ _ (by show g ≠ _; have : g < w.heap.size := hlt; omega)]
   exact this
  case c0 => rfl
  case hd => intro j u' hj; match j, hj with | 0, hj => simp at hj; subst hj; simp [Addr.add]
  case c2 => intro u' hu'; simp at hu'; subst hu'; rfl
  case sp => intro h; omega
  case c3 => unfold maxLen; omega
  case c4 => omega
  case rm => intro h; omega
  intro v1 w1 hown1 hgrow
  have hnx1 : RowKit.Below w.heap.size w w1 := ((RowKit.Below.refl _ w).alloc (yKq _) _).grown hgrow (by simp) (fun k hk => by cases hk)
  have hsz1 := hnx1.size
  have hown1 : w1.ownsRow w.heap.size 5 1 v1 (n + 1) (xs ++ [Value.int .u8 45]) := by
   obtain ⟨h1, h2⟩ := hown1
   refine ⟨h1, h2.imp_right ?_⟩
   rintro ⟨g', cap', cur', e1, e2, e3⟩
   exact ⟨g', cap', cur', e1, by first | omega | (simp at e2; omega), e3⟩
  go_wp2_with (go_at_call 262; go_loud (refine (Any.internal_strconv_AppendUint_10 { L with } w.heap.size (n + 1) u hu64 v1 _ w1 hown1 hsz1 (by omega) (hT w1 hnx1)).mono ?_); rintro e w2 ⟨v2, rfl, hown2, hnx2, -⟩; refine Hid.out ?_)
  refine Lib.hid ?_
  go_wp2
  go_ret
  refine ⟨v2, rfl, ?_, hnx1.trans hnx2⟩
  rw [show n + ((Lib.decDigits u).length + 1) = n + 1 + (Lib.decDigits u).length from by omega, show xs ++ Lib.byteCells (45 :: Lib.decDigits u) = xs ++ [Value.int .u8 45] ++ Lib.byteCells (Lib.decDigits u) from by simp [Lib.byteCells]]
  exact hown2
 ·obtain ⟨u, rfl⟩ : ∃ u : Nat, i = u := ⟨i.toNat, by omega⟩
  have hu64 : u < 18446744073709551616 := by omega
  rw [Lib.itoa_nonneg]
  go_enter Tryz.func260, Tryz.ntmps260
  go_wp2_with (go_at_call 262; go_loud (refine (zNu g n xs w u hl hc hu64 (by omega) htab).mono ?_); rintro e w2 ⟨v2, rfl, hown2, hnx2⟩; refine Hid.out ?_)
  refine Lib.hid ?_
  go_wp2
  first | go_ret | go_ret2
  exact ⟨v2, rfl, hown2, hnx2⟩
set_option maxRecDepth 100000 in
theorem zRy (i : Int) (h0 : -9223372036854775808 ≤ i) (h1 : i ≤ 9223372036854775807) (hl : xs.length = n) (hc : ∀ j v, xs[j]? = some v → w.cell? ⟨g, j, none⟩ = some v) (hlim : n + 21 ≤ 140737488355328) (htab : Lib.TabIs Tryz.prog w "internal/strconv.uint64pow10" .u64 Lib.pow10Tab) :
  Calls Tryz.prog 257 #[.slice (some ⟨g, 0, none⟩) n n, .int .i64 i, .int .i64 10] w fun e w' => ∃ v', e = .returned v' ∧ w'.ownsRow w.heap.size 5 1 v' (n + (Lib.itoa i).length) (xs ++ Lib.byteCells (Lib.itoa i)) ∧ RowKit.Below w.heap.size w w' := by
 go_enter Tryz.func257, Tryz.ntmps257
 go_wp2_with (go_at_call 260; go_loud (refine (zRx g n xs w i h0 h1 hl hc hlim htab).mono ?_); rintro e w2 ⟨v2, rfl, hown2, hnx2⟩; refine Hid.out ?_)
 refine Lib.hid ?_
 go_wp2
 go_ret
 exact ⟨v2, rfl, hown2, hnx2⟩
end
end Go.Proofs.YtchpbdecipcelaaGreatDoor
