import Derived.Test.YtchpbdecipcelaaGreatDoorHO01
import Derived.Test.YtchpbdecipcelaaGreatDoorHO25
namespace Go.Proofs.YtchpbdecipcelaaGreatDoor
set_option linter.unusedVariables false
set_option linter.unusedSimpArgs false
set_option maxHeartbeats 4000000
set_option maxRecDepth 100000
namespace Vd
def choose {α : Type} : List α → Nat → List (List α)
 | _, 0 => [[]]
 | [], _ + 1 => []
 | x :: l, n + 1 => (choose l n).map (x :: ·) ++ choose l (n + 1)
theorem choose_mem {α : Type} : ∀ (l : List α) (n : Nat) (s : List α), s ∈ choose l n ↔ s.Sublist l ∧ s.length = n
 | l, 0, s => by
  cases l <;> simp only [choose, yK4] <;> exact ⟨fun h => by subst h; exact ⟨List.nil_sublist _, rfl⟩, fun h => yM7.1 h.2⟩
 | [], n + 1, s => by
  simp only [choose, yKj, false_iff]
  rintro ⟨h1, h2⟩
  rw [List.sublist_nil.1 h1] at h2
  cases h2
 | x :: l, n + 1, s => by
  simp only [choose, yK6, yKb, choose_mem l]
  constructor
  ·rintro (⟨t, ⟨h1, h2⟩, rfl⟩ | ⟨h1, h2⟩)
   ·exact ⟨h1.cons_cons _, by simp [h2]⟩
   ·exact ⟨h1.cons _, h2⟩
  ·rintro ⟨h1, h2⟩
   cases h1 with
   | cons _ h => exact .inr ⟨h, h2⟩
   | cons_cons _ h => exact .inl ⟨_, ⟨h, by simpa using h2⟩, rfl⟩
def zUx {α : Type} (L : List α) (most : Nat) : List (List α) := (List.range (most + 1)).flatMap (choose L)
theorem zN0 {α : Type} {L : List α} {most : Nat} {s : List α} : s ∈ zUx L most ↔ s.Sublist L ∧ s.length ≤ most := by
 simp only [zUx, yM9, yL1, choose_mem]
 exact ⟨fun ⟨k, h1, h2, h3⟩ => ⟨h2, by omega⟩, fun ⟨h1, h2⟩ => ⟨s.length, by omega, h1, rfl⟩⟩
theorem zUw {α : Type} (L : List α) (most : Nat) : (zUx L most).Pairwise fun a b => a.length ≤ b.length := by
 unfold zUx
 induction most + 1 with
 | zero => simp
 | succ n ih =>
  rw [yLc, yLd]
  refine List.pairwise_append.2 ⟨ih, ?_, fun a ha b hb => ?_⟩
  ·simp only [yL7, yMh, yKe]
   refine List.Pairwise.imp_of_mem (R := fun _ _ => True) (fun {a b} ha hb _ => ?_) (List.pairwise_of_forall (fun _ _ => trivial))
   rw [((choose_mem _ _ _).1 ha).2, ((choose_mem _ _ _).1 hb).2]
   exact yIn _
  ·simp only [yL7, yMh, yKe] at hb
   rw [((choose_mem _ _ _).1 hb).2]
   obtain ⟨k, hk, hm⟩ := yM9.1 ha
   rw [((choose_mem _ _ _).1 hm).2]
   have := yL1.1 hk
   omega
section
variable {α : Type} [DecidableEq α]
def part (a b : List α) : Bool := a.all fun x => decide (x ∈ b)
theorem part_iff {a b : List α} : part a b = true ↔ ∀ x ∈ a, x ∈ b := by simp [part]
def stepS (ok : List α → Bool) (out : List (List α)) (s : List α) : List (List α) := if ok s && !(out.any fun t => part t s) then out ++ [s] else out
def pick (ok : List α → Bool) (X : List (List α)) (out : List (List α)) : List (List α) := X.foldl (stepS ok) out
theorem zF3 (ok : List α → Bool) (X : List (List α)) (s : List α) (out : List (List α)) : pick ok (X ++ [s]) out = stepS ok (pick ok X out) s := by simp [pick]
theorem pick_app (ok : List α → Bool) (X Y : List (List α)) (out : List (List α)) : pick ok (X ++ Y) out = pick ok Y (pick ok X out) := by simp [pick]
theorem rev_rec {β : Type} {P : List β → Prop} (h0 : P []) (h1 : ∀ l x, P l → P (l ++ [x])) (l : List β) : P l := by
 have : ∀ r : List β, P r.reverse := by
  intro r
  induction r with
  | nil => exact h0
  | cons x r ih => rw [List.reverse_cons]; exact h1 _ _ ih
 have h := this l.reverse
 rwa [List.reverse_reverse] at h
theorem zHy (ok : List α → Bool) (X : List (List α)) : (pick ok X []).Sublist X ∧ ∀ s ∈ pick ok X [], ok s = true := by
 induction X using rev_rec with
 | h0 => exact ⟨List.Sublist.refl _, fun s hs => by cases hs⟩
 | h1 X s ih =>
  rw [zF3]
  unfold stepS
  split
  ·rename_i h
   refine ⟨ih.1.append (List.Sublist.refl _), fun t ht => ?_⟩
   rcases yK6.1 ht with ht | ht
   ·exact ih.2 t ht
   ·rw [yK4.1 ht]
    simp only [yJl] at h
    exact h.1
  ·exact ⟨ih.1.trans (List.sublist_append_left _ _), ih.2⟩
theorem zLr (ok : List α → Bool) (X : List (List α)) : ∀ s ∈ X, ok s = true → ∃ t ∈ pick ok X [], part t s = true := by
 induction X using rev_rec with
 | h0 => exact fun s hs => by cases hs
 | h1 X r ih =>
  intro s hs hk
  rw [zF3]
  unfold stepS
  rcases yK6.1 hs with hs | hs
  ·obtain ⟨t, h1, h2⟩ := ih s hs hk
   split
   ·exact ⟨t, List.mem_append_left _ h1, h2⟩
   ·exact ⟨t, h1, h2⟩
  ·obtain rfl := yK4.1 hs
   split
   ·exact ⟨s, by simp, part_iff.2 fun x hx => hx⟩
   ·rename_i h
    rw [hk, Bool.true_and, yJn, yLj, yLa] at h
    exact h
theorem zPu (ok : List α → Bool) (X : List (List α)) : (pick ok X []).Pairwise fun a b => part a b = false := by
 induction X using rev_rec with
 | h0 => exact List.Pairwise.nil
 | h1 X r ih =>
  rw [zF3]
  unfold stepS
  split
  ·rename_i h
   rw [yJl, yJn, yL9] at h
   refine List.pairwise_append.2 ⟨ih, List.pairwise_singleton _ _, fun a ha b hb => ?_⟩
   rw [yK4.1 hb]
   simpa using h.2 a ha
  ·exact ih
theorem zGf {L s : List α} (h : s.Sublist L) (hn : L.Nodup) : s = L.filter fun x => decide (x ∈ s) := by
 induction h with
 | slnil => rfl
 | @cons s L a h ih =>
  obtain ⟨h1, h2⟩ := yK9.1 hn
  rw [List.filter_cons_of_neg (by simpa using fun hm => h1 (h.subset hm))]
  exact ih h2
 | @cons_cons s L a h ih =>
  obtain ⟨h1, h2⟩ := yK9.1 hn
  rw [List.filter_cons_of_pos (by simp)]
  congr 1
  refine (ih h2).trans (List.filter_congr fun x hx => ?_)
  have : x ≠ a := fun e => h1 (e ▸ hx)
  simp [this]
theorem zXt {L s t : List α} (hs : s.Sublist L) (ht : t.Sublist L) (hn : L.Nodup) (h : ∀ x, x ∈ s ↔ x ∈ t) : s = t := by
 rw [zGf hs hn, zGf ht hn]
 exact List.filter_congr fun x _ => by rw [decide_eq_decide]; exact h x
theorem nodup_len : ∀ {s t : List α}, s.Nodup → (∀ x ∈ s, x ∈ t) → s.length ≤ t.length
 | [], t, _, _ => yIl _
 | a :: s, t, hs, h => by
  obtain ⟨h1, h2⟩ := yK9.1 hs
  have ha := h a (by simp)
  have := nodup_len (s := s) (t := t.erase a) h2 fun x hx => (List.mem_erase_of_ne (fun e => h1 (by rw [← e]; exact hx))).2 (h x (by simp [hx]))
  rw [List.length_erase_of_mem ha] at this
  have hp : 0 < t.length := List.length_pos_of_mem ha
  simp only [yIz]
  omega
theorem zVi {s t : List α} (hs : s.Nodup) (h : ∀ x ∈ s, x ∈ t) (hl : t.length ≤ s.length) : ∀ x ∈ t, x ∈ s := by
 intro x hx
 refine yM5 fun hn => ?_
 have := nodup_len (s := x :: s) (t := t) (yK9.2 ⟨hn, hs⟩) fun y hy => by
  rcases yJb.1 hy with rfl | hy
  ·exact hx
  ·exact h y hy
 simp only [yIz] at this
 omega
def setsOf (ok : List α → Bool) (L : List α) (most : Nat) : List (List α) := pick ok (zUx L most) []
theorem setsOf_ok {ok : List α → Bool} {L : List α} {most : Nat} {s : List α} (h : s ∈ setsOf ok L most) : s.Sublist L ∧ s.length ≤ most ∧ ok s = true :=
 let h1 := zN0.1 ((zHy ok (zUx L most)).1.subset h)
 ⟨h1.1, h1.2, (zHy ok (zUx L most)).2 s h⟩
theorem zBz {ok : List α → Bool} {L : List α} {most : Nat} {s : List α} (h : s.Sublist L) (hl : s.length ≤ most) (hk : ok s = true) : ∃ t ∈ setsOf ok L most, part t s = true :=
 zLr ok _ s (zN0.2 ⟨h, hl⟩) hk
theorem zDh {ok : List α → Bool} {L : List α} (hn : L.Nodup) {most : Nat} : (setsOf ok L most).Pairwise fun a b => part a b = false ∧ part b a = false := by
 have h1 := zPu ok (zUx L most)
 have h2 := (zUw L most).sublist (zHy ok (zUx L most)).1
 refine (h1.and h2).imp_of_mem fun {a b} ha hb h => ⟨h.1, ?_⟩
 have sa := (setsOf_ok (ok := ok) ha).1
 have sb := (setsOf_ok (ok := ok) hb).1
 refine Bool.eq_false_iff.2 fun hp => ?_
 have hb := zVi (hn.sublist sb) (part_iff.1 hp) h.2
 rw [part_iff.2 hb] at h
 cases h.1
theorem zGj {ok : List α → Bool} {L : List α} (hn : L.Nodup) {most : Nat} {s t : List α} (h : s ∈ setsOf ok L most) (ht : t.Sublist L) (hk : ok t = true) (hp : part t s = true) : t = s := by
 obtain ⟨hs1, hs2, hs3⟩ := setsOf_ok h
 have hlen := nodup_len (hn.sublist ht) (part_iff.1 hp)
 obtain ⟨u, hu, hpu⟩ := zBz (ok := ok) (most := most) ht (by omega) hk
 have hus : part u s = true := part_iff.2 fun x hx => part_iff.1 hp x (part_iff.1 hpu x hx)
 have hap := zDh (ok := ok) hn (most := most)
 have : u = s := by
  refine yM5 fun hne => ?_
  obtain ⟨i, hi, rfl⟩ := yL8.1 hu
  obtain ⟨j, hj, rfl⟩ := yL8.1 h
  rcases Nat.lt_trichotomy i j with hlt | rfl | hlt
  ·have := (yL5.1 hap i j hi hj hlt).1
   rw [hus] at this; cases this
  ·exact hne rfl
  ·have := (yL5.1 hap j i hj hi hlt).2
   rw [hus] at this; cases this
 subst this
 exact zXt ht hs1 hn fun x => ⟨part_iff.1 hp x, part_iff.1 hpu x⟩
theorem zPg {ok : List α → Bool} {L : List α} (hn : L.Nodup) {most : Nat} {s : List α} : s ∈ setsOf ok L most ↔ (s.Sublist L ∧ s.length ≤ most ∧ ok s = true) ∧ ∀ t, t.Sublist L → ok t = true → part t s = true → t = s := by
 constructor
 ·exact fun h => ⟨setsOf_ok h, fun t h1 h2 h3 => zGj hn h h1 h2 h3⟩
 ·rintro ⟨⟨h1, h2, h3⟩, h4⟩
  obtain ⟨t, ht, hp⟩ := zBz (ok := ok) h1 h2 h3
  obtain ⟨h5, _, h6⟩ := setsOf_ok ht
  exact h4 t h5 h6 hp ▸ ht
theorem setsOf_nil {ok : List α → Bool} {L : List α} (hn : L.Nodup) {most : Nat} (h : ok [] = true) : setsOf ok L most = [[]] := by
 have h0 : [] ∈ setsOf ok L most := (zPg hn).2 ⟨⟨List.nil_sublist _, yIl _, h⟩, fun t ht hk hp => by
  cases t with
  | nil => rfl
  | cons a t => have := part_iff.1 hp a (by simp); cases this⟩
 have hap := zDh (ok := ok) hn (most := most)
 have hall : ∀ s ∈ setsOf ok L most, s = [] := fun s hs => (zGj hn hs (List.nil_sublist _) h (part_iff.2 fun x hx => by cases hx)).symm
 match hS : setsOf ok L most with
 | [] => rw [hS] at h0; cases h0
 | [a] => rw [hS] at hall; rw [hall a (by simp)]
 | a :: b :: r =>
  rw [hS] at hall hap
  have h1 := hall a (by simp)
  have h2 := hall b (by simp)
  have := ((yLg.1 hap).1 b (by simp)).1
  rw [h1, h2] at this
  cases this
def sureOf (S : List (List α)) : List α := (S.headD []).filter fun p => S.all fun s => decide (p ∈ s)
end
end Vd
namespace Vd
structure Ord {α : Type} (lt : α → α → Bool) : Prop where
 irr : ∀ x, lt x x = false
 trans : ∀ x y z, lt x y = true → lt y z = true → lt x z = true
 tri : ∀ x y, lt x y = false → lt y x = false → x = y
theorem sorted_nodup {α : Type} {lt : α → α → Bool} (ho : Ord lt) {l : List α} (h : l.Pairwise fun a b => lt a b = true) : l.Nodup :=
 h.imp fun {a b} h e => by rw [e, ho.irr] at h; cases h
theorem zGi {α : Type} {lt : α → α → Bool} (ho : Ord lt) : ∀ {a b : List α}, a.Pairwise (fun x y => lt x y = true) → b.Pairwise (fun x y => lt x y = true) → (∀ x, x ∈ a ↔ x ∈ b) → a = b
 | [], [], _, _, _ => rfl
 | [], y :: b, _, _, h => by have := (h y).2 (by simp); cases this
 | x :: a, [], _, _, h => by have := (h x).1 (by simp); cases this
 | x :: a, y :: b, ha, hb, h => by
  obtain ⟨a1, a2⟩ := yLg.1 ha
  obtain ⟨b1, b2⟩ := yLg.1 hb
  have hxy : x = y := by
   rcases yJb.1 ((h x).1 (by simp)) with e | hx
   ·exact e
   ·rcases yJb.1 ((h y).2 (by simp)) with e | hy
    ·exact e.symm
    ·have := ho.trans _ _ _ (b1 x hx) (a1 y hy)
     rw [ho.irr] at this; cases this
  subst hxy
  have hn1 := fun z hz => show z ≠ x from fun e => by have := a1 z hz; rw [e, ho.irr] at this; cases this
  have hn2 := fun z hz => show z ≠ x from fun e => by have := b1 z hz; rw [e, ho.irr] at this; cases this
  rw [zGi ho a2 b2 fun z => ⟨fun hz => ((yJb.1 ((h z).1 (by simp [hz]))).resolve_left (hn1 z hz)), fun hz => ((yJb.1 ((h z).2 (by simp [hz]))).resolve_left (hn2 z hz))⟩]
section
variable {α : Type} [DecidableEq α]
def ins (lt : α → α → Bool) : List α → α → List α
 | [], p => [p]
 | q :: r, p => if lt q p then q :: ins lt r p else if q = p then q :: r else p :: q :: r
def insAll (lt : α → α → Bool) (l : List α) : List α := l.foldl (ins lt) []
theorem zM5 (lt : α → α → Bool) (p : α) : ∀ (l : List α) (x : α), x ∈ ins lt l p ↔ x = p ∨ x ∈ l
 | [], x => by simp [ins]
 | q :: r, x => by
  unfold ins
  split
  ·simp only [yJb, zM5 lt p r]
   exact ⟨fun h => h.elim (fun h => .inr (.inl h)) fun h => h.elim .inl fun h => .inr (.inr h), fun h => h.elim (fun h => .inr (.inl h)) fun h => h.elim .inl fun h => .inr (.inr h)⟩
  ·split
   ·rename_i h
    subst h
    simp
   ·simp
theorem zGz {lt : α → α → Bool} (ho : Ord lt) (p : α) : ∀ (l : List α), l.Pairwise (fun a b => lt a b = true) → (ins lt l p).Pairwise fun a b => lt a b = true
 | [], _ => List.pairwise_singleton _ _
 | q :: r, h => by
  obtain ⟨h1, h2⟩ := yLg.1 h
  unfold ins
  split
  ·rename_i hlt
   refine yLg.2 ⟨fun x hx => ?_, zGz ho p r h2⟩
   rcases (zM5 lt p r x).1 hx with rfl | hx
   ·exact hlt
   ·exact h1 x hx
  ·rename_i hlt
   split
   ·exact h
   ·rename_i hne
    have hpq : lt p q = true := by
     cases hp : lt p q with
     | true => rfl
     | false => exact absurd (ho.tri q p (by simpa using hlt) hp) hne
    refine yLg.2 ⟨fun x hx => ?_, h⟩
    rcases yJb.1 hx with rfl | hx
    ·exact hpq
    ·exact ho.trans _ _ _ hpq (h1 x hx)
theorem zK4 {lt : α → α → Bool} (ho : Ord lt) : ∀ (l out : List α), out.Pairwise (fun a b => lt a b = true) → ((l.foldl (ins lt) out).Pairwise fun a b => lt a b = true) ∧ ∀ x, x ∈ l.foldl (ins lt) out ↔ x ∈ out ∨ x ∈ l
 | [], out, h => ⟨h, fun x => by simp⟩
 | p :: l, out, h => by
  obtain ⟨h1, h2⟩ := zK4 ho l (ins lt out p) (zGz ho p out h)
  refine ⟨h1, fun x => ?_⟩
  rw [yJ1, h2, zM5, yJb]
  exact ⟨fun h => h.elim (fun h => h.elim (fun h => .inr (.inl h)) .inl) fun h => .inr (.inr h), fun h => h.elim (fun h => .inl (.inr h)) fun h => h.elim (fun h => .inl (.inl h)) .inr⟩
theorem insAll_ok {lt : α → α → Bool} (ho : Ord lt) (l : List α) : ((insAll lt l).Pairwise fun a b => lt a b = true) ∧ ∀ x, x ∈ insAll lt l ↔ x ∈ l := by
 obtain ⟨h1, h2⟩ := zK4 ho l [] List.Pairwise.nil
 exact ⟨h1, fun x => by rw [insAll, h2]; simp⟩
def compact : List α → List α
 | [] => []
 | [x] => [x]
 | x :: y :: r => if x = y then compact (y :: r) else x :: compact (y :: r)
theorem jO : ∀ (l : List α) (x : α), x ∈ compact l ↔ x ∈ l
 | [], x => by simp [compact]
 | [y], x => by simp [compact]
 | y :: z :: r, x => by
  unfold compact
  split
  ·rename_i h
   subst h
   rw [jO]
   simp
  ·rw [yJb, jO]
   simp only [yJb]
theorem qX {lt : α → α → Bool} (ho : Ord lt) : ∀ (l : List α), l.Pairwise (fun a b => lt b a = false) → (compact l).Pairwise fun a b => lt a b = true
 | [], _ => List.Pairwise.nil
 | [y], _ => List.pairwise_singleton _ _
 | y :: z :: r, h => by
  obtain ⟨h1, h2⟩ := yLg.1 h
  unfold compact
  split
  ·exact qX ho _ h2
  ·rename_i hne
   refine yLg.2 ⟨fun x hx => ?_, qX ho _ h2⟩
   have hyz : lt y z = true := by
    cases hp : lt y z with
    | true => rfl
    | false => exact absurd (ho.tri y z hp (h1 z (by simp))) hne
   rw [jO] at hx
   rcases yJb.1 hx with rfl | hx
   ·exact hyz
   ·have h3 := (yLg.1 h2).1 x hx
    cases hzx : lt z x with
    | true => exact ho.trans _ _ _ hyz hzx
    | false => rw [← ho.tri z x hzx h3]; exact hyz
theorem compact_eq {lt : α → α → Bool} (ho : Ord lt) {l s : List α} (hs : s.Pairwise fun a b => lt b a = false) (hm : ∀ x, x ∈ s ↔ x ∈ l) : compact s = insAll lt l :=
 zGi ho (qX ho s hs) (insAll_ok ho l).1 fun x => by rw [jO, hm, (insAll_ok ho l).2]
end
end Vd
end Go.Proofs.YtchpbdecipcelaaGreatDoor
