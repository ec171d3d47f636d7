import Derived.Test.YtchpbdecipcelaaGreatDoorSM26
namespace Go.Proofs.YtchpbdecipcelaaGreatDoor
set_option linter.unusedVariables false
set_option linter.unusedSimpArgs false
set_option maxHeartbeats 4000000
set_option maxRecDepth 100000
namespace Vd
def choose {α : Type} : List α → Nat → List (List α)
  | _, 0 => [[]]
  | [], _ + 1 => []
  | x :: l, n + 1 => (choose l n).map (x :: ·) ++ choose l (n + 1)
theorem choose_mem {α : Type} : ∀ (l : List α) (n : Nat) (s : List α), s ∈ choose l n ↔ s.Sublist l ∧ s.length = n
  | l, 0, s => by
    cases l <;> simp only [choose, List.mem_singleton] <;> exact ⟨fun h => by subst h; exact ⟨List.nil_sublist _, rfl⟩, fun h => List.length_eq_zero_iff.1 h.2⟩
  | [], n + 1, s => by
    simp only [choose, List.not_mem_nil, false_iff]
    rintro ⟨h1, h2⟩
    rw [List.sublist_nil.1 h1] at h2
    cases h2
  | x :: l, n + 1, s => by
    simp only [choose, List.mem_append, List.mem_map, choose_mem l]
    constructor
    · rintro (⟨t, ⟨h1, h2⟩, rfl⟩ | ⟨h1, h2⟩)
      · exact ⟨h1.cons_cons _, by simp [h2]⟩
      · exact ⟨h1.cons _, h2⟩
    · rintro ⟨h1, h2⟩
      cases h1 with
      | cons _ h => exact .inr ⟨h, h2⟩
      | cons_cons _ h => exact .inl ⟨_, ⟨h, by simpa using h2⟩, rfl⟩
def upto {α : Type} (L : List α) (most : Nat) : List (List α) := (List.range (most + 1)).flatMap (choose L)
theorem upto_mem {α : Type} {L : List α} {most : Nat} {s : List α} : s ∈ upto L most ↔ s.Sublist L ∧ s.length ≤ most := by
  simp only [upto, List.mem_flatMap, List.mem_range, choose_mem]
  exact ⟨fun ⟨k, h1, h2, h3⟩ => ⟨h2, by omega⟩, fun ⟨h1, h2⟩ => ⟨s.length, by omega, h1, rfl⟩⟩
theorem upto_len {α : Type} (L : List α) (most : Nat) : (upto L most).Pairwise fun a b => a.length ≤ b.length := by
  unfold upto
  induction most + 1 with
  | zero => simp
  | succ n ih =>
    rw [List.range_succ, List.flatMap_append]
    refine List.pairwise_append.2 ⟨ih, ?_, fun a ha b hb => ?_⟩
    · simp only [List.flatMap_cons, List.flatMap_nil, List.append_nil]
      refine List.Pairwise.imp_of_mem (R := fun _ _ => True) (fun {a b} ha hb _ => ?_) (List.pairwise_of_forall (fun _ _ => trivial))
      rw [((choose_mem _ _ _).1 ha).2, ((choose_mem _ _ _).1 hb).2]
      exact Nat.le_refl _
    · simp only [List.flatMap_cons, List.flatMap_nil, List.append_nil] at hb
      rw [((choose_mem _ _ _).1 hb).2]
      obtain ⟨k, hk, hm⟩ := List.mem_flatMap.1 ha
      rw [((choose_mem _ _ _).1 hm).2]
      have := List.mem_range.1 hk
      omega
section
variable {α : Type} [DecidableEq α]
def part (a b : List α) : Bool := a.all fun x => decide (x ∈ b)
theorem part_iff {a b : List α} : part a b = true ↔ ∀ x ∈ a, x ∈ b := by simp [part]
def stepS (ok : List α → Bool) (out : List (List α)) (s : List α) : List (List α) := if ok s && !(out.any fun t => part t s) then out ++ [s] else out
def pick (ok : List α → Bool) (X : List (List α)) (out : List (List α)) : List (List α) := X.foldl (stepS ok) out
theorem pick_snoc (ok : List α → Bool) (X : List (List α)) (s : List α) (out : List (List α)) : pick ok (X ++ [s]) out = stepS ok (pick ok X out) s := by simp [pick]
theorem pick_app (ok : List α → Bool) (X Y : List (List α)) (out : List (List α)) : pick ok (X ++ Y) out = pick ok Y (pick ok X out) := by simp [pick]
theorem rev_rec {β : Type} {P : List β → Prop} (h0 : P []) (h1 : ∀ l x, P l → P (l ++ [x])) (l : List β) : P l := by
  have : ∀ r : List β, P r.reverse := by
    intro r
    induction r with
    | nil => exact h0
    | cons x r ih => rw [List.reverse_cons]; exact h1 _ _ ih
  have h := this l.reverse
  rwa [List.reverse_reverse] at h
theorem pick_sub (ok : List α → Bool) (X : List (List α)) : (pick ok X []).Sublist X ∧ ∀ s ∈ pick ok X [], ok s = true := by
  induction X using rev_rec with
  | h0 => exact ⟨List.Sublist.refl _, fun s hs => by cases hs⟩
  | h1 X s ih =>
    rw [pick_snoc]
    unfold stepS
    split
    · rename_i h
      refine ⟨ih.1.append (List.Sublist.refl _), fun t ht => ?_⟩
      rcases List.mem_append.1 ht with ht | ht
      · exact ih.2 t ht
      · rw [List.mem_singleton.1 ht]
        simp only [Bool.and_eq_true] at h
        exact h.1
    · exact ⟨ih.1.trans (List.sublist_append_left _ _), ih.2⟩
theorem pick_covers (ok : List α → Bool) (X : List (List α)) : ∀ s ∈ X, ok s = true → ∃ t ∈ pick ok X [], part t s = true := by
  induction X using rev_rec with
  | h0 => exact fun s hs => by cases hs
  | h1 X r ih =>
    intro s hs hk
    rw [pick_snoc]
    unfold stepS
    rcases List.mem_append.1 hs with hs | hs
    · obtain ⟨t, h1, h2⟩ := ih s hs hk
      split
      · exact ⟨t, List.mem_append_left _ h1, h2⟩
      · exact ⟨t, h1, h2⟩
    · obtain rfl := List.mem_singleton.1 hs
      split
      · exact ⟨s, by simp, part_iff.2 fun x hx => hx⟩
      · rename_i h
        rw [hk, Bool.true_and, Bool.not_eq_true', Bool.not_eq_false, List.any_eq_true] at h
        exact h
theorem pick_first (ok : List α → Bool) (X : List (List α)) : (pick ok X []).Pairwise fun a b => part a b = false := by
  induction X using rev_rec with
  | h0 => exact List.Pairwise.nil
  | h1 X r ih =>
    rw [pick_snoc]
    unfold stepS
    split
    · rename_i h
      rw [Bool.and_eq_true, Bool.not_eq_true', List.any_eq_false] at h
      refine List.pairwise_append.2 ⟨ih, List.pairwise_singleton _ _, fun a ha b hb => ?_⟩
      rw [List.mem_singleton.1 hb]
      simpa using h.2 a ha
    · exact ih
theorem sub_filter {L s : List α} (h : s.Sublist L) (hn : L.Nodup) : s = L.filter fun x => decide (x ∈ s) := by
  induction h with
  | slnil => rfl
  | @cons s L a h ih =>
    obtain ⟨h1, h2⟩ := List.nodup_cons.1 hn
    rw [List.filter_cons_of_neg (by simpa using fun hm => h1 (h.subset hm))]
    exact ih h2
  | @cons_cons s L a h ih =>
    obtain ⟨h1, h2⟩ := List.nodup_cons.1 hn
    rw [List.filter_cons_of_pos (by simp)]
    congr 1
    refine (ih h2).trans (List.filter_congr fun x hx => ?_)
    have : x ≠ a := fun e => h1 (e ▸ hx)
    simp [this]
theorem sub_ext {L s t : List α} (hs : s.Sublist L) (ht : t.Sublist L) (hn : L.Nodup) (h : ∀ x, x ∈ s ↔ x ∈ t) : s = t := by
  rw [sub_filter hs hn, sub_filter ht hn]
  exact List.filter_congr fun x _ => by rw [decide_eq_decide]; exact h x
theorem nodup_len : ∀ {s t : List α}, s.Nodup → (∀ x ∈ s, x ∈ t) → s.length ≤ t.length
  | [], t, _, _ => Nat.zero_le _
  | a :: s, t, hs, h => by
    obtain ⟨h1, h2⟩ := List.nodup_cons.1 hs
    have ha := h a (by simp)
    have := nodup_len (s := s) (t := t.erase a) h2 fun x hx => (List.mem_erase_of_ne (fun e => h1 (by rw [← e]; exact hx))).2 (h x (by simp [hx]))
    rw [List.length_erase_of_mem ha] at this
    have hp : 0 < t.length := List.length_pos_of_mem ha
    simp only [List.length_cons]
    omega
theorem nodup_eq {s t : List α} (hs : s.Nodup) (h : ∀ x ∈ s, x ∈ t) (hl : t.length ≤ s.length) : ∀ x ∈ t, x ∈ s := by
  intro x hx
  refine Classical.byContradiction fun hn => ?_
  have := nodup_len (s := x :: s) (t := t) (List.nodup_cons.2 ⟨hn, hs⟩) fun y hy => by
    rcases List.mem_cons.1 hy with rfl | hy
    · exact hx
    · exact h y hy
  simp only [List.length_cons] at this
  omega
def setsOf (ok : List α → Bool) (L : List α) (most : Nat) : List (List α) := pick ok (upto L most) []
theorem setsOf_ok {ok : List α → Bool} {L : List α} {most : Nat} {s : List α} (h : s ∈ setsOf ok L most) : s.Sublist L ∧ s.length ≤ most ∧ ok s = true :=
  let h1 := upto_mem.1 ((pick_sub ok (upto L most)).1.subset h)
  ⟨h1.1, h1.2, (pick_sub ok (upto L most)).2 s h⟩
theorem setsOf_covers {ok : List α → Bool} {L : List α} {most : Nat} {s : List α} (h : s.Sublist L) (hl : s.length ≤ most) (hk : ok s = true) : ∃ t ∈ setsOf ok L most, part t s = true :=
  pick_covers ok _ s (upto_mem.2 ⟨h, hl⟩) hk
theorem setsOf_apart {ok : List α → Bool} {L : List α} (hn : L.Nodup) {most : Nat} : (setsOf ok L most).Pairwise fun a b => part a b = false ∧ part b a = false := by
  have h1 := pick_first ok (upto L most)
  have h2 := (upto_len L most).sublist (pick_sub ok (upto L most)).1
  refine (h1.and h2).imp_of_mem fun {a b} ha hb h => ⟨h.1, ?_⟩
  have sa := (setsOf_ok (ok := ok) ha).1
  have sb := (setsOf_ok (ok := ok) hb).1
  refine Bool.eq_false_iff.2 fun hp => ?_
  have hb := nodup_eq (hn.sublist sb) (part_iff.1 hp) h.2
  rw [part_iff.2 hb] at h
  cases h.1
theorem setsOf_min {ok : List α → Bool} {L : List α} (hn : L.Nodup) {most : Nat} {s t : List α} (h : s ∈ setsOf ok L most) (ht : t.Sublist L) (hk : ok t = true) (hp : part t s = true) : t = s := by
  obtain ⟨hs1, hs2, hs3⟩ := setsOf_ok h
  have hlen := nodup_len (hn.sublist ht) (part_iff.1 hp)
  obtain ⟨u, hu, hpu⟩ := setsOf_covers (ok := ok) (most := most) ht (by omega) hk
  have hus : part u s = true := part_iff.2 fun x hx => part_iff.1 hp x (part_iff.1 hpu x hx)
  have hap := setsOf_apart (ok := ok) hn (most := most)
  have : u = s := by
    refine Classical.byContradiction fun hne => ?_
    obtain ⟨i, hi, rfl⟩ := List.mem_iff_getElem.1 hu
    obtain ⟨j, hj, rfl⟩ := List.mem_iff_getElem.1 h
    rcases Nat.lt_trichotomy i j with hlt | rfl | hlt
    · have := (List.pairwise_iff_getElem.1 hap i j hi hj hlt).1
      rw [hus] at this; cases this
    · exact hne rfl
    · have := (List.pairwise_iff_getElem.1 hap j i hj hi hlt).2
      rw [hus] at this; cases this
  subst this
  exact sub_ext ht hs1 hn fun x => ⟨part_iff.1 hp x, part_iff.1 hpu x⟩
def sureOf (S : List (List α)) : List α := (S.headD []).filter fun p => S.all fun s => decide (p ∈ s)
end
end Vd
end Go.Proofs.YtchpbdecipcelaaGreatDoor
namespace Go.Proofs.YtchpbdecipcelaaGreatDoor
set_option linter.unusedVariables false
set_option linter.unusedSimpArgs false
set_option maxHeartbeats 4000000
set_option maxRecDepth 100000
namespace Vd
structure Ord {α : Type} (lt : α → α → Bool) : Prop where
  irr : ∀ x, lt x x = false
  trans : ∀ x y z, lt x y = true → lt y z = true → lt x z = true
  tri : ∀ x y, lt x y = false → lt y x = false → x = y
theorem sorted_nodup {α : Type} {lt : α → α → Bool} (ho : Ord lt) {l : List α} (h : l.Pairwise fun a b => lt a b = true) : l.Nodup :=
  h.imp fun {a b} h e => by rw [e, ho.irr] at h; cases h
theorem sorted_ext {α : Type} {lt : α → α → Bool} (ho : Ord lt) : ∀ {a b : List α}, a.Pairwise (fun x y => lt x y = true) → b.Pairwise (fun x y => lt x y = true) → (∀ x, x ∈ a ↔ x ∈ b) → a = b
  | [], [], _, _, _ => rfl
  | [], y :: b, _, _, h => by have := (h y).2 (by simp); cases this
  | x :: a, [], _, _, h => by have := (h x).1 (by simp); cases this
  | x :: a, y :: b, ha, hb, h => by
    obtain ⟨a1, a2⟩ := List.pairwise_cons.1 ha
    obtain ⟨b1, b2⟩ := List.pairwise_cons.1 hb
    have hxy : x = y := by
      rcases List.mem_cons.1 ((h x).1 (by simp)) with e | hx
      · exact e
      · rcases List.mem_cons.1 ((h y).2 (by simp)) with e | hy
        · exact e.symm
        · have := ho.trans _ _ _ (b1 x hx) (a1 y hy)
          rw [ho.irr] at this; cases this
    subst hxy
    have hn1 := fun z hz => show z ≠ x from fun e => by have := a1 z hz; rw [e, ho.irr] at this; cases this
    have hn2 := fun z hz => show z ≠ x from fun e => by have := b1 z hz; rw [e, ho.irr] at this; cases this
    rw [sorted_ext ho a2 b2 fun z => ⟨fun hz => ((List.mem_cons.1 ((h z).1 (by simp [hz]))).resolve_left (hn1 z hz)), fun hz => ((List.mem_cons.1 ((h z).2 (by simp [hz]))).resolve_left (hn2 z hz))⟩]
section
variable {α : Type} [DecidableEq α]
def ins (lt : α → α → Bool) : List α → α → List α
  | [], p => [p]
  | q :: r, p => if lt q p then q :: ins lt r p else if q = p then q :: r else p :: q :: r
def insAll (lt : α → α → Bool) (l : List α) : List α := l.foldl (ins lt) []
theorem ins_mem (lt : α → α → Bool) (p : α) : ∀ (l : List α) (x : α), x ∈ ins lt l p ↔ x = p ∨ x ∈ l
  | [], x => by simp [ins]
  | q :: r, x => by
    unfold ins
    split
    · simp only [List.mem_cons, ins_mem lt p r]
      exact ⟨fun h => h.elim (fun h => .inr (.inl h)) fun h => h.elim .inl fun h => .inr (.inr h), fun h => h.elim (fun h => .inr (.inl h)) fun h => h.elim .inl fun h => .inr (.inr h)⟩
    · split
      · rename_i h
        subst h
        simp
      · simp
theorem ins_sorted {lt : α → α → Bool} (ho : Ord lt) (p : α) : ∀ (l : List α), l.Pairwise (fun a b => lt a b = true) → (ins lt l p).Pairwise fun a b => lt a b = true
  | [], _ => List.pairwise_singleton _ _
  | q :: r, h => by
    obtain ⟨h1, h2⟩ := List.pairwise_cons.1 h
    unfold ins
    split
    · rename_i hlt
      refine List.pairwise_cons.2 ⟨fun x hx => ?_, ins_sorted ho p r h2⟩
      rcases (ins_mem lt p r x).1 hx with rfl | hx
      · exact hlt
      · exact h1 x hx
    · rename_i hlt
      split
      · exact h
      · rename_i hne
        have hpq : lt p q = true := by
          cases hp : lt p q with
          | true => rfl
          | false => exact absurd (ho.tri q p (by simpa using hlt) hp) hne
        refine List.pairwise_cons.2 ⟨fun x hx => ?_, h⟩
        rcases List.mem_cons.1 hx with rfl | hx
        · exact hpq
        · exact ho.trans _ _ _ hpq (h1 x hx)
theorem foldl_ins {lt : α → α → Bool} (ho : Ord lt) : ∀ (l out : List α), out.Pairwise (fun a b => lt a b = true) → ((l.foldl (ins lt) out).Pairwise fun a b => lt a b = true) ∧ ∀ x, x ∈ l.foldl (ins lt) out ↔ x ∈ out ∨ x ∈ l
  | [], out, h => ⟨h, fun x => by simp⟩
  | p :: l, out, h => by
    obtain ⟨h1, h2⟩ := foldl_ins ho l (ins lt out p) (ins_sorted ho p out h)
    refine ⟨h1, fun x => ?_⟩
    rw [List.foldl_cons, h2, ins_mem, List.mem_cons]
    exact ⟨fun h => h.elim (fun h => h.elim (fun h => .inr (.inl h)) .inl) fun h => .inr (.inr h), fun h => h.elim (fun h => .inl (.inr h)) fun h => h.elim (fun h => .inl (.inl h)) .inr⟩
theorem insAll_ok {lt : α → α → Bool} (ho : Ord lt) (l : List α) : ((insAll lt l).Pairwise fun a b => lt a b = true) ∧ ∀ x, x ∈ insAll lt l ↔ x ∈ l := by
  obtain ⟨h1, h2⟩ := foldl_ins ho l [] List.Pairwise.nil
  exact ⟨h1, fun x => by rw [insAll, h2]; simp⟩
def compact : List α → List α
  | [] => []
  | [x] => [x]
  | x :: y :: r => if x = y then compact (y :: r) else x :: compact (y :: r)
theorem compact_mem : ∀ (l : List α) (x : α), x ∈ compact l ↔ x ∈ l
  | [], x => by simp [compact]
  | [y], x => by simp [compact]
  | y :: z :: r, x => by
    unfold compact
    split
    · rename_i h
      subst h
      rw [compact_mem]
      simp
    · rw [List.mem_cons, compact_mem]
      simp only [List.mem_cons]
theorem compact_sorted {lt : α → α → Bool} (ho : Ord lt) : ∀ (l : List α), l.Pairwise (fun a b => lt b a = false) → (compact l).Pairwise fun a b => lt a b = true
  | [], _ => List.Pairwise.nil
  | [y], _ => List.pairwise_singleton _ _
  | y :: z :: r, h => by
    obtain ⟨h1, h2⟩ := List.pairwise_cons.1 h
    unfold compact
    split
    · exact compact_sorted ho _ h2
    · rename_i hne
      refine List.pairwise_cons.2 ⟨fun x hx => ?_, compact_sorted ho _ h2⟩
      have hyz : lt y z = true := by
        cases hp : lt y z with
        | true => rfl
        | false => exact absurd (ho.tri y z hp (h1 z (by simp))) hne
      rw [compact_mem] at hx
      rcases List.mem_cons.1 hx with rfl | hx
      · exact hyz
      · have h3 := (List.pairwise_cons.1 h2).1 x hx
        cases hzx : lt z x with
        | true => exact ho.trans _ _ _ hyz hzx
        | false => rw [← ho.tri z x hzx h3]; exact hyz
theorem compact_eq {lt : α → α → Bool} (ho : Ord lt) {l s : List α} (hs : s.Pairwise fun a b => lt b a = false) (hm : ∀ x, x ∈ s ↔ x ∈ l) : compact s = insAll lt l :=
  sorted_ext ho (compact_sorted ho s hs) (insAll_ok ho l).1 fun x => by rw [compact_mem, hm, (insAll_ok ho l).2]
end
end Vd
end Go.Proofs.YtchpbdecipcelaaGreatDoor
