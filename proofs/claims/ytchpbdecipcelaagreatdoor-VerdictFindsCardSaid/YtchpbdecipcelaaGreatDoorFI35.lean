import Derived.Test.YtchpbdecipcelaaGreatDoorFI26
import Derived.Test.YtchpbdecipcelaaGreatDoorFI34
namespace Go.Proofs.YtchpbdecipcelaaGreatDoor
set_option linter.unusedVariables false
set_option linter.unusedSimpArgs false
set_option maxHeartbeats 4000000
set_option maxRecDepth 100000
open Go.RowKit
theorem orE_A (a b : Int) : FnA Tryz.prog 32 [lA 1 iC [a, b]] (.raw (.int .i64 (if a = 0 then b else a))) := by
  refine fnA_of tblOk Tryz.func32 rfl (by kernel_rfl) 18 Tryz.ntmps32 lenT [.tmp 2] rfl ?_
  simp only [entrySt, argSl, Nat.zero_add, Nat.reduceAdd]
  try refine wkG trivial ?_
  try (refine Stop.mk ?_; intro K hK)
  refine wpA_loop (fun k : Nat => ⟨18, 0, [(3, true, .raw (.int .i64 0)), (6, true, lA 1 iC [a, b]), (7, true, .raw (.int .i64 2)), (8, true, .raw (.int .i64 k))], [], [], ((0, []), [], true)⟩)
    (fun k => k ≤ 2 ∧ (0 < k → a = 0) ∧ (1 < k → b = 0)) (fun k => 2 - k) 0 ?_ ⟨by omega, fun h => by omega, fun h => by omega⟩ ?_
  · refine wkn ?_ ?_ ?_
    all_goals first | exact wk0 | refine wkS ?_ | skip
    all_goals (try trivial)
    all_goals ((repeat' apply And.intro) <;> first | exact wkL | skip)
  · rintro k ⟨hk, h1, h2⟩
    have hk : k = 0 ∨ k = 1 ∨ k = 2 := by omega
    rcases hk with rfl | rfl | rfl
    · repeat' first
        | refine wkG trivial ?_
        | (refine cndS ⟨_, evl, ⟨cb, cb⟩, fun hb => ?_, fun hb => ?_⟩ <;> try (cases hb; done))
        | (refine Stop.mk ?_; intro K hK)
        | fail
      · refine ret_of (by simp) ⟨_, _, _, evl, ob0, OutOk.eq ?_ ?_⟩
        · rw [if_neg (by simpa using hb)]; rfl
        · simp [AV.free]
      · refine ⟨1, ⟨by omega, fun _ => by simpa using hb, fun h => by omega⟩, by omega, ?_⟩
        refine wkn ?_ ?_ ?_
        all_goals first | exact wk0 | refine wkS ?_ | skip
        all_goals (try trivial)
        all_goals ((repeat' apply And.intro) <;> first | exact wkL | skip)
    · obtain rfl := h1 (by omega)
      repeat' first
        | refine wkG trivial ?_
        | (refine cndS ⟨_, evl, ⟨cb, cb⟩, fun hb => ?_, fun hb => ?_⟩ <;> try (cases hb; done))
        | (refine Stop.mk ?_; intro K hK)
        | fail
      · refine ret_of (by simp) ⟨_, _, _, evl, ob0, OutOk.eq ?_ ?_⟩
        · rfl
        · simp [AV.free]
      · refine ⟨2, ⟨by omega, fun _ => rfl, fun _ => by simpa using hb⟩, by omega, ?_⟩
        refine wkn ?_ ?_ ?_
        all_goals first | exact wk0 | refine wkS ?_ | skip
        all_goals (try trivial)
        all_goals ((repeat' apply And.intro) <;> first | exact wkL | skip)
    · obtain rfl := h1 (by omega)
      obtain rfl := h2 (by omega)
      repeat' first
        | refine wkG trivial ?_
        | (refine cndS ⟨_, evl, ⟨cb, cb⟩, fun hb => ?_, fun hb => ?_⟩ <;> try (cases hb; done))
        | (refine Stop.mk ?_; intro K hK)
        | fail
      refine ret_of (by simp) ⟨_, _, _, evl, ob0, OutOk.eq ?_ ?_⟩
      · rfl
      · simp [AV.free]
theorem ev_next {h : List (List AV)} {item : List AV} {pre es : List Event} (hp : pre <+: es) (e : h = pre.map itE) (hi : (h ++ [item]) <+: es.map itE) : ∃ c, item = itE c ∧ (pre ++ [c]) <+: es := by
  subst e
  obtain ⟨r, rfl⟩ := hp
  simp only [List.map_append] at hi
  cases r with
  | nil => exfalso; have := hi.length_le; simp at this; omega
  | cons c r =>
    rw [List.prefix_append_right_inj] at hi
    simp only [List.map_cons, List.cons_prefix_cons, List.nil_prefix, and_true] at hi
    exact ⟨c, hi, by simp⟩
theorem ev_all {pre es : List Event} (hp : pre <+: es) (he : es.map itE = pre.map itE) : pre = es := by
  have := congrArg List.length he
  simp at this
  exact hp.eq_of_length this.symm
def nE (es : List Event) : Int := es.foldl (fun _ e => e.at_ + 1 + 2 * (e.replies.length : Int)) 1
theorem nE_snoc (es : List Event) (e : Event) : nE (es ++ [e]) = e.at_ + 1 + 2 * (e.replies.length : Int) := by simp [nE]
def orC (a b : Int) : Int := if a = 0 then b else a
def wF (m : Matter) (w : Int) (rs : List Reply) : Int := rs.foldl (fun w r => orC w (checkM m r)) w
theorem wF_take (m : Matter) (w : Int) (rs : List Reply) {k : Nat} (hk : k < rs.length) : wF m w (rs.take (k + 1)) = orC (wF m w (rs.take k)) (checkM m (rs.getD k default)) := by
  rw [List.take_succ_eq_append_getElem hk, wF, List.foldl_append, getD_get hk]; rfl
def wE (m : Matter) (es : List Event) : Int := es.foldl (fun w e => wF m w e.replies) 0
theorem wE_snoc (m : Matter) (es : List Event) (e : Event) : wE m (es ++ [e]) = wF m (wE m es) e.replies := by simp [wE]
theorem evIn_n (i : Nat) (rs : List Round) (a : Int) (X : List Event) (hX : nE X = a) : ∀ j, nE (X ++ (evIn i rs a j).1) = (evIn i rs a j).2
  | 0 => by simpa [evIn] using hX
  | j + 1 => by
    simp only [evIn]
    rw [← List.append_assoc, nE_snoc]
    simp only
    omega
theorem evM_n (cs : List Chain) : ∀ k, nE (evM cs k).1 = (evM cs k).2
  | 0 => rfl
  | k + 1 => by
    simp only [evM]
    exact evIn_n _ _ _ _ (evM_n cs k) _
theorem evN_n (m : Matter) : nE (evL m) = evN m := evM_n _ _
theorem evIn_mem {i : Nat} {rs : List Round} {a : Int} {e : Event} : ∀ {j : Nat}, j ≤ rs.length → e ∈ (evIn i rs a j).1 → ∃ k, k < j ∧ e = ⟨i, k, (evIn i rs a k).2, (rs.getD k default).replies⟩
  | 0, _, h => by cases h
  | j + 1, hj, h => by
    simp only [evIn, List.mem_append, List.mem_singleton] at h
    rcases h with h | rfl
    · obtain ⟨k, hk, e⟩ := evIn_mem (by omega) h
      exact ⟨k, by omega, e⟩
    · exact ⟨j, by omega, rfl⟩
theorem evM_mem {cs : List Chain} {e : Event} : ∀ {n : Nat}, n ≤ cs.length → e ∈ (evM cs n).1 → ∃ i k, i < n ∧ k < (cs.getD i default).rounds.length ∧ e = ⟨i, k, (evIn i (cs.getD i default).rounds (evM cs i).2 k).2, ((cs.getD i default).rounds.getD k default).replies⟩
  | 0, _, h => by cases h
  | n + 1, hn, h => by
    simp only [evM, List.mem_append] at h
    rcases h with h | h
    · obtain ⟨i, k, h1, h2⟩ := evM_mem (by omega) h
      exact ⟨i, k, by omega, h2⟩
    · obtain ⟨k, hk, e⟩ := evIn_mem (Nat.le_refl _) h
      exact ⟨n, k, by omega, hk, e⟩
theorem evIn_mono (i : Nat) (rs : List Round) (a : Int) {j n : Nat} (h : j ≤ n) : (evIn i rs a j).2 ≤ (evIn i rs a n).2 := by
  obtain ⟨d, rfl⟩ := Nat.exists_eq_add_of_le h
  induction d with
  | zero => exact Int.le_refl _
  | succ d ih =>
    have := ih (by omega)
    show _ ≤ (evIn i rs a (j + d)).2 + (1 + 2 * ((rs.getD (j + d) default).replies.length : Int))
    omega
theorem evM_mono (cs : List Chain) {k n : Nat} (h : k ≤ n) : (evM cs k).2 ≤ (evM cs n).2 := by
  obtain ⟨d, rfl⟩ := Nat.exists_eq_add_of_le h
  induction d with
  | zero => exact Int.le_refl _
  | succ d ih =>
    have h1 := ih (by omega)
    have h2 := evIn_mono (k + d) (cs.getD (k + d) default).rounds (evM cs (k + d)).2 (Nat.zero_le (cs.getD (k + d) default).rounds.length)
    show _ ≤ (evIn (k + d) (cs.getD (k + d) default).rounds (evM cs (k + d)).2 (cs.getD (k + d) default).rounds.length).2
    simp only [evIn] at h2
    omega
theorem evIn_cnt (i : Nat) (rs : List Round) (a : Int) : ∀ j, ((evIn i rs a j).1.length : Int) + a ≤ (evIn i rs a j).2
  | 0 => by simp [evIn]
  | j + 1 => by
    have := evIn_cnt i rs a j
    simp only [evIn, List.length_append, List.length_cons, List.length_nil]
    omega
theorem evM_cnt (cs : List Chain) : ∀ k, ((evM cs k).1.length : Int) + 1 ≤ (evM cs k).2
  | 0 => by simp [evM]
  | k + 1 => by
    have h1 := evM_cnt cs k
    have h2 := evIn_cnt k (cs.getD k default).rounds (evM cs k).2 (cs.getD k default).rounds.length
    simp only [evM, List.length_append]
    omega
theorem ev_at {m : Matter} {e : Event} (h : e ∈ evL m) : 1 ≤ e.at_ ∧ e.at_ + 1 + 2 * (e.replies.length : Int) ≤ evN m := by
  obtain ⟨i, k, h1, h2, rfl⟩ := evM_mem (Nat.le_refl _) h
  have a1 := evM_mono m.evidence.chains (Nat.zero_le i)
  have a2 := evIn_mono i (m.evidence.chains.getD i default).rounds (evM m.evidence.chains i).2 (Nat.zero_le k)
  have a3 := evIn_mono i (m.evidence.chains.getD i default).rounds (evM m.evidence.chains i).2 (show k + 1 ≤ (m.evidence.chains.getD i default).rounds.length by omega)
  have a4 := evM_mono m.evidence.chains (show i + 1 ≤ m.evidence.chains.length by omega)
  simp only [evM, evIn] at a1 a2 a3 a4
  unfold evN
  simp only
  omega
theorem fits_reply {rs : List Reply} {host number head : Int} (h : fitsP ⟨rs⟩ host number head) : ∀ x ∈ rs, replyP x := by
  intro x hx
  obtain ⟨i, hi, rfl⟩ := List.mem_iff_getElem.1 hx
  have := (h i hi).2.1
  rwa [getD_get hi] at this
theorem event_ok {m : Matter} (h : formP m) (hn : evN m ≤ 1000) {e : Event} (he : e ∈ evL m) : EventOk m e := by
  have hat := ev_at he
  obtain ⟨_, _, _, _, _, hd, hc⟩ := h
  obtain ⟨i, k, h1, h2, rfl⟩ := evM_mem (Nat.le_refl _) he
  obtain ⟨_, ⟨hch, hcr, hcf⟩, ⟨d1, d2, d3, d4, d5, d6⟩⟩ := hc i h1
  have hfk := hcf k h2
  obtain ⟨g1, g2, g3⟩ := d6 k h2
  have hday : ∀ a rs, dayOf m ⟨i, k, a, rs⟩ = m.diaries.getD i default := fun _ _ => rfl
  refine ⟨⟨by simp only; omega, by simp only; omega⟩, by simp only; omega, ⟨by simp only; omega, by rw [hday]; simp only; omega, by rw [hday]; simp only; omega⟩, ?_, ?_, ?_, ?_, ?_, ?_⟩
  · rw [hday]; exact g2
  · rw [hday]
    intro j hj
    exact (d6 j (by omega)).1
  · rw [hday]
    intro u hu
    have := g3 u hu
    exact ⟨by have := g1.1; omega, this.2⟩
  · exact fits_reply hfk
  · simp only at hat ⊢; omega
  · simp only at hat ⊢; omega
end Go.Proofs.YtchpbdecipcelaaGreatDoor
namespace Go.Proofs.YtchpbdecipcelaaGreatDoor
set_option linter.unusedVariables false
set_option linter.unusedSimpArgs false
set_option maxHeartbeats 4000000
set_option maxRecDepth 100000
namespace Vd
def choose {α : Type} : List α → Nat → List (List α)
  | _, 0 => [[]]
  | [], _ + 1 => []
  | x :: l, n + 1 => (choose l n).map (x :: ·) ++ choose l (n + 1)
theorem choose_mem {α : Type} : ∀ (l : List α) (n : Nat) (s : List α), s ∈ choose l n ↔ s.Sublist l ∧ s.length = n
  | l, 0, s => by
    cases l <;> simp only [choose, List.mem_singleton] <;> exact ⟨fun h => by subst h; exact ⟨List.nil_sublist _, rfl⟩, fun h => List.length_eq_zero_iff.1 h.2⟩
  | [], n + 1, s => by
    simp only [choose, List.not_mem_nil, false_iff]
    rintro ⟨h1, h2⟩
    rw [List.sublist_nil.1 h1] at h2
    cases h2
  | x :: l, n + 1, s => by
    simp only [choose, List.mem_append, List.mem_map, choose_mem l]
    constructor
    · rintro (⟨t, ⟨h1, h2⟩, rfl⟩ | ⟨h1, h2⟩)
      · exact ⟨h1.cons_cons _, by simp [h2]⟩
      · exact ⟨h1.cons _, h2⟩
    · rintro ⟨h1, h2⟩
      cases h1 with
      | cons _ h => exact .inr ⟨h, h2⟩
      | cons_cons _ h => exact .inl ⟨_, ⟨h, by simpa using h2⟩, rfl⟩
def upto {α : Type} (L : List α) (most : Nat) : List (List α) := (List.range (most + 1)).flatMap (choose L)
theorem upto_mem {α : Type} {L : List α} {most : Nat} {s : List α} : s ∈ upto L most ↔ s.Sublist L ∧ s.length ≤ most := by
  simp only [upto, List.mem_flatMap, List.mem_range, choose_mem]
  exact ⟨fun ⟨k, h1, h2, h3⟩ => ⟨h2, by omega⟩, fun ⟨h1, h2⟩ => ⟨s.length, by omega, h1, rfl⟩⟩
section
variable {α : Type} [DecidableEq α]
def part (a b : List α) : Bool := a.all fun x => decide (x ∈ b)
theorem part_iff {a b : List α} : part a b = true ↔ ∀ x ∈ a, x ∈ b := by simp [part]
def stepS (ok : List α → Bool) (out : List (List α)) (s : List α) : List (List α) := if ok s && !(out.any fun t => part t s) then out ++ [s] else out
def pick (ok : List α → Bool) (X : List (List α)) (out : List (List α)) : List (List α) := X.foldl (stepS ok) out
theorem pick_snoc (ok : List α → Bool) (X : List (List α)) (s : List α) (out : List (List α)) : pick ok (X ++ [s]) out = stepS ok (pick ok X out) s := by simp [pick]
theorem pick_app (ok : List α → Bool) (X Y : List (List α)) (out : List (List α)) : pick ok (X ++ Y) out = pick ok Y (pick ok X out) := by simp [pick]
theorem rev_rec {β : Type} {P : List β → Prop} (h0 : P []) (h1 : ∀ l x, P l → P (l ++ [x])) (l : List β) : P l := by
  have : ∀ r : List β, P r.reverse := by
    intro r
    induction r with
    | nil => exact h0
    | cons x r ih => rw [List.reverse_cons]; exact h1 _ _ ih
  have h := this l.reverse
  rwa [List.reverse_reverse] at h
theorem pick_sub (ok : List α → Bool) (X : List (List α)) : (pick ok X []).Sublist X ∧ ∀ s ∈ pick ok X [], ok s = true := by
  induction X using rev_rec with
  | h0 => exact ⟨List.Sublist.refl _, fun s hs => by cases hs⟩
  | h1 X s ih =>
    rw [pick_snoc]
    unfold stepS
    split
    · rename_i h
      refine ⟨ih.1.append (List.Sublist.refl _), fun t ht => ?_⟩
      rcases List.mem_append.1 ht with ht | ht
      · exact ih.2 t ht
      · rw [List.mem_singleton.1 ht]
        simp only [Bool.and_eq_true] at h
        exact h.1
    · exact ⟨ih.1.trans (List.sublist_append_left _ _), ih.2⟩
theorem nodup_len : ∀ {s t : List α}, s.Nodup → (∀ x ∈ s, x ∈ t) → s.length ≤ t.length
  | [], t, _, _ => Nat.zero_le _
  | a :: s, t, hs, h => by
    obtain ⟨h1, h2⟩ := List.nodup_cons.1 hs
    have ha := h a (by simp)
    have := nodup_len (s := s) (t := t.erase a) h2 fun x hx => (List.mem_erase_of_ne (fun e => h1 (by rw [← e]; exact hx))).2 (h x (by simp [hx]))
    rw [List.length_erase_of_mem ha] at this
    have hp : 0 < t.length := List.length_pos_of_mem ha
    simp only [List.length_cons]
    omega
def setsOf (ok : List α → Bool) (L : List α) (most : Nat) : List (List α) := pick ok (upto L most) []
theorem setsOf_ok {ok : List α → Bool} {L : List α} {most : Nat} {s : List α} (h : s ∈ setsOf ok L most) : s.Sublist L ∧ s.length ≤ most ∧ ok s = true :=
  let h1 := upto_mem.1 ((pick_sub ok (upto L most)).1.subset h)
  ⟨h1.1, h1.2, (pick_sub ok (upto L most)).2 s h⟩
def sureOf (S : List (List α)) : List α := (S.headD []).filter fun p => S.all fun s => decide (p ∈ s)
theorem sureOf_iff {S : List (List α)} (h : S ≠ []) {p : α} : p ∈ sureOf S ↔ ∀ s ∈ S, p ∈ s := by
  unfold sureOf
  rw [List.mem_filter, List.all_eq_true]
  simp only [decide_eq_true_eq]
  refine ⟨fun h => h.2, fun h1 => ⟨?_, h1⟩⟩
  cases S with
  | nil => exact absurd rfl h
  | cons a r => exact h1 a (by simp)
end
end Vd
end Go.Proofs.YtchpbdecipcelaaGreatDoor
namespace Go.Proofs.YtchpbdecipcelaaGreatDoor
set_option linter.unusedVariables false
set_option linter.unusedSimpArgs false
set_option maxHeartbeats 4000000
set_option maxRecDepth 100000
namespace Vd
structure Ord {α : Type} (lt : α → α → Bool) : Prop where
  irr : ∀ x, lt x x = false
  trans : ∀ x y z, lt x y = true → lt y z = true → lt x z = true
  tri : ∀ x y, lt x y = false → lt y x = false → x = y
theorem sorted_nodup {α : Type} {lt : α → α → Bool} (ho : Ord lt) {l : List α} (h : l.Pairwise fun a b => lt a b = true) : l.Nodup :=
  h.imp fun {a b} h e => by rw [e, ho.irr] at h; cases h
theorem sorted_ext {α : Type} {lt : α → α → Bool} (ho : Ord lt) : ∀ {a b : List α}, a.Pairwise (fun x y => lt x y = true) → b.Pairwise (fun x y => lt x y = true) → (∀ x, x ∈ a ↔ x ∈ b) → a = b
  | [], [], _, _, _ => rfl
  | [], y :: b, _, _, h => by have := (h y).2 (by simp); cases this
  | x :: a, [], _, _, h => by have := (h x).1 (by simp); cases this
  | x :: a, y :: b, ha, hb, h => by
    obtain ⟨a1, a2⟩ := List.pairwise_cons.1 ha
    obtain ⟨b1, b2⟩ := List.pairwise_cons.1 hb
    have hxy : x = y := by
      rcases List.mem_cons.1 ((h x).1 (by simp)) with e | hx
      · exact e
      · rcases List.mem_cons.1 ((h y).2 (by simp)) with e | hy
        · exact e.symm
        · have := ho.trans _ _ _ (b1 x hx) (a1 y hy)
          rw [ho.irr] at this; cases this
    subst hxy
    have hn1 := fun z hz => show z ≠ x from fun e => by have := a1 z hz; rw [e, ho.irr] at this; cases this
    have hn2 := fun z hz => show z ≠ x from fun e => by have := b1 z hz; rw [e, ho.irr] at this; cases this
    rw [sorted_ext ho a2 b2 fun z => ⟨fun hz => ((List.mem_cons.1 ((h z).1 (by simp [hz]))).resolve_left (hn1 z hz)), fun hz => ((List.mem_cons.1 ((h z).2 (by simp [hz]))).resolve_left (hn2 z hz))⟩]
section
variable {α : Type} [DecidableEq α]
def ins (lt : α → α → Bool) : List α → α → List α
  | [], p => [p]
  | q :: r, p => if lt q p then q :: ins lt r p else if q = p then q :: r else p :: q :: r
def insAll (lt : α → α → Bool) (l : List α) : List α := l.foldl (ins lt) []
theorem ins_mem (lt : α → α → Bool) (p : α) : ∀ (l : List α) (x : α), x ∈ ins lt l p ↔ x = p ∨ x ∈ l
  | [], x => by simp [ins]
  | q :: r, x => by
    unfold ins
    split
    · simp only [List.mem_cons, ins_mem lt p r]
      exact ⟨fun h => h.elim (fun h => .inr (.inl h)) fun h => h.elim .inl fun h => .inr (.inr h), fun h => h.elim (fun h => .inr (.inl h)) fun h => h.elim .inl fun h => .inr (.inr h)⟩
    · split
      · rename_i h
        subst h
        simp
      · simp
theorem ins_sorted {lt : α → α → Bool} (ho : Ord lt) (p : α) : ∀ (l : List α), l.Pairwise (fun a b => lt a b = true) → (ins lt l p).Pairwise fun a b => lt a b = true
  | [], _ => List.pairwise_singleton _ _
  | q :: r, h => by
    obtain ⟨h1, h2⟩ := List.pairwise_cons.1 h
    unfold ins
    split
    · rename_i hlt
      refine List.pairwise_cons.2 ⟨fun x hx => ?_, ins_sorted ho p r h2⟩
      rcases (ins_mem lt p r x).1 hx with rfl | hx
      · exact hlt
      · exact h1 x hx
    · rename_i hlt
      split
      · exact h
      · rename_i hne
        have hpq : lt p q = true := by
          cases hp : lt p q with
          | true => rfl
          | false => exact absurd (ho.tri q p (by simpa using hlt) hp) hne
        refine List.pairwise_cons.2 ⟨fun x hx => ?_, h⟩
        rcases List.mem_cons.1 hx with rfl | hx
        · exact hpq
        · exact ho.trans _ _ _ hpq (h1 x hx)
theorem foldl_ins {lt : α → α → Bool} (ho : Ord lt) : ∀ (l out : List α), out.Pairwise (fun a b => lt a b = true) → ((l.foldl (ins lt) out).Pairwise fun a b => lt a b = true) ∧ ∀ x, x ∈ l.foldl (ins lt) out ↔ x ∈ out ∨ x ∈ l
  | [], out, h => ⟨h, fun x => by simp⟩
  | p :: l, out, h => by
    obtain ⟨h1, h2⟩ := foldl_ins ho l (ins lt out p) (ins_sorted ho p out h)
    refine ⟨h1, fun x => ?_⟩
    rw [List.foldl_cons, h2, ins_mem, List.mem_cons]
    exact ⟨fun h => h.elim (fun h => h.elim (fun h => .inr (.inl h)) .inl) fun h => .inr (.inr h), fun h => h.elim (fun h => .inl (.inr h)) fun h => h.elim (fun h => .inl (.inl h)) .inr⟩
theorem insAll_ok {lt : α → α → Bool} (ho : Ord lt) (l : List α) : ((insAll lt l).Pairwise fun a b => lt a b = true) ∧ ∀ x, x ∈ insAll lt l ↔ x ∈ l := by
  obtain ⟨h1, h2⟩ := foldl_ins ho l [] List.Pairwise.nil
  exact ⟨h1, fun x => by rw [insAll, h2]; simp⟩
def compact : List α → List α
  | [] => []
  | [x] => [x]
  | x :: y :: r => if x = y then compact (y :: r) else x :: compact (y :: r)
theorem compact_mem : ∀ (l : List α) (x : α), x ∈ compact l ↔ x ∈ l
  | [], x => by simp [compact]
  | [y], x => by simp [compact]
  | y :: z :: r, x => by
    unfold compact
    split
    · rename_i h
      subst h
      rw [compact_mem]
      simp
    · rw [List.mem_cons, compact_mem]
      simp only [List.mem_cons]
theorem compact_sorted {lt : α → α → Bool} (ho : Ord lt) : ∀ (l : List α), l.Pairwise (fun a b => lt b a = false) → (compact l).Pairwise fun a b => lt a b = true
  | [], _ => List.Pairwise.nil
  | [y], _ => List.pairwise_singleton _ _
  | y :: z :: r, h => by
    obtain ⟨h1, h2⟩ := List.pairwise_cons.1 h
    unfold compact
    split
    · exact compact_sorted ho _ h2
    · rename_i hne
      refine List.pairwise_cons.2 ⟨fun x hx => ?_, compact_sorted ho _ h2⟩
      have hyz : lt y z = true := by
        cases hp : lt y z with
        | true => rfl
        | false => exact absurd (ho.tri y z hp (h1 z (by simp))) hne
      rw [compact_mem] at hx
      rcases List.mem_cons.1 hx with rfl | hx
      · exact hyz
      · have h3 := (List.pairwise_cons.1 h2).1 x hx
        cases hzx : lt z x with
        | true => exact ho.trans _ _ _ hyz hzx
        | false => rw [← ho.tri z x hzx h3]; exact hyz
theorem compact_eq {lt : α → α → Bool} (ho : Ord lt) {l s : List α} (hs : s.Pairwise fun a b => lt b a = false) (hm : ∀ x, x ∈ s ↔ x ∈ l) : compact s = insAll lt l :=
  sorted_ext ho (compact_sorted ho s hs) (insAll_ok ho l).1 fun x => by rw [compact_mem, hm, (insAll_ok ho l).2]
end
end Vd
end Go.Proofs.YtchpbdecipcelaaGreatDoor
