import Derived.Test.YtchpbdecipcelaaGreatDoorMR01
import Derived.Test.YtchpbdecipcelaaGreatDoorMR23
import Derived.Test.YtchpbdecipcelaaGreatDoorMR30
namespace Go.Proofs.YtchpbdecipcelaaGreatDoor
set_option linter.unusedVariables false
set_option linter.unusedSimpArgs false
set_option maxHeartbeats 4000000
set_option maxRecDepth 100000
open Go.RowKit
theorem yJo (a b : Int) : FnA Tryz.prog 32 [lA 1 iC [a, b]] (.raw (.int .i64 (if a = 0 then b else a))) := by
 refine en Tryz.func32 Tryz.ntmps32 [.tmp 2] rfl ?_
 try (refine wg ?_; try refine sM fun K hK => ?_)
 refine zF (fun k : Nat => ⟨18, 0, [(3, true, .raw (.int .i64 0)), (6, true, lA 1 iC [a, b]), (7, true, .raw (.int .i64 2)), (8, true, .raw (.int .i64 k))], [], [], ((0, []), [], true)⟩)
  (fun k => k ≤ 2 ∧ (0 < k → a = 0) ∧ (1 < k → b = 0)) (fun k => 2 - k) 0 ?_ ⟨by omega, fun h => by omega, fun h => by omega⟩ ?_
 ·exact wkZ
 ·rintro k ⟨hk, h1, h2⟩
  have hk : k = 0 ∨ k = 1 ∨ k = 2 := by omega
  rcases hk with rfl | rfl | rfl
  ·repeat' first
    | refine wkg trivial ?_
    | (refine cS (fun hb => ?_) fun hb => ?_ <;> try (cases hb; done))
    | refine sM fun K hK => ?_
    | fail
   ·refine rq ?_ ?_
    ·rw [if_neg (by simpa using hb)]; rfl
    ·simp [AV.free]
   ·refine ⟨1, ⟨by omega, fun _ => by simpa using hb, fun h => by omega⟩, by omega, ?_⟩
    exact wkZ
  ·obtain rfl := h1 (by omega)
   repeat' first
    | refine wkg trivial ?_
    | (refine cS (fun hb => ?_) fun hb => ?_ <;> try (cases hb; done))
    | refine sM fun K hK => ?_
    | fail
   ·refine rq ?_ ?_
    ·rfl
    ·simp [AV.free]
   ·refine ⟨2, ⟨by omega, fun _ => rfl, fun _ => by simpa using hb⟩, by omega, ?_⟩
    exact wkZ
  ·obtain rfl := h1 (by omega)
   obtain rfl := h2 (by omega)
   repeat' first
    | refine wkg trivial ?_
    | (refine cS (fun hb => ?_) fun hb => ?_ <;> try (cases hb; done))
    | refine sM fun K hK => ?_
    | fail
   refine rq ?_ ?_
   ·rfl
   ·simp [AV.free]
theorem zVf {h : List (List AV)} {item : List AV} {pre es : List yN} (hp : pre <+: es) (e : h = pre.map itE) (hi : (h ++ [item]) <+: es.map itE) : ∃ c, item = itE c ∧ (pre ++ [c]) <+: es := by
 subst e
 obtain ⟨r, rfl⟩ := hp
 simp only [yNk] at hi
 cases r with
 | nil => exfalso; have := hi.length_le; simp at this; omega
 | cons c r =>
  rw [yNz] at hi
  simp only [yLt, List.cons_prefix_cons, List.nil_prefix, yMs] at hi
  exact ⟨c, hi, by simp⟩
theorem zZd {pre es : List yN} (hp : pre <+: es) (he : es.map itE = pre.map itE) : pre = es := by
 have := congrArg List.length he
 simp at this
 exact hp.eq_of_length this.symm
def nE (es : List yN) : Int := es.foldl (fun _ e => e.at_ + 1 + 2 * (e.replies.length : Int)) 1
theorem zU3 (es : List yN) (e : yN) : nE (es ++ [e]) = e.at_ + 1 + 2 * (e.replies.length : Int) := by simp [nE]
def orC (a b : Int) : Int := if a = 0 then b else a
def wF (m : zL) (w : Int) (rs : List zN) : Int := rs.foldl (fun w r => orC w (v7 m r)) w
theorem zM0 (m : zL) (w : Int) (rs : List zN) {k : Nat} (hk : k < rs.length) : wF m w (rs.take (k + 1)) = orC (wF m w (rs.take k)) (v7 m (rs.getD k default)) := by
 rw [yNs hk, wF, List.foldl_append, zU hk]; rfl
def wE (m : zL) (es : List yN) : Int := es.foldl (fun w e => wF m w e.replies) 0
theorem zSd (m : zL) (es : List yN) (e : yN) : wE m (es ++ [e]) = wF m (wE m es) e.replies := by simp [wE]
theorem yDx (i : Nat) (rs : List yK) (a : Int) (X : List yN) (hX : nE X = a) : ∀ j, nE (X ++ (xM i rs a j).1) = (xM i rs a j).2
 | 0 => by simpa [xM] using hX
 | j + 1 => by
  simp only [xM]
  rw [← yN2, zU3]
  simp only
  omega
theorem yDw (cs : List xA) : ∀ k, nE (evM cs k).1 = (evM cs k).2
 | 0 => rfl
 | k + 1 => by
  simp only [evM]
  exact yDx _ _ _ _ (yDw cs k) _
theorem yK5 (m : zL) : nE (evL m) = evN m := yDw _ _
theorem zPf {i : Nat} {rs : List yK} {a : Int} {e : yN} : ∀ {j : Nat}, j ≤ rs.length → e ∈ (xM i rs a j).1 → ∃ k, k < j ∧ e = ⟨i, k, (xM i rs a k).2, (rs.getD k default).replies⟩
 | 0, _, h => by cases h
 | j + 1, hj, h => by
  simp only [xM, yMa, yM8] at h
  rcases h with h | rfl
  ·obtain ⟨k, hk, e⟩ := zPf (by omega) h
   exact ⟨k, by omega, e⟩
  ·exact ⟨j, by omega, rfl⟩
theorem zDm {cs : List xA} {e : yN} : ∀ {n : Nat}, n ≤ cs.length → e ∈ (evM cs n).1 → ∃ i k, i < n ∧ k < (cs.getD i default).rounds.length ∧ e = ⟨i, k, (xM i (cs.getD i default).rounds (evM cs i).2 k).2, ((cs.getD i default).rounds.getD k default).replies⟩
 | 0, _, h => by cases h
 | n + 1, hn, h => by
  simp only [evM, yMa] at h
  rcases h with h | h
  ·obtain ⟨i, k, h1, h2⟩ := zDm (by omega) h
   exact ⟨i, k, by omega, h2⟩
  ·obtain ⟨k, hk, e⟩ := zPf (yKq _) h
   exact ⟨n, k, by omega, hk, e⟩
theorem zG6 (i : Nat) (rs : List yK) (a : Int) {j n : Nat} (h : j ≤ n) : (xM i rs a j).2 ≤ (xM i rs a n).2 := by
 obtain ⟨d, rfl⟩ := yOd h
 induction d with
 | zero => exact yO8 _
 | succ d ih =>
  have := ih (by omega)
  show _ ≤ (xM i rs a (j + d)).2 + (1 + 2 * ((rs.getD (j + d) default).replies.length : Int))
  omega
theorem zIz (cs : List xA) {k n : Nat} (h : k ≤ n) : (evM cs k).2 ≤ (evM cs n).2 := by
 obtain ⟨d, rfl⟩ := yOd h
 induction d with
 | zero => exact yO8 _
 | succ d ih =>
  have h1 := ih (by omega)
  have h2 := zG6 (k + d) (cs.getD (k + d) default).rounds (evM cs (k + d)).2 (yKo (cs.getD (k + d) default).rounds.length)
  show _ ≤ (xM (k + d) (cs.getD (k + d) default).rounds (evM cs (k + d)).2 (cs.getD (k + d) default).rounds.length).2
  simp only [xM] at h2
  omega
theorem zPh (i : Nat) (rs : List yK) (a : Int) : ∀ j, ((xM i rs a j).1.length : Int) + a ≤ (xM i rs a j).2
 | 0 => by simp [xM]
 | j + 1 => by
  have := zPh i rs a j
  simp only [xM, yL5, yL2, yMc]
  omega
theorem zJ0 (cs : List xA) : ∀ k, ((evM cs k).1.length : Int) + 1 ≤ (evM cs k).2
 | 0 => by simp [evM]
 | k + 1 => by
  have h1 := zJ0 cs k
  have h2 := zPh k (cs.getD k default).rounds (evM cs k).2 (cs.getD k default).rounds.length
  simp only [evM, yL5]
  omega
theorem zY7 {m : zL} {e : yN} (h : e ∈ evL m) : 1 ≤ e.at_ ∧ e.at_ + 1 + 2 * (e.replies.length : Int) ≤ evN m := by
 obtain ⟨i, k, h1, h2, rfl⟩ := zDm (yKq _) h
 have a1 := zIz m.evidence.chains (yKo i)
 have a2 := zG6 i (m.evidence.chains.getD i default).rounds (evM m.evidence.chains i).2 (yKo k)
 have a3 := zG6 i (m.evidence.chains.getD i default).rounds (evM m.evidence.chains i).2 (show k + 1 ≤ (m.evidence.chains.getD i default).rounds.length by omega)
 have a4 := zIz m.evidence.chains (show i + 1 ≤ m.evidence.chains.length by omega)
 simp only [evM, xM] at a1 a2 a3 a4
 unfold evN
 simp only
 omega
theorem zHt {rs : List zN} {host number head : Int} (h : jQ ⟨rs⟩ host number head) : ∀ x ∈ rs, z9 x := by
 intro x hx
 obtain ⟨i, hi, rfl⟩ := yNb.1 hx
 have := (h i hi).2.1
 rwa [zU hi] at this
theorem zEu {m : zL} (h : vW m) (hn : evN m ≤ 1000) {e : yN} (he : e ∈ evL m) : zNv m e := by
 have hat := zY7 he
 obtain ⟨_, _, _, _, _, hd, hc⟩ := h
 obtain ⟨i, k, h1, h2, rfl⟩ := zDm (yKq _) he
 obtain ⟨_, ⟨hch, hcr, hcf⟩, ⟨d1, d2, d3, d4, d5, d6⟩⟩ := hc i h1
 have hfk := hcf k h2
 obtain ⟨g1, g2, g3⟩ := d6 k h2
 have hday : ∀ a rs, y8 m ⟨i, k, a, rs⟩ = m.diaries.getD i default := fun _ _ => rfl
 refine ⟨⟨by simp only; omega, by simp only; omega⟩, by simp only; omega, ⟨by simp only; omega, by rw [hday]; simp only; omega, by rw [hday]; simp only; omega⟩, ?_, ?_, ?_, ?_, ?_, ?_⟩
 ·rw [hday]; exact g2
 ·rw [hday]
  intro j hj
  exact (d6 j (by omega)).1
 ·rw [hday]
  intro u hu
  have := g3 u hu
  exact ⟨by have := g1.1; omega, this.2⟩
 ·exact zHt hfk
 ·simp only at hat ⊢; omega
 ·simp only at hat ⊢; omega
namespace Vd
def choose {α : Type} : List α → Nat → List (List α)
 | _, 0 => [[]]
 | [], _ + 1 => []
 | x :: l, n + 1 => (choose l n).map (x :: ·) ++ choose l (n + 1)
theorem choose_mem {α : Type} : ∀ (l : List α) (n : Nat) (s : List α), s ∈ choose l n ↔ s.Sublist l ∧ s.length = n
 | l, 0, s => by
  cases l <;> simp only [choose, yM8] <;> exact ⟨fun h => by subst h; exact ⟨List.nil_sublist _, rfl⟩, fun h => yO9.1 h.2⟩
 | [], n + 1, s => by
  simp only [choose, yMo, false_iff]
  rintro ⟨h1, h2⟩
  rw [List.sublist_nil.1 h1] at h2
  cases h2
 | x :: l, n + 1, s => by
  simp only [choose, yMa, yMf, choose_mem l]
  constructor
  ·rintro (⟨t, ⟨h1, h2⟩, rfl⟩ | ⟨h1, h2⟩)
   ·exact ⟨h1.cons_cons _, by simp [h2]⟩
   ·exact ⟨h1.cons _, h2⟩
  ·rintro ⟨h1, h2⟩
   cases h1 with
   | cons _ h => exact .inr ⟨h, h2⟩
   | cons_cons _ h => exact .inl ⟨_, ⟨h, by simpa using h2⟩, rfl⟩
def yC9 {α : Type} (L : List α) (most : Nat) : List (List α) := (List.range (most + 1)).flatMap (choose L)
theorem zWo {α : Type} {L : List α} {most : Nat} {s : List α} : s ∈ yC9 L most ↔ s.Sublist L ∧ s.length ≤ most := by
 simp only [yC9, yOb, yN5, choose_mem]
 exact ⟨fun ⟨k, h1, h2, h3⟩ => ⟨h2, by omega⟩, fun ⟨h1, h2⟩ => ⟨s.length, by omega, h1, rfl⟩⟩
section
variable {α : Type} [DecidableEq α]
def part (a b : List α) : Bool := a.all fun x => decide (x ∈ b)
theorem part_iff {a b : List α} : part a b = true ↔ ∀ x ∈ a, x ∈ b := by simp [part]
def stepS (ok : List α → Bool) (out : List (List α)) (s : List α) : List (List α) := if ok s && !(out.any fun t => part t s) then out ++ [s] else out
def pick (ok : List α → Bool) (X : List (List α)) (out : List (List α)) : List (List α) := X.foldl (stepS ok) out
theorem pick_snoc (ok : List α → Bool) (X : List (List α)) (s : List α) (out : List (List α)) : pick ok (X ++ [s]) out = stepS ok (pick ok X out) s := by simp [pick]
theorem pick_app (ok : List α → Bool) (X Y : List (List α)) (out : List (List α)) : pick ok (X ++ Y) out = pick ok Y (pick ok X out) := by simp [pick]
theorem rev_rec {β : Type} {P : List β → Prop} (h0 : P []) (h1 : ∀ l x, P l → P (l ++ [x])) (l : List β) : P l := by
 have : ∀ r : List β, P r.reverse := by
  intro r
  induction r with
  | nil => exact h0
  | cons x r ih => rw [List.reverse_cons]; exact h1 _ _ ih
 have h := this l.reverse
 rwa [List.reverse_reverse] at h
theorem zOp (ok : List α → Bool) (X : List (List α)) : (pick ok X []).Sublist X ∧ ∀ s ∈ pick ok X [], ok s = true := by
 induction X using rev_rec with
 | h0 => exact ⟨List.Sublist.refl _, fun s hs => by cases hs⟩
 | h1 X s ih =>
  rw [pick_snoc]
  unfold stepS
  split
  ·rename_i h
   refine ⟨ih.1.append (List.Sublist.refl _), fun t ht => ?_⟩
   rcases yMa.1 ht with ht | ht
   ·exact ih.2 t ht
   ·rw [yM8.1 ht]
    simp only [yLq] at h
    exact h.1
  ·exact ⟨ih.1.trans (List.sublist_append_left _ _), ih.2⟩
theorem nodup_len : ∀ {s t : List α}, s.Nodup → (∀ x ∈ s, x ∈ t) → s.length ≤ t.length
 | [], t, _, _ => yKo _
 | a :: s, t, hs, h => by
  obtain ⟨h1, h2⟩ := yMd.1 hs
  have ha := h a (by simp)
  have := nodup_len (s := s) (t := t.erase a) h2 fun x hx => (List.mem_erase_of_ne (fun e => h1 (by rw [← e]; exact hx))).2 (h x (by simp [hx]))
  rw [List.length_erase_of_mem ha] at this
  have hp : 0 < t.length := List.length_pos_of_mem ha
  simp only [yL2]
  omega
def setsOf (ok : List α → Bool) (L : List α) (most : Nat) : List (List α) := pick ok (yC9 L most) []
theorem setsOf_ok {ok : List α → Bool} {L : List α} {most : Nat} {s : List α} (h : s ∈ setsOf ok L most) : s.Sublist L ∧ s.length ≤ most ∧ ok s = true :=
 let h1 := zWo.1 ((zOp ok (yC9 L most)).1.subset h)
 ⟨h1.1, h1.2, (zOp ok (yC9 L most)).2 s h⟩
def sureOf (S : List (List α)) : List α := (S.headD []).filter fun p => S.all fun s => decide (p ∈ s)
end
end Vd
namespace Vd
structure Ord {α : Type} (lt : α → α → Bool) : Prop where
 irr : ∀ x, lt x x = false
 trans : ∀ x y z, lt x y = true → lt y z = true → lt x z = true
 tri : ∀ x y, lt x y = false → lt y x = false → x = y
theorem sorted_nodup {α : Type} {lt : α → α → Bool} (ho : Ord lt) {l : List α} (h : l.Pairwise fun a b => lt a b = true) : l.Nodup :=
 h.imp fun {a b} h e => by rw [e, ho.irr] at h; cases h
theorem zH5 {α : Type} {lt : α → α → Bool} (ho : Ord lt) : ∀ {a b : List α}, a.Pairwise (fun x y => lt x y = true) → b.Pairwise (fun x y => lt x y = true) → (∀ x, x ∈ a ↔ x ∈ b) → a = b
 | [], [], _, _, _ => rfl
 | [], y :: b, _, _, h => by have := (h y).2 (by simp); cases this
 | x :: a, [], _, _, h => by have := (h x).1 (by simp); cases this
 | x :: a, y :: b, ha, hb, h => by
  obtain ⟨a1, a2⟩ := yNj.1 ha
  obtain ⟨b1, b2⟩ := yNj.1 hb
  have hxy : x = y := by
   rcases yLf.1 ((h x).1 (by simp)) with e | hx
   ·exact e
   ·rcases yLf.1 ((h y).2 (by simp)) with e | hy
    ·exact e.symm
    ·have := ho.trans _ _ _ (b1 x hx) (a1 y hy)
     rw [ho.irr] at this; cases this
  subst hxy
  have hn1 := fun z hz => show z ≠ x from fun e => by have := a1 z hz; rw [e, ho.irr] at this; cases this
  have hn2 := fun z hz => show z ≠ x from fun e => by have := b1 z hz; rw [e, ho.irr] at this; cases this
  rw [zH5 ho a2 b2 fun z => ⟨fun hz => ((yLf.1 ((h z).1 (by simp [hz]))).resolve_left (hn1 z hz)), fun hz => ((yLf.1 ((h z).2 (by simp [hz]))).resolve_left (hn2 z hz))⟩]
section
variable {α : Type} [DecidableEq α]
def ins (lt : α → α → Bool) : List α → α → List α
 | [], p => [p]
 | q :: r, p => if lt q p then q :: ins lt r p else if q = p then q :: r else p :: q :: r
def insAll (lt : α → α → Bool) (l : List α) : List α := l.foldl (ins lt) []
theorem zN8 (lt : α → α → Bool) (p : α) : ∀ (l : List α) (x : α), x ∈ ins lt l p ↔ x = p ∨ x ∈ l
 | [], x => by simp [ins]
 | q :: r, x => by
  unfold ins
  split
  ·simp only [yLf, zN8 lt p r]
   exact ⟨fun h => h.elim (fun h => .inr (.inl h)) fun h => h.elim .inl fun h => .inr (.inr h), fun h => h.elim (fun h => .inr (.inl h)) fun h => h.elim .inl fun h => .inr (.inr h)⟩
  ·split
   ·rename_i h
    subst h
    simp
   ·simp
theorem zHm {lt : α → α → Bool} (ho : Ord lt) (p : α) : ∀ (l : List α), l.Pairwise (fun a b => lt a b = true) → (ins lt l p).Pairwise fun a b => lt a b = true
 | [], _ => List.pairwise_singleton _ _
 | q :: r, h => by
  obtain ⟨h1, h2⟩ := yNj.1 h
  unfold ins
  split
  ·rename_i hlt
   refine yNj.2 ⟨fun x hx => ?_, zHm ho p r h2⟩
   rcases (zN8 lt p r x).1 hx with rfl | hx
   ·exact hlt
   ·exact h1 x hx
  ·rename_i hlt
   split
   ·exact h
   ·rename_i hne
    have hpq : lt p q = true := by
     cases hp : lt p q with
     | true => rfl
     | false => exact absurd (ho.tri q p (by simpa using hlt) hp) hne
    refine yNj.2 ⟨fun x hx => ?_, h⟩
    rcases yLf.1 hx with rfl | hx
    ·exact hpq
    ·exact ho.trans _ _ _ hpq (h1 x hx)
theorem zKz {lt : α → α → Bool} (ho : Ord lt) : ∀ (l out : List α), out.Pairwise (fun a b => lt a b = true) → ((l.foldl (ins lt) out).Pairwise fun a b => lt a b = true) ∧ ∀ x, x ∈ l.foldl (ins lt) out ↔ x ∈ out ∨ x ∈ l
 | [], out, h => ⟨h, fun x => by simp⟩
 | p :: l, out, h => by
  obtain ⟨h1, h2⟩ := zKz ho l (ins lt out p) (zHm ho p out h)
  refine ⟨h1, fun x => ?_⟩
  rw [yL4, h2, zN8, yLf]
  exact ⟨fun h => h.elim (fun h => h.elim (fun h => .inr (.inl h)) .inl) fun h => .inr (.inr h), fun h => h.elim (fun h => .inl (.inr h)) fun h => h.elim (fun h => .inl (.inl h)) .inr⟩
theorem insAll_ok {lt : α → α → Bool} (ho : Ord lt) (l : List α) : ((insAll lt l).Pairwise fun a b => lt a b = true) ∧ ∀ x, x ∈ insAll lt l ↔ x ∈ l := by
 obtain ⟨h1, h2⟩ := zKz ho l [] List.Pairwise.nil
 exact ⟨h1, fun x => by rw [insAll, h2]; simp⟩
def compact : List α → List α
 | [] => []
 | [x] => [x]
 | x :: y :: r => if x = y then compact (y :: r) else x :: compact (y :: r)
theorem jU : ∀ (l : List α) (x : α), x ∈ compact l ↔ x ∈ l
 | [], x => by simp [compact]
 | [y], x => by simp [compact]
 | y :: z :: r, x => by
  unfold compact
  split
  ·rename_i h
   subst h
   rw [jU]
   simp
  ·rw [yLf, jU]
   simp only [yLf]
theorem kH {lt : α → α → Bool} (ho : Ord lt) : ∀ (l : List α), l.Pairwise (fun a b => lt b a = false) → (compact l).Pairwise fun a b => lt a b = true
 | [], _ => List.Pairwise.nil
 | [y], _ => List.pairwise_singleton _ _
 | y :: z :: r, h => by
  obtain ⟨h1, h2⟩ := yNj.1 h
  unfold compact
  split
  ·exact kH ho _ h2
  ·rename_i hne
   refine yNj.2 ⟨fun x hx => ?_, kH ho _ h2⟩
   have hyz : lt y z = true := by
    cases hp : lt y z with
    | true => rfl
    | false => exact absurd (ho.tri y z hp (h1 z (by simp))) hne
   rw [jU] at hx
   rcases yLf.1 hx with rfl | hx
   ·exact hyz
   ·have h3 := (yNj.1 h2).1 x hx
    cases hzx : lt z x with
    | true => exact ho.trans _ _ _ hyz hzx
    | false => rw [← ho.tri z x hzx h3]; exact hyz
theorem compact_eq {lt : α → α → Bool} (ho : Ord lt) {l s : List α} (hs : s.Pairwise fun a b => lt b a = false) (hm : ∀ x, x ∈ s ↔ x ∈ l) : compact s = insAll lt l :=
 zH5 ho (kH ho s hs) (insAll_ok ho l).1 fun x => by rw [jU, hm, (insAll_ok ho l).2]
end
end Vd
end Go.Proofs.YtchpbdecipcelaaGreatDoor
