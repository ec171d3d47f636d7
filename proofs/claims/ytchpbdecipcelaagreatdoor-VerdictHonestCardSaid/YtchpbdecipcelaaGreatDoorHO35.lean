import Derived.Test.YtchpbdecipcelaaGreatDoorHO01
import Derived.Test.YtchpbdecipcelaaGreatDoorHO34
namespace Go.Proofs.YtchpbdecipcelaaGreatDoor
set_option linter.unusedVariables false
set_option linter.unusedSimpArgs false
set_option maxHeartbeats 4000000
set_option maxRecDepth 100000
open Go.RowKit
theorem yHn (a b : Int) : FnA Tryz.prog 32 [lA 1 iC [a, b]] (.raw (.int .i64 (if a = 0 then b else a))) := by
 refine en Tryz.func32 Tryz.ntmps32 [.tmp 2] rfl ?_
 try (refine wg ?_; try refine sM fun K hK => ?_)
 refine zJ (fun k : Nat => ⟨18, 0, [(3, true, .raw (.int .i64 0)), (6, true, lA 1 iC [a, b]), (7, true, .raw (.int .i64 2)), (8, true, .raw (.int .i64 k))], [], [], ((0, []), [], true)⟩)
  (fun k => k ≤ 2 ∧ (0 < k → a = 0) ∧ (1 < k → b = 0)) (fun k => 2 - k) 0 ?_ ⟨by omega, fun h => by omega, fun h => by omega⟩ ?_
 ·exact wkZ
 ·rintro k ⟨hk, h1, h2⟩
  have hk : k = 0 ∨ k = 1 ∨ k = 2 := by omega
  rcases hk with rfl | rfl | rfl
  ·repeat' first
    | refine wkg trivial ?_
    | (refine cS (fun hb => ?_) fun hb => ?_ <;> try (cases hb; done))
    | refine sM fun K hK => ?_
    | fail
   ·refine rq ?_ ?_
    ·rw [if_neg (by simpa using hb)]; rfl
    ·simp [AV.free]
   ·refine ⟨1, ⟨by omega, fun _ => by simpa using hb, fun h => by omega⟩, by omega, ?_⟩
    exact wkZ
  ·obtain rfl := h1 (by omega)
   repeat' first
    | refine wkg trivial ?_
    | (refine cS (fun hb => ?_) fun hb => ?_ <;> try (cases hb; done))
    | refine sM fun K hK => ?_
    | fail
   ·refine rq ?_ ?_
    ·rfl
    ·simp [AV.free]
   ·refine ⟨2, ⟨by omega, fun _ => rfl, fun _ => by simpa using hb⟩, by omega, ?_⟩
    exact wkZ
  ·obtain rfl := h1 (by omega)
   obtain rfl := h2 (by omega)
   repeat' first
    | refine wkg trivial ?_
    | (refine cS (fun hb => ?_) fun hb => ?_ <;> try (cases hb; done))
    | refine sM fun K hK => ?_
    | fail
   refine rq ?_ ?_
   ·rfl
   ·simp [AV.free]
theorem zTq {h : List (List AV)} {item : List AV} {pre es : List y7} (hp : pre <+: es) (e : h = pre.map itE) (hi : (h ++ [item]) <+: es.map itE) : ∃ c, item = itE c ∧ (pre ++ [c]) <+: es := by
 subst e
 obtain ⟨r, rfl⟩ := hp
 simp only [yLh] at hi
 cases r with
 | nil => exfalso; have := hi.length_le; simp at this; omega
 | cons c r =>
  rw [yLx] at hi
  simp only [yJo, List.cons_prefix_cons, List.nil_prefix, yKn] at hi
  exact ⟨c, hi, by simp⟩
theorem zXf {pre es : List y7} (hp : pre <+: es) (he : es.map itE = pre.map itE) : pre = es := by
 have := congrArg List.length he
 simp at this
 exact hp.eq_of_length this.symm
def nE (es : List y7) : Int := es.foldl (fun _ e => e.at_ + 1 + 2 * (e.replies.length : Int)) 1
theorem zSm (es : List y7) (e : y7) : nE (es ++ [e]) = e.at_ + 1 + 2 * (e.replies.length : Int) := by simp [nE]
def orC (a b : Int) : Int := if a = 0 then b else a
def wF (m : zQ) (w : Int) (rs : List zM) : Int := rs.foldl (fun w r => orC w (zCs m r)) w
theorem zXn (m : zQ) (w : Int) (rs : List zM) {k : Nat} (hk : k < rs.length) : wF m w (rs.take (k + 1)) = orC (wF m w (rs.take k)) (zCs m (rs.getD k default)) := by
 rw [yLq hk, wF, List.foldl_append, z5 hk]; rfl
def wE (m : zQ) (es : List y7) : Int := es.foldl (fun w e => wF m w e.replies) 0
theorem zR0 (m : zQ) (es : List y7) (e : y7) : wE m (es ++ [e]) = wF m (wE m es) e.replies := by simp [wE]
theorem yBk (i : Nat) (rs : List yP) (a : Int) (X : List y7) (hX : nE X = a) : ∀ j, nE (X ++ (qP i rs a j).1) = (qP i rs a j).2
 | 0 => by simpa [qP] using hX
 | j + 1 => by
  simp only [qP]
  rw [← yKx, zSm]
  simp only
  omega
theorem yBj (cs : List xS) : ∀ k, nE (evM cs k).1 = (evM cs k).2
 | 0 => rfl
 | k + 1 => by
  simp only [evM]
  exact yBk _ _ _ _ (yBj cs k) _
theorem yI5 (m : zQ) : nE (evL m) = evN m := yBj _ _
theorem zOf {i : Nat} {rs : List yP} {a : Int} {e : y7} : ∀ {j : Nat}, j ≤ rs.length → e ∈ (qP i rs a j).1 → ∃ k, k < j ∧ e = ⟨i, k, (qP i rs a k).2, (rs.getD k default).replies⟩
 | 0, _, h => by cases h
 | j + 1, hj, h => by
  simp only [qP, yK6, yK4] at h
  rcases h with h | rfl
  ·obtain ⟨k, hk, e⟩ := zOf (by omega) h
   exact ⟨k, by omega, e⟩
  ·exact ⟨j, by omega, rfl⟩
theorem zFk {cs : List xS} {e : y7} : ∀ {n : Nat}, n ≤ cs.length → e ∈ (evM cs n).1 → ∃ i k, i < n ∧ k < (cs.getD i default).rounds.length ∧ e = ⟨i, k, (qP i (cs.getD i default).rounds (evM cs i).2 k).2, ((cs.getD i default).rounds.getD k default).replies⟩
 | 0, _, h => by cases h
 | n + 1, hn, h => by
  simp only [evM, yK6] at h
  rcases h with h | h
  ·obtain ⟨i, k, h1, h2⟩ := zFk (by omega) h
   exact ⟨i, k, by omega, h2⟩
  ·obtain ⟨k, hk, e⟩ := zOf (yIn _) h
   exact ⟨n, k, by omega, hk, e⟩
theorem zFl (i : Nat) (rs : List yP) (a : Int) {j n : Nat} (h : j ≤ n) : (qP i rs a j).2 ≤ (qP i rs a n).2 := by
 obtain ⟨d, rfl⟩ := yMb h
 induction d with
 | zero => exact yM6 _
 | succ d ih =>
  have := ih (by omega)
  show _ ≤ (qP i rs a (j + d)).2 + (1 + 2 * ((rs.getD (j + d) default).replies.length : Int))
  omega
theorem zOd (cs : List xS) {k n : Nat} (h : k ≤ n) : (evM cs k).2 ≤ (evM cs n).2 := by
 obtain ⟨d, rfl⟩ := yMb h
 induction d with
 | zero => exact yM6 _
 | succ d ih =>
  have h1 := ih (by omega)
  have h2 := zFl (k + d) (cs.getD (k + d) default).rounds (evM cs (k + d)).2 (yIl (cs.getD (k + d) default).rounds.length)
  show _ ≤ (qP (k + d) (cs.getD (k + d) default).rounds (evM cs (k + d)).2 (cs.getD (k + d) default).rounds.length).2
  simp only [qP] at h2
  omega
theorem zOg (i : Nat) (rs : List yP) (a : Int) : ∀ j, ((qP i rs a j).1.length : Int) + a ≤ (qP i rs a j).2
 | 0 => by simp [qP]
 | j + 1 => by
  have := zOg i rs a j
  simp only [qP, yJ2, yIz, yK8]
  omega
theorem zMb (cs : List xS) : ∀ k, ((evM cs k).1.length : Int) + 1 ≤ (evM cs k).2
 | 0 => by simp [evM]
 | k + 1 => by
  have h1 := zMb cs k
  have h2 := zOg k (cs.getD k default).rounds (evM cs k).2 (cs.getD k default).rounds.length
  simp only [evM, yJ2]
  omega
theorem zZd {m : zQ} {e : y7} (h : e ∈ evL m) : 1 ≤ e.at_ ∧ e.at_ + 1 + 2 * (e.replies.length : Int) ≤ evN m := by
 obtain ⟨i, k, h1, h2, rfl⟩ := zFk (yIn _) h
 have a1 := zOd m.evidence.chains (yIl i)
 have a2 := zFl i (m.evidence.chains.getD i default).rounds (evM m.evidence.chains i).2 (yIl k)
 have a3 := zFl i (m.evidence.chains.getD i default).rounds (evM m.evidence.chains i).2 (show k + 1 ≤ (m.evidence.chains.getD i default).rounds.length by omega)
 have a4 := zOd m.evidence.chains (show i + 1 ≤ m.evidence.chains.length by omega)
 simp only [evM, qP] at a1 a2 a3 a4
 unfold evN
 simp only
 omega
theorem zQ9 {rs : List zM} {host number head : Int} (h : zFf ⟨rs⟩ host number head) : ∀ x ∈ rs, yJ x := by
 intro x hx
 obtain ⟨i, hi, rfl⟩ := yL8.1 hx
 have := (h i hi).2.1
 rwa [z5 hi] at this
theorem zOc {m : zQ} (h : zBf m) (hn : evN m ≤ 1000) {e : y7} (he : e ∈ evL m) : zMs m e := by
 have hat := zZd he
 obtain ⟨_, _, _, _, _, hd, hc⟩ := h
 obtain ⟨i, k, h1, h2, rfl⟩ := zFk (yIn _) he
 obtain ⟨_, ⟨hch, hcr, hcf⟩, ⟨d1, d2, d3, d4, d5, d6⟩⟩ := hc i h1
 have hfk := hcf k h2
 obtain ⟨g1, g2, g3⟩ := d6 k h2
 have hday : ∀ a rs, yY m ⟨i, k, a, rs⟩ = m.diaries.getD i default := fun _ _ => rfl
 refine ⟨⟨by simp only; omega, by simp only; omega⟩, by simp only; omega, ⟨by simp only; omega, by rw [hday]; simp only; omega, by rw [hday]; simp only; omega⟩, ?_, ?_, ?_, ?_, ?_, ?_⟩
 ·rw [hday]; exact g2
 ·rw [hday]
  intro j hj
  exact (d6 j (by omega)).1
 ·rw [hday]
  intro u hu
  have := g3 u hu
  exact ⟨by have := g1.1; omega, this.2⟩
 ·exact zQ9 hfk
 ·simp only at hat ⊢; omega
 ·simp only at hat ⊢; omega
end Go.Proofs.YtchpbdecipcelaaGreatDoor
