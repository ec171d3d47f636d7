import Derived.Test.YtchpbdecipcelaaGreatDoorSM33
namespace Go.Proofs.YtchpbdecipcelaaGreatDoor
set_option linter.unusedVariables false
set_option linter.unusedSimpArgs false
set_option maxHeartbeats 4000000
set_option maxRecDepth 100000
open Go.RowKit
theorem orE_A (a b : Int) : FnA Tryz.prog 32 [lA 1 iC [a, b]] (.raw (.int .i64 (if a = 0 then b else a))) := by
  refine fnA_of tblOk Tryz.func32 rfl (by kernel_rfl) 18 Tryz.ntmps32 lenT [.tmp 2] rfl ?_
  simp only [entrySt, argSl, Nat.zero_add, Nat.reduceAdd]
  try refine wkG trivial ?_
  try (refine Stop.mk ?_; intro K hK)
  refine wpA_loop (fun k : Nat => ⟨18, 0, [(3, true, .raw (.int .i64 0)), (6, true, lA 1 iC [a, b]), (7, true, .raw (.int .i64 2)), (8, true, .raw (.int .i64 k))], [], [], ((0, []), [], true)⟩)
    (fun k => k ≤ 2 ∧ (0 < k → a = 0) ∧ (1 < k → b = 0)) (fun k => 2 - k) 0 ?_ ⟨by omega, fun h => by omega, fun h => by omega⟩ ?_
  · refine wkn ?_ ?_ ?_
    all_goals first | exact wk0 | refine wkS ?_ | skip
    all_goals (try trivial)
    all_goals ((repeat' apply And.intro) <;> first | exact wkL | skip)
  · rintro k ⟨hk, h1, h2⟩
    have hk : k = 0 ∨ k = 1 ∨ k = 2 := by omega
    rcases hk with rfl | rfl | rfl
    · repeat' first
        | refine wkG trivial ?_
        | (refine cndS ⟨_, evl, ⟨cb, cb⟩, fun hb => ?_, fun hb => ?_⟩ <;> try (cases hb; done))
        | (refine Stop.mk ?_; intro K hK)
        | fail
      · refine ret_of (by simp) ⟨_, _, _, evl, ob0, OutOk.eq ?_ ?_⟩
        · rw [if_neg (by simpa using hb)]; rfl
        · simp [AV.free]
      · refine ⟨1, ⟨by omega, fun _ => by simpa using hb, fun h => by omega⟩, by omega, ?_⟩
        refine wkn ?_ ?_ ?_
        all_goals first | exact wk0 | refine wkS ?_ | skip
        all_goals (try trivial)
        all_goals ((repeat' apply And.intro) <;> first | exact wkL | skip)
    · obtain rfl := h1 (by omega)
      repeat' first
        | refine wkG trivial ?_
        | (refine cndS ⟨_, evl, ⟨cb, cb⟩, fun hb => ?_, fun hb => ?_⟩ <;> try (cases hb; done))
        | (refine Stop.mk ?_; intro K hK)
        | fail
      · refine ret_of (by simp) ⟨_, _, _, evl, ob0, OutOk.eq ?_ ?_⟩
        · rfl
        · simp [AV.free]
      · refine ⟨2, ⟨by omega, fun _ => rfl, fun _ => by simpa using hb⟩, by omega, ?_⟩
        refine wkn ?_ ?_ ?_
        all_goals first | exact wk0 | refine wkS ?_ | skip
        all_goals (try trivial)
        all_goals ((repeat' apply And.intro) <;> first | exact wkL | skip)
    · obtain rfl := h1 (by omega)
      obtain rfl := h2 (by omega)
      repeat' first
        | refine wkG trivial ?_
        | (refine cndS ⟨_, evl, ⟨cb, cb⟩, fun hb => ?_, fun hb => ?_⟩ <;> try (cases hb; done))
        | (refine Stop.mk ?_; intro K hK)
        | fail
      refine ret_of (by simp) ⟨_, _, _, evl, ob0, OutOk.eq ?_ ?_⟩
      · rfl
      · simp [AV.free]
theorem ev_next {h : List (List AV)} {item : List AV} {pre es : List Event} (hp : pre <+: es) (e : h = pre.map itE) (hi : (h ++ [item]) <+: es.map itE) : ∃ c, item = itE c ∧ (pre ++ [c]) <+: es := by
  subst e
  obtain ⟨r, rfl⟩ := hp
  simp only [List.map_append] at hi
  cases r with
  | nil => exfalso; have := hi.length_le; simp at this; omega
  | cons c r =>
    rw [List.prefix_append_right_inj] at hi
    simp only [List.map_cons, List.cons_prefix_cons, List.nil_prefix, and_true] at hi
    exact ⟨c, hi, by simp⟩
theorem ev_all {pre es : List Event} (hp : pre <+: es) (he : es.map itE = pre.map itE) : pre = es := by
  have := congrArg List.length he
  simp at this
  exact hp.eq_of_length this.symm
def nE (es : List Event) : Int := es.foldl (fun _ e => e.at_ + 1 + 2 * (e.replies.length : Int)) 1
theorem nE_snoc (es : List Event) (e : Event) : nE (es ++ [e]) = e.at_ + 1 + 2 * (e.replies.length : Int) := by simp [nE]
def orC (a b : Int) : Int := if a = 0 then b else a
def wF (m : Matter) (w : Int) (rs : List Reply) : Int := rs.foldl (fun w r => orC w (checkM m r)) w
theorem wF_take (m : Matter) (w : Int) (rs : List Reply) {k : Nat} (hk : k < rs.length) : wF m w (rs.take (k + 1)) = orC (wF m w (rs.take k)) (checkM m (rs.getD k default)) := by
  rw [List.take_succ_eq_append_getElem hk, wF, List.foldl_append, getD_get hk]; rfl
def wE (m : Matter) (es : List Event) : Int := es.foldl (fun w e => wF m w e.replies) 0
theorem wE_snoc (m : Matter) (es : List Event) (e : Event) : wE m (es ++ [e]) = wF m (wE m es) e.replies := by simp [wE]
theorem evIn_n (i : Nat) (rs : List Round) (a : Int) (X : List Event) (hX : nE X = a) : ∀ j, nE (X ++ (evIn i rs a j).1) = (evIn i rs a j).2
  | 0 => by simpa [evIn] using hX
  | j + 1 => by
    simp only [evIn]
    rw [← List.append_assoc, nE_snoc]
    simp only
    omega
theorem evM_n (cs : List Chain) : ∀ k, nE (evM cs k).1 = (evM cs k).2
  | 0 => rfl
  | k + 1 => by
    simp only [evM]
    exact evIn_n _ _ _ _ (evM_n cs k) _
theorem evN_n (m : Matter) : nE (evL m) = evN m := evM_n _ _
theorem evIn_mem {i : Nat} {rs : List Round} {a : Int} {e : Event} : ∀ {j : Nat}, j ≤ rs.length → e ∈ (evIn i rs a j).1 → ∃ k, k < j ∧ e = ⟨i, k, (evIn i rs a k).2, (rs.getD k default).replies⟩
  | 0, _, h => by cases h
  | j + 1, hj, h => by
    simp only [evIn, List.mem_append, List.mem_singleton] at h
    rcases h with h | rfl
    · obtain ⟨k, hk, e⟩ := evIn_mem (by omega) h
      exact ⟨k, by omega, e⟩
    · exact ⟨j, by omega, rfl⟩
theorem evM_mem {cs : List Chain} {e : Event} : ∀ {n : Nat}, n ≤ cs.length → e ∈ (evM cs n).1 → ∃ i k, i < n ∧ k < (cs.getD i default).rounds.length ∧ e = ⟨i, k, (evIn i (cs.getD i default).rounds (evM cs i).2 k).2, ((cs.getD i default).rounds.getD k default).replies⟩
  | 0, _, h => by cases h
  | n + 1, hn, h => by
    simp only [evM, List.mem_append] at h
    rcases h with h | h
    · obtain ⟨i, k, h1, h2⟩ := evM_mem (by omega) h
      exact ⟨i, k, by omega, h2⟩
    · obtain ⟨k, hk, e⟩ := evIn_mem (Nat.le_refl _) h
      exact ⟨n, k, by omega, hk, e⟩
theorem evIn_mono (i : Nat) (rs : List Round) (a : Int) {j n : Nat} (h : j ≤ n) : (evIn i rs a j).2 ≤ (evIn i rs a n).2 := by
  obtain ⟨d, rfl⟩ := Nat.exists_eq_add_of_le h
  induction d with
  | zero => exact Int.le_refl _
  | succ d ih =>
    have := ih (by omega)
    show _ ≤ (evIn i rs a (j + d)).2 + (1 + 2 * ((rs.getD (j + d) default).replies.length : Int))
    omega
theorem evM_mono (cs : List Chain) {k n : Nat} (h : k ≤ n) : (evM cs k).2 ≤ (evM cs n).2 := by
  obtain ⟨d, rfl⟩ := Nat.exists_eq_add_of_le h
  induction d with
  | zero => exact Int.le_refl _
  | succ d ih =>
    have h1 := ih (by omega)
    have h2 := evIn_mono (k + d) (cs.getD (k + d) default).rounds (evM cs (k + d)).2 (Nat.zero_le (cs.getD (k + d) default).rounds.length)
    show _ ≤ (evIn (k + d) (cs.getD (k + d) default).rounds (evM cs (k + d)).2 (cs.getD (k + d) default).rounds.length).2
    simp only [evIn] at h2
    omega
theorem evIn_cnt (i : Nat) (rs : List Round) (a : Int) : ∀ j, ((evIn i rs a j).1.length : Int) + a ≤ (evIn i rs a j).2
  | 0 => by simp [evIn]
  | j + 1 => by
    have := evIn_cnt i rs a j
    simp only [evIn, List.length_append, List.length_cons, List.length_nil]
    omega
theorem evM_cnt (cs : List Chain) : ∀ k, ((evM cs k).1.length : Int) + 1 ≤ (evM cs k).2
  | 0 => by simp [evM]
  | k + 1 => by
    have h1 := evM_cnt cs k
    have h2 := evIn_cnt k (cs.getD k default).rounds (evM cs k).2 (cs.getD k default).rounds.length
    simp only [evM, List.length_append]
    omega
theorem ev_at {m : Matter} {e : Event} (h : e ∈ evL m) : 1 ≤ e.at_ ∧ e.at_ + 1 + 2 * (e.replies.length : Int) ≤ evN m := by
  obtain ⟨i, k, h1, h2, rfl⟩ := evM_mem (Nat.le_refl _) h
  have a1 := evM_mono m.evidence.chains (Nat.zero_le i)
  have a2 := evIn_mono i (m.evidence.chains.getD i default).rounds (evM m.evidence.chains i).2 (Nat.zero_le k)
  have a3 := evIn_mono i (m.evidence.chains.getD i default).rounds (evM m.evidence.chains i).2 (show k + 1 ≤ (m.evidence.chains.getD i default).rounds.length by omega)
  have a4 := evM_mono m.evidence.chains (show i + 1 ≤ m.evidence.chains.length by omega)
  simp only [evM, evIn] at a1 a2 a3 a4
  unfold evN
  simp only
  omega
theorem fits_reply {rs : List Reply} {host number head : Int} (h : fitsP ⟨rs⟩ host number head) : ∀ x ∈ rs, replyP x := by
  intro x hx
  obtain ⟨i, hi, rfl⟩ := List.mem_iff_getElem.1 hx
  have := (h i hi).2.1
  rwa [getD_get hi] at this
theorem event_ok {m : Matter} (h : formP m) (hn : evN m ≤ 1000) {e : Event} (he : e ∈ evL m) : EventOk m e := by
  have hat := ev_at he
  obtain ⟨_, _, _, _, _, hd, hc⟩ := h
  obtain ⟨i, k, h1, h2, rfl⟩ := evM_mem (Nat.le_refl _) he
  obtain ⟨_, ⟨hch, hcr, hcf⟩, ⟨d1, d2, d3, d4, d5, d6⟩⟩ := hc i h1
  have hfk := hcf k h2
  obtain ⟨g1, g2, g3⟩ := d6 k h2
  have hday : ∀ a rs, dayOf m ⟨i, k, a, rs⟩ = m.diaries.getD i default := fun _ _ => rfl
  refine ⟨⟨by simp only; omega, by simp only; omega⟩, by simp only; omega, ⟨by simp only; omega, by rw [hday]; simp only; omega, by rw [hday]; simp only; omega⟩, ?_, ?_, ?_, ?_, ?_, ?_⟩
  · rw [hday]; exact g2
  · rw [hday]
    intro j hj
    exact (d6 j (by omega)).1
  · rw [hday]
    intro u hu
    have := g3 u hu
    exact ⟨by have := g1.1; omega, this.2⟩
  · exact fits_reply hfk
  · simp only at hat ⊢; omega
  · simp only at hat ⊢; omega
end Go.Proofs.YtchpbdecipcelaaGreatDoor
