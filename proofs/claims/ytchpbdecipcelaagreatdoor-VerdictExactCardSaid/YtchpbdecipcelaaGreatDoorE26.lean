import Derived.Test.YtchpbdecipcelaaGreatDoorE10
namespace Go.Proofs.YtchpbdecipcelaaGreatDoor
set_option linter.unusedVariables false
set_option linter.unusedSimpArgs false
set_option maxHeartbeats 4000000
set_option maxRecDepth 100000
namespace Bf
structure E where
  a : Nat
  b : Nat
  m : Int
  deriving Inhabited
def keeps (x : Nat → Int) (e : E) : Prop := x e.b ≤ x e.a + e.m
def keepsAll (l : List E) (x : Nat → Int) : Prop := ∀ e ∈ l, keeps x e
def relax (f : Nat → Int) (e : E) : Nat → Int := fun i => if i = e.b then min (f e.b) (f e.a + e.m) else f i
def sweep (l : List E) (f : Nat → Int) : Nat → Int := l.foldl relax f
def jac (l : List E) (f : Nat → Int) : Nat → Int := fun v => l.foldl (fun acc e => if e.b = v then min acc (f e.a + e.m) else acc) (f v)
theorem relax_le (f : Nat → Int) (e : E) (i : Nat) : relax f e i ≤ f i := by
  unfold relax; split
  · rename_i h; subst h; omega
  · omega
theorem relax_ge {f h : Nat → Int} {e : E} (hk : keeps h e) (hf : ∀ i, h i ≤ f i) (i : Nat) : h i ≤ relax f e i := by
  unfold relax; split
  · rename_i hi; subst hi
    have h1 := hf e.b
    have h2 := hf e.a
    unfold keeps at hk
    omega
  · exact hf i
theorem sweep_le : ∀ (l : List E) (f : Nat → Int) (i : Nat), sweep l f i ≤ f i
  | [], f, i => Int.le_refl _
  | e :: l, f, i => Int.le_trans (sweep_le l (relax f e) i) (relax_le f e i)
theorem sweep_ge {h : Nat → Int} : ∀ (l : List E) (f : Nat → Int), keepsAll l h → (∀ i, h i ≤ f i) → ∀ i, h i ≤ sweep l f i
  | [], f, _, hf, i => hf i
  | e :: l, f, hk, hf, i => sweep_ge l (relax f e) (fun e' he => hk e' (by simp [he])) (relax_ge (hk e (by simp)) hf) i
theorem sweep_edge : ∀ (l : List E) (f : Nat → Int) (e : E), e ∈ l → sweep l f e.b ≤ f e.a + e.m
  | [], _, _, h => by cases h
  | e0 :: l, f, e, h => by
    rcases List.mem_cons.1 h with rfl | h
    · refine Int.le_trans (sweep_le l (relax f e) e.b) ?_
      unfold relax
      rw [if_pos rfl]; omega
    · refine Int.le_trans (sweep_edge l (relax f e0) e h) ?_
      have := relax_le f e0 e.a
      omega
theorem jac_fold (f : Nat → Int) (v : Nat) : ∀ (l : List E) (acc : Int), l.foldl (fun acc e => if e.b = v then min acc (f e.a + e.m) else acc) acc ≤ acc ∧ (∀ e ∈ l, e.b = v → l.foldl (fun acc e => if e.b = v then min acc (f e.a + e.m) else acc) acc ≤ f e.a + e.m) ∧
    (∀ c, c ≤ acc → (∀ e ∈ l, e.b = v → c ≤ f e.a + e.m) → c ≤ l.foldl (fun acc e => if e.b = v then min acc (f e.a + e.m) else acc) acc)
  | [], acc => ⟨Int.le_refl _, fun e h => (by cases h), fun c h _ => h⟩
  | e0 :: l, acc => by
    obtain ⟨h1, h2, h3⟩ := jac_fold f v l (if e0.b = v then min acc (f e0.a + e0.m) else acc)
    simp only [List.foldl_cons]
    refine ⟨?_, fun e he hv => ?_, fun c hc hall => h3 c ?_ fun e he hv => hall e (by simp [he]) hv⟩
    · refine Int.le_trans h1 ?_
      split <;> omega
    · rcases List.mem_cons.1 he with rfl | he
      · refine Int.le_trans h1 ?_
        rw [if_pos hv]; omega
      · exact h2 e he hv
    · split
      · rename_i hv
        have := hall e0 (by simp) hv
        omega
      · exact hc
structure Rnd (l : List E) (F : (Nat → Int) → Nat → Int) : Prop where
  le : ∀ f i, F f i ≤ f i
  edge : ∀ f, ∀ e ∈ l, F f e.b ≤ f e.a + e.m
  ge : ∀ (h f : Nat → Int), keepsAll l h → (∀ i, h i ≤ f i) → ∀ i, h i ≤ F f i
theorem rnd_sweep (l : List E) : Rnd l (sweep l) := ⟨sweep_le l, fun f e he => sweep_edge l f e he, fun _ f hk hf i => sweep_ge l f hk hf i⟩
theorem rnd_jac (l : List E) : Rnd l (jac l) := by
  refine ⟨fun f i => (jac_fold f i l _).1, fun f e he => (jac_fold f e.b l _).2.1 e he rfl, fun h f hk hf i => (jac_fold f i l _).2.2 _ (hf i) fun e he hv => ?_⟩
  have h1 := hk e he
  have h2 := hf e.a
  unfold keeps at h1
  rw [hv] at h1
  omega
def iter (F : (Nat → Int) → Nat → Int) : Nat → Nat → Int
  | 0 => fun _ => 0
  | k + 1 => F (iter F k)
theorem argmin {f : Nat → Int} : ∀ (R : List Nat), R ≠ [] → ∃ u ∈ R, ∀ v ∈ R, f u ≤ f v
  | [], h => absurd rfl h
  | [a], _ => ⟨a, by simp, fun v hv => by rw [List.mem_singleton] at hv; subst hv; exact Int.le_refl _⟩
  | a :: b :: r, _ => by
    obtain ⟨u, hu, h⟩ := argmin (f := f) (b :: r) (by simp)
    rcases Int.le_total (f a) (f u) with h1 | h1
    · refine ⟨a, by simp, fun v hv => ?_⟩
      rcases List.mem_cons.1 hv with rfl | hv
      · exact Int.le_refl _
      · exact Int.le_trans h1 (h v hv)
    · refine ⟨u, List.mem_cons_of_mem _ hu, fun v hv => ?_⟩
      rcases List.mem_cons.1 hv with rfl | hv
      · exact h1
      · exact h v hv
theorem filter_lt {R : List Nat} {u : Nat} (hu : u ∈ R) : (R.filter fun v => decide (v ≠ u)).length < R.length := by
  rw [List.length_filter_lt_length_iff_exists]
  exact ⟨u, hu, by simp⟩
structure Near (l : List E) (n : Nat) (x : Nat → Int) (f : Nat → Int) (k : Nat) (R : List Nat) (M : Int) : Prop where
  len : R.length + k + 1 ≤ n ∨ R = []
  low : ∀ u ∈ R, M ≤ f u - x u
  stay : keepsAll l fun v => if v ∈ R then M + x v else f v
theorem near (l : List E) (n : Nat) (h0 : 0 < n) (hin : ∀ e ∈ l, e.a < n ∧ e.b < n) (x : Nat → Int) (hx : keepsAll l x) {F : (Nat → Int) → Nat → Int} (hF : Rnd l F) : ∀ k, ∃ R M, Near l n x (iter F k) k R M
  | 0 => by
    obtain ⟨u, hu, hmin⟩ := argmin (f := fun v => (0 : Int) - x v) (List.range n) (by intro h; have := congrArg List.length h; simp at this; omega)
    refine ⟨(List.range n).filter fun v => decide (v ≠ u), 0 - x u, .inl ?_, fun v hv => hmin v (List.mem_filter.1 hv).1, fun e he => ?_⟩
    · have := filter_lt hu
      rw [List.length_range] at this
      omega
    · have e1 : ∀ v, v < n → (if v ∈ (List.range n).filter (fun v => decide (v ≠ u)) then 0 - x u + x v else iter F 0 v) = 0 - x u + x v := fun v hv => by
        split
        · rfl
        · rename_i hn
          have hvu : v = u := by
            apply Classical.byContradiction
            intro hc
            exact hn (List.mem_filter.2 ⟨List.mem_range.2 hv, by simpa using hc⟩)
          subst hvu
          simp only [iter]
          omega
      have h1 := hx e he
      unfold keeps at h1 ⊢
      dsimp only
      rw [e1 _ (hin e he).1, e1 _ (hin e he).2]
      omega
  | k + 1 => by
    obtain ⟨R, M, hlen, hlow, hstay⟩ := near l n h0 hin x hx hF k
    have hle : ∀ v, (if v ∈ R then M + x v else iter F k v) ≤ iter F k v := fun v => by
      split
      · rename_i hv; have := hlow v hv; omega
      · exact Int.le_refl _
    have hge := hF.ge _ (iter F k) hstay hle
    have hfin : ∀ v, v ∉ R → iter F (k + 1) v = iter F k v := fun v hv => by
      have h1 := hge v
      have h2 := hF.le (iter F k) v
      rw [if_neg hv] at h1
      exact Int.le_antisymm h2 h1
    by_cases hR : R = []
    · subst hR
      refine ⟨[], M, .inr rfl, fun u hu => (by cases hu), fun e he => ?_⟩
      have h1 := hstay e he
      unfold keeps at h1 ⊢
      simp only [List.not_mem_nil, if_false] at h1 ⊢
      rw [hfin _ (by simp), hfin _ (by simp)]
      exact h1
    · obtain ⟨u, hu, hmin⟩ := argmin (f := fun v => iter F (k + 1) v - x v) R hR
      have hM : M ≤ iter F (k + 1) u - x u := by
        have h1 := hge u
        rw [if_pos hu] at h1
        show M ≤ F (iter F k) u - x u
        omega
      refine ⟨R.filter fun v => decide (v ≠ u), iter F (k + 1) u - x u, .inl ?_, fun v hv => hmin v (List.mem_filter.1 hv).1, fun e he => ?_⟩
      · have := filter_lt hu
        rcases hlen with h | h
        · omega
        · exact absurd h hR
      · have hmem : ∀ v, v ∈ R.filter (fun v => decide (v ≠ u)) ↔ v ∈ R ∧ v ≠ u := fun v => by simp [List.mem_filter]
        have hval : ∀ v, v ∈ R → (if v ∈ R.filter (fun v => decide (v ≠ u)) then iter F (k + 1) u - x u + x v else iter F (k + 1) v) = iter F (k + 1) u - x u + x v := fun v hv => by
          split
          · rfl
          · rename_i hn
            have : v = u := by
              apply Classical.byContradiction
              intro hc
              exact hn ((hmem v).2 ⟨hv, hc⟩)
            subst this
            omega
        have hval2 : ∀ v, v ∉ R → (if v ∈ R.filter (fun v => decide (v ≠ u)) then iter F (k + 1) u - x u + x v else iter F (k + 1) v) = iter F k v := fun v hv => by
          rw [if_neg (fun h => hv ((hmem v).1 h).1), hfin v hv]
        have hx1 := hx e he
        have hs1 := hstay e he
        have he1 := hF.edge (iter F k) e he
        unfold keeps at hx1 hs1 ⊢
        dsimp only at hs1 ⊢
        by_cases ha : e.a ∈ R
        · by_cases hb : e.b ∈ R
          · rw [hval _ ha, hval _ hb]; omega
          · rw [hval _ ha, hval2 _ hb]
            rw [if_pos ha, if_neg hb] at hs1
            omega
        · by_cases hb : e.b ∈ R
          · rw [hval2 _ ha, hval _ hb]
            have := hmin _ hb
            have h3 : iter F (k + 1) e.b ≤ iter F k e.a + e.m := he1
            omega
          · rw [hval2 _ ha, hval2 _ hb]
            rw [if_neg ha, if_neg hb] at hs1
            exact hs1
theorem settled {l : List E} {n : Nat} (h0 : 0 < n) (hin : ∀ e ∈ l, e.a < n ∧ e.b < n) {x : Nat → Int} (hx : keepsAll l x) {F : (Nat → Int) → Nat → Int} (hF : Rnd l F) : keepsAll l (iter F (n - 1)) := by
  obtain ⟨R, M, hlen, hlow, hstay⟩ := near l n h0 hin x hx hF (n - 1)
  have hR : R = [] := by
    rcases hlen with h | h
    · exact List.length_eq_zero_iff.1 (by omega)
    · exact h
  subst hR
  intro e he
  have := hstay e he
  unfold keeps at this ⊢
  simpa using this
theorem iter_le {l : List E} {F : (Nat → Int) → Nat → Int} (hF : Rnd l F) : ∀ k i, iter F k i ≤ 0
  | 0, _ => Int.le_refl _
  | k + 1, i => Int.le_trans (hF.le _ i) (iter_le hF k i)
theorem iter_ge {l : List E} {F : (Nat → Int) → Nat → Int} (hF : Rnd l F) {h : Nat → Int} (hk : keepsAll l h) (h0 : ∀ i, h i ≤ 0) : ∀ k i, h i ≤ iter F k i
  | 0, i => h0 i
  | k + 1, i => hF.ge h _ hk (iter_ge hF hk h0 k) i
theorem jac_low {l : List E} {c : Int} (hc : 0 ≤ c) (hm : ∀ e ∈ l, -c ≤ e.m) : ∀ (k i : Nat), -((k : Int) * c) ≤ iter (jac l) k i
  | 0, i => by simp [iter]
  | k + 1, i => by
    have e1 : ((k + 1 : Nat) : Int) * c = (k : Int) * c + c := by
      rw [Int.natCast_add, Int.add_mul]; simp
    rw [e1]
    refine (jac_fold (iter (jac l) k) i l _).2.2 _ ?_ fun e he _ => ?_
    · have := jac_low hc hm k i; omega
    · have := jac_low hc hm k e.a
      have := hm e he
      omega
theorem best {l : List E} {n : Nat} (h0 : 0 < n) (hin : ∀ e ∈ l, e.a < n ∧ e.b < n) {x : Nat → Int} (hx : keepsAll l x) {c : Int} (hc : 0 ≤ c) (hm : ∀ e ∈ l, -c ≤ e.m) :
    ∃ h : Nat → Int, keepsAll l h ∧ (∀ i, h i ≤ 0) ∧ ∀ i, -((n : Int) * c) ≤ h i := by
  refine ⟨iter (jac l) (n - 1), settled h0 hin hx (rnd_jac l), iter_le (rnd_jac l) _, fun i => ?_⟩
  have h1 := jac_low hc hm (n - 1) i
  have h2 : ((n - 1 : Nat) : Int) * c ≤ (n : Int) * c := Int.mul_le_mul_of_nonneg_right (by omega) hc
  omega
end Bf
end Go.Proofs.YtchpbdecipcelaaGreatDoor
