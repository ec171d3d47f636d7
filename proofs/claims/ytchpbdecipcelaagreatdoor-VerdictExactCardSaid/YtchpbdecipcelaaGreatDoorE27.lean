import Derived.Test.YtchpbdecipcelaaGreatDoorE26
namespace Go.Proofs.YtchpbdecipcelaaGreatDoor
set_option linter.unusedVariables false
set_option linter.unusedSimpArgs false
set_option maxHeartbeats 4000000
set_option maxRecDepth 100000
namespace Bf
def fn (l : List Int) : Nat → Int := fun i => l.getD i 0
def relaxL (t : List Int) (e : E) : List Int := t.set e.b (min (t.getD e.b 0) (t.getD e.a 0 + e.m))
theorem relaxL_len (t : List Int) (e : E) : (relaxL t e).length = t.length := by simp [relaxL]
theorem getD_set {t : List Int} {i j : Nat} {v : Int} (h : i < t.length) : (t.set i v).getD j 0 = if j = i then v else t.getD j 0 := by
  rw [List.getD_eq_getElem?_getD, List.getElem?_set, List.getD_eq_getElem?_getD]
  by_cases hji : j = i
  · subst hji; simp [h]
  · rw [if_neg (fun e => hji e.symm), if_neg hji]
theorem fn_relaxL {t : List Int} {e : E} (h : e.b < t.length) : fn (relaxL t e) = relax (fn t) e := by
  funext i
  unfold fn relaxL relax
  rw [getD_set h]
def sweepL (c : Int) : List E → List Int → Option (List Int)
  | [], t => some t
  | e :: l, t => if (relaxL t e).getD e.b 0 < -c then none else sweepL c l (relaxL t e)
def viol (l : List E) (t : List Int) : Bool := l.any fun e => decide (t.getD e.a 0 + e.m < t.getD e.b 0)
def possL (c : Int) (l : List E) : Nat → List Int → Bool
  | 0, _ => false
  | k + 1, t => if viol l t then (match sweepL c l t with | none => false | some t' => possL c l k t') else true
theorem viol_iff {l : List E} {t : List Int} : viol l t = false ↔ keepsAll l (fn t) := by
  unfold viol keepsAll keeps fn
  rw [List.any_eq_false]
  constructor
  · intro h e he
    have := h e he
    simp only [decide_eq_true_eq] at this
    omega
  · intro h e he
    have := h e he
    simp only [decide_eq_true_eq]
    omega
theorem sweepL_some {c : Int} {h : Nat → Int} (hc : ∀ i, -c ≤ h i) : ∀ (l : List E) (t : List Int), (∀ e ∈ l, e.a < t.length ∧ e.b < t.length) → keepsAll l h → (∀ i, h i ≤ fn t i) → ∃ t', sweepL c l t = some t' ∧ t'.length = t.length ∧ fn t' = sweep l (fn t)
  | [], t, _, _, _ => ⟨t, rfl, rfl, rfl⟩
  | e :: l, t, hin, hk, hf => by
    have hb := (hin e (by simp)).2
    have h1 := relax_ge (hk e (by simp)) hf
    rw [← fn_relaxL hb] at h1
    have h2 := h1 e.b
    have h3 := hc e.b
    unfold sweepL
    rw [if_neg (by have : (relaxL t e).getD e.b 0 = fn (relaxL t e) e.b := rfl; rw [this]; omega)]
    obtain ⟨t', e1, e2, e3⟩ := sweepL_some hc l (relaxL t e) (fun e' he => by rw [relaxL_len]; exact hin e' (by simp [he])) (fun e' he => hk e' (by simp [he])) h1
    refine ⟨t', e1, by rw [e2, relaxL_len], ?_⟩
    rw [e3, fn_relaxL hb]
    rfl
theorem fn_zero (n : Nat) : fn (List.replicate n 0) = fun _ => 0 := by
  funext i
  unfold fn
  rw [List.getD_eq_getElem?_getD, List.getElem?_replicate]
  split <;> rfl
theorem possL_true {c : Int} {l : List E} : ∀ (k : Nat) (t : List Int), possL c l k t = true → ∃ x, keepsAll l x
  | 0, _, h => by cases h
  | k + 1, t, h => by
    unfold possL at h
    split at h
    · split at h
      · cases h
      · exact possL_true k _ h
    · rename_i hv
      exact ⟨fn t, viol_iff.1 (by simpa using hv)⟩
structure Ok (l : List E) (n : Nat) (c : Int) : Prop where
  pos : 0 < n
  inn : ∀ e ∈ l, e.a < n ∧ e.b < n
  nn : 0 ≤ c
  most : ∀ e ∈ l, -c ≤ e.m
theorem possL_of {l : List E} {n : Nat} {c : Int} (ho : Ok l n c) {x : Nat → Int} (hx : keepsAll l x) {h : Nat → Int} (hk : keepsAll l h) (h0 : ∀ i, h i ≤ 0) (hc : ∀ i, -((n : Int) * c) ≤ h i) :
    ∀ (k j : Nat) (t : List Int), t.length = n → fn t = iter (sweep l) j → j ≤ n - 1 → k + j = n + 1 → possL ((n : Int) * c) l k t = true
  | 0, j, _, _, _, hj, hkj => by have := ho.pos; omega
  | k + 1, j, t, ht, hf, hj, hkj => by
    unfold possL
    split
    · rename_i hv
      have hjn : j ≠ n - 1 := fun e => by
        have hs := settled ho.pos ho.inn hx (rnd_sweep l)
        rw [← e, ← hf] at hs
        rw [viol_iff.2 hs] at hv
        cases hv
      obtain ⟨t', e1, e2, e3⟩ := sweepL_some (c := (n : Int) * c) hc l t (fun e he => by rw [ht]; exact ho.inn e he) hk (fun i => by rw [hf]; exact iter_ge (rnd_sweep l) hk h0 j i)
      rw [e1]
      exact possL_of ho hx hk h0 hc k (j + 1) t' (e2.trans ht) (by rw [e3, hf]; rfl) (by omega) (by omega)
    · rfl
theorem possL_iff {l : List E} {n : Nat} {c : Int} (ho : Ok l n c) : possL ((n : Int) * c) l (n + 1) (List.replicate n 0) = true ↔ ∃ x, keepsAll l x := by
  constructor
  · exact possL_true _ _
  · rintro ⟨x, hx⟩
    obtain ⟨h, h1, h2, h3⟩ := best ho.pos ho.inn hx ho.nn ho.most
    exact possL_of ho hx h1 h2 h3 (n + 1) 0 _ (by simp) (fn_zero n) (by omega) (by omega)
abbrev Sk := Bool × E
def used (l : List Sk) : List E := (l.filter fun s => !s.1).map (·.2)
def stepSk (t : List Int × Bool) (s : Sk) : List Int × Bool := if !s.1 && decide (t.1.getD s.2.a 0 + s.2.m < t.1.getD s.2.b 0) then (t.1.set s.2.b (t.1.getD s.2.a 0 + s.2.m), true) else t
def roundL (c : Int) : List Sk → List Int × Bool → Option (List Int × Bool)
  | [], t => some t
  | s :: l, t => if (stepSk t s).1.getD s.2.b 0 < -c then none else roundL c l (stepSk t s)
theorem stepSk_len (t : List Int × Bool) (s : Sk) : (stepSk t s).1.length = t.1.length ∧ (t.2 = true → (stepSk t s).2 = true) := by
  unfold stepSk
  split
  · exact ⟨by simp, fun _ => rfl⟩
  · exact ⟨rfl, id⟩
theorem stepSk_skip (t : List Int × Bool) {s : Sk} (h : s.1 = true) : stepSk t s = t := by unfold stepSk; rw [h]; simp
theorem stepSk_lt (t : List Int × Bool) {s : Sk} (h : s.1 = false) (hlt : t.1.getD s.2.a 0 + s.2.m < t.1.getD s.2.b 0) : stepSk t s = (t.1.set s.2.b (t.1.getD s.2.a 0 + s.2.m), true) := by
  unfold stepSk; rw [h, decide_eq_true hlt]; rfl
theorem stepSk_ge (t : List Int × Bool) {s : Sk} (h : s.1 = false) (hlt : ¬ t.1.getD s.2.a 0 + s.2.m < t.1.getD s.2.b 0) : stepSk t s = t := by
  unfold stepSk; rw [h, decide_eq_false hlt]; rfl
def timesL (c : Int) (l : List Sk) : Nat → List Int → Option (List Int)
  | 0, _ => none
  | k + 1, t => match roundL c l (t, false) with
    | none => none
    | some (t', ch) => if ch then timesL c l k t' else some t'
theorem fn_set {t : List Int} {e : E} (h : e.b < t.length) (hlt : t.getD e.a 0 + e.m < t.getD e.b 0) : t.set e.b (t.getD e.a 0 + e.m) = relaxL t e := by
  unfold relaxL
  rw [Int.min_def, if_neg (by omega)]
theorem relaxL_same {t : List Int} {e : E} (h : e.b < t.length) (hle : ¬ t.getD e.a 0 + e.m < t.getD e.b 0) : relaxL t e = t := by
  unfold relaxL
  rw [Int.min_def, if_pos (by omega)]
  refine List.ext_getElem (by simp) fun i h1 h2 => ?_
  rw [List.getElem_set]
  split
  · rename_i hi; subst hi
    simp [List.getD_eq_getElem?_getD, h]
  · rfl
theorem used_cons (s : Sk) (l : List Sk) : used (s :: l) = if s.1 then used l else s.2 :: used l := by
  unfold used
  cases h : s.1 <;> simp [h]
theorem roundL_some {c : Int} {h : Nat → Int} (hc : ∀ i, -c ≤ h i) : ∀ (l : List Sk) (t : List Int) (ch : Bool), (∀ s ∈ l, s.2.a < t.length ∧ s.2.b < t.length) → keepsAll (used l) h → (∀ i, h i ≤ fn t i) →
    ∃ t' ch', roundL c l (t, ch) = some (t', ch') ∧ t'.length = t.length ∧ fn t' = sweep (used l) (fn t)
  | [], t, ch, _, _, _ => ⟨t, ch, rfl, rfl, rfl⟩
  | s :: l, t, ch, hin, hk, hf => by
    have hb := (hin s (by simp)).2
    unfold roundL
    rw [used_cons] at hk ⊢
    cases hs : s.1 with
    | true =>
      rw [hs, if_pos rfl] at hk
      rw [if_pos rfl, stepSk_skip _ hs]
      have h1 := hf s.2.b
      have h2 := hc s.2.b
      rw [if_neg (by have : t.getD s.2.b 0 = fn t s.2.b := rfl; simp only [this]; omega)]
      exact roundL_some hc l t ch (fun e he => hin e (by simp [he])) hk hf
    | false =>
      rw [hs, if_neg (by decide)] at hk
      rw [if_neg (show ¬ (false = true) by decide)]
      have h1 := relax_ge (hk s.2 (by simp)) hf
      rw [← fn_relaxL hb] at h1
      have h2 := h1 s.2.b
      have h3 := hc s.2.b
      have hne : ¬ (relaxL t s.2).getD s.2.b 0 < -c := by have : (relaxL t s.2).getD s.2.b 0 = fn (relaxL t s.2) s.2.b := rfl; rw [this]; omega
      by_cases hlt : t.getD s.2.a 0 + s.2.m < t.getD s.2.b 0
      · rw [stepSk_lt (t, ch) hs hlt, fn_set hb hlt, if_neg hne]
        obtain ⟨t', ch', e1, e2, e3⟩ := roundL_some hc l (relaxL t s.2) true (fun e he => by rw [relaxL_len]; exact hin e (by simp [he])) (fun e he => hk e (by simp [he])) h1
        exact ⟨t', ch', e1, by rw [e2, relaxL_len], by rw [e3, fn_relaxL hb]; rfl⟩
      · have hsame := relaxL_same hb hlt
        rw [hsame] at hne h1
        rw [stepSk_ge (t, ch) hs hlt, if_neg hne]
        obtain ⟨t', ch', e1, e2, e3⟩ := roundL_some hc l t ch (fun e he => hin e (by simp [he])) (fun e he => hk e (by simp [he])) h1
        refine ⟨t', ch', e1, e2, ?_⟩
        rw [e3]
        show sweep (used l) (fn t) = sweep (used l) (relax (fn t) s.2)
        rw [← fn_relaxL hb, hsame]
theorem roundL_len {c : Int} : ∀ (l : List Sk) (t : List Int × Bool) (r : List Int × Bool), roundL c l t = some r → r.1.length = t.1.length ∧ (t.2 = true → r.2 = true)
  | [], t, r, h => by cases h; exact ⟨rfl, id⟩
  | s :: l, t, r, h => by
    unfold roundL at h
    split at h
    · cases h
    · obtain ⟨h1, h2⟩ := roundL_len l _ r h
      obtain ⟨h3, h4⟩ := stepSk_len t s
      exact ⟨h1.trans h3, fun e => h2 (h4 e)⟩
theorem roundL_still {c : Int} : ∀ (l : List Sk) (t : List Int) (t' : List Int), roundL c l (t, false) = some (t', false) → t' = t ∧ keepsAll (used l) (fn t)
  | [], t, t', h => by cases h; exact ⟨rfl, fun e he => by cases he⟩
  | s :: l, t, t', h => by
    unfold roundL at h
    split at h
    · cases h
    · rw [used_cons]
      cases hs : s.1 with
      | true =>
        rw [stepSk_skip _ hs] at h
        rw [if_pos rfl]
        exact roundL_still l t t' h
      | false =>
        rw [if_neg (by decide)]
        by_cases hlt : t.getD s.2.a 0 + s.2.m < t.getD s.2.b 0
        · rw [stepSk_lt (t, false) hs hlt] at h
          have := (roundL_len l _ _ h).2 rfl
          cases this
        · rw [stepSk_ge (t, false) hs hlt] at h
          obtain ⟨rfl, h2⟩ := roundL_still l t t' h
          refine ⟨rfl, fun e he => ?_⟩
          rcases List.mem_cons.1 he with rfl | he
          · unfold keeps fn; omega
          · exact h2 e he
theorem timesL_some {c : Int} {l : List Sk} : ∀ (k : Nat) (t : List Int) (r : List Int), timesL c l k t = some r → r.length = t.length ∧ keepsAll (used l) (fn r)
  | 0, _, _, h => by cases h
  | k + 1, t, r, h => by
    unfold timesL at h
    split at h
    · cases h
    · rename_i t' ch e
      cases ch with
      | true =>
        rw [if_pos rfl] at h
        obtain ⟨h1, h2⟩ := timesL_some k t' r h
        exact ⟨h1.trans (roundL_len _ _ _ e).1, h2⟩
      | false =>
        rw [if_neg (by decide)] at h
        cases h
        obtain ⟨rfl, h2⟩ := roundL_still _ _ _ e
        exact ⟨rfl, h2⟩
theorem timesL_of {l : List Sk} {n : Nat} {c : Int} (ho : Ok (used l) n c) (hin : ∀ s ∈ l, s.2.a < n ∧ s.2.b < n) {x : Nat → Int} (hx : keepsAll (used l) x) {h : Nat → Int} (hk : keepsAll (used l) h) (h0 : ∀ i, h i ≤ 0) (hc : ∀ i, -((n : Int) * c) ≤ h i) :
    ∀ (k j : Nat) (t : List Int), t.length = n → fn t = iter (sweep (used l)) j → j ≤ n - 1 → k + j = n + 1 → timesL ((n : Int) * c) l k t ≠ none
  | 0, j, _, _, _, hj, hkj => by have := ho.pos; omega
  | k + 1, j, t, ht, hf, hj, hkj => by
    obtain ⟨t', ch, e1, e2, e3⟩ := roundL_some (c := (n : Int) * c) hc l t false (fun s hs => by rw [ht]; exact hin s hs) hk (fun i => by rw [hf]; exact iter_ge (rnd_sweep _) hk h0 j i)
    unfold timesL
    rw [e1]
    cases ch with
    | false => simp
    | true =>
      simp only [if_true]
      by_cases hjn : j = n - 1
      · have hs := settled ho.pos ho.inn hx (rnd_sweep (used l))
        rw [← hjn, ← hf] at hs
        exfalso
        have hst : ∀ (l : List Sk) (t : List Int), (∀ s ∈ l, s.2.b < t.length) → keepsAll (used l) (fn t) → ∀ r, roundL ((n : Int) * c) l (t, false) = some r → r.2 = false := by
          intro l
          induction l with
          | nil => intro t _ _ r hr; cases hr; rfl
          | cons s l ih =>
            intro t hb hk r hr
            unfold roundL at hr
            rw [used_cons] at hk
            split at hr
            · cases hr
            · cases hs : s.1 with
              | true =>
                rw [hs, if_pos rfl] at hk
                rw [stepSk_skip _ hs] at hr
                exact ih t (fun s hs => hb s (by simp [hs])) hk r hr
              | false =>
                rw [hs, if_neg (by decide)] at hk
                have h1 := hk s.2 (by simp)
                unfold keeps fn at h1
                rw [stepSk_ge (t, false) hs (by simp only; omega)] at hr
                exact ih t (fun s hs => hb s (by simp [hs])) (fun e he => hk e (by simp [he])) r hr
        have := hst l t (fun s hs => by rw [ht]; exact (hin s hs).2) hs _ e1
        cases this
      · exact timesL_of ho hin hx hk h0 hc k (j + 1) t' (e2.trans ht) (by rw [e3, hf]; rfl) (by omega) (by omega)
theorem timesL_iff {l : List Sk} {n : Nat} {c : Int} (ho : Ok (used l) n c) (hin : ∀ s ∈ l, s.2.a < n ∧ s.2.b < n) : (timesL ((n : Int) * c) l (n + 1) (List.replicate n 0)).isSome = true ↔ ∃ x, keepsAll (used l) x := by
  constructor
  · intro h
    obtain ⟨r, hr⟩ := Option.isSome_iff_exists.1 h
    exact ⟨fn r, (timesL_some _ _ _ hr).2⟩
  · rintro ⟨x, hx⟩
    obtain ⟨h, h1, h2, h3⟩ := best ho.pos ho.inn hx ho.nn ho.most
    have := timesL_of ho hin hx h1 h2 h3 (n + 1) 0 _ (by simp) (fn_zero n) (by omega) (by omega)
    exact Option.isSome_iff_ne_none.2 this
end Bf
end Go.Proofs.YtchpbdecipcelaaGreatDoor
