/- The abstract logic: '==' of structs and arrays of numbers, truth values and strings. -/
import Derived.Test.YticlpcgkaffdmaaAlOps
import Derived.ChangeKeysEq
namespace Go.Proofs.Yticlpcgkaffdmaa
set_option linter.unusedSectionVars false
set_option linter.unusedVariables false
set_option linter.unusedSimpArgs false
open Go.RowKit

def valOf (agg : Bool) (vs : List Value) : Value := bif agg then .agg vs.toArray else (vs[0]?).getD undef
def aggT (P : Program) (t : Nat) : Bool := match P.underlying t with
  | some d => (tkOf d).agg
  | none => false
theorem eqW_len : ∀ {ks : List CK} {vs us : List Value} {b : Bool}, eqW ks vs us = some b → vs.length = ks.length ∧ us.length = ks.length := by
  intro ks
  induction ks with
  | nil => intro vs us b h; cases vs <;> cases us <;> simp only [eqW, reduceCtorEq] at h; exact ⟨rfl, rfl⟩
  | cons k ks ih =>
    intro vs us b h
    unfold eqW at h
    split at h
    · cases ‹_ :: _ = []›
    · rename_i e; cases e
      split at h
      · obtain ⟨c, hc, _⟩ := Option.map_eq_some_iff.1 h
        have := ih hc
        simp only [List.length_cons]; omega
      · cases h
    · rename_i e; cases e
      obtain ⟨c, hc, _⟩ := Option.map_eq_some_iff.1 h
      have := ih hc
      simp only [List.length_cons]; omega
    · rename_i e; cases e
      obtain ⟨c, hc, _⟩ := Option.map_eq_some_iff.1 h
      have := ih hc
      simp only [List.length_cons]; omega
    · cases h
theorem eqW_append : ∀ {k1 k2 : List CK} {vs us : List Value} {b : Bool}, eqW (k1 ++ k2) vs us = some b →
    ∃ b1 b2, eqW k1 (vs.take k1.length) (us.take k1.length) = some b1 ∧ eqW k2 (vs.drop k1.length) (us.drop k1.length) = some b2 ∧ b = (b1 && b2) := by
  intro k1
  induction k1 with
  | nil => intro k2 vs us b h; exact ⟨true, b, by simp [eqW], by simpa using h, by simp⟩
  | cons k ks ih =>
    intro k2 vs us b h
    rw [List.cons_append] at h
    unfold eqW at h
    split at h
    · cases ‹_ :: _ = []›
    · rename_i ks' k1 a xs k2 c ys e; cases e
      split at h
      · rename_i hk
        obtain ⟨c', hc, hb⟩ := Option.map_eq_some_iff.1 h
        obtain ⟨b1, b2, e1, e2, rfl⟩ := ih hc
        exact ⟨decide (a = c) && b1, b2, by simp [eqW, hk, e1], by simpa using e2, by rw [← hb, Bool.and_assoc]⟩
      · cases h
    · rename_i ks' a xs c ys e; cases e
      obtain ⟨c', hc, hb⟩ := Option.map_eq_some_iff.1 h
      obtain ⟨b1, b2, e1, e2, rfl⟩ := ih hc
      exact ⟨decide (a = c) && b1, b2, by simp [eqW, e1], by simpa using e2, by rw [← hb, Bool.and_assoc]⟩
    · rename_i ks' a xs c ys e; cases e
      obtain ⟨c', hc, hb⟩ := Option.map_eq_some_iff.1 h
      obtain ⟨b1, b2, e1, e2, rfl⟩ := ih hc
      exact ⟨a.toList == c.toList && b1, b2, by simp [eqW, e1], by simpa using e2, by rw [← hb, Bool.and_assoc]⟩
    · cases h

theorem part_val {P : Program} {t : Nat} {x : TypeInfo} (hx : P.info? t = some x) {d : TypeDesc} (hd : P.underlying t = some d) {cs : List Value} {off k : Nat} (hk : x.size = k) (hl : ((cs.drop off).take k).length = k)
    (h1 : aggT P t = false → k = 1) (w : World) : (part t cs.toArray off).run P w = .ok (valOf (aggT P t) ((cs.drop off).take k)) w := by
  have ha : (isAgg t).run P w = .ok (aggT P t) w := by
    unfold aggT
    rw [hd]
    cases d <;> simp [isAgg, underlying, program, Sem.run, hd, tkOf, TK.agg]
  have hs : (sizeOf t).run P w = .ok k w := by simp [sizeOf, typeInfo, hx, program, Sem.run, hk]
  simp only [part, Sem.run_bind, ha, Result.andThen_ok]
  cases hagg : aggT P t
  · have := h1 hagg
    subst this
    have hlen : off < cs.length := by simp at hl; omega
    have e : (cs.drop off).take 1 = [cs[off]] := by rw [List.drop_eq_getElem_cons hlen]; rfl
    simp [valOf, e, hlen]
  · simp only [if_true, Sem.run_bind, hs, Result.andThen_ok, Sem.run_pure, valOf, cond_true]
    congr 2
    simp [List.extract_eq_take_drop]

section
variable {P : Program}
def EqAt (P : Program) (n : Nat) (t : Nat) (ks : List CK) : Prop := (aggT P t = false → ks.length = 1) ∧ ∀ (d : Nat) (vs us : List Value) (b : Bool) (w : World), n ≤ d → eqW ks vs us = some b → (Op.equalIn d t (valOf (aggT P t) vs) (valOf (aggT P t) us)).run P w = .ok b w
def eqStep (P : Program) (n : Nat) (acc : Option (List CK)) (f : Field) : Option (List CK) := match acc, eqKs P n f.type, P.info? f.type with
  | some ks, some k1, some i => if f.name ≠ "_" ∧ f.offset = ks.length ∧ i.size = k1.length then some (ks ++ k1) else none
  | _, _, _ => none
theorem eqStep_none (n : Nat) : ∀ (fs : List Field), fs.foldl (eqStep P n) none = none
  | [] => rfl
  | f :: fs => by rw [List.foldl_cons, show eqStep P n none f = none from by simp [eqStep]]; exact eqStep_none n fs
theorem eqKs_und {n t : Nat} {ks : List CK} (h : eqKs P n t = some ks) : ∃ d, P.underlying t = some d := by
  cases n with
  | zero => simp [eqKs] at h
  | succ n =>
    unfold eqKs at h
    cases hd : P.underlying t with
    | none => rw [hd] at h; cases h
    | some d => exact ⟨d, rfl⟩
theorem eqFields_sound {n : Nat} (ih : ∀ (t : Nat) (ks : List CK), eqKs P n t = some ks → EqAt P n t ks) (d : Nat) (hd : n ≤ d) (xs ys : List Value) :
    ∀ (fs : List Field) (acc ks : List CK), fs.foldl (eqStep P n) (some acc) = some ks → ∃ ks1, ks = acc ++ ks1 ∧ ∀ (b : Bool) (w : World), eqW ks1 (xs.drop acc.length) (ys.drop acc.length) = some b → (Op.eqFields d xs.toArray ys.toArray fs).run P w = .ok b w
  | [], acc, ks, h => by
    simp only [List.foldl_nil, Option.some.injEq] at h
    refine ⟨[], by simp [h], fun b w hb => ?_⟩
    generalize xs.drop acc.length = u at hb
    generalize ys.drop acc.length = v at hb
    cases u <;> cases v <;> simp only [eqW, reduceCtorEq, Option.some.injEq] at hb
    subst hb
    simp [Op.eqFields]
  | f :: fs, acc, ks, h => by
    rw [List.foldl_cons] at h
    cases hst : eqStep P n (some acc) f with
    | none => rw [hst, eqStep_none] at h; cases h
    | some acc' =>
      rw [hst] at h
      unfold eqStep at hst
      split at hst
      · rename_i k0 k1 i e1 e2 e3
        cases e1
        split at hst
        · rename_i hc
          cases hst
          obtain ⟨h1, h2, h3⟩ := hc
          obtain ⟨ks2, rfl, hr⟩ := eqFields_sound ih d hd xs ys fs _ ks h
          refine ⟨k1 ++ ks2, by simp, fun b w hb => ?_⟩
          obtain ⟨b1, b2, g1, g2, rfl⟩ := eqW_append hb
          obtain ⟨i1, i2⟩ := ih _ _ e2
          obtain ⟨dd, hdd⟩ := eqKs_und e2
          have hl := eqW_len g1
          have p1 := part_val e3 hdd (cs := xs) (off := f.offset) h3 (by rw [h2]; exact hl.1) i1 w
          have p2 := part_val e3 hdd (cs := ys) (off := f.offset) h3 (by rw [h2]; exact hl.2) i1 w
          rw [h2] at p1 p2
          have p3 := i2 d _ _ _ w hd g1
          have p4 := hr b2 w (by rw [List.length_append]; simpa [List.drop_drop] using g2)
          unfold Op.eqFields
          rw [if_pos h1]
          simp only [Sem.run_bind, h2, p1, p2, p3, Result.andThen_ok]
          cases b1
          · simp
          · simp [p4]
        · cases hst
      · cases hst
theorem eqItems_sound {n e : Nat} {k1 : List CK} {x : TypeInfo} (hE : EqAt P n e k1) (hk : ∃ d, P.underlying e = some d) (hx : P.info? e = some x) (hsz : x.size = k1.length) (d : Nat) (hd : n ≤ d) (xs ys : List Value) :
    ∀ (m s : Nat) (b : Bool) (w : World), eqW (List.replicate m k1).flatten (xs.drop (s * k1.length)) (ys.drop (s * k1.length)) = some b → (Op.eqItems d e k1.length xs.toArray ys.toArray (List.range' s m)).run P w = .ok b w
  | 0, s, b, w, h => by
    simp only [List.replicate_zero, List.flatten_nil] at h
    generalize xs.drop _ = u at h
    generalize ys.drop _ = v at h
    cases u <;> cases v <;> simp only [eqW, reduceCtorEq, Option.some.injEq] at h
    subst h
    simp [Op.eqItems]
  | m + 1, s, b, w, h => by
    rw [List.replicate_succ, List.flatten_cons] at h
    obtain ⟨b1, b2, g1, g2, rfl⟩ := eqW_append h
    obtain ⟨dd, hdd⟩ := hk
    have hl := eqW_len g1
    have p1 := part_val hx hdd (cs := xs) (off := s * k1.length) hsz hl.1 hE.1 w
    have p2 := part_val hx hdd (cs := ys) (off := s * k1.length) hsz hl.2 hE.1 w
    have p3 := hE.2 d _ _ _ w hd g1
    have p4 := eqItems_sound hE ⟨dd, hdd⟩ hx hsz d hd xs ys m (s + 1) b2 w (by simpa [List.drop_drop, Nat.add_mul] using g2)
    rw [List.range'_succ]
    unfold Op.eqItems
    simp only [Sem.run_bind, p1, p2, p3, Result.andThen_ok]
    cases b1
    · simp
    · simp [p4]
theorem eqKs_sound : ∀ (n t : Nat) (ks : List CK), eqKs P n t = some ks → EqAt P n t ks := by
  intro n
  induction n with
  | zero => intro t ks h; simp [eqKs] at h
  | succ n ih =>
    intro t ks h
    unfold eqKs at h
    split at h
    · rename_i k hu
      cases h
      have ha : aggT P t = false := by simp [aggT, hu, tkOf, TK.agg]
      refine ⟨fun _ => rfl, fun d vs us b w hd hb => ?_⟩
      obtain ⟨d, rfl⟩ : ∃ d', d = d' + 1 := ⟨d - 1, by omega⟩
      unfold eqW at hb
      split at hb <;> try (cases ‹_ = ([] : List CK)›; done)
      · rename_i e; cases e
        split at hb
        · rename_i hkk
          subst hkk
          obtain ⟨c, hc, rfl⟩ := Option.map_eq_some_iff.1 hb
          have hl := eqW_len hc
          obtain rfl := List.eq_nil_of_length_eq_zero hl.1
          obtain rfl := List.eq_nil_of_length_eq_zero hl.2
          simp only [eqW, Option.some.injEq] at hc
          subst hc
          rw [ha]
          simp only [valOf, cond_false, List.getElem?_cons_zero, Option.getD_some]
          rw [run_equalIn_int w d t _ k _ _ hu]
          congr 1
          rw [Bool.eq_iff_iff]; simp
        · cases hb
      · rename_i e; cases e
      · rename_i e; cases e
      · cases hb
    · rename_i hu
      cases h
      have ha : aggT P t = false := by simp [aggT, hu, tkOf, TK.agg]
      refine ⟨fun _ => rfl, fun d vs us b w hd hb => ?_⟩
      obtain ⟨d, rfl⟩ : ∃ d', d = d' + 1 := ⟨d - 1, by omega⟩
      unfold eqW at hb
      split at hb <;> try (cases ‹_ = ([] : List CK)›; done)
      · rename_i e; cases e
      · rename_i e; cases e
        obtain ⟨c, hc, rfl⟩ := Option.map_eq_some_iff.1 hb
        have hl := eqW_len hc
        obtain rfl := List.eq_nil_of_length_eq_zero hl.1
        obtain rfl := List.eq_nil_of_length_eq_zero hl.2
        simp only [eqW, Option.some.injEq] at hc
        subst hc
        rw [ha]
        simp only [valOf, cond_false, List.getElem?_cons_zero, Option.getD_some]
        rw [run_equalIn_bool' w d t _ _ hu]
        congr 1
        rw [Bool.eq_iff_iff]; simp
      · rename_i e; cases e
      · cases hb
    · rename_i hu
      cases h
      have ha : aggT P t = false := by simp [aggT, hu, tkOf, TK.agg]
      refine ⟨fun _ => rfl, fun d vs us b w hd hb => ?_⟩
      obtain ⟨d, rfl⟩ : ∃ d', d = d' + 1 := ⟨d - 1, by omega⟩
      unfold eqW at hb
      split at hb <;> try (cases ‹_ = ([] : List CK)›; done)
      · rename_i e; cases e
      · rename_i e; cases e
      · rename_i e; cases e
        obtain ⟨c, hc, rfl⟩ := Option.map_eq_some_iff.1 hb
        have hl := eqW_len hc
        obtain rfl := List.eq_nil_of_length_eq_zero hl.1
        obtain rfl := List.eq_nil_of_length_eq_zero hl.2
        simp only [eqW, Option.some.injEq] at hc
        subst hc
        rw [ha]
        simp only [valOf, cond_false, List.getElem?_cons_zero, Option.getD_some]
        rw [run_equalIn_string w d t _ _ hu]
        simp
      · cases hb
    · rename_i fs hu
      have ha : aggT P t = true := by simp [aggT, hu, tkOf, TK.agg]
      split at h
      · cases h
      · rename_i hst
        refine ⟨(fun h => by rw [ha] at h; cases h), fun d vs us b w hd hb => ?_⟩
        obtain ⟨d, rfl⟩ : ∃ d', d = d' + 1 := ⟨d - 1, by omega⟩
        have hfo : P.fieldsOf t = fs := by simp [Program.fieldsOf, hu]
        obtain ⟨ks1, e1, e2⟩ := eqFields_sound ih d (by omega) vs us fs.toList [] ks h
        simp only [List.nil_append] at e1
        subst e1
        rw [ha]
        simp only [valOf, cond_true]
        rw [run_equalIn_struct w d t _ _ (by rw [hfo]; exact hu) (by simpa using hst), hfo]
        exact e2 b w (by simpa using hb)
    · rename_i len e hu
      have ha : aggT P t = true := by simp [aggT, hu, tkOf, TK.agg]
      split at h
      · rename_i k1 i h1 h2
        split at h
        · rename_i hsz
          cases h
          refine ⟨(fun h => by rw [ha] at h; cases h), fun d vs us b w hd hb => ?_⟩
          obtain ⟨d, rfl⟩ : ∃ d', d = d' + 1 := ⟨d - 1, by omega⟩
          rw [ha]
          simp only [valOf, cond_true]
          rw [run_equalIn_array w d _ _ hu h2, show P.cellsOf e = k1.length from by simp [Program.cellsOf, h2, hsz], List.range_eq_range']
          exact eqItems_sound (ih _ _ h1) (eqKs_und h1) h2 hsz d (by omega) vs us len 0 b w (by simpa using hb)
        · cases h
      · cases h
    · cases h
end
end Go.Proofs.Yticlpcgkaffdmaa
