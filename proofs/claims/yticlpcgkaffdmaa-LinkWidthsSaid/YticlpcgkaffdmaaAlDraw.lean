/- The abstract logic: regions that draw their order, with a last part in the order of the text. -/
import Derived.Test.YticlpcgkaffdmaaAlLoop
namespace Go.Proofs.Yticlpcgkaffdmaa
set_option linter.unusedSectionVars false
set_option linter.unusedVariables false
set_option linter.unusedSimpArgs false
open Go.RowKit

/-- Each operation from a place on waits for all before it. -/
def tailOk (m0 : Nat) (full : List Oper) : Bool := full.zipIdx.all fun x => decide (x.2 < m0) || ((x.1.after.all fun e => decide (e.on < x.2)) && (List.range x.2).all fun k => x.1.after.any fun e => e.on == k && Region.binds .any e)
def depOk2 (ops l2 : List Oper) : Bool :=
  (((ops.filterMap (·.dst)).length == ops.length) && decide (ops.filterMap (·.dst)).Nodup &&
  ops.zipIdx.all fun x => (x.1.after.all fun e => decide (e.on < x.2)) && (x.1.looksAt (ops ++ l2).toArray).all fun t => ops.zipIdx.all fun y => y.1.dst != some t || (decide (y.2 < x.2) && x.1.after.any fun e => e.on == y.2 && Region.binds .any e)) &&
  tailOk ops.length (ops ++ l2)
theorem tailOk_sound {m0 : Nat} {full : List Oper} (h : tailOk m0 full = true) : ∀ i o, m0 ≤ i → full[i]? = some o → (∀ e ∈ o.after, e.on < i) ∧ ∀ k, k < i → ∃ e ∈ o.after, e.on = k ∧ Region.binds .any e = true := by
  intro i o hi ho
  simp only [tailOk, List.all_eq_true] at h
  have := h (o, i) (by rw [List.mem_zipIdx_iff_getElem?]; simpa using ho)
  simp only [Bool.or_eq_true, decide_eq_true_eq, Bool.and_eq_true, List.all_eq_true, List.mem_range] at this
  rcases this with h | ⟨h1, h2⟩
  · omega
  · rw [Array.all_eq_true_iff_forall_mem] at h1
    refine ⟨fun e he => by simpa using h1 e he, fun k hk => ?_⟩
    have := h2 k hk
    rw [Array.any_eq_true'] at this
    obtain ⟨e, he, h3⟩ := this
    simp only [Bool.and_eq_true, beq_iff_eq] at h3
    exact ⟨e, he, h3.1, h3.2⟩
theorem wpAny_tail {F : Fence} {n : Nat} {P : Program} {full : List Oper} {Q : Exit → Act → World → Prop} {m0 : Nat} (htail : ∀ i o, m0 ≤ i → full[i]? = some o → (∀ e ∈ o.after, e.on < i) ∧ ∀ k, k < i → ∃ e ∈ o.after, e.on = k ∧ Region.binds .any e = true) :
    ∀ (fuel m : Nat) (listed : Array Bool) (a : Act) (w : World), m0 ≤ m → full.length - m ≤ fuel → listed.size = full.length → (∀ k, k < full.length → listed.getD k false = decide (k < m)) → wpListIn F n P full.toArray Q (full.drop m) a w → wpAnyIn F n P .any full.toArray Q fuel listed a w := by
  have ready : ∀ (m : Nat) (listed : Array Bool), m0 ≤ m → listed.size = full.length → (∀ k, k < full.length → listed.getD k false = decide (k < m)) → (∀ i ∈ Region.ready .any full.toArray listed, i = m) ∧ (m < full.length → m ∈ Region.ready .any full.toArray listed) := by
    intro m listed hm hsz hl
    refine ⟨fun i hi => ?_, fun hlt => ?_⟩
    · obtain ⟨h1, o, h2, h3⟩ := mem_ready.1 hi
      have ho : full[i]? = some o := by simpa using h2
      have hil : i < full.length := (List.getElem?_eq_some_iff.1 ho).1
      rw [getD_any (by omega) true false, hl i hil] at h1
      have h4 : m ≤ i := by simpa using h1
      rcases Nat.lt_or_ge m i with h | h
      · obtain ⟨_, h5⟩ := htail i o (by omega) ho
        obtain ⟨e, he, rfl, hb⟩ := h5 m h
        have := h3 e he hb
        rw [hl _ (by omega)] at this
        simp at this
      · omega
    · rw [mem_ready]
      refine ⟨by rw [getD_any (by omega) true false, hl m hlt]; simp, full[m], by simp [List.getElem?_eq_getElem hlt], fun e he _ => ?_⟩
      have := (htail m full[m] hm (List.getElem?_eq_getElem hlt)).1 e he
      rw [hl _ (by omega)]; simp [this]
  intro fuel
  induction fuel with
  | zero =>
    intro m listed a w hm hf hsz hl h
    have hnil : full.drop m = [] := List.drop_eq_nil_of_le (by omega)
    rw [hnil] at h
    refine ⟨?_, h⟩
    rw [List.eq_nil_iff_forall_not_mem]
    intro i hi
    have h1 := (ready m listed hm hsz hl).1 i hi
    obtain ⟨_, o, h2, _⟩ := mem_ready.1 hi
    have : i < full.length := by simpa using (Array.getElem?_eq_some_iff.1 h2).1
    omega
  | succ fuel ih =>
    intro m listed a w hm hf hsz hl h
    refine ⟨fun hr => ?_, fun i hi => ?_⟩
    · have hge : full.length ≤ m := by
        rcases Nat.lt_or_ge m full.length with hlt | hge
        · have := (ready m listed hm hsz hl).2 hlt
          rw [hr] at this; cases this
        · exact hge
      rw [List.drop_eq_nil_of_le hge] at h
      exact h
    · obtain rfl := (ready m listed hm hsz hl).1 i hi
      obtain ⟨_, o, h2, _⟩ := mem_ready.1 hi
      have ho : full[i]? = some o := by simpa using h2
      have hil : i < full.length := (List.getElem?_eq_some_iff.1 ho).1
      have hnext : ∀ a w, wpListIn F n P full.toArray Q (full.drop (i + 1)) a w → wpAnyIn F n P .any full.toArray Q fuel (listed.setIfInBounds i true) a w := fun a w h =>
        ih (i + 1) _ a w (by omega) (by omega) (by simpa using hsz) (fun k hk => by
          by_cases hik : i = k
          · subst hik; rw [getD_set_self (by omega)]; simp
          · rw [getD_set_other hik, hl k hk]; simp; omega) h
      rw [List.drop_eq_getElem_cons hil, show full[i] = o from (List.getElem?_eq_some_iff.1 ho).2] at h
      unfold wpOpIn
      simp only [List.getElem?_toArray, ho]
      unfold wpListIn at h
      split
      · rename_i hw
        rw [if_pos hw] at h
        exact Oper.wpIn_mono hnext h
      · rename_i hw
        rw [if_neg hw] at h
        exact ⟨h.1, hnext _ _ h.2⟩

theorem wpAny2 {P : Program} {C : Ctx P} {opsL l2 full : List Oper} (hfull : full = opsL ++ l2) {es : List (Nat × (Bool × AV))} {st : ASt} {Q : Exit → Act → World → Prop} (hd : depOk2 opsL l2 = true) (hes : es.length = opsL.length)
    (hsp : ∀ (i : Nat) (o : Oper), opsL[i]? = some o → ∃ d g x, es[i]? = some (d, (g, x)) ∧ o.dst = some d ∧ OpSpec P full.toArray o { st with sl := (es.take i).reverse ++ st.sl } g x)
    (hQ : ∀ G a w, Sat C G a w { st with sl := es.reverse ++ st.sl } → wpListIn (fen C.round) 0 P full.toArray Q l2 a w) :
    ∀ (fuel : Nat) (listed : Array Bool) (G : Gh) (a : Act) (w : World), (List.range full.length).countP (fun k => !listed.getD k true) ≤ fuel → listed.size = full.length → (∀ k, opsL.length ≤ k → listed.getD k false = false) → Mid C opsL es st listed G a w → wpAnyIn (fen C.round) 0 P .any full.toArray Q fuel listed a w := by
  simp only [depOk2, ← hfull, Bool.and_eq_true, beq_iff_eq, decide_eq_true_eq, List.all_eq_true] at hd
  obtain ⟨⟨⟨hlen, hnd⟩, hdep⟩, htl⟩ := hd
  have htail := tailOk_sound htl
  have hfl : full.length = opsL.length + l2.length := by rw [hfull]; simp
  have hfg : ∀ k, k < opsL.length → full[k]? = opsL[k]? := fun k hk => by rw [hfull, List.getElem?_append_left hk]
  have hdst : es.map (·.1) = opsL.filterMap (·.dst) := by
    have h1 : ∀ (l : List Oper), (l.filterMap (·.dst)).length = l.length → ∀ (k : Nat) (o : Oper), l[k]? = some o → ∃ d, o.dst = some d ∧ (l.filterMap (·.dst))[k]? = some d := by
      intro l
      induction l with
      | nil => intro _ k o hk; simp at hk
      | cons x r ih =>
        intro hl k o hk
        have hle := List.length_filterMap_le (fun o : Oper => o.dst) r
        cases hx : x.dst with
        | none =>
          have hc : (List.filterMap (fun o : Oper => o.dst) r).length = r.length + 1 := by (simpa [List.filterMap_cons, hx] using hl)
          exact absurd hc (by omega)
        | some d =>
          rw [List.filterMap_cons_some hx] at hl ⊢
          cases k with
          | zero => simp only [List.getElem?_cons_zero, Option.some.injEq] at hk ⊢; subst hk; exact ⟨d, hx, rfl⟩
          | succ k => simp only [List.getElem?_cons_succ] at hk ⊢; exact ih (by simpa using hl) k o hk
    apply List.ext_getElem?
    intro k
    rw [List.getElem?_map]
    cases hk : opsL[k]? with
    | none =>
      have : opsL.length ≤ k := List.getElem?_eq_none_iff.1 hk
      rw [List.getElem?_eq_none (by omega), List.getElem?_eq_none (by omega)]; rfl
    | some o =>
      obtain ⟨d, g, x, e1, e2, _⟩ := hsp k o hk
      obtain ⟨d', e3, e4⟩ := h1 opsL hlen k o hk
      rw [e1, e4]
      rw [e2] at e3
      simpa using e3
  have hnd' : (es.map (·.1)).Nodup := by rw [hdst]; exact hnd
  -- an operation that is ready has all that it looks at
  have looks : ∀ (listed : Array Bool) (G : Gh) (a : Act) (w : World), Mid C opsL es st listed G a w → ∀ i o, opsL[i]? = some o → listed.getD i true = false → (∀ e ∈ o.after, Region.binds .any e = true → listed.getD e.on false = true) →
      ∀ t ∈ o.looksAt full.toArray, SlotOk G w a { st with sl := (es.take i).reverse ++ st.sl } t := by
    intro listed G a w hm i o hi hun hall t ht c x hl
    have hdi := hdep (o, i) (by rw [List.mem_zipIdx_iff_getElem?]; simpa using hi)
    have hdt := hdi.2 t ht
    simp only [ASt.look, lookN_append] at hl
    cases hlk : lookN t (es.take i).reverse with
    | none =>
      rw [hlk] at hl
      refine hm.old t (fun k ok hk hkt => ?_) c x hl
      have h2 := hdt (ok, k) (by rw [List.mem_zipIdx_iff_getElem?]; simpa using hk)
      simp only [hkt, bne_self_eq_false, Bool.false_or, Bool.and_eq_true, decide_eq_true_eq] at h2
      exfalso
      obtain ⟨d, g, y, e1, e2, _⟩ := hsp k ok hk
      rw [hkt] at e2
      cases e2
      have hmem : (t, (g, y)) ∈ (es.take i).reverse := by
        rw [List.mem_reverse, List.mem_iff_getElem?]
        exact ⟨k, by rw [List.getElem?_take, if_pos h2.1]; exact e1⟩
      have hndt : (((es.take i).reverse).map (·.1)).Nodup := by
        rw [List.map_reverse, List.map_take]
        exact nodup_rev (hnd'.sublist (List.take_sublist _ _))
      rw [lookN_nodup hndt hmem] at hlk
      cases hlk
    | some y =>
      rw [hlk] at hl
      cases hl
      have hmem := lookN_mem hlk
      rw [List.mem_reverse, List.mem_iff_getElem?] at hmem
      obtain ⟨k, hk⟩ := hmem
      rw [List.getElem?_take] at hk
      split at hk
      · rename_i hki
        have hklen : k < opsL.length := by
          have := (List.getElem?_eq_some_iff.1 hk).1; omega
        obtain ⟨d, g, y, e1, e2, _⟩ := hsp k opsL[k] (List.getElem?_eq_getElem hklen)
        rw [hk] at e1
        cases e1
        have h2 := hdt (opsL[k], k) (by rw [List.mem_zipIdx_iff_getElem?]; simp [List.getElem?_eq_getElem hklen])
        simp only [e2, bne_self_eq_false, Bool.false_or, Bool.and_eq_true, decide_eq_true_eq, Array.any_eq_true'] at h2
        obtain ⟨_, e, he, h3⟩ := h2
        rw [beq_iff_eq] at h3
        have h4 := hall e he h3.2
        rw [h3.1] at h4
        exact hm.new k t c x hk h4
      · cases hk
  have done2 : ∀ (listed : Array Bool) (G : Gh) (a : Act) (w : World), Mid C opsL es st listed G a w → (∀ k, k < opsL.length → listed.getD k true = true) → wpListIn (fen C.round) 0 P full.toArray Q l2 a w := by
    intro listed G a w hm hall
    refine hQ G a w ⟨hm.frame, hm.callers, hm.frame', hm.le, hm.fresh, hm.ownB, hm.ownR, hm.env, hm.mem, fun t c x hl => ?_⟩
    simp only [ASt.look, lookN_append] at hl
    cases hlk : lookN t es.reverse with
    | none =>
      rw [hlk] at hl
      refine hm.old t (fun k ok hk hkt => ?_) c x hl
      exfalso
      obtain ⟨d, g, y, e1, e2, _⟩ := hsp k ok hk
      rw [hkt] at e2
      cases e2
      have hndt : ((es.reverse).map (·.1)).Nodup := by rw [List.map_reverse]; exact nodup_rev hnd'
      rw [lookN_nodup hndt (by rw [List.mem_reverse]; exact List.mem_of_getElem? e1)] at hlk
      cases hlk
    | some y =>
      rw [hlk] at hl
      cases hl
      have hmem := lookN_mem hlk
      rw [List.mem_reverse, List.mem_iff_getElem?] at hmem
      obtain ⟨k, hk⟩ := hmem
      have hklen : k < opsL.length := by have := (List.getElem?_eq_some_iff.1 hk).1; omega
      refine hm.new k t c x hk ?_
      rw [getD_any (by have := hm.size; omega) false true]
      exact hall k hklen
  have done1 : ∀ (listed : Array Bool) (G : Gh) (a : Act) (w : World), Mid C opsL es st listed G a w → Region.ready .any full.toArray listed = [] → ∀ k, k < opsL.length → listed.getD k true = true := by
    intro listed G a w hm hr k
    induction k using Nat.strongRecOn with
    | _ k ih =>
      intro hk
      by_cases hu : listed.getD k true = true
      · exact hu
      · exfalso
        have : k ∈ Region.ready .any full.toArray listed := by
          rw [mem_ready]
          refine ⟨by simpa using hu, opsL[k], by rw [List.getElem?_toArray, hfg k hk, List.getElem?_eq_getElem hk], fun e he _ => ?_⟩
          have hdk := hdep (opsL[k], k) (by rw [List.mem_zipIdx_iff_getElem?]; simp [List.getElem?_eq_getElem hk])
          have hlt : e.on < k := by
            have := hdk.1
            rw [Array.all_eq_true_iff_forall_mem] at this
            simpa using this e he
          rw [getD_any (by have := hm.size; omega) false true]
          exact ih e.on hlt (by omega)
        rw [hr] at this
        cases this
  have fin : ∀ (fuel : Nat) (listed : Array Bool) (G : Gh) (a : Act) (w : World), (List.range full.length).countP (fun k => !listed.getD k true) ≤ fuel → listed.size = full.length → (∀ k, opsL.length ≤ k → listed.getD k false = false) → Mid C opsL es st listed G a w → (∀ k, k < opsL.length → listed.getD k true = true) → wpAnyIn (fen C.round) 0 P .any full.toArray Q fuel listed a w := by
    intro fuel listed G a w hcnt hsz hun hm hall
    refine wpAny_tail htail fuel opsL.length listed a w (Nat.le_refl _) ?_ hsz (fun k hk => ?_) ?_
    · have h1 : ((List.range full.length).filter fun k => !listed.getD k true) = (List.range full.length).filter fun k => decide (opsL.length ≤ k) := by
        refine List.filter_congr fun k hk => ?_
        rw [List.mem_range] at hk
        by_cases hkl : k < opsL.length
        · simp [hall k hkl, hkl]
        · rw [getD_any (by omega) true false, hun k (by omega)]; simp; omega
      rw [List.countP_eq_length_filter, h1, hfl] at hcnt
      have h2 : ∀ n m : Nat, ((List.range (n + m)).filter fun k => decide (n ≤ k)).length = m := by
        intro n m
        induction m with
        | zero => simp only [Nat.add_zero, List.length_eq_zero_iff, List.filter_eq_nil_iff, List.mem_range]; intro x hx; simp; omega
        | succ m ih => rw [← Nat.add_assoc, List.range_succ, List.filter_append]; simp [ih]
      rw [h2] at hcnt
      omega
    · by_cases hkl : k < opsL.length
      · rw [getD_any (by omega) false true, hall k hkl]; simp [hkl]
      · rw [hun k (by omega)]; simp [hkl]
    · rw [hfull, List.drop_left]
      rw [← hfull]
      exact done2 listed G a w hm hall
  intro fuel
  induction fuel with
  | zero =>
    intro listed G a w hcnt hsz hun hm
    refine fin 0 listed G a w hcnt hsz hun hm fun k hk => ?_
    by_cases hu : listed.getD k true = true
    · exact hu
    · exfalso
      have h3 : 0 < (List.range full.length).countP (fun k => !listed.getD k true) := by
        rw [List.countP_pos_iff]
        exact ⟨k, List.mem_range.2 (by omega), by simpa using hu⟩
      omega
  | succ fuel ih =>
    intro listed G a w hcnt hsz hun hm
    by_cases hall : ∀ k, k < opsL.length → listed.getD k true = true
    · exact fin _ listed G a w hcnt hsz hun hm hall
    refine ⟨fun hr => absurd (done1 listed G a w hm hr) hall, fun i hi => ?_⟩
    obtain ⟨h1, o, h2, h3⟩ := mem_ready.1 hi
    have hi2 : full[i]? = some o := by simpa using h2
    have hilt : i < opsL.length := by
      rcases Nat.lt_or_ge i opsL.length with h | h
      · exact h
      · exfalso
        refine hall fun k hk => ?_
        obtain ⟨_, h5⟩ := htail i o h hi2
        obtain ⟨e, he, rfl, hb⟩ := h5 k (by omega)
        rw [getD_any (by omega) true false]
        exact h3 e he hb
    have hi' : opsL[i]? = some o := by rw [← hfg i hilt]; exact hi2
    obtain ⟨d, g, x, e1, e2, e3⟩ := hsp i o hi'
    have hlk := looks listed G a w hm i o hi' h1 h3
    obtain ⟨s1, s2⟩ := e3 G a w hm.mem hlk
    have hdlt : d < a.tmps.size := by
      have := hm.fits
      simp only [dstsFit, List.all_eq_true] at this
      have := this o (List.mem_of_getElem? hi')
      rw [e2] at this
      simpa using this
    have hcnt' : (List.range full.length).countP (fun k => !(listed.setIfInBounds i true).getD k true) ≤ fuel := by
      have := countP_lt (p := fun k => !listed.getD k true) (q := fun k => !(listed.setIfInBounds i true).getD k true) (k := i) (l := List.range full.length)
        (fun k _ hk => by
          by_cases hik : i = k
          · subst hik; rw [getD_set_self (by have := hm.size; omega)] at hk; simp at hk
          · rwa [getD_set_other hik] at hk) (List.mem_range.2 (by omega)) (by simp [h1]) (by show (!_) = false; rw [getD_set_self (by have := hm.size; omega)]; rfl)
      omega
    have hun' : ∀ k, opsL.length ≤ k → (listed.setIfInBounds i true).getD k false = false := fun k hk => by rw [getD_set_other (by omega)]; exact hun k hk
    -- the state behind the operation
    have next : ∀ v G' w', Ext st.bx st.rw G w G' w' → (g = true → x.rel G' w' v) → (g = false → v = undef) → Mid C opsL es st (listed.setIfInBounds i true) G' (a.put (some d) v) w' := by
      intro v G' w' E hv1 hv2
      refine ⟨hm.frame'.trans (.of_below E.below), hm.le.trans E.le, fun b o i => ?_, by rw [E.gbx]; exact hm.ownB, by rw [E.grw]; exact hm.ownR, ?_, E.mem, ?_, by simpa [Act.put] using hm.frame, hm.callers, by simpa using hm.size, fun t ht => ?_, fun k d' g' x' hk hl => ?_⟩
      · rcases E.fresh b o i with i | i
        · exact hm.fresh b o i
        · exact .inr (.inl (Nat.le_trans hm.frame'.size i))
      · obtain ⟨D, hD⟩ := hm.env
        exact ⟨D, hD.ext hm.mem E⟩
      · have := hm.fits
        simpa [Act.put, dstsFit] using this
      · intro c y hl
        have htd : d ≠ t := by
          intro e; subst e
          have := ht i o hi' e2
          rw [getD_set_self (by have := hm.size; omega)] at this
          cases this
        rw [Act.put_get, if_neg htd]
        obtain ⟨v', h4, h5, h6⟩ := hm.old t (fun k ok hk hkt => by
          have := ht k ok hk hkt
          by_cases hik : i = k
          · subst hik; rw [hi'] at hk; cases hk; rw [e2] at hkt; cases hkt; exact absurd rfl htd
          · rwa [getD_set_other hik] at this) c y hl
        exact ⟨v', h4, fun hc => AV.rel_mono E.le _ _ (h5 hc), h6⟩
      · by_cases hik : i = k
        · subst hik
          rw [e1] at hk
          cases hk
          rw [Act.put_get]
          exact ⟨v, by simp [Array.getElem?_eq_getElem hdlt], hv1, hv2⟩
        · rw [getD_set_other hik] at hl
          obtain ⟨v', h4, h5, h6⟩ := hm.new k d' g' x' hk hl
          have hne : d ≠ d' := by
            intro e; subst e
            have hk1 : (es.map (·.1))[k]? = some d := by rw [List.getElem?_map, hk]; rfl
            have hk2 : (es.map (·.1))[i]? = some d := by rw [List.getElem?_map, e1]; rfl
            have hl1 : k < (es.map (·.1)).length := (List.getElem?_eq_some_iff.1 hk1).1
            exact hik (((List.getElem?_inj hl1 hnd').1 (hk1.trans hk2.symm)).symm)
          rw [Act.put_get, if_neg hne]
          exact ⟨v', h4, fun hc => AV.rel_mono E.le _ _ (h5 hc), h6⟩
    unfold wpOpIn
    simp only [List.getElem?_toArray, hi2]
    rw [s1]
    cases hg : g
    · simp only [Bool.false_eq_true, if_false]
      rw [e2]
      refine ⟨fun _ _ => trivial, ?_⟩
      exact ih _ G _ w hcnt' (by simpa using hsz) hun' (next undef G w (Ext.refl hm.mem) (fun h => by rw [hg] at h; cases h) (fun _ => rfl))
    · simp only [if_true]
      refine s2 hg _ _ _ fun v G' w' E hv => ?_
      rw [e2]
      exact ih _ G' _ w' hcnt' (by simpa using hsz) hun' (next v G' w' E (fun _ => hv) (fun h => by rw [hg] at h; cases h))


section drawE
variable {P : Program} {Q : Exit → ASt → Prop} {k : ASt → Prop} {T : TT} {full : List Oper} {m : Nat} {r l : List Oper} {nt nb : Nat} {sl : List (Nat × (Bool × AV))} {bx : List (List AV)} {rw : List ARow} {ys : (Nat × List (List AV)) × List (List AV) × Bool} {st : ASt} {o : Oper} {d : Nat}
/-- A region that draws its order, of which m operations are done; from some place on it goes in the order of the text. -/
def runE (P : Program) (full : List Oper) (m : Nat) (l : List Oper) (k : ASt → Prop) (st : ASt) : Prop :=
  ∃ l1 l2 st', l = l1 ++ l2 ∧ PRun P full.toArray l1 st st' ∧ runS P full.toArray l2 k st' ∧ depOk2 (full.take (m + l1.length)) l2 = true
def tailHead : List Oper → Bool
  | [] => true
  | o :: _ => o.dst.isNone
theorem runE_tail (_ : tailHead l = true) (hd : depOk2 (full.take m) l = true) (h : runS P full.toArray l k st) : runE P full m l k st := ⟨[], l, st, rfl, rfl, h, hd⟩
theorem runE_pure (hT : TOk P T) (hd : o.dst = some d)
    (h : ∃ g, guardA full.toArray ⟨nt, nb, sl, bx, rw, ys⟩ o = some g ∧ ∃ cs x p, opA T ⟨nt, nb, sl, bx, rw, ys⟩ o.op = some (cs, x, p) ∧ (g = true → (∀ c ∈ cs, c = true) ∧ p) ∧ runE P full (m + 1) r k ⟨nt, nb, (d, (g, x)) :: sl, bx, rw, ys⟩) : runE P full m (o :: r) k ⟨nt, nb, sl, bx, rw, ys⟩ :=
  let ⟨g, hg, _, x, _, h, hp, l1, l2, st', h1, h2, h3, h4⟩ := h
  ⟨o :: l1, l2, st', by rw [h1]; rfl, ⟨d, g, x, hd, opSpec_pure hT hg h hp, h2⟩, h3, by rw [List.length_cons, show m + (l1.length + 1) = m + 1 + l1.length from by omega]; exact h4⟩
theorem runE_mk (hT : TOk P T) (hd : o.dst = some d)
    (h : ∃ g, guardA full.toArray ⟨nt, nb, sl, bx, rw, ys⟩ o = some g ∧ ∃ cs x p, mkA T ⟨nt, nb, sl, bx, rw, ys⟩ o.op = some (cs, x, p) ∧ (g = true → (∀ c ∈ cs, c = true) ∧ p) ∧ runE P full (m + 1) r k ⟨nt, nb, (d, (g, x)) :: sl, bx, rw, ys⟩) : runE P full m (o :: r) k ⟨nt, nb, sl, bx, rw, ys⟩ :=
  let ⟨g, hg, _, x, _, h, hp, l1, l2, st', h1, h2, h3, h4⟩ := h
  ⟨o :: l1, l2, st', by rw [h1]; rfl, ⟨d, g, x, hd, opSpec_mk hT hg h hp, h2⟩, h3, by rw [List.length_cons, show m + (l1.length + 1) = m + 1 + l1.length from by omega]; exact h4⟩
theorem runE_call (hd : o.dst = some d)
    (h : ∃ g, guardA full.toArray ⟨nt, nb, sl, bx, rw, ys⟩ o = some g ∧ ∃ cs f args, callA ⟨nt, nb, sl, bx, rw, ys⟩ o.op = some (cs, f, args) ∧ (g = true → (∀ c ∈ cs, c = true) ∧ AV.freeL args) ∧ ∃ x, (g = true → FnA P f args x) ∧ runE P full (m + 1) r k ⟨nt, nb, (d, (g, x)) :: sl, bx, rw, ys⟩) : runE P full m (o :: r) k ⟨nt, nb, sl, bx, rw, ys⟩ :=
  let ⟨g, hg, _, _, _, h, hp, x, hf, l1, l2, st', h1, h2, h3, h4⟩ := h
  ⟨o :: l1, l2, st', by rw [h1]; rfl, ⟨d, g, x, hd, opSpec_call hg h hp hf, h2⟩, h3, by rw [List.length_cons, show m + (l1.length + 1) = m + 1 + l1.length from by omega]; exact h4⟩
theorem wpA_drawE {id : Nat} {ops : List Oper} (hm : P.follows .mixedOrders = true) (hf : dstsFit st.nt ops = true) (h : ∀ K : ASt → Prop, (∀ s, Q .normal s → K s) → runE P ops 0 ops K st) : wpA P (.region id ops.toArray true) Q st := by
  obtain ⟨l1, l2, st', h1, h2, h3, h4⟩ := h (Q .normal) fun _ h => h
  intro C G a w hs
  obtain ⟨es, e1, rfl, e3⟩ := h2.entries
  have hs' := hs.drew
  have ht : ops.take (0 + l1.length) = l1 := by rw [Nat.zero_add, h1, List.take_left]
  rw [ht] at h4
  have hf' : dstsFit a.tmps.size l1 = true := by
    rw [hs.size]
    simp only [dstsFit, List.all_eq_true] at hf ⊢
    exact fun o ho => hf o (by rw [h1]; simp [ho])
  refine wpIn_region_any hm (wpAny2 (C := C) (es := es) (st := st) h1 h4 e1 e3 (fun G a w hs => h3 C G a w _ hs fun G' a' w' st' hs' hk => ⟨G', st', hs', hk⟩) _ _ G a _ ?_ (by simp) (fun k _ => ?_) ⟨hs'.frame, hs'.le, hs'.fresh, hs'.ownB, hs'.ownR, hs'.env, hs'.mem, hf', hs.size, hs.callers, by rw [h1]; simp, fun t _ => hs'.slot t, ?_⟩)
  · exact Nat.le_trans List.countP_le_length (by simp)
  · simp only [Array.getD_eq_getD_getElem?, Array.getElem?_replicate]
    split <;> rfl
  · intro k d g x _ hl
    simp [Array.getD_eq_getD_getElem?, Array.getElem?_replicate] at hl
    split at hl <;> cases hl
end drawE
end Go.Proofs.Yticlpcgkaffdmaa
