import Derived.Test.YtchpbdecipcelaaGreatDoorFI46
import Derived.Test.YtchpbdecipcelaaGreatDoorFI48
namespace Go.Proofs.YtchpbdecipcelaaGreatDoor
set_option linter.unusedVariables false
set_option linter.unusedSimpArgs false
set_option maxHeartbeats 4000000
set_option maxRecDepth 100000
open Go.RowKit
section
variable {nt nb : Nat} {sl sl' : List (Nat × (Bool × AV))} {bx : List (List AV)} {rw : List ARow} {ys : (Nat × List (List AV)) × List (List AV) × Bool}
end
theorem freeL_app {a b : List AV} (ha : AV.freeL a) (hb : AV.freeL b) : AV.freeL (a ++ b) := by
  induction a with
  | nil => exact hb
  | cons x a ih => exact ⟨ha.1, ih ha.2⟩
theorem freeL_dr {a : List AV} (n : Nat) (ha : AV.freeL a) : AV.freeL (a.drop n) := by
  induction n generalizing a with
  | zero => exact ha
  | succ n ih =>
    cases a with
    | nil => exact ha
    | cons x a => exact ih ha.2
def InB2 (bx : List (List AV)) (b c : Nat) (L : List Party) : Prop := ∃ zs, bx[b]? = some (pcs L ++ zs) ∧ L.length ≤ c ∧ c ≤ maxLen ∧ c * 2 ≤ (pcs L ++ zs).length ∧ (0 < c → 1 ≤ b) ∧ AV.freeL zs
section
variable {P : Program} {T : TT} {ops : Array Oper} {rest : List Oper} {K : ASt → Prop} {nt nb : Nat} {sl : List (Nat × (Bool × AV))} {p0 : List AV} {bx : List (List AV)} {rw : List ARow} {ys : (Nat × List (List AV)) × List (List AV) × Bool} {o : Oper} {d : Nat}
theorem runS_appP (hT : TOk P T) (hg : o.guard = none) (hd : o.dst = some d) (hn : Nat.blt d nt = true)
    {cs : List Bool} {b n c m : Nat} {us : List AV} {p : Prop} {t t' : TypeId} (h1 : twoB ⟨nt, nb, sl, p0 :: bx, rw, ys⟩ .append o.op = some (cs, (2, b, 0, n, c), (2, m, us, p), t, t')) (hc : ∀ c ∈ cs, c = true) (hp : p) (htt : t' = t)
    {e s1 b1 : Nat} {z1 : List Value} {q1 : List CK} (h2 : T t = some ⟨.slice e, s1, b1, z1, q1⟩) {j : TI} (h3 : T e = some j) (hsz : j.size = 2 ∧ j.zero = [.int .i64 0, .int .i64 0] ∧ j.bytes = 16) {L M : List Party} (hA : InB2 (p0 :: bx) b c L) (hL : L.length = n) (hM : M.length = m) (hus : us = pcs M)
    (hmax : n + m ≤ 1000000)
    (h : ∀ bx' b' c', InB2 (p0 :: bx') b' c' (L ++ M) → runS P ops rest K ⟨nt, nb, (d, (true, .bsl 2 b' 0 (n + m) c')) :: sl, p0 :: bx', rw, ys⟩) : runS P ops (o :: rest) K ⟨nt, nb, sl, p0 :: bx, rw, ys⟩ := by
  obtain ⟨zs, a1, a2, a3, a4, a5, a6⟩ := hA
  obtain ⟨j1, j2, j3⟩ := hsz
  have hj : 2 = j.size ∧ 2 = j.size ∧ 0 < j.size ∧ j.zero.length = j.size := by rw [j1, j2]; exact ⟨rfl, rfl, by decide, rfl⟩
  subst hL hM hus
  rcases Nat.eq_zero_or_pos M.length with h0 | h0
  · obtain rfl := List.length_eq_zero_iff.1 h0
    refine runS_appB0 hT hg hd hn h1 hc hp htt h2 h3 hj ?_
    exact h bx b c ⟨zs, by rw [List.append_nil]; exact a1, by rw [List.append_nil]; exact a2, a3, by rw [List.append_nil]; exact a4, a5, a6⟩
  · refine runS_appB hT hg hd hn h1 hc hp htt h2 h3 hj h0 a1 (pcs_one _ _) (by omega) ⟨by simp only [maxLen]; omega, by rw [j3]; omega⟩ (fun hr bx' hb => ?_) (fun hr c' hc1 hc2 bx' bn hbn hb => ?_)
    · have hb1 : 1 ≤ b := a5 (by omega)
      obtain ⟨b, rfl⟩ : ∃ b1, b = b1 + 1 := ⟨b - 1, by omega⟩
      rw [List.set_cons_succ] at hb
      subst hb
      rw [List.getElem?_cons_succ] at a1
      have hlt := (List.getElem?_eq_some_iff.1 a1).1
      refine h _ _ _ ⟨zs.drop (M.length * 2), ?_, by rw [List.length_append]; exact hr, a3, ?_, a5, freeL_dr _ a6⟩
      · rw [List.getElem?_cons_succ, List.getElem?_set_self hlt, Nat.zero_add]
        rw [List.length_append, pcs_len] at a4
        conv => lhs; rw [← List.take_append_drop (M.length * 2) zs]
        rw [put_mid (pcs_len _) (by rw [pcs_len, List.length_take]; omega), pcs_app, List.append_assoc]
      · rw [List.length_append, pcs_len] at a4 ⊢
        rw [List.length_drop, List.length_append]
        omega
    · have e1 : ((pcs L ++ zs).drop 0).take (L.length * 2) ++ pcs M ++ zerosA (c' - (L.length + M.length)) j.zero = pcs (L ++ M) ++ pcs (List.replicate (c' - (L.length + M.length)) default) := by
        rw [List.drop_zero, List.take_left' (pcs_len _), ← pcs_app, j2, zeros_pcs]
      rw [e1] at hb
      clear e1
      subst hb hbn
      rw [List.cons_append]
      refine h _ _ _ ⟨pcs (List.replicate (c' - (L.length + M.length)) default), ?_, by rw [List.length_append]; exact hc1, hc2, ?_, fun _ => by simp, pcs_free _⟩
      · rw [List.length_cons, List.getElem?_cons_succ, List.getElem?_append_right (Nat.le_refl _), Nat.sub_self]
        rfl
      · rw [List.length_append, pcs_len, pcs_len, List.length_append, List.length_replicate]
        omega
end
theorem flat_eq {α β : Type} {l : List α} {f g : α → List β} (h : ∀ i ∈ l, f i = g i) : l.flatMap f = l.flatMap g := by
  rw [List.flatMap_def, List.flatMap_def, List.map_congr_left h]
theorem flat_pt (R : List Party) {k : Nat} (h : k ≤ R.length) : (List.range k).flatMap (els Party.av R) = pcs (R.take k) := by
  have hk : (R.take k).length = k := by rw [List.length_take]; omega
  rw [← flat_pcs, hk]
  refine flat_eq fun i hi => ?_
  have hi := List.mem_range.1 hi
  unfold els
  rw [show (R.take k).getD i default = R.getD i default by rw [getD_get (by omega), getD_get (by omega)]; simp]
theorem flat_pd (R : List Party) {k : Nat} (h : k ≤ R.length) : (List.range (R.length - k)).flatMap (fun i => els Party.av R (k + i)) = pcs (R.drop k) := by
  have hk : (R.drop k).length = R.length - k := List.length_drop
  rw [← flat_pcs, hk]
  refine flat_eq fun i hi => ?_
  have hi := List.mem_range.1 hi
  unfold els
  rw [show (R.drop k).getD i default = R.getD (k + i) default by rw [getD_get (by omega), getD_get (by omega)]; simp]
theorem frz_in {bx : List (List AV)} {b c n : Nat} {L : List Party} (h : InB2 bx b c L) (hL : L.length = n) : AV.frz 0 bx (.bsl 2 b 0 n c) = .lst 2 n (chunkA 2 ((bx[b]?).getD [])) ∧ AV.okF 0 bx (.bsl 2 b 0 n c) ∧ ∀ i, i < n → chunkA 2 ((bx[b]?).getD []) i = els Party.av L i := by
  obtain ⟨zs, a1, a2, a3, a4, a5, a6⟩ := h
  have hlt := (List.getElem?_eq_some_iff.1 a1).1
  subst hL
  rw [a1]
  refine ⟨?_, ?_, fun i hi => ?_⟩
  · unfold AV.frz
    rw [a1]
    rfl
  · refine .inr ⟨hlt, ?_, ?_⟩
    · rw [a1]
      exact AV.belL_free _ (freeL_app (pcs_free _) a6)
    · rw [a1]
      simp only [Option.getD_some, List.length_append, pcs_len]
      omega
  · simp only [Option.getD_some]
    exact chunk_flat (enc := Party.av) (sz := 2) (fun _ => rfl) hi
end Go.Proofs.YtchpbdecipcelaaGreatDoor
namespace Go.Proofs.YtchpbdecipcelaaGreatDoor
set_option linter.unusedVariables false
set_option linter.unusedSimpArgs false
set_option maxHeartbeats 4000000
set_option maxRecDepth 100000
open Go.RowKit
theorem Vd.ins_at {α : Type} [DecidableEq α] [Inhabited α] (lt : α → α → Bool) (p : α) : ∀ (R : List α) (k : Nat), k ≤ R.length → (∀ i, i < k → lt (R.getD i default) p = true) → (k = R.length ∨ lt (R.getD k default) p = false) →
    Vd.ins lt R p = if k = R.length ∨ R.getD k default ≠ p then R.take k ++ p :: R.drop k else R
  | [], k, h1, _, _ => by
    obtain rfl : k = 0 := by simpa using h1
    simp [Vd.ins]
  | q :: R, 0, _, _, h3 => by
    have h3 : lt q p = false := by simpa using h3
    by_cases hq : q = p
    · subst hq
      simp [Vd.ins, h3]
    · simp [Vd.ins, h3, hq]
  | q :: R, k + 1, h1, h2, h3 => by
    have h0 : lt q p = true := by simpa using h2 0 (by omega)
    have ih := Vd.ins_at lt p R k (by simpa using h1) (fun i hi => by simpa using h2 (i + 1) (by omega)) (by simpa using h3)
    rw [Vd.ins, if_pos h0, ih]
    simp only [List.length_cons, List.getD_cons_succ, Nat.add_right_cancel_iff, List.take_succ_cons, List.drop_succ_cons, List.cons_append]
    split <;> rfl
theorem insAll_snoc (L : List Party) (p : Party) : Vd.insAll ltP (L ++ [p]) = Vd.ins ltP (Vd.insAll ltP L) p := by
  unfold Vd.insAll
  rw [List.foldl_append]
  rfl
theorem insAll_len {L : List Party} (h : ∀ x ∈ L, partyP x) : (Vd.insAll ltP L).length ≤ 83 := by
  refine Vd.nodup_len (t := everyone) (Vd.sorted_nodup ordP (Vd.insAll_ok ordP _).1) fun x hx => every_mem (h x ?_)
  exact ((Vd.insAll_ok ordP _).2 x).1 hx
theorem beforeR_A (a b : Party) : FnA Tryz.prog 64 [.agg a.av, .agg b.av] (.raw (.bool (ltP a b))) := by
  have e : ltP a b = (decide (a.kind < b.kind) || (decide (a.kind = b.kind) && decide (a.id < b.id))) := by
    rw [Bool.eq_iff_iff, ltP_iff]
    simp
  rw [e]
  clear e
  refine fnA_of tblOk Tryz.func64 rfl (by kernel_rfl) 24 Tryz.ntmps64 lenT [.tmp 4] rfl ?_
  simp only [entrySt, argSl, Nat.zero_add, Nat.reduceAdd]
  try refine wkG trivial ?_
  try (refine Stop.mk ?_; intro K hK)
  all_goals (try (refine ret_of (by simp) ⟨_, _, _, evl, ob0, OutOk.sims ?_ fre⟩))
  all_goals first | exact Sims.refl _ | exact finT | exact simsF | (refine Sims.tup ?_; simp only [SimsL, and_true]; (repeat' apply And.intro) <;> first | exact simsF | skip) | (exfalso; first | omega | (simp_all; done) | (simp_all; omega)) | skip
theorem allR_A (l : List Bound) (hl : l.length ≤ 1000000) (hc : ∀ b ∈ l, crowdP b.who) : FnA Tryz.prog 26 [lA 4 Bound.av l] (lA 2 Party.av (allP l)) := by
  have hfl : (lA 4 Bound.av l).free := lA_free (fun y => Bound.free y) _
  unfold allP
  refine fnA_of tblOk Tryz.func26 rfl (by kernel_rfl) 74 Tryz.ntmps26 lenT [.tmp 2] rfl ?_
  simp only [entrySt, argSl, Nat.zero_add, Nat.reduceAdd]
  try refine wkG trivial ?_
  try (refine Stop.mk ?_; intro K hK)
  refine wpA_loop (fun k : Nat => ⟨74, 0, [(0, true, lA 4 Bound.av l), (3, true, lA 2 Party.av (Vd.insAll ltP (whoL (l.take k)))), (4, true, .raw (.int .i64 k))], [], [], ((0, []), [], true)⟩)
    (fun k => k ≤ l.length) (fun k => l.length - k) 0 ?_ (by omega) ?_
  · simp only [List.take_zero]
    show Weak _ ⟨_, _, [(0, true, lA 4 Bound.av l), (3, true, lA 2 Party.av []), _], _, _, _⟩
    refine wkn ?_ ?_ ?_
    all_goals first | exact wk0 | refine wkS ?_ | skip
    all_goals (try trivial)
    all_goals ((repeat' apply And.intro) <;> first | exact wkL | skip)
  intro k hk
  rcases Nat.lt_or_ge k l.length with hlt | hge
  · have hst := who_step l hlt
    have hcw := hc _ (memD hlt)
    have hpk : ∀ x ∈ whoL (l.take k), partyP x := fun x hx => by
      obtain ⟨b, hb, hx⟩ := List.mem_flatMap.1 hx
      exact (hc b (List.mem_of_mem_take hb)).2 x hx
    generalize whoL (l.take k) = W0 at *
    try refine wkG trivial ?_
    try (refine Stop.mk ?_; intro K hK)
    refine wpA_cond' ⟨_, evl, fun _ => ?_, fun hb => absurd (of_decide_eq_false hb) (by omega)⟩
    try refine wkG trivial ?_
    try (refine Stop.mk ?_; intro K hK)
    refine wpA_loop (fun i : Nat => ⟨74, 0, [(0, true, lA 4 Bound.av l), (3, true, lA 2 Party.av (Vd.insAll ltP (W0 ++ (l.getD k default).who.take i))), (4, true, .raw (.int .i64 k)), (5, true, .raw (.int .i64 i))], [], [], ((0, []), [], true)⟩)
      (fun i => i ≤ (l.getD k default).who.length) (fun i => (l.getD k default).who.length - i) 0 ?_ (by omega) ?_
    · simp only [List.take_zero, List.append_nil]
      refine wkn ?_ ?_ ?_
      all_goals first | exact wk0 | refine wkS ?_ | skip
      all_goals (try trivial)
      all_goals ((repeat' apply And.intro) <;> first | exact wkL | skip)
    intro i hi
    rcases Nat.lt_or_ge i (l.getD k default).who.length with hlw | hgw
    · have hsn : ∀ i2, i2 = i + 1 → Vd.insAll ltP (W0 ++ (l.getD k default).who.take i2) = Vd.ins ltP (Vd.insAll ltP (W0 ++ (l.getD k default).who.take i)) ((l.getD k default).who.getD i default) := fun i2 e => by
        subst e
        rw [List.take_succ_eq_append_getElem hlw, ← List.append_assoc, insAll_snoc, getD_get hlw]
      have hR : (Vd.insAll ltP (W0 ++ (l.getD k default).who.take i)).length ≤ 83 := insAll_len fun x hx => (List.mem_append.1 hx).elim (hpk x) fun hx => hcw.2 x (List.mem_of_mem_take hx)
      generalize hRe : Vd.insAll ltP (W0 ++ (l.getD k default).who.take i) = R at *
      clear hRe
      have hfR : (lA 2 Party.av R).free := lA_free (fun y => Party.free y) _
      have hw1 : (l.getD k default).who.length ≤ 100 := hcw.1
      try refine wkG trivial ?_
      try (refine Stop.mk ?_; intro K hK)
      refine wpA_cond' ⟨_, evl, fun _ => ?_, fun hb => absurd (of_decide_eq_false hb) (by omega)⟩
      try refine wkG trivial ?_
      try (refine Stop.mk ?_; intro K hK)
      generalize hpe : (l.getD k default).who.getD i default = p at *
      clear hpe
      refine wpA_loop (fun a : Nat => ⟨74, 0, [(0, true, lA 4 Bound.av l), (3, true, lA 2 Party.av R), (4, true, .raw (.int .i64 k)), (5, true, .raw (.int .i64 i)), (6, true, .box 0 0), (7, true, .raw (.int .i64 a))], [p.av], [], ((0, []), [], true)⟩)
        (fun a => a ≤ R.length ∧ ∀ j, j < a → ltP (R.getD j default) p = true) (fun a => R.length - a) 0 ?_ ⟨by omega, fun j hj => absurd hj (by omega)⟩ ?_
      · refine wkn ?_ ?_ ?_
        all_goals first | exact wk0 | refine wkS ?_ | skip
        all_goals (try trivial)
        all_goals ((repeat' apply And.intro) <;> first | exact wkL | skip)
      rintro a ⟨ha, hall⟩
      have hbf := beforeR_A (R.getD a default) p
      have hin := Vd.ins_at ltP p R a ha hall
      generalize hlt2 : ltP (R.getD a default) p = lt at *
      try refine wkG hbf ?_
      try (refine Stop.mk ?_; intro K hK)
      refine wpA_cond' ⟨_, evl, fun hb => ?_, fun hb => ?_⟩
      · have hb2 : a < R.length ∧ lt = true := by simpa using hb
        obtain ⟨ha2, rfl⟩ := hb2
        clear hb hin
        try refine wkG trivial ?_
        try (refine Stop.mk ?_; intro K hK)
        refine ⟨a + 1, ⟨by omega, fun j hj => ?_⟩, by omega, ?_⟩
        · rcases Nat.lt_succ_iff_lt_or_eq.1 hj with h | rfl
          · exact hall j h
          · exact hlt2
        · refine wkn ?_ ?_ ?_
          all_goals first | exact wk0 | refine wkS ?_ | skip
          all_goals (try trivial)
          all_goals ((repeat' apply And.intro) <;> first | exact wkL | skip)
      · have hb2 : a = R.length ∨ lt = false := by
          rcases Nat.lt_or_ge a R.length with h | h
          · have hq : (a : Int) < R.length := by omega
            simp only [hq, decide_true] at hb
            right
            simpa using hb
          · exact .inl (by omega)
        replace hin := hin hb2
        clear hb hb2 hall hlt2
        try refine wkG trivial ?_
        try (refine Stop.mk ?_; intro K hK)
        rw [eqPQ]
        refine wpA_cond' ⟨_, evl, fun hb => ?_, fun hb => ?_⟩
        · have hb3 : a = R.length ∨ R.getD a default ≠ p := by
            simp only [Bool.or_eq_true, Bool.not_eq_true', decide_eq_true_eq, decide_eq_false_iff_not] at hb
            exact hb.imp (fun h => by omega) id
          rw [if_pos hb3] at hin
          clear hb hb3
          repeat (refine stG ?_)
          refine wpA_region (fun K hK => ?_)
          refine stB ?_
          iterate 3 (refine stG ?_)
          refine runS_appP (L := []) (n := 0) (M := R.take a) tblOk rfl rfl rfl evl (by simp) (by trivial) (by rfl) (by rfl) (by rfl) (by exact ⟨rfl, rfl, rfl⟩) ?_ rfl ?_ ?_ (by omega) (fun bx1 b1 c1 h1 => ?_)
          · exact ⟨[], rfl, Nat.le_refl _, Nat.zero_le _, Nat.le_refl _, fun h => absurd h (by decide), trivial⟩
          · rw [List.length_take]; omega
          · exact flat_pt R ha
          rw [List.nil_append] at h1
          rw [Nat.zero_add]
          refine stG ?_
          refine runS_nil (hK _ ?_); clear hK K
          repeat (refine stG ?_)
          refine wpA_region (fun K hK => ?_)
          iterate 3 (refine stG ?_)
          refine runS_appP (M := [p]) (m := 1) tblOk rfl rfl rfl evl (by simp) (by trivial) (by rfl) (by rfl) (by rfl) (by exact ⟨rfl, rfl, rfl⟩) h1 (by rw [List.length_take]; omega) rfl ?_ (by omega) (fun bx2 b2 c2 h2 => ?_)
          · rfl
          clear h1
          refine stG ?_
          refine runS_nil (hK _ ?_); clear hK K
          repeat (refine stG ?_)
          refine wpA_region (fun K hK => ?_)
          iterate 4 (refine stG ?_)
          refine runS_appP (M := R.drop a) (m := R.length - a) tblOk rfl rfl rfl evl (by simp) (by trivial) (by rfl) (by rfl) (by rfl) (by exact ⟨rfl, rfl, rfl⟩) h2 (by rw [List.length_append, List.length_take, List.length_singleton]; omega) (by rw [List.length_drop]) ?_ (by omega) (fun bx3 b3 c3 h3 => ?_)
          · exact flat_pd R ha
          clear h2
          have hN : a + 1 + (R.length - a) = R.length + 1 := by omega
          rw [List.append_assoc, List.singleton_append, ← hin] at h3
          rw [hN]
          refine stG ?_
          refine runS_weak (Weak.sl (sl' := [(0, true, lA 4 Bound.av l), (3, true, .bsl 2 b3 0 (R.length + 1) c3), (4, true, .raw (.int .i64 k)), (5, true, .raw (.int .i64 i))]) ?_) ?_
          · simp only [SubSl, lookN_cons, ↓reduceIte, Nat.reduceEqDiff, and_true, true_and, Option.some.injEq, Prod.mk.injEq]
            all_goals ((repeat' apply And.intro) <;> first | rfl | omega)
          have hiL : (Vd.ins ltP R p).length = R.length + 1 := by
            rw [hin, List.length_append, List.length_take, List.length_cons, List.length_drop]
            omega
          obtain ⟨f1, f2, f3⟩ := frz_in h3 hiL
          refine runS_weak (Weak.freeze 0 (Nat.le_refl _) trivial (by simp [belR]) ?_) ?_
          · exact ⟨fun i hi => AV.belL_free _ (hfl i hi), f2, trivial, trivial, trivial⟩
          simp only [frzS, f1, frz_raw, List.take_zero, show ∀ bx, AV.frz 0 bx (lA 4 Bound.av l) = lA 4 Bound.av l from fun _ => rfl]
          refine runS_nil (hK _ ?_); clear hK K
          try (first | refine wkM hK trivial ?_ | refine wkG trivial ?_)
          try clear hK K
          try (refine Stop.mk ?_; intro K hK)
          refine ⟨i + 1, by omega, by omega, ?_⟩
          rw [hsn (i + 1) rfl]
          clear f1 f2
          generalize chunkA 2 _ = ch at *
          generalize Vd.ins ltP R p = R2 at *
          refine wkn ?_ ?_ ?_
          all_goals first | exact wk0 | refine wkS ?_ | skip
          all_goals (try trivial)
          all_goals ((repeat' apply And.intro) <;> first | exact wkL | skip)
          exact (Sim.lstE hiL.symm f3).s
        · have hb3 : ¬ (a = R.length ∨ R.getD a default ≠ p) := by
            simp only [Bool.or_eq_false_iff, Bool.not_eq_false', decide_eq_true_eq, decide_eq_false_iff_not] at hb
            exact fun h => h.elim (fun h => hb.1 (by omega)) fun h => h hb.2
          rw [if_neg hb3] at hin
          try refine wkG trivial ?_
          try (refine Stop.mk ?_; intro K hK)
          refine ⟨i + 1, by omega, by omega, ?_⟩
          rw [hsn (i + 1) rfl, hin]
          refine wkn ?_ ?_ ?_
          all_goals first | exact wk0 | refine wkS ?_ | skip
          all_goals (try trivial)
          all_goals ((repeat' apply And.intro) <;> first | exact wkL | skip)
    · obtain rfl : i = (l.getD k default).who.length := by omega
      rw [List.take_length, ← hst]
      try refine wkG trivial ?_
      try (refine Stop.mk ?_; intro K hK)
      refine wpA_cond' ⟨_, evl, fun hb => absurd (of_decide_eq_true hb) (by omega), fun _ => ?_⟩
      try refine wkG trivial ?_
      try (refine Stop.mk ?_; intro K hK)
      refine ⟨k + 1, by omega, by omega, ?_⟩
      refine wkn ?_ ?_ ?_
      all_goals first | exact wk0 | refine wkS ?_ | skip
      all_goals (try trivial)
      all_goals ((repeat' apply And.intro) <;> first | exact wkL | skip)
  · obtain rfl : k = l.length := by omega
    rw [List.take_length]
    try refine wkG trivial ?_
    try (refine Stop.mk ?_; intro K hK)
    refine wpA_cond' ⟨_, evl, fun hb => absurd (of_decide_eq_true hb) (by omega), fun _ => ?_⟩
    try refine wkG trivial ?_
    try (refine Stop.mk ?_; intro K hK)
    all_goals (try (refine ret_of (by simp) ⟨_, _, _, evl, ob0, OutOk.sims ?_ fre⟩))
    all_goals first | exact Sims.refl _ | exact finT | exact simsF | (refine Sims.tup ?_; simp only [SimsL, and_true]; (repeat' apply And.intro) <;> first | exact simsF | skip) | (exfalso; first | omega | (simp_all; done) | (simp_all; omega)) | skip
end Go.Proofs.YtchpbdecipcelaaGreatDoor
