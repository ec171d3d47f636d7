import Derived.Test.YtchpbdecipcelaaGreatDoorSM39
import Derived.Test.YtchpbdecipcelaaGreatDoorSM40
import Derived.Test.YtchpbdecipcelaaGreatDoorSM42
namespace Go.Proofs.YtchpbdecipcelaaGreatDoor
set_option linter.unusedVariables false
set_option linter.unusedSimpArgs false
set_option maxHeartbeats 4000000
set_option maxRecDepth 100000
open Go.RowKit
theorem choose_len {α : Type} : ∀ (l : List α) (k : Nat), (Vd.choose l k).length ≤ l.length ^ k
  | l, 0 => by cases l <;> simp [Vd.choose]
  | [], k + 1 => by simp [Vd.choose]
  | x :: l, k + 1 => by
    have h1 := choose_len l k
    have h2 := choose_len l (k + 1)
    rw [Vd.choose, List.length_append, List.length_map, List.length_cons, Nat.pow_succ, Nat.mul_succ]
    have h3 : l.length ^ k ≤ (l.length + 1) ^ k := Nat.pow_le_pow_left (Nat.le_succ _) k
    have h4 : l.length ^ k * l.length ≤ (l.length + 1) ^ k * l.length := Nat.mul_le_mul_right _ h3
    rw [Nat.pow_succ] at h2
    omega
def everyone : List Party := (List.range 17).map (fun i : Nat => ⟨1, i⟩) ++ (List.range 65).map (fun i : Nat => ⟨2, i⟩) ++ [⟨3, 0⟩]
theorem every_mem {p : Party} (h : partyP p) : p ∈ everyone := by
  obtain ⟨k, i⟩ := p
  unfold everyone
  simp only [List.mem_append, List.mem_map, List.mem_range, List.mem_singleton, Party.mk.injEq]
  rcases h with ⟨rfl, h1, h2⟩ | ⟨rfl, h1, h2⟩ | ⟨rfl, rfl⟩
  · simp only at h1 h2
    exact .inl (.inl ⟨i.toNat, by omega, rfl, by omega⟩)
  · simp only at h1 h2
    exact .inl (.inr ⟨i.toNat, by omega, rfl, by omega⟩)
  · exact .inr ⟨rfl, rfl⟩
def whoL (l : List Bound) : List Party := l.flatMap fun b => b.who
def allP (l : List Bound) : List Party := Vd.insAll ltP (whoL l)
theorem allP_sort (l : List Bound) : Vd.compact (sortL (whoL l)) = allP l :=
  Vd.compact_eq ordP (sortL_ok _).2 fun x => (sortL_ok _).1.mem_iff
theorem allP_mem {l : List Bound} {p : Party} : p ∈ allP l ↔ ∃ b ∈ l, p ∈ b.who := by
  rw [allP, (Vd.insAll_ok ordP _).2, whoL, List.mem_flatMap]
theorem allP_nodup (l : List Bound) : (allP l).Nodup := Vd.sorted_nodup ordP (Vd.insAll_ok ordP _).1
theorem allP_len {l : List Bound} (h : ∀ b ∈ l, crowdP b.who) : (allP l).length ≤ 83 := by
  refine Vd.nodup_len (t := everyone) (allP_nodup l) fun x hx => ?_
  obtain ⟨b, hb, hx⟩ := allP_mem.1 hx
  exact every_mem ((h b hb).2 x hx)
theorem who_len {l : List Bound} (h : ∀ b ∈ l, crowdP b.who) : (whoL l).length ≤ 100 * l.length := by
  induction l with
  | nil => simp [whoL]
  | cons b l ih =>
    have h1 := (h b (by simp)).1
    have h2 := ih fun b hb => h b (by simp [hb])
    unfold whoL at h2 ⊢
    rw [List.flatMap_cons, List.length_append, List.length_cons]
    omega
def setsM (m : Matter) (most : Int) : List (List Party) × Int :=
  if (boundsM44 m).2.2 ≠ 0 then ([], (boundsM44 m).2.2)
  else if ¬ (0 ≤ most ∧ most ≤ 3) then ([], 1)
  else if 200 < (Vd.setsOf (okS m.evidence.f (boundsM44 m).1 (boundsM44 m).2.1.toNat) (allP (boundsM44 m).1) most.toNat).length then ([], 2)
  else (Vd.setsOf (okS m.evidence.f (boundsM44 m).1 (boundsM44 m).2.1.toNat) (allP (boundsM44 m).1) most.toNat, 0)
def BOk (m : Matter) : Prop := (boundsM44 m).2.2 = 0 → (boundsM44 m).1.length ≤ 1000000 ∧ (1 ≤ (boundsM44 m).2.1 ∧ (boundsM44 m).2.1 ≤ 1000) ∧ ∀ b ∈ (boundsM44 m).1, boundP (boundsM44 m).2.1 b
theorem who_step (l : List Bound) {k : Nat} (h : k < l.length) : whoL (l.take (k + 1)) = whoL (l.take k) ++ (l.getD k default).who := by
  unfold whoL
  rw [List.take_succ_eq_append_getElem h, List.flatMap_append, getD_get h]
  simp
theorem pcs_one (st : ASt) (l : List Party) : AV.oneL st (pcs l) := by
  induction l with
  | nil => trivial
  | cons x l ih => exact ⟨rfl, rfl, ih⟩
theorem flat_pcs (l : List Party) : (List.range l.length).flatMap (els Party.av l) = pcs l := flat_els Party.av l
theorem sblP {W W' : List Party} {zs : List AV} [FreeZ zs] {args : List AV} (ha : AV.subL 1 0 args) : (∀ cs ∈ [pcs W ++ zs], AV.subL 1 0 cs) ∧ (∀ r ∈ ([] : List ARow), ∀ q, q < r.n → AV.subL 1 0 (r.el q)) ∧ AV.subL 1 0 args ∧ 1 ≤ [pcs W' ++ zs].length ∧ 0 ≤ ([] : List ARow).length := by
  refine ⟨fun cs hc => ?_, fun r hr => (by cases hr), ha, Nat.le_refl _, Nat.le_refl _⟩
  simp only [List.mem_cons, List.not_mem_nil, or_false] at hc
  subst hc
  exact pz_sub _ _ _ _
theorem bslNil {G : Gh} {w : World} {v : Value} {sz b : Nat} {el : Nat → List AV} (h : AV.rel G w (.bsl sz b 0 0 0) v) : AV.rel G w (.lst sz 0 el) v := by
  obtain ⟨blk, A, h1, h2, h3, h4, h5⟩ := h
  exact ⟨A, 0, h2, h3, h4, fun h => absurd h (Nat.lt_irrefl 0)⟩
instance (Z : List Party) : FreeZ (pcs Z) := ⟨pcs_free Z⟩
theorem renP (f g : Nat → Nat) (l : List Party) : AV.renL f g (pcs l) = pcs l := by
  induction l with
  | nil => rfl
  | cons x l ih => rw [pcs_cons]; simp only [AV.renL, AV.ren, ih]
theorem renPZ (f g : Nat → Nat) (l z : List Party) : AV.renL f g (pcs l ++ pcs z) = pcs l ++ pcs z := by rw [← pcs_app, renP]
theorem up_len {L : List Party} (hL : L.length ≤ 83) : ∀ i, i ≤ 4 → ((List.range i).flatMap (Vd.choose L)).length ≤ i * 571787
  | 0, _ => by simp
  | i + 1, h => by
    have h1 := up_len hL i (by omega)
    have h2 := choose_len L i
    have h3 : L.length ^ i ≤ 83 ^ i := Nat.pow_le_pow_left hL i
    have h4 : 83 ^ i ≤ 83 ^ 3 := Nat.pow_le_pow_right (by decide) (by omega)
    have h5 : 83 ^ 3 = 571787 := by decide
    rw [List.range_succ, List.flatMap_append, List.length_append]
    simp only [List.flatMap_cons, List.flatMap_nil, List.append_nil]
    omega
theorem sub_ok {l : List Bound} {N : Nat} {ok : List Party → Bool} {L : List Party} {i : Nat} (hp : ∀ s : List Party, s.length ≤ 1000 → FnA Tryz.prog 49 [lA 4 Bound.av l, .raw (.int .i64 N), lA 2 Party.av s] (.raw (.bool (possM l N s)))) (hL : L.length ≤ 83) (hi : i ≤ 3) :
    SubOk l N (Vd.pick ok ((List.range i).flatMap (Vd.choose L)) []) i (Vd.choose L i) := by
  refine ⟨hp, fun s hs => ?_, ?_⟩
  · rcases pick_mem _ _ s hs with h | h
    · cases h
    · obtain ⟨j, hj, h⟩ := List.mem_flatMap.1 h
      have := ((Vd.choose_mem _ _ _).1 h).2
      have := List.mem_range.1 hj
      omega
  · have h1 := step_len (ok := ok) ((List.range i).flatMap (Vd.choose L)) []
    have h2 := up_len hL i (by omega)
    have h3 := up_len hL (i + 1) (by omega)
    rw [List.range_succ, List.flatMap_append, List.length_append] at h3
    simp only [List.flatMap_cons, List.flatMap_nil, List.append_nil, List.length_nil] at h1 h3
    omega
theorem outNilS (st : ASt) (a : Int) : OutOk st (.tup [.raw (.slice none 0 0), .raw (.int .i64 a)]) (.tup [lA 1 sC2 [], .raw (.int .i64 a)]) :=
  OutOk.sims (Sims.tup (show SimsL _ _ [_, _] [_, _] from ⟨(Sim.nil rfl).s, Sims.refl _, trivial⟩)) ⟨fun i h => absurd h (Nat.not_lt_zero _), trivial, trivial⟩
def soFar (l : List Bound) (k : Nat) : Option (Nat × List Party) → AV
  | none => .bsl 2 0 0 0 0
  | some (c, _) => .bsl 2 3 0 (whoL (l.take k)).length c
def soFarB (l : List Bound) (k : Nat) : Option (Nat × List Party) → List (List AV)
  | none => []
  | some (_, zs) => [pcs (whoL (l.take k)) ++ pcs zs]
def soFarP (l : List Bound) (k : Nat) : Option (Nat × List Party) → Prop
  | none => whoL (l.take k) = []
  | some (c, zs) => (whoL (l.take k)).length ≤ c ∧ c ≤ maxLen ∧ zs.length = c - (whoL (l.take k)).length
theorem Sets_A (m : Matter) (h : OkM m) (hB : BOk m) (most : Int) : FnA Tryz.prog 17 [.agg m.av, .raw (.int .i64 most)] (.tup [lA 1 sC2 (setsM m most).1, .raw (.int .i64 (setsM m most).2)]) := by
  have hb := bounds44_A m h
  have hm := Matter.free m
  have hw := within44_A most 0 3
  unfold setsM
  unfold BOk at hB
  generalize hE : boundsM44 m = E at *
  obtain ⟨l, n, e⟩ := E
  simp only at hb hB ⊢
  have hfl : (lA 4 Bound.av l).free := lA_free (fun y => Bound.free y) _
  refine fnA_of tblOk Tryz.func17 rfl (by kernel_rfl) 55 Tryz.ntmps17 lenT [.tmp 4, .tmp 5] rfl ?_
  simp only [entrySt, argSl, Nat.zero_add, Nat.reduceAdd]
  repeat
    first
      | (refine runS_nil (hK _ ?_); clear hK K)
      | refine stG ?_
      | (refine gateS 1 rfl ?_; refine runS_call rfl rfl ⟨_, evl, _, _, _, evl, oblG, ?_⟩; apply Exists.intro; refine ⟨fun hg => ?_, ?_⟩; · first | exact FnA.at_ (hb) rfl rfl | exact FnA.at_s (hb) rfl simT | exact FnA.at_s (hb) rfl simF)
      | (refine gateA 1 rfl ?_; refine runA_call rfl ⟨_, evl, _, _, _, (fun _ _ => evlA), oblG, ?_⟩; apply Exists.intro; refine ⟨fun hg => ?_, ?_⟩; · first | exact FnA.at_ (hb) rfl rfl | exact FnA.at_s (hb) rfl simT | exact FnA.at_s (hb) rfl simF)
      | (refine gateA 1 rfl ?_; refine runA_put ?_)
      | (refine gateBc ?_; first | (refine runB_nil (hK _ ?_); clear hK K) | (refine runB_op rfl ⟨_, evl, fun nb' => ?_⟩))
      | refine wpA_region (fun K hK => ?_)
      | (refine gateD ?_; first | (refine wpA_drawG false rfl (by kernel_rfl) (by kernel_rfl) (fun K hK => ?_)) | (refine wpA_drawG true rfl (by kernel_rfl) (by kernel_rfl) (fun K hK => ?_)))
  refine wpA_cond' ⟨_, evl, fun he => ?_, fun he => ?_⟩
  · simp only [Bool.not_eq_true', decide_eq_false_iff_not] at he
    rw [if_pos he]
    try refine wkG trivial ?_
    try (refine Stop.mk ?_; intro K hK)
    exact ret_of (by simp) ⟨_, _, _, evl, ob0, outNilS _ _⟩
  · simp only [Bool.not_eq_false', decide_eq_true_eq] at he
    subst he
    simp only [ne_eq, not_true_eq_false, if_false]
    obtain ⟨hlen, hn, hbs⟩ := hB rfl
    try refine wkG hw ?_
    try (refine Stop.mk ?_; intro K hK)
    refine wpA_cond' ⟨_, evl, fun he => ?_, fun he => ?_⟩
    · rw [if_pos (by simp at he; omega)]
      try refine wkG trivial ?_
      try (refine Stop.mk ?_; intro K hK)
      exact ret_of (by simp) ⟨_, _, _, evl, ob0, outNilS _ _⟩
    · have hmost : 0 ≤ most ∧ most ≤ 3 := by simpa using he
      rw [if_neg (not_not_intro hmost)]
      repeat (refine stG ?_)
      refine wpA_region (fun K hK => ?_)
      iterate 1 (refine stG ?_)
      refine runS_nil (hK _ ?_); clear hK K
      refine wpA_weak (Weak.nilBsl 9 2 0 rfl (by simp)) ?_
      try refine wkG trivial ?_
      try (refine Stop.mk ?_; intro K hK)
      have hcr := fun b hb => (hbs b hb).2.2.2
      have hwl := fun k => Nat.le_trans (who_len (l := l.take k) fun b hb => hcr b (List.mem_of_mem_take hb)) (Nat.mul_le_mul_left 100 (show (l.take k).length ≤ 1000000 by rw [List.length_take]; omega))
      refine wpA_loop (fun p : Nat × Option (Nat × List Party) => ⟨55, 0, [(1, true, .raw (.int .i64 most)), (2, true, .box 0 0), (6, true, .box 1 0), (7, true, .box 2 0), (9, true, soFar l p.1 p.2), (26, true, lA 4 Bound.av l), (27, true, .raw (.int .i64 l.length)), (28, true, .raw (.int .i64 p.1))], [m.av, [lA 4 Bound.av l], [.raw (.int .i64 n)]] ++ soFarB l p.1 p.2, [], ((0, []), [], true)⟩)
        (fun p => p.1 ≤ l.length ∧ soFarP l p.1 p.2) (fun p => l.length - p.1) (0, none) ?_ ⟨by simp, rfl⟩ ?_
      · simp only [soFar, soFarB, List.append_nil]
        refine wkn ?_ ?_ ?_
        all_goals first | exact wk0 | refine wkS ?_ | skip
        all_goals (try trivial)
        all_goals ((repeat' apply And.intro) <;> first | exact wkL | skip)
      · rintro ⟨k, o⟩ ⟨hk, hp⟩
        simp only at hk hp ⊢
        rcases Nat.lt_or_ge k l.length with hlt | hge
        · have hst := who_step l hlt
          have hl0 := hwl k
          have hl1 := hwl (k + 1)
          have hws : (lA 2 Party.av (l.getD k default).who).free := lA_free (fun y => Party.free y) _
          have hbw : (l.getD k default).who.length ≤ 100 := (hcr _ (memD hlt)).1
          cases o with
          | none =>
            simp only [soFar, soFarB, soFarP, List.append_nil] at hp ⊢
            try refine wkG trivial ?_
            try (refine Stop.mk ?_; intro K hK)
            refine wpA_cond' ⟨_, evl, fun _ => ?_, fun hb => absurd (of_decide_eq_false hb) (by omega)⟩
            repeat (refine stG ?_)
            refine wpA_region (fun K hK => ?_)
            iterate 4 (refine stG ?_)
            refine runS_freeze 3 obf ⟨_, evl, _, evl, ?_⟩
            refine runS_nil (hK _ ?_); clear hK K
            rw [hp, List.nil_append] at hst
            repeat (refine stG ?_)
            refine wpA_region (fun K hK => ?_)
            iterate 3 (refine stG ?_)
            generalize (l.getD k default).who = bw at *
            rcases Nat.eq_zero_or_pos bw.length with h0 | h0
            · obtain rfl := List.length_eq_zero_iff.1 h0
              refine runS_appB0 tblOk rfl rfl rfl evl (by simp) (by trivial) (by rfl) (by rfl) (by rfl) (by exact ⟨rfl, rfl, by decide, rfl⟩) ?_
              refine stG ?_
              refine runS_nil (hK _ ?_); clear hK K
              try (first | refine wkM hK trivial ?_ | refine wkG trivial ?_)
              try clear hK K
              try (refine Stop.mk ?_; intro K hK)
              refine ⟨(k + 1, none), ⟨by simp only; omega, by simp only [soFarP]; exact hst⟩, by simp only; omega, ?_⟩
              simp only [soFar, soFarB, List.append_nil]
              refine wkn ?_ ?_ ?_
              all_goals first | exact wk0 | refine wkS ?_ | skip
              all_goals (try trivial)
              all_goals ((repeat' apply And.intro) <;> first | exact wkL | skip)
            · refine runS_appB (cl := m.av) tblOk rfl rfl rfl evl (by simp) (by trivial) (by rfl) (by rfl) (by rfl) (by exact ⟨rfl, rfl, by decide, rfl⟩) h0 (by rfl) ?_ (by simp) ⟨?_, ?_⟩ (fun hr => absurd hr (by omega)) ?_
              · rw [flat_pcs]; exact pcs_one _ _
              · simp only [maxLen]; omega
              · show (0 + bw.length) * 16 ≤ 140737488355328
                omega
              · intro _ c' hc1 hc2 bx' bn hbn hb'
                have hbn : bn = 3 := hbn.symm
                subst hbn
                have e2 : [m.av, [lA 4 Bound.av l], [.raw (.int .i64 n)], ((m.av.drop 0).take (0 * 2) ++ (List.range bw.length).flatMap (els Party.av bw)) ++ zerosA (c' - (0 + bw.length)) [.int .i64 0, .int .i64 0]] = bx' := hb'
                rw [Nat.zero_mul, List.take_zero, List.nil_append, flat_pcs, Nat.zero_add, ← hst] at e2
                rw [zeros_pcs] at e2
                subst e2
                rw [Nat.zero_add, ← hst] at hc1 ⊢
                refine stG ?_
                refine runS_nil (hK _ ?_); clear hK K
                try (first | refine wkM hK trivial ?_ | refine wkG trivial ?_)
                try clear hK K
                try (refine Stop.mk ?_; intro K hK)
                refine ⟨(k + 1, some (c', List.replicate (c' - (whoL (l.take (k + 1))).length) default)), ⟨by simp only; omega, by simp only [soFarP, List.length_replicate]; exact ⟨hc1, hc2, trivial⟩⟩, by simp only; omega, ?_⟩
                simp only [soFar, soFarB]
                refine wkn ?_ ?_ ?_
                all_goals first | exact wk0 | refine wkS ?_ | skip
                all_goals (try trivial)
                all_goals ((repeat' apply And.intro) <;> first | exact wkL | skip)
          | some cz =>
            obtain ⟨c, zs⟩ := cz
            simp only [soFar, soFarB, soFarP] at hp ⊢
            obtain ⟨hc, hcm, hz⟩ := hp
            try refine wkG trivial ?_
            try (refine Stop.mk ?_; intro K hK)
            refine wpA_cond' ⟨_, evl, fun _ => ?_, fun hb => absurd (of_decide_eq_false hb) (by omega)⟩
            repeat (refine stG ?_)
            refine wpA_region (fun K hK => ?_)
            iterate 4 (refine stG ?_)
            refine runS_freeze 4 obf ⟨_, evl, _, evl, ?_⟩
            refine runS_nil (hK _ ?_); clear hK K
            repeat (refine stG ?_)
            refine wpA_region (fun K hK => ?_)
            iterate 3 (refine stG ?_)
            generalize (l.getD k default).who = bw at *
            have hcl : (pcs (whoL (l.take k)) ++ pcs zs).length = c * 2 := by rw [List.length_append, pcs_len, pcs_len, hz]; omega
            rcases Nat.eq_zero_or_pos bw.length with h0 | h0
            · obtain rfl := List.length_eq_zero_iff.1 h0
              rw [List.append_nil] at hst
              refine runS_appB0 tblOk rfl rfl rfl evl (by simp) (by trivial) (by rfl) (by rfl) (by rfl) (by exact ⟨rfl, rfl, by decide, rfl⟩) ?_
              refine stG ?_
              refine runS_nil (hK _ ?_); clear hK K
              try (first | refine wkM hK trivial ?_ | refine wkG trivial ?_)
              try clear hK K
              try (refine Stop.mk ?_; intro K hK)
              refine ⟨(k + 1, some (c, zs)), ⟨by simp only; omega, by simp only [soFarP, hst]; exact ⟨hc, hcm, hz⟩⟩, by simp only; omega, ?_⟩
              simp only [soFar, soFarB, hst]
              refine wkn ?_ ?_ ?_
              all_goals first | exact wk0 | refine wkS ?_ | skip
              all_goals (try trivial)
              all_goals ((repeat' apply And.intro) <;> first | exact wkL | skip)
            · have hW1 : (whoL (l.take (k + 1))).length = (whoL (l.take k)).length + bw.length := by rw [hst, List.length_append]
              refine runS_appB (cl := pcs (whoL (l.take k)) ++ pcs zs) tblOk rfl rfl rfl evl (by simp) (by trivial) (by rfl) (by rfl) (by rfl) (by exact ⟨rfl, rfl, by decide, rfl⟩) h0 (by rfl) ?_ (by rw [hcl]; omega) ⟨?_, ?_⟩ ?_ ?_
              · rw [flat_pcs]; exact pcs_one _ _
              · simp only [maxLen]; omega
              · show ((whoL (l.take k)).length + bw.length) * 16 ≤ 140737488355328
                omega
              · intro hr bx' hb'
                have e2 : [m.av, [lA 4 Bound.av l], [.raw (.int .i64 n)], putL (pcs (whoL (l.take k)) ++ pcs zs) (0 + (whoL (l.take k)).length * 2) ((List.range bw.length).flatMap (els Party.av bw))] = bx' := hb'
                have e3 : putL (pcs (whoL (l.take k)) ++ pcs zs) (0 + (whoL (l.take k)).length * 2) (pcs bw) = pcs (whoL (l.take (k + 1))) ++ pcs (zs.drop bw.length) := by
                  conv => lhs; rw [← List.take_append_drop bw.length zs, pcs_app]
                  rw [put_mid (by rw [pcs_len]; omega) (by rw [pcs_len, pcs_len, List.length_take, hz]; omega), hst, pcs_app, List.append_assoc]
                rw [flat_pcs, e3] at e2
                clear e3
                subst e2
                rw [← hW1] at hr ⊢
                refine stG ?_
                refine runS_nil (hK _ ?_); clear hK K
                try (first | refine wkM hK trivial ?_ | refine wkG trivial ?_)
                try clear hK K
                try (refine Stop.mk ?_; intro K hK)
                refine ⟨(k + 1, some (c, zs.drop bw.length)), ⟨by simp only; omega, by simp only [soFarP, List.length_drop]; exact ⟨hr, hcm, by omega⟩⟩, by simp only; omega, ?_⟩
                simp only [soFar, soFarB]
                refine wkn ?_ ?_ ?_
                all_goals first | exact wk0 | refine wkS ?_ | skip
                all_goals (try trivial)
                all_goals ((repeat' apply And.intro) <;> first | exact wkL | skip)
              · intro hr c' hc1 hc2 bx' bn hbn hb'
                have hbn : bn = 4 := hbn.symm
                subst hbn
                have e2 : [m.av, [lA 4 Bound.av l], [.raw (.int .i64 n)], pcs (whoL (l.take k)) ++ pcs zs, (((pcs (whoL (l.take k)) ++ pcs zs).drop 0).take ((whoL (l.take k)).length * 2) ++ (List.range bw.length).flatMap (els Party.av bw)) ++ zerosA (c' - ((whoL (l.take k)).length + bw.length)) [.int .i64 0, .int .i64 0]] = bx' := hb'
                rw [List.drop_zero, List.take_left' (pcs_len _), flat_pcs, ← pcs_app (whoL (l.take k)) bw, ← hst, ← hW1, zeros_pcs] at e2
                subst e2
                rw [← hW1] at hc1 ⊢
                refine stG ?_
                refine runS_nil (hK _ ?_); clear hK K
                try (first | refine wkM hK trivial ?_ | refine wkG trivial ?_)
                try clear hK K
                try (refine Stop.mk ?_; intro K hK)
                refine ⟨(k + 1, some (c', List.replicate (c' - (whoL (l.take (k + 1))).length) default)), ⟨by simp only; omega, by simp only [soFarP, List.length_replicate]; exact ⟨hc1, hc2, trivial⟩⟩, by simp only; omega, ?_⟩
                simp only [soFar, soFarB]
                refine Weak.dropB (bx1 := [m.av, [lA 4 Bound.av l], [.raw (.int .i64 n)]]) (by simp) ?_ ?_
                · intro cs hcs
                  simp only [List.cons_append, List.nil_append, List.mem_cons, List.not_mem_nil, or_false] at hcs
                  rcases hcs with rfl | rfl | rfl | rfl
                  · exact hm
                  · exact ⟨hfl, trivial⟩
                  · exact ⟨trivial, trivial⟩
                  · exact pz_free _ _
                · simp only [List.forall_mem_cons, List.not_mem_nil, false_implies, implies_true, and_true]
                  exact ⟨⟨rfl, trivial⟩, ⟨rfl, show 0 < 4 by decide⟩, ⟨rfl, show 1 < 4 by decide⟩, ⟨rfl, show 2 < 4 by decide⟩, ⟨rfl, show 3 < 4 by decide⟩, ⟨rfl, AV.sub_free _ hfl⟩, ⟨rfl, trivial⟩, ⟨rfl, trivial⟩⟩
        · obtain rfl : k = l.length := by omega
          have hwl0 := hwl l.length
          have hall := allP_sort l
          rw [List.take_length] at hwl0
          cases o
          case' none =>
            simp only [soFar, soFarB, soFarP, List.append_nil, List.take_length] at hp ⊢
            try refine wkG trivial ?_
            try (refine Stop.mk ?_; intro K hK)
            refine wpA_cond' ⟨_, evl, fun hb => absurd (of_decide_eq_true hb) (by omega), fun _ => ?_⟩
            have hs0 : sortL [] = [] := List.length_eq_zero_iff.1 (sortL_ok []).1.length_eq
            have hso := sort_G [] (by simp) 0 m.av
            rw [hs0] at hso
            haveI : FreeZ m.av := ⟨hm⟩
            have hco := Compact_G [] (by simp) 0 (Nat.le_refl _) m.av
            repeat (refine stG ?_)
            refine wpA_region (fun K hK => ?_)
            iterate 1 (refine stG ?_)
            refine sCallG [0] [] hso rfl rfl rfl ⟨_, rfl, _, rfl, _, evl, obl, by decide, by decide, ⟨rfl, trivial⟩, trivial, sblP (W' := []) ⟨Nat.zero_lt_one, trivial, trivial⟩, .tup [], rfl, [m.av, [lA 4 Bound.av l], [.raw (.int .i64 n)]], rfl, [], rfl, ?_⟩
            refine runS_nil (hK _ ?_); clear hK K
            repeat (refine stG ?_)
            refine wpA_region (fun K hK => ?_)
            iterate 1 (refine stG ?_)
            refine sCallG [0] [] hco rfl rfl rfl ⟨_, rfl, _, rfl, _, evl, obl, by decide, by decide, ⟨rfl, trivial⟩, trivial, sblP (W' := []) ⟨Nat.zero_lt_one, trivial⟩, .bsl 2 0 0 0 0, rfl, [m.av, [lA 4 Bound.av l], [.raw (.int .i64 n)]], rfl, [], rfl, ?_⟩
            refine stG ?_
            refine runS_nil (hK _ ?_); clear hK K
            repeat (refine stG ?_)
            rw [hp, hs0] at hall
            refine wpA_weak (Weak.slot (y := lA 2 Party.av (allP l)) 9 rfl (fun G w v hm hr => hall ▸ bslNil hr)) ?_
            refine wpA_weak (st' := ⟨55, 0, [(1, true, .raw (.int .i64 most)), (2, true, .box 0 0), (6, true, .box 1 0), (7, true, .box 2 0), (9, true, lA 2 Party.av (allP l))], [m.av, [lA 4 Bound.av l], [.raw (.int .i64 n)]], [], ((0, []), [], true)⟩) ?_ ?_
            · refine wkn ?_ ?_ ?_
              all_goals first | exact wk0 | refine wkS ?_ | skip
              all_goals (try trivial)
              all_goals ((repeat' apply And.intro) <;> first | exact wkL | skip)
          case' some cz =>
            obtain ⟨c, zs⟩ := cz
            simp only [soFar, soFarB, soFarP, List.take_length] at hp ⊢
            obtain ⟨hc, hcm, hz⟩ := hp
            try refine wkG trivial ?_
            try (refine Stop.mk ?_; intro K hK)
            refine wpA_cond' ⟨_, evl, fun hb => absurd (of_decide_eq_true hb) (by omega), fun _ => ?_⟩
            have hsl : (sortL (whoL l)).length = (whoL l).length := (sortL_ok _).1.length_eq
            have hso := sort_G (whoL l) (by omega) c (pcs zs)
            have hco := Compact_G (sortL (whoL l)) (by omega) c (by omega) (pcs zs)
            rw [hsl, hall] at hco
            repeat (refine stG ?_)
            refine wpA_region (fun K hK => ?_)
            iterate 1 (refine stG ?_)
            refine sCallG [3] [] hso rfl rfl rfl ⟨_, rfl, _, rfl, _, evl, obl, by decide, by decide, ⟨by rw [renPZ]; rfl, trivial⟩, trivial, sblP (W' := sortL (whoL l)) ⟨Nat.zero_lt_one, trivial, trivial⟩, .tup [], rfl, [m.av, [lA 4 Bound.av l], [.raw (.int .i64 n)], pcs (sortL (whoL l)) ++ pcs zs], by simp only [List.map_cons, List.map_nil, renPZ]; rfl, [], rfl, ?_⟩
            refine runS_nil (hK _ ?_); clear hK K
            repeat (refine stG ?_)
            refine wpA_region (fun K hK => ?_)
            iterate 1 (refine stG ?_)
            refine sCallG [3] [] hco rfl rfl rfl ⟨_, rfl, _, rfl, _, evl, obl, by decide, by decide, ⟨by rw [renPZ]; rfl, trivial⟩, trivial, sblP (W' := cmpctL (sortL (whoL l))) ⟨Nat.zero_lt_one, trivial⟩, .bsl 2 3 0 (allP l).length c, rfl, [m.av, [lA 4 Bound.av l], [.raw (.int .i64 n)], pcs (cmpctL (sortL (whoL l))) ++ pcs zs], by simp only [List.map_cons, List.map_nil, renPZ]; rfl, [], rfl, ?_⟩
            refine stG ?_
            refine runS_nil (hK _ ?_); clear hK K
            refine wpA_weak (st' := ⟨55, 0, [(1, true, .raw (.int .i64 most)), (2, true, .box 0 0), (6, true, .box 1 0), (7, true, .box 2 0), (9, true, .bsl 2 3 0 (allP l).length c)], [m.av, [lA 4 Bound.av l], [.raw (.int .i64 n)], pcs (cmpctL (sortL (whoL l))) ++ pcs zs], [], ((0, []), [], true)⟩) ?_ ?_
            · refine wkn ?_ ?_ ?_
              all_goals first | exact wk0 | refine wkS ?_ | skip
              all_goals (try trivial)
              all_goals ((repeat' apply And.intro) <;> first | exact wkL | skip)
            have hlc : (allP l).length * 2 ≤ (pcs (cmpctL (sortL (whoL l))) ++ pcs zs).length := by
              rw [List.length_append, pcs_len, cmpctL, List.length_append, hall]
              omega
            refine wpA_freeze 3 ⟨by simp, ⟨AV.belL_free _ hm, ⟨AV.bel_free _ hfl, trivial⟩, ⟨trivial, trivial⟩, trivial⟩, (fun r hr => by cases hr), ⟨trivial, .inl (by decide), .inl (by decide), .inl (by decide), .inr ⟨by simp, pz_bel _ _ _, by simpa using hlc⟩, trivial⟩⟩ ⟨_, evl, _, evl, ?_⟩
            refine wpA_weak (Weak.slot (y := lA 2 Party.av (allP l)) 9 rfl (Sim.lstE rfl fun i hi => ?_).s) ?_
            · have hcp : cmpctL (sortL (whoL l)) = allP l ++ List.replicate ((sortL (whoL l)).length - (allP l).length) default := by rw [cmpctL, hall]
              rw [hcp, pcs_app, List.append_assoc]
              exact pcs_cut (allP l) _ i hi
            refine wpA_weak (st' := ⟨55, 0, [(1, true, .raw (.int .i64 most)), (2, true, .box 0 0), (6, true, .box 1 0), (7, true, .box 2 0), (9, true, lA 2 Party.av (allP l))], [m.av, [lA 4 Bound.av l], [.raw (.int .i64 n)]], [], ((0, []), [], true)⟩) ?_ ?_
            · refine wkn ?_ ?_ ?_
              all_goals first | exact wk0 | refine wkS ?_ | skip
              all_goals (try trivial)
              all_goals ((repeat' apply And.intro) <;> first | exact wkL | skip)
          all_goals
            clear hb hw hall hwl hwl0
            have hLl := allP_len hcr
            have hfL : (lA 2 Party.av (allP l)).free := lA_free (fun y => Party.free y) _
            obtain ⟨N, rfl⟩ : ∃ N : Nat, n = N := ⟨n.toNat, by omega⟩
            obtain ⟨mo, rfl⟩ : ∃ mo : Nat, most = mo := ⟨most.toNat, by omega⟩
            have hps := fun s (hs : s.length ≤ 1000) => possible_A l (by omega) N (by omega) hbs s (by omega)
            simp only [Int.toNat_natCast]
            generalize hL : allP l = L at *
            repeat (refine stG ?_)
            refine wpA_region (fun K hK => ?_)
            iterate 1 (refine stG ?_)
            refine runS_nil (hK _ ?_); clear hK K
            refine wpA_weak (Weak.nilRowV 3 0 32 1 rfl rfl) ?_
            simp only [List.set_cons_succ, List.set_cons_zero, List.nil_append, List.length_nil]
            try refine wkG trivial ?_
            try (refine Stop.mk ?_; intro K hK)
            refine wpA_loop (fun i : Nat => ⟨55, 0, [(1, true, .raw (.int .i64 mo)), (2, true, .box 0 0), (6, true, .box 1 0), (7, true, .box 2 0), (9, true, lA 2 Party.av L), (12, true, .box 3 0), (42, true, .raw (.int .i64 (mo + 1))), (43, true, .raw (.int .i64 i))],
                [m.av, [lA 4 Bound.av l], [.raw (.int .i64 N)], [.row 0 (Vd.pick (okS m.evidence.f l N) ((List.range i).flatMap (Vd.choose L)) []).length]], [rowS (Vd.pick (okS m.evidence.f l N) ((List.range i).flatMap (Vd.choose L)) [])], ((0, []), [], true)⟩)
              (fun i => i ≤ mo + 1) (fun i => mo + 1 - i) 0 ?_ (by omega) ?_
            · rw [show Vd.pick (okS m.evidence.f l N) ((List.range 0).flatMap (Vd.choose L)) [] = [] from rfl]
              refine wkn ?_ ?_ ?_
              all_goals first | exact wk0 | refine wkS ?_ | skip
              all_goals (try trivial)
              all_goals ((repeat' apply And.intro) <;> first | exact wkL | skip)
            · intro i hi
              rcases Nat.lt_or_ge i (mo + 1) with hlt | hge
              · have hF := subsets_G m l N i L [] (Vd.pick (okS m.evidence.f l N) ((List.range i).flatMap (Vd.choose L)) []) (by simp; omega) (by omega) (sub_ok hps hLl (by omega))
                have hst : ∀ i2, i2 = i + 1 → Vd.pick (okS m.evidence.f l N) ((List.range i2).flatMap (Vd.choose L)) [] = Vd.pick (okS m.evidence.f l N) ((Vd.choose L i).map ([] ++ ·)) (Vd.pick (okS m.evidence.f l N) ((List.range i).flatMap (Vd.choose L)) []) := fun i2 e => by
                  subst e
                  rw [List.range_succ, List.flatMap_append, Vd.pick_app]
                  simp
                generalize Vd.pick (okS m.evidence.f l N) ((Vd.choose L i).map ([] ++ ·)) (Vd.pick (okS m.evidence.f l N) ((List.range i).flatMap (Vd.choose L)) []) = O2 at *
                generalize Vd.pick (okS m.evidence.f l N) ((List.range i).flatMap (Vd.choose L)) [] = O1 at *
                try refine wkG trivial ?_
                try (refine Stop.mk ?_; intro K hK)
                refine wpA_cond' ⟨_, evl, fun _ => ?_, fun hb => absurd (of_decide_eq_false hb) (by omega)⟩
                try (first | refine wkM hK trivial ?_ | refine wkG trivial ?_)
                try clear hK K
                try (refine Stop.mk ?_; intro K hK)
                refine sCallGs [0, 3, 1, 2] [0] evl hF rfl rfl ⟨_, rfl, _, rfl, _, _, evl, (by exact ⟨Sim.refl _, Sim.refl _, Sim.nil rfl, Sim.refl _, trivial⟩), obl, by decide, by decide, ⟨rfl, rfl, rfl, rfl, trivial⟩, ⟨rfl, trivial⟩, sblS ⟨subParties _, trivial, subParties _, ⟨trivial, box4⟩, trivial⟩, .tup [], rfl, [m.av, [lA 4 Bound.av l], [.raw (.int .i64 N)], [.row 0 O2.length]], rfl, [rowS O2], rfl, ?_⟩
                refine runS_nil (hK _ ?_); clear hK K
                try (first | refine wkM hK trivial ?_ | refine wkG trivial ?_)
                try clear hK K
                try (refine Stop.mk ?_; intro K hK)
                refine ⟨i + 1, by omega, by omega, ?_⟩
                rw [hst (i + 1) rfl]
                refine wkn ?_ ?_ ?_
                all_goals first | exact wk0 | refine wkS ?_ | skip
                all_goals (try trivial)
                all_goals ((repeat' apply And.intro) <;> first | exact wkL | skip)
              · obtain rfl : i = mo + 1 := by omega
                rw [show Vd.pick (okS m.evidence.f l N) ((List.range (mo + 1)).flatMap (Vd.choose L)) [] = Vd.setsOf (okS m.evidence.f l N) L mo from rfl]
                generalize Vd.setsOf (okS m.evidence.f l N) L mo = O at *
                have hfO : (lA 1 sC2 O).free := lA_free (fun y => show AV.freeL (sC2 y) from ⟨lA_free (fun z => Party.free z) _, trivial⟩) _
                try refine wkG trivial ?_
                try (refine Stop.mk ?_; intro K hK)
                refine wpA_cond' ⟨_, evl, fun hb => absurd (of_decide_eq_true hb) (by omega), fun _ => ?_⟩
                try refine wkG trivial ?_
                try (refine Stop.mk ?_; intro K hK)
                refine wpA_cond' ⟨_, evl, fun hb => ?_, fun hb => ?_⟩
                · rw [if_pos (by simp at hb; omega)]
                  try refine wkG trivial ?_
                  try (refine Stop.mk ?_; intro K hK)
                  exact ret_of (by simp) ⟨_, _, _, evl, ob0, outNilS _ _⟩
                · rw [if_neg (by simp at hb; omega)]
                  try refine wkG trivial ?_
                  try (refine Stop.mk ?_; intro K hK)
                  refine ret_of (by simp) ⟨_, _, _, evl, ob0, OutOk.sims ?_ ?_⟩
                  · exact Sims.tup ⟨Sims.row rfl rfl rfl rfl fun i hi => rfl, Sims.refl _, trivial⟩
                  · exact ⟨hfO, trivial, trivial⟩
end Go.Proofs.YtchpbdecipcelaaGreatDoor
