import Derived.Test.YtchpbdecipcelaaGreatDoorFI49
namespace Go.Proofs.YtchpbdecipcelaaGreatDoor
set_option linter.unusedVariables false
set_option linter.unusedSimpArgs false
set_option maxHeartbeats 4000000
set_option maxRecDepth 100000
open Go.RowKit
theorem foldR_short (m : Matter) (p : List Bound × Event) (hp : p.2.replies.length ≤ 12) (es : List Event) (h : ∀ e ∈ es, e.replies.length ≤ 12) : (foldR m es p).1.length ≤ p.1.length + 200 * es.length := by
  induction es using Vd.rev_rec with
  | h0 => simp [foldR]
  | h1 es e ih =>
    have h1 := ih fun e he => h e (by simp [he])
    have h2 := round_len m e (foldR m es p).2
    have h3 := h e (by simp)
    have h4 : (foldR m es p).2.replies.length ≤ 12 := by
      rcases foldR_last m p es with e | e
      · rw [e]; exact hp
      · exact h _ (by simp [e])
    rw [foldR_snoc]
    simp only [List.length_append, List.length_cons, List.length_nil]
    omega
theorem few_short {m : Matter} (hf : fewP m) : (boundsM44 m).1.length ≤ 20000 := by
  obtain ⟨h1, h2, h3, h4, h5, h6, h7, h8⟩ := hf
  rw [List.take_of_length_le (by omega)] at h5
  have hr : ∀ c ∈ m.evidence.chains, ∀ r ∈ c.rounds, r.replies.length ≤ 12 := fun c hc r hr => by
    have := le_repR hr
    have := le_repN hc
    omega
  have hev : (evL m).length ≤ 20 := by
    have := evM_len (cs := m.evidence.chains) (fun i hi => h1 i hi (by omega)) m.evidence.chains.length (Nat.le_refl _)
    unfold evL
    omega
  have her : ∀ e ∈ evL m, e.replies.length ≤ 12 := fun e he => by
    obtain ⟨i, k, e1, e2, rfl⟩ := evM_mem (Nat.le_refl _) he
    have := hr _ (memD e1) _ (memD e2)
    simp only
    omega
  unfold boundsM44
  split
  · simp
  · split
    · simp
    · split
      · simp
      · have h2 := foldR_short m (baseL (evN m - 1).toNat, ev0) (by simp [ev0]) (evL m) her
        simp only [base_len] at h2
        show (foldR m (evL m) (baseL (evN m - 1).toNat, ev0)).1.length ≤ 20000
        omega
theorem bounds_none {m : Matter} (h : (boundsM44 m).2.2 ≠ 0) : (boundsM44 m).1 = [] := by
  unfold boundsM44 at *
  split
  · rfl
  · split
    · rfl
    · split
      · rfl
      · rename_i h1 h2 h3
        rw [if_neg h1, if_neg h2, if_neg h3] at h
        exact absurd rfl h
theorem bounds_crowd {m : Matter} (hB : BOk m) : ∀ b ∈ (boundsM44 m).1, crowdP b.who := by
  by_cases he : (boundsM44 m).2.2 = 0
  · exact fun b hb => ((hB he).2.2 b hb).2.2.2
  · rw [bounds_none he]
    intro b hb
    cases hb
theorem sets_zero {m : Matter} {most : Int} (h : (setsM m most).2 = 0) : (boundsM44 m).2.2 = 0 ∧ (0 ≤ most ∧ most ≤ 3) ∧ (setsM m most).1 = Vd.setsOf (okS m.evidence.f (boundsM44 m).1 (boundsM44 m).2.1.toNat) (allP (boundsM44 m).1) most.toNat := by
  unfold setsM at *
  split at h
  · rename_i h1; exact absurd h h1
  · rename_i h1
    split at h
    · simp at h
    · rename_i h2
      split at h
      · simp at h
      · rename_i h3
        refine ⟨Classical.not_not.1 h1, Classical.not_not.1 h2, ?_⟩
        rw [if_neg h1, if_neg h2, if_neg h3]
theorem sure_zero {m : Matter} {most : Int} (h : (sureM m most).2 = 0) : (setsM m most).2 = 0 ∧ (setsM m most).1 ≠ [] ∧ (sureM m most).1 = Vd.sureOf (setsM m most).1 := by
  unfold sureM at *
  split at h
  · rename_i h1; exact absurd h h1
  · rename_i h1
    split at h
    · simp at h
    · rename_i h2
      refine ⟨Classical.not_not.1 h1, h2, ?_⟩
      rw [if_neg h1, if_neg h2]
theorem sub_crowd {l : List Bound} (hc : ∀ b ∈ l, crowdP b.who) {s : List Party} (hs : ∀ p ∈ s, p ∈ allP l) (hl : s.length ≤ 100) : crowdP s :=
  ⟨hl, fun p hp => by
    obtain ⟨b, hb, h⟩ := allP_mem.1 (hs p hp)
    exact (hc b hb).2 p h⟩
theorem poss_ask {m : Matter} (hB : BOk m) (hf : fewP m) (he : (boundsM44 m).2.2 = 0) {s : List Party} (hs : ∀ p ∈ s, p ∈ allP (boundsM44 m).1) (hl : s.length ≤ 100) : possE (boundsM44 m).1 (boundsM44 m).2.1 s = (possM (boundsM44 m).1 (boundsM44 m).2.1.toNat s, 0) := by
  unfold possE
  rw [if_pos ⟨(hB he).2.1, few_short hf, sub_crowd (bounds_crowd hB) hs hl, (hB he).2.2⟩]
theorem sets_poss {m : Matter} (hB : BOk m) (hf : fewP m) {most : Int} (h : (setsM m most).2 = 0) {s : List Party} (hs : s ∈ (setsM m most).1) :
    possE (boundsM44 m).1 (boundsM44 m).2.1 s = (true, 0) ∧ s.length ≤ 3 ∧ (s.length : Int) ≤ most ∧ (authsN s : Int) ≤ m.evidence.f := by
  obtain ⟨h1, h2, h3⟩ := sets_zero h
  rw [h3] at hs
  obtain ⟨a1, a2, a3⟩ := Vd.setsOf_ok hs
  unfold okS at a3
  rw [Bool.and_eq_true, decide_eq_true_iff] at a3
  rw [poss_ask hB hf h1 (fun p hp => a1.subset hp) (by omega), a3.2]
  exact ⟨rfl, by omega, by omega, a3.1⟩
theorem sure_has {S : List (List Party)} (h : S ≠ []) (p : Party) : decide (p ∈ Vd.sureOf S) = !(S.any fun s => !decide (p ∈ s)) := by
  rw [Bool.eq_iff_iff, decide_eq_true_iff, Vd.sureOf_iff h, Bool.not_eq_true', List.any_eq_false]
  simp
end Go.Proofs.YtchpbdecipcelaaGreatDoor
namespace Go.Proofs.YtchpbdecipcelaaGreatDoor
set_option linter.unusedVariables false
set_option linter.unusedSimpArgs false
set_option maxHeartbeats 4000000
set_option maxRecDepth 100000
open Go.RowKit
theorem finds_A (m : Matter) (hm : MatterLim m) (most which : Int) (h1 : 0 ≤ which ∧ which ≤ 255) : FnA Tryz.prog 6 [.agg m.av, .raw (.int .i64 most), .raw (.int .u8 which)] (.raw (.bool true)) := by
  have hh := head44_A
  have hmf := Matter.free m
  obtain ⟨fb, hfb1, hfew⟩ := few_A m hm
  by_cases hc : fb = true
  · subst hc
    have hfw := hfb1.1 rfl
    obtain ⟨ho, hB⟩ := few_ok hm hfw
    have hU := Sure_A m ho hB most
    have hS := Sets_A m ho hB most
    have hb := bounds44_A m ho
    have hcw := bounds_crowd hB
    have hA := allR_A (boundsM44 m).1 (Nat.le_trans (few_short hfw) (by decide)) hcw
    have hPo := Possible_A (boundsM44 m).1 (boundsM44 m).2.1
    have hsh := sets_short (most := most) hB
    have hz := sure_zero (m := m) (most := most)
    have hz2 := fun h => (sets_zero (m := m) (most := most) h).1
    have hsp := fun h s hs => sets_poss (m := m) hB hfw (most := most) h (s := s) hs
    have hal : (allP (boundsM44 m).1).length ≤ 83 := allP_len hcw
    have hsul : (sureM m most).2 = 0 → (sureM m most).1.length ≤ 3 := fun h => by
      obtain ⟨z1, z2, z3⟩ := hz h
      rw [z3]
      unfold Vd.sureOf
      refine Nat.le_trans (List.length_filter_le _ _) ?_
      cases hS : (setsM m most).1 with
      | nil => simp
      | cons s S => have := hsh.2 s (by rw [hS]; simp); simp; omega
    have hfl : (lA 4 Bound.av (boundsM44 m).1).free := lA_free (fun y => Bound.free y) _
    have hfs : (lA 2 Party.av (sureM m most).1).free := lA_free (fun y => Party.free y) _
    have hfS : (lA 1 sC2 (setsM m most).1).free := lA_free (fun y => show AV.freeL (sC2 y) from ⟨lA_free (fun z => Party.free z) _, trivial⟩) _
    clear ho hB hm hcw hfw
    generalize allP (boundsM44 m).1 = al at *
    generalize sureM m most = su at *
    generalize setsM m most = se at *
    generalize boundsM44 m = E at *
    obtain ⟨l, n, e⟩ := E
    obtain ⟨S, f⟩ := se
    obtain ⟨U, g⟩ := su
    simp only at *
    refine fnA_of tblOk Tryz.func6 rfl (by kernel_rfl) 118 Tryz.ntmps6 lenT [.tmp 6] rfl ?_
    simp only [entrySt, argSl, Nat.zero_add, Nat.reduceAdd]
    try refine wkG (And.intro hh hfew) ?_
    try (refine Stop.mk ?_; intro K hK)
    refine wpA_cond' ⟨_, evl, fun hb => absurd hb (by simp), fun _ => ?_⟩
    repeat
      first
        | (refine runS_nil (hK _ ?_); clear hK K)
        | refine stG ?_
        | (refine gateS 1 rfl ?_; refine runS_call rfl rfl ⟨_, evl, _, _, _, evl, oblG, ?_⟩; apply Exists.intro; refine ⟨fun hg => ?_, ?_⟩; · first | exact FnA.at_ (hU) rfl rfl | exact FnA.at_ (hS) rfl rfl | exact FnA.at_ (hb) rfl rfl | exact FnA.at_ (hA) rfl rfl | exact FnA.at_s (hU) rfl simT | exact FnA.at_s (hU) rfl simF | exact FnA.at_s (hS) rfl simT | exact FnA.at_s (hS) rfl simF | exact FnA.at_s (hb) rfl simT | exact FnA.at_s (hb) rfl simF | exact FnA.at_s (hA) rfl simT | exact FnA.at_s (hA) rfl simF)
        | (refine gateA 1 rfl ?_; refine runA_call rfl ⟨_, evl, _, _, _, (fun _ _ => evlA), oblG, ?_⟩; apply Exists.intro; refine ⟨fun hg => ?_, ?_⟩; · first | exact FnA.at_ (hU) rfl rfl | exact FnA.at_ (hS) rfl rfl | exact FnA.at_ (hb) rfl rfl | exact FnA.at_ (hA) rfl rfl | exact FnA.at_s (hU) rfl simT | exact FnA.at_s (hU) rfl simF | exact FnA.at_s (hS) rfl simT | exact FnA.at_s (hS) rfl simF | exact FnA.at_s (hb) rfl simT | exact FnA.at_s (hb) rfl simF | exact FnA.at_s (hA) rfl simT | exact FnA.at_s (hA) rfl simF)
        | (refine gateA 1 rfl ?_; refine runA_put ?_)
        | (refine gateBc ?_; first | (refine runB_nil (hK _ ?_); clear hK K) | (refine runB_op rfl ⟨_, evl, fun nb' => ?_⟩))
        | refine wpA_region (fun K hK => ?_)
        | (refine gateD ?_; first | (refine wpA_drawG false rfl (by kernel_rfl) (by kernel_rfl) (fun K hK => ?_)) | (refine wpA_drawG true rfl (by kernel_rfl) (by kernel_rfl) (fun K hK => ?_)))
    refine wpA_cond' ⟨_, evl, fun _ => ?_, fun hb => ?_⟩
    · try refine wkG trivial ?_
      try (refine Stop.mk ?_; intro K hK)
      all_goals (try (refine ret_of (by simp) ⟨_, _, _, evl, ob0, OutOk.sims ?_ fre⟩))
      all_goals first | exact Sims.refl _ | exact finT | exact simsF | (refine Sims.tup ?_; simp only [SimsL, and_true]; (repeat' apply And.intro) <;> first | exact simsF | skip) | (exfalso; first | omega | (simp_all; done) | (simp_all; omega)) | skip
    have hb2 : g = 0 ∧ 0 < al.length := by
      simp only [Bool.or_eq_false_iff, Bool.not_eq_false', decide_eq_true_eq, decide_eq_false_iff_not] at hb
      exact ⟨hb.1, by omega⟩
    obtain ⟨rfl, hne⟩ := hb2
    have hne2 : (al.length : Int) ≠ 0 := by omega
    obtain ⟨q, hq, hql⟩ : ∃ q : Nat, which.tmod al.length = q ∧ q < al.length := by
      have b1 := Int.tmod_nonneg (al.length : Int) h1.1
      have b2 := Int.tmod_lt_of_pos which (show (0 : Int) < al.length by omega)
      exact ⟨(which.tmod al.length).toNat, by omega, by omega⟩
    obtain ⟨rfl, z2, rfl⟩ := hz rfl
    have := hz2 rfl
    subst this
    clear hz hz2 hb
    try refine wkG trivial ?_
    try (refine Stop.mk ?_; intro K hK)
    refine wpA_cond' ⟨_, evl, fun hb => absurd hb (by simp), fun _ => ?_⟩
    repeat (refine stG ?_)
    refine wpA_region (fun K hK => ?_)
    iterate 6 (refine stG ?_)
    rw [hq]
    clear hne2 hq
    repeat (refine stG ?_)
    refine runS_nil (hK _ ?_); clear hK K
    try (first | refine wkM hK trivial ?_ | refine wkG trivial ?_)
    try clear hK K
    try (refine Stop.mk ?_; intro K hK)
    generalize al.getD q default = p at *
    clear hal hne hql hA
    have hsl := hsul rfl
    have hsh2 := sure_has z2 p
    have hxU := hasR_A (Vd.sureOf S) (by omega) p
    rw [hsh2] at hxU
    clear hsul hsl hsh2 hb hU hS
    generalize Vd.sureOf S = U at *
    refine wpA_loop (fun i : Nat => ⟨118, 0, [(1, true, .raw (.int .i64 most)), (7, true, .raw (.bool true)), (8, true, lA 2 Party.av U), (10, true, lA 1 sC2 S), (12, true, lA 4 Bound.av l), (13, true, .raw (.int .i64 n)), (16, true, .box 1 0), (17, true, .raw (.bool ((S.take i).any fun s => !decide (p ∈ s)))), (18, true, .raw (.int .i64 i))], [m.av, p.av], [], ((0, []), [], true)⟩)
      (fun i => i ≤ S.length) (fun i => S.length - i) 0 ?_ (by omega) ?_
    · simp only [List.take_zero, List.any_nil]
      refine wkn ?_ ?_ ?_
      all_goals first | exact wk0 | refine wkS ?_ | skip
      all_goals (try trivial)
      all_goals ((repeat' apply And.intro) <;> first | exact wkL | skip)
    intro i hi
    rcases Nat.lt_or_ge i S.length with hlt | hge
    · have hst : ((S.take (i + 1)).any fun s => !decide (p ∈ s)) = (((S.take i).any fun s => !decide (p ∈ s)) || !decide (p ∈ S.getD i default)) := by
        rw [List.take_succ_eq_append_getElem hlt, List.any_append, getD_get hlt]
        simp
      obtain ⟨s1, s2, s3, s4⟩ := hsp rfl _ (memD hlt)
      have hP := hPo (S.getD i default)
      rw [s1] at hP
      have hx := hasR_A (S.getD i default) (by omega) p
      have hfi : (lA 2 Party.av (S.getD i default)).free := lA_free (fun z => Party.free z) _
      clear s1 s4
      generalize ((S.take i).any fun s => !decide (p ∈ s)) = z at *
      generalize decide (p ∈ S.getD i default) = y at *
      try refine wkG trivial ?_
      try (refine Stop.mk ?_; intro K hK)
      refine wpA_cond' ⟨_, evl, fun _ => ?_, fun hb => absurd (of_decide_eq_false hb) (by omega)⟩
      try refine wkG hP ?_
      try (refine Stop.mk ?_; intro K hK)
      refine wpA_cond' ⟨_, evl, fun hb => ?_, fun _ => ?_⟩
      · exfalso
        generalize S.getD i default = s at *
        simp at hb
        omega
      try refine wkG hx ?_
      try (refine Stop.mk ?_; intro K hK)
      refine ⟨i + 1, by omega, by omega, ?_⟩
      rw [hst]
      refine wkn ?_ ?_ ?_
      all_goals first | exact wk0 | refine wkS ?_ | skip
      all_goals (try trivial)
      all_goals ((repeat' apply And.intro) <;> first | exact wkL | skip)
    · obtain rfl : i = S.length := by omega
      rw [List.take_length]
      generalize (S.any fun s => !decide (p ∈ s)) = z at *
      try refine wkG trivial ?_
      try (refine Stop.mk ?_; intro K hK)
      refine wpA_cond' ⟨_, evl, fun hb => absurd (of_decide_eq_true hb) (by omega), fun _ => ?_⟩
      try refine wkG hxU ?_
      try (refine Stop.mk ?_; intro K hK)
      all_goals (try (refine ret_of (by simp) ⟨_, _, _, evl, ob0, OutOk.sims ?_ fre⟩))
      all_goals first | exact Sims.refl _ | exact finT | exact simsF | (refine Sims.tup ?_; simp only [SimsL, and_true]; (repeat' apply And.intro) <;> first | exact simsF | skip) | (exfalso; first | omega | (simp_all; done) | (simp_all; omega)) | skip
  · have hc : fb = false := by simpa using hc
    subst hc
    refine fnA_of tblOk Tryz.func6 rfl (by kernel_rfl) 118 Tryz.ntmps6 lenT [.tmp 6] rfl ?_
    simp only [entrySt, argSl, Nat.zero_add, Nat.reduceAdd]
    try refine wkG (And.intro hh hfew) ?_
    try (refine Stop.mk ?_; intro K hK)
    refine wpA_cond' ⟨_, evl, fun _ => ?_, fun hb => absurd hb (by simp)⟩
    try refine wkG trivial ?_
    try (refine Stop.mk ?_; intro K hK)
    all_goals (try (refine ret_of (by simp) ⟨_, _, _, evl, ob0, OutOk.sims ?_ fre⟩))
    all_goals first | exact Sims.refl _ | exact finT | exact simsF | (refine Sims.tup ?_; simp only [SimsL, and_true]; (repeat' apply And.intro) <;> first | exact simsF | skip) | (exfalso; first | omega | (simp_all; done) | (simp_all; omega)) | skip
theorem verdictFinds_B {x0 x1 x2 : List AV} (k0 : CellsOk tbl 30 30 x0) (k1 : CellsOk tbl 30 3 x1) (k2 : CellsOk tbl 30 5 x2) :
    FnA Tryz.prog 6 [valA true x0, valA false x1, valA false x2] (.raw (.bool true)) := by
  obtain ⟨m, s0, g0⟩ := open_Matter k0
  obtain ⟨a, rfl, _⟩ := open_int k1
  obtain ⟨b, rfl, g2⟩ := open_u8 k2
  simp only [inK] at g2
  exact FnA.sim (finds_A m g0 a b (by omega)) ⟨s0, Sim.of_eq rfl, Sim.of_eq rfl, trivial⟩
end Go.Proofs.YtchpbdecipcelaaGreatDoor
