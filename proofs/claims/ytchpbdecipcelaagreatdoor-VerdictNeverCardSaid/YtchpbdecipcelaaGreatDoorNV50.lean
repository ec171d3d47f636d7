import Derived.Test.YtchpbdecipcelaaGreatDoorNV47
import Derived.Test.YtchpbdecipcelaaGreatDoorNV49
namespace Go.Proofs.YtchpbdecipcelaaGreatDoor
set_option linter.unusedVariables false
set_option linter.unusedSimpArgs false
set_option maxHeartbeats 4000000
set_option maxRecDepth 100000
open Go.RowKit
theorem poss_cong {l : List Bound} {N : Nat} {a c : List Party} (h : ∀ b ∈ l, freeB a b = freeB c b) : possM l N a = possM l N c := by
  unfold possM usedB
  rw [List.filter_congr h]
def onP (l : List Bound) (blamed : List Party) : List Party := (allP l).filter fun p => decide (p ∈ blamed)
theorem on_free {l : List Bound} (blamed : List Party) : ∀ b ∈ l, freeB blamed b = freeB (onP l blamed) b := by
  intro b hb
  unfold freeB
  congr 1
  rw [Bool.eq_iff_iff, List.any_eq_true, List.any_eq_true]
  constructor
  · rintro ⟨p, hp, h⟩
    exact ⟨p, hp, decide_eq_true (List.mem_filter.2 ⟨allP_mem.2 ⟨b, hb, hp⟩, h⟩)⟩
  · rintro ⟨p, hp, h⟩
    exact ⟨p, hp, (List.mem_filter.1 (of_decide_eq_true h)).2⟩
theorem on_nodup (l : List Bound) (blamed : List Party) : (onP l blamed).Nodup := (allP_nodup l).sublist List.filter_sublist
theorem on_sub {l : List Bound} {blamed : List Party} {p : Party} (h : p ∈ onP l blamed) : p ∈ blamed := of_decide_eq_true (List.mem_filter.1 h).2
theorem authsN_sub {s t : List Party} (hs : s.Nodup) (h : ∀ p ∈ s, p ∈ t) : authsN s ≤ authsN t := by
  unfold authsN
  rw [List.countP_eq_length_filter, List.countP_eq_length_filter]
  exact Vd.nodup_len (hs.sublist List.filter_sublist) fun p hp => List.mem_filter.2 ⟨h p (List.mem_filter.1 hp).1, (List.mem_filter.1 hp).2⟩
theorem auths_step (l : List Party) {k : Nat} (h : k < l.length) : authsN (l.take (k + 1)) = authsN (l.take k) + if (l.getD k default).kind = 1 then 1 else 0 := by
  rw [List.take_succ_eq_append_getElem h, getD_get h]
  unfold authsN
  rw [List.countP_append, List.countP_singleton]
  by_cases hq : l[k].kind = 1 <;> simp [hq]
theorem covers {l : List Bound} {N : Nat} {f : Int} {blamed : List Party} {most : Nat} (hp : possM l N blamed = true) (ha : (authsN blamed : Int) ≤ f) (hl : blamed.length ≤ most) :
    ∃ t ∈ Vd.setsOf (okS f l N) (allP l) most, ∀ p ∈ t, p ∈ blamed := by
  have h1 : okS f l N (onP l blamed) = true := by
    unfold okS
    rw [← poss_cong (on_free blamed), hp, Bool.and_true, decide_eq_true_iff]
    have := authsN_sub (on_nodup l blamed) fun p hp => on_sub hp
    omega
  have h2 : (onP l blamed).length ≤ most := Nat.le_trans (Vd.nodup_len (on_nodup l blamed) fun p hp => on_sub hp) hl
  obtain ⟨t, ht, hpt⟩ := Vd.setsOf_covers List.filter_sublist h2 h1
  exact ⟨t, ht, fun p hp => on_sub (Vd.part_iff.1 hpt p hp)⟩
theorem never_plain {m : Matter} {most : Int} {blamed : List Party} (he : (boundsM44 m).2.2 = 0) (ha : (authsN blamed : Int) ≤ m.evidence.f) (hp : possM (boundsM44 m).1 (boundsM44 m).2.1.toNat blamed = true) (hl : (blamed.length : Int) ≤ most) :
    ((sureM m most).2 = 0 ∧ Vd.part (sureM m most).1 blamed = true) ∨ ((sureM m most).2 = 1 ∧ 3 < most) ∨ (sureM m most).2 = 2 := by
  unfold sureM setsM
  rw [if_neg (not_not_intro he)]
  by_cases hm : 0 ≤ most ∧ most ≤ 3
  · rw [if_neg (not_not_intro hm)]
    split
    · exact .inr (.inr rfl)
    · obtain ⟨t, ht, hs⟩ := covers (most := most.toNat) hp ha (by omega)
      have hne : Vd.setsOf (okS m.evidence.f (boundsM44 m).1 (boundsM44 m).2.1.toNat) (allP (boundsM44 m).1) most.toNat ≠ [] := fun h => by rw [h] at ht; cases ht
      refine .inl ?_
      rw [if_neg (by simp), if_neg hne]
      exact ⟨rfl, Vd.part_iff.2 fun p hp => hs p ((Vd.sureOf_iff hne).1 hp t ht)⟩
  · rw [if_pos hm]
    exact .inr (.inl ⟨rfl, by omega⟩)
end Go.Proofs.YtchpbdecipcelaaGreatDoor
namespace Go.Proofs.YtchpbdecipcelaaGreatDoor
set_option linter.unusedVariables false
set_option linter.unusedSimpArgs false
set_option maxHeartbeats 4000000
set_option maxRecDepth 100000
open Go.RowKit
theorem never_A (m : Matter) (hm : MatterLim m) (blamed : List Party) (hbl : Lim blamed) (most : Int) : FnA Tryz.prog 5 [.agg m.av, lA 2 Party.av blamed, .raw (.int .i64 most)] (.raw (.bool true)) := by
  have hh := head44_A
  have hmf := Matter.free m
  have hfb : (lA 2 Party.av blamed).free := lA_free (fun y => Party.free y) _
  obtain ⟨fb, hfb1, hfew⟩ := few_A m hm
  unfold Lim at hbl
  by_cases hc : fb = true ∧ blamed.length ≤ 3 ∧ (blamed.length : Int) ≤ most
  · obtain ⟨rfl, hl3, hlm⟩ := hc
    obtain ⟨ho, hB⟩ := few_ok hm (hfb1.1 rfl)
    have hb := bounds44_A m ho
    have hU := Sure_A m ho hB most
    have hPo := Possible_A (boundsM44 m).1 (boundsM44 m).2.1 blamed
    have hpl := fun he ha hp => never_plain (m := m) (most := most) (blamed := blamed) he ha hp hlm
    have hPE : possE (boundsM44 m).1 (boundsM44 m).2.1 blamed = (true, 0) → possM (boundsM44 m).1 (boundsM44 m).2.1.toNat blamed = true := fun h => by
      unfold possE at h
      split at h
      · exact (Prod.mk.inj h).1
      · simp at h
    have hfl : (lA 4 Bound.av (boundsM44 m).1).free := lA_free (fun y => Bound.free y) _
    have hfs : (lA 2 Party.av (sureM m most).1).free := lA_free (fun y => Party.free y) _
    have hsl2 : (sureM m most).1.length ≤ 1000 := by
      have := (sets_short (most := most) hB).2
      unfold sureM
      split
      · simp
      · split
        · simp
        · rename_i h1 h2
          unfold Vd.sureOf
          refine Nat.le_trans (List.length_filter_le _ _) ?_
          cases hS : (setsM m most).1 with
          | nil => simp
          | cons s S => have := this s (by rw [hS]; simp); simp; omega
    have hpart := partR_A (sureM m most).1 blamed (by omega) (by omega)
    clear hsl2 ho hB hm
    generalize possM (boundsM44 m).1 (boundsM44 m).2.1.toNat blamed = pm at *
    generalize possE (boundsM44 m).1 (boundsM44 m).2.1 blamed = pe at *
    generalize sureM m most = su at *
    generalize boundsM44 m = E at *
    generalize Vd.part su.1 blamed = pt at *
    obtain ⟨l, n, e⟩ := E
    obtain ⟨yes, f⟩ := pe
    obtain ⟨s, g⟩ := su
    simp only at *
    refine fnA_of tblOk Tryz.func5 rfl (by kernel_rfl) 108 Tryz.ntmps5 lenT [.tmp 6] rfl ?_
    simp only [entrySt, argSl, Nat.zero_add, Nat.reduceAdd]
    try refine wkG (And.intro hh hfew) ?_
    try (refine Stop.mk ?_; intro K hK)
    refine wpA_cond' ⟨_, evl, fun hb => absurd hb (by simp; omega), fun _ => ?_⟩
    repeat
      first
        | (refine runS_nil (hK _ ?_); clear hK K)
        | refine stG ?_
        | (refine gateS 1 rfl ?_; refine runS_call rfl rfl ⟨_, evl, _, _, _, evl, oblG, ?_⟩; apply Exists.intro; refine ⟨fun hg => ?_, ?_⟩; · first | exact FnA.at_ (hb) rfl rfl | exact FnA.at_s (hb) rfl simT | exact FnA.at_s (hb) rfl simF)
        | (refine gateA 1 rfl ?_; refine runA_call rfl ⟨_, evl, _, _, _, (fun _ _ => evlA), oblG, ?_⟩; apply Exists.intro; refine ⟨fun hg => ?_, ?_⟩; · first | exact FnA.at_ (hb) rfl rfl | exact FnA.at_s (hb) rfl simT | exact FnA.at_s (hb) rfl simF)
        | (refine gateA 1 rfl ?_; refine runA_put ?_)
        | (refine gateBc ?_; first | (refine runB_nil (hK _ ?_); clear hK K) | (refine runB_op rfl ⟨_, evl, fun nb' => ?_⟩))
        | refine wpA_region (fun K hK => ?_)
        | (refine gateD ?_; first | (refine wpA_drawG false rfl (by kernel_rfl) (by kernel_rfl) (fun K hK => ?_)) | (refine wpA_drawG true rfl (by kernel_rfl) (by kernel_rfl) (fun K hK => ?_)))
    refine wpA_loop (fun k : Nat => ⟨108, 0, [(1, true, lA 2 Party.av blamed), (2, true, .raw (.int .i64 most)), (3, true, .box 0 0), (7, true, .raw (.bool true)), (8, true, lA 4 Bound.av l), (9, true, .raw (.int .i64 n)), (10, true, .raw (.int .i64 e)), (11, true, .raw (.int .i64 (authsN (blamed.take k)))), (12, true, .raw (.int .i64 k))], [m.av], [], ((0, []), [], true)⟩)
      (fun k => k ≤ blamed.length) (fun k => blamed.length - k) 0 ?_ (by omega) ?_
    · refine wkn ?_ ?_ ?_
      all_goals first | exact wk0 | refine wkS ?_ | skip
      all_goals (try trivial)
      all_goals ((repeat' apply And.intro) <;> first | exact wkL | skip)
    intro k hk
    rcases Nat.lt_or_ge k blamed.length with hlt | hge
    · have hs := auths_step blamed hlt
      have hal : authsN (blamed.take k) ≤ k := by
        unfold authsN
        exact Nat.le_trans List.countP_le_length (by rw [List.length_take]; omega)
      generalize authsN (blamed.take k) = a0 at *
      try refine wkG trivial ?_
      try (refine Stop.mk ?_; intro K hK)
      refine wpA_cond' ⟨_, evl, fun _ => ?_, fun hb => absurd (of_decide_eq_false hb) (by omega)⟩
      try refine wkG trivial ?_
      try (refine Stop.mk ?_; intro K hK)
      refine wpA_cond' ⟨_, evl, fun hb => ?_, fun hb => ?_⟩
      · rw [if_pos (of_decide_eq_true hb)] at hs
        try refine wkG trivial ?_
        try (refine Stop.mk ?_; intro K hK)
        refine ⟨k + 1, by omega, by omega, ?_⟩
        rw [hs]
        refine wkn ?_ ?_ ?_
        all_goals first | exact wk0 | refine wkS ?_ | skip
        all_goals (try trivial)
        all_goals ((repeat' apply And.intro) <;> first | exact wkL | skip)
      · rw [if_neg (of_decide_eq_false hb), Nat.add_zero] at hs
        try refine wkG trivial ?_
        try (refine Stop.mk ?_; intro K hK)
        refine ⟨k + 1, by omega, by omega, ?_⟩
        rw [hs]
        refine wkn ?_ ?_ ?_
        all_goals first | exact wk0 | refine wkS ?_ | skip
        all_goals (try trivial)
        all_goals ((repeat' apply And.intro) <;> first | exact wkL | skip)
    · obtain rfl : k = blamed.length := by omega
      rw [List.take_length]
      have hal : authsN blamed ≤ blamed.length := List.countP_le_length
      generalize authsN blamed = a0 at *
      try refine wkG trivial ?_
      try (refine Stop.mk ?_; intro K hK)
      refine wpA_cond' ⟨_, evl, fun hb => absurd (of_decide_eq_true hb) (by omega), fun _ => ?_⟩
      try refine wkG trivial ?_
      try (refine Stop.mk ?_; intro K hK)
      refine wpA_cond' ⟨_, evl, fun hb => ?_, fun hb => ?_⟩
      · try refine wkG trivial ?_
        try (refine Stop.mk ?_; intro K hK)
        all_goals (try (refine ret_of (by simp) ⟨_, _, _, evl, ob0, OutOk.sims ?_ fre⟩))
        all_goals first | exact Sims.refl _ | exact finT | exact simsF | (refine Sims.tup ?_; simp only [SimsL, and_true]; (repeat' apply And.intro) <;> first | exact simsF | skip) | (exfalso; first | omega | (simp_all; done) | (simp_all; omega)) | skip
      · simp only [Bool.or_eq_false_iff, Bool.not_eq_false', decide_eq_true_eq, decide_eq_false_iff_not] at hb
        try refine wkG hPo ?_
        try (refine Stop.mk ?_; intro K hK)
        refine wpA_cond' ⟨_, evl, fun hb2 => ?_, fun hb2 => ?_⟩
        · try refine wkG trivial ?_
          try (refine Stop.mk ?_; intro K hK)
          all_goals (try (refine ret_of (by simp) ⟨_, _, _, evl, ob0, OutOk.sims ?_ fre⟩))
          all_goals first | exact Sims.refl _ | exact finT | exact simsF | (refine Sims.tup ?_; simp only [SimsL, and_true]; (repeat' apply And.intro) <;> first | exact simsF | skip) | (exfalso; first | omega | (simp_all; done) | (simp_all; omega)) | skip
        · simp only [Bool.or_eq_false_iff, Bool.not_eq_false', decide_eq_true_eq] at hb2
          obtain ⟨rfl, rfl⟩ := hb2
          have hx := hpl (by omega) (by omega) (hPE rfl)
          clear hpl hPE
          try refine wkG hU ?_
          try (refine Stop.mk ?_; intro K hK)
          refine wpA_cond' ⟨_, evl, fun hb3 => ?_, fun hb3 => ?_⟩
          · have hv : (decide (g = 1) && decide (3 < most) || decide (g = 2)) = true := by
              simp only [Bool.not_eq_true', decide_eq_false_iff_not] at hb3
              simp only [Bool.or_eq_true, Bool.and_eq_true, decide_eq_true_eq]
              omega
            try refine wkG trivial ?_
            try (refine Stop.mk ?_; intro K hK)
            refine ret_of (by simp) ⟨_, _, _, evl, ob0, OutOk.eq ?_ ?_⟩
            · rw [hv]
            · simp [AV.free]
          · have hv : pt = true := by
              simp only [Bool.not_eq_false', decide_eq_true_eq] at hb3
              rcases hx with ⟨h1, h2⟩ | ⟨h1, h2⟩ | h1
              · exact h2
              · omega
              · omega
            try refine wkG hpart ?_
            try (refine Stop.mk ?_; intro K hK)
            refine ret_of (by simp) ⟨_, _, _, evl, ob0, OutOk.eq ?_ ?_⟩
            · rw [hv]
            · simp [AV.free]
  · refine fnA_of tblOk Tryz.func5 rfl (by kernel_rfl) 108 Tryz.ntmps5 lenT [.tmp 6] rfl ?_
    simp only [entrySt, argSl, Nat.zero_add, Nat.reduceAdd]
    try refine wkG (And.intro hh hfew) ?_
    try (refine Stop.mk ?_; intro K hK)
    refine wpA_cond' ⟨_, evl, fun _ => ?_, fun hb => absurd hb ?_⟩
    · try refine wkG trivial ?_
      try (refine Stop.mk ?_; intro K hK)
      all_goals (try (refine ret_of (by simp) ⟨_, _, _, evl, ob0, OutOk.sims ?_ fre⟩))
      all_goals first | exact Sims.refl _ | exact finT | exact simsF | (refine Sims.tup ?_; simp only [SimsL, and_true]; (repeat' apply And.intro) <;> first | exact simsF | skip) | (exfalso; first | omega | (simp_all; done) | (simp_all; omega)) | skip
    · simp only [Bool.or_eq_false_iff, Bool.not_eq_false', decide_eq_false_iff_not]
      rintro ⟨⟨h1, h2⟩, h3⟩
      exact hc ⟨h1, by omega, by omega⟩
theorem verdictNever_B {x0 x1 x2 : List AV} (k0 : CellsOk tbl 30 30 x0) (k1 : CellsOk tbl 30 32 x1) (k2 : CellsOk tbl 30 3 x2) :
    FnA Tryz.prog 5 [valA true x0, valA false x1, valA false x2] (.raw (.bool true)) := by
  obtain ⟨m, s0, g0⟩ := open_Matter k0
  obtain ⟨y1, blamed, rfl, s1, g1⟩ := open_parties k1
  obtain ⟨n, rfl, _⟩ := open_int k2
  exact FnA.sim (never_A m g0 blamed g1 n) ⟨s0, s1, Sim.of_eq rfl, trivial⟩
end Go.Proofs.YtchpbdecipcelaaGreatDoor
