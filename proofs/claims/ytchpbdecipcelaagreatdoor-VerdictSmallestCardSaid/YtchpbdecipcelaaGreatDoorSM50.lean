import Derived.Test.YtchpbdecipcelaaGreatDoorSM49
namespace Go.Proofs.YtchpbdecipcelaaGreatDoor
set_option linter.unusedVariables false
set_option linter.unusedSimpArgs false
set_option maxHeartbeats 4000000
set_option maxRecDepth 100000
open Go.RowKit
theorem smallest_A (m : Matter) (hm : MatterLim m) (most : Int) : FnA Tryz.prog 8 [.agg m.av, .raw (.int .i64 most)] (.raw (.bool true)) := by
  have hh := head44_A
  have hmf := Matter.free m
  obtain ⟨fb, hfb1, hfew⟩ := few_A m hm
  by_cases hc : fb = true
  · subst hc
    have hfw := hfb1.1 rfl
    obtain ⟨ho, hB⟩ := few_ok hm hfw
    have hS := Sets_A m ho hB most
    have hb := bounds44_A m ho
    have hPo := Possible_A (boundsM44 m).1 (boundsM44 m).2.1
    have hsh := sets_short (most := most) hB
    have hz2 := fun h => (sets_zero (m := m) (most := most) h).1
    have hsp := fun h s hs => sets_poss (m := m) hB hfw (most := most) h (s := s) hs
    have hle := fun h s hs k hk => sets_less (m := m) hB hfw (most := most) h (s := s) hs (k := k) hk
    have hap := fun h i k hi hk hne => sets_apart (m := m) (most := most) h (i := i) (k := k) hi hk hne
    have hno := sets_none (m := m) (most := most)
    have hfl : (lA 4 Bound.av (boundsM44 m).1).free := lA_free (fun y => Bound.free y) _
    have hfS : (lA 1 sC2 (setsM m most).1).free := lA_free (fun y => show AV.freeL (sC2 y) from ⟨lA_free (fun z => Party.free z) _, trivial⟩) _
    clear ho hB hm hfw
    generalize setsM m most = se at *
    generalize boundsM44 m = E at *
    obtain ⟨l, n, f⟩ := E
    obtain ⟨S, e⟩ := se
    simp only at *
    refine fnA_of tblOk Tryz.func8 rfl (by kernel_rfl) 125 Tryz.ntmps8 lenT [.tmp 4] rfl ?_
    simp only [entrySt, argSl, Nat.zero_add, Nat.reduceAdd]
    try refine wkG (And.intro hh hfew) ?_
    try (refine Stop.mk ?_; intro K hK)
    refine wpA_cond' ⟨_, evl, fun hb => absurd hb (by simp), fun _ => ?_⟩
    try refine wkG hS ?_
    try (refine Stop.mk ?_; intro K hK)
    refine wpA_cond' ⟨_, evl, fun he => ?_, fun he => ?_⟩
    · have he2 : e ≠ 0 := by simpa using he
      obtain rfl := hno he2
      try refine wkG trivial ?_
      try (refine Stop.mk ?_; intro K hK)
      all_goals (try (refine ret_of (by simp) ⟨_, _, _, evl, ob0, OutOk.sims ?_ fre⟩))
      all_goals first | exact Sims.refl _ | exact finT | exact simsF | (refine Sims.tup ?_; simp only [SimsL, and_true]; (repeat' apply And.intro) <;> first | exact simsF | skip) | (exfalso; first | omega | (simp_all; done) | (simp_all; omega)) | skip
    obtain rfl : e = 0 := by simpa using he
    have := hz2 rfl
    subst this
    clear hz2 hno he
    repeat
      first
        | (refine runS_nil (hK _ ?_); clear hK K)
        | refine stG ?_
        | (refine gateS 1 rfl ?_; refine runS_call rfl rfl ⟨_, evl, _, _, _, evl, oblG, ?_⟩; apply Exists.intro; refine ⟨fun hg => ?_, ?_⟩; · first | exact FnA.at_ (hb) rfl rfl | exact FnA.at_s (hb) rfl simT | exact FnA.at_s (hb) rfl simF)
        | (refine gateA 1 rfl ?_; refine runA_call rfl ⟨_, evl, _, _, _, (fun _ _ => evlA), oblG, ?_⟩; apply Exists.intro; refine ⟨fun hg => ?_, ?_⟩; · first | exact FnA.at_ (hb) rfl rfl | exact FnA.at_s (hb) rfl simT | exact FnA.at_s (hb) rfl simF)
        | (refine gateA 1 rfl ?_; refine runA_put ?_)
        | (refine gateBc ?_; first | (refine runB_nil (hK _ ?_); clear hK K) | (refine runB_op rfl ⟨_, evl, fun nb' => ?_⟩))
        | refine wpA_region (fun K hK => ?_)
        | (refine gateD ?_; first | (refine wpA_drawG false rfl (by kernel_rfl) (by kernel_rfl) (fun K hK => ?_)) | (refine wpA_drawG true rfl (by kernel_rfl) (by kernel_rfl) (fun K hK => ?_)))
    refine wpA_cond' ⟨_, evl, fun hb => absurd hb (by simp), fun _ => ?_⟩
    try refine wkG trivial ?_
    try (refine Stop.mk ?_; intro K hK)
    refine wpA_freeze 0 obf ⟨_, evl, _, evl, ?_⟩
    refine wpA_loop (fun i : Nat => ⟨125, 0, [(2, true, .elt m.av 0), (5, true, .raw (.bool true)), (6, true, lA 1 sC2 S), (8, true, lA 4 Bound.av l), (9, true, .raw (.int .i64 n)), (11, true, .raw (.int .i64 i))], [], [], ((0, []), [], true)⟩)
      (fun i => i ≤ S.length) (fun i => S.length - i) 0 ?_ (by omega) ?_
    · refine wkn ?_ ?_ ?_
      all_goals first | exact wk0 | refine wkS ?_ | skip
      all_goals (try trivial)
      all_goals ((repeat' apply And.intro) <;> first | exact wkL | skip)
    intro i hi
    rcases Nat.lt_or_ge i S.length with hlt | hge
    · obtain ⟨s1, s2, s3, s4⟩ := hsp rfl _ (memD hlt)
      have hle := fun k hk => hle rfl _ (memD hlt) k hk
      have hfi : (lA 2 Party.av (S.getD i default)).free := lA_free (fun z => Party.free z) _
      clear s1 s3 hsp
      try refine wkG trivial ?_
      try (refine Stop.mk ?_; intro K hK)
      refine wpA_cond' ⟨_, evl, fun _ => ?_, fun hb => absurd (of_decide_eq_false hb) (by omega)⟩
      try refine wkG trivial ?_
      try (refine Stop.mk ?_; intro K hK)
      refine wpA_loop (fun k : Nat => ⟨125, 0, [(2, true, .elt m.av 0), (5, true, .raw (.bool true)), (6, true, lA 1 sC2 S), (8, true, lA 4 Bound.av l), (9, true, .raw (.int .i64 n)), (11, true, .raw (.int .i64 i)), (12, true, .raw (.int .i64 0)), (13, true, .raw (.int .i64 k))], [], [], ((0, []), [], true)⟩)
        (fun k => k ≤ S.length) (fun k => S.length - k) 0 ?_ (by omega) ?_
      · refine wkn ?_ ?_ ?_
        all_goals first | exact wk0 | refine wkS ?_ | skip
        all_goals (try trivial)
        all_goals ((repeat' apply And.intro) <;> first | exact wkL | skip)
      · intro k hk
        rcases Nat.lt_or_ge k S.length with hkl | hkg
        · have hx := partR_A (S.getD k default) (S.getD i default) (by have := hsh.2 _ (memD hkl); omega) (by omega)
          have hav := fun hne => hap rfl i k hlt hkl hne
          have hfk : (lA 2 Party.av (S.getD k default)).free := lA_free (fun z => Party.free z) _
          generalize Vd.part (S.getD k default) (S.getD i default) = pt at *
          try refine wkG trivial ?_
          try (refine Stop.mk ?_; intro K hK)
          refine wpA_cond' ⟨_, evl, fun _ => ?_, fun hb => absurd (of_decide_eq_false hb) (by omega)⟩
          try refine wkG hx ?_
          try (refine Stop.mk ?_; intro K hK)
          refine wpA_cond' ⟨_, evl, fun hb => ?_, fun _ => ?_⟩
          · exfalso
            simp only [Bool.and_eq_true, Bool.not_eq_true', decide_eq_false_iff_not] at hb
            have := hav (by omega)
            rw [this] at hb
            simp at hb
          try refine wkG trivial ?_
          try (refine Stop.mk ?_; intro K hK)
          refine ⟨k + 1, by omega, by omega, ?_⟩
          refine wkn ?_ ?_ ?_
          all_goals first | exact wk0 | refine wkS ?_ | skip
          all_goals (try trivial)
          all_goals ((repeat' apply And.intro) <;> first | exact wkL | skip)
        · obtain rfl : k = S.length := by omega
          try refine wkG trivial ?_
          try (refine Stop.mk ?_; intro K hK)
          refine wpA_cond' ⟨_, evl, fun hb => absurd (of_decide_eq_true hb) (by omega), fun _ => ?_⟩
          try refine wkG trivial ?_
          try (refine Stop.mk ?_; intro K hK)
          refine wpA_loop (fun k : Nat => ⟨125, 0, [(2, true, .elt m.av 0), (5, true, .raw (.bool true)), (6, true, lA 1 sC2 S), (8, true, lA 4 Bound.av l), (9, true, .raw (.int .i64 n)), (11, true, .raw (.int .i64 i)), (12, true, .raw (.int .i64 (authsN ((S.getD i default).take k)))), (14, true, .raw (.int .i64 k))], [], [], ((0, []), [], true)⟩)
            (fun k => k ≤ (S.getD i default).length) (fun k => (S.getD i default).length - k) 0 ?_ (by omega) ?_
          · refine wkn ?_ ?_ ?_
            all_goals first | exact wk0 | refine wkS ?_ | skip
            all_goals (try trivial)
            all_goals ((repeat' apply And.intro) <;> first | exact wkL | skip)
          · intro k hk
            have hal : authsN ((S.getD i default).take k) ≤ k := by
              unfold authsN
              exact Nat.le_trans List.countP_le_length (by rw [List.length_take]; omega)
            rcases Nat.lt_or_ge k (S.getD i default).length with hkl | hkg
            · have hs := auths_step (S.getD i default) hkl
              have hP := hPo (lessM (S.getD i default) k)
              rw [hle k hkl] at hP
              have hlen := less_len hkl
              generalize hR : S.getD i default = R at *
              generalize authsN (R.take k) = a0 at *
              try refine wkG trivial ?_
              try (refine Stop.mk ?_; intro K hK)
              rw [hR]
              refine wpA_cond' ⟨_, evl, fun _ => ?_, fun hb => absurd (of_decide_eq_false hb) (by omega)⟩
              repeat (refine stG ?_)
              refine wpA_drawA true (by kernel_rfl) (by kernel_rfl) (fun K hK => ?_)
              refine runA_put ?_
              iterate 17 (refine stG ?_)
              refine runB_op rfl ⟨_, evl, fun nb' => ?_⟩
              refine stB ?_
              refine runB_end rfl (keepT _ _) (fun h => by cases h) ?_
              refine runB_op rfl ⟨_, evl, fun nb' => ?_⟩
              refine runS_appL (L := []) (n := 0) (M := R.take k) tblOk rfl rfl rfl evl (by simp) (by trivial) (by rfl) (by rfl) (by rfl) (by exact ⟨rfl, rfl, rfl⟩) ?_ rfl ?_ ?_ (by omega) (fun bx1 b1 c1 hb1 h1 => ?_)
              · exact ⟨[], rfl, Nat.le_refl _, Nat.zero_le _, Nat.le_refl _, fun h => absurd h (by decide), trivial⟩
              · rw [List.length_take]; omega
              · rw [← hR]; exact flat_pt _ (by rw [hR]; omega)
              rw [List.nil_append] at h1
              rw [Nat.zero_add]
              simp only [List.length_nil, Nat.zero_add] at hb1
              have hk1 : ((k : Int) + 1).toNat = k + 1 := by omega
              refine runB_end rfl (keepT _ _) (fun h => by cases h) ?_
              simp only [hk1, hR]
              refine runB_op (by rw [Nat.blt_eq, List.length_cons]; omega) ⟨_, evl, fun nb' => ?_⟩
              refine runS_appL (M := R.drop (k + 1)) (m := R.length - (k + 1)) tblOk rfl rfl rfl evl (by simp) (by trivial) (by rfl) (by rfl) (by rfl) (by exact ⟨rfl, rfl, rfl⟩) h1 (by rw [List.length_take]; omega) (by rw [List.length_drop]) ?_ (by omega) (fun bx2 b2 c2 hb2 h2 => ?_)
              · exact flat_pd R (by omega)
              clear h1
              have hN : k + (R.length - (k + 1)) = R.length - 1 := by omega
              rw [hN]
              refine runB_end rfl (keepT _ _) (fun h => by cases h) ?_
              refine runB_op (by rw [Nat.blt_eq, List.length_cons]; omega) ⟨_, evl, fun nb' => ?_⟩
              refine stG ?_
              refine runB_end rfl (keepT _ _) (fun _ => ⟨rfl, [], (List.append_nil _).symm⟩) ?_
              refine runB_nil (hK _ ?_); clear hK K
              repeat (refine stG ?_)
              refine wpA_weak (Weak.sl (sl' := [(2, true, .elt m.av 0), (5, true, .raw (.bool true)), (6, true, lA 1 sC2 S), (8, true, lA 4 Bound.av l), (9, true, .raw (.int .i64 n)), (11, true, .raw (.int .i64 i)), (12, true, .raw (.int .i64 a0)), (14, true, .raw (.int .i64 k)), (15, true, .bsl 2 b2 0 (R.length - 1) c2)]) ?_) ?_
              · simp only [SubSl, lookN_cons, ↓reduceIte, Nat.reduceEqDiff, and_true, true_and, Option.some.injEq, Prod.mk.injEq]
                all_goals ((repeat' apply And.intro) <;> first | rfl | omega)
              obtain ⟨g1, g2, g3, g4, g5⟩ := freeM m
              have hlN : (lessM R k).length = R.length - 1 := by omega
              obtain ⟨f1, f2, f3⟩ := frz_in (L := lessM R k) h2 hlN
              refine wpA_weak (Weak.freeze 0 (Nat.le_refl _) trivial (by simp [belR]) ?_) ?_
              · exact ⟨⟨fun j hj => AV.belL_free _ (g1 j hj), fun j hj => AV.belL_free _ (g2 j hj), trivial, fun j hj => AV.belL_free _ (g3 j hj), fun j hj => AV.belL_free _ (g4 j hj), fun j hj => AV.belL_free _ (g5 j hj), trivial⟩, trivial, fun j hj => AV.belL_free _ (hfS j hj), fun j hj => AV.belL_free _ (hfl j hj), trivial, trivial, trivial, trivial, f2, trivial⟩
              simp only [frzS, f1, frz_raw, List.take_zero, show ∀ bx, AV.frz 0 bx (lA 4 Bound.av l) = lA 4 Bound.av l from fun _ => rfl, show ∀ bx, AV.frz 0 bx (lA 1 sC2 S) = lA 1 sC2 S from fun _ => rfl, show ∀ bx, AV.frz 0 bx (.elt m.av 0) = .elt m.av 0 from fun _ => rfl]
              generalize chunkA 2 _ = ch at *
              replace hP := FnA.sim hP (args := [lA 4 Bound.av l, .raw (.int .i64 n), .lst 2 (R.length - 1) ch]) ⟨Sim.refl _, Sim.refl _, Sim.lstE hlN.symm f3, trivial⟩
              have hfc : (AV.lst 2 (R.length - 1) ch).free := fun j hj => by
                rw [f3 j hj]
                exact Party.free _
              clear f1 f2 f3 h2 hlN hk1 hN hb1 hb2 g1 g2 g3 g4 g5
              try refine wkG hP ?_
              try (refine Stop.mk ?_; intro K hK)
              refine wpA_cond' ⟨_, evl, fun hb => absurd hb (by simp), fun _ => ?_⟩
              try refine wkG trivial ?_
              try (refine Stop.mk ?_; intro K hK)
              refine wpA_cond' ⟨_, evl, fun hb => ?_, fun hb => ?_⟩
              · rw [hR] at hb
                rw [if_pos (of_decide_eq_true hb)] at hs
                try refine wkG trivial ?_
                try (refine Stop.mk ?_; intro K hK)
                refine ⟨k + 1, by omega, by omega, ?_⟩
                rw [hs]
                refine wkn ?_ ?_ ?_
                all_goals first | exact wk0 | refine wkS ?_ | skip
                all_goals (try trivial)
                all_goals ((repeat' apply And.intro) <;> first | exact wkL | skip)
              · rw [hR] at hb
                rw [if_neg (of_decide_eq_false hb), Nat.add_zero] at hs
                try refine wkG trivial ?_
                try (refine Stop.mk ?_; intro K hK)
                refine ⟨k + 1, by omega, by omega, ?_⟩
                rw [hs]
                refine wkn ?_ ?_ ?_
                all_goals first | exact wk0 | refine wkS ?_ | skip
                all_goals (try trivial)
                all_goals ((repeat' apply And.intro) <;> first | exact wkL | skip)
            · obtain rfl : k = (S.getD i default).length := by omega
              rw [List.take_length] at hal ⊢
              have hsz := s4
              generalize authsN (S.getD i default) = a0 at *
              try refine wkG trivial ?_
              try (refine Stop.mk ?_; intro K hK)
              refine wpA_cond' ⟨_, evl, fun hb => absurd (of_decide_eq_true hb) (by omega), fun _ => ?_⟩
              try refine wkG trivial ?_
              try (refine Stop.mk ?_; intro K hK)
              refine wpA_cond' ⟨_, evl, fun hb => absurd (of_decide_eq_true hb) (by omega), fun _ => ?_⟩
              try refine wkG trivial ?_
              try (refine Stop.mk ?_; intro K hK)
              refine ⟨i + 1, by omega, by omega, ?_⟩
              refine wkn ?_ ?_ ?_
              all_goals first | exact wk0 | refine wkS ?_ | skip
              all_goals (try trivial)
              all_goals ((repeat' apply And.intro) <;> first | exact wkL | skip)
    · obtain rfl : i = S.length := by omega
      try refine wkG trivial ?_
      try (refine Stop.mk ?_; intro K hK)
      refine wpA_cond' ⟨_, evl, fun hb => absurd (of_decide_eq_true hb) (by omega), fun _ => ?_⟩
      try refine wkG trivial ?_
      try (refine Stop.mk ?_; intro K hK)
      all_goals (try (refine ret_of (by simp) ⟨_, _, _, evl, ob0, OutOk.sims ?_ fre⟩))
      all_goals first | exact Sims.refl _ | exact finT | exact simsF | (refine Sims.tup ?_; simp only [SimsL, and_true]; (repeat' apply And.intro) <;> first | exact simsF | skip) | (exfalso; first | omega | (simp_all; done) | (simp_all; omega)) | skip
  · have hc : fb = false := by simpa using hc
    subst hc
    refine fnA_of tblOk Tryz.func8 rfl (by kernel_rfl) 125 Tryz.ntmps8 lenT [.tmp 4] rfl ?_
    simp only [entrySt, argSl, Nat.zero_add, Nat.reduceAdd]
    try refine wkG (And.intro hh hfew) ?_
    try (refine Stop.mk ?_; intro K hK)
    refine wpA_cond' ⟨_, evl, fun _ => ?_, fun hb => absurd hb (by simp)⟩
    try refine wkG trivial ?_
    try (refine Stop.mk ?_; intro K hK)
    all_goals (try (refine ret_of (by simp) ⟨_, _, _, evl, ob0, OutOk.sims ?_ fre⟩))
    all_goals first | exact Sims.refl _ | exact finT | exact simsF | (refine Sims.tup ?_; simp only [SimsL, and_true]; (repeat' apply And.intro) <;> first | exact simsF | skip) | (exfalso; first | omega | (simp_all; done) | (simp_all; omega)) | skip
theorem verdictSmallest_B {x0 x1 : List AV} (k0 : CellsOk tbl 30 30 x0) (k1 : CellsOk tbl 30 3 x1) :
    FnA Tryz.prog 8 [valA true x0, valA false x1] (.raw (.bool true)) := by
  obtain ⟨m, s0, g0⟩ := open_Matter k0
  obtain ⟨a, rfl, _⟩ := open_int k1
  exact FnA.sim (smallest_A m g0 a) ⟨s0, Sim.of_eq rfl, trivial⟩
end Go.Proofs.YtchpbdecipcelaaGreatDoor
