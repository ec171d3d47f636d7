import Derived.Test.YtchpbdecipcelaaGreatDoorSM34
import Derived.Test.YtchpbdecipcelaaGreatDoorSM35
namespace Go.Proofs.YtchpbdecipcelaaGreatDoor
set_option linter.unusedVariables false
set_option linter.unusedSimpArgs false
set_option maxHeartbeats 4000000
set_option maxRecDepth 100000
open Go.RowKit
def baseL (n : Nat) : List Bound := (List.range n).flatMap fun t : Nat => betweenL 0 ((t : Int) + 1) ⟨0, 3000000000000000⟩ []
def ev0 : Event := ⟨0, 0, 0, []⟩
def foldR (m : Matter) (es : List Event) (p : List Bound × Event) : List Bound × Event := es.foldl (fun p e => (p.1 ++ roundL m e p.2, e)) p
theorem foldR_snoc (m : Matter) (es : List Event) (e : Event) (p : List Bound × Event) : foldR m (es ++ [e]) p = ((foldR m es p).1 ++ roundL m e (foldR m es p).2, e) := by simp [foldR]
def allL (m : Matter) : List Bound := (foldR m (evL m) (baseL (evN m - 1).toNat, ev0)).1
def boundsM44 (m : Matter) : List Bound × Int × Int :=
  if ¬ formP m then ([], 0, 1) else if 1000 < evN m then ([], 0, 2) else if wE m (evL m) ≠ 0 then ([], 0, wE m (evL m)) else (allL m, evN m, 0)
theorem base_len (n : Nat) : (baseL n).length = 2 * n := by
  induction n with
  | zero => rfl
  | succ n ih =>
    rw [baseL, List.range_succ, List.flatMap_append, List.length_append]
    rw [baseL] at ih
    rw [ih]
    simp [betweenL]
    omega
theorem form_small {m : Matter} (h : formP m) (ho : OkM m) : SmallC m.evidence.chains := by
  obtain ⟨_, _, _, _, h8, _, hc⟩ := h
  refine ⟨h8, fun c hcm => ?_⟩
  obtain ⟨i, hi, rfl⟩ := List.mem_iff_getElem.1 hcm
  have h1 := (hc i hi).2.1.2.1
  rw [getD_get hi] at h1
  exact ⟨h1, fun r hr => ((ho.ch _ hcm).2.2 r hr).1⟩
theorem ev_fits {m : Matter} (ho : OkM m) {e : Event} (he : e ∈ evL m) : ∀ x ∈ e.replies, x.fits := by
  obtain ⟨i, k, h1, h2, rfl⟩ := evM_mem (Nat.le_refl _) he
  exact ((ho.ch _ (memD h1)).2.2 _ (memD h2)).2
theorem base_succ (k : Nat) : baseL (k + 1) = baseL k ++ betweenL 0 ((k : Int) + 1) ⟨0, 3000000000000000⟩ [] := by
  rw [baseL, List.range_succ, List.flatMap_append]
  simp [baseL]
theorem round_len (m : Matter) (e b : Event) : (roundL m e b).length ≤ 2 + b.replies.length + 9 * e.replies.length := by
  unfold roundL
  rw [List.length_append]
  have := says_len m e e.replies.length
  split
  · rw [List.length_append, List.length_map, List.length_range]
    have : (gapL m e b).length = 2 := rfl
    omega
  · simp only [List.length_nil]; omega
theorem foldR_last (m : Matter) (p : List Bound × Event) (es : List Event) : (foldR m es p).2 = p.2 ∨ (foldR m es p).2 ∈ es := by
  induction es using Vd.rev_rec with
  | h0 => exact .inl rfl
  | h1 es e _ => rw [foldR_snoc]; exact .inr (by simp)
theorem foldR_len (m : Matter) (p : List Bound × Event) (hp : p.2.replies.length ≤ 1000) (es : List Event) (h : ∀ e ∈ es, e.replies.length ≤ 1000) : (foldR m es p).1.length ≤ p.1.length + 20000 * es.length := by
  induction es using Vd.rev_rec with
  | h0 => simp [foldR]
  | h1 es e ih =>
    have h1 := ih fun e he => h e (by simp [he])
    have h2 := round_len m e (foldR m es p).2
    have h3 := h e (by simp)
    have h4 : (foldR m es p).2.replies.length ≤ 1000 := by
      rcases foldR_last m p es with e | e
      · rw [e]; exact hp
      · exact h _ (by simp [e])
    rw [foldR_snoc]
    simp only [List.length_append, List.length_cons, List.length_nil]
    omega
theorem outNilB (st : ASt) (a b : Int) : OutOk st (.tup [.raw (.slice none 0 0), .raw (.int .i64 a), .raw (.int .i64 b)]) (.tup [lA 4 Bound.av [], .raw (.int .i64 a), .raw (.int .i64 b)]) :=
  OutOk.sims (Sims.tup (show SimsL _ _ [_, _, _] [_, _, _] from ⟨(Sim.nil rfl).s, Sims.refl _, Sims.refl _, trivial⟩)) ⟨lA_free (fun y => Bound.free y) _, trivial, trivial, trivial⟩
theorem bounds44_A (m : Matter) (h : OkM m) : FnA Tryz.prog 12 [.agg m.av] (.tup [lA 4 Bound.av (boundsM44 m).1, .raw (.int .i64 (boundsM44 m).2.1), .raw (.int .i64 (boundsM44 m).2.2)]) := by
  have hform := formed44_A m h
  obtain ⟨f1, f2, f3, f4, f5⟩ := freeM m
  have hev := events_A m
  have hmf := Matter.free m
  by_cases hf : formP m
  · rw [decide_eq_true hf] at hform
    have hS := events_S m (form_small hf h)
    have hrp : ∀ e ∈ evL m, ∀ x ∈ e.replies, x.fits := fun e he => ev_fits h he
    have hnn := evN_n m
    unfold boundsM44
    rw [if_neg (not_not_intro hf)]
    refine fnA_of tblOk Tryz.func12 rfl (by kernel_rfl) 72 Tryz.ntmps12 lenT [.tmp 2, .tmp 3, .tmp 4] rfl ?_
    simp only [entrySt, argSl, Nat.zero_add, Nat.reduceAdd]
    try refine wkG hform ?_
    try (refine Stop.mk ?_; intro K hK)
    refine wpA_cond' ⟨_, evl, fun hb => absurd hb (by decide), fun _ => ?_⟩
    try refine wkG hev ?_
    try (refine Stop.mk ?_; intro K hK)
    have hes : AV.sub 5 1 (eventsF m) := ⟨trivial, AV.subL_free _ hmf, trivial⟩
    refine wpA_weak (Weak.nilRowV 1 6 36 4 rfl rfl) ?_
    refine wpA_weak (st' := ⟨72, 0, [(1, true, .box 0 0), (5, true, .box 2 0), (6, true, .box 3 0), (7, true, .box 4 0), (21, true, eventsF m)], [m.av, courtB m 0, [.box 1 0], [.raw (.int .i64 (nE []))], [.raw (.int .i64 (wE m []))]], [rowB []], ((0, []), [], true)⟩) ?_ ?_
    · refine wkn ?_ ?_ ?_
      all_goals first | exact wk0 | refine wkS ?_ | skip
      all_goals (try trivial)
      all_goals ((repeat' apply And.intro) <;> first | exact wkL | skip)
    refine wpA_rangeFunc (fun h j bx rw ys => j = none ∧ rw = [rowB []] ∧ ys = ((0, []), [], true) ∧ ∃ pre, pre <+: evL m ∧ h = pre.map itE ∧ bx = [m.av, courtB m 0, [.box 1 0], [.raw (.int .i64 (nE pre))], [.raw (.int .i64 (wE m pre))]])
      rfl rfl ⟨hmf, trivial⟩ hS ⟨by simp, by simp⟩ (by simp) ⟨rfl, rfl, rfl, [], by simp, rfl, rfl⟩ ?_ ?_ ?_
    · rintro hh item bx rw' ys ⟨_, rfl, rfl, pre, hp, he, rfl⟩ hpr _
      obtain ⟨e, rfl, hpe⟩ := ev_next hp he hpr
      have hem : e ∈ evL m := hpe.subset (by simp)
      refine ⟨rfl, ?_⟩
      simp only [zipSl, itE, List.cons_append, List.nil_append]
      have hat := ev_at hem
      have hfx := hrp e hem
      have hn2 := nE_snoc pre e
      have hw2 := wE_snoc m pre e
      have hfe : (lA 10 Reply.av e.replies).free := lA_free (fun y => Reply.free y) _
      have hev0 : evN m ≤ 2000000000 := by have := (evM_le (form_small hf h) _ (Nat.le_refl _)).2; have := (form_small hf h).n; unfold evN; omega
      generalize wE m pre = w0 at *
      generalize nE pre = n0 at *
      try refine wkG trivial ?_
      try (refine Stop.mk ?_; intro K hK)
      refine ⟨rfl, ?_⟩
      try refine wkG trivial ?_
      try (refine Stop.mk ?_; intro K hK)
      refine wpA_loop (fun k : Nat => ⟨72, 69, [(5, true, .box 2 0), (7, true, .box 4 0), (32, true, lA 10 Reply.av e.replies), (33, true, .raw (.int .i64 e.replies.length)), (34, true, .raw (.int .i64 k))], [m.av, courtB m 0, [.box 1 0], [.raw (.int .i64 (e.at_ + 1 + 2 * (e.replies.length : Int)))], [.raw (.int .i64 (wF m w0 (e.replies.take k)))]], [rowB []], ((0, []), [], true)⟩)
        (fun k => k ≤ e.replies.length) (fun k => e.replies.length - k) 0 ?_ (by omega) ?_
      · rw [List.take_zero, show wF m w0 [] = w0 from rfl]
        refine wkn ?_ ?_ ?_
        all_goals first | exact wk0 | refine wkS ?_ | skip
        all_goals (try trivial)
        all_goals ((repeat' apply And.intro) <;> first | exact wkL | skip)
      · intro k hk
        rcases Nat.lt_or_ge k e.replies.length with hlt | hge
        · have hck := check_G m h [] (e.replies.getD k default) (hfx _ (memD hlt))
          have hor := orE_A (wF m w0 (e.replies.take k)) (checkM m (e.replies.getD k default))
          have hst := wF_take m w0 e.replies hlt
          rw [orC] at hst
          generalize wF m w0 (e.replies.take k) = wk at *
          generalize checkM m (e.replies.getD k default) = ck at *
          try refine wkG trivial ?_
          try (refine Stop.mk ?_; intro K hK)
          refine wpA_cond' ⟨_, evl, fun _ => ?_, fun hb => absurd (of_decide_eq_false hb) (by omega)⟩
          repeat (refine stG ?_)
          refine wpA_region (fun K hK => ?_)
          iterate 4 (refine stG ?_)
          refine runS_freeze 5 obf ⟨_, evl, _, evl, ?_⟩
          refine runS_nil (hK _ ?_); clear hK K
          repeat (refine stG ?_)
          refine wpA_drawA true (by kernel_rfl) (by kernel_rfl) (fun K hK => ?_)
          refine runA_put ?_
          repeat
            first
              | (refine runS_nil (hK _ ?_); clear hK K)
              | refine stG ?_
              | (refine gateA 1 rfl ?_; refine runA_put ?_)
              | (refine gateBc ?_; first | (refine runB_nil (hK _ ?_); clear hK K) | (refine runB_op rfl ⟨_, evl, fun nb' => ?_⟩))
              | refine wpA_region (fun K hK => ?_)
              | (refine gateD ?_; first | (refine wpA_drawG false rfl (by kernel_rfl) (by kernel_rfl) (fun K hK => ?_)) | (refine wpA_drawG true rfl (by kernel_rfl) (by kernel_rfl) (fun K hK => ?_)))
          refine runA_nilT ⟨_, evl, _, evl, by decide +kernel, ?_⟩
          refine runT_op (rem := [0, 3, 4, 5, 6]) (m := 4) (cs := [0, 3]) rfl (by decide +kernel) ?_
          refine List.forall_mem_cons.2 ⟨fun o ho => ?_, List.forall_mem_cons.2 ⟨fun o ho => ?_, fun _ h => by cases h⟩⟩
          · cases Option.some.inj ho
            refine stepB_of rfl evl (fun nb' => ?_)
            refine stG ?_
            refine runS_nil ⟨(true, .raw (.int .i64 wk)), _, _, rfl, keepT _ _, fun _ => ⟨rfl, [], (List.append_nil _).symm⟩, ?_⟩
            refine runT_chain (rem := [3, 4, 5, 6]) (by decide +kernel) ?_
            rw [pickOps_eq]
            dsimp only [dl, List.cons_append, List.nil_append]
            repeat
              first
                | (refine runS_nil (hK _ ?_); clear hK K)
                | refine stG ?_
                | (refine gateA 1 rfl ?_; refine runA_put ?_)
                | (refine gateBc ?_; first | (refine runB_nil (hK _ ?_); clear hK K) | (refine runB_op rfl ⟨_, evl, fun nb' => ?_⟩))
                | refine wpA_region (fun K hK => ?_)
                | (refine gateD ?_; first | (refine wpA_drawG false rfl (by kernel_rfl) (by kernel_rfl) (fun K hK => ?_)) | (refine wpA_drawG true rfl (by kernel_rfl) (by kernel_rfl) (fun K hK => ?_)))
            refine sCallC 1 (bx1 := [m.av, courtB m 0, [.box 1 0], [.raw (.int .i64 (e.at_ + 1 + 2 * (e.replies.length : Int)))], [.raw (.int .i64 wk)]]) hck rfl rfl rfl ⟨Nat.zero_lt_one, AV.subL_free _ (Reply.free _), trivial⟩ ⟨_, rfl, _, evl, obl, rfl, rfl, rfl, ?_⟩
            refine runB_end rfl (keepT _ _) (fun h => by cases h) ?_
            repeat
              first
                | (refine runS_nil (hK _ ?_); clear hK K)
                | refine stG ?_
                | (refine gateS 1 rfl ?_; refine runS_call rfl rfl ⟨_, evl, _, _, _, evl, oblG, ?_⟩; apply Exists.intro; refine ⟨fun hg => ?_, ?_⟩; · first | exact FnA.sim hor ⟨Sim.lstE rfl fun i hi => chunk_lit (enc := iC) (l := [wk, ck]) (fun _ => rfl) rfl hi, trivial⟩ )
                | (refine gateA 1 rfl ?_; refine runA_call rfl ⟨_, evl, _, _, _, (fun _ _ => evlA), oblG, ?_⟩; apply Exists.intro; refine ⟨fun hg => ?_, ?_⟩; · first | exact FnA.sim hor ⟨Sim.lstE rfl fun i hi => chunk_lit (enc := iC) (l := [wk, ck]) (fun _ => rfl) rfl hi, trivial⟩ )
                | (refine gateA 1 rfl ?_; refine runA_put ?_)
                | (refine gateBc ?_; first | (refine runB_nil (hK _ ?_); clear hK K) | (refine runB_op rfl ⟨_, evl, fun nb' => ?_⟩))
                | refine wpA_region (fun K hK => ?_)
                | (refine gateD ?_; first | (refine wpA_drawG false rfl (by kernel_rfl) (by kernel_rfl) (fun K hK => ?_)) | (refine wpA_drawG true rfl (by kernel_rfl) (by kernel_rfl) (fun K hK => ?_)))
            refine ⟨k + 1, by omega, by omega, ?_⟩
            rw [hst]
            refine wkn ?_ ?_ ?_
            all_goals first | exact wk0 | refine wkS ?_ | skip
            all_goals (try trivial)
            all_goals ((repeat' apply And.intro) <;> first | exact wkL | skip)
          · cases Option.some.inj ho
            refine stepB_of rfl evl (fun nb' => ?_)
            refine sCallC 1 (bx1 := [m.av, courtB m 0, [.box 1 0], [.raw (.int .i64 (e.at_ + 1 + 2 * (e.replies.length : Int)))], [.raw (.int .i64 wk)]]) hck rfl rfl rfl ⟨Nat.zero_lt_one, AV.subL_free _ (Reply.free _), trivial⟩ ⟨_, rfl, _, evl, obl, rfl, rfl, rfl, ?_⟩
            refine runS_nil ⟨(true, .raw (.int .i64 ck)), _, _, rfl, keepT _ _, (fun h => by cases h), ?_⟩
            refine runT_chain (rem := [0, 4, 5, 6]) (by decide +kernel) ?_
            rw [pickOps_eq]
            dsimp only [dl, List.cons_append, List.nil_append]
            repeat
              first
                | (refine runS_nil (hK _ ?_); clear hK K)
                | refine stG ?_
                | (refine gateS 1 rfl ?_; refine runS_call rfl rfl ⟨_, evl, _, _, _, evl, oblG, ?_⟩; apply Exists.intro; refine ⟨fun hg => ?_, ?_⟩; · first | exact FnA.sim hor ⟨Sim.lstE rfl fun i hi => chunk_lit (enc := iC) (l := [wk, ck]) (fun _ => rfl) rfl hi, trivial⟩ )
                | (refine gateA 1 rfl ?_; refine runA_call rfl ⟨_, evl, _, _, _, (fun _ _ => evlA), oblG, ?_⟩; apply Exists.intro; refine ⟨fun hg => ?_, ?_⟩; · first | exact FnA.sim hor ⟨Sim.lstE rfl fun i hi => chunk_lit (enc := iC) (l := [wk, ck]) (fun _ => rfl) rfl hi, trivial⟩ )
                | (refine gateA 1 rfl ?_; refine runA_put ?_)
                | (refine gateBc ?_; first | (refine runB_nil (hK _ ?_); clear hK K) | (refine runB_op rfl ⟨_, evl, fun nb' => ?_⟩))
                | refine wpA_region (fun K hK => ?_)
                | (refine gateD ?_; first | (refine wpA_drawG false rfl (by kernel_rfl) (by kernel_rfl) (fun K hK => ?_)) | (refine wpA_drawG true rfl (by kernel_rfl) (by kernel_rfl) (fun K hK => ?_)))
            refine ⟨k + 1, by omega, by omega, ?_⟩
            rw [hst]
            refine wkn ?_ ?_ ?_
            all_goals first | exact wk0 | refine wkS ?_ | skip
            all_goals (try trivial)
            all_goals ((repeat' apply And.intro) <;> first | exact wkL | skip)
        · obtain rfl : k = e.replies.length := by omega
          rw [List.take_length]
          try refine wkG trivial ?_
          try (refine Stop.mk ?_; intro K hK)
          refine wpA_cond' ⟨_, evl, fun hb => absurd (of_decide_eq_true hb) (by omega), fun _ => ?_⟩
          try refine wkG trivial ?_
          try (refine Stop.mk ?_; intro K hK)
          refine ⟨72, 69, [], [m.av, courtB m 0, [.box 1 0], [.raw (.int .i64 (nE (pre ++ [e])))], [.raw (.int .i64 (wE m (pre ++ [e])))]], [rowB []], _, ?_, rfl, rfl, rfl, rfl, pre ++ [e], hpe, by rw [he, List.map_append]; rfl, rfl⟩
          rw [hn2, hw2]
          refine wkn ?_ ?_ ?_
          all_goals first | exact wk0 | refine wkS ?_ | skip
          all_goals (try trivial)
          all_goals ((repeat' apply And.intro) <;> first | exact wkL | skip)
    · rintro bx rw' ys ⟨_, rfl, rfl, pre, hp, he, rfl⟩
      obtain rfl := ev_all hp he
      rw [hnn]
      clear hp he
      try refine wkG trivial ?_
      try (refine Stop.mk ?_; intro K hK)
      refine wpA_cond' ⟨_, evl, fun hb => ?_, fun hb => ?_⟩
      · simp only [decide_eq_true_eq] at hb
        rw [if_pos hb]
        try refine wkG trivial ?_
        try (refine Stop.mk ?_; intro K hK)
        refine ret_of (by simp) ⟨_, _, _, evl, ob0, outNilB _ _ _⟩
      · simp only [decide_eq_false_iff_not] at hb
        rw [if_neg hb]
        try refine wkG trivial ?_
        try (refine Stop.mk ?_; intro K hK)
        refine wpA_cond' ⟨_, evl, fun hb2 => ?_, fun hb2 => ?_⟩
        · have hb3 : wE m (evL m) ≠ 0 := by simpa using hb2
          rw [if_pos hb3]
          try refine wkG trivial ?_
          try (refine Stop.mk ?_; intro K hK)
          refine ret_of (by simp) ⟨_, _, _, evl, ob0, outNilB _ _ _⟩
        · have hb3 : ¬ wE m (evL m) ≠ 0 := by simpa using hb2
          rw [if_neg hb3]
          clear hb2 hb3
          have hN1 : 1 ≤ evN m := (evM_le (form_small hf h) _ (Nat.le_refl _)).1
          obtain ⟨n0, hn0⟩ : ∃ n0, n0 = (evN m - 1).toNat := ⟨_, rfl⟩
          have hal : allL m = (foldR m (evL m) (baseL n0, ev0)).1 := by rw [hn0]; rfl
          have hok := fun e he => event_ok hf (show evN m ≤ 1000 by omega) (e := e) he
          have hcnt := evM_cnt m.evidence.chains m.evidence.chains.length
          have hcnt2 : (evL m).length ≤ 1000 := by
            have : ((evL m).length : Int) + 1 ≤ evN m := hcnt
            omega
          clear hcnt hnn
          generalize wE m (evL m) = w at *
          generalize evN m = N at *
          try refine wkG trivial ?_
          try (refine Stop.mk ?_; intro K hK)
          refine wpA_loop (fun k : Nat => ⟨72, 0, [(1, true, .box 0 0), (5, true, .box 2 0), (6, true, .box 3 0), (11, true, .raw (.int .i64 ((k : Int) + 1)))], [m.av, courtB m (baseL k).length, [.box 1 0], [.raw (.int .i64 N)], [.raw (.int .i64 w)]], [rowB (baseL k)], ((0, []), [], true)⟩)
            (fun k => k ≤ n0) (fun k => n0 - k) 0 ?_ (by omega) ?_
          · refine wkn ?_ ?_ ?_
            all_goals first | exact wk0 | refine wkS ?_ | skip
            all_goals (try trivial)
            all_goals ((repeat' apply And.intro) <;> first | exact wkL | skip)
          · intro k hk
            rcases Nat.lt_or_ge k n0 with hlt | hge
            · have hbl := base_len k
              have hbt := betweenN_G m (baseL k) (by omega) 0 ((k : Int) + 1) ⟨0, 3000000000000000⟩ (by decide)
              rw [← base_succ] at hbt
              have hsb := base_succ k
              generalize hB2 : baseL (k + 1) = B2 at *
              generalize baseL k = B1 at *
              try refine wkG trivial ?_
              try (refine Stop.mk ?_; intro K hK)
              refine wpA_cond' ⟨_, evl, fun _ => ?_, fun hb => absurd (of_decide_eq_false hb) (by omega)⟩
              try (first | refine wkM hK trivial ?_ | refine wkG trivial ?_)
              try clear hK K
              try (refine Stop.mk ?_; intro K hK)
              refine sCallC 1 (bx1 := [m.av, courtB m _, [.box 1 0], [.raw (.int .i64 N)], [.raw (.int .i64 w)]]) hbt rfl rfl rfl ⟨Nat.zero_lt_one, trivial, trivial, ⟨trivial, trivial, trivial⟩, trivial, trivial⟩ ⟨_, rfl, _, evl, obl, rfl, rfl, rfl, ?_⟩

              try (first | refine wkM hK trivial ?_ | refine wkG trivial ?_)
              try clear hK K
              try (refine Stop.mk ?_; intro K hK)
              refine ⟨k + 1, by omega, by omega, ?_⟩
              rw [hB2]
              refine wkn ?_ ?_ ?_
              all_goals first | exact wk0 | refine wkS ?_ | skip
              all_goals (try trivial)
              all_goals ((repeat' apply And.intro) <;> first | exact wkL | skip)
            · obtain rfl : k = n0 := by omega
              have hbl := base_len k
              have hfl := fun pre hpr => foldR_len m (baseL k, ev0) (by simp [ev0]) pre hpr
              have hfla := foldR_last m (baseL k, ev0)
              have hsn := fun pre e => foldR_snoc m pre e (baseL k, ev0)
              have hst : foldR m [] (baseL k, ev0) = (baseL k, ev0) := rfl
              rw [hal]
              simp only at hfl hfla
              try refine wkG trivial ?_
              try (refine Stop.mk ?_; intro K hK)
              refine wpA_cond' ⟨_, evl, fun hb => absurd (of_decide_eq_true hb) (by omega), fun _ => ?_⟩
              try refine wkG hev ?_
              try (refine Stop.mk ?_; intro K hK)
              have hes : AV.sub 6 1 (eventsF m) := ⟨trivial, AV.subL_free _ hmf, trivial⟩
              refine wpA_weak (st' := ⟨72, 0, [(1, true, .box 0 0), (5, true, .box 2 0), (6, true, .box 3 0), (12, true, .box 5 0), (60, true, eventsF m)], [m.av, courtB m (baseL k).length, [.box 1 0], [.raw (.int .i64 N)], [.raw (.int .i64 w)], ev0.av], [rowB (baseL k)], ((0, []), [], true)⟩) ?_ ?_
              · refine wkn ?_ ?_ ?_
                all_goals first | exact wk0 | refine wkS ?_ | skip
                all_goals (try trivial)
                all_goals ((repeat' apply And.intro) <;> first | exact wkL | skip)
                all_goals skip
              refine wpA_rangeFunc (fun h j bx rw ys => j = none ∧ ys = ((0, []), [], true) ∧ ∃ pre, pre <+: evL m ∧ h = pre.map itE ∧ rw = [rowB (foldR m pre (baseL k, ev0)).1] ∧ bx = [m.av, courtB m (foldR m pre (baseL k, ev0)).1.length, [.box 1 0], [.raw (.int .i64 N)], [.raw (.int .i64 w)], (foldR m pre (baseL k, ev0)).2.av])
                rfl rfl ⟨hmf, trivial⟩ hS ⟨by simp, by simp⟩ (by simp) ⟨rfl, rfl, [], by simp, rfl, rfl, rfl⟩ ?_ ?_ ?_
              · rintro hh item bx rw' ys ⟨_, rfl, pre, hp, he, rfl, rfl⟩ hpr _
                obtain ⟨e, rfl, hpe⟩ := ev_next hp he hpr
                have hem : e ∈ evL m := hpe.subset (by simp)
                have hpm : ∀ x ∈ pre, x ∈ evL m := fun x hx => hp.subset hx
                refine ⟨rfl, ?_⟩
                simp only [zipSl, itE, List.cons_append, List.nil_append]
                have hl1 := hfl pre fun x hx => (hok x (hpm x hx)).l
                have hl2 : ((0 : Int) ≤ (foldR m pre (baseL k, ev0)).2.at_ ∧ (foldR m pre (baseL k, ev0)).2.at_ ≤ 2000) ∧ (foldR m pre (baseL k, ev0)).2.replies.length ≤ 1000 := by
                  rcases hfla pre with e | e
                  · rw [e]; exact ⟨⟨by decide, by decide⟩, by simp [ev0]⟩
                  · exact ⟨(hok _ (hpm _ e)).a, (hok _ (hpm _ e)).l⟩
                have hpl := hp.length_le
                have hrg := round_G m h hf.2.1 (foldR m pre (baseL k, ev0)).1 (by omega) e (foldR m pre (baseL k, ev0)).2 (hok e hem) hl2
                have hs2 := hsn pre e
                have hfe := Event.free e
                have hfb := Event.free (foldR m pre (baseL k, ev0)).2
                clear hfl hfla hsn
                generalize (foldR m pre (baseL k, ev0)).1 = L at *
                generalize (foldR m pre (baseL k, ev0)).2 = B at *
                try refine wkG trivial ?_
                try (refine Stop.mk ?_; intro K hK)
                refine ⟨rfl, ?_⟩
                try (first | refine wkM hK trivial ?_ | refine wkG trivial ?_)
                try clear hK K
                try (refine Stop.mk ?_; intro K hK)
                refine sCallC 1 (bx1 := [m.av, courtB m _, [.box 1 0], [.raw (.int .i64 N)], [.raw (.int .i64 w)], B.av, e.av]) hrg rfl rfl rfl ⟨Nat.zero_lt_one, AV.subL_free _ hfe, AV.subL_free _ hfb, trivial⟩ ⟨_, rfl, _, evl, obl, rfl, rfl, rfl, ?_⟩

                try (first | refine wkM hK trivial ?_ | refine wkG trivial ?_)
                try clear hK K
                try (refine Stop.mk ?_; intro K hK)
                refine ⟨72, 70, [], [m.av, courtB m (foldR m (pre ++ [e]) (baseL k, ev0)).1.length, [.box 1 0], [.raw (.int .i64 N)], [.raw (.int .i64 w)], (foldR m (pre ++ [e]) (baseL k, ev0)).2.av], [rowB (foldR m (pre ++ [e]) (baseL k, ev0)).1], _, ?_, rfl, rfl, rfl, pre ++ [e], hpe, by rw [he, List.map_append]; rfl, rfl, rfl⟩
                rw [hs2]
                clear hs2
                generalize L ++ roundL m e B = L2 at *
                refine wkn ?_ ?_ ?_
                all_goals first | exact wk0 | refine wkS ?_ | skip
                all_goals (try trivial)
                all_goals ((repeat' apply And.intro) <;> first | exact wkL | skip)
              · rintro bx rw' ys ⟨_, rfl, pre, hp, he, rfl, rfl⟩
                obtain rfl := ev_all hp he
                clear hfl hfla hsn hp he hst
                have hfr := lA_free (sz := 4) (fun y => Bound.free y) (foldR m (evL m) (baseL k, ev0)).1
                have hfb := Event.free (foldR m (evL m) (baseL k, ev0)).2
                generalize (foldR m (evL m) (baseL k, ev0)).1 = L at *
                generalize (foldR m (evL m) (baseL k, ev0)).2 = B at *
                try refine wkG trivial ?_
                try (refine Stop.mk ?_; intro K hK)
                refine ret_of (by simp) ⟨_, _, _, evl, ob0, OutOk.sims ?_ ?_⟩
                · exact Sims.tup (show SimsL _ _ [_, _, _] [_, _, _] from ⟨Sims.row rfl rfl rfl rfl (fun _ _ => rfl), Sims.refl _, Sims.refl _, trivial⟩)
                · exact ⟨hfr, trivial, trivial, trivial⟩
              · rintro hh j bx rw' ys _ ⟨hj, _⟩
                cases hj
    · rintro hh j bx rw' ys _ ⟨hj, _⟩
      cases hj
  · rw [decide_eq_false hf] at hform
    unfold boundsM44
    rw [if_pos hf]
    refine fnA_of tblOk Tryz.func12 rfl (by kernel_rfl) 72 Tryz.ntmps12 lenT [.tmp 2, .tmp 3, .tmp 4] rfl ?_
    simp only [entrySt, argSl, Nat.zero_add, Nat.reduceAdd]
    try refine wkG hform ?_
    try (refine Stop.mk ?_; intro K hK)
    refine wpA_cond' ⟨_, evl, fun _ => ?_, fun hb => absurd hb (by decide)⟩
    try refine wkG trivial ?_
    try (refine Stop.mk ?_; intro K hK)
    refine ret_of (by simp) ⟨_, _, _, evl, ob0, outNilB _ _ _⟩
end Go.Proofs.YtchpbdecipcelaaGreatDoor
