/- package site: Rate, peer, Site. -/
import Derived.Test.YtcdgncmkkknmlaaGreatDoorSx
import Derived.Test.YtcdgncmkkknmlaaGreatDoorDt
namespace Go.Proofs.YtcdgncmkkknmlaaGreatDoor
set_option linter.unusedVariables false
set_option linter.unusedSimpArgs false
set_option maxHeartbeats 4000000
set_option maxRecDepth 100000
open Go.RowKit
def smallN (n : Net) : Prop := n.tables.length ≤ 1000 ∧ n.hosts.length ≤ 1000 ∧ n.auths.length ≤ 1000 ∧ n.wires.length ≤ 1000 ∧ (∀ w ∈ n.wires, w.changes.length ≤ 1000) ∧ ∀ t ∈ n.tables, t.fits
theorem net_free (n : Net) : (lA 3 Table.av n.tables).free ∧ (lA 6 Host.av n.hosts).free ∧ (lA 4 Auth.av n.auths).free ∧ (lA 3 Wire.av n.wires).free := ⟨lA_free (fun y => Table.free y) _, lA_free (fun y => Host.free y) _, lA_free (fun y => Auth.free y) _, lA_free (fun y => Wire.free y) _⟩
theorem rate28_A (n : Net) (h : smallN n) (id : Int) : FnA Tryz.prog 11 [.agg n.av, .raw (.int .i64 id)] (.tup [.raw (.int .i64 (rateM n id).1), .raw (.int .i64 (rateM n id).2)]) := by
  obtain ⟨h1, h2, h3, h4, hc, hf⟩ := h
  have hv := svalid_A n h1 h2 h3 h4 hc hf
  have ha := hosts_A n h2
  have hfi := findH_A n.hosts (by omega) id
  have hbo := bound_A n h1 hf (findH n.hosts id).1
  obtain ⟨f1, f2, f3, f4⟩ := net_free n
  have e : rateM n id = if decide (netP n) then (if (findH n.hosts id).2 then boundN n (findH n.hosts id).1 else (0, 4)) else (0, 1) := by
    unfold rateM rateN findH
    by_cases hn : netP n
    · rw [if_pos hn, decide_eq_true hn]
      by_cases hi : idxM (isH id) n.hosts < 0
      · simp [hi]
      · simp [hi]
    · rw [if_neg hn, decide_eq_false hn]; rfl
  rw [e]
  clear e hc hf h1 h2 h3 h4
  generalize decide (netP n) = v at *
  generalize boundN n (findH n.hosts id).1 = w at *
  generalize findH n.hosts id = q at *
  refine fnA_of tblOk Tryz.func11 rfl (by kernel_rfl) 25 Tryz.ntmps11 (by simp only [List.length_cons, List.length_nil]; omega) [.tmp 4, .tmp 5] rfl ?_
  simp only [entrySt, argSl, Nat.zero_add, Nat.reduceAdd]
  repeat' first
    | refine wkG (And.intro hv (And.intro ha (And.intro hfi hbo))) ?_
    | (refine cndS ⟨_, evl, ⟨cb, cb⟩, fun hb => ?_, fun hb => ?_⟩ <;> try (cases hb; done))
    | (refine Stop.mk ?_; intro K hK)
    | fail
  all_goals (try (refine ret_of (by simp) ⟨_, _, _, evl, ob0, OutOk.sims ?_ fre⟩))
  all_goals first | exact Sims.refl _ | (refine Sims.of_eq ?_; first | rfl | (simp []; done) | (simp_all []; done) | (simp_all []; omega) | (simp []; grind) | (split <;> simp_all)) | exact simsF | (refine Sims.tup ?_; simp only [SimsL, and_true]; (repeat' apply And.intro) <;> first | exact simsF | skip) | (exfalso; first | omega | (simp_all; done) | (simp_all; omega)) | skip
theorem peer_A (n : Net) (h : smallN n) (w : Wire) (hw : w.changes.length ≤ 1000) (rate : Int) (i : Iv) : FnA Tryz.prog 58 [.agg n.av, .agg w.av, .raw (.int .i64 rate), .agg i.av] (.tup [.agg (peerM n w rate i).1.av, .raw (.bool (peerM n w rate i).2)]) := by
  have ha := auths_A n h.2.2.1
  have hfi := findU_A n.auths (by have := h.2.2.1; omega) w.auth
  have hl := Lk.linkBounds_A w.changes i hw
  have hs := link_sum w i
  have hco := counts_A rate ((linkW w i).outHi + (linkW w i).backHi) (by omega)
  obtain ⟨f1, f2, f3, f4⟩ := net_free n
  have f5 : (lA 5 Change.av w.changes).free := lA_free (fun y => Change.free y) _
  unfold peerM mostW
  clear h
  unfold linkW at *
  generalize Lk.linkBoundsM w.changes i = c at *
  generalize findU n.auths w.auth = q at *
  generalize countsM rate (c.1.outHi + c.1.backHi) = m at *
  refine fnA_of tblOk Tryz.func58 rfl (by kernel_rfl) 65 Tryz.ntmps58 (by simp only [List.length_cons, List.length_nil]; omega) [.cell 8 62, .tmp 9] rfl ?_
  simp only [entrySt, argSl, Nat.zero_add, Nat.reduceAdd]
  refine stG ?_
  refine wpA_region (fun K hK => ?_)
  iterate 3 (refine stG ?_)
  refine runS_freeze 0 obf ⟨_, evl, _, evl, ?_⟩
  repeat
    first
      | (refine runS_nil (hK _ ?_); clear hK K)
      | refine stG ?_
      | (refine gateS 1 rfl ?_; refine runS_call rfl rfl ⟨_, evl, _, _, _, evl, oblG, ?_⟩; apply Exists.intro; refine ⟨fun hg => ?_, ?_⟩; · first | exact FnA.at_ (ha) rfl rfl | exact FnA.at_ (hfi) rfl rfl | exact FnA.at_ (hl) rfl rfl | exact FnA.at_s (ha) rfl simT | exact FnA.at_s (ha) rfl simF | exact FnA.at_s (hfi) rfl simT | exact FnA.at_s (hfi) rfl simF | exact FnA.at_s (hl) rfl simT | exact FnA.at_s (hl) rfl simF)
      | (refine gateA 1 rfl ?_; refine runA_call rfl ⟨_, evl, _, _, _, (fun _ _ => evlA), oblG, ?_⟩; apply Exists.intro; refine ⟨fun hg => ?_, ?_⟩; · first | exact FnA.at_ (ha) rfl rfl | exact FnA.at_ (hfi) rfl rfl | exact FnA.at_ (hl) rfl rfl | exact FnA.at_s (ha) rfl simT | exact FnA.at_s (ha) rfl simF | exact FnA.at_s (hfi) rfl simT | exact FnA.at_s (hfi) rfl simF | exact FnA.at_s (hl) rfl simT | exact FnA.at_s (hl) rfl simF)
      | (refine gateA 1 rfl ?_; refine runA_put ?_)
      | (refine gateBc ?_; first | (refine runB_nil (hK _ ?_); clear hK K) | (refine runB_op rfl ⟨_, evl, fun nb' => ?_⟩))
      | refine wpA_region (fun K hK => ?_)
      | (refine gateD ?_; first | (refine wpA_drawG false rfl (by kernel_rfl) (by kernel_rfl) (fun K hK => ?_)) | (refine wpA_drawG true rfl (by kernel_rfl) (by kernel_rfl) (fun K hK => ?_)))
  refine gateS 1 rfl ?_
  refine runS_call rfl rfl ⟨_, evl, _, _, _, evl, oblG, ?_⟩
  refine ⟨_, fun hg => FnA.at_ hco rfl rfl, ?_⟩
  iterate 6 (refine stG ?_)
  refine runS_freeze 1 obf ⟨_, evl, _, evl, ?_⟩
  repeat
    first
      | (refine runS_nil (hK _ ?_); clear hK K)
      | refine stG ?_
      | (refine gateA 1 rfl ?_; refine runA_put ?_)
      | (refine gateBc ?_; first | (refine runB_nil (hK _ ?_); clear hK K) | (refine runB_op rfl ⟨_, evl, fun nb' => ?_⟩))
      | refine wpA_region (fun K hK => ?_)
      | (refine gateD ?_; first | (refine wpA_drawG false rfl (by kernel_rfl) (by kernel_rfl) (fun K hK => ?_)) | (refine wpA_drawG true rfl (by kernel_rfl) (by kernel_rfl) (fun K hK => ?_)))
  all_goals (try (refine ret_of (by simp) ⟨_, _, _, evl, ob0, OutOk.sims ?_ fre⟩))
  all_goals first | exact Sims.refl _ | (refine Sims.of_eq ?_; first | rfl | (simp []; done) | (simp_all []; done) | (simp_all []; omega) | (simp []; grind) | (split <;> simp_all)) | exact simsF | (refine Sims.tup ?_; simp only [SimsL, and_true]; (repeat' apply And.intro) <;> first | exact simsF | skip) | (exfalso; first | omega | (simp_all; done) | (simp_all; omega)) | skip
theorem keyA_fits {n : Net} (h : netP n) {k : KeyWin} (hk : k ∈ n.auths.map keyA) : k.fits := by
  obtain ⟨h1, h2, h3⟩ := rises_iff.1 h.2.2.1.1
  obtain ⟨a, ha, rfl⟩ := List.mem_map.1 hk
  have := h3 a ha
  obtain ⟨_, _, g3, g4⟩ := h.2.2.1.2 a ha
  have hp := powM_lt 4 a.key.toNat (by omega)
  unfold keyA
  generalize powM 4 a.key.toNat = p at *
  simp only [KeyWin.fits, Sig.fits, inK]
  omega
/-- What Exp says of a key of an authority. -/
theorem expG_A {n : Net} (h : netP n) {a : Auth} (ha : a ∈ n.auths) : FnA Tryz.prog 63 [.raw (.int .i64 4), .raw (.int .i64 a.key)] (.tup [.raw (.int .i64 (powM 4 a.key.toNat)), .raw (.int .i64 0)]) := by
  have := exp_A 4 a.key
  obtain ⟨_, _, g3, g4⟩ := h.2.2.1.2 a ha
  rw [expM, show memberM 4 = true from by decide +kernel, (withinM_iff a.key 0).2 (by omega)] at this
  exact this
@[go_sem] def zeroSite : List AV := [.raw (.int .i64 0), .raw (.int .i64 0), .raw (.int .i64 0), .raw (.int .i64 0), .raw (.slice none 0 0)]
theorem site_A (n : Net) (h : smallN n) (id : Int) (i : Iv) : FnA Tryz.prog 15 [.agg n.av, .raw (.int .i64 id), .agg i.av] (.tup [.agg (siteM n id i).1.av, .raw (.int .i64 (siteM n id i).2)]) := by
  have hv : FnA Tryz.prog 13 [.agg n.av] (.raw (.bool (decide (netP n)))) := svalid_A n h.1 h.2.1 h.2.2.1 h.2.2.2.1 h.2.2.2.2.1 h.2.2.2.2.2
  have hiv := Lk.validI_A i
  have hra := rate28_A n h id
  obtain ⟨f1, f2, f3, f4⟩ := net_free n
  by_cases hc : netP n ∧ Lk.validI i = true
  · rw [siteM, if_pos hc]
    rw [decide_eq_true hc.1] at hv
    rw [hc.2] at hiv
    clear hc
    by_cases hr : (rateM n id).2 = 0
    · rw [if_pos hr]
      rw [hr] at hra
      generalize (rateM n id).1 = rate at *
      clear hr
      refine fnA_of tblOk Tryz.func15 rfl (by kernel_rfl) 72 Tryz.ntmps15 (by simp only [List.length_cons, List.length_nil]; omega) [.cell 6 37, .tmp 7] rfl ?_
      simp only [entrySt, argSl, Nat.zero_add, Nat.reduceAdd]
      try refine wkR (And.intro hv (And.intro hiv hra)) ?_
      try (refine Stop.mk ?_; intro K hK)
      refine wpA_cond' ⟨_, evl, fun hb => absurd hb (by decide), fun _ => ?_⟩
      try refine wkR hra ?_
      try (refine Stop.mk ?_; intro K hK)
      refine wpA_cond' ⟨_, evl, fun hb => absurd hb (by decide), fun _ => ?_⟩
      try refine wkR trivial ?_
      try (refine Stop.mk ?_; intro K hK)
      refine wpA_weak (Weak.nilRowB 3 4 62 8 rfl rfl) ?_
      refine wpA_loop (fun k : Nat => ⟨72, 0, [(1, true, .raw (.int .i64 id)), (3, true, .box 0 0), (5, true, .box 1 0), (6, true, .box 2 0), (7, true, .raw (.int .i64 0)), (8, true, .raw (.int .i64 rate)), (10, true, .box 3 0), (43, true, lA 3 Wire.av n.wires), (44, true, .raw (.int .i64 n.wires.length)), (45, true, .raw (.int .i64 k))], [n.av, i.av, zeroSite, [.raw (.int .i64 rate), .raw (.int .i64 n.f), .raw (.int .i64 n.lost), .raw (.int .i64 n.timeout), .row 0 (peersM n id rate i (n.wires.take k)).length]], [⟨62, 8, (peersM n id rate i (n.wires.take k)).length, els Peer.av (peersM n id rate i (n.wires.take k))⟩], ((0, []), [], true)⟩)
        (fun k => k ≤ n.wires.length) (fun k => n.wires.length - k) 0 ?_ (by omega) ?_
      · simp only [List.take_zero, peersM, List.filter_nil, List.map_nil, List.length_nil]
        refine wkn ?_ ?_ ?_
        all_goals first | exact wk0 | refine wkS ?_ | skip
        all_goals (try trivial)
        all_goals ((repeat' apply And.intro) <;> first | exact wkL | skip)
      · intro k hk
        have hlen : (peersM n id rate i (n.wires.take k)).length ≤ 1000 := by
          have h1 := List.length_filter_le (isPeer n id rate i) (n.wires.take k)
          have h2 : (n.wires.take k).length ≤ n.wires.length := by rw [List.length_take]; omega
          have h3 := h.2.2.2.1
          unfold peersM
          rw [List.length_map]
          omega
        rcases Nat.lt_or_ge k n.wires.length with hlt | hge
        · have hs := peersM_succ n id rate i n.wires hlt
          have hp := peer_A n h (n.wires.getD k default) (h.2.2.2.2.1 _ (getD_mem hlt)) rate i
          have hi : isPeer n id rate i (n.wires.getD k default) = ((peerM n (n.wires.getD k default) rate i).2 && decide ((n.wires.getD k default).host = id)) := rfl
          have hf5 : (lA 5 Change.av (n.wires.getD k default).changes).free := lA_free (fun y => Change.free y) _
          have hwl := h.2.2.2.1
          generalize peersM n id rate i (n.wires.take k) = R at *
          generalize peerM n (n.wires.getD k default) rate i = pm at *
          clear h hv hiv hra
          try refine wkR trivial ?_
          try (refine Stop.mk ?_; intro K hK)
          refine wpA_cond' ⟨_, evl, fun _ => ?_, fun hb => absurd (of_decide_eq_false hb) (by omega)⟩
          try refine wkR hp ?_
          try (refine Stop.mk ?_; intro K hK)
          refine wpA_cond' ⟨_, evl, fun hb => ?_, fun hb => ?_⟩
          · rw [hi, hb, if_pos rfl] at hs
            try refine wkR trivial ?_
            try (refine Stop.mk ?_; intro K hK)
            refine ⟨k + 1, by omega, by omega, ?_⟩
            rw [hs, List.length_append]
            refine wkn ?_ ?_ ?_
            all_goals first | exact wk0 | refine wkS ?_ | skip
            all_goals (try trivial)
            all_goals ((repeat' apply And.intro) <;> first | exact wkL | skip)
          · rw [hi, hb, if_neg (by decide), List.append_nil] at hs
            try refine wkR trivial ?_
            try (refine Stop.mk ?_; intro K hK)
            refine ⟨k + 1, by omega, by omega, ?_⟩
            rw [hs]
            refine wkn ?_ ?_ ?_
            all_goals first | exact wk0 | refine wkS ?_ | skip
            all_goals (try trivial)
            all_goals ((repeat' apply And.intro) <;> first | exact wkL | skip)
        · obtain rfl : k = n.wires.length := by omega
          rw [List.take_length]
          generalize peersM n id rate i n.wires = R at *
          try refine wkR trivial ?_
          try (refine Stop.mk ?_; intro K hK)
          refine wpA_cond' ⟨_, evl, fun hb => absurd (of_decide_eq_true hb) (by omega), fun _ => ?_⟩
          try refine wkR trivial ?_
          try (refine Stop.mk ?_; intro K hK)
          refine ret_of (by simp) ⟨_, _, _, evl, ob0, OutOk.sims ?_ ?_⟩
          · exact Sims.tup ⟨Sims.agg ⟨Sims.refl _, Sims.refl _, Sims.refl _, Sims.refl _, Sims.row rfl rfl rfl rfl (fun i hi => rfl), trivial⟩, Sims.refl _, trivial⟩
          · exact ⟨Site.free _, trivial, trivial⟩
    · rw [if_neg hr]
      generalize rateM n id = r at *
      refine fnA_of tblOk Tryz.func15 rfl (by kernel_rfl) 72 Tryz.ntmps15 (by simp only [List.length_cons, List.length_nil]; omega) [.cell 6 37, .tmp 7] rfl ?_
      simp only [entrySt, argSl, Nat.zero_add, Nat.reduceAdd]
      try refine wkR (And.intro hv (And.intro hiv hra)) ?_
      try (refine Stop.mk ?_; intro K hK)
      refine wpA_cond' ⟨_, evl, fun hb => absurd hb (by decide), fun _ => ?_⟩
      try refine wkR hra ?_
      try (refine Stop.mk ?_; intro K hK)
      refine wpA_cond' ⟨_, evl, fun _ => ?_, fun hb => absurd hb (by simpa using hr)⟩
      try refine wkR trivial ?_
      try (refine Stop.mk ?_; intro K hK)
      refine ret_of (by simp) ⟨_, _, _, evl, ob0, OutOk.sims ?_ ?_⟩
      · exact Sims.tup ⟨Sims.agg ⟨Sims.refl _, Sims.refl _, Sims.refl _, Sims.refl _, (Sim.nil rfl).s, trivial⟩, Sims.refl _, trivial⟩
      · exact ⟨Site.free _, trivial, trivial⟩
  · rw [siteM, if_neg hc]
    have hno : (decide (netP n) && Lk.validI i) = false := by
      rw [Bool.and_eq_false_iff]
      by_cases hn : netP n
      · right; simpa [hn] using hc
      · left; exact decide_eq_false hn
    generalize decide (netP n) = v at *
    generalize Lk.validI i = u at *
    refine fnA_of tblOk Tryz.func15 rfl (by kernel_rfl) 72 Tryz.ntmps15 (by simp only [List.length_cons, List.length_nil]; omega) [.cell 6 37, .tmp 7] rfl ?_
    simp only [entrySt, argSl, Nat.zero_add, Nat.reduceAdd]
    try refine wkR (And.intro hv hiv) ?_
    try (refine Stop.mk ?_; intro K hK)
    refine wpA_cond' ⟨_, evl, fun _ => ?_, fun hb => absurd hb (by cases v <;> cases u <;> simp_all)⟩
    try refine wkR trivial ?_
    try (refine Stop.mk ?_; intro K hK)
    refine ret_of (by simp) ⟨_, _, _, evl, ob0, OutOk.sims ?_ ?_⟩
    · exact Sims.tup ⟨Sims.agg ⟨Sims.refl _, Sims.refl _, Sims.refl _, Sims.refl _, (Sim.nil rfl).s, trivial⟩, Sims.refl _, trivial⟩
    · exact ⟨Site.free _, trivial, trivial⟩
theorem keys28_A (n : Net) (h : smallN n) : FnA Tryz.prog 18 [.agg n.av] (.tup [lA 7 KeyWin.av (keysM n).1, .raw (.int .i64 (keysM n).2)]) := by
  have hv : FnA Tryz.prog 13 [.agg n.av] (.raw (.bool (decide (netP n)))) := svalid_A n h.1 h.2.1 h.2.2.1 h.2.2.2.1 h.2.2.2.2.1 h.2.2.2.2.2
  obtain ⟨f1, f2, f3, f4⟩ := net_free n
  by_cases hc : netP n
  · rw [keysM, if_pos hc]
    rw [decide_eq_true hc] at hv
    have hkv := valid_A (n.auths.map keyA) (by rw [List.length_map]; have := h.2.2.1; omega) (fun k hk => keyA_fits hc hk)
    rw [decide_eq_true (keys_valid hc)] at hkv
    have hl : (n.auths.map keyA).length = n.auths.length := List.length_map ..
    have hal := h.2.2.1
    refine fnA_of tblOk Tryz.func18 rfl (by kernel_rfl) 40 Tryz.ntmps18 (by simp only [List.length_cons, List.length_nil]; omega) [.tmp 2, .tmp 3] rfl ?_
    simp only [entrySt, argSl, Nat.zero_add, Nat.reduceAdd]
    try refine wkR hv ?_
    try (refine Stop.mk ?_; intro K hK)
    refine wpA_cond' ⟨_, evl, fun hb => absurd hb (by decide), fun _ => ?_⟩
    try refine wkR trivial ?_
    try (refine Stop.mk ?_; intro K hK)
    refine wpA_weak (Weak.nilRow 4 84 7 rfl) ?_
    refine wpA_loop (fun k : Nat => ⟨40, 0, [(1, true, .box 0 0), (2, true, .raw (.slice none 0 0)), (3, true, .raw (.int .i64 0)), (4, true, .row 0 ((n.auths.map keyA).take k).length), (13, true, lA 4 Auth.av n.auths), (14, true, .raw (.int .i64 n.auths.length)), (15, true, .raw (.int .i64 k))], [n.av], [⟨84, 7, ((n.auths.map keyA).take k).length, els KeyWin.av ((n.auths.map keyA).take k)⟩], ((0, []), [], true)⟩)
      (fun k => k ≤ n.auths.length) (fun k => n.auths.length - k) 0 ?_ (by omega) ?_
    · simp only [List.take_zero, List.length_nil]
      refine wkn ?_ ?_ ?_
      all_goals first | exact wk0 | refine wkS ?_ | skip
      all_goals (try trivial)
      all_goals ((repeat' apply And.intro) <;> first | exact wkL | skip)
    · intro k hk
      have hlen : ((n.auths.map keyA).take k).length = k := by rw [List.length_take, hl]; omega
      rcases Nat.lt_or_ge k n.auths.length with hlt | hge
      · have hs : (n.auths.map keyA).take (k + 1) = (n.auths.map keyA).take k ++ [keyA (n.auths.getD k default)] := by
          rw [List.take_succ_eq_append_getElem (by omega), List.getElem_map, getD_get hlt]
        have hex := expG_A hc (getD_mem hlt)
        clear h hc hkv hv
        try refine wkR trivial ?_
        try (refine Stop.mk ?_; intro K hK)
        refine wpA_cond' ⟨_, evl, fun _ => ?_, fun hb => absurd (of_decide_eq_false hb) (by omega)⟩
        try refine wkR hex ?_
        try (refine Stop.mk ?_; intro K hK)
        refine wpA_cond' ⟨_, evl, fun hb => absurd hb (by decide), fun _ => ?_⟩
        try refine wkR trivial ?_
        try (refine Stop.mk ?_; intro K hK)
        refine ⟨k + 1, by omega, by omega, ?_⟩
        rw [hs, List.length_append]
        generalize (n.auths.map keyA).take k = R at *
        refine wkn ?_ ?_ ?_
        all_goals first | exact wk0 | refine wkS ?_ | skip
        all_goals (try trivial)
        all_goals ((repeat' apply And.intro) <;> first | exact wkL | skip)
      · obtain rfl : k = n.auths.length := by omega
        rw [← hl, List.take_length]
        generalize hR : n.auths.map keyA = R at *
        have hfr := lA_free (sz := 7) (fun y => KeyWin.free y) R
        try refine wkR trivial ?_
        try (refine Stop.mk ?_; intro K hK)
        refine wpA_cond' ⟨_, evl, fun hb => absurd (of_decide_eq_true hb) (by omega), fun _ => ?_⟩
        try refine wkR hkv ?_
        try (refine Stop.mk ?_; intro K hK)
        refine wpA_cond' ⟨_, evl, fun hb => absurd hb (by decide), fun _ => ?_⟩
        try refine wkR trivial ?_
        try (refine Stop.mk ?_; intro K hK)
        refine ret_of (by simp) ⟨_, _, _, evl, ob0, OutOk.sims ?_ ?_⟩
        · exact Sims.tup ⟨Sims.row rfl rfl rfl rfl (fun i hi => rfl), Sims.refl _, trivial⟩
        · exact ⟨hfr, trivial, trivial⟩
  · rw [keysM, if_neg hc]
    rw [decide_eq_false hc] at hv
    refine fnA_of tblOk Tryz.func18 rfl (by kernel_rfl) 40 Tryz.ntmps18 (by simp only [List.length_cons, List.length_nil]; omega) [.tmp 2, .tmp 3] rfl ?_
    simp only [entrySt, argSl, Nat.zero_add, Nat.reduceAdd]
    try refine wkR hv ?_
    try (refine Stop.mk ?_; intro K hK)
    refine wpA_cond' ⟨_, evl, fun _ => ?_, fun hb => absurd hb (by decide)⟩
    try refine wkR trivial ?_
    try (refine Stop.mk ?_; intro K hK)
    refine ret_of (by simp) ⟨_, _, _, evl, ob0, OutOk.sims ?_ ?_⟩
    · exact Sims.tup ⟨(Sim.nil rfl).s, Sims.refl _, trivial⟩
    · exact ⟨lA_free (fun y => KeyWin.free y) _, trivial, trivial⟩
end Go.Proofs.YtcdgncmkkknmlaaGreatDoor
