/- The statement SiteOthers, walked. -/
import Derived.Test.YtcdgncmkkknmlaaGreatDoorLw28R
namespace Go.Proofs.YtcdgncmkkknmlaaGreatDoor
set_option linter.unusedVariables false
set_option linter.unusedSimpArgs false
set_option maxHeartbeats 4000000
set_option maxRecDepth 100000
open Go.RowKit
theorem filter_take {α : Type} [Inhabited α] (p : α → Bool) (l : List α) {k : Nat} (hk : k < l.length) : (l.take (k + 1)).filter p = (l.take k).filter p ++ if p (l.getD k default) then [l.getD k default] else [] := by
  rw [List.take_succ_eq_append_getElem hk, List.filter_append, getD_get hk]
  cases h : p l[k] <;> simp [h]
theorem filter_len {α : Type} (p : α → Bool) (l : List α) (k : Nat) : ((l.take k).filter p).length ≤ l.length := by
  have h1 := List.length_filter_le p (l.take k)
  rw [List.length_take] at h1
  omega
theorem small_noWires {n : Net} (h : smallN n) (gone : Int) : smallN (noWires n gone) := by
  obtain ⟨h1, h2, h3, h4, h5, h6⟩ := h
  refine ⟨h1, h2, h3, ?_, fun w hw => h5 w (List.mem_filter.1 hw).1, h6⟩
  have := List.length_filter_le (fun w : Wire => decide (w.host ≠ gone)) n.wires
  simp only [noWires]; omega
theorem small_noHost {n : Net} (h : smallN n) (gone : Int) : smallN (noHost n gone) := by
  obtain ⟨h1, h2, h3, h4, h5, h6⟩ := small_noWires h gone
  refine ⟨h1, ?_, h3, h4, h5, h6⟩
  have := List.length_filter_le (fun w : Host => decide (w.id ≠ gone)) n.hosts
  have h7 := h.2.1
  simp only [noHost]; omega
theorem siteOthers_A (n : Net) (hf : ∀ t ∈ n.tables, t.fits) (which other : Int) (hw : inK .u8 which) (ho : inK .u8 other) (i : Iv) :
    FnA Tryz.prog 6 [.agg n.av, .raw (.int .u8 which), .raw (.int .u8 other), .agg i.av] (.raw (.bool true)) := by
  have hh := head28_A
  have hu := usable_A n hf i
  obtain ⟨f1, f2, f3, f4⟩ := net_free n
  by_cases hc : usableP n i
  · rw [decide_eq_true hc] at hu
    obtain ⟨hfew, hn, hiv⟩ := hc
    obtain ⟨hs, -⟩ := few_small hfew hf
    have hlen : 0 < n.hosts.length := List.length_pos_iff.2 (rises_iff.1 hn.2.1.1).1
    have hlen2 := hfew.1.2.1
    have hw2 := hw
    have ho2 := ho
    simp only [inK] at hw2 ho2
    have hJ := pick_range hw hlen
    have hJ2 := pick_range ho hlen
    have hm : n.hosts.getD (which.tmod n.hosts.length).toNat default ∈ n.hosts := getD_mem (by omega)
    by_cases hg : (n.hosts.getD (which.tmod n.hosts.length).toNat default).id = (n.hosts.getD (other.tmod n.hosts.length).toNat default).id
    · clear hs hn hfew hf hm
      refine fnA_of tblOk Tryz.func6 rfl (by kernel_rfl) 153 Tryz.ntmps6 (by simp only [List.length_cons, List.length_nil]; omega) [.tmp 8] rfl ?_
      simp only [entrySt, argSl, Nat.zero_add, Nat.reduceAdd]
      try refine wkG (And.intro hh hu) ?_
      try (refine Stop.mk ?_; intro K hK)
      refine wpA_cond' ⟨_, evl, fun hb => absurd hb (by decide), fun _ => ?_⟩
      try refine wkG trivial ?_
      try (refine Stop.mk ?_; intro K hK)
      refine wpA_cond' ⟨_, evl, fun _ => ?_, fun hb => absurd hg (of_decide_eq_false hb)⟩
      try refine wkG trivial ?_
      try (refine Stop.mk ?_; intro K hK)
      refine ret_of (by simp) ⟨_, _, _, evl, ob0, OutOk.eq ?_ ?_⟩
      · rfl
      · simp [AV.free]
    · refine fnA_of tblOk Tryz.func6 rfl (by kernel_rfl) 153 Tryz.ntmps6 (by simp only [List.length_cons, List.length_nil]; omega) [.tmp 8] rfl ?_
      simp only [entrySt, argSl, Nat.zero_add, Nat.reduceAdd]
      try refine wkG (And.intro hh hu) ?_
      try (refine Stop.mk ?_; intro K hK)
      refine wpA_cond' ⟨_, evl, fun hb => absurd hb (by decide), fun _ => ?_⟩
      try refine wkG trivial ?_
      try (refine Stop.mk ?_; intro K hK)
      refine wpA_cond' ⟨_, evl, fun hb => absurd (of_decide_eq_true hb) hg, fun _ => ?_⟩
      have s0 := site_A n hs (n.hosts.getD (which.tmod n.hosts.length).toNat default).id i
      have s1 := site_A _ (small_noWires hs (n.hosts.getD (other.tmod n.hosts.length).toNat default).id) (n.hosts.getD (which.tmod n.hosts.length).toNat default).id i
      have s2 := site_A _ (small_noHost hs (n.hosts.getD (other.tmod n.hosts.length).toNat default).id) (n.hosts.getD (which.tmod n.hosts.length).toNat default).id i
      have s3 := site_A _ (small_noHost hs (n.hosts.getD (other.tmod n.hosts.length).toNat default).id) (n.hosts.getD (other.tmod n.hosts.length).toNat default).id i
      rw [site_noWires hn hm hg, site_ok hn hm hiv] at s1
      rw [site_noHost hn hm hg, site_ok hn hm hiv] at s2
      rw [site_ok hn hm hiv] at s0
      rw [site_gone hn hm hg hiv] at s3
      have hpl : (peersM n (n.hosts.getD (which.tmod n.hosts.length).toNat default).id (boundN n (n.hosts.getD (which.tmod n.hosts.length).toNat default)).1 i n.wires).length ≤ 4611686018427387904 := by
        simp only [peersM, List.length_map]
        have h1 := List.length_filter_le (isPeer n (n.hosts.getD (which.tmod n.hosts.length).toNat default).id (boundN n (n.hosts.getD (which.tmod n.hosts.length).toNat default)).1 i) n.wires
        have h2 := hs.2.2.2.1
        omega
      generalize boundN n (n.hosts.getD (which.tmod n.hosts.length).toNat default) = bd at *
      generalize peersM n (n.hosts.getD (which.tmod n.hosts.length).toNat default).id bd.1 i n.wires = P at *
      have s4 := same28_A ⟨bd.1, n.f, n.lost, n.timeout, P⟩ ⟨bd.1, n.f, n.lost, n.timeout, P⟩ hpl
      rw [decide_eq_true rfl] at s4
      have hwl := hs.2.2.2.1
      have hhl := hs.2.1
      clear hm hg hn hs hfew hf hpl hh hu
      generalize (siteM _ _ i).1 = X at *
      generalize (n.hosts.getD (which.tmod n.hosts.length).toNat default).id = host at *
      generalize (n.hosts.getD (other.tmod n.hosts.length).toNat default).id = gone at *
      have g1 := Site.free ⟨bd.1, n.f, n.lost, n.timeout, P⟩
      have e1 : noWires n gone = ⟨n.tables, n.hosts, n.auths, n.wires.filter (fun w => decide (w.host ≠ gone)), n.f, n.lost, n.timeout⟩ := rfl
      have e2 : noHost n gone = ⟨n.tables, n.hosts.filter (fun h => decide (h.id ≠ gone)), n.auths, n.wires.filter (fun w => decide (w.host ≠ gone)), n.f, n.lost, n.timeout⟩ := rfl
      rw [e1] at s1
      rw [e2] at s2 s3
      clear e1 e2
      try refine wkR trivial ?_
      try (refine Stop.mk ?_; intro K hK)
      refine wpA_weak (Weak.nilRowB 2 3 67 3 rfl rfl) ?_
      refine wpA_loop (fun k : Nat => ⟨153, 0, [(4, true, .box 0 0), (7, true, .box 1 0), (9, true, .raw (.bool true)), (10, true, .raw (.int .i64 host)), (11, true, .raw (.int .i64 gone)), (12, true, .box 2 0), (61, true, lA 3 Wire.av n.wires), (62, true, .raw (.int .i64 n.wires.length)), (63, true, .raw (.int .i64 k))], [n.av, i.av, [lA 3 Table.av n.tables, lA 6 Host.av n.hosts, lA 4 Auth.av n.auths, .row 0 ((n.wires.take k).filter fun w => decide (w.host ≠ gone)).length, .raw (.int .i64 n.f), .raw (.int .i64 n.lost), .raw (.int .i64 n.timeout)]], [⟨67, 3, ((n.wires.take k).filter fun w => decide (w.host ≠ gone)).length, els Wire.av ((n.wires.take k).filter fun w => decide (w.host ≠ gone))⟩], ((0, []), [], true)⟩)
        (fun k => k ≤ n.wires.length) (fun k => n.wires.length - k) 0 ?_ (by omega) ?_
      · simp only [List.take_zero, List.filter_nil, List.length_nil]
        refine wkn ?_ ?_ ?_
        all_goals first | exact wk0 | refine wkS ?_ | skip
        all_goals (try trivial)
        all_goals ((repeat' apply And.intro) <;> first | exact wkL | skip)
      · intro k hk
        have hR := filter_len (fun w : Wire => decide (w.host ≠ gone)) n.wires k
        rcases Nat.lt_or_ge k n.wires.length with hlt | hge
        · have ht := filter_take (fun w : Wire => decide (w.host ≠ gone)) n.wires hlt
          generalize ((n.wires.take k).filter fun w => decide (w.host ≠ gone)) = R at *
          have hf5 : (lA 5 Change.av (n.wires.getD k default).changes).free := lA_free (fun y => Change.free y) _
          clear s0 s1 s2 s3 s4
          try refine wkR trivial ?_
          try (refine Stop.mk ?_; intro K hK)
          refine wpA_cond' ⟨_, evl, fun _ => ?_, fun hb => absurd (of_decide_eq_false hb) (by omega)⟩
          try refine wkR trivial ?_
          try (refine Stop.mk ?_; intro K hK)
          refine wpA_cond' ⟨_, evl, fun hb => ?_, fun hb => ?_⟩
          · have hne : (n.wires.getD k default).host ≠ gone := by simpa using hb
            rw [decide_eq_true hne, if_pos rfl] at ht
            try refine wkR trivial ?_
            try (refine Stop.mk ?_; intro K hK)
            refine ⟨k + 1, by omega, by omega, ?_⟩
            rw [ht, List.length_append]
            refine wkn ?_ ?_ ?_
            all_goals first | exact wk0 | refine wkS ?_ | skip
            all_goals (try trivial)
            all_goals ((repeat' apply And.intro) <;> first | exact wkL | skip)
          · have hne : ¬ (n.wires.getD k default).host ≠ gone := by simpa using hb
            rw [decide_eq_false hne, if_neg (by decide), List.append_nil] at ht
            try refine wkR trivial ?_
            try (refine Stop.mk ?_; intro K hK)
            refine ⟨k + 1, by omega, by omega, ?_⟩
            rw [ht]
            refine wkn ?_ ?_ ?_
            all_goals first | exact wk0 | refine wkS ?_ | skip
            all_goals (try trivial)
            all_goals ((repeat' apply And.intro) <;> first | exact wkL | skip)
        · obtain rfl : k = n.wires.length := by omega
          rw [List.take_length] at hR ⊢
          generalize (n.wires.filter fun w => decide (w.host ≠ gone)) = W at *
          try refine wkR trivial ?_
          try (refine Stop.mk ?_; intro K hK)
          refine wpA_cond' ⟨_, evl, fun hb => absurd (of_decide_eq_true hb) (by omega), fun _ => ?_⟩
          refine wpA_weak (st' := ⟨153, 0, [(4, true, .box 0 0), (7, true, .box 1 0), (9, true, .raw (.bool true)), (10, true, .raw (.int .i64 host)), (11, true, .raw (.int .i64 gone)), (12, true, .box 2 0)], [n.av, i.av, [lA 3 Table.av n.tables, lA 6 Host.av n.hosts, lA 4 Auth.av n.auths, lA 3 Wire.av W, .raw (.int .i64 n.f), .raw (.int .i64 n.lost), .raw (.int .i64 n.timeout)]], [], ((0, []), [], true)⟩) ?_ ?_
          · refine wkn ?_ ?_ ?_
            all_goals first | exact wk0 | refine wkS ?_ | skip
            all_goals (try trivial)
            all_goals ((repeat' apply And.intro) <;> first | exact wkL | skip)
            all_goals exact Sims.row rfl rfl rfl rfl (fun _ _ => rfl)
          have f5 := lA_free (sz := 3) (fun y => Wire.free y) W
          try refine wkR trivial ?_
          try (refine Stop.mk ?_; intro K hK)
          refine wpA_weak (Weak.nilRowB 3 1 49 6 rfl rfl) ?_
          refine wpA_loop (fun k : Nat => ⟨153, 0, [(4, true, .box 0 0), (7, true, .box 1 0), (9, true, .raw (.bool true)), (10, true, .raw (.int .i64 host)), (11, true, .raw (.int .i64 gone)), (12, true, .box 2 0), (15, true, .box 3 0), (81, true, lA 6 Host.av n.hosts), (82, true, .raw (.int .i64 n.hosts.length)), (83, true, .raw (.int .i64 k))], [n.av, i.av, [lA 3 Table.av n.tables, lA 6 Host.av n.hosts, lA 4 Auth.av n.auths, lA 3 Wire.av W, .raw (.int .i64 n.f), .raw (.int .i64 n.lost), .raw (.int .i64 n.timeout)], [lA 3 Table.av n.tables, .row 0 ((n.hosts.take k).filter fun h => decide (h.id ≠ gone)).length, lA 4 Auth.av n.auths, lA 3 Wire.av W, .raw (.int .i64 n.f), .raw (.int .i64 n.lost), .raw (.int .i64 n.timeout)]], [⟨49, 6, ((n.hosts.take k).filter fun h => decide (h.id ≠ gone)).length, els Host.av ((n.hosts.take k).filter fun h => decide (h.id ≠ gone))⟩], ((0, []), [], true)⟩)
            (fun k => k ≤ n.hosts.length) (fun k => n.hosts.length - k) 0 ?_ (by omega) ?_
          · simp only [List.take_zero, List.filter_nil, List.length_nil]
            refine wkn ?_ ?_ ?_
            all_goals first | exact wk0 | refine wkS ?_ | skip
            all_goals (try trivial)
            all_goals ((repeat' apply And.intro) <;> first | exact wkL | skip)
          · intro k hk
            have hR2 := filter_len (fun h : Host => decide (h.id ≠ gone)) n.hosts k
            rcases Nat.lt_or_ge k n.hosts.length with hlt | hge
            · have ht := filter_take (fun h : Host => decide (h.id ≠ gone)) n.hosts hlt
              generalize ((n.hosts.take k).filter fun h => decide (h.id ≠ gone)) = R at *
              clear s0 s1 s2 s3 s4
              try refine wkR trivial ?_
              try (refine Stop.mk ?_; intro K hK)
              refine wpA_cond' ⟨_, evl, fun _ => ?_, fun hb => absurd (of_decide_eq_false hb) (by omega)⟩
              try refine wkR trivial ?_
              try (refine Stop.mk ?_; intro K hK)
              refine wpA_cond' ⟨_, evl, fun hb => ?_, fun hb => ?_⟩
              · have hne : (n.hosts.getD k default).id ≠ gone := by simpa using hb
                rw [decide_eq_true hne, if_pos rfl] at ht
                try refine wkR trivial ?_
                try (refine Stop.mk ?_; intro K hK)
                refine ⟨k + 1, by omega, by omega, ?_⟩
                rw [ht, List.length_append]
                refine wkn ?_ ?_ ?_
                all_goals first | exact wk0 | refine wkS ?_ | skip
                all_goals (try trivial)
                all_goals ((repeat' apply And.intro) <;> first | exact wkL | skip)
              · have hne : ¬ (n.hosts.getD k default).id ≠ gone := by simpa using hb
                rw [decide_eq_false hne, if_neg (by decide), List.append_nil] at ht
                try refine wkR trivial ?_
                try (refine Stop.mk ?_; intro K hK)
                refine ⟨k + 1, by omega, by omega, ?_⟩
                rw [ht]
                refine wkn ?_ ?_ ?_
                all_goals first | exact wk0 | refine wkS ?_ | skip
                all_goals (try trivial)
                all_goals ((repeat' apply And.intro) <;> first | exact wkL | skip)
            · obtain rfl : k = n.hosts.length := by omega
              rw [List.take_length] at hR2 ⊢
              generalize (n.hosts.filter fun h => decide (h.id ≠ gone)) = H at *
              try refine wkR trivial ?_
              try (refine Stop.mk ?_; intro K hK)
              refine wpA_cond' ⟨_, evl, fun hb => absurd (of_decide_eq_true hb) (by omega), fun _ => ?_⟩
              refine wpA_weak (st' := ⟨153, 0, [(4, true, .box 0 0), (7, true, .box 1 0), (9, true, .raw (.bool true)), (10, true, .raw (.int .i64 host)), (11, true, .raw (.int .i64 gone)), (12, true, .box 2 0), (15, true, .box 3 0)], [n.av, i.av, [lA 3 Table.av n.tables, lA 6 Host.av n.hosts, lA 4 Auth.av n.auths, lA 3 Wire.av W, .raw (.int .i64 n.f), .raw (.int .i64 n.lost), .raw (.int .i64 n.timeout)], [lA 3 Table.av n.tables, lA 6 Host.av H, lA 4 Auth.av n.auths, lA 3 Wire.av W, .raw (.int .i64 n.f), .raw (.int .i64 n.lost), .raw (.int .i64 n.timeout)]], [], ((0, []), [], true)⟩) ?_ ?_
              · refine wkn ?_ ?_ ?_
                all_goals first | exact wk0 | refine wkS ?_ | skip
                all_goals (try trivial)
                all_goals ((repeat' apply And.intro) <;> first | exact wkL | skip)
                all_goals exact Sims.row rfl rfl rfl rfl (fun _ _ => rfl)
              have f6 := lA_free (sz := 6) (fun y => Host.free y) H
              try refine wkG (And.intro s0 (And.intro s1 (And.intro s2 (And.intro s3 s4)))) ?_
              try (refine Stop.mk ?_; intro K hK)
              refine ret_of (by simp) ⟨_, _, _, evl, ob0, OutOk.eq ?_ ?_⟩
              · simp
              · simp [AV.free]
  · rw [decide_eq_false hc] at hu
    clear hc
    refine fnA_of tblOk Tryz.func6 rfl (by kernel_rfl) 153 Tryz.ntmps6 (by simp only [List.length_cons, List.length_nil]; omega) [.tmp 8] rfl ?_
    simp only [entrySt, argSl, Nat.zero_add, Nat.reduceAdd]
    try refine wkG (And.intro hh hu) ?_
    try (refine Stop.mk ?_; intro K hK)
    refine wpA_cond' ⟨_, evl, fun _ => ?_, fun hb => absurd hb (by decide)⟩
    try refine wkG trivial ?_
    try (refine Stop.mk ?_; intro K hK)
    refine ret_of (by simp) ⟨_, _, _, evl, ob0, OutOk.eq ?_ ?_⟩
    · rfl
    · simp [AV.free]
theorem siteOthers_B {x0 x1 x2 x3 : List AV} (k0 : CellsOk tbl 30 27 x0) (k1 : CellsOk tbl 30 5 x1) (k2 : CellsOk tbl 30 5 x2) (k3 : CellsOk tbl 30 29 x3) :
    FnA Tryz.prog 6 [valA true x0, valA false x1, valA false x2, valA true x3] (.raw (.bool true)) := by
  obtain ⟨n, h0, hf⟩ := open_Net k0
  obtain ⟨a, rfl, ha⟩ := open_u8 k1
  obtain ⟨b, rfl, hb⟩ := open_u8 k2
  obtain ⟨i, rfl, _⟩ := open_Iv k3
  exact FnA.sim (siteOthers_A n hf a b ha hb i) ⟨h0, Sim.of_eq rfl, Sim.of_eq rfl, Sim.of_eq rfl, trivial⟩
end Go.Proofs.YtcdgncmkkknmlaaGreatDoor
