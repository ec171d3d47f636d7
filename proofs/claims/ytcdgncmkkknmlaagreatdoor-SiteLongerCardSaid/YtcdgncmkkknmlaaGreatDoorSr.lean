/- The reference of chapter 28: Valid, Rate, Site, Keys. -/
import Derived.Test.YtcdgncmkkknmlaaGreatDoorSq
import Derived.Test.YtcdgncmkkknmlaaGreatDoorSp
namespace Go.Proofs.YtcdgncmkkknmlaaGreatDoor
set_option linter.unusedVariables false
set_option linter.unusedSimpArgs false
set_option maxHeartbeats 4000000
set_option maxRecDepth 100000
open Go.RowKit
theorem lboundsR28_A (l : List Change) (i : Iv) (h : l.length ≤ 1000) : FnA Tryz.prog 61 [lA 5 Change.av l, .agg i.av] (.tup [.agg (Lk.linkBoundsM l i).1.av, .raw (.int .i64 (Lk.linkBoundsM l i).2)]) := by
  rw [← Lk.refBounds_eq]
  exact Lk.boundsR_A l i h
theorem netP_eqR (n : Net) : decide (netP n) = (decide (n.tables.length ≤ 16 ∧ ∀ t ∈ n.tables, tabP t) && decide (risesP (fun h : Host => h.id) n.hosts 64 ∧ ∀ h ∈ n.hosts, (boundN n h).2 = 0) && decide (risesP (fun a : Auth => a.id) n.auths 16 ∧ ∀ a ∈ n.auths, authF a) && decide (wiredN n) && decide (0 ≤ n.f) && decide (n.f ≤ 5) && decide (0 ≤ n.lost) && decide (n.lost ≤ 5) && decide (1 ≤ n.timeout) && decide (n.timeout ≤ 1000000000)) := by
  rw [Bool.eq_iff_iff, decide_eq_true_iff]
  simp only [netP, Bool.and_eq_true, decide_eq_true_eq, and_assoc]
theorem validR28_A (n : Net) (h : smallN n) (hf : ∀ t ∈ n.tables, fewT t) : FnA Tryz.prog 14 [.agg n.av] (.raw (.bool (decide (netP n)))) := by
  obtain ⟨h1, h2, h3, h4, hc, -⟩ := h
  have a1 := tables_A n h1 hf
  have a2 := hostsR_A n h2 h1 hf
  have a3 := authsR_A n h3
  have a4 := wiresR_A n h2 h3 h4 hc
  obtain ⟨f1, f2, f3, f4⟩ := net_free n
  rw [netP_eqR]
  clear h1 h2 h3 h4 hc hf
  generalize decide (n.tables.length ≤ 16 ∧ ∀ t ∈ n.tables, tabP t) = v1 at *
  generalize decide (risesP (fun h : Host => h.id) n.hosts 64 ∧ ∀ h ∈ n.hosts, (boundN n h).2 = 0) = v2 at *
  generalize decide (risesP (fun a : Auth => a.id) n.auths 16 ∧ ∀ a ∈ n.auths, authF a) = v3 at *
  generalize decide (wiredN n) = v4 at *
  refine fnA_of tblOk Tryz.func14 rfl (by kernel_rfl) 55 Tryz.ntmps14 (by simp only [List.length_cons, List.length_nil]; omega) [.tmp 2] rfl ?_
  simp only [entrySt, argSl, Nat.zero_add, Nat.reduceAdd]
  repeat' first
    | refine wkG (And.intro a1 (And.intro a2 (And.intro a3 a4))) ?_
    | (refine cndS ⟨_, evl, ⟨cb, cb⟩, fun hb => ?_, fun hb => ?_⟩ <;> try (cases hb; done))
    | (refine Stop.mk ?_; intro K hK)
    | fail
  all_goals (try (refine ret_of (by simp) ⟨_, _, _, evl, ob0, OutOk.sims ?_ fre⟩))
  all_goals first | exact Sims.refl _ | (refine Sims.of_eq ?_; first | rfl | (simp []; done) | (simp_all []; done) | (simp_all []; omega) | (simp []; grind) | (split <;> simp_all)) | exact simsF | (refine Sims.tup ?_; simp only [SimsL, and_true]; (repeat' apply And.intro) <;> first | exact simsF | skip) | (exfalso; first | omega | (simp_all; done) | (simp_all; omega)) | skip
theorem table_in {n : Net} (h : netP n) {a : Host} (ha : a ∈ n.hosts) : (0 ≤ a.table ∧ a.table.toNat < n.tables.length) ∧ boundN n a = worstM (n.tables.getD a.table.toNat default) a.temp a.age := by
  have hb := h.2.1.2 a ha
  unfold boundN at hb ⊢
  split at hb
  · rename_i hc
    rw [if_pos hc]
    exact ⟨by omega, rfl⟩
  · cases hb
theorem rateR28_A (n : Net) (h : smallN n) (hf : ∀ t ∈ n.tables, fewT t) (id : Int) : FnA Tryz.prog 12 [.agg n.av, .raw (.int .i64 id)] (.tup [.raw (.int .i64 (rateM n id).1), .raw (.int .i64 (rateM n id).2)]) := by
  have hv := validR28_A n h hf
  have hho := hostR_A n h.2.1 id
  obtain ⟨f1, f2, f3, f4⟩ := net_free n
  by_cases hn : netP n
  · rw [rateM, if_pos hn]
    rw [decide_eq_true hn] at hv
    have hr := idxM_range' (isH id) n.hosts
    by_cases hi : idxM (isH id) n.hosts < 0
    · rw [rateN, if_pos hi]
      clear hn hf h
      generalize idxM (isH id) n.hosts = j at *
      refine fnA_of tblOk Tryz.func12 rfl (by kernel_rfl) 41 Tryz.ntmps12 (by simp only [List.length_cons, List.length_nil]; omega) [.tmp 4, .tmp 5] rfl ?_
      simp only [entrySt, argSl, Nat.zero_add, Nat.reduceAdd]
      try refine wkG (And.intro hv hho) ?_
      try (refine Stop.mk ?_; intro K hK)
      refine wpA_cond' ⟨_, evl, fun hb => absurd hb (by decide), fun _ => ?_⟩
      try refine wkG hho ?_
      try (refine Stop.mk ?_; intro K hK)
      refine wpA_cond' ⟨_, evl, fun _ => ?_, fun hb => absurd hi (of_decide_eq_false hb)⟩
      try refine wkG trivial ?_
      try (refine Stop.mk ?_; intro K hK)
      refine ret_of (by simp) ⟨_, _, _, evl, ob0, OutOk.eq ?_ ?_⟩
      · rfl
      · simp [AV.free, AV.freeL]
    · rw [rateN, if_neg hi]
      have hm : n.hosts.getD (idxM (isH id) n.hosts).toNat default ∈ n.hosts := getD_mem (by omega)
      obtain ⟨ht, he⟩ := table_in hn hm
      have hw := worstR_A _ (hf _ (getD_mem ht.2)) (n.hosts.getD (idxM (isH id) n.hosts).toNat default).temp (n.hosts.getD (idxM (isH id) n.hosts).toNat default).age
      rw [← he] at hw
      have hf1 := liA_free (n.tables.getD (n.hosts.getD (idxM (isH id) n.hosts).toNat default).table.toNat default).temps
      have hf2 := liA_free (n.tables.getD (n.hosts.getD (idxM (isH id) n.hosts).toNat default).table.toNat default).ages
      have hf3 : (lA 1 liC (n.tables.getD (n.hosts.getD (idxM (isH id) n.hosts).toNat default).table.toNat default).rates).free := lA_free (fun y => show AV.freeL (liC y) from ⟨liA_free y, trivial⟩) _
      clear hm he hf hn
      generalize boundN n _ = q at *
      generalize idxM (isH id) n.hosts = j at *
      refine fnA_of tblOk Tryz.func12 rfl (by kernel_rfl) 41 Tryz.ntmps12 (by simp only [List.length_cons, List.length_nil]; omega) [.tmp 4, .tmp 5] rfl ?_
      simp only [entrySt, argSl, Nat.zero_add, Nat.reduceAdd]
      try refine wkG (And.intro hv hho) ?_
      try (refine Stop.mk ?_; intro K hK)
      refine wpA_cond' ⟨_, evl, fun hb => absurd hb (by decide), fun _ => ?_⟩
      try refine wkG hho ?_
      try (refine Stop.mk ?_; intro K hK)
      refine wpA_cond' ⟨_, evl, fun hb => absurd (of_decide_eq_true hb) hi, fun _ => ?_⟩
      try refine wkG hw ?_
      try (refine Stop.mk ?_; intro K hK)
      refine ret_of (by simp) ⟨_, _, _, evl, ob0, OutOk.eq ?_ ?_⟩
      · rfl
      · simp [AV.free, AV.freeL]
  · rw [rateM, if_neg hn]
    rw [decide_eq_false hn] at hv
    refine fnA_of tblOk Tryz.func12 rfl (by kernel_rfl) 41 Tryz.ntmps12 (by simp only [List.length_cons, List.length_nil]; omega) [.tmp 4, .tmp 5] rfl ?_
    simp only [entrySt, argSl, Nat.zero_add, Nat.reduceAdd]
    try refine wkG hv ?_
    try (refine Stop.mk ?_; intro K hK)
    refine wpA_cond' ⟨_, evl, fun _ => ?_, fun hb => absurd hb (by decide)⟩
    try refine wkG trivial ?_
    try (refine Stop.mk ?_; intro K hK)
    refine ret_of (by simp) ⟨_, _, _, evl, ob0, OutOk.eq ?_ ?_⟩
    · rfl
    · simp [AV.free, AV.freeL]
theorem siteR28_A (n : Net) (h : smallN n) (hf : ∀ t ∈ n.tables, fewT t) (id : Int) (i : Iv) : FnA Tryz.prog 16 [.agg n.av, .raw (.int .i64 id), .agg i.av] (.tup [.agg (siteM n id i).1.av, .raw (.int .i64 (siteM n id i).2)]) := by
  have hv := validR28_A n h hf
  have hiv := Lk.validIR_A i
  have hra := rateR28_A n h hf id
  obtain ⟨f1, f2, f3, f4⟩ := net_free n
  by_cases hc : netP n ∧ Lk.validI i = true
  · rw [siteM, if_pos hc]
    rw [decide_eq_true hc.1] at hv
    rw [hc.2] at hiv
    have hrr := rate_range n id
    by_cases hr : (rateM n id).2 = 0
    · rw [if_pos hr]
      rw [hr] at hra
      generalize (rateM n id).1 = rate at *
      clear hr hf
      refine fnA_of tblOk Tryz.func16 rfl (by kernel_rfl) 109 Tryz.ntmps16 (by simp only [List.length_cons, List.length_nil]; omega) [.cell 6 37, .tmp 7] rfl ?_
      simp only [entrySt, argSl, Nat.zero_add, Nat.reduceAdd]
      try refine wkR (And.intro hv (And.intro hiv hra)) ?_
      try (refine Stop.mk ?_; intro K hK)
      refine wpA_cond' ⟨_, evl, fun hb => absurd hb (by decide), fun _ => ?_⟩
      try refine wkR hra ?_
      try (refine Stop.mk ?_; intro K hK)
      refine wpA_cond' ⟨_, evl, fun hb => absurd hb (by decide), fun _ => ?_⟩
      try refine wkR trivial ?_
      try (refine Stop.mk ?_; intro K hK)
      refine wpA_weak (Weak.nilRowB 3 4 62 8 rfl rfl) ?_
      refine wpA_loop (fun k : Nat => ⟨109, 0, [(1, true, .raw (.int .i64 id)), (3, true, .box 0 0), (5, true, .box 1 0), (6, true, .box 2 0), (7, true, .raw (.int .i64 0)), (10, true, .raw (.int .i64 rate)), (12, true, .box 3 0), (13, true, .raw (.int .i64 k))], [n.av, i.av, zeroSite, [.raw (.int .i64 rate), .raw (.int .i64 n.f), .raw (.int .i64 n.lost), .raw (.int .i64 n.timeout), .row 0 (peersM n id rate i (n.wires.take k)).length]], [⟨62, 8, (peersM n id rate i (n.wires.take k)).length, els Peer.av (peersM n id rate i (n.wires.take k))⟩], ((0, []), [], true)⟩)
        (fun k => k ≤ n.wires.length) (fun k => n.wires.length - k) 0 ?_ (by omega) ?_
      · simp only [List.take_zero, peersM, List.filter_nil, List.map_nil, List.length_nil]
        refine wkn ?_ ?_ ?_
        all_goals first | exact wk0 | refine wkS ?_ | skip
        all_goals (try trivial)
        all_goals ((repeat' apply And.intro) <;> first | exact wkL | skip)
      · intro k hk
        have hlen : (peersM n id rate i (n.wires.take k)).length ≤ 1000 := by
          have h1 := List.length_filter_le (isPeer n id rate i) (n.wires.take k)
          have h2 : (n.wires.take k).length ≤ n.wires.length := by rw [List.length_take]; omega
          have h3 := h.2.2.2.1
          unfold peersM
          rw [List.length_map]
          omega
        rcases Nat.lt_or_ge k n.wires.length with hlt | hge
        · have hs := peersM_succ n id rate i n.wires hlt
          have hwm := getD_mem hlt
          obtain ⟨a, ha, e⟩ := wire_auth hc.1 hwm
          obtain ⟨g1, g2, g3⟩ := find_auth hc.1 ha
          rw [e] at g1 g2 g3
          have hpo := peer_ok hc.1 hwm hrr hc.2 ha e
          have hau := authR_A n h.2.2.1 (n.wires.getD k default).auth
          have hlb := lboundsR28_A (n.wires.getD k default).changes i (h.2.2.2.2.1 _ hwm)
          have hsu := link_sum (n.wires.getD k default) i
          have hco := countsR_A rate ((linkW (n.wires.getD k default) i).outHi + (linkW (n.wires.getD k default) i).backHi) (by omega)
          have hi : isPeer n id rate i (n.wires.getD k default) = ((peerM n (n.wires.getD k default) rate i).2 && decide ((n.wires.getD k default).host = id)) := rfl
          have hf5 : (lA 5 Change.av (n.wires.getD k default).changes).free := lA_free (fun y => Change.free y) _
          have hwl := h.2.2.2.1
          rw [hi, hpo] at hs
          unfold mostW at hs
          unfold linkW at *
          generalize peersM n id rate i (n.wires.take k) = R at *
          generalize idxM (isU (n.wires.getD k default).auth) n.auths = j at *
          generalize Lk.linkBoundsM (n.wires.getD k default).changes i = c at *
          generalize countsM rate (c.1.outHi + c.1.backHi) = m at *
          subst g3
          clear h hv hiv hra hc hpo ha hi e
          try refine wkR trivial ?_
          try (refine Stop.mk ?_; intro K hK)
          refine wpA_cond' ⟨_, evl, fun _ => ?_, fun hb => absurd (of_decide_eq_false hb) (by omega)⟩
          try refine wkR trivial ?_
          try (refine Stop.mk ?_; intro K hK)
          refine wpA_cond' ⟨_, evl, fun hb => ?_, fun hb => ?_⟩
          · have hh : ¬ (n.wires.getD k default).host = id := by simpa using hb
            rw [decide_eq_false hh, Bool.and_false, if_neg (by decide), List.append_nil] at hs
            try refine wkR trivial ?_
            try (refine Stop.mk ?_; intro K hK)
            refine ⟨k + 1, by omega, by omega, ?_⟩
            rw [hs]
            refine wkn ?_ ?_ ?_
            all_goals first | exact wk0 | refine wkS ?_ | skip
            all_goals (try trivial)
            all_goals ((repeat' apply And.intro) <;> first | exact wkL | skip)
          · have hh : (n.wires.getD k default).host = id := by simpa using hb
            rw [decide_eq_true hh, Bool.and_true] at hs
            try refine wkR (And.intro hau (And.intro hlb hco)) ?_
            try (refine Stop.mk ?_; intro K hK)
            refine wpA_cond' ⟨_, evl, fun hb2 => ?_, fun hb2 => ?_⟩
            · rw [hb2, if_pos rfl] at hs
              try refine wkR trivial ?_
              try (refine Stop.mk ?_; intro K hK)
              refine ⟨k + 1, by omega, by omega, ?_⟩
              rw [hs, List.length_append]
              refine wkn ?_ ?_ ?_
              all_goals first | exact wk0 | refine wkS ?_ | skip
              all_goals (try trivial)
              all_goals ((repeat' apply And.intro) <;> first | exact wkL | skip)
            · rw [hb2, if_neg (by simp), List.append_nil] at hs
              try refine wkR trivial ?_
              try (refine Stop.mk ?_; intro K hK)
              refine ⟨k + 1, by omega, by omega, ?_⟩
              rw [hs]
              refine wkn ?_ ?_ ?_
              all_goals first | exact wk0 | refine wkS ?_ | skip
              all_goals (try trivial)
              all_goals ((repeat' apply And.intro) <;> first | exact wkL | skip)
        · obtain rfl : k = n.wires.length := by omega
          rw [List.take_length]
          generalize peersM n id rate i n.wires = R at *
          try refine wkR trivial ?_
          try (refine Stop.mk ?_; intro K hK)
          refine wpA_cond' ⟨_, evl, fun hb => absurd (of_decide_eq_true hb) (by omega), fun _ => ?_⟩
          try refine wkR trivial ?_
          try (refine Stop.mk ?_; intro K hK)
          refine ret_of (by simp) ⟨_, _, _, evl, ob0, OutOk.sims ?_ ?_⟩
          · exact Sims.tup ⟨Sims.agg ⟨Sims.refl _, Sims.refl _, Sims.refl _, Sims.refl _, Sims.row rfl rfl rfl rfl (fun i hi => rfl), trivial⟩, Sims.refl _, trivial⟩
          · exact ⟨Site.free _, trivial, trivial⟩
    · rw [if_neg hr]
      clear hc hrr hf
      generalize rateM n id = r at *
      refine fnA_of tblOk Tryz.func16 rfl (by kernel_rfl) 109 Tryz.ntmps16 (by simp only [List.length_cons, List.length_nil]; omega) [.cell 6 37, .tmp 7] rfl ?_
      simp only [entrySt, argSl, Nat.zero_add, Nat.reduceAdd]
      try refine wkR (And.intro hv (And.intro hiv hra)) ?_
      try (refine Stop.mk ?_; intro K hK)
      refine wpA_cond' ⟨_, evl, fun hb => absurd hb (by decide), fun _ => ?_⟩
      try refine wkR hra ?_
      try (refine Stop.mk ?_; intro K hK)
      refine wpA_cond' ⟨_, evl, fun _ => ?_, fun hb => absurd hb (by simpa using hr)⟩
      try refine wkR trivial ?_
      try (refine Stop.mk ?_; intro K hK)
      refine ret_of (by simp) ⟨_, _, _, evl, ob0, OutOk.sims ?_ ?_⟩
      · exact Sims.tup ⟨Sims.agg ⟨Sims.refl _, Sims.refl _, Sims.refl _, Sims.refl _, (Sim.nil rfl).s, trivial⟩, Sims.refl _, trivial⟩
      · exact ⟨Site.free _, trivial, trivial⟩
  · rw [siteM, if_neg hc]
    have hno : (decide (netP n) && Lk.validI i) = false := by
      rw [Bool.and_eq_false_iff]
      by_cases hn : netP n
      · right; simpa [hn] using hc
      · left; exact decide_eq_false hn
    clear hc hf
    generalize decide (netP n) = v at *
    generalize Lk.validI i = u at *
    refine fnA_of tblOk Tryz.func16 rfl (by kernel_rfl) 109 Tryz.ntmps16 (by simp only [List.length_cons, List.length_nil]; omega) [.cell 6 37, .tmp 7] rfl ?_
    simp only [entrySt, argSl, Nat.zero_add, Nat.reduceAdd]
    try refine wkR (And.intro hv hiv) ?_
    try (refine Stop.mk ?_; intro K hK)
    refine wpA_cond' ⟨_, evl, fun _ => ?_, fun hb => absurd hb (by cases v <;> cases u <;> simp_all)⟩
    try refine wkR trivial ?_
    try (refine Stop.mk ?_; intro K hK)
    refine ret_of (by simp) ⟨_, _, _, evl, ob0, OutOk.sims ?_ ?_⟩
    · exact Sims.tup ⟨Sims.agg ⟨Sims.refl _, Sims.refl _, Sims.refl _, Sims.refl _, (Sim.nil rfl).s, trivial⟩, Sims.refl _, trivial⟩
    · exact ⟨Site.free _, trivial, trivial⟩
end Go.Proofs.YtcdgncmkkknmlaaGreatDoor
