/- The statement SitePeers, walked. -/
import Derived.Test.YtcdgncmkkknmlaaGreatDoorLw28R
namespace Go.Proofs.YtcdgncmkkknmlaaGreatDoor
set_option linter.unusedVariables false
set_option linter.unusedSimpArgs false
set_option maxHeartbeats 4000000
set_option maxRecDepth 100000
open Go.RowKit
theorem find_hit {α : Type} [Inhabited α] {p : α → Bool} {l : List α} {k : Nat} (hk : k < l.length) (h : ∀ i, i < k → p (l.getD i default) = false) (hp : p (l.getD k default) = true) : l.find? p = some (l.getD k default) := by
  rw [List.find?_eq_some_iff_getElem]
  refine ⟨hp, k, hk, (getD_get hk).symm, fun j hj => ?_⟩
  have := h j hj
  rw [getD_get (by omega)] at this
  simp [this]
theorem find_miss {α : Type} [Inhabited α] {p : α → Bool} {l : List α} (h : ∀ i, i < l.length → p (l.getD i default) = false) : l.find? p = none := by
  rw [List.find?_eq_none]
  intro x hx
  obtain ⟨k, hk, rfl⟩ := mem_getD hx
  rw [h k hk]
  decide
def wireV (n : Net) (id aid : Int) : AV := match wireOf n id aid with
  | some w => lA 5 Change.av w.changes
  | none => .raw (.slice none 0 0)
theorem wire28_A (n : Net) (hl : n.wires.length ≤ 1000) (id aid : Int) : FnA Tryz.prog 23 [.agg n.av, .raw (.int .i64 id), .raw (.int .i64 aid)] (wireV n id aid) := by
  refine fnA_of tblOk Tryz.func23 rfl (by kernel_rfl) 29 Tryz.ntmps23 (by simp only [List.length_cons, List.length_nil]; omega) [.tmp 6] rfl ?_
  simp only [entrySt, argSl, Nat.zero_add, Nat.reduceAdd]
  try refine wkG trivial ?_
  try (refine Stop.mk ?_; intro K hK)
  refine wpA_loop (fun k : Nat => ⟨29, 0, [(1, true, .raw (.int .i64 id)), (2, true, .raw (.int .i64 aid)), (3, true, .box 0 0), (10, true, lA 3 Wire.av n.wires), (11, true, .raw (.int .i64 n.wires.length)), (12, true, .raw (.int .i64 k))], [n.av], [], ((0, []), [], true)⟩)
    (fun k => k ≤ n.wires.length ∧ ∀ i, i < k → (decide ((n.wires.getD i default).host = id) && decide ((n.wires.getD i default).auth = aid)) = false) (fun k => n.wires.length - k) 0 ?_ ⟨by omega, fun i h => by omega⟩ ?_
  · refine wkn ?_ ?_ ?_
    all_goals first | exact wk0 | refine wkS ?_ | skip
    all_goals (try trivial)
    all_goals ((repeat' apply And.intro) <;> first | exact wkL | skip)
  · rintro k ⟨hk, hall⟩
    try refine wkG trivial ?_
    try (refine Stop.mk ?_; intro K hK)
    refine wpA_cond' ⟨_, evl, fun hb => ?_, fun hb => ?_⟩
    · simp only [decide_eq_true_eq] at hb
      try refine wkG trivial ?_
      try (refine Stop.mk ?_; intro K hK)
      refine wpA_cond' ⟨_, evl, fun hb2 => ?_, fun hb2 => ?_⟩
      · have hw : wireOf n id aid = some (n.wires.getD k default) := find_hit (by omega) hall hb2
        rw [wireV, hw]
        try refine wkG trivial ?_
        try (refine Stop.mk ?_; intro K hK)
        refine ret_of (by simp) ⟨_, _, _, evl, ob0, OutOk.eq ?_ ?_⟩
        · rfl
        · exact lA_free (fun y => Change.free y) _
      · try refine wkG trivial ?_
        try (refine Stop.mk ?_; intro K hK)
        refine ⟨k + 1, ⟨by omega, fun i hi => ?_⟩, by omega, ?_⟩
        · rcases Nat.lt_succ_iff_lt_or_eq.1 hi with h | rfl
          · exact hall i h
          · exact hb2
        · refine wkn ?_ ?_ ?_
          all_goals first | exact wk0 | refine wkS ?_ | skip
          all_goals (try trivial)
          all_goals ((repeat' apply And.intro) <;> first | exact wkL | skip)
    · simp only [decide_eq_false_iff_not] at hb
      have hw : wireOf n id aid = none := find_miss fun i hi => hall i (by omega)
      rw [wireV, hw]
      try refine wkG trivial ?_
      try (refine Stop.mk ?_; intro K hK)
      refine ret_of (by simp) ⟨_, _, _, evl, ob0, OutOk.eq ?_ ?_⟩
      · rfl
      · simp [AV.free]
def placeM (i : Iv) (x : Int) : Int := i.lo + if x.tmod (i.hi - i.lo + 1) < 0 then x.tmod (i.hi - i.lo + 1) + (i.hi - i.lo + 1) else x.tmod (i.hi - i.lo + 1)
theorem place_range {i : Iv} (h : Lk.validI i = true) (x : Int) : i.lo ≤ placeM i x ∧ placeM i x ≤ i.hi := by
  have hi := (Lk.validI_iff i).1 h
  have h1 := Int.tmod_lt_of_pos x (show 0 < i.hi - i.lo + 1 by omega)
  have h2 := Int.lt_tmod_of_pos x (show 0 < i.hi - i.lo + 1 by omega)
  unfold placeM
  split <;> omega
theorem place_A (i : Iv) (h : Lk.validI i = true) (x : Int) : FnA Tryz.prog 22 [.agg i.av, .raw (.int .i64 x)] (.raw (.int .i64 (placeM i x))) := by
  have hi := (Lk.validI_iff i).1 h
  have h1 := Int.tmod_lt_of_pos x (show 0 < i.hi - i.lo + 1 by omega)
  have h2 := Int.lt_tmod_of_pos x (show 0 < i.hi - i.lo + 1 by omega)
  unfold placeM
  generalize hd : x.tmod (i.hi - i.lo + 1) = d at *
  refine fnA_of tblOk Tryz.func22 rfl (by kernel_rfl) 28 Tryz.ntmps22 (by simp only [List.length_cons, List.length_nil]; omega) [.tmp 4] rfl ?_
  simp only [entrySt, argSl, Nat.zero_add, Nat.reduceAdd]
  try refine wkG trivial ?_
  try (refine Stop.mk ?_; intro K hK)
  simp only [hd]
  refine wpA_cond' ⟨_, evl, fun hb => ?_, fun hb => ?_⟩
  · rw [if_pos (of_decide_eq_true hb)]
    try refine wkG trivial ?_
    try (refine Stop.mk ?_; intro K hK)
    refine ret_of (by simp) ⟨_, _, _, evl, ob0, OutOk.eq ?_ ?_⟩
    · rfl
    · simp [AV.free]
  · rw [if_neg (of_decide_eq_false hb)]
    try refine wkG trivial ?_
    try (refine Stop.mk ?_; intro K hK)
    refine ret_of (by simp) ⟨_, _, _, evl, ob0, OutOk.eq ?_ ?_⟩
    · rfl
    · simp [AV.free]
theorem bounds_eq {l : List Change} {i : Iv} (hl : Lk.validM l = true) (hi : Lk.validI i = true) : Lk.linkBoundsM l i = ((Lk.linkBoundsM l i).1, 0) := by rw [← bounds_ok hl hi]
theorem counts_eq {rate : Int} (hr : 0 ≤ rate ∧ rate ≤ 1000000) (w : Wire) (i : Iv) : mostW rate w i = ((mostW rate w i).1, 0) := by rw [← most_ok hr w i]
theorem sitePeers_A (n : Net) (hf : ∀ t ∈ n.tables, t.fits) (which : Int) (hw : inK .u8 which) (i : Iv) (at_ : Int) :
    FnA Tryz.prog 4 [.agg n.av, .raw (.int .u8 which), .agg i.av, .raw (.int .i64 at_)] (.raw (.bool true)) := by
  have hh := head28_A
  have hu := usable_A n hf i
  obtain ⟨f1, f2, f3, f4⟩ := net_free n
  by_cases hc : usableP n i
  · rw [decide_eq_true hc] at hu
    obtain ⟨hfew, hn, hiv⟩ := hc
    obtain ⟨hs, -⟩ := few_small hfew hf
    have hlen : 0 < n.hosts.length := List.length_pos_iff.2 (rises_iff.1 hn.2.1.1).1
    have hlen2 := hfew.1.2.1
    have hw2 := hw
    simp only [inK] at hw2
    have hJ := pick_range hw hlen
    have hm : n.hosts.getD (which.tmod n.hosts.length).toNat default ∈ n.hosts := getD_mem (by omega)
    have hsi := site_A n hs (n.hosts.getD (which.tmod n.hosts.length).toNat default).id i
    rw [site_ok hn hm hiv] at hsi
    have hrr := bound_range n (n.hosts.getD (which.tmod n.hosts.length).toNat default)
    have hpl := place_A i hiv at_
    obtain ⟨t1, t2⟩ := place_range hiv at_
    generalize (boundN n (n.hosts.getD (which.tmod n.hosts.length).toNat default)).1 = rate at *
    rw [peers_auths hn hrr hiv] at hsi
    have g1 := lA_free (sz := 8) (fun y => Peer.free y) (n.auths.filterMap (pf n (n.hosts.getD (which.tmod n.hosts.length).toNat default).id rate i))
    refine fnA_of tblOk Tryz.func4 rfl (by kernel_rfl) 213 Tryz.ntmps4 (by simp only [List.length_cons, List.length_nil]; omega) [.tmp 8] rfl ?_
    simp only [entrySt, argSl, Nat.zero_add, Nat.reduceAdd]
    try refine wkG (And.intro hh hu) ?_
    try (refine Stop.mk ?_; intro K hK)
    refine wpA_cond' ⟨_, evl, fun hb => absurd hb (by decide), fun _ => ?_⟩
    try refine wkG (And.intro hsi hpl) ?_
    try (refine Stop.mk ?_; intro K hK)
    refine wpA_cond' ⟨_, evl, fun hb => absurd hb (by simp), fun _ => ?_⟩
    generalize placeM i at_ = t at *
    generalize (n.hosts.getD (which.tmod n.hosts.length).toNat default).id = id at *
    try refine wkG trivial ?_
    try (refine Stop.mk ?_; intro K hK)
    refine wpA_loop (fun k : Nat => ⟨213, 0, [(4, true, .box 0 0), (6, true, .box 1 0), (8, true, .raw (.bool false)), (9, true, .raw (.bool true)), (10, true, .raw (.int .i64 id)), (11, true, .box 2 0), (13, true, .raw (.int .i64 t)), (14, true, .raw (.int .i64 ((n.auths.take k).filterMap (pf n id rate i)).length)), (77, true, lA 4 Auth.av n.auths), (78, true, .raw (.int .i64 n.auths.length)), (79, true, .raw (.int .i64 k))], [n.av, i.av, Site.av ⟨rate, n.f, n.lost, n.timeout, n.auths.filterMap (pf n id rate i)⟩], [], ((0, []), [], true)⟩)
      (fun k => k ≤ n.auths.length) (fun k => n.auths.length - k) 0 ?_ (by omega) ?_
    · simp only [List.take_zero, List.filterMap_nil, List.length_nil]
      refine wkn ?_ ?_ ?_
      all_goals first | exact wk0 | refine wkS ?_ | skip
      all_goals (try trivial)
      all_goals ((repeat' apply And.intro) <;> first | exact wkL | skip)
    · intro k hk
      have hcl : ((n.auths.take k).filterMap (pf n id rate i)).length ≤ 1000 := by
        have h1 := List.length_filterMap_le (pf n id rate i) (n.auths.take k)
        have h2 := hs.2.2.1
        rw [List.length_take] at h1
        omega
      have hal := hs.2.2.1
      rcases Nat.lt_or_ge k n.auths.length with hlt | hge
      · have hs1 := pf_take (n := n) (id := id) (rate := rate) (i := i) hlt
        have hat := fun p hp => pf_at (n := n) (id := id) (rate := rate) (i := i) hlt (p := p) hp
        have hpf : pf n id rate i (n.auths.getD k default) = (wireOf n id (n.auths.getD k default).id).bind fun w => if (mostW rate w i).1.hi ≤ n.timeout then some ⟨(n.auths.getD k default).id, (n.auths.getD k default).err, (n.auths.getD k default).cost, linkW w i⟩ else none := rfl
        have hwi := wire28_A n hs.2.2.2.1 id (n.auths.getD k default).id
        unfold wireV at hwi
        generalize n.auths.filterMap (pf n id rate i) = L at *
        generalize (n.auths.take k).filterMap (pf n id rate i) = R at *
        cases hwo : wireOf n id (n.auths.getD k default).id with
        | none =>
          rw [hwo] at hwi hpf
          rw [hpf] at hs1
          simp only [Option.bind_none, Option.toList_none, List.append_nil] at hs1
          simp only at hwi
          clear hat hpf hn hs hf hfew
          try refine wkG trivial ?_
          try (refine Stop.mk ?_; intro K hK)
          refine wpA_cond' ⟨_, evl, fun _ => ?_, fun hb => absurd (of_decide_eq_false hb) (by omega)⟩
          try refine wkG hwi ?_
          try (refine Stop.mk ?_; intro K hK)
          refine wpA_cond' ⟨_, evl, fun _ => ?_, fun hb => absurd hb (by decide)⟩
          try refine wkG trivial ?_
          try (refine Stop.mk ?_; intro K hK)
          refine ⟨k + 1, by omega, by omega, ?_⟩
          rw [hs1]
          refine wkn ?_ ?_ ?_
          all_goals first | exact wk0 | refine wkS ?_ | skip
          all_goals (try trivial)
          all_goals ((repeat' apply And.intro) <;> first | exact wkL | skip)
        | some w =>
          obtain ⟨w1, w2, w3⟩ := wireOf_some hwo
          have hwv := wire_valid hn w1
          have hne : 1 ≤ w.changes.length := by
            rw [Lk.validM, decide_eq_true_eq] at hwv
            exact hwv.1
          have hi' := (Lk.validI_iff i).1 hiv
          have htv : Lk.validI ⟨t, t⟩ = true := by rw [Lk.validI_iff]; simp only; omega
          have b1 := Lk.linkBounds_A w.changes i (hs.2.2.2.2.1 w w1)
          rw [bounds_eq hwv hiv] at b1
          have b2 := Lk.linkBounds_A w.changes ⟨t, t⟩ (hs.2.2.2.2.1 w w1)
          rw [bounds_eq hwv htv] at b2
          have su1 := link_sum w i
          have su2 := link_sum w ⟨t, t⟩
          have c1 := counts_A rate ((linkW w i).outHi + (linkW w i).backHi) (by omega)
          have c2 := counts_A rate ((linkW w ⟨t, t⟩).outHi + (linkW w ⟨t, t⟩).backHi) (by omega)
          have sub := link_sub hwv hiv htv t1 t2
          have mono := most_mono hrr sub.2.1 sub.2.2.2
          have k1 := counts_eq hrr w i
          have k2 := counts_eq hrr w ⟨t, t⟩
          have g5 : (lA 5 Change.av w.changes).free := lA_free (fun y => Change.free y) _
          rw [hwo] at hwi hpf
          simp only [Option.bind_some] at hpf
          simp only at hwi
          unfold mostW at k1 k2 hpf mono
          rw [k1] at c1
          rw [k2] at c2
          unfold linkW at *
          clear k1 k2 hn hs hf hfew hwo hu hh hsi hpl hwv
          generalize (Lk.linkBoundsM w.changes i).1 = B at *
          generalize (Lk.linkBoundsM w.changes ⟨t, t⟩).1 = D at *
          generalize (countsM rate (B.outHi + B.backHi)).1 = M at *
          generalize (countsM rate (D.outHi + D.backHi)).1 = N at *
          try refine wkG trivial ?_
          try (refine Stop.mk ?_; intro K hK)
          refine wpA_cond' ⟨_, evl, fun _ => ?_, fun hb => absurd (of_decide_eq_false hb) (by omega)⟩
          repeat
            first
              | (refine runS_nil (hK _ ?_); clear hK K)
              | refine stG ?_
              | (refine gateS 1 rfl ?_; refine runS_call rfl rfl ⟨_, evl, _, _, _, evl, oblG, ?_⟩; apply Exists.intro; refine ⟨fun hg => ?_, ?_⟩; · first | exact FnA.at_ (hwi) rfl rfl | exact FnA.at_s (hwi) rfl simT | exact FnA.at_s (hwi) rfl simF)
              | (refine gateA 1 rfl ?_; refine runA_call rfl ⟨_, evl, _, _, _, (fun _ _ => evlA), oblG, ?_⟩; apply Exists.intro; refine ⟨fun hg => ?_, ?_⟩; · first | exact FnA.at_ (hwi) rfl rfl | exact FnA.at_s (hwi) rfl simT | exact FnA.at_s (hwi) rfl simF)
              | (refine gateA 1 rfl ?_; refine runA_put ?_)
              | (refine gateBc ?_; first | (refine runB_nil (hK _ ?_); clear hK K) | (refine runB_op rfl ⟨_, evl, fun nb' => ?_⟩))
              | refine wpA_region (fun K hK => ?_)
              | (refine gateD ?_; first | (refine wpA_drawG false rfl (by kernel_rfl) (by kernel_rfl) (fun K hK => ?_)) | (refine wpA_drawG true rfl (by kernel_rfl) (by kernel_rfl) (fun K hK => ?_)))
          refine wpA_cond' ⟨_, evl, fun hb => absurd hb (by first | decide | (simp; done) | (simp; omega)), fun _ => ?_⟩
          try refine wkG (And.intro b1 (And.intro b2 (And.intro c1 c2))) ?_
          try (refine Stop.mk ?_; intro K hK)
          refine wpA_cond' ⟨_, evl, fun hb => absurd hb (by simp), fun _ => ?_⟩
          try refine wkG trivial ?_
          try (refine Stop.mk ?_; intro K hK)
          refine wpA_cond' ⟨_, evl, fun hb => ?_, fun hb => ?_⟩
          · have hb' := of_decide_eq_true hb
            rw [hpf, if_neg (by omega)] at hs1
            simp only [Option.toList_none, List.append_nil] at hs1
            try refine wkG trivial ?_
            try (refine Stop.mk ?_; intro K hK)
            refine ⟨k + 1, by omega, by omega, ?_⟩
            rw [hs1]
            refine wkn ?_ ?_ ?_
            all_goals first | exact wk0 | refine wkS ?_ | skip
            all_goals (try trivial)
            all_goals ((repeat' apply And.intro) <;> first | exact wkL | skip)
          · have hb' := of_decide_eq_false hb
            rw [if_pos (by omega)] at hpf
            rw [hpf] at hs1
            obtain ⟨q1, q2⟩ := hat _ hpf
            simp only [Option.toList_some] at hs1
            clear hat hpf
            try refine wkG trivial ?_
            try (refine Stop.mk ?_; intro K hK)
            refine wpA_cond' ⟨_, evl, fun hb2 => absurd hb2 (by simp only [Int.toNat_natCast, q2]; simp; omega), fun _ => ?_⟩
            try refine wkG trivial ?_
            try (refine Stop.mk ?_; intro K hK)
            refine ⟨k + 1, by omega, by omega, ?_⟩
            rw [hs1, List.length_append]
            refine wkn ?_ ?_ ?_
            all_goals first | exact wk0 | refine wkS ?_ | skip
            all_goals (try trivial)
            all_goals ((repeat' apply And.intro) <;> first | exact wkL | skip)
            all_goals (simp; omega)
      · obtain rfl : k = n.auths.length := by omega
        rw [List.take_length] at hcl ⊢
        generalize n.auths.filterMap (pf n id rate i) = L at *
        try refine wkG trivial ?_
        try (refine Stop.mk ?_; intro K hK)
        refine wpA_cond' ⟨_, evl, fun hb => absurd (of_decide_eq_true hb) (by omega), fun _ => ?_⟩
        try refine wkG trivial ?_
        try (refine Stop.mk ?_; intro K hK)
        refine ret_of (by simp) ⟨_, _, _, evl, ob0, OutOk.eq ?_ ?_⟩
        · simp
        · simp [AV.free]
  · rw [decide_eq_false hc] at hu
    clear hc
    refine fnA_of tblOk Tryz.func4 rfl (by kernel_rfl) 213 Tryz.ntmps4 (by simp only [List.length_cons, List.length_nil]; omega) [.tmp 8] rfl ?_
    simp only [entrySt, argSl, Nat.zero_add, Nat.reduceAdd]
    try refine wkG (And.intro hh hu) ?_
    try (refine Stop.mk ?_; intro K hK)
    refine wpA_cond' ⟨_, evl, fun _ => ?_, fun hb => absurd hb (by decide)⟩
    try refine wkG trivial ?_
    try (refine Stop.mk ?_; intro K hK)
    refine ret_of (by simp) ⟨_, _, _, evl, ob0, OutOk.eq ?_ ?_⟩
    · rfl
    · simp [AV.free]
theorem sitePeers_B {x0 x1 x2 x3 : List AV} (k0 : CellsOk tbl 30 27 x0) (k1 : CellsOk tbl 30 5 x1) (k2 : CellsOk tbl 30 29 x2) (k3 : CellsOk tbl 30 3 x3) :
    FnA Tryz.prog 4 [valA true x0, valA false x1, valA true x2, valA false x3] (.raw (.bool true)) := by
  obtain ⟨n, h0, hf⟩ := open_Net k0
  obtain ⟨a, rfl, ha⟩ := open_u8 k1
  obtain ⟨i, rfl, _⟩ := open_Iv k2
  obtain ⟨b, rfl, _⟩ := open_int k3
  exact FnA.sim (sitePeers_A n hf a ha i b) ⟨h0, Sim.of_eq rfl, Sim.of_eq rfl, Sim.of_eq rfl, trivial⟩
end Go.Proofs.YtcdgncmkkknmlaaGreatDoor
