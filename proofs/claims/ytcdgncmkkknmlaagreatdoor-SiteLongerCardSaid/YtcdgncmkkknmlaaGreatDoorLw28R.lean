/- The statements SiteRate, SiteKeys and SiteMatchesReference, walked. -/
import Derived.Test.YtcdgncmkkknmlaaGreatDoorSt
import Derived.Test.YtcdgncmkkknmlaaGreatDoorSx
import Derived.Test.YtcdgncmkkknmlaaGreatDoorOp28
namespace Go.Proofs.YtcdgncmkkknmlaaGreatDoor
set_option linter.unusedVariables false
set_option linter.unusedSimpArgs false
set_option maxHeartbeats 4000000
set_option maxRecDepth 100000
open Go.RowKit
theorem pick_range {which : Int} (hw : inK .u8 which) {m : Nat} (hm : 0 < m) : 0 ≤ which.tmod m ∧ which.tmod m < m := by
  simp only [inK] at hw
  rw [Int.tmod_eq_emod_of_nonneg (by omega)]
  exact ⟨Int.emod_nonneg _ (by omega), Int.emod_lt_of_pos _ (by omega)⟩
theorem worst_lo {t : Table} {temp age : Rg} (h : (worstM t temp age).2 = 0) : temp.lo ≤ temp.hi ∧ age.lo ≤ age.hi := by
  unfold worstM at h
  split at h
  · rename_i hc; exact hc.2
  · cases h
theorem siteRate_A (n : Net) (hf : ∀ t ∈ n.tables, t.fits) (which : Int) (hw : inK .u8 which) (temp age : Int) :
    FnA Tryz.prog 7 [.agg n.av, .raw (.int .u8 which), .raw (.int .i64 temp), .raw (.int .i64 age)] (.raw (.bool true)) := by
  have hh := head28_A
  have hu := usable_A n hf ⟨0, 0⟩
  obtain ⟨f1, f2, f3, f4⟩ := net_free n
  by_cases hc : usableP n ⟨0, 0⟩
  · rw [decide_eq_true hc] at hu
    obtain ⟨hfew, hn, hiv⟩ := hc
    obtain ⟨hs, -⟩ := few_small hfew hf
    have hlen : 0 < n.hosts.length := List.length_pos_iff.2 (rises_iff.1 hn.2.1.1).1
    have hlen2 := hfew.1.2.1
    have hw2 := hw
    simp only [inK] at hw2
    have hJ := pick_range hw hlen
    have hm : n.hosts.getD (which.tmod n.hosts.length).toNat default ∈ n.hosts := getD_mem (by omega)
    have hr := rate28_A n hs (n.hosts.getD (which.tmod n.hosts.length).toNat default).id
    rw [rate_host hn hm] at hr
    obtain ⟨ht1, ht2⟩ := table_in hn hm
    have hz := hn.2.1.2 _ hm
    rw [ht2] at hr hz
    have hlo := worst_lo hz
    have hc1 := cut_A temp (n.hosts.getD (which.tmod n.hosts.length).toNat default).temp
    have hc2 := cut_A age (n.hosts.getD (which.tmod n.hosts.length).toNat default).age
    have hx := rate_A _ (hf _ (getD_mem ht1.2)) (min (max temp (n.hosts.getD (which.tmod n.hosts.length).toNat default).temp.lo) (n.hosts.getD (which.tmod n.hosts.length).toNat default).temp.hi) (min (max age (n.hosts.getD (which.tmod n.hosts.length).toNat default).age.lo) (n.hosts.getD (which.tmod n.hosts.length).toNat default).age.hi)
    have hp := worst_point hz (T := min (max temp (n.hosts.getD (which.tmod n.hosts.length).toNat default).temp.lo) (n.hosts.getD (which.tmod n.hosts.length).toNat default).temp.hi) (A := min (max age (n.hosts.getD (which.tmod n.hosts.length).toNat default).age.lo) (n.hosts.getD (which.tmod n.hosts.length).toNat default).age.hi) (by omega) (by omega)
    have hf1 := liA_free (n.tables.getD (n.hosts.getD (which.tmod n.hosts.length).toNat default).table.toNat default).temps
    have hf2 := liA_free (n.tables.getD (n.hosts.getD (which.tmod n.hosts.length).toNat default).table.toNat default).ages
    have hf3 : (lA 1 liC (n.tables.getD (n.hosts.getD (which.tmod n.hosts.length).toNat default).table.toNat default).rates).free := lA_free (fun y => show AV.freeL (liC y) from ⟨liA_free y, trivial⟩) _
    clear ht2 hm hlo hs hn hfew hiv hf
    rw [hz] at hr
    rw [hp.1] at hx
    have hle := hp.2
    clear hz hp
    generalize (worstM _ (n.hosts.getD (which.tmod n.hosts.length).toNat default).temp (n.hosts.getD (which.tmod n.hosts.length).toNat default).age).1 = w at *
    generalize (worstM _ _ _).1 = x at *
    refine fnA_of tblOk Tryz.func7 rfl (by kernel_rfl) 70 Tryz.ntmps7 (by simp only [List.length_cons, List.length_nil]; omega) [.tmp 8] rfl ?_
    simp only [entrySt, argSl, Nat.zero_add, Nat.reduceAdd]
    try refine wkG (And.intro hh hu) ?_
    try (refine Stop.mk ?_; intro K hK)
    refine wpA_cond' ⟨_, evl, fun hb => absurd hb (by decide), fun _ => ?_⟩
    try refine wkG (And.intro hr (And.intro hc1 (And.intro hc2 hx))) ?_
    try (refine Stop.mk ?_; intro K hK)
    refine ret_of (by simp) ⟨_, _, _, evl, ob0, OutOk.eq ?_ ?_⟩
    · simp [hle]
    · simp [AV.free]
  · rw [decide_eq_false hc] at hu
    clear hc
    refine fnA_of tblOk Tryz.func7 rfl (by kernel_rfl) 70 Tryz.ntmps7 (by simp only [List.length_cons, List.length_nil]; omega) [.tmp 8] rfl ?_
    simp only [entrySt, argSl, Nat.zero_add, Nat.reduceAdd]
    try refine wkG (And.intro hh hu) ?_
    try (refine Stop.mk ?_; intro K hK)
    refine wpA_cond' ⟨_, evl, fun _ => ?_, fun hb => absurd hb (by decide)⟩
    try refine wkG trivial ?_
    try (refine Stop.mk ?_; intro K hK)
    refine ret_of (by simp) ⟨_, _, _, evl, ob0, OutOk.eq ?_ ?_⟩
    · rfl
    · simp [AV.free]
theorem siteRate_B {x0 x1 x2 x3 : List AV} (k0 : CellsOk tbl 30 27 x0) (k1 : CellsOk tbl 30 5 x1) (k2 : CellsOk tbl 30 3 x2) (k3 : CellsOk tbl 30 3 x3) :
    FnA Tryz.prog 7 [valA true x0, valA false x1, valA false x2, valA false x3] (.raw (.bool true)) := by
  obtain ⟨n, h0, hf⟩ := open_Net k0
  obtain ⟨a, rfl, ha⟩ := open_u8 k1
  obtain ⟨b, rfl, _⟩ := open_int k2
  obtain ⟨c, rfl, _⟩ := open_int k3
  exact FnA.sim (siteRate_A n hf a ha b c) ⟨h0, Sim.of_eq rfl, Sim.of_eq rfl, Sim.of_eq rfl, trivial⟩
theorem auth_range {n : Net} (h : netP n) : n.auths.length ≤ 16 ∧ 0 < n.auths.length := by
  have := rises_len h.2.2.1.1
  exact ⟨by omega, List.length_pos_iff.2 (rises_iff.1 h.2.2.1.1).1⟩
theorem siteKeys_A (n : Net) (hf : ∀ t ∈ n.tables, t.fits) (which : Int) (hw : inK .u8 which) (i : Iv) :
    FnA Tryz.prog 8 [.agg n.av, .raw (.int .u8 which), .agg i.av] (.raw (.bool true)) := by
  have hh := head28_A
  have hu := usable_A n hf i
  obtain ⟨f1, f2, f3, f4⟩ := net_free n
  by_cases hc : usableP n i
  · rw [decide_eq_true hc] at hu
    obtain ⟨hfew, hn, hiv⟩ := hc
    obtain ⟨hs, -⟩ := few_small hfew hf
    obtain ⟨hl1, hl2⟩ := auth_range hn
    have hw2 := hw
    simp only [inK] at hw2
    have hJ := pick_range hw hl2
    have hm : n.auths.getD (which.tmod n.auths.length).toNat default ∈ n.auths := getD_mem (by omega)
    have hk := keys28_A n hs
    rw [keysM, if_pos hn] at hk
    dsimp only at hk
    have hfit : ∀ k ∈ n.auths.map keyA, k.fits := fun k hk => keyA_fits hn hk
    have hlk : (n.auths.map keyA).length = n.auths.length := List.length_map ..
    have hp := pub_A (n.auths.map keyA) (by omega) hfit (n.auths.getD (which.tmod n.auths.length).toNat default).id 1 i
    have hv := valid_A (n.auths.map keyA) (by omega) hfit
    rw [decide_eq_true (keys_valid hn)] at hv
    have hR := publicR_A (n.auths.getD (which.tmod n.auths.length).toNat default).key (by have := (hn.2.2.1.2 _ hm).2.2; omega)
    have hi := (Lk.validI_iff i).1 hiv
    have e : (n.auths.map keyA).getD (which.tmod n.auths.length).toNat default = keyA (n.auths.getD (which.tmod n.auths.length).toNat default) := by
      rw [getD_get (by omega), getD_get (by omega), List.getElem_map]
    have hpm : pubM (n.auths.map keyA) (n.auths.getD (which.tmod n.auths.length).toNat default).id 1 i = if 3000000000000000 ≤ i.hi then (0, 31) else ((powM 4 (n.auths.getD (which.tmod n.auths.length).toNat default).key.toNat : Int), 0) := by
      rw [pubM_at ⟨keys_valid hn, hi⟩ (k := (which.tmod n.auths.length).toNat) (by omega) (by rw [e]; exact ⟨rfl, rfl⟩), e]
      unfold keyA
      simp only
      by_cases h1 : 3000000000000000 ≤ i.hi
      · rw [if_pos (.inr h1), if_pos h1]
      · rw [if_neg (by omega), if_neg h1]
    rw [hpm] at hp
    clear hm hn hfew hs hf hpm hfit e
    have hfr := lA_free (sz := 7) (fun y => KeyWin.free y) (n.auths.map keyA)
    generalize n.auths.map keyA = L at *
    generalize (powM 4 (n.auths.getD (which.tmod n.auths.length).toNat default).key.toNat : Int) = p at *
    by_cases h1 : 3000000000000000 ≤ i.hi
    · rw [if_pos h1] at hp
      refine fnA_of tblOk Tryz.func8 rfl (by kernel_rfl) 77 Tryz.ntmps8 (by simp only [List.length_cons, List.length_nil]; omega) [.tmp 6] rfl ?_
      simp only [entrySt, argSl, Nat.zero_add, Nat.reduceAdd]
      try refine wkG (And.intro hh hu) ?_
      try (refine Stop.mk ?_; intro K hK)
      refine wpA_cond' ⟨_, evl, fun hb => absurd hb (by decide), fun _ => ?_⟩
      try refine wkG (And.intro hk (And.intro hp hv)) ?_
      try (refine Stop.mk ?_; intro K hK)
      refine wpA_cond' ⟨_, evl, fun hb => absurd hb (by simp [hlk]), fun _ => ?_⟩
      try refine wkG trivial ?_
      try (refine Stop.mk ?_; intro K hK)
      refine wpA_cond' ⟨_, evl, fun _ => ?_, fun hb => absurd h1 (by simpa using hb)⟩
      try refine wkG trivial ?_
      try (refine Stop.mk ?_; intro K hK)
      refine ret_of (by simp) ⟨_, _, _, evl, ob0, OutOk.eq ?_ ?_⟩
      · rfl
      · simp [AV.free]
    · rw [if_neg h1] at hp
      refine fnA_of tblOk Tryz.func8 rfl (by kernel_rfl) 77 Tryz.ntmps8 (by simp only [List.length_cons, List.length_nil]; omega) [.tmp 6] rfl ?_
      simp only [entrySt, argSl, Nat.zero_add, Nat.reduceAdd]
      try refine wkG (And.intro hh hu) ?_
      try (refine Stop.mk ?_; intro K hK)
      refine wpA_cond' ⟨_, evl, fun hb => absurd hb (by decide), fun _ => ?_⟩
      try refine wkG (And.intro hk (And.intro hp hv)) ?_
      try (refine Stop.mk ?_; intro K hK)
      refine wpA_cond' ⟨_, evl, fun hb => absurd hb (by simp [hlk]), fun _ => ?_⟩
      try refine wkG trivial ?_
      try (refine Stop.mk ?_; intro K hK)
      refine wpA_cond' ⟨_, evl, fun hb => absurd (of_decide_eq_true hb) (by omega), fun _ => ?_⟩
      try refine wkG hR ?_
      try (refine Stop.mk ?_; intro K hK)
      refine ret_of (by simp) ⟨_, _, _, evl, ob0, OutOk.eq ?_ ?_⟩
      · simp
      · simp [AV.free]
  · rw [decide_eq_false hc] at hu
    clear hc
    refine fnA_of tblOk Tryz.func8 rfl (by kernel_rfl) 77 Tryz.ntmps8 (by simp only [List.length_cons, List.length_nil]; omega) [.tmp 6] rfl ?_
    simp only [entrySt, argSl, Nat.zero_add, Nat.reduceAdd]
    try refine wkG (And.intro hh hu) ?_
    try (refine Stop.mk ?_; intro K hK)
    refine wpA_cond' ⟨_, evl, fun _ => ?_, fun hb => absurd hb (by decide)⟩
    try refine wkG trivial ?_
    try (refine Stop.mk ?_; intro K hK)
    refine ret_of (by simp) ⟨_, _, _, evl, ob0, OutOk.eq ?_ ?_⟩
    · rfl
    · simp [AV.free]
theorem siteKeys_B {x0 x1 x2 : List AV} (k0 : CellsOk tbl 30 27 x0) (k1 : CellsOk tbl 30 5 x1) (k2 : CellsOk tbl 30 29 x2) :
    FnA Tryz.prog 8 [valA true x0, valA false x1, valA true x2] (.raw (.bool true)) := by
  obtain ⟨n, h0, hf⟩ := open_Net k0
  obtain ⟨a, rfl, ha⟩ := open_u8 k1
  obtain ⟨i, rfl, _⟩ := open_Iv k2
  exact FnA.sim (siteKeys_A n hf a ha i) ⟨h0, Sim.of_eq rfl, Sim.of_eq rfl, trivial⟩
theorem site_len {n : Net} {id : Int} {i : Iv} : (siteM n id i).1.peers.length ≤ n.wires.length := by
  unfold siteM
  split
  · split
    · simp only [peersM, List.length_map]
      exact List.length_filter_le _ _
    · exact Nat.zero_le _
  · exact Nat.zero_le _
theorem siteMatches_A (n : Net) (hf : ∀ t ∈ n.tables, t.fits) (host : Int) (i : Iv) :
    FnA Tryz.prog 3 [.agg n.av, .raw (.int .i64 host), .agg i.av] (.raw (.bool true)) := by
  have hh := head28_A
  have hfe := few28_A n
  obtain ⟨f1, f2, f3, f4⟩ := net_free n
  by_cases hc : fewN n
  · rw [decide_eq_true hc] at hfe
    obtain ⟨hs, ht⟩ := few_small hc hf
    have a1 := rate28_A n hs host
    have a2 := rateR28_A n hs ht host
    have a3 : FnA Tryz.prog 13 [.agg n.av] (.raw (.bool (decide (netP n)))) := svalid_A n hs.1 hs.2.1 hs.2.2.1 hs.2.2.2.1 hs.2.2.2.2.1 hs.2.2.2.2.2
    have a4 := validR28_A n hs ht
    have a5 := site_A n hs host i
    have a6 := siteR28_A n hs ht host i
    have hsl : (siteM n host i).1.peers.length ≤ n.wires.length := site_len
    have hwl := hc.1.2.2.2
    have a7 := same28_A (siteM n host i).1 (siteM n host i).1 (by omega)
    rw [decide_eq_true rfl] at a7
    have a8 := keys28_A n hs
    have a9 := keysR28_A n hs ht
    have hkl : (keysM n).1.length ≤ n.auths.length := by unfold keysM; split <;> simp
    have hal := hc.1.2.2.1
    have b1 := sameR_A (keysM n).1 (keysM n).1 (by omega)
    rw [decide_eq_true rfl] at b1
    have g1 := Site.free (siteM n host i).1
    have g2 := lA_free (sz := 7) (fun y => KeyWin.free y) (keysM n).1
    clear hc hs ht hsl hwl hkl hal hf
    generalize rateM n host = r at *
    generalize decide (netP n) = v at *
    generalize siteM n host i = s at *
    generalize keysM n = k at *
    generalize lA 7 KeyWin.av k.1 = L at *
    refine fnA_of tblOk Tryz.func3 rfl (by kernel_rfl) 97 Tryz.ntmps3 (by simp only [List.length_cons, List.length_nil]; omega) [.tmp 6] rfl ?_
    simp only [entrySt, argSl, Nat.zero_add, Nat.reduceAdd]
    try refine wkG (And.intro hh hfe) ?_
    try (refine Stop.mk ?_; intro K hK)
    refine wpA_cond' ⟨_, evl, fun hb => absurd hb (by decide), fun _ => ?_⟩
    try refine wkG (And.intro a1 (And.intro a2 (And.intro a3 (And.intro a4 (And.intro a5 (And.intro a6 (And.intro a7 (And.intro a8 (And.intro a9 b1))))))))) ?_
    try (refine Stop.mk ?_; intro K hK)
    refine ret_of (by simp) ⟨_, _, _, evl, ob0, OutOk.eq ?_ ?_⟩
    · simp
    · simp [AV.free]
  · rw [decide_eq_false hc] at hfe
    clear hc
    refine fnA_of tblOk Tryz.func3 rfl (by kernel_rfl) 97 Tryz.ntmps3 (by simp only [List.length_cons, List.length_nil]; omega) [.tmp 6] rfl ?_
    simp only [entrySt, argSl, Nat.zero_add, Nat.reduceAdd]
    try refine wkG (And.intro hh hfe) ?_
    try (refine Stop.mk ?_; intro K hK)
    refine wpA_cond' ⟨_, evl, fun _ => ?_, fun hb => absurd hb (by decide)⟩
    try refine wkG trivial ?_
    try (refine Stop.mk ?_; intro K hK)
    refine ret_of (by simp) ⟨_, _, _, evl, ob0, OutOk.eq ?_ ?_⟩
    · rfl
    · simp [AV.free]
theorem siteMatches_B {x0 x1 x2 : List AV} (k0 : CellsOk tbl 30 27 x0) (k1 : CellsOk tbl 30 3 x1) (k2 : CellsOk tbl 30 29 x2) :
    FnA Tryz.prog 3 [valA true x0, valA false x1, valA true x2] (.raw (.bool true)) := by
  obtain ⟨n, h0, hf⟩ := open_Net k0
  obtain ⟨a, rfl, _⟩ := open_int k1
  obtain ⟨i, rfl, _⟩ := open_Iv k2
  exact FnA.sim (siteMatches_A n hf a i) ⟨h0, Sim.of_eq rfl, Sim.of_eq rfl, trivial⟩
end Go.Proofs.YtcdgncmkkknmlaaGreatDoor
