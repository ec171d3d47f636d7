/- The statement ReplySigned, walked. -/
import Derived.Test.YtihnjbnlbedpaaaGreatDoorLaw23S
import Derived.Test.YtihnjbnlbedpaaaGreatDoorRgs
namespace Go.Proofs.YtihnjbnlbedpaaaGreatDoor
set_option linter.unusedVariables false
set_option linter.unusedSimpArgs false
set_option maxHeartbeats 4000000
set_option maxRecDepth 100000
open Go.RowKit
/-- What the last part of the statement needs of a reply that was signed and then changed. -/
structure TailS (pub : Int) (w : KeyWin) (t : Reply) : Prop where
  right : FnA Tryz.prog 20 [lA 7 KeyWin.av [w], .agg t.av] (.tup [.raw (.bool (decide (chalM (backM pub t.sig) pub (msgR t) = t.sig.c))), .raw (.int .i64 0)])
  msg : FnA Tryz.prog 17 [.agg t.av] (liA (msgR t))
  chal : FnA Tryz.prog 31 [.raw (.int .i64 (backM pub t.sig)), .raw (.int .i64 pub), liA (msgR t)] (.raw (.int .i64 (chalM (backM pub t.sig) pub (msgR t))))
  free : (liA (msgR t)).free
theorem back_okI {pub : Int} {s : Sig} : 0 ≤ backM pub s ∧ backM pub s < 2147483579 := by
  unfold backM
  have := Nat.mod_lt (powM 4 s.s.toNat * powM pub.toNat (1073741789 - s.c).toNat) (show 0 < 2147483579 by omega)
  omega
theorem tailS {r t : Reply} {k : Int} (hr : replyP (bare r)) (hk : withinM k 1 = true) (hp : (powM 4 k.toNat : Int) ≠ 1) (hh : r.stamp.hi < 3000000000000000) (hf : (winS r (powM 4 k.toNat)).fits) (hs : withinM t.sig.c 0 = true ∧ withinM t.sig.s 0 = true)
    (h1 : t.auth = r.auth) (h2 : t.key = 1) (h3 : r.stamp.lo ≤ t.stamp.lo) (h4 : t.stamp.hi ≤ r.stamp.hi) (ht : replyP t) (htf : t.fits) : TailS (powM 4 k.toNat) (winS r (powM 4 k.toNat)) t := by
  have hv := win_valid hr hk hp hh
  have hm := member_pow (k := k.toNat) (by rw [withinM_iff] at hk; omega)
  have hR := rRight_A [winS r (powM 4 k.toNat)] (by simp) (by simpa using hf) t htf
  rw [if_pos ⟨hv, ht⟩, decide_eq_true hv, decide_eq_true ht, Bool.true_and, Bool.true_and, win_right hv h1 h2 h3 h4 ht.2.1] at hR
  have hmi := (memberM_iff _).1 hm
  have hbk := back_okI (pub := (powM 4 k.toNat : Int)) (s := t.sig)
  have hok : okI (backM (powM 4 k.toNat) t.sig :: (powM 4 k.toNat : Int) :: msgR t) := by
    intro n hn
    rcases List.mem_cons.1 hn with rfl | hn
    · simp only [inK]; omega
    · rcases List.mem_cons.1 hn with rfl | hn
      · simp only [inK]; omega
      · exact okI_msgR htf n hn
  refine ⟨?_, rmessageR_A t htf.2.2.2.1, challengeR_A _ _ _ hok (by simp [msgR]), lA_free (fun _ => by simp [AV.free, AV.freeL, iC]) _⟩
  have e : (verifyM (powM 4 k.toNat) t.sig (msgR t)).1 = decide (chalM (backM (powM 4 k.toNat) t.sig) (powM 4 k.toNat) (msgR t) = t.sig.c) := by
    rw [verifyM, hm, hs.1, hs.2]
    rfl
  rw [← e]
  exact hR
theorem open_u64 {n : Nat} {xs : List AV} (h : CellsOk tbl (n + 1) 25 xs) : ∃ m : Int, xs = [.raw (.int .u64 m)] ∧ inK .u64 m := by
  simp only [CellsOk, cutOk, List.map_cons, List.map_nil, List.replicate_succ, List.replicate_zero, tbl_25] at h
  exact h
abbrev one1 (r : Reply) : Reply := { r with key := 1 }
theorem replySigned_A (r : Reply) (hr : r.fits) (key once nonce : Int) (hkey : inK .u64 key) (honce : inK .u64 once) (hnonce : inK .u64 nonce) (by_ which : Int) (hby : inK .u16 by_) (hwh : inK .u8 which) :
    FnA Tryz.prog 4 [.agg r.av, .raw (.int .u64 key), .raw (.int .u64 once), .raw (.int .u64 nonce), .raw (.int .u16 by_), .raw (.int .u8 which)] (.raw (.bool true)) := by
  have hh := head23_A
  have hf1 : (one1 r).fits := ⟨hr.1, hr.2.1, hr.2.2.1, hr.2.2.2.1, hr.2.2.2.2.1, by simp [inK], hr.2.2.2.2.2.2.1, hr.2.2.2.2.2.2.2⟩
  have a1 := reply11_A (one1 r)
  have a2 := secretR_A key hkey
  have a3 := secretR_A once honce
  have hk0 := secM_range hkey
  have ho0 := secM_range honce
  have a4 := publicR_A (secM key) (by omega)
  by_cases hc : replyP (one1 r) ∧ (powM 4 (secM key).toNat : Int) ≠ 1 ∧ r.stamp.hi < 3000000000000000
  · obtain ⟨c1, c2, c3⟩ := hc
    rw [decide_eq_true c1] at a1
    have hrb : replyP (bare (one1 r)) := ⟨c1.1, c1.2.1, c1.2.2.1, c1.2.2.2.1, by simp, by simp⟩
    have hkw : withinM (secM key) 1 = true := (withinM_iff _ _).2 hk0
    have how : withinM (secM once) 1 = true := (withinM_iff _ _).2 ho0
    obtain ⟨⟨q1, q2, q3⟩, ⟨q4, q5, q6⟩, q7, q8, q9, q10⟩ := id c1
    simp only [one1] at q1 q2 q3 q4 q5 q6 q7 q8 q9 q10
    have hwf : (winS (one1 r) (powM 4 (secM key).toNat)).fits := by
      have := powM_lt 4 (secM key).toNat (by omega)
      refine ⟨by simp only [inK]; omega, by simp [inK], by simp only [inK]; omega, by simp only [inK]; omega, by simp only [inK]; omega, by simp [Sig.fits, inK]⟩
    have b1 := first23_A r.auth (powM 4 (secM key).toNat) r.stamp.lo (r.stamp.hi + 1)
    have b2 := rsign_A (secM key) (secM once) (one1 r) hf1
    have hsr := signM_range (m := msgR (one1 r)) hkw how
    have hsv := sign_verify (m := msgR (one1 r)) hkw how (member_pow (k := (secM key).toNat) (by omega))
    rw [rsignM, if_pos hrb, if_pos (signM_ok hkw how)] at b2
    have tl := fun t => tailS (t := t) hrb hkw c2 c3 hwf
    have hm := member_pow (k := (secM key).toNat) (by omega)
    have hbk := fun (s : Sig) h1 h2 => backR_A (powM 4 (secM key).toNat) s ⟨by omega, by have := powM_lt 4 (secM key).toNat (by omega); omega⟩ h1 h2 ((memberM_iff _).1 hm).2.2
    rw [verifyM, hm, hsr.1, hsr.2] at hsv
    have hsv1 := congrArg Prod.fst hsv
    simp only [Bool.and_self, if_true] at hsv1
    obtain ⟨s, hs⟩ : ∃ s, s = (signM (secM key) (secM once) (msgR (one1 r))).1 := ⟨_, rfl⟩
    rw [← hs] at b2 hsr hsv1
    have hsr1 := (withinM_iff _ _).1 hsr.1
    have hsr2 := (withinM_iff _ _).1 hsr.2
    have hbs := hbk s hsr1 hsr2
    have hsf : s.fits := ⟨by simp only [inK]; omega, by simp only [inK]; omega⟩
    have t0 := tl { one1 r with sig := s } hsr rfl rfl (Int.le_refl _) (Int.le_refl _) ⟨⟨q1, q2, q3⟩, ⟨q4, q5, q6⟩, q7, q8, by simp only; omega, by simp only; omega⟩ ⟨hf1.1, hf1.2.1, hf1.2.2.1, hf1.2.2.2.1, hf1.2.2.2.2.1, hf1.2.2.2.2.2.1, hf1.2.2.2.2.2.2.1, hsf⟩
    have t0r := t0.right
    rw [show msgR { one1 r with sig := s } = msgR (one1 r) from rfl, hsv1] at t0r
    have t1 := tl { one1 r with sig := s, round := 1 + by_.tmod 200 } hsr rfl rfl (Int.le_refl _) (Int.le_refl _)
    have t2 := tl { one1 r with sig := s, nonce := nonce } hsr rfl rfl (Int.le_refl _) (Int.le_refl _) ⟨⟨q1, q2, q3⟩, ⟨q4, q5, q6⟩, q7, q8, by simp only; omega, by simp only; omega⟩ ⟨hf1.1, hf1.2.1, hf1.2.2.1, hnonce, hf1.2.2.2.2.1, hf1.2.2.2.2.2.1, hf1.2.2.2.2.2.2.1, hsf⟩
    have t3 := tl { one1 r with sig := s, table := by_.tmod 1001 } hsr rfl rfl (Int.le_refl _) (Int.le_refl _)
    have t4 := tl { one1 r with sig := s, stamp := ⟨r.stamp.lo + by_.tmod (r.stamp.hi - r.stamp.lo + 1), r.stamp.hi⟩ } hsr rfl rfl
    simp only [inK] at hby hwh
    rw [Int.tmod_eq_emod_of_nonneg hby.1] at t1 t3 t4
    have m1 := Int.emod_nonneg by_ (show (200 : Int) ≠ 0 by omega)
    have m2 := Int.emod_lt_of_pos by_ (show (0 : Int) < 200 by omega)
    have m3 := Int.emod_nonneg by_ (show (1001 : Int) ≠ 0 by omega)
    have m4 := Int.emod_lt_of_pos by_ (show (0 : Int) < 1001 by omega)
    have m5 := Int.emod_nonneg by_ (show (r.stamp.hi - r.stamp.lo + 1 : Int) ≠ 0 by omega)
    have m6 := Int.emod_lt_of_pos by_ (show (0 : Int) < r.stamp.hi - r.stamp.lo + 1 by omega)
    have t1 := t1 ⟨⟨q1, q2, by simp only; omega⟩, ⟨q4, q5, q6⟩, q7, q8, by simp only; omega, by simp only; omega⟩ ⟨hf1.1, hf1.2.1, by simp only [inK]; omega, hf1.2.2.2.1, hf1.2.2.2.2.1, hf1.2.2.2.2.2.1, hf1.2.2.2.2.2.2.1, hsf⟩
    have t3 := t3 ⟨⟨q1, q2, q3⟩, ⟨q4, q5, q6⟩, q7, by simp only; omega, by simp only; omega, by simp only; omega⟩ ⟨hf1.1, hf1.2.1, hf1.2.2.1, hf1.2.2.2.1, hf1.2.2.2.2.1, hf1.2.2.2.2.2.1, by simp only [inK]; omega, hsf⟩
    have t4 := t4 (by simp only; omega) (Int.le_refl _) ⟨⟨q1, q2, q3⟩, by simp only; omega, q7, q8, by simp only; omega, by simp only; omega⟩ ⟨hf1.1, hf1.2.1, hf1.2.2.1, hf1.2.2.2.1, ⟨by simp only [inK]; omega, by simp only [inK]; omega⟩, hf1.2.2.2.2.2.1, hf1.2.2.2.2.2.2.1, hsf⟩
    rw [← Int.tmod_eq_emod_of_nonneg hby.1] at t1 t3 t4 m1 m2 m3 m4 m5 m6
    obtain ⟨t1a, t1b, t1c, t1d⟩ := t1
    obtain ⟨t2a, t2b, t2c, t2d⟩ := t2
    obtain ⟨t3a, t3b, t3c, t3d⟩ := t3
    obtain ⟨t4a, t4b, t4c, t4d⟩ := t4
    have hmod : which.tmod 4 = which % 4 := Int.tmod_eq_emod_of_nonneg hwh.1
    clear tl hbk hsv hsv1 hs hm t0 hrb hkw how hwf c1 hf1 hsr hsf hr
    generalize (powM 4 (secM key).toNat : Int) = P at *
    refine fnA_of tblOk Tryz.func4 rfl (by kernel_rfl) 146 Tryz.ntmps4 (by simp only [List.length_cons, List.length_nil]; omega) [.tmp 12] rfl ?_
    simp only [entrySt, argSl, Nat.zero_add, Nat.reduceAdd]
    try refine wkG (And.intro hh a1) ?_
    try (refine Stop.mk ?_; intro K hK)
    refine wpA_cond' ⟨_, evl, fun hb => (by simp at hb), fun _ => ?_⟩
    try refine wkG (And.intro a2 a4) ?_
    try (refine Stop.mk ?_; intro K hK)
    refine wpA_cond' ⟨_, evl, fun hb => absurd hb (by simp [c2]; omega), fun _ => ?_⟩
    try refine wkG (And.intro a3 (And.intro b1 (And.intro b2 t0r))) ?_
    try (refine Stop.mk ?_; intro K hK)
    refine wpA_cond' ⟨_, evl, fun hb => (by simp at hb), fun _ => ?_⟩
    repeat' first
      | refine wkG (And.intro t1a (And.intro t1b (And.intro t1c (And.intro t2a (And.intro t2b (And.intro t2c (And.intro t3a (And.intro t3b (And.intro t3c (And.intro t4a (And.intro t4b (And.intro t4c hbs)))))))))))) ?_
      | (refine cndS ⟨_, evl, ⟨cb, cb⟩, fun hb => ?_, fun hb => ?_⟩ <;> try (cases hb; done))
      | (refine Stop.mk ?_; intro K hK)
      | fail
    · refine ret_of (by simp) ⟨_, _, _, evl, ob0, OutOk.eq ?_ ?_⟩
      · simp
      · simp [AV.free]
    · refine ret_of (by simp) ⟨_, _, _, evl, ob0, OutOk.eq ?_ ?_⟩
      · simp
      · simp [AV.free]
    · refine ret_of (by simp) ⟨_, _, _, evl, ob0, OutOk.eq ?_ ?_⟩
      · simp
      · simp [AV.free]
    · refine ret_of (by simp) ⟨_, _, _, evl, ob0, OutOk.eq ?_ ?_⟩
      · simp
      · simp [AV.free]
    · exfalso; omega
  · have hno : decide (replyP (one1 r)) = true → ¬ (powM 4 (secM key).toNat : Int) = 1 → r.stamp.hi < 3000000000000000 → False := fun h1 h2 h3 => hc ⟨of_decide_eq_true h1, h2, h3⟩
    clear hc hf1 hr
    generalize (powM 4 (secM key).toNat : Int) = P at *
    generalize decide (replyP (one1 r)) = B at *
    cases B with
    | false =>
      refine fnA_of tblOk Tryz.func4 rfl (by kernel_rfl) 146 Tryz.ntmps4 (by simp only [List.length_cons, List.length_nil]; omega) [.tmp 12] rfl ?_
      simp only [entrySt, argSl, Nat.zero_add, Nat.reduceAdd]
      try refine wkG (And.intro hh a1) ?_
      try (refine Stop.mk ?_; intro K hK)
      refine wpA_cond' ⟨_, evl, fun _ => ?_, fun hb => (by simp at hb)⟩
      try refine wkG trivial ?_
      try (refine Stop.mk ?_; intro K hK)
      refine ret_of (by simp) ⟨_, _, _, evl, ob0, OutOk.eq ?_ ?_⟩
      · rfl
      · simp [AV.free]
    | true =>
      refine fnA_of tblOk Tryz.func4 rfl (by kernel_rfl) 146 Tryz.ntmps4 (by simp only [List.length_cons, List.length_nil]; omega) [.tmp 12] rfl ?_
      simp only [entrySt, argSl, Nat.zero_add, Nat.reduceAdd]
      try refine wkG (And.intro hh a1) ?_
      try (refine Stop.mk ?_; intro K hK)
      refine wpA_cond' ⟨_, evl, fun hb => (by simp at hb), fun _ => ?_⟩
      try refine wkG (And.intro a2 a4) ?_
      try (refine Stop.mk ?_; intro K hK)
      refine wpA_cond' ⟨_, evl, fun _ => ?_, fun hb => ?_⟩
      · try refine wkG trivial ?_
        try (refine Stop.mk ?_; intro K hK)
        refine ret_of (by simp) ⟨_, _, _, evl, ob0, OutOk.eq ?_ ?_⟩
        · rfl
        · simp [AV.free]
      · exfalso
        simp at hb
        exact hno rfl hb.1 (by omega)
theorem replySigned_B {x0 x1 x2 x3 x4 x5 : List AV} (k0 : CellsOk tbl 30 31 x0) (k1 : CellsOk tbl 30 25 x1) (k2 : CellsOk tbl 30 25 x2) (k3 : CellsOk tbl 30 25 x3) (k4 : CellsOk tbl 30 52 x4) (k5 : CellsOk tbl 30 5 x5) :
    FnA Tryz.prog 4 [valA true x0, valA false x1, valA false x2, valA false x3, valA false x4, valA false x5] (.raw (.bool true)) := by
  obtain ⟨r, rfl, hr⟩ := open_Reply k0
  obtain ⟨a, rfl, ha⟩ := open_u64 k1
  obtain ⟨b, rfl, hb⟩ := open_u64 k2
  obtain ⟨c, rfl, hc⟩ := open_u64 k3
  obtain ⟨d, rfl, hd⟩ := open_u16 k4
  obtain ⟨e, rfl, he⟩ := open_u8 k5
  exact FnA.sim (replySigned_A r hr a b c ha hb hc d e hd he) ⟨Sim.of_eq rfl, Sim.of_eq rfl, Sim.of_eq rfl, Sim.of_eq rfl, Sim.of_eq rfl, Sim.of_eq rfl, trivial⟩
end Go.Proofs.YtihnjbnlbedpaaaGreatDoor
