/- The reference of package group: signatures. -/
import Derived.Test.YtihnjbnlbedpaaaGreatDoorGrr
namespace Go.Proofs.YtihnjbnlbedpaaaGreatDoor
set_option linter.unusedVariables false
set_option linter.unusedSimpArgs false
set_option maxHeartbeats 4000000
set_option maxRecDepth 100000
open Go.RowKit
theorem signR_A (key once : Int) (m : List Int) (h : okI m) (hn : m.length ≤ 999998) : FnA Tryz.prog 62 [.raw (.int .i64 key), .raw (.int .i64 once), liA m] (.tup [.agg (signM key once m).1.av, .raw (.int .i64 (signM key once m).2)]) := by
  have hw1 := withinM_iff key 1
  have hw2 := withinM_iff once 1
  by_cases hb : withinM key 1 = true ∧ withinM once 1 = true
  · have hk := hw1.1 hb.1
    have ho := hw2.1 hb.2
    have hP := powR_A 4 once (by omega) (by omega)
    have hKy := powR_A 4 key (by omega) (by omega)
    have hok : okI ((powM (Int.toNat 4) once.toNat : Int) :: (powM (Int.toNat 4) key.toNat : Int) :: m) := by
      intro n hn
      rcases List.mem_cons.1 hn with rfl | hn
      · exact powM_okI (by omega)
      · rcases List.mem_cons.1 hn with rfl | hn
        · exact powM_okI (by omega)
        · exact h n hn
    have hC := challengeR_A _ _ _ hok hn
    have hcr := chalM_range (powM (Int.toNat 4) once.toNat) (powM (Int.toNat 4) key.toNat) m
    have hmul := mulQ hcr (show 0 ≤ key ∧ key < 1073741789 by omega)
    have e : signM key once m = (⟨chalM (powM (Int.toNat 4) once.toNat) (powM (Int.toNat 4) key.toNat) m, (once + chalM (powM (Int.toNat 4) once.toNat) (powM (Int.toNat 4) key.toNat) m * key).tmod 1073741789⟩, 0) := by
      rw [signM, hb.1, hb.2]; rfl
    rw [e]
    generalize chalM (powM (Int.toNat 4) once.toNat) (powM (Int.toNat 4) key.toNat) m = c at *
    generalize (powM (Int.toNat 4) once.toNat : Int) = p1 at *
    generalize (powM (Int.toNat 4) key.toNat : Int) = p2 at *
    refine fnA_of tblOk Tryz.func62 rfl (by kernel_rfl) 32 Tryz.ntmps62 (by simp only [List.length_cons, List.length_nil]; omega) [.cell 6 29, .tmp 7] rfl ?_
    simp only [entrySt, argSl, Nat.zero_add, Nat.reduceAdd]
    repeat'
      first
        | first
          | (refine runS_nil (hK _ ?_); clear hK K)
          | refine stG ?_
          | (refine gateS 1 rfl ?_; refine runS_call rfl rfl ⟨_, evl, _, _, _, evl, oblF, ?_⟩; apply Exists.intro; refine ⟨fun hg => ?_, ?_⟩; · first | exact FnA.at_ (keyR_A key) rfl rfl | exact FnA.at_ (keyR_A once) rfl rfl | exact FnA.at_ (hP) rfl rfl | exact FnA.at_ (hKy) rfl rfl | exact FnA.at_ (hC) rfl rfl | exact FnA.at_s (keyR_A key) rfl simT | exact FnA.at_s (keyR_A key) rfl simF | exact FnA.at_s (keyR_A once) rfl simT | exact FnA.at_s (keyR_A once) rfl simF | exact FnA.at_s (hP) rfl simT | exact FnA.at_s (hP) rfl simF | exact FnA.at_s (hKy) rfl simT | exact FnA.at_s (hKy) rfl simF | exact FnA.at_s (hC) rfl simT | exact FnA.at_s (hC) rfl simF)
          | (refine gateA 1 rfl ?_; refine runA_call rfl ⟨_, evl, _, _, _, (fun _ _ => evlA), oblF, ?_⟩; apply Exists.intro; refine ⟨fun hg => ?_, ?_⟩; · first | exact FnA.at_ (keyR_A key) rfl rfl | exact FnA.at_ (keyR_A once) rfl rfl | exact FnA.at_ (hP) rfl rfl | exact FnA.at_ (hKy) rfl rfl | exact FnA.at_ (hC) rfl rfl | exact FnA.at_s (keyR_A key) rfl simT | exact FnA.at_s (keyR_A key) rfl simF | exact FnA.at_s (keyR_A once) rfl simT | exact FnA.at_s (keyR_A once) rfl simF | exact FnA.at_s (hP) rfl simT | exact FnA.at_s (hP) rfl simF | exact FnA.at_s (hKy) rfl simT | exact FnA.at_s (hKy) rfl simF | exact FnA.at_s (hC) rfl simT | exact FnA.at_s (hC) rfl simF)
          | (refine gateA 1 rfl ?_; refine runA_put ?_)
          | (refine gateBc ?_; first | (refine runB_nil (hK _ ?_); clear hK K) | (refine runB_op rfl ⟨_, evl, fun nb' => ?_⟩))
          | refine wpA_region (fun K hK => ?_)
          | (refine gateD ?_; first | (refine wpA_drawG false rfl (by kernel_rfl) (by kernel_rfl) (fun K hK => ?_)) | (refine wpA_drawG true rfl (by kernel_rfl) (by kernel_rfl) (fun K hK => ?_)))
          | (refine wpA_cond' ⟨_, evl, fun hb => ?_, fun hb => ?_⟩ <;> (try simp only [Bool.or_eq_true, Bool.and_eq_true, Bool.or_eq_false_iff, Bool.and_eq_false_iff, Bool.not_eq_true', Bool.not_eq_false', Bool.not_eq_true, Bool.not_eq_false, decide_eq_true_eq, decide_eq_false_iff_not, Bool.true_eq_false, Bool.false_eq_true, ne_eq, Classical.not_not, Int.not_lt, Int.not_le, Bool.not_true, Bool.not_false] at hb))
        | fail
    all_goals (try (refine ret_of (by simp) ⟨_, _, _, evl, ob0, OutOk.sims ?_ (by first | (simp [AV.free, AV.freeL, go_sem]; done) | exact lA_free (fun _ => by simp [AV.free, AV.freeL, u8C, iC]) _ | (simp_all [AV.free, AV.freeL, sA, u8C, iC]; done))⟩))
    all_goals first | exact Sims.refl _ | (refine Sims.of_eq ?_; first | rfl | (simp [Sig.av]; done) | (simp_all [Sig.av]; done) | (simp_all [Sig.av]; omega) | (simp [Sig.av]; grind) | (split <;> simp_all)) | exact simsF | (refine Sims.tup ?_; simp only [SimsL, and_true]; (repeat' apply And.intro) <;> first | exact simsF | skip) | (exfalso; first | omega | (simp_all; done) | (simp_all; omega)) | skip
  · have e : signM key once m = (⟨0, 0⟩, 1) := by
      rw [signM, if_neg (by simpa using hb)]
    rw [e]
    refine fnA_of tblOk Tryz.func62 rfl (by kernel_rfl) 32 Tryz.ntmps62 (by simp only [List.length_cons, List.length_nil]; omega) [.cell 6 29, .tmp 7] rfl ?_
    simp only [entrySt, argSl, Nat.zero_add, Nat.reduceAdd]
    repeat'
      first
        | first
          | (refine runS_nil (hK _ ?_); clear hK K)
          | refine stG ?_
          | (refine gateS 1 rfl ?_; refine runS_call rfl rfl ⟨_, evl, _, _, _, evl, oblF, ?_⟩; apply Exists.intro; refine ⟨fun hg => ?_, ?_⟩; · first | exact FnA.at_ (keyR_A key) rfl rfl | exact FnA.at_ (keyR_A once) rfl rfl | exact FnA.at_s (keyR_A key) rfl simT | exact FnA.at_s (keyR_A key) rfl simF | exact FnA.at_s (keyR_A once) rfl simT | exact FnA.at_s (keyR_A once) rfl simF)
          | (refine gateA 1 rfl ?_; refine runA_call rfl ⟨_, evl, _, _, _, (fun _ _ => evlA), oblF, ?_⟩; apply Exists.intro; refine ⟨fun hg => ?_, ?_⟩; · first | exact FnA.at_ (keyR_A key) rfl rfl | exact FnA.at_ (keyR_A once) rfl rfl | exact FnA.at_s (keyR_A key) rfl simT | exact FnA.at_s (keyR_A key) rfl simF | exact FnA.at_s (keyR_A once) rfl simT | exact FnA.at_s (keyR_A once) rfl simF)
          | (refine gateA 1 rfl ?_; refine runA_put ?_)
          | (refine gateBc ?_; first | (refine runB_nil (hK _ ?_); clear hK K) | (refine runB_op rfl ⟨_, evl, fun nb' => ?_⟩))
          | refine wpA_region (fun K hK => ?_)
          | (refine gateD ?_; first | (refine wpA_drawG false rfl (by kernel_rfl) (by kernel_rfl) (fun K hK => ?_)) | (refine wpA_drawG true rfl (by kernel_rfl) (by kernel_rfl) (fun K hK => ?_)))
          | (refine wpA_cond' ⟨_, evl, fun hb => ?_, fun hb => ?_⟩ <;> (try simp only [Bool.or_eq_true, Bool.and_eq_true, Bool.or_eq_false_iff, Bool.and_eq_false_iff, Bool.not_eq_true', Bool.not_eq_false', Bool.not_eq_true, Bool.not_eq_false, decide_eq_true_eq, decide_eq_false_iff_not, Bool.true_eq_false, Bool.false_eq_true, ne_eq, Classical.not_not, Int.not_lt, Int.not_le, Bool.not_true, Bool.not_false] at hb))
        | fail
    all_goals (try (refine ret_of (by simp) ⟨_, _, _, evl, ob0, OutOk.sims ?_ (by first | (simp [AV.free, AV.freeL, go_sem]; done) | exact lA_free (fun _ => by simp [AV.free, AV.freeL, u8C, iC]) _ | (simp_all [AV.free, AV.freeL, sA, u8C, iC]; done))⟩))
    all_goals first | exact Sims.refl _ | (refine Sims.of_eq ?_; first | rfl | (simp [Sig.av]; done) | (simp_all [Sig.av]; done) | (simp_all [Sig.av]; omega) | (simp [Sig.av]; grind) | (split <;> simp_all)) | exact simsF | (refine Sims.tup ?_; simp only [SimsL, and_true]; (repeat' apply And.intro) <;> first | exact simsF | skip) | (exfalso; first | omega | (simp_all; done) | (simp_all; omega)) | skip
theorem backR_A (pub : Int) (s : Sig) (hp : 0 ≤ pub ∧ pub < 2147483579) (h1 : 0 ≤ s.c ∧ s.c < 1073741789) (h2 : 0 ≤ s.s ∧ s.s < 1073741789) (hone : powM pub.toNat 1073741789 = 1) :
    FnA Tryz.prog 32 [.raw (.int .i64 pub), .agg s.av] (.raw (.int .i64 (backM pub s))) := by
  have e3 : (1073741789 - s.c).tmod 1073741789 = (1073741789 - s.c) % 1073741789 := Int.tmod_eq_emod_of_nonneg (by omega)
  have hr : 0 ≤ (1073741789 - s.c) % 1073741789 ∧ (1073741789 - s.c) % 1073741789 < 1073741789 := by omega
  have hP := powR_A 4 s.s (by omega) (by omega)
  have hKy := powR_A pub ((1073741789 - s.c).tmod 1073741789) (by omega) (by rw [e3]; omega)
  have e4 : powM pub.toNat ((1073741789 - s.c).tmod 1073741789).toNat = powM pub.toNat (1073741789 - s.c).toNat := by
    rw [e3]
    rcases Int.le_iff_lt_or_eq.1 h1.1 with h | h
    · rw [show (1073741789 - s.c) % 1073741789 = 1073741789 - s.c from by omega]
    · rw [← h]
      rw [show (((1073741789 : Int) - 0) % 1073741789).toNat = 0 from rfl, show ((1073741789 : Int) - 0).toNat = 1073741789 from rfl, hone, powM_eq _ _ (by omega), Nat.pow_zero]
  rw [e4] at hKy
  have r1 := powM_lt (Int.toNat 4) s.s.toNat (by omega)
  have r2 := powM_lt pub.toNat (1073741789 - s.c).toNat (by omega)
  have hmul := mulP2 (a := (powM (Int.toNat 4) s.s.toNat : Int)) (b := (powM pub.toNat (1073741789 - s.c).toNat : Int)) (by omega) (by omega)
  have hbk : ((powM (Int.toNat 4) s.s.toNat : Int) * (powM pub.toNat (1073741789 - s.c).toNat : Int)).tmod 2147483579 = backM pub s := by
    rw [← Int.natCast_mul]; rfl
  rw [← hbk]
  generalize (powM (Int.toNat 4) s.s.toNat : Int) = p1 at *
  generalize (powM pub.toNat (1073741789 - s.c).toNat : Int) = p2 at *
  refine fnA_of tblOk Tryz.func32 rfl (by kernel_rfl) 16 Tryz.ntmps32 (by simp only [List.length_cons, List.length_nil]; omega) [.tmp 4] rfl ?_
  simp only [entrySt, argSl, Nat.zero_add, Nat.reduceAdd]
  repeat'
    first
      | first
        | (refine runS_nil (hK _ ?_); clear hK K)
        | refine stG ?_
        | (refine gateS 1 rfl ?_; refine runS_call rfl rfl ⟨_, evl, _, _, _, evl, oblF, ?_⟩; apply Exists.intro; refine ⟨fun hg => ?_, ?_⟩; · first | exact FnA.at_ (hP) rfl rfl | exact FnA.at_ (hKy) rfl rfl | exact FnA.at_s (hP) rfl simT | exact FnA.at_s (hP) rfl simF | exact FnA.at_s (hKy) rfl simT | exact FnA.at_s (hKy) rfl simF)
        | (refine gateA 1 rfl ?_; refine runA_call rfl ⟨_, evl, _, _, _, (fun _ _ => evlA), oblF, ?_⟩; apply Exists.intro; refine ⟨fun hg => ?_, ?_⟩; · first | exact FnA.at_ (hP) rfl rfl | exact FnA.at_ (hKy) rfl rfl | exact FnA.at_s (hP) rfl simT | exact FnA.at_s (hP) rfl simF | exact FnA.at_s (hKy) rfl simT | exact FnA.at_s (hKy) rfl simF)
        | (refine gateA 1 rfl ?_; refine runA_put ?_)
        | (refine gateBc ?_; first | (refine runB_nil (hK _ ?_); clear hK K) | (refine runB_op rfl ⟨_, evl, fun nb' => ?_⟩))
        | refine wpA_region (fun K hK => ?_)
        | (refine gateD ?_; first | (refine wpA_drawG false rfl (by kernel_rfl) (by kernel_rfl) (fun K hK => ?_)) | (refine wpA_drawG true rfl (by kernel_rfl) (by kernel_rfl) (fun K hK => ?_)))
        | (refine wpA_cond' ⟨_, evl, fun hb => ?_, fun hb => ?_⟩ <;> (try simp only [Bool.or_eq_true, Bool.and_eq_true, Bool.or_eq_false_iff, Bool.and_eq_false_iff, Bool.not_eq_true', Bool.not_eq_false', Bool.not_eq_true, Bool.not_eq_false, decide_eq_true_eq, decide_eq_false_iff_not, Bool.true_eq_false, Bool.false_eq_true, ne_eq, Classical.not_not, Int.not_lt, Int.not_le, Bool.not_true, Bool.not_false] at hb))
      | fail
  all_goals (try (refine ret_of (by simp) ⟨_, _, _, evl, ob0, OutOk.sims ?_ (by first | (simp [AV.free, AV.freeL, go_sem]; done) | exact lA_free (fun _ => by simp [AV.free, AV.freeL, u8C, iC]) _ | (simp_all [AV.free, AV.freeL, sA, u8C, iC]; done))⟩))
  all_goals first | exact Sims.refl _ | (refine Sims.of_eq ?_; first | rfl | (simp []; done) | (simp_all []; done) | (simp_all []; omega) | (simp []; grind) | (split <;> simp_all)) | exact simsF | (refine Sims.tup ?_; simp only [SimsL, and_true]; (repeat' apply And.intro) <;> first | exact simsF | skip) | (exfalso; first | omega | (simp_all; done) | (simp_all; omega)) | skip
theorem verifyR_A (pub : Int) (s : Sig) (m : List Int) (h : okI m) (hp : inK .i64 pub) (hn : m.length ≤ 999998) : FnA Tryz.prog 136 [.raw (.int .i64 pub), .agg s.av, liA m] (.tup [.raw (.bool (verifyM pub s m).1), .raw (.int .i64 (verifyM pub s m).2)]) := by
  have hw1 := withinM_iff s.c 0
  have hw2 := withinM_iff s.s 0
  have hm := memberM_iff pub
  by_cases hb : memberM pub = true ∧ withinM s.c 0 = true ∧ withinM s.s 0 = true
  · have hk := hw1.1 hb.2.1
    have ho := hw2.1 hb.2.2
    have hmm := hm.1 hb.1
    have hB := backR_A pub s (by omega) hk ho hmm.2.2
    have hbr : 0 ≤ backM pub s ∧ backM pub s < 2147483579 := by unfold backM; omega
    have hok : okI (backM pub s :: pub :: m) := by
      intro n hn
      rcases List.mem_cons.1 hn with rfl | hn
      · simp only [inK]; omega
      · rcases List.mem_cons.1 hn with rfl | hn
        · exact hp
        · exact h n hn
    have hC := challengeR_A _ _ _ hok hn
    have e : verifyM pub s m = (decide (chalM (backM pub s) pub m = s.c), 0) := by
      rw [verifyM, hb.1, hb.2.1, hb.2.2]; rfl
    rw [e]
    have hcr := chalM_range (backM pub s) pub m
    generalize chalM _ pub m = c at *
    generalize backM pub s = bk at *
    refine fnA_of tblOk Tryz.func136 rfl (by kernel_rfl) 32 Tryz.ntmps136 (by simp only [List.length_cons, List.length_nil]; omega) [.tmp 6, .tmp 7] rfl ?_
    simp only [entrySt, argSl, Nat.zero_add, Nat.reduceAdd]
    repeat'
      first
        | first
          | (refine runS_nil (hK _ ?_); clear hK K)
          | refine stG ?_
          | (refine gateS 1 rfl ?_; refine runS_call rfl rfl ⟨_, evl, _, _, _, evl, oblF, ?_⟩; apply Exists.intro; refine ⟨fun hg => ?_, ?_⟩; · first | exact FnA.at_ (exponentR_A s.c) rfl rfl | exact FnA.at_ (exponentR_A s.s) rfl rfl | exact FnA.at_ (memberR_A pub) rfl rfl | exact FnA.at_ (hB) rfl rfl | exact FnA.at_ (hC) rfl rfl | exact FnA.at_s (exponentR_A s.c) rfl simT | exact FnA.at_s (exponentR_A s.c) rfl simF | exact FnA.at_s (exponentR_A s.s) rfl simT | exact FnA.at_s (exponentR_A s.s) rfl simF | exact FnA.at_s (memberR_A pub) rfl simT | exact FnA.at_s (memberR_A pub) rfl simF | exact FnA.at_s (hB) rfl simT | exact FnA.at_s (hB) rfl simF | exact FnA.at_s (hC) rfl simT | exact FnA.at_s (hC) rfl simF)
          | (refine gateA 1 rfl ?_; refine runA_call rfl ⟨_, evl, _, _, _, (fun _ _ => evlA), oblF, ?_⟩; apply Exists.intro; refine ⟨fun hg => ?_, ?_⟩; · first | exact FnA.at_ (exponentR_A s.c) rfl rfl | exact FnA.at_ (exponentR_A s.s) rfl rfl | exact FnA.at_ (memberR_A pub) rfl rfl | exact FnA.at_ (hB) rfl rfl | exact FnA.at_ (hC) rfl rfl | exact FnA.at_s (exponentR_A s.c) rfl simT | exact FnA.at_s (exponentR_A s.c) rfl simF | exact FnA.at_s (exponentR_A s.s) rfl simT | exact FnA.at_s (exponentR_A s.s) rfl simF | exact FnA.at_s (memberR_A pub) rfl simT | exact FnA.at_s (memberR_A pub) rfl simF | exact FnA.at_s (hB) rfl simT | exact FnA.at_s (hB) rfl simF | exact FnA.at_s (hC) rfl simT | exact FnA.at_s (hC) rfl simF)
          | (refine gateA 1 rfl ?_; refine runA_put ?_)
          | (refine gateBc ?_; first | (refine runB_nil (hK _ ?_); clear hK K) | (refine runB_op rfl ⟨_, evl, fun nb' => ?_⟩))
          | refine wpA_region (fun K hK => ?_)
          | (refine gateD ?_; first | (refine wpA_drawG false rfl (by kernel_rfl) (by kernel_rfl) (fun K hK => ?_)) | (refine wpA_drawG true rfl (by kernel_rfl) (by kernel_rfl) (fun K hK => ?_)))
          | (refine wpA_cond' ⟨_, evl, fun hb => ?_, fun hb => ?_⟩ <;> (try simp only [Bool.or_eq_true, Bool.and_eq_true, Bool.or_eq_false_iff, Bool.and_eq_false_iff, Bool.not_eq_true', Bool.not_eq_false', Bool.not_eq_true, Bool.not_eq_false, decide_eq_true_eq, decide_eq_false_iff_not, Bool.true_eq_false, Bool.false_eq_true, ne_eq, Classical.not_not, Int.not_lt, Int.not_le, Bool.not_true, Bool.not_false] at hb))
        | fail
    all_goals (try (refine ret_of (by simp) ⟨_, _, _, evl, ob0, OutOk.sims ?_ (by first | (simp [AV.free, AV.freeL, go_sem]; done) | exact lA_free (fun _ => by simp [AV.free, AV.freeL, u8C, iC]) _ | (simp_all [AV.free, AV.freeL, sA, u8C, iC]; done))⟩))
    all_goals first | exact Sims.refl _ | (refine Sims.of_eq ?_; first | rfl | (simp []; done) | (simp_all []; done) | (simp_all []; omega) | (simp []; grind) | (split <;> simp_all)) | exact simsF | (refine Sims.tup ?_; simp only [SimsL, and_true]; (repeat' apply And.intro) <;> first | exact simsF | skip) | (exfalso; first | omega | (simp_all; done) | (simp_all; omega)) | skip
  · have e : verifyM pub s m = (false, 1) := by
      rw [verifyM, if_neg (by simpa [and_assoc] using hb)]
    rw [e]
    refine fnA_of tblOk Tryz.func136 rfl (by kernel_rfl) 32 Tryz.ntmps136 (by simp only [List.length_cons, List.length_nil]; omega) [.tmp 6, .tmp 7] rfl ?_
    simp only [entrySt, argSl, Nat.zero_add, Nat.reduceAdd]
    repeat'
      first
        | first
          | (refine runS_nil (hK _ ?_); clear hK K)
          | refine stG ?_
          | (refine gateS 1 rfl ?_; refine runS_call rfl rfl ⟨_, evl, _, _, _, evl, oblF, ?_⟩; apply Exists.intro; refine ⟨fun hg => ?_, ?_⟩; · first | exact FnA.at_ (exponentR_A s.c) rfl rfl | exact FnA.at_ (exponentR_A s.s) rfl rfl | exact FnA.at_ (memberR_A pub) rfl rfl | exact FnA.at_s (exponentR_A s.c) rfl simT | exact FnA.at_s (exponentR_A s.c) rfl simF | exact FnA.at_s (exponentR_A s.s) rfl simT | exact FnA.at_s (exponentR_A s.s) rfl simF | exact FnA.at_s (memberR_A pub) rfl simT | exact FnA.at_s (memberR_A pub) rfl simF)
          | (refine gateA 1 rfl ?_; refine runA_call rfl ⟨_, evl, _, _, _, (fun _ _ => evlA), oblF, ?_⟩; apply Exists.intro; refine ⟨fun hg => ?_, ?_⟩; · first | exact FnA.at_ (exponentR_A s.c) rfl rfl | exact FnA.at_ (exponentR_A s.s) rfl rfl | exact FnA.at_ (memberR_A pub) rfl rfl | exact FnA.at_s (exponentR_A s.c) rfl simT | exact FnA.at_s (exponentR_A s.c) rfl simF | exact FnA.at_s (exponentR_A s.s) rfl simT | exact FnA.at_s (exponentR_A s.s) rfl simF | exact FnA.at_s (memberR_A pub) rfl simT | exact FnA.at_s (memberR_A pub) rfl simF)
          | (refine gateA 1 rfl ?_; refine runA_put ?_)
          | (refine gateBc ?_; first | (refine runB_nil (hK _ ?_); clear hK K) | (refine runB_op rfl ⟨_, evl, fun nb' => ?_⟩))
          | refine wpA_region (fun K hK => ?_)
          | (refine gateD ?_; first | (refine wpA_drawG false rfl (by kernel_rfl) (by kernel_rfl) (fun K hK => ?_)) | (refine wpA_drawG true rfl (by kernel_rfl) (by kernel_rfl) (fun K hK => ?_)))
          | (refine wpA_cond' ⟨_, evl, fun hb => ?_, fun hb => ?_⟩ <;> (try simp only [Bool.or_eq_true, Bool.and_eq_true, Bool.or_eq_false_iff, Bool.and_eq_false_iff, Bool.not_eq_true', Bool.not_eq_false', Bool.not_eq_true, Bool.not_eq_false, decide_eq_true_eq, decide_eq_false_iff_not, Bool.true_eq_false, Bool.false_eq_true, ne_eq, Classical.not_not, Int.not_lt, Int.not_le, Bool.not_true, Bool.not_false] at hb))
        | fail
    all_goals (try (refine ret_of (by simp) ⟨_, _, _, evl, ob0, OutOk.sims ?_ (by first | (simp [AV.free, AV.freeL, go_sem]; done) | exact lA_free (fun _ => by simp [AV.free, AV.freeL, u8C, iC]) _ | (simp_all [AV.free, AV.freeL, sA, u8C, iC]; done))⟩))
    all_goals first | exact Sims.refl _ | (refine Sims.of_eq ?_; first | rfl | (simp []; done) | (simp_all []; done) | (simp_all []; omega) | (simp []; grind) | (split <;> simp_all)) | exact simsF | (refine Sims.tup ?_; simp only [SimsL, and_true]; (repeat' apply And.intro) <;> first | exact simsF | skip) | (exfalso; first | omega | (simp_all; done) | (simp_all; omega)) | skip
theorem publicR_A (key : Int) (h : 0 ≤ key ∧ key < 9223372036854775808) : FnA Tryz.prog 29 [.raw (.int .i64 key)] (.raw (.int .i64 (powM 4 key.toNat))) := by
  refine fnA_of tblOk Tryz.func29 rfl (by kernel_rfl) 5 Tryz.ntmps29 (by simp only [List.length_cons, List.length_nil]; omega) [.tmp 2] rfl ?_
  simp only [entrySt, argSl, Nat.zero_add, Nat.reduceAdd]
  repeat'
    first
      | first
        | (refine runS_nil (hK _ ?_); clear hK K)
        | refine stG ?_
        | (refine gateS 1 rfl ?_; refine runS_call rfl rfl ⟨_, evl, _, _, _, evl, oblF, ?_⟩; apply Exists.intro; refine ⟨fun hg => ?_, ?_⟩; · first | exact FnA.at_ (powR_A 4 key (by omega) h) rfl rfl | exact FnA.at_s (powR_A 4 key (by omega) h) rfl simT | exact FnA.at_s (powR_A 4 key (by omega) h) rfl simF)
        | (refine gateA 1 rfl ?_; refine runA_call rfl ⟨_, evl, _, _, _, (fun _ _ => evlA), oblF, ?_⟩; apply Exists.intro; refine ⟨fun hg => ?_, ?_⟩; · first | exact FnA.at_ (powR_A 4 key (by omega) h) rfl rfl | exact FnA.at_s (powR_A 4 key (by omega) h) rfl simT | exact FnA.at_s (powR_A 4 key (by omega) h) rfl simF)
        | (refine gateA 1 rfl ?_; refine runA_put ?_)
        | (refine gateBc ?_; first | (refine runB_nil (hK _ ?_); clear hK K) | (refine runB_op rfl ⟨_, evl, fun nb' => ?_⟩))
        | refine wpA_region (fun K hK => ?_)
        | (refine gateD ?_; first | (refine wpA_drawG false rfl (by kernel_rfl) (by kernel_rfl) (fun K hK => ?_)) | (refine wpA_drawG true rfl (by kernel_rfl) (by kernel_rfl) (fun K hK => ?_)))
        | (refine wpA_cond' ⟨_, evl, fun hb => ?_, fun hb => ?_⟩ <;> (try simp only [Bool.or_eq_true, Bool.and_eq_true, Bool.or_eq_false_iff, Bool.and_eq_false_iff, Bool.not_eq_true', Bool.not_eq_false', Bool.not_eq_true, Bool.not_eq_false, decide_eq_true_eq, decide_eq_false_iff_not, Bool.true_eq_false, Bool.false_eq_true, ne_eq, Classical.not_not, Int.not_lt, Int.not_le, Bool.not_true, Bool.not_false] at hb))
      | fail
  all_goals (try (refine ret_of (by simp) ⟨_, _, _, evl, ob0, OutOk.sims ?_ (by first | (simp [AV.free, AV.freeL, go_sem]; done) | exact lA_free (fun _ => by simp [AV.free, AV.freeL, u8C, iC]) _ | (simp_all [AV.free, AV.freeL, sA, u8C, iC]; done))⟩))
  all_goals first | exact Sims.refl _ | (refine Sims.of_eq ?_; first | rfl | (simp []; done) | (simp_all []; done) | (simp_all []; omega) | (simp []; grind) | (split <;> simp_all)) | exact simsF | (refine Sims.tup ?_; simp only [SimsL, and_true]; (repeat' apply And.intro) <;> first | exact simsF | skip) | (exfalso; first | omega | (simp_all; done) | (simp_all; omega)) | skip
end Go.Proofs.YtihnjbnlbedpaaaGreatDoor
