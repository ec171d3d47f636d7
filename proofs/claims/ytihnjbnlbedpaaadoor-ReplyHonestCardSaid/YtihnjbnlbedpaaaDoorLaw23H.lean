/- The statement ReplyHonest, walked. -/
import Derived.Test.YtihnjbnlbedpaaaDoorOp23
namespace Go.Proofs.YtihnjbnlbedpaaaDoor
set_option linter.unusedVariables false
set_option linter.unusedSimpArgs false
set_option maxHeartbeats 4000000
set_option maxRecDepth 100000
open Go.RowKit
theorem auth23_A (a : Auth) : FnA Tryd.prog 35 [.agg a.av] (.raw (.bool (decide (authP a)))) := by
  refine fnA_of tblOk Tryd.func35 rfl (by kernel_rfl) 21 Tryd.ntmps35 (by simp only [List.length_cons, List.length_nil]; omega) [.tmp 2] rfl ?_
  simp only [entrySt, argSl, Nat.zero_add, Nat.reduceAdd]
  repeat'
    first
      | first
        | (refine runS_nil (hK _ ?_); clear hK K)
        | refine stG ?_
        | (refine gateA 1 rfl ?_; refine runA_put ?_)
        | (refine gateBc ?_; first | (refine runB_nil (hK _ ?_); clear hK K) | (refine runB_op rfl ⟨_, evl, fun nb' => ?_⟩))
        | refine wpA_region (fun K hK => ?_)
        | (refine gateD ?_; first | (refine wpA_drawG false rfl (by kernel_rfl) (by kernel_rfl) (fun K hK => ?_)) | (refine wpA_drawG true rfl (by kernel_rfl) (by kernel_rfl) (fun K hK => ?_)))
        | (refine wpA_cond' ⟨_, evl, fun hb => ?_, fun hb => ?_⟩ <;> (try simp only [Bool.or_eq_true, Bool.and_eq_true, Bool.or_eq_false_iff, Bool.and_eq_false_iff, Bool.not_eq_true', Bool.not_eq_false', Bool.not_eq_true, Bool.not_eq_false, decide_eq_true_eq, decide_eq_false_iff_not, Bool.true_eq_false, Bool.false_eq_true, ne_eq, Classical.not_not, Int.not_lt, Int.not_le, Bool.not_true, Bool.not_false] at hb))
      | fail
  all_goals (try (refine ret_of (by simp) ⟨_, _, _, evl, ob0, OutOk.sims ?_ (by first | (simp [AV.free, AV.freeL, go_sem]; done) | exact lA_free (fun _ => by simp [AV.free, AV.freeL, u8C, iC]) _ | (simp_all [AV.free, AV.freeL, sA, u8C, iC]; done))⟩))
  all_goals first | exact Sims.refl _ | (refine Sims.of_eq ?_; first | rfl | (simp [authP]; done) | (simp_all [authP]; done) | (simp_all [authP]; omega) | (simp [authP]; grind) | (split <;> simp_all)) | exact simsF | (refine Sims.tup ?_; simp only [SimsL, and_true]; (repeat' apply And.intro) <;> first | exact simsF | skip) | (exfalso; first | omega | (simp_all; done) | (simp_all; omega)) | skip
theorem replyHonest_A (a : Auth) (r : Reply) (hr : r.fits) (at_ : Int) (lo hi : Int) (hlo : inK .u16 lo) (hhi : inK .u16 hi) :
    FnA Tryd.prog 10 [.agg a.av, .agg r.av, .raw (.int .i64 at_), .raw (.int .u16 lo), .raw (.int .u16 hi)] (.raw (.bool true)) := by
  have hh := head23_A
  have a1 := auth23_A a
  have a2 := reply11_A r
  have a3 := honest_A a r hr at_
  simp only [inK] at hlo hhi
  have e : decide (honestP a r at_) = (decide (r.auth = a.id) && decide (r.stamp.lo ≤ at_) && decide (at_ ≤ r.stamp.hi) && decide (r.stamp.hi - r.stamp.lo ≤ 2 * a.err)) := by
    rw [Bool.eq_iff_iff, decide_eq_true_iff]; simp [honestP, and_assoc]
  by_cases hc : authP a ∧ (0 ≤ at_ ∧ at_ ≤ 3000000000000000) ∧ replyP r
  · rw [if_pos hc] at a3
    rw [decide_eq_true hc.1] at a1
    rw [decide_eq_true hc.2.2] at a2
    have hs := hc.2.2.2.1
    obtain ⟨⟨ha1, ha2⟩, ha3, hrp⟩ := hc
    by_cases hon : honestP a r at_
    · -- narrower stamps
      have a4 := honest_A a { r with stamp := ⟨min at_ (r.stamp.lo + lo), max at_ (r.stamp.hi - hi)⟩ } ⟨hr.1, hr.2.1, hr.2.2.1, hr.2.2.2.1, ⟨by simp only [inK]; omega, by simp only [inK]; omega⟩, hr.2.2.2.2.2⟩ at_
      have hn : honestP a { r with stamp := ⟨min at_ (r.stamp.lo + lo), max at_ (r.stamp.hi - hi)⟩ } at_ := by
        obtain ⟨h1, h2, h3, h4⟩ := hon
        refine ⟨h1, ?_, ?_, ?_⟩ <;> simp only <;> omega
      have hp2 : replyP { r with stamp := ⟨min at_ (r.stamp.lo + lo), max at_ (r.stamp.hi - hi)⟩ } := by
        obtain ⟨h1, h2, h3, h4⟩ := hon
        refine ⟨hrp.1, ?_, hrp.2.2⟩
        simp only
        omega
      rw [if_pos ⟨⟨ha1, ha2⟩, ha3, hp2⟩, decide_eq_true hn] at a4
      rw [decide_eq_true hon] at a3 e
      obtain ⟨h1, h2, h3, h4⟩ := hon
      have h5 : at_ - r.stamp.lo ≤ 2 * a.err ∧ r.stamp.hi - at_ ≤ 2 * a.err := by omega
      clear hn hp2 hrp hr
      refine fnA_of tblOk Tryd.func10 rfl (by kernel_rfl) 141 Tryd.ntmps10 (by simp only [List.length_cons, List.length_nil]; omega) [.tmp 10] rfl ?_
      simp only [entrySt, argSl, Nat.zero_add, Nat.reduceAdd]
      repeat'
        first
          | first
            | (refine runS_nil (hK _ ?_); clear hK K)
            | refine stG ?_
            | (refine gateS 1 rfl ?_; refine runS_call rfl rfl ⟨_, evl, _, _, _, evl, oblF, ?_⟩; apply Exists.intro; refine ⟨fun hg => ?_, ?_⟩; · first | exact FnA.at_ (hh) rfl rfl | exact FnA.at_ (a1) rfl rfl | exact FnA.at_ (a2) rfl rfl | exact FnA.at_ (a3) rfl rfl | exact FnA.at_ (a4) rfl rfl | exact FnA.at_s (hh) rfl simT | exact FnA.at_s (hh) rfl simF | exact FnA.at_s (a1) rfl simT | exact FnA.at_s (a1) rfl simF | exact FnA.at_s (a2) rfl simT | exact FnA.at_s (a2) rfl simF | exact FnA.at_s (a3) rfl simT | exact FnA.at_s (a3) rfl simF | exact FnA.at_s (a4) rfl simT | exact FnA.at_s (a4) rfl simF)
            | (refine gateA 1 rfl ?_; refine runA_call rfl ⟨_, evl, _, _, _, (fun _ _ => evlA), oblF, ?_⟩; apply Exists.intro; refine ⟨fun hg => ?_, ?_⟩; · first | exact FnA.at_ (hh) rfl rfl | exact FnA.at_ (a1) rfl rfl | exact FnA.at_ (a2) rfl rfl | exact FnA.at_ (a3) rfl rfl | exact FnA.at_ (a4) rfl rfl | exact FnA.at_s (hh) rfl simT | exact FnA.at_s (hh) rfl simF | exact FnA.at_s (a1) rfl simT | exact FnA.at_s (a1) rfl simF | exact FnA.at_s (a2) rfl simT | exact FnA.at_s (a2) rfl simF | exact FnA.at_s (a3) rfl simT | exact FnA.at_s (a3) rfl simF | exact FnA.at_s (a4) rfl simT | exact FnA.at_s (a4) rfl simF)
            | (refine gateA 1 rfl ?_; refine runA_put ?_)
            | (refine gateBc ?_; first | (refine runB_nil (hK _ ?_); clear hK K) | (refine runB_op rfl ⟨_, evl, fun nb' => ?_⟩))
            | refine wpA_region (fun K hK => ?_)
            | (refine gateD ?_; first | (refine wpA_drawG false rfl (by kernel_rfl) (by kernel_rfl) (fun K hK => ?_)) | (refine wpA_drawG true rfl (by kernel_rfl) (by kernel_rfl) (fun K hK => ?_)))
            | (refine wpA_cond' ⟨_, evl, fun hb => ?_, fun hb => ?_⟩ <;> (try simp only [Bool.or_eq_true, Bool.and_eq_true, Bool.or_eq_false_iff, Bool.and_eq_false_iff, Bool.not_eq_true', Bool.not_eq_false', Bool.not_eq_true, Bool.not_eq_false, decide_eq_true_eq, decide_eq_false_iff_not, Bool.true_eq_false, Bool.false_eq_true, ne_eq, Classical.not_not, Int.not_lt, Int.not_le, Bool.not_true, Bool.not_false] at hb))
          | fail
      all_goals first
        | exact absurd e hb
        | (refine ret_of (by simp) ⟨_, _, _, evl, ob0, OutOk.eq ?_ (by simp [AV.free])⟩
           first | rfl | (simp [h5.1, h5.2]; done))
    · rw [decide_eq_false hon] at a3 e
      clear hon hrp hr
      refine fnA_of tblOk Tryd.func10 rfl (by kernel_rfl) 141 Tryd.ntmps10 (by simp only [List.length_cons, List.length_nil]; omega) [.tmp 10] rfl ?_
      simp only [entrySt, argSl, Nat.zero_add, Nat.reduceAdd]
      repeat'
        first
          | first
            | (refine runS_nil (hK _ ?_); clear hK K)
            | refine stG ?_
            | (refine gateS 1 rfl ?_; refine runS_call rfl rfl ⟨_, evl, _, _, _, evl, oblF, ?_⟩; apply Exists.intro; refine ⟨fun hg => ?_, ?_⟩; · first | exact FnA.at_ (hh) rfl rfl | exact FnA.at_ (a1) rfl rfl | exact FnA.at_ (a2) rfl rfl | exact FnA.at_ (a3) rfl rfl | exact FnA.at_s (hh) rfl simT | exact FnA.at_s (hh) rfl simF | exact FnA.at_s (a1) rfl simT | exact FnA.at_s (a1) rfl simF | exact FnA.at_s (a2) rfl simT | exact FnA.at_s (a2) rfl simF | exact FnA.at_s (a3) rfl simT | exact FnA.at_s (a3) rfl simF)
            | (refine gateA 1 rfl ?_; refine runA_call rfl ⟨_, evl, _, _, _, (fun _ _ => evlA), oblF, ?_⟩; apply Exists.intro; refine ⟨fun hg => ?_, ?_⟩; · first | exact FnA.at_ (hh) rfl rfl | exact FnA.at_ (a1) rfl rfl | exact FnA.at_ (a2) rfl rfl | exact FnA.at_ (a3) rfl rfl | exact FnA.at_s (hh) rfl simT | exact FnA.at_s (hh) rfl simF | exact FnA.at_s (a1) rfl simT | exact FnA.at_s (a1) rfl simF | exact FnA.at_s (a2) rfl simT | exact FnA.at_s (a2) rfl simF | exact FnA.at_s (a3) rfl simT | exact FnA.at_s (a3) rfl simF)
            | (refine gateA 1 rfl ?_; refine runA_put ?_)
            | (refine gateBc ?_; first | (refine runB_nil (hK _ ?_); clear hK K) | (refine runB_op rfl ⟨_, evl, fun nb' => ?_⟩))
            | refine wpA_region (fun K hK => ?_)
            | (refine gateD ?_; first | (refine wpA_drawG false rfl (by kernel_rfl) (by kernel_rfl) (fun K hK => ?_)) | (refine wpA_drawG true rfl (by kernel_rfl) (by kernel_rfl) (fun K hK => ?_)))
            | (refine wpA_cond' ⟨_, evl, fun hb => ?_, fun hb => ?_⟩ <;> (try simp only [Bool.or_eq_true, Bool.and_eq_true, Bool.or_eq_false_iff, Bool.and_eq_false_iff, Bool.not_eq_true', Bool.not_eq_false', Bool.not_eq_true, Bool.not_eq_false, decide_eq_true_eq, decide_eq_false_iff_not, Bool.true_eq_false, Bool.false_eq_true, ne_eq, Classical.not_not, Int.not_lt, Int.not_le, Bool.not_true, Bool.not_false] at hb))
          | fail
      all_goals first
        | exact absurd e hb
        | (refine ret_of (by simp) ⟨_, _, _, evl, ob0, OutOk.eq ?_ (by simp [AV.free])⟩
           first | rfl | (simp; done))
  · have hno : decide (authP a) = true → decide (replyP r) = true → 0 ≤ at_ → at_ ≤ 3000000000000000 → False := fun h1 h2 h3 h4 => hc ⟨of_decide_eq_true h1, ⟨h3, h4⟩, of_decide_eq_true h2⟩
    clear a3 e hr hc
    generalize decide (authP a) = c1 at *
    generalize decide (replyP r) = c2 at *
    refine fnA_of tblOk Tryd.func10 rfl (by kernel_rfl) 141 Tryd.ntmps10 (by simp only [List.length_cons, List.length_nil]; omega) [.tmp 10] rfl ?_
    simp only [entrySt, argSl, Nat.zero_add, Nat.reduceAdd]
    repeat
      first
        | (refine runS_nil (hK _ ?_); clear hK K)
        | refine stG ?_
        | (refine gateS 1 rfl ?_; refine runS_call rfl rfl ⟨_, evl, _, _, _, evl, oblF, ?_⟩; apply Exists.intro; refine ⟨fun hg => ?_, ?_⟩; · first | exact FnA.at_ (hh) rfl rfl | exact FnA.at_ (a1) rfl rfl | exact FnA.at_ (a2) rfl rfl | exact FnA.at_s (hh) rfl simT | exact FnA.at_s (hh) rfl simF | exact FnA.at_s (a1) rfl simT | exact FnA.at_s (a1) rfl simF | exact FnA.at_s (a2) rfl simT | exact FnA.at_s (a2) rfl simF)
        | (refine gateA 1 rfl ?_; refine runA_call rfl ⟨_, evl, _, _, _, (fun _ _ => evlA), oblF, ?_⟩; apply Exists.intro; refine ⟨fun hg => ?_, ?_⟩; · first | exact FnA.at_ (hh) rfl rfl | exact FnA.at_ (a1) rfl rfl | exact FnA.at_ (a2) rfl rfl | exact FnA.at_s (hh) rfl simT | exact FnA.at_s (hh) rfl simF | exact FnA.at_s (a1) rfl simT | exact FnA.at_s (a1) rfl simF | exact FnA.at_s (a2) rfl simT | exact FnA.at_s (a2) rfl simF)
        | (refine gateA 1 rfl ?_; refine runA_put ?_)
        | (refine gateBc ?_; first | (refine runB_nil (hK _ ?_); clear hK K) | (refine runB_op rfl ⟨_, evl, fun nb' => ?_⟩))
        | refine wpA_region (fun K hK => ?_)
        | (refine gateD ?_; first | (refine wpA_drawG false rfl (by kernel_rfl) (by kernel_rfl) (fun K hK => ?_)) | (refine wpA_drawG true rfl (by kernel_rfl) (by kernel_rfl) (fun K hK => ?_)))
    refine wpA_cond' ⟨_, evl, fun _ => ?_, fun hb => ?_⟩
    · repeat
        first
          | (refine runS_nil (hK _ ?_); clear hK K)
          | refine stG ?_
          | (refine gateA 1 rfl ?_; refine runA_put ?_)
          | (refine gateBc ?_; first | (refine runB_nil (hK _ ?_); clear hK K) | (refine runB_op rfl ⟨_, evl, fun nb' => ?_⟩))
          | refine wpA_region (fun K hK => ?_)
          | (refine gateD ?_; first | (refine wpA_drawG false rfl (by kernel_rfl) (by kernel_rfl) (fun K hK => ?_)) | (refine wpA_drawG true rfl (by kernel_rfl) (by kernel_rfl) (fun K hK => ?_)))
      refine ret_of (by simp) ⟨_, _, _, evl, ob0, OutOk.eq ?_ ?_⟩
      · rfl
      · simp [AV.free]
    · exfalso
      simp at hb
      exact hno hb.1.1.1 hb.1.1.2 hb.1.2 hb.2
theorem replyHonest_B {x0 x1 x2 x3 x4 : List AV} (k0 : CellsOk tbl 30 59 x0) (k1 : CellsOk tbl 30 54 x1) (k2 : CellsOk tbl 30 3 x2) (k3 : CellsOk tbl 30 60 x3) (k4 : CellsOk tbl 30 60 x4) :
    FnA Tryd.prog 10 [valA true x0, valA true x1, valA false x2, valA false x3, valA false x4] (.raw (.bool true)) := by
  obtain ⟨c, rfl, _⟩ := open_Auth k0
  obtain ⟨d, rfl, hd⟩ := open_Reply k1
  obtain ⟨t, rfl, _⟩ := open_int k2
  obtain ⟨lo, rfl, hlo⟩ := open_u16 k3
  obtain ⟨hi, rfl, hhi⟩ := open_u16 k4
  exact FnA.sim (replyHonest_A c d hd t lo hi hlo hhi) ⟨Sim.of_eq rfl, Sim.of_eq rfl, Sim.of_eq rfl, Sim.of_eq rfl, Sim.of_eq rfl, trivial⟩
end Go.Proofs.YtihnjbnlbedpaaaDoor
