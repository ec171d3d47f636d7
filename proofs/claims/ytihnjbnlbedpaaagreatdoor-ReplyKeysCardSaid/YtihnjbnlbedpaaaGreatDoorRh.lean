/- chapter 23: the example of the chapter. -/
import Derived.Test.YtihnjbnlbedpaaaGreatDoorRt
import Derived.Test.YtihnjbnlbedpaaaGreatDoorKeyS
namespace Go.Proofs.YtihnjbnlbedpaaaGreatDoor
set_option linter.unusedVariables false
set_option linter.unusedSimpArgs false
set_option maxHeartbeats 4000000
set_option maxRecDepth 100000
open Go.RowKit
theorem sameN_A (a b : List Int) (hl : a.length ≤ 4611686018427387904) : FnA Tryz.prog 15 [liA a, liA b] (.raw (.bool (decide (a = b)))) := by
  refine fnA_of tblOk Tryz.func15 rfl (by kernel_rfl) 26 Tryz.ntmps15 (by simp only [List.length_cons, List.length_nil]; omega) [.tmp 4] rfl ?_
  simp only [entrySt, argSl, Nat.zero_add, Nat.reduceAdd]
  repeat'
    first
      | first
        | (refine runS_nil (hK _ ?_); clear hK K)
        | refine stG ?_
        | (refine gateA 1 rfl ?_; refine runA_put ?_)
        | (refine gateBc ?_; first | (refine runB_nil (hK _ ?_); clear hK K) | (refine runB_op rfl ⟨_, evl, fun nb' => ?_⟩))
        | refine wpA_region (fun K hK => ?_)
        | (refine gateD ?_; first | (refine wpA_drawG false rfl (by kernel_rfl) (by kernel_rfl) (fun K hK => ?_)) | (refine wpA_drawG true rfl (by kernel_rfl) (by kernel_rfl) (fun K hK => ?_)))
        | (refine wpA_cond' ⟨_, evl, fun hb => ?_, fun hb => ?_⟩ <;> (try simp only [Bool.or_eq_true, Bool.and_eq_true, Bool.or_eq_false_iff, Bool.and_eq_false_iff, Bool.not_eq_true', Bool.not_eq_false', Bool.not_eq_true, Bool.not_eq_false, decide_eq_true_eq, decide_eq_false_iff_not, Bool.true_eq_false, Bool.false_eq_true, ne_eq, Classical.not_not, Int.not_lt, Int.not_le, Bool.not_true, Bool.not_false] at hb))
      | fail
  · refine ret_of (by simp) ⟨_, _, _, evl, ob0, OutOk.eq ?_ (by simp [AV.free])⟩
    simp only [AV.raw.injEq, Value.bool.injEq]
    rw [eq_comm, decide_eq_false_iff_not]
    intro h
    have := congrArg List.length h
    omega
  refine wpA_loop (fun k : Nat => ⟨26, 0, [(0, true, liA a), (1, true, liA b), (5, true, .raw (.int .i64 k))], [], [], ((0, []), [], true)⟩)
    (fun k => k ≤ a.length ∧ ∀ i, i < k → a.getD i default = b.getD i default) (fun k => a.length - k) 0 ?_ ⟨by omega, fun i h => by omega⟩ ?_
  · refine Weak.gen ?_ ?_ ?_ (by simp) ?_
    rotate_left 3
    · first | (simp [subSl, subB, subR, AV.sub, AV.subL, go_sem]; done) | (simp [subSl, subB, subR, AV.sub, AV.subL, go_sem, AV.subL_free, AV.sub_free, *]; done) | (simp_all [subSl, subB, subR, AV.sub, AV.subL, go_sem]; done)
    all_goals (try simp only [SlSim, BxSim, RwSim, SimsL, lookN_cons, ↓reduceIte, Nat.reduceEqDiff, Option.some.injEq, Prod.mk.injEq, true_and, and_true, exists_eq_left', and_self])
    all_goals (try trivial)
    all_goals ((repeat' apply And.intro) <;> first | exact simsT | (intro _ _; exact simsT) | omega | (simp; done) | (simp; omega) | (intro _ _; refine SimsL.of_eq (els_snoc ?_ (by assumption) rfl) <;> first | rfl | omega | (simp; done) | (simp; omega)) | skip)
  · rintro k ⟨hk, hall⟩
    repeat'
      first
        | first
          | (refine runS_nil (hK _ ?_); clear hK K)
          | refine stG ?_
          | (refine gateA 1 rfl ?_; refine runA_put ?_)
          | (refine gateBc ?_; first | (refine runB_nil (hK _ ?_); clear hK K) | (refine runB_op rfl ⟨_, evl, fun nb' => ?_⟩))
          | refine wpA_region (fun K hK => ?_)
          | (refine gateD ?_; first | (refine wpA_drawG false rfl (by kernel_rfl) (by kernel_rfl) (fun K hK => ?_)) | (refine wpA_drawG true rfl (by kernel_rfl) (by kernel_rfl) (fun K hK => ?_)))
          | (refine wpA_cond' ⟨_, evl, fun hb => ?_, fun hb => ?_⟩ <;> (try simp only [Bool.or_eq_true, Bool.and_eq_true, Bool.or_eq_false_iff, Bool.and_eq_false_iff, Bool.not_eq_true', Bool.not_eq_false', Bool.not_eq_true, Bool.not_eq_false, decide_eq_true_eq, decide_eq_false_iff_not, Bool.true_eq_false, Bool.false_eq_true, ne_eq, Classical.not_not, Int.not_lt, Int.not_le, Bool.not_true, Bool.not_false] at hb))
        | fail
    · refine ret_of (by simp) ⟨_, _, _, evl, ob0, OutOk.eq ?_ (by simp [AV.free])⟩
      simp only [AV.raw.injEq, Value.bool.injEq]
      rw [eq_comm, decide_eq_false_iff_not]
      rintro rfl
      simp at hb
    · refine ⟨k + 1, ⟨by omega, fun i hi => ?_⟩, by omega, ?_⟩
      · rcases Nat.lt_succ_iff_lt_or_eq.1 hi with h | rfl
        · exact hall i h
        · simpa using hb
      · refine Weak.gen ?_ ?_ ?_ (by simp) ?_
        rotate_left 3
        · first | (simp [subSl, subB, subR, AV.sub, AV.subL, go_sem]; done) | (simp [subSl, subB, subR, AV.sub, AV.subL, go_sem, AV.subL_free, AV.sub_free, *]; done) | (simp_all [subSl, subB, subR, AV.sub, AV.subL, go_sem]; done)
        all_goals (try simp only [SlSim, BxSim, RwSim, SimsL, lookN_cons, ↓reduceIte, Nat.reduceEqDiff, Option.some.injEq, Prod.mk.injEq, true_and, and_true, exists_eq_left', and_self])
        all_goals (try trivial)
        all_goals ((repeat' apply And.intro) <;> first | exact simsT | (intro _ _; exact simsT) | omega | (simp; done) | (simp; omega) | (intro _ _; refine SimsL.of_eq (els_snoc ?_ (by assumption) rfl) <;> first | rfl | omega | (simp; done) | (simp; omega)) | skip)
    · refine ret_of (by simp) ⟨_, _, _, evl, ob0, OutOk.eq ?_ (by simp [AV.free])⟩
      simp only [AV.raw.injEq, Value.bool.injEq]
      rw [eq_comm, decide_eq_true_eq]
      exact same_step (by omega) fun i hi => hall i (by omega)
theorem sameV_A (a b : List Iv) (hl : a.length ≤ 4611686018427387904) : FnA Tryz.prog 26 [lA 2 Iv.av a, lA 2 Iv.av b] (.raw (.bool (decide (a = b)))) := by
  refine fnA_of tblOk Tryz.func26 rfl (by kernel_rfl) 26 Tryz.ntmps26 (by simp only [List.length_cons, List.length_nil]; omega) [.tmp 4] rfl ?_
  simp only [entrySt, argSl, Nat.zero_add, Nat.reduceAdd]
  repeat'
    first
      | first
        | (refine runS_nil (hK _ ?_); clear hK K)
        | refine stG ?_
        | (refine gateA 1 rfl ?_; refine runA_put ?_)
        | (refine gateBc ?_; first | (refine runB_nil (hK _ ?_); clear hK K) | (refine runB_op rfl ⟨_, evl, fun nb' => ?_⟩))
        | refine wpA_region (fun K hK => ?_)
        | (refine gateD ?_; first | (refine wpA_drawG false rfl (by kernel_rfl) (by kernel_rfl) (fun K hK => ?_)) | (refine wpA_drawG true rfl (by kernel_rfl) (by kernel_rfl) (fun K hK => ?_)))
        | (refine wpA_cond' ⟨_, evl, fun hb => ?_, fun hb => ?_⟩ <;> (try simp only [Bool.or_eq_true, Bool.and_eq_true, Bool.or_eq_false_iff, Bool.and_eq_false_iff, Bool.not_eq_true', Bool.not_eq_false', Bool.not_eq_true, Bool.not_eq_false, decide_eq_true_eq, decide_eq_false_iff_not, Bool.true_eq_false, Bool.false_eq_true, ne_eq, Classical.not_not, Int.not_lt, Int.not_le, Bool.not_true, Bool.not_false] at hb))
      | fail
  · refine ret_of (by simp) ⟨_, _, _, evl, ob0, OutOk.eq ?_ (by simp [AV.free])⟩
    simp only [AV.raw.injEq, Value.bool.injEq]
    rw [eq_comm, decide_eq_false_iff_not]
    intro h
    have := congrArg List.length h
    omega
  refine wpA_loop (fun k : Nat => ⟨26, 0, [(0, true, lA 2 Iv.av a), (1, true, lA 2 Iv.av b), (5, true, .raw (.int .i64 k))], [], [], ((0, []), [], true)⟩)
    (fun k => k ≤ a.length ∧ ∀ i, i < k → a.getD i default = b.getD i default) (fun k => a.length - k) 0 ?_ ⟨by omega, fun i h => by omega⟩ ?_
  · refine Weak.gen ?_ ?_ ?_ (by simp) ?_
    rotate_left 3
    · first | (simp [subSl, subB, subR, AV.sub, AV.subL, go_sem]; done) | (simp [subSl, subB, subR, AV.sub, AV.subL, go_sem, AV.subL_free, AV.sub_free, *]; done) | (simp_all [subSl, subB, subR, AV.sub, AV.subL, go_sem]; done)
    all_goals (try simp only [SlSim, BxSim, RwSim, SimsL, lookN_cons, ↓reduceIte, Nat.reduceEqDiff, Option.some.injEq, Prod.mk.injEq, true_and, and_true, exists_eq_left', and_self])
    all_goals (try trivial)
    all_goals ((repeat' apply And.intro) <;> first | exact simsT | (intro _ _; exact simsT) | omega | (simp; done) | (simp; omega) | (intro _ _; refine SimsL.of_eq (els_snoc ?_ (by assumption) rfl) <;> first | rfl | omega | (simp; done) | (simp; omega)) | skip)
  · rintro k ⟨hk, hall⟩
    repeat'
      first
        | first
          | (refine runS_nil (hK _ ?_); clear hK K)
          | refine stG ?_
          | (refine gateA 1 rfl ?_; refine runA_put ?_)
          | (refine gateBc ?_; first | (refine runB_nil (hK _ ?_); clear hK K) | (refine runB_op rfl ⟨_, evl, fun nb' => ?_⟩))
          | refine wpA_region (fun K hK => ?_)
          | (refine gateD ?_; first | (refine wpA_drawG false rfl (by kernel_rfl) (by kernel_rfl) (fun K hK => ?_)) | (refine wpA_drawG true rfl (by kernel_rfl) (by kernel_rfl) (fun K hK => ?_)))
          | (refine wpA_cond' ⟨_, evl, fun hb => ?_, fun hb => ?_⟩ <;> (try simp only [Bool.or_eq_true, Bool.and_eq_true, Bool.or_eq_false_iff, Bool.and_eq_false_iff, Bool.not_eq_true', Bool.not_eq_false', Bool.not_eq_true, Bool.not_eq_false, decide_eq_true_eq, decide_eq_false_iff_not, Bool.true_eq_false, Bool.false_eq_true, ne_eq, Classical.not_not, Int.not_lt, Int.not_le, Bool.not_true, Bool.not_false] at hb))
        | fail
    · refine ret_of (by simp) ⟨_, _, _, evl, ob0, OutOk.eq ?_ (by simp [AV.free])⟩
      simp only [AV.raw.injEq, Value.bool.injEq]
      rw [eq_comm, decide_eq_false_iff_not]
      rintro rfl
      simp at hb
    · refine ⟨k + 1, ⟨by omega, fun i hi => ?_⟩, by omega, ?_⟩
      · rcases Nat.lt_succ_iff_lt_or_eq.1 hi with h | rfl
        · exact hall i h
        · have e : ∀ x y : Iv, x.lo = y.lo → x.hi = y.hi → x = y := fun x y h1 h2 => by
            obtain ⟨_, _⟩ := x
            obtain ⟨_, _⟩ := y
            simp only at h1 h2
            rw [h1, h2]
          simp at hb
          exact e _ _ (by simp_all) (by simp_all)
      · refine Weak.gen ?_ ?_ ?_ (by simp) ?_
        rotate_left 3
        · first | (simp [subSl, subB, subR, AV.sub, AV.subL, go_sem]; done) | (simp [subSl, subB, subR, AV.sub, AV.subL, go_sem, AV.subL_free, AV.sub_free, *]; done) | (simp_all [subSl, subB, subR, AV.sub, AV.subL, go_sem]; done)
        all_goals (try simp only [SlSim, BxSim, RwSim, SimsL, lookN_cons, ↓reduceIte, Nat.reduceEqDiff, Option.some.injEq, Prod.mk.injEq, true_and, and_true, exists_eq_left', and_self])
        all_goals (try trivial)
        all_goals ((repeat' apply And.intro) <;> first | exact simsT | (intro _ _; exact simsT) | omega | (simp; done) | (simp; omega) | (intro _ _; refine SimsL.of_eq (els_snoc ?_ (by assumption) rfl) <;> first | rfl | omega | (simp; done) | (simp; omega)) | skip)
    · refine ret_of (by simp) ⟨_, _, _, evl, ob0, OutOk.eq ?_ (by simp [AV.free])⟩
      simp only [AV.raw.injEq, Value.bool.injEq]
      rw [eq_comm, decide_eq_true_eq]
      exact same_step (by omega) fun i hi => hall i (by omega)
abbrev rp0 : Reply := ⟨2, 1, 3, 4294967301, ⟨10, 70⟩, 1, 0, ⟨0, 0⟩⟩
abbrev rp1 : Reply := ⟨2, 1, 3, 4294967301, ⟨10, 70⟩, 1, 0, ⟨369519197, 773854203⟩⟩
abbrev ka : KeyWin := ⟨2, 1, 1024, 0, 100, ⟨0, 0⟩⟩
abbrev kb : KeyWin := ⟨2, 1, 1024, 0, 70, ⟨0, 0⟩⟩
abbrev wr : Wire := ⟨1, 2, [⟨0, 2, 4, 0, 0⟩]⟩
theorem rh1 : rsignM 5 7 rp0 = (rp1, 0) := by decide +kernel
theorem rh2 : (decide (ValidP [ka]) && decide (replyP rp1) && rightM [ka] rp1) = true := by decide +kernel
theorem rh3 : (decide (ValidP [kb]) && decide (replyP rp1) && rightM [kb] rp1) = false := by decide +kernel
theorem rh4 : ValidP [ka] ∧ replyP rp1 := by decide +kernel
theorem rh5 : ValidP [kb] ∧ replyP rp1 := by decide +kernel
theorem rh6 : sentS [ka] [wr] 1 [rp1] ⟨0, 90⟩ = ([⟨6, 68⟩], 0) := by decide +kernel
theorem rh7 : sentS [ka] [] 1 [rp1] ⟨0, 90⟩ = ([], 4) := by decide +kernel
theorem first23_A (a p f u : Int) : FnA Tryz.prog 30 [.raw (.int .i64 a), .raw (.int .i64 p), .raw (.int .i64 f), .raw (.int .i64 u)] (lA 7 KeyWin.av [⟨a, 1, p, f, u, ⟨0, 0⟩⟩]) := by
  refine fnA_of tblOk Tryz.func30 rfl (by kernel_rfl) 15 Tryz.ntmps30 (by simp only [List.length_cons, List.length_nil]; omega) [.tmp 8] rfl ?_
  simp only [entrySt, argSl, Nat.zero_add, Nat.reduceAdd]
  repeat'
    first
      | first
        | (refine runS_nil (hK _ ?_); clear hK K)
        | refine stG ?_
        | (refine gateA 1 rfl ?_; refine runA_put ?_)
        | (refine gateBc ?_; first | (refine runB_nil (hK _ ?_); clear hK K) | (refine runB_op rfl ⟨_, evl, fun nb' => ?_⟩))
        | refine wpA_region (fun K hK => ?_)
        | (refine gateD ?_; first | (refine wpA_drawG false rfl (by kernel_rfl) (by kernel_rfl) (fun K hK => ?_)) | (refine wpA_drawG true rfl (by kernel_rfl) (by kernel_rfl) (fun K hK => ?_)))
        | (refine wpA_cond' ⟨_, evl, fun hb => ?_, fun hb => ?_⟩ <;> (try simp only [Bool.or_eq_true, Bool.and_eq_true, Bool.or_eq_false_iff, Bool.and_eq_false_iff, Bool.not_eq_true', Bool.not_eq_false', Bool.not_eq_true, Bool.not_eq_false, decide_eq_true_eq, decide_eq_false_iff_not, Bool.true_eq_false, Bool.false_eq_true, ne_eq, Classical.not_not, Int.not_lt, Int.not_le, Bool.not_true, Bool.not_false] at hb))
      | fail
  refine ret_of (by simp) ⟨_, _, _, evl, ob0, OutOk.sims ?_ (by first | (simp [AV.free, AV.freeL, go_sem]; done) | exact lA_free (fun _ => by simp [AV.free, AV.freeL, u8C, iC]) _ | (simp_all [AV.free, AV.freeL, sA, u8C, iC]; done))⟩
  exact (Sim.lstE rfl fun i hi => chunk_lit (enc := KeyWin.av) (l := [⟨a, 1, p, f, u, ⟨0, 0⟩⟩]) (fun _ => rfl) rfl hi).s
theorem ka_fits : ∀ k ∈ [ka], k.fits := by
  intro k hk
  simp only [List.mem_cons, List.not_mem_nil, or_false] at hk
  subst hk
  simp [KeyWin.fits, Sig.fits, inK]
theorem kb_fits : ∀ k ∈ [kb], k.fits := by
  intro k hk
  simp only [List.mem_cons, List.not_mem_nil, or_false] at hk
  subst hk
  simp [KeyWin.fits, Sig.fits, inK]
theorem rp1_fits : rp1.fits := by simp [Reply.fits, Iv.fits, Sig.fits, inK]
theorem simW : Sim (.lst 3 1 (chunkA 3 [.raw (.int .i64 1), .raw (.int .i64 2), .lst 5 1 (chunkA 5 [.raw (.int .i64 0), .raw (.int .i64 2), .raw (.int .i64 4), .raw (.int .i64 0), .raw (.int .i64 0)])])) (lA 3 Wire.av [wr]) := by
  refine Sim.lst rfl fun i hi => ?_
  obtain rfl : i = 0 := by omega
  exact ⟨Sim.refl _, Sim.refl _, Sim.lstE rfl fun j hj => chunk_lit (enc := Change.av) (l := [⟨0, 2, 4, 0, 0⟩]) (fun _ => rfl) rfl hj, trivial⟩
theorem simRd : Sim (.agg [.lst 10 1 (chunkA 10 (Reply.av rp1))]) (.agg [lA 10 Reply.av [rp1]]) :=
  Sim.agg (show SimL [_] [_] from ⟨Sim.lstE rfl fun j hj => chunk_lit (enc := Reply.av) (l := [rp1]) (fun _ => rfl) rfl hj, trivial⟩)
theorem head23_A : FnA Tryz.prog 13 [] (.raw (.bool true)) := by
  have m1 := rmessage_A rp0 (by simp [inK])
  have s1 := rsign_A 5 7 rp0 (by simp [Reply.fits, Iv.fits, Sig.fits, inK])
  rw [rh1] at s1
  have f1 := first23_A 2 1024 0 100
  have f2 := first23_A 2 1024 0 70
  have r1 := rRight_A [ka] (by simp) ka_fits rp1 rp1_fits
  rw [rh2, if_pos rh4] at r1
  have r2 := rRight_A [kb] (by simp) kb_fits rp1 rp1_fits
  rw [rh3, if_pos rh5] at r2
  have h1 := honest_A ⟨2, 30, 0, 0⟩ rp1 rp1_fits 40
  rw [if_pos (by decide), show decide (honestP ⟨2, 30, 0, 0⟩ rp1 40) = true from by decide] at h1
  have h2 := honest_A ⟨2, 29, 0, 0⟩ rp1 rp1_fits 40
  rw [if_pos (by decide), show decide (honestP ⟨2, 29, 0, 0⟩ rp1 40) = false from by decide] at h2
  have x1 := sentR_A [ka] (by simp) ka_fits [wr] (by simp) (by simp) 1 [rp1] (by simp) (by intro r hr; simp only [List.mem_cons, List.not_mem_nil, or_false] at hr; subst hr; exact rp1_fits) ⟨0, 90⟩
  rw [rh6] at x1
  have x2 := sentR_A [ka] (by simp) ka_fits [] (by simp) (by simp) 1 [rp1] (by simp) (by intro r hr; simp only [List.mem_cons, List.not_mem_nil, or_false] at hr; subst hr; exact rp1_fits) ⟨0, 90⟩
  rw [rh7] at x2
  have n1 := sameN_A (msgR rp0) [2, 1, 3, 1, 5, 10, 70, 1, 0] (by simp [msgR])
  rw [show decide (msgR rp0 = [2, 1, 3, 1, 5, 10, 70, 1, 0]) = true from by decide] at n1
  have v1 := sameV_A [⟨6, 68⟩] [⟨6, 68⟩] (by simp)
  rw [decide_eq_true rfl] at v1
  have hw1 : ∀ i, AV.freeL (chunkA 3 [.raw (.int .i64 1), .raw (.int .i64 2), .lst 5 1 (chunkA 5 [.raw (.int .i64 0), .raw (.int .i64 2), .raw (.int .i64 4), .raw (.int .i64 0), .raw (.int .i64 0)])] i) := fun i => freeL_chunk ⟨trivial, trivial, fun j _ => freeL_chunk ⟨trivial, trivial, trivial, trivial, trivial, trivial⟩, trivial⟩
  refine fnA_of tblOk Tryz.func13 rfl (by kernel_rfl) 129 Tryz.ntmps13 (by simp only [List.length_cons, List.length_nil]; omega) [.tmp 0] rfl ?_
  simp only [entrySt, argSl, Nat.zero_add, Nat.reduceAdd]
  repeat'
    first
      | first
        | (refine runS_nil (hK _ ?_); clear hK K)
        | refine stG ?_
        | (refine gateS 1 rfl ?_; refine runS_call rfl rfl ⟨_, evl, _, _, _, evl, oblF, ?_⟩; apply Exists.intro; refine ⟨fun hg => ?_, ?_⟩; · first | exact FnA.at_ (m1) rfl rfl | exact FnA.at_ (s1) rfl rfl | exact FnA.at_ (f1) rfl rfl | exact FnA.at_ (f2) rfl rfl | exact FnA.at_ (r1) rfl rfl | exact FnA.at_ (r2) rfl rfl | exact FnA.at_ (h1) rfl rfl | exact FnA.at_ (h2) rfl rfl | exact FnA.sim x1 ⟨Sim.refl _, simW, Sim.refl _, simRd, Sim.refl _, trivial⟩ | exact FnA.sim x2 ⟨Sim.refl _, Sim.nil rfl, Sim.refl _, simRd, Sim.refl _, trivial⟩ | exact FnA.at_ (n1) rfl rfl | exact FnA.at_ (v1) rfl rfl | exact FnA.at_s (m1) rfl simT | exact FnA.at_s (m1) rfl simF | exact FnA.at_s (s1) rfl simT | exact FnA.at_s (s1) rfl simF | exact FnA.at_s (f1) rfl simT | exact FnA.at_s (f1) rfl simF | exact FnA.at_s (f2) rfl simT | exact FnA.at_s (f2) rfl simF | exact FnA.at_s (r1) rfl simT | exact FnA.at_s (r1) rfl simF | exact FnA.at_s (r2) rfl simT | exact FnA.at_s (r2) rfl simF | exact FnA.at_s (h1) rfl simT | exact FnA.at_s (h1) rfl simF | exact FnA.at_s (h2) rfl simT | exact FnA.at_s (h2) rfl simF | exact FnA.at_s (n1) rfl simT | exact FnA.at_s (n1) rfl simF | exact FnA.at_s (v1) rfl simT | exact FnA.at_s (v1) rfl simF)
        | (refine gateA 1 rfl ?_; refine runA_call rfl ⟨_, evl, _, _, _, (fun _ _ => evlA), oblF, ?_⟩; apply Exists.intro; refine ⟨fun hg => ?_, ?_⟩; · first | exact FnA.at_ (m1) rfl rfl | exact FnA.at_ (s1) rfl rfl | exact FnA.at_ (f1) rfl rfl | exact FnA.at_ (f2) rfl rfl | exact FnA.at_ (r1) rfl rfl | exact FnA.at_ (r2) rfl rfl | exact FnA.at_ (h1) rfl rfl | exact FnA.at_ (h2) rfl rfl | exact FnA.sim x1 ⟨Sim.refl _, simW, Sim.refl _, simRd, Sim.refl _, trivial⟩ | exact FnA.sim x2 ⟨Sim.refl _, Sim.nil rfl, Sim.refl _, simRd, Sim.refl _, trivial⟩ | exact FnA.at_ (n1) rfl rfl | exact FnA.at_ (v1) rfl rfl | exact FnA.at_s (m1) rfl simT | exact FnA.at_s (m1) rfl simF | exact FnA.at_s (s1) rfl simT | exact FnA.at_s (s1) rfl simF | exact FnA.at_s (f1) rfl simT | exact FnA.at_s (f1) rfl simF | exact FnA.at_s (f2) rfl simT | exact FnA.at_s (f2) rfl simF | exact FnA.at_s (r1) rfl simT | exact FnA.at_s (r1) rfl simF | exact FnA.at_s (r2) rfl simT | exact FnA.at_s (r2) rfl simF | exact FnA.at_s (h1) rfl simT | exact FnA.at_s (h1) rfl simF | exact FnA.at_s (h2) rfl simT | exact FnA.at_s (h2) rfl simF | exact FnA.at_s (n1) rfl simT | exact FnA.at_s (n1) rfl simF | exact FnA.at_s (v1) rfl simT | exact FnA.at_s (v1) rfl simF)
        | (refine gateA 1 rfl ?_; refine runA_put ?_)
        | (refine gateBc ?_; first | (refine runB_nil (hK _ ?_); clear hK K) | (refine runB_op rfl ⟨_, evl, fun nb' => ?_⟩))
        | refine wpA_region (fun K hK => ?_)
        | (refine gateD ?_; first | (refine wpA_drawG false rfl (by kernel_rfl) (by kernel_rfl) (fun K hK => ?_)) | (refine wpA_drawG true rfl (by kernel_rfl) (by kernel_rfl) (fun K hK => ?_)))
        | (refine wpA_cond' ⟨_, evl, fun hb => ?_, fun hb => ?_⟩ <;> (try simp only [Bool.or_eq_true, Bool.and_eq_true, Bool.or_eq_false_iff, Bool.and_eq_false_iff, Bool.not_eq_true', Bool.not_eq_false', Bool.not_eq_true, Bool.not_eq_false, decide_eq_true_eq, decide_eq_false_iff_not, Bool.true_eq_false, Bool.false_eq_true, ne_eq, Classical.not_not, Int.not_lt, Int.not_le, Bool.not_true, Bool.not_false] at hb))
      | fail
  refine ret_of (by simp) ⟨_, _, _, evl, ob0, OutOk.eq ?_ ?_⟩
  · rfl
  · simp [AV.free]
theorem in11_A (n lo hi : Int) : FnA Tryz.prog 78 [.raw (.int .i64 n), .raw (.int .i64 lo), .raw (.int .i64 hi)] (.raw (.bool (decide (lo ≤ n) && decide (n ≤ hi)))) := by
  refine fnA_of tblOk Tryz.func78 rfl (by kernel_rfl) 15 Tryz.ntmps78 (by simp only [List.length_cons, List.length_nil]; omega) [.tmp 6] rfl ?_
  simp only [entrySt, argSl, Nat.zero_add, Nat.reduceAdd]
  repeat'
    first
      | first
        | (refine runS_nil (hK _ ?_); clear hK K)
        | refine stG ?_
        | (refine gateA 1 rfl ?_; refine runA_put ?_)
        | (refine gateBc ?_; first | (refine runB_nil (hK _ ?_); clear hK K) | (refine runB_op rfl ⟨_, evl, fun nb' => ?_⟩))
        | refine wpA_region (fun K hK => ?_)
        | (refine gateD ?_; first | (refine wpA_drawG false rfl (by kernel_rfl) (by kernel_rfl) (fun K hK => ?_)) | (refine wpA_drawG true rfl (by kernel_rfl) (by kernel_rfl) (fun K hK => ?_)))
        | (refine wpA_cond' ⟨_, evl, fun hb => ?_, fun hb => ?_⟩ <;> (try simp only [Bool.or_eq_true, Bool.and_eq_true, Bool.or_eq_false_iff, Bool.and_eq_false_iff, Bool.not_eq_true', Bool.not_eq_false', Bool.not_eq_true, Bool.not_eq_false, decide_eq_true_eq, decide_eq_false_iff_not, Bool.true_eq_false, Bool.false_eq_true, ne_eq, Classical.not_not, Int.not_lt, Int.not_le, Bool.not_true, Bool.not_false] at hb))
      | fail
  all_goals (try (refine ret_of (by simp) ⟨_, _, _, evl, ob0, OutOk.sims ?_ (by first | (simp [AV.free, AV.freeL, go_sem]; done) | exact lA_free (fun _ => by simp [AV.free, AV.freeL, u8C, iC]) _ | (simp_all [AV.free, AV.freeL, sA, u8C, iC]; done))⟩))
  all_goals first | exact Sims.refl _ | (refine Sims.of_eq ?_; first | rfl | (simp []; done) | (simp_all []; done) | (simp_all []; omega) | (simp []; grind) | (split <;> simp_all)) | exact simsF | (refine Sims.tup ?_; simp only [SimsL, and_true]; (repeat' apply And.intro) <;> first | exact simsF | skip) | (exfalso; first | omega | (simp_all; done) | (simp_all; omega)) | skip
theorem request11_A (r : Request) : FnA Tryz.prog 77 [.agg r.av] (.raw (.bool (decide (reqP r.host r.auth r.round)))) := by
  refine fnA_of tblOk Tryz.func77 rfl (by kernel_rfl) 22 Tryz.ntmps77 (by simp only [List.length_cons, List.length_nil]; omega) [.tmp 2] rfl ?_
  simp only [entrySt, argSl, Nat.zero_add, Nat.reduceAdd]
  repeat'
    first
      | first
        | (refine runS_nil (hK _ ?_); clear hK K)
        | refine stG ?_
        | (refine gateS 1 rfl ?_; refine runS_call rfl rfl ⟨_, evl, _, _, _, evl, oblF, ?_⟩; apply Exists.intro; refine ⟨fun hg => ?_, ?_⟩; · first | exact FnA.at_ (in11_A _ _ _) rfl rfl | exact FnA.at_s (in11_A _ _ _) rfl simT | exact FnA.at_s (in11_A _ _ _) rfl simF)
        | (refine gateA 1 rfl ?_; refine runA_call rfl ⟨_, evl, _, _, _, (fun _ _ => evlA), oblF, ?_⟩; apply Exists.intro; refine ⟨fun hg => ?_, ?_⟩; · first | exact FnA.at_ (in11_A _ _ _) rfl rfl | exact FnA.at_s (in11_A _ _ _) rfl simT | exact FnA.at_s (in11_A _ _ _) rfl simF)
        | (refine gateA 1 rfl ?_; refine runA_put ?_)
        | (refine gateBc ?_; first | (refine runB_nil (hK _ ?_); clear hK K) | (refine runB_op rfl ⟨_, evl, fun nb' => ?_⟩))
        | refine wpA_region (fun K hK => ?_)
        | (refine gateD ?_; first | (refine wpA_drawG false rfl (by kernel_rfl) (by kernel_rfl) (fun K hK => ?_)) | (refine wpA_drawG true rfl (by kernel_rfl) (by kernel_rfl) (fun K hK => ?_)))
        | (refine wpA_cond' ⟨_, evl, fun hb => ?_, fun hb => ?_⟩ <;> (try simp only [Bool.or_eq_true, Bool.and_eq_true, Bool.or_eq_false_iff, Bool.and_eq_false_iff, Bool.not_eq_true', Bool.not_eq_false', Bool.not_eq_true, Bool.not_eq_false, decide_eq_true_eq, decide_eq_false_iff_not, Bool.true_eq_false, Bool.false_eq_true, ne_eq, Classical.not_not, Int.not_lt, Int.not_le, Bool.not_true, Bool.not_false] at hb))
      | fail
  all_goals (try (refine ret_of (by simp) ⟨_, _, _, evl, ob0, OutOk.sims ?_ (by first | (simp [AV.free, AV.freeL, go_sem]; done) | exact lA_free (fun _ => by simp [AV.free, AV.freeL, u8C, iC]) _ | (simp_all [AV.free, AV.freeL, sA, u8C, iC]; done))⟩))
  all_goals first | exact Sims.refl _ | (refine Sims.of_eq ?_; first | rfl | (simp [reqP]; done) | (simp_all [reqP]; done) | (simp_all [reqP]; omega) | (simp [reqP]; grind) | (split <;> simp_all)) | exact simsF | (refine Sims.tup ?_; simp only [SimsL, and_true]; (repeat' apply And.intro) <;> first | exact simsF | skip) | (exfalso; first | omega | (simp_all; done) | (simp_all; omega)) | skip
theorem reply11_A (r : Reply) : FnA Tryz.prog 27 [.agg r.av] (.raw (.bool (decide (replyP r)))) := by
  have hr := request11_A ⟨r.host, r.auth, r.round, 0⟩
  have hi := validIR_A r.stamp
  simp only at hr
  refine fnA_of tblOk Tryz.func27 rfl (by kernel_rfl) 50 Tryz.ntmps27 (by simp only [List.length_cons, List.length_nil]; omega) [.tmp 2] rfl ?_
  simp only [entrySt, argSl, Nat.zero_add, Nat.reduceAdd]
  repeat'
    first
      | first
        | (refine runS_nil (hK _ ?_); clear hK K)
        | refine stG ?_
        | (refine gateS 1 rfl ?_; refine runS_call rfl rfl ⟨_, evl, _, _, _, evl, oblF, ?_⟩; apply Exists.intro; refine ⟨fun hg => ?_, ?_⟩; · first | exact FnA.at_ (hr) rfl rfl | exact FnA.at_ (in11_A _ _ _) rfl rfl | exact FnA.at_ (hi) rfl rfl | exact FnA.at_s (hr) rfl simT | exact FnA.at_s (hr) rfl simF | exact FnA.at_s (in11_A _ _ _) rfl simT | exact FnA.at_s (in11_A _ _ _) rfl simF | exact FnA.at_s (hi) rfl simT | exact FnA.at_s (hi) rfl simF)
        | (refine gateA 1 rfl ?_; refine runA_call rfl ⟨_, evl, _, _, _, (fun _ _ => evlA), oblF, ?_⟩; apply Exists.intro; refine ⟨fun hg => ?_, ?_⟩; · first | exact FnA.at_ (hr) rfl rfl | exact FnA.at_ (in11_A _ _ _) rfl rfl | exact FnA.at_ (hi) rfl rfl | exact FnA.at_s (hr) rfl simT | exact FnA.at_s (hr) rfl simF | exact FnA.at_s (in11_A _ _ _) rfl simT | exact FnA.at_s (in11_A _ _ _) rfl simF | exact FnA.at_s (hi) rfl simT | exact FnA.at_s (hi) rfl simF)
        | (refine gateA 1 rfl ?_; refine runA_put ?_)
        | (refine gateBc ?_; first | (refine runB_nil (hK _ ?_); clear hK K) | (refine runB_op rfl ⟨_, evl, fun nb' => ?_⟩))
        | refine wpA_region (fun K hK => ?_)
        | (refine gateD ?_; first | (refine wpA_drawG false rfl (by kernel_rfl) (by kernel_rfl) (fun K hK => ?_)) | (refine wpA_drawG true rfl (by kernel_rfl) (by kernel_rfl) (fun K hK => ?_)))
        | (refine wpA_cond' ⟨_, evl, fun hb => ?_, fun hb => ?_⟩ <;> (try simp only [Bool.or_eq_true, Bool.and_eq_true, Bool.or_eq_false_iff, Bool.and_eq_false_iff, Bool.not_eq_true', Bool.not_eq_false', Bool.not_eq_true, Bool.not_eq_false, decide_eq_true_eq, decide_eq_false_iff_not, Bool.true_eq_false, Bool.false_eq_true, ne_eq, Classical.not_not, Int.not_lt, Int.not_le, Bool.not_true, Bool.not_false] at hb))
      | fail
  all_goals (try (refine ret_of (by simp) ⟨_, _, _, evl, ob0, OutOk.sims ?_ (by first | (simp [AV.free, AV.freeL, go_sem]; done) | exact lA_free (fun _ => by simp [AV.free, AV.freeL, u8C, iC]) _ | (simp_all [AV.free, AV.freeL, sA, u8C, iC]; done))⟩))
  all_goals first | exact Sims.refl _ | (refine Sims.of_eq ?_; first | rfl | (simp [replyP]; done) | (simp_all [replyP]; done) | (simp_all [replyP]; omega) | (simp [replyP]; grind) | (split <;> simp_all)) | exact simsF | (refine Sims.tup ?_; simp only [SimsL, and_true]; (repeat' apply And.intro) <;> first | exact simsF | skip) | (exfalso; first | omega | (simp_all; done) | (simp_all; omega)) | skip
end Go.Proofs.YtihnjbnlbedpaaaGreatDoor
