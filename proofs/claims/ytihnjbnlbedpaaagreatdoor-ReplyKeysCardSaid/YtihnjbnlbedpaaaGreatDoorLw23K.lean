/- The statement ReplyKeys, walked. -/
import Derived.Test.YtihnjbnlbedpaaaGreatDoorLaw23K
import Derived.Test.YtihnjbnlbedpaaaGreatDoorOp23L
namespace Go.Proofs.YtihnjbnlbedpaaaGreatDoor
set_option linter.unusedVariables false
set_option linter.unusedSimpArgs false
set_option maxHeartbeats 4000000
set_option maxRecDepth 100000
open Go.RowKit
theorem replyKeys_A (l : List KeyWin) (hf : ∀ k ∈ l, k.fits) (r : Reply) (hr : r.fits) :
    FnA Tryz.prog 5 [lA 7 KeyWin.av l, .agg r.av] (.raw (.bool true)) := by
  have hh := head23_A
  have h1 := validR_A l hf
  have h2 := reply11_A r
  have g1 : (lA 7 KeyWin.av l).free := lA_free (fun y => KeyWin.free y) _
  by_cases hc : l.length ≤ 20 ∧ ValidP l ∧ replyP r
  · obtain ⟨c1, c2, c3⟩ := hc
    have x1 := rRight_A l (by omega) hf r hr
    rw [decide_eq_true c2] at h1
    rw [decide_eq_true c3] at h2
    rw [if_pos ⟨c2, c3⟩, decide_eq_true c2, decide_eq_true c3, Bool.true_and, Bool.true_and] at x1
    have hq : rightM l r = true → anyK r l l.length = true := fun h => anyK_all (right_holds h)
    have hs := fun k (hk : k < l.length) => anyK_succ (r := r) hk
    have h0 : anyK r l 0 = false := by simp [anyK]
    clear c2 c3 hf hr
    generalize rightM l r = b at *
    generalize anyK r l = F at *
    refine fnA_of tblOk Tryz.func5 rfl (by kernel_rfl) 89 Tryz.ntmps5 (by simp only [List.length_cons, List.length_nil]; omega) [.tmp 4] rfl ?_
    simp only [entrySt, argSl, Nat.zero_add, Nat.reduceAdd]
    repeat
      first
        | (refine runS_nil (hK _ ?_); clear hK K)
        | refine stG ?_
        | (refine gateS 1 rfl ?_; refine runS_call rfl rfl ⟨_, evl, _, _, _, evl, oblF, ?_⟩; apply Exists.intro; refine ⟨fun hg => ?_, ?_⟩; · first | exact FnA.at_ (hh) rfl rfl | exact FnA.at_ (h1) rfl rfl | exact FnA.at_ (h2) rfl rfl | exact FnA.at_s (hh) rfl simT | exact FnA.at_s (hh) rfl simF | exact FnA.at_s (h1) rfl simT | exact FnA.at_s (h1) rfl simF | exact FnA.at_s (h2) rfl simT | exact FnA.at_s (h2) rfl simF)
        | (refine gateA 1 rfl ?_; refine runA_call rfl ⟨_, evl, _, _, _, (fun _ _ => evlA), oblF, ?_⟩; apply Exists.intro; refine ⟨fun hg => ?_, ?_⟩; · first | exact FnA.at_ (hh) rfl rfl | exact FnA.at_ (h1) rfl rfl | exact FnA.at_ (h2) rfl rfl | exact FnA.at_s (hh) rfl simT | exact FnA.at_s (hh) rfl simF | exact FnA.at_s (h1) rfl simT | exact FnA.at_s (h1) rfl simF | exact FnA.at_s (h2) rfl simT | exact FnA.at_s (h2) rfl simF)
        | (refine gateA 1 rfl ?_; refine runA_put ?_)
        | (refine gateBc ?_; first | (refine runB_nil (hK _ ?_); clear hK K) | (refine runB_op rfl ⟨_, evl, fun nb' => ?_⟩))
        | refine wpA_region (fun K hK => ?_)
        | (refine gateD ?_; first | (refine wpA_drawG false rfl (by kernel_rfl) (by kernel_rfl) (fun K hK => ?_)) | (refine wpA_drawG true rfl (by kernel_rfl) (by kernel_rfl) (fun K hK => ?_)))
    refine wpA_cond' ⟨_, evl, fun hb => absurd hb (by simp; omega), fun _ => ?_⟩
    repeat
      first
        | (refine runS_nil (hK _ ?_); clear hK K)
        | refine stG ?_
        | (refine gateS 1 rfl ?_; refine runS_call rfl rfl ⟨_, evl, _, _, _, evl, oblF, ?_⟩; apply Exists.intro; refine ⟨fun hg => ?_, ?_⟩; · first | exact FnA.at_ (x1) rfl rfl | exact FnA.at_s (x1) rfl simT | exact FnA.at_s (x1) rfl simF)
        | (refine gateA 1 rfl ?_; refine runA_call rfl ⟨_, evl, _, _, _, (fun _ _ => evlA), oblF, ?_⟩; apply Exists.intro; refine ⟨fun hg => ?_, ?_⟩; · first | exact FnA.at_ (x1) rfl rfl | exact FnA.at_s (x1) rfl simT | exact FnA.at_s (x1) rfl simF)
        | (refine gateA 1 rfl ?_; refine runA_put ?_)
        | (refine gateBc ?_; first | (refine runB_nil (hK _ ?_); clear hK K) | (refine runB_op rfl ⟨_, evl, fun nb' => ?_⟩))
        | refine wpA_region (fun K hK => ?_)
        | (refine gateD ?_; first | (refine wpA_drawG false rfl (by kernel_rfl) (by kernel_rfl) (fun K hK => ?_)) | (refine wpA_drawG true rfl (by kernel_rfl) (by kernel_rfl) (fun K hK => ?_)))
    refine wpA_loop (fun k : Nat => ⟨89, 0, [(0, true, lA 7 KeyWin.av l), (3, true, .box 0 0), (5, true, .raw (.bool true)), (6, true, .raw (.bool b)), (7, true, .raw (.int .i64 0)), (8, true, .raw (.bool (F k))), (9, true, .raw (.int .i64 k))], [r.av], [], ((0, []), [], true)⟩)
      (fun k => k ≤ l.length) (fun k => l.length - k) 0 ?_ (by omega) ?_
    · rw [h0]
      refine Weak.gen ?_ ?_ ?_ (by simp) ?_
      rotate_left 3
      · first | (simp [subSl, subB, subR, AV.sub, AV.subL, go_sem]; done) | (simp [subSl, subB, subR, AV.sub, AV.subL, go_sem, AV.subL_free, AV.sub_free, *]; done) | (simp_all [subSl, subB, subR, AV.sub, AV.subL, go_sem]; done)
      all_goals (try simp only [SlSim, BxSim, RwSim, SimsL, lookN_cons, ↓reduceIte, Nat.reduceEqDiff, Option.some.injEq, Prod.mk.injEq, true_and, and_true, exists_eq_left', and_self])
      all_goals (try trivial)
      all_goals ((repeat' apply And.intro) <;> first | exact simsT | (intro _ _; exact simsT) | omega | (simp; done) | (simp; omega) | (intro _ _; refine SimsL.of_eq (els_snoc ?_ (by assumption) rfl) <;> first | rfl | omega | (simp; done) | (simp; omega)) | skip)
    · intro k hk
      repeat'
        first
          | first
            | (refine runS_nil (hK _ ?_); clear hK K)
            | refine stG ?_
            | (refine gateA 1 rfl ?_; refine runA_put ?_)
            | (refine gateBc ?_; first | (refine runB_nil (hK _ ?_); clear hK K) | (refine runB_op rfl ⟨_, evl, fun nb' => ?_⟩))
            | refine wpA_region (fun K hK => ?_)
            | (refine gateD ?_; first | (refine wpA_drawG false rfl (by kernel_rfl) (by kernel_rfl) (fun K hK => ?_)) | (refine wpA_drawG true rfl (by kernel_rfl) (by kernel_rfl) (fun K hK => ?_)))
            | (refine wpA_cond' ⟨_, evl, fun hb => ?_, fun hb => ?_⟩ <;> (try simp only [Bool.or_eq_true, Bool.and_eq_true, Bool.or_eq_false_iff, Bool.and_eq_false_iff, Bool.not_eq_true', Bool.not_eq_false', Bool.not_eq_true, Bool.not_eq_false, decide_eq_true_eq, decide_eq_false_iff_not, Bool.true_eq_false, Bool.false_eq_true, ne_eq, Classical.not_not, Int.not_lt, Int.not_le, Bool.not_true, Bool.not_false] at hb))
          | fail
      · refine ⟨k + 1, by omega, by omega, ?_⟩
        have e := hs k (by omega)
        rw [decide_eq_true (show holdsK r (l.getD k default) from ⟨hb.1.1.1, hb.1.1.2, hb.1.2, hb.2⟩), Bool.or_true] at e
        rw [e]
        refine Weak.gen ?_ ?_ ?_ (by simp) ?_
        rotate_left 3
        · first | (simp [subSl, subB, subR, AV.sub, AV.subL, go_sem]; done) | (simp [subSl, subB, subR, AV.sub, AV.subL, go_sem, AV.subL_free, AV.sub_free, *]; done) | (simp_all [subSl, subB, subR, AV.sub, AV.subL, go_sem]; done)
        all_goals (try simp only [SlSim, BxSim, RwSim, SimsL, lookN_cons, ↓reduceIte, Nat.reduceEqDiff, Option.some.injEq, Prod.mk.injEq, true_and, and_true, exists_eq_left', and_self])
        all_goals (try trivial)
        all_goals ((repeat' apply And.intro) <;> first | exact simsT | (intro _ _; exact simsT) | omega | (simp; done) | (simp; omega) | (intro _ _; refine SimsL.of_eq (els_snoc ?_ (by assumption) rfl) <;> first | rfl | omega | (simp; done) | (simp; omega)) | skip)
      · refine ⟨k + 1, by omega, by omega, ?_⟩
        have e := hs k (by omega)
        rw [decide_eq_false (fun h : holdsK r (l.getD k default) => by obtain ⟨h1, h2, h3, h4⟩ := h; omega), Bool.or_false] at e
        rw [e]
        refine Weak.gen ?_ ?_ ?_ (by simp) ?_
        rotate_left 3
        · first | (simp [subSl, subB, subR, AV.sub, AV.subL, go_sem]; done) | (simp [subSl, subB, subR, AV.sub, AV.subL, go_sem, AV.subL_free, AV.sub_free, *]; done) | (simp_all [subSl, subB, subR, AV.sub, AV.subL, go_sem]; done)
        all_goals (try simp only [SlSim, BxSim, RwSim, SimsL, lookN_cons, ↓reduceIte, Nat.reduceEqDiff, Option.some.injEq, Prod.mk.injEq, true_and, and_true, exists_eq_left', and_self])
        all_goals (try trivial)
        all_goals ((repeat' apply And.intro) <;> first | exact simsT | (intro _ _; exact simsT) | omega | (simp; done) | (simp; omega) | (intro _ _; refine SimsL.of_eq (els_snoc ?_ (by assumption) rfl) <;> first | rfl | omega | (simp; done) | (simp; omega)) | skip)
      · obtain rfl : k = l.length := by omega
        refine ret_of (by simp) ⟨_, _, _, evl, ob0, OutOk.eq ?_ ?_⟩
        · cases b with
          | false => simp
          | true => rw [hq rfl]; simp
        · simp [AV.free]
  · have hno : l.length ≤ 20 → decide (ValidP l) = true → decide (replyP r) = true → False := fun h1 h2 h3 => hc ⟨h1, of_decide_eq_true h2, of_decide_eq_true h3⟩
    clear hc hf hr
    generalize decide (ValidP l) = c1 at *
    generalize decide (replyP r) = c2 at *
    refine fnA_of tblOk Tryz.func5 rfl (by kernel_rfl) 89 Tryz.ntmps5 (by simp only [List.length_cons, List.length_nil]; omega) [.tmp 4] rfl ?_
    simp only [entrySt, argSl, Nat.zero_add, Nat.reduceAdd]
    repeat
      first
        | (refine runS_nil (hK _ ?_); clear hK K)
        | refine stG ?_
        | (refine gateS 1 rfl ?_; refine runS_call rfl rfl ⟨_, evl, _, _, _, evl, oblF, ?_⟩; apply Exists.intro; refine ⟨fun hg => ?_, ?_⟩; · first | exact FnA.at_ (hh) rfl rfl | exact FnA.at_ (h1) rfl rfl | exact FnA.at_ (h2) rfl rfl | exact FnA.at_s (hh) rfl simT | exact FnA.at_s (hh) rfl simF | exact FnA.at_s (h1) rfl simT | exact FnA.at_s (h1) rfl simF | exact FnA.at_s (h2) rfl simT | exact FnA.at_s (h2) rfl simF)
        | (refine gateA 1 rfl ?_; refine runA_call rfl ⟨_, evl, _, _, _, (fun _ _ => evlA), oblF, ?_⟩; apply Exists.intro; refine ⟨fun hg => ?_, ?_⟩; · first | exact FnA.at_ (hh) rfl rfl | exact FnA.at_ (h1) rfl rfl | exact FnA.at_ (h2) rfl rfl | exact FnA.at_s (hh) rfl simT | exact FnA.at_s (hh) rfl simF | exact FnA.at_s (h1) rfl simT | exact FnA.at_s (h1) rfl simF | exact FnA.at_s (h2) rfl simT | exact FnA.at_s (h2) rfl simF)
        | (refine gateA 1 rfl ?_; refine runA_put ?_)
        | (refine gateBc ?_; first | (refine runB_nil (hK _ ?_); clear hK K) | (refine runB_op rfl ⟨_, evl, fun nb' => ?_⟩))
        | refine wpA_region (fun K hK => ?_)
        | (refine gateD ?_; first | (refine wpA_drawG false rfl (by kernel_rfl) (by kernel_rfl) (fun K hK => ?_)) | (refine wpA_drawG true rfl (by kernel_rfl) (by kernel_rfl) (fun K hK => ?_)))
    refine wpA_cond' ⟨_, evl, fun _ => ?_, fun hb => ?_⟩
    · repeat
        first
          | (refine runS_nil (hK _ ?_); clear hK K)
          | refine stG ?_
          | (refine gateA 1 rfl ?_; refine runA_put ?_)
          | (refine gateBc ?_; first | (refine runB_nil (hK _ ?_); clear hK K) | (refine runB_op rfl ⟨_, evl, fun nb' => ?_⟩))
          | refine wpA_region (fun K hK => ?_)
          | (refine gateD ?_; first | (refine wpA_drawG false rfl (by kernel_rfl) (by kernel_rfl) (fun K hK => ?_)) | (refine wpA_drawG true rfl (by kernel_rfl) (by kernel_rfl) (fun K hK => ?_)))
      refine ret_of (by simp) ⟨_, _, _, evl, ob0, OutOk.eq ?_ ?_⟩
      · rfl
      · simp [AV.free]
    · exfalso
      simp at hb
      exact hno (by omega) hb.1.2 hb.2
theorem replyKeys_B {x0 x1 : List AV} (k0 : CellsOk tbl 30 22 x0) (k1 : CellsOk tbl 30 31 x1) :
    FnA Tryz.prog 5 [valA false x0, valA true x1] (.raw (.bool true)) := by
  obtain ⟨l, h0, hf, _⟩ := open_KeyWins k0
  obtain ⟨r, rfl, hr⟩ := open_Reply k1
  exact FnA.sim (replyKeys_A l hf r hr) ⟨h0, Sim.of_eq rfl, trivial⟩
end Go.Proofs.YtihnjbnlbedpaaaGreatDoor
