/- The example of chapter 22. -/
import Derived.Test.YtihnjbnlbedpaaaDoorAnq
import Derived.Test.YtihnjbnlbedpaaaDoorKeyS
namespace Go.Proofs.YtihnjbnlbedpaaaDoor
set_option linter.unusedVariables false
set_option linter.unusedSimpArgs false
set_option maxHeartbeats 4000000
set_option maxRecDepth 100000
open Go.RowKit
abbrev kw1 : KeyWin := ⟨3, 1, 1024, 0, 100, ⟨0, 0⟩⟩
abbrev nx1 : KeyWin := ⟨3, 2, 4096, 90, 200, ⟨0, 0⟩⟩
abbrev nx2 : KeyWin := ⟨3, 2, 4096, 101, 200, ⟨0, 0⟩⟩
abbrev kw2 : KeyWin := ⟨3, 2, 4096, 90, 200, ⟨1065906496, 1034565333⟩⟩
theorem hd1 : annM [kw1] 5 9 nx1 = ([kw1, kw2], 0) := by decide +kernel
theorem hd2 : annM [kw1] 7 9 nx1 = ([], 31) := by decide +kernel
theorem hd3 : annM [kw1] 5 9 nx2 = ([], 30) := by decide +kernel
theorem hd4 : pubM [kw1, kw2] 3 2 ⟨90, 199⟩ = (4096, 0) := by decide +kernel
theorem hd5 : pubM [kw1, kw2] 3 2 ⟨89, 95⟩ = (0, 31) := by decide +kernel
theorem hd6 : pubM [kw1, kw2] 3 1 ⟨0, 99⟩ = (1024, 0) := by decide +kernel
theorem hd7 : pubM [kw1, kw2] 4 1 ⟨0, 0⟩ = (0, 4) := by decide +kernel
theorem hd8 : decide (ValidP [kw1, kw2]) = true := by decide +kernel
theorem first_A : FnA Tryd.prog 40 [] (lA 7 KeyWin.av [kw1]) := by
  refine fnA_of tblOk Tryd.func40 rfl (by kernel_rfl) 3 Tryd.ntmps40 (by simp only [List.length_cons, List.length_nil]; omega) [.tmp 0] rfl ?_
  simp only [entrySt, argSl, Nat.zero_add, Nat.reduceAdd]
  repeat'
    first
      | first
        | (refine runS_nil (hK _ ?_); clear hK K)
        | refine stG ?_
        | (refine gateA 1 rfl ?_; refine runA_put ?_)
        | (refine gateBc ?_; first | (refine runB_nil (hK _ ?_); clear hK K) | (refine runB_op rfl ⟨_, evl, fun nb' => ?_⟩))
        | refine wpA_region (fun K hK => ?_)
        | (refine gateD ?_; first | (refine wpA_drawG false rfl (by kernel_rfl) (by kernel_rfl) (fun K hK => ?_)) | (refine wpA_drawG true rfl (by kernel_rfl) (by kernel_rfl) (fun K hK => ?_)))
        | (refine wpA_cond' ⟨_, evl, fun hb => ?_, fun hb => ?_⟩ <;> (try simp only [Bool.or_eq_true, Bool.and_eq_true, Bool.or_eq_false_iff, Bool.and_eq_false_iff, Bool.not_eq_true', Bool.not_eq_false', Bool.not_eq_true, Bool.not_eq_false, decide_eq_true_eq, decide_eq_false_iff_not, Bool.true_eq_false, Bool.false_eq_true, ne_eq, Classical.not_not, Int.not_lt, Int.not_le, Bool.not_true, Bool.not_false] at hb))
      | fail
  refine ret_of (by simp) ⟨_, _, _, evl, ob0, OutOk.sims ?_ (by first | (simp [AV.free, AV.freeL, go_sem]; done) | exact lA_free (fun _ => by simp [AV.free, AV.freeL, u8C, iC]) _ | (simp_all [AV.free, AV.freeL, sA, u8C, iC]; done))⟩
  exact (Sim.lstE rfl fun i hi => chunk_lit (enc := KeyWin.av) (l := [kw1]) (fun _ => rfl) rfl hi).s
theorem kw_fits : ∀ k ∈ [kw1, kw2], k.fits := by
  intro k hk
  rcases List.mem_cons.1 hk with rfl | hk
  · simp [KeyWin.fits, Sig.fits, inK]
  · rcases List.mem_cons.1 hk with rfl | hk
    · simp [KeyWin.fits, Sig.fits, inK]
    · cases hk
theorem head_A : FnA Tryd.prog 12 [] (.raw (.bool true)) := by
  have f1 : ∀ k ∈ [kw1], k.fits := fun k hk => kw_fits k (by simp at hk; simp [hk])
  have a1 := announce_A [kw1] (by simp) f1 5 9 nx1 (by simp [KeyWin.fits, Sig.fits, inK])
  have a2 := announce_A [kw1] (by simp) f1 7 9 nx1 (by simp [KeyWin.fits, Sig.fits, inK])
  have a3 := announce_A [kw1] (by simp) f1 5 9 nx2 (by simp [KeyWin.fits, Sig.fits, inK])
  rw [hd1] at a1
  rw [hd2] at a2
  rw [hd3] at a3
  have p1 := pub_A [kw1, kw2] (by simp) kw_fits 3 2 ⟨90, 199⟩
  have p2 := pub_A [kw1, kw2] (by simp) kw_fits 3 2 ⟨89, 95⟩
  have p3 := pub_A [kw1, kw2] (by simp) kw_fits 3 1 ⟨0, 99⟩
  have p4 := pub_A [kw1, kw2] (by simp) kw_fits 4 1 ⟨0, 0⟩
  rw [hd4] at p1
  rw [hd5] at p2
  rw [hd6] at p3
  rw [hd7] at p4
  have v1 := valid_A [kw1, kw2] (by simp) kw_fits
  rw [hd8] at v1
  have hF := first_A
  have hm := message_A kw2
  have hs := sameI_A (msgM kw2) [3, 2, 4096, 90, 200] (by simp [msgM])
  rw [show decide (msgM kw2 = [3, 2, 4096, 90, 200]) = true from rfl] at hs
  refine fnA_of tblOk Tryd.func12 rfl (by kernel_rfl) 113 Tryd.ntmps12 (by simp only [List.length_cons, List.length_nil]; omega) [.tmp 0] rfl ?_
  simp only [entrySt, argSl, Nat.zero_add, Nat.reduceAdd]
  repeat'
    first
      | first
        | (refine runS_nil (hK _ ?_); clear hK K)
        | refine stG ?_
        | (refine gateS 1 rfl ?_; refine runS_call rfl rfl ⟨_, evl, _, _, _, evl, oblF, ?_⟩; apply Exists.intro; refine ⟨fun hg => ?_, ?_⟩; · first | exact FnA.at_ (hF) rfl rfl | exact FnA.at_ (a1) rfl rfl | exact FnA.at_ (a2) rfl rfl | exact FnA.at_ (a3) rfl rfl | exact FnA.at_ (p1) rfl rfl | exact FnA.at_ (p2) rfl rfl | exact FnA.at_ (p3) rfl rfl | exact FnA.at_ (p4) rfl rfl | exact FnA.at_ (v1) rfl rfl | exact FnA.at_ (hm) rfl rfl | exact FnA.at_ (hs) rfl rfl | exact FnA.at_s (hF) rfl simT | exact FnA.at_s (hF) rfl simF | exact FnA.at_s (a1) rfl simT | exact FnA.at_s (a1) rfl simF | exact FnA.at_s (a2) rfl simT | exact FnA.at_s (a2) rfl simF | exact FnA.at_s (a3) rfl simT | exact FnA.at_s (a3) rfl simF | exact FnA.at_s (p1) rfl simT | exact FnA.at_s (p1) rfl simF | exact FnA.at_s (p2) rfl simT | exact FnA.at_s (p2) rfl simF | exact FnA.at_s (p3) rfl simT | exact FnA.at_s (p3) rfl simF | exact FnA.at_s (p4) rfl simT | exact FnA.at_s (p4) rfl simF | exact FnA.at_s (v1) rfl simT | exact FnA.at_s (v1) rfl simF | exact FnA.at_s (hm) rfl simT | exact FnA.at_s (hm) rfl simF | exact FnA.at_s (hs) rfl simT | exact FnA.at_s (hs) rfl simF)
        | (refine gateA 1 rfl ?_; refine runA_call rfl ⟨_, evl, _, _, _, (fun _ _ => evlA), oblF, ?_⟩; apply Exists.intro; refine ⟨fun hg => ?_, ?_⟩; · first | exact FnA.at_ (hF) rfl rfl | exact FnA.at_ (a1) rfl rfl | exact FnA.at_ (a2) rfl rfl | exact FnA.at_ (a3) rfl rfl | exact FnA.at_ (p1) rfl rfl | exact FnA.at_ (p2) rfl rfl | exact FnA.at_ (p3) rfl rfl | exact FnA.at_ (p4) rfl rfl | exact FnA.at_ (v1) rfl rfl | exact FnA.at_ (hm) rfl rfl | exact FnA.at_ (hs) rfl rfl | exact FnA.at_s (hF) rfl simT | exact FnA.at_s (hF) rfl simF | exact FnA.at_s (a1) rfl simT | exact FnA.at_s (a1) rfl simF | exact FnA.at_s (a2) rfl simT | exact FnA.at_s (a2) rfl simF | exact FnA.at_s (a3) rfl simT | exact FnA.at_s (a3) rfl simF | exact FnA.at_s (p1) rfl simT | exact FnA.at_s (p1) rfl simF | exact FnA.at_s (p2) rfl simT | exact FnA.at_s (p2) rfl simF | exact FnA.at_s (p3) rfl simT | exact FnA.at_s (p3) rfl simF | exact FnA.at_s (p4) rfl simT | exact FnA.at_s (p4) rfl simF | exact FnA.at_s (v1) rfl simT | exact FnA.at_s (v1) rfl simF | exact FnA.at_s (hm) rfl simT | exact FnA.at_s (hm) rfl simF | exact FnA.at_s (hs) rfl simT | exact FnA.at_s (hs) rfl simF)
        | (refine gateA 1 rfl ?_; refine runA_put ?_)
        | (refine gateBc ?_; first | (refine runB_nil (hK _ ?_); clear hK K) | (refine runB_op rfl ⟨_, evl, fun nb' => ?_⟩))
        | refine wpA_region (fun K hK => ?_)
        | (refine gateD ?_; first | (refine wpA_drawG false rfl (by kernel_rfl) (by kernel_rfl) (fun K hK => ?_)) | (refine wpA_drawG true rfl (by kernel_rfl) (by kernel_rfl) (fun K hK => ?_)))
        | (refine wpA_cond' ⟨_, evl, fun hb => ?_, fun hb => ?_⟩ <;> (try simp only [Bool.or_eq_true, Bool.and_eq_true, Bool.or_eq_false_iff, Bool.and_eq_false_iff, Bool.not_eq_true', Bool.not_eq_false', Bool.not_eq_true, Bool.not_eq_false, decide_eq_true_eq, decide_eq_false_iff_not, Bool.true_eq_false, Bool.false_eq_true, ne_eq, Classical.not_not, Int.not_lt, Int.not_le, Bool.not_true, Bool.not_false] at hb))
      | fail
  all_goals (try (refine ret_of (by simp) ⟨_, _, _, evl, ob0, OutOk.sims ?_ (by first | (simp [AV.free, AV.freeL, go_sem]; done) | exact lA_free (fun _ => by simp [AV.free, AV.freeL, u8C, iC]) _ | (simp_all [AV.free, AV.freeL, sA, u8C, iC]; done))⟩))
  all_goals first | exact Sims.refl _ | (refine Sims.of_eq ?_; first | rfl | (simp []; done) | (simp_all []; done) | (simp_all []; omega) | (simp []; grind) | (split <;> simp_all)) | exact simsF | (refine Sims.tup ?_; simp only [SimsL, and_true]; (repeat' apply And.intro) <;> first | exact simsF | skip) | (exfalso; first | omega | (simp_all; done) | (simp_all; omega)) | skip
end Go.Proofs.YtihnjbnlbedpaaaDoor
