/- The statement ReplyMessages, walked. -/
import Derived.Test.YtihnjbnlbedpaaaDoorOp23
namespace Go.Proofs.YtihnjbnlbedpaaaDoor
set_option linter.unusedVariables false
set_option linter.unusedSimpArgs false
set_option maxHeartbeats 4000000
set_option maxRecDepth 100000
open Go.RowKit
theorem msg_iff {r s : Reply} (hr : r.fits) (hs : s.fits) : msgR r = msgR s ↔ r = { s with sig := r.sig } := by
  constructor
  · intro h
    obtain ⟨a, b, c, n, ⟨lo, hi⟩, k, t, sg⟩ := r
    obtain ⟨a', b', c', n', ⟨lo', hi'⟩, k', t', sg'⟩ := s
    simp only [msgR, List.cons.injEq, and_true] at h
    obtain ⟨rfl, rfl, rfl, h4, h5, rfl, rfl, rfl, rfl⟩ := h
    have : n = n' := by omega
    subst this
    rfl
  · intro h
    rw [h]
    rfl
theorem replyMessages_A (r s : Reply) (hr : r.fits) (hs : s.fits) :
    FnA Tryd.prog 9 [.agg r.av, .agg s.av] (.raw (.bool true)) := by
  have hh := head23_A
  have a1 := reply11_A r
  have a2 := reply11_A s
  have m1 := rmessage_A r hr.2.2.2.1
  have m2 := rmessage_A s hs.2.2.2.1
  have n1 := sameN_A (msgR r) (msgR s) (by simp [msgR])
  have hq := msg_iff hr hs
  have e : decide (msgR r = msgR s) = (decide (r.auth = s.auth) && decide (r.host = s.host) && decide (r.round = s.round) && decide (r.nonce = s.nonce) && (decide (r.stamp.lo = s.stamp.lo) && decide (r.stamp.hi = s.stamp.hi)) && decide (r.key = s.key) && decide (r.table = s.table)) := by
    rw [Bool.eq_iff_iff, decide_eq_true_iff, hq]
    obtain ⟨a, b, c, n, ⟨lo, hi⟩, k, t, sg⟩ := r
    obtain ⟨a', b', c', n', ⟨lo', hi'⟩, k', t', sg'⟩ := s
    simp [and_assoc]
  rw [e] at n1
  have l1 : (msgR r).length = 9 := rfl
  have f1 : (liA (msgR r)).free := lA_free (fun _ => by simp [AV.free, AV.freeL, iC]) _
  have f2 : (liA (msgR s)).free := lA_free (fun _ => by simp [AV.free, AV.freeL, iC]) _
  clear e hq hr hs
  generalize msgR r = M at *
  generalize msgR s = N at *
  refine fnA_of tblOk Tryd.func9 rfl (by kernel_rfl) 42 Tryd.ntmps9 (by simp only [List.length_cons, List.length_nil]; omega) [.tmp 4] rfl ?_
  simp only [entrySt, argSl, Nat.zero_add, Nat.reduceAdd]
  repeat'
    first
      | first
        | (refine runS_nil (hK _ ?_); clear hK K)
        | refine stG ?_
        | (refine gateS 1 rfl ?_; refine runS_call rfl rfl ⟨_, evl, _, _, _, evl, oblF, ?_⟩; apply Exists.intro; refine ⟨fun hg => ?_, ?_⟩; · first | exact FnA.at_ (hh) rfl rfl | exact FnA.at_ (a1) rfl rfl | exact FnA.at_ (a2) rfl rfl | exact FnA.at_ (m1) rfl rfl | exact FnA.at_ (m2) rfl rfl | exact FnA.at_ (n1) rfl rfl | exact FnA.at_s (hh) rfl simT | exact FnA.at_s (hh) rfl simF | exact FnA.at_s (a1) rfl simT | exact FnA.at_s (a1) rfl simF | exact FnA.at_s (a2) rfl simT | exact FnA.at_s (a2) rfl simF | exact FnA.at_s (m1) rfl simT | exact FnA.at_s (m1) rfl simF | exact FnA.at_s (m2) rfl simT | exact FnA.at_s (m2) rfl simF | exact FnA.at_s (n1) rfl simT | exact FnA.at_s (n1) rfl simF)
        | (refine gateA 1 rfl ?_; refine runA_call rfl ⟨_, evl, _, _, _, (fun _ _ => evlA), oblF, ?_⟩; apply Exists.intro; refine ⟨fun hg => ?_, ?_⟩; · first | exact FnA.at_ (hh) rfl rfl | exact FnA.at_ (a1) rfl rfl | exact FnA.at_ (a2) rfl rfl | exact FnA.at_ (m1) rfl rfl | exact FnA.at_ (m2) rfl rfl | exact FnA.at_ (n1) rfl rfl | exact FnA.at_s (hh) rfl simT | exact FnA.at_s (hh) rfl simF | exact FnA.at_s (a1) rfl simT | exact FnA.at_s (a1) rfl simF | exact FnA.at_s (a2) rfl simT | exact FnA.at_s (a2) rfl simF | exact FnA.at_s (m1) rfl simT | exact FnA.at_s (m1) rfl simF | exact FnA.at_s (m2) rfl simT | exact FnA.at_s (m2) rfl simF | exact FnA.at_s (n1) rfl simT | exact FnA.at_s (n1) rfl simF)
        | (refine gateA 1 rfl ?_; refine runA_put ?_)
        | (refine gateBc ?_; first | (refine runB_nil (hK _ ?_); clear hK K) | (refine runB_op rfl ⟨_, evl, fun nb' => ?_⟩))
        | refine wpA_region (fun K hK => ?_)
        | (refine gateD ?_; first | (refine wpA_drawG false rfl (by kernel_rfl) (by kernel_rfl) (fun K hK => ?_)) | (refine wpA_drawG true rfl (by kernel_rfl) (by kernel_rfl) (fun K hK => ?_)))
        | (refine wpA_cond' ⟨_, evl, fun hb => ?_, fun hb => ?_⟩ <;> (try simp only [Bool.or_eq_true, Bool.and_eq_true, Bool.or_eq_false_iff, Bool.and_eq_false_iff, Bool.not_eq_true', Bool.not_eq_false', Bool.not_eq_true, Bool.not_eq_false, decide_eq_true_eq, decide_eq_false_iff_not, Bool.true_eq_false, Bool.false_eq_true, ne_eq, Classical.not_not, Int.not_lt, Int.not_le, Bool.not_true, Bool.not_false] at hb))
      | fail
  · refine ret_of (by simp) ⟨_, _, _, evl, ob0, OutOk.eq ?_ ?_⟩
    · rfl
    · simp [AV.free]
  · refine ret_of (by simp) ⟨_, _, _, evl, ob0, OutOk.eq ?_ ?_⟩
    · simp [l1, Bool.and_assoc]
    · simp [AV.free]
theorem replyMessages_B {x0 x1 : List AV} (k0 : CellsOk tbl 30 54 x0) (k1 : CellsOk tbl 30 54 x1) :
    FnA Tryd.prog 9 [valA true x0, valA true x1] (.raw (.bool true)) := by
  obtain ⟨c, rfl, hc⟩ := open_Reply k0
  obtain ⟨d, rfl, hd⟩ := open_Reply k1
  exact FnA.sim (replyMessages_A c d hc hd) ⟨Sim.of_eq rfl, Sim.of_eq rfl, trivial⟩
end Go.Proofs.YtihnjbnlbedpaaaDoor
