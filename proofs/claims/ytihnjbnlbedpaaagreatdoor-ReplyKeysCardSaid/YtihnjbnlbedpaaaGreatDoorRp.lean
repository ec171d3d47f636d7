/- package reply: Sign, right, Right, Honest. -/
import Derived.Test.YtihnjbnlbedpaaaGreatDoorPk
import Derived.Test.YtihnjbnlbedpaaaGreatDoorKeyD
namespace Go.Proofs.YtihnjbnlbedpaaaGreatDoor
set_option linter.unusedVariables false
set_option linter.unusedSimpArgs false
set_option maxHeartbeats 4000000
set_option maxRecDepth 100000
open Go.RowKit
structure Auth where
  id : Int
  err : Int
  cost : Int
  key : Int
  deriving Inhabited, DecidableEq
@[go_sem] def Auth.av (x : Auth) : List AV := [.raw (.int .i64 x.id), .raw (.int .i64 x.err), .raw (.int .i64 x.cost), .raw (.int .i64 x.key)]
def Auth.fits (x : Auth) : Prop := (inK .i64 x.id) ∧ (inK .i64 x.err) ∧ (inK .i64 x.cost) ∧ (inK .i64 x.key)
@[simp] theorem Auth.free (x : Auth) : AV.freeL x.av := ⟨trivial, trivial, trivial, trivial, trivial⟩
abbrev zeroR : Reply := ⟨0, 0, 0, 0, ⟨0, 0⟩, 0, 0, ⟨0, 0⟩⟩
abbrev bare (r : Reply) : Reply := { r with sig := ⟨0, 0⟩ }
theorem okI_msgR {r : Reply} (h : r.fits) : okI (msgR r) := by
  obtain ⟨h1, h2, h3, h4, h5, h6, h7, h8⟩ := h
  intro n hn
  simp only [msgR, List.mem_cons, List.not_mem_nil, or_false] at hn
  simp only [inK] at h4
  rcases hn with rfl | rfl | rfl | rfl | rfl | rfl | rfl | rfl | rfl
  · exact h1
  · exact h2
  · exact h3
  · simp only [inK]; omega
  · simp only [inK]; omega
  · exact h5.1
  · exact h5.2
  · exact h6
  · exact h7
def rsignM (key once : Int) (r : Reply) : Reply × Int := if replyP (bare r) then (if (signM key once (msgR r)).2 = 0 then ({ r with sig := (signM key once (msgR r)).1 }, 0) else (zeroR, (signM key once (msgR r)).2)) else (zeroR, 1)
theorem rsign_A (key once : Int) (r : Reply) (hf : r.fits) : FnA Tryz.prog 18 [.raw (.int .i64 key), .raw (.int .i64 once), .agg r.av] (.tup [.agg (rsignM key once r).1.av, .raw (.int .i64 (rsignM key once r).2)]) := by
  have hb : (bare r).fits := ⟨hf.1, hf.2.1, hf.2.2.1, hf.2.2.2.1, hf.2.2.2.2.1, hf.2.2.2.2.2.1, hf.2.2.2.2.2.2.1, by simp [Sig.fits, inK]⟩
  have hv := rvalid_A (bare r) hb
  have hm := rmessage_A (bare r) hf.2.2.2.1
  have hs := sign_A key once (msgR (bare r)) (okI_msgR hb) (by simp [msgR])
  have hfm : (liA (msgR (bare r))).free := lA_free (fun _ => by simp [AV.free, AV.freeL, iC]) _
  unfold rsignM
  rw [show msgR r = msgR (bare r) from rfl]
  by_cases h1 : replyP (bare r)
  · rw [if_pos h1]
    rw [decide_eq_true h1] at hv
    generalize signM key once (msgR (bare r)) = s at *
    generalize liA (msgR (bare r)) = M at *
    by_cases h2 : s.2 = 0
    · rw [if_pos h2]
      rw [h2] at hs
      refine fnA_of tblOk Tryz.func18 rfl (by kernel_rfl) 31 Tryz.ntmps18 (by simp only [List.length_cons, List.length_nil]; omega) [.cell 6 31, .tmp 7] rfl ?_
      simp only [entrySt, argSl, Nat.zero_add, Nat.reduceAdd]
      repeat'
        first
          | first
            | (refine runS_nil (hK _ ?_); clear hK K)
            | refine stG ?_
            | (refine gateS 1 rfl ?_; refine runS_call rfl rfl ⟨_, evl, _, _, _, evl, oblF, ?_⟩; apply Exists.intro; refine ⟨fun hg => ?_, ?_⟩; · first | exact FnA.at_ (hv) rfl rfl | exact FnA.at_ (hm) rfl rfl | exact FnA.at_ (hs) rfl rfl | exact FnA.at_s (hv) rfl simT | exact FnA.at_s (hv) rfl simF | exact FnA.at_s (hm) rfl simT | exact FnA.at_s (hm) rfl simF | exact FnA.at_s (hs) rfl simT | exact FnA.at_s (hs) rfl simF)
            | (refine gateA 1 rfl ?_; refine runA_call rfl ⟨_, evl, _, _, _, (fun _ _ => evlA), oblF, ?_⟩; apply Exists.intro; refine ⟨fun hg => ?_, ?_⟩; · first | exact FnA.at_ (hv) rfl rfl | exact FnA.at_ (hm) rfl rfl | exact FnA.at_ (hs) rfl rfl | exact FnA.at_s (hv) rfl simT | exact FnA.at_s (hv) rfl simF | exact FnA.at_s (hm) rfl simT | exact FnA.at_s (hm) rfl simF | exact FnA.at_s (hs) rfl simT | exact FnA.at_s (hs) rfl simF)
            | (refine gateA 1 rfl ?_; refine runA_put ?_)
            | (refine gateBc ?_; first | (refine runB_nil (hK _ ?_); clear hK K) | (refine runB_op rfl ⟨_, evl, fun nb' => ?_⟩))
            | refine wpA_region (fun K hK => ?_)
            | (refine gateD ?_; first | (refine wpA_drawG false rfl (by kernel_rfl) (by kernel_rfl) (fun K hK => ?_)) | (refine wpA_drawG true rfl (by kernel_rfl) (by kernel_rfl) (fun K hK => ?_)))
            | (refine wpA_cond' ⟨_, evl, fun hb => ?_, fun hb => ?_⟩ <;> (try simp only [Bool.or_eq_true, Bool.and_eq_true, Bool.or_eq_false_iff, Bool.and_eq_false_iff, Bool.not_eq_true', Bool.not_eq_false', Bool.not_eq_true, Bool.not_eq_false, decide_eq_true_eq, decide_eq_false_iff_not, Bool.true_eq_false, Bool.false_eq_true, ne_eq, Classical.not_not, Int.not_lt, Int.not_le, Bool.not_true, Bool.not_false] at hb))
          | fail
      refine ret_of (by simp) ⟨_, _, _, evl, ob0, OutOk.eq ?_ ?_⟩
      · rfl
      · simp [AV.free, AV.freeL, go_sem]
    · rw [if_neg h2]
      refine fnA_of tblOk Tryz.func18 rfl (by kernel_rfl) 31 Tryz.ntmps18 (by simp only [List.length_cons, List.length_nil]; omega) [.cell 6 31, .tmp 7] rfl ?_
      simp only [entrySt, argSl, Nat.zero_add, Nat.reduceAdd]
      repeat'
        first
          | first
            | (refine runS_nil (hK _ ?_); clear hK K)
            | refine stG ?_
            | (refine gateS 1 rfl ?_; refine runS_call rfl rfl ⟨_, evl, _, _, _, evl, oblF, ?_⟩; apply Exists.intro; refine ⟨fun hg => ?_, ?_⟩; · first | exact FnA.at_ (hv) rfl rfl | exact FnA.at_ (hm) rfl rfl | exact FnA.at_ (hs) rfl rfl | exact FnA.at_s (hv) rfl simT | exact FnA.at_s (hv) rfl simF | exact FnA.at_s (hm) rfl simT | exact FnA.at_s (hm) rfl simF | exact FnA.at_s (hs) rfl simT | exact FnA.at_s (hs) rfl simF)
            | (refine gateA 1 rfl ?_; refine runA_call rfl ⟨_, evl, _, _, _, (fun _ _ => evlA), oblF, ?_⟩; apply Exists.intro; refine ⟨fun hg => ?_, ?_⟩; · first | exact FnA.at_ (hv) rfl rfl | exact FnA.at_ (hm) rfl rfl | exact FnA.at_ (hs) rfl rfl | exact FnA.at_s (hv) rfl simT | exact FnA.at_s (hv) rfl simF | exact FnA.at_s (hm) rfl simT | exact FnA.at_s (hm) rfl simF | exact FnA.at_s (hs) rfl simT | exact FnA.at_s (hs) rfl simF)
            | (refine gateA 1 rfl ?_; refine runA_put ?_)
            | (refine gateBc ?_; first | (refine runB_nil (hK _ ?_); clear hK K) | (refine runB_op rfl ⟨_, evl, fun nb' => ?_⟩))
            | refine wpA_region (fun K hK => ?_)
            | (refine gateD ?_; first | (refine wpA_drawG false rfl (by kernel_rfl) (by kernel_rfl) (fun K hK => ?_)) | (refine wpA_drawG true rfl (by kernel_rfl) (by kernel_rfl) (fun K hK => ?_)))
            | (refine wpA_cond' ⟨_, evl, fun hb => ?_, fun hb => ?_⟩ <;> (try simp only [Bool.or_eq_true, Bool.and_eq_true, Bool.or_eq_false_iff, Bool.and_eq_false_iff, Bool.not_eq_true', Bool.not_eq_false', Bool.not_eq_true, Bool.not_eq_false, decide_eq_true_eq, decide_eq_false_iff_not, Bool.true_eq_false, Bool.false_eq_true, ne_eq, Classical.not_not, Int.not_lt, Int.not_le, Bool.not_true, Bool.not_false] at hb))
          | fail
      · refine ret_of (by simp) ⟨_, _, _, evl, ob0, OutOk.eq ?_ ?_⟩
        · rfl
        · simp [AV.free, AV.freeL, go_sem]
      · exact absurd hb h2
  · rw [if_neg h1]
    rw [decide_eq_false h1] at hv
    refine fnA_of tblOk Tryz.func18 rfl (by kernel_rfl) 31 Tryz.ntmps18 (by simp only [List.length_cons, List.length_nil]; omega) [.cell 6 31, .tmp 7] rfl ?_
    simp only [entrySt, argSl, Nat.zero_add, Nat.reduceAdd]
    repeat'
      first
        | first
          | (refine runS_nil (hK _ ?_); clear hK K)
          | refine stG ?_
          | (refine gateS 1 rfl ?_; refine runS_call rfl rfl ⟨_, evl, _, _, _, evl, oblF, ?_⟩; apply Exists.intro; refine ⟨fun hg => ?_, ?_⟩; · first | exact FnA.at_ (hv) rfl rfl | exact FnA.at_s (hv) rfl simT | exact FnA.at_s (hv) rfl simF)
          | (refine gateA 1 rfl ?_; refine runA_call rfl ⟨_, evl, _, _, _, (fun _ _ => evlA), oblF, ?_⟩; apply Exists.intro; refine ⟨fun hg => ?_, ?_⟩; · first | exact FnA.at_ (hv) rfl rfl | exact FnA.at_s (hv) rfl simT | exact FnA.at_s (hv) rfl simF)
          | (refine gateA 1 rfl ?_; refine runA_put ?_)
          | (refine gateBc ?_; first | (refine runB_nil (hK _ ?_); clear hK K) | (refine runB_op rfl ⟨_, evl, fun nb' => ?_⟩))
          | refine wpA_region (fun K hK => ?_)
          | (refine gateD ?_; first | (refine wpA_drawG false rfl (by kernel_rfl) (by kernel_rfl) (fun K hK => ?_)) | (refine wpA_drawG true rfl (by kernel_rfl) (by kernel_rfl) (fun K hK => ?_)))
          | (refine wpA_cond' ⟨_, evl, fun hb => ?_, fun hb => ?_⟩ <;> (try simp only [Bool.or_eq_true, Bool.and_eq_true, Bool.or_eq_false_iff, Bool.and_eq_false_iff, Bool.not_eq_true', Bool.not_eq_false', Bool.not_eq_true, Bool.not_eq_false, decide_eq_true_eq, decide_eq_false_iff_not, Bool.true_eq_false, Bool.false_eq_true, ne_eq, Classical.not_not, Int.not_lt, Int.not_le, Bool.not_true, Bool.not_false] at hb))
        | fail
    refine ret_of (by simp) ⟨_, _, _, evl, ob0, OutOk.eq ?_ ?_⟩
    · rfl
    · simp [AV.free, AV.freeL, go_sem]
theorem pubM_fits {l : List KeyWin} (hf : ∀ k ∈ l, k.fits) (auth id : Int) (i : Iv) : inK .i64 (pubM l auth id i).1 := by
  have h0 : inK .i64 0 := by simp [inK]
  unfold pubM
  split
  · split
    · rename_i h
      split
      · exact h0
      · simp only [foundM, Bool.and_eq_true, decide_eq_true_eq] at h
        exact (hf _ (by rw [getD_get h.1]; exact List.getElem_mem _)).2.2.1
    · exact h0
  · exact h0
/-- Whether a reply is right. -/
def rightM (l : List KeyWin) (r : Reply) : Bool := decide ((pubM l r.auth r.key r.stamp).2 = 0) && (verifyM (pubM l r.auth r.key r.stamp).1 r.sig (msgR r)).1
theorem rright_A (l : List KeyWin) (hl : l.length ≤ 4611686018427387904) (hf : ∀ k ∈ l, k.fits) (r : Reply) (hr : r.fits) : FnA Tryz.prog 63 [lA 7 KeyWin.av l, .agg r.av] (.raw (.bool (rightM l r))) := by
  have hp := pub_A l hl hf r.auth r.key r.stamp
  have hpf := pubM_fits hf r.auth r.key r.stamp
  have hm := rmessage_A r hr.2.2.2.1
  have hv := verify_A (pubM l r.auth r.key r.stamp).1 r.sig (msgR r) (okI_msgR hr) hpf (by simp [msgR])
  have hfm : (liA (msgR r)).free := lA_free (fun _ => by simp [AV.free, AV.freeL, iC]) _
  have hfr : (lA 7 KeyWin.av l).free := lA_free (fun y => KeyWin.free y) _
  unfold rightM
  generalize verifyM (pubM l r.auth r.key r.stamp).1 r.sig (msgR r) = v at *
  generalize pubM l r.auth r.key r.stamp = p at *
  generalize liA (msgR r) = M at *
  clear hpf hf hl
  by_cases h2 : p.2 = 0
  · rw [h2] at hp
    rw [h2]
    refine fnA_of tblOk Tryz.func63 rfl (by kernel_rfl) 32 Tryz.ntmps63 (by simp only [List.length_cons, List.length_nil]; omega) [.tmp 4] rfl ?_
    simp only [entrySt, argSl, Nat.zero_add, Nat.reduceAdd]
    repeat'
      first
        | first
          | (refine runS_nil (hK _ ?_); clear hK K)
          | refine stG ?_
          | (refine gateS 1 rfl ?_; refine runS_call rfl rfl ⟨_, evl, _, _, _, evl, oblF, ?_⟩; apply Exists.intro; refine ⟨fun hg => ?_, ?_⟩; · first | exact FnA.at_ (hp) rfl rfl | exact FnA.at_ (hm) rfl rfl | exact FnA.at_ (hv) rfl rfl | exact FnA.at_s (hp) rfl simT | exact FnA.at_s (hp) rfl simF | exact FnA.at_s (hm) rfl simT | exact FnA.at_s (hm) rfl simF | exact FnA.at_s (hv) rfl simT | exact FnA.at_s (hv) rfl simF)
          | (refine gateA 1 rfl ?_; refine runA_call rfl ⟨_, evl, _, _, _, (fun _ _ => evlA), oblF, ?_⟩; apply Exists.intro; refine ⟨fun hg => ?_, ?_⟩; · first | exact FnA.at_ (hp) rfl rfl | exact FnA.at_ (hm) rfl rfl | exact FnA.at_ (hv) rfl rfl | exact FnA.at_s (hp) rfl simT | exact FnA.at_s (hp) rfl simF | exact FnA.at_s (hm) rfl simT | exact FnA.at_s (hm) rfl simF | exact FnA.at_s (hv) rfl simT | exact FnA.at_s (hv) rfl simF)
          | (refine gateA 1 rfl ?_; refine runA_put ?_)
          | (refine gateBc ?_; first | (refine runB_nil (hK _ ?_); clear hK K) | (refine runB_op rfl ⟨_, evl, fun nb' => ?_⟩))
          | refine wpA_region (fun K hK => ?_)
          | (refine gateD ?_; first | (refine wpA_drawG false rfl (by kernel_rfl) (by kernel_rfl) (fun K hK => ?_)) | (refine wpA_drawG true rfl (by kernel_rfl) (by kernel_rfl) (fun K hK => ?_)))
          | (refine wpA_cond' ⟨_, evl, fun hb => ?_, fun hb => ?_⟩ <;> (try simp only [Bool.or_eq_true, Bool.and_eq_true, Bool.or_eq_false_iff, Bool.and_eq_false_iff, Bool.not_eq_true', Bool.not_eq_false', Bool.not_eq_true, Bool.not_eq_false, decide_eq_true_eq, decide_eq_false_iff_not, Bool.true_eq_false, Bool.false_eq_true, ne_eq, Classical.not_not, Int.not_lt, Int.not_le, Bool.not_true, Bool.not_false] at hb))
        | fail
    refine ret_of (by simp) ⟨_, _, _, evl, ob0, OutOk.eq ?_ ?_⟩
    · simp
    · simp [AV.free]
  · rw [decide_eq_false h2]
    refine fnA_of tblOk Tryz.func63 rfl (by kernel_rfl) 32 Tryz.ntmps63 (by simp only [List.length_cons, List.length_nil]; omega) [.tmp 4] rfl ?_
    simp only [entrySt, argSl, Nat.zero_add, Nat.reduceAdd]
    repeat'
      first
        | first
          | (refine runS_nil (hK _ ?_); clear hK K)
          | refine stG ?_
          | (refine gateS 1 rfl ?_; refine runS_call rfl rfl ⟨_, evl, _, _, _, evl, oblF, ?_⟩; apply Exists.intro; refine ⟨fun hg => ?_, ?_⟩; · first | exact FnA.at_ (hp) rfl rfl | exact FnA.at_ (hm) rfl rfl | exact FnA.at_ (hv) rfl rfl | exact FnA.at_s (hp) rfl simT | exact FnA.at_s (hp) rfl simF | exact FnA.at_s (hm) rfl simT | exact FnA.at_s (hm) rfl simF | exact FnA.at_s (hv) rfl simT | exact FnA.at_s (hv) rfl simF)
          | (refine gateA 1 rfl ?_; refine runA_call rfl ⟨_, evl, _, _, _, (fun _ _ => evlA), oblF, ?_⟩; apply Exists.intro; refine ⟨fun hg => ?_, ?_⟩; · first | exact FnA.at_ (hp) rfl rfl | exact FnA.at_ (hm) rfl rfl | exact FnA.at_ (hv) rfl rfl | exact FnA.at_s (hp) rfl simT | exact FnA.at_s (hp) rfl simF | exact FnA.at_s (hm) rfl simT | exact FnA.at_s (hm) rfl simF | exact FnA.at_s (hv) rfl simT | exact FnA.at_s (hv) rfl simF)
          | (refine gateA 1 rfl ?_; refine runA_put ?_)
          | (refine gateBc ?_; first | (refine runB_nil (hK _ ?_); clear hK K) | (refine runB_op rfl ⟨_, evl, fun nb' => ?_⟩))
          | refine wpA_region (fun K hK => ?_)
          | (refine gateD ?_; first | (refine wpA_drawG false rfl (by kernel_rfl) (by kernel_rfl) (fun K hK => ?_)) | (refine wpA_drawG true rfl (by kernel_rfl) (by kernel_rfl) (fun K hK => ?_)))
          | (refine wpA_cond' ⟨_, evl, fun hb => ?_, fun hb => ?_⟩ <;> (try simp only [Bool.or_eq_true, Bool.and_eq_true, Bool.or_eq_false_iff, Bool.and_eq_false_iff, Bool.not_eq_true', Bool.not_eq_false', Bool.not_eq_true, Bool.not_eq_false, decide_eq_true_eq, decide_eq_false_iff_not, Bool.true_eq_false, Bool.false_eq_true, ne_eq, Classical.not_not, Int.not_lt, Int.not_le, Bool.not_true, Bool.not_false] at hb))
        | fail
    · refine ret_of (by simp) ⟨_, _, _, evl, ob0, OutOk.eq ?_ ?_⟩
      · simp
      · simp [AV.free]
    · exact absurd hb h2
theorem rRight_A (l : List KeyWin) (hl : l.length ≤ 4611686018427387904) (hf : ∀ k ∈ l, k.fits) (r : Reply) (hr : r.fits) : FnA Tryz.prog 20 [lA 7 KeyWin.av l, .agg r.av] (.tup [.raw (.bool (decide (ValidP l) && decide (replyP r) && rightM l r)), .raw (.int .i64 (if ValidP l ∧ replyP r then 0 else 1))]) := by
  have h1 := valid_A l hl hf
  have h2 := rvalid_A r hr
  have h3 := rright_A l hl hf r hr
  have hfr : (lA 7 KeyWin.av l).free := lA_free (fun y => KeyWin.free y) _
  rw [show (if ValidP l ∧ replyP r then (0 : Int) else 1) = if (decide (ValidP l) && decide (replyP r)) = true then 0 else 1 from by simp]
  generalize rightM l r = b at *
  generalize decide (ValidP l) = v at *
  generalize decide (replyP r) = w at *
  clear hl hf
  refine fnA_of tblOk Tryz.func20 rfl (by kernel_rfl) 17 Tryz.ntmps20 (by simp only [List.length_cons, List.length_nil]; omega) [.tmp 4, .tmp 5] rfl ?_
  simp only [entrySt, argSl, Nat.zero_add, Nat.reduceAdd]
  repeat'
    first
      | first
        | (refine runS_nil (hK _ ?_); clear hK K)
        | refine stG ?_
        | (refine gateS 1 rfl ?_; refine runS_call rfl rfl ⟨_, evl, _, _, _, evl, oblF, ?_⟩; apply Exists.intro; refine ⟨fun hg => ?_, ?_⟩; · first | exact FnA.at_ (h1) rfl rfl | exact FnA.at_ (h2) rfl rfl | exact FnA.at_ (h3) rfl rfl | exact FnA.at_s (h1) rfl simT | exact FnA.at_s (h1) rfl simF | exact FnA.at_s (h2) rfl simT | exact FnA.at_s (h2) rfl simF | exact FnA.at_s (h3) rfl simT | exact FnA.at_s (h3) rfl simF)
        | (refine gateA 1 rfl ?_; refine runA_call rfl ⟨_, evl, _, _, _, (fun _ _ => evlA), oblF, ?_⟩; apply Exists.intro; refine ⟨fun hg => ?_, ?_⟩; · first | exact FnA.at_ (h1) rfl rfl | exact FnA.at_ (h2) rfl rfl | exact FnA.at_ (h3) rfl rfl | exact FnA.at_s (h1) rfl simT | exact FnA.at_s (h1) rfl simF | exact FnA.at_s (h2) rfl simT | exact FnA.at_s (h2) rfl simF | exact FnA.at_s (h3) rfl simT | exact FnA.at_s (h3) rfl simF)
        | (refine gateA 1 rfl ?_; refine runA_put ?_)
        | (refine gateBc ?_; first | (refine runB_nil (hK _ ?_); clear hK K) | (refine runB_op rfl ⟨_, evl, fun nb' => ?_⟩))
        | refine wpA_region (fun K hK => ?_)
        | (refine gateD ?_; first | (refine wpA_drawG false rfl (by kernel_rfl) (by kernel_rfl) (fun K hK => ?_)) | (refine wpA_drawG true rfl (by kernel_rfl) (by kernel_rfl) (fun K hK => ?_)))
        | (refine wpA_cond' ⟨_, evl, fun hb => ?_, fun hb => ?_⟩ <;> (try simp only [Bool.or_eq_true, Bool.and_eq_true, Bool.or_eq_false_iff, Bool.and_eq_false_iff, Bool.not_eq_true', Bool.not_eq_false', Bool.not_eq_true, Bool.not_eq_false, decide_eq_true_eq, decide_eq_false_iff_not, Bool.true_eq_false, Bool.false_eq_true, ne_eq, Classical.not_not, Int.not_lt, Int.not_le, Bool.not_true, Bool.not_false] at hb))
      | fail
  · refine ret_of (by simp) ⟨_, _, _, evl, ob0, OutOk.eq ?_ ?_⟩
    · rcases hb with rfl | rfl <;> simp
    · simp [AV.free, AV.freeL]
  · refine ret_of (by simp) ⟨_, _, _, evl, ob0, OutOk.eq ?_ ?_⟩
    · obtain ⟨rfl, rfl⟩ := hb; simp
    · simp [AV.free, AV.freeL]
def authP (a : Auth) : Prop := (1 ≤ a.id ∧ a.id ≤ 16) ∧ 0 ≤ a.err ∧ a.err ≤ 1000000
instance (a : Auth) : Decidable (authP a) := by unfold authP; infer_instance
def honestP (a : Auth) (r : Reply) (at_ : Int) : Prop := r.auth = a.id ∧ r.stamp.lo ≤ at_ ∧ at_ ≤ r.stamp.hi ∧ r.stamp.hi - r.stamp.lo ≤ 2 * a.err
instance (a : Auth) (r : Reply) (at_ : Int) : Decidable (honestP a r at_) := by unfold honestP; infer_instance
theorem honest_A (a : Auth) (r : Reply) (hr : r.fits) (at_ : Int) : FnA Tryz.prog 22 [.agg a.av, .agg r.av, .raw (.int .i64 at_)] (.tup (if authP a ∧ (0 ≤ at_ ∧ at_ ≤ 3000000000000000) ∧ replyP r then [.raw (.bool (decide (honestP a r at_))), .raw (.int .i64 0)] else [.raw (.bool false), .raw (.int .i64 1)])) := by
  have h2 := rvalid_A r hr
  clear hr
  by_cases hc : authP a ∧ (0 ≤ at_ ∧ at_ ≤ 3000000000000000) ∧ replyP r
  · rw [if_pos hc]
    rw [decide_eq_true hc.2.2] at h2
    have hs := hc.2.2.2.1
    obtain ⟨⟨ha1, ha2⟩, ha3, _⟩ := hc
    refine fnA_of tblOk Tryz.func22 rfl (by kernel_rfl) 71 Tryz.ntmps22 (by simp only [List.length_cons, List.length_nil]; omega) [.tmp 6, .tmp 7] rfl ?_
    simp only [entrySt, argSl, Nat.zero_add, Nat.reduceAdd]
    repeat'
      first
        | first
          | (refine runS_nil (hK _ ?_); clear hK K)
          | refine stG ?_
          | (refine gateS 1 rfl ?_; refine runS_call rfl rfl ⟨_, evl, _, _, _, evl, oblF, ?_⟩; apply Exists.intro; refine ⟨fun hg => ?_, ?_⟩; · first | exact FnA.at_ (h2) rfl rfl | exact FnA.at_s (h2) rfl simT | exact FnA.at_s (h2) rfl simF)
          | (refine gateA 1 rfl ?_; refine runA_call rfl ⟨_, evl, _, _, _, (fun _ _ => evlA), oblF, ?_⟩; apply Exists.intro; refine ⟨fun hg => ?_, ?_⟩; · first | exact FnA.at_ (h2) rfl rfl | exact FnA.at_s (h2) rfl simT | exact FnA.at_s (h2) rfl simF)
          | (refine gateA 1 rfl ?_; refine runA_put ?_)
          | (refine gateBc ?_; first | (refine runB_nil (hK _ ?_); clear hK K) | (refine runB_op rfl ⟨_, evl, fun nb' => ?_⟩))
          | refine wpA_region (fun K hK => ?_)
          | (refine gateD ?_; first | (refine wpA_drawG false rfl (by kernel_rfl) (by kernel_rfl) (fun K hK => ?_)) | (refine wpA_drawG true rfl (by kernel_rfl) (by kernel_rfl) (fun K hK => ?_)))
          | (refine wpA_cond' ⟨_, evl, fun hb => ?_, fun hb => ?_⟩ <;> (try simp only [Bool.or_eq_true, Bool.and_eq_true, Bool.or_eq_false_iff, Bool.and_eq_false_iff, Bool.not_eq_true', Bool.not_eq_false', Bool.not_eq_true, Bool.not_eq_false, decide_eq_true_eq, decide_eq_false_iff_not, Bool.true_eq_false, Bool.false_eq_true, ne_eq, Classical.not_not, Int.not_lt, Int.not_le, Bool.not_true, Bool.not_false] at hb))
        | fail
    · exfalso; omega
    · refine ret_of (by simp) ⟨_, _, _, evl, ob0, OutOk.eq ?_ ?_⟩
      · rw [show decide (honestP a r at_) = (decide (r.auth = a.id) && decide (r.stamp.lo ≤ at_) && decide (at_ ≤ r.stamp.hi) && decide (r.stamp.hi - r.stamp.lo ≤ 2 * a.err)) from by rw [Bool.eq_iff_iff, decide_eq_true_iff]; simp [honestP, and_assoc]]
      · simp [AV.free, AV.freeL]
  · rw [if_neg hc]
    refine fnA_of tblOk Tryz.func22 rfl (by kernel_rfl) 71 Tryz.ntmps22 (by simp only [List.length_cons, List.length_nil]; omega) [.tmp 6, .tmp 7] rfl ?_
    simp only [entrySt, argSl, Nat.zero_add, Nat.reduceAdd]
    repeat'
      first
        | first
          | (refine runS_nil (hK _ ?_); clear hK K)
          | refine stG ?_
          | (refine gateS 1 rfl ?_; refine runS_call rfl rfl ⟨_, evl, _, _, _, evl, oblF, ?_⟩; apply Exists.intro; refine ⟨fun hg => ?_, ?_⟩; · first | exact FnA.at_ (h2) rfl rfl | exact FnA.at_s (h2) rfl simT | exact FnA.at_s (h2) rfl simF)
          | (refine gateA 1 rfl ?_; refine runA_call rfl ⟨_, evl, _, _, _, (fun _ _ => evlA), oblF, ?_⟩; apply Exists.intro; refine ⟨fun hg => ?_, ?_⟩; · first | exact FnA.at_ (h2) rfl rfl | exact FnA.at_s (h2) rfl simT | exact FnA.at_s (h2) rfl simF)
          | (refine gateA 1 rfl ?_; refine runA_put ?_)
          | (refine gateBc ?_; first | (refine runB_nil (hK _ ?_); clear hK K) | (refine runB_op rfl ⟨_, evl, fun nb' => ?_⟩))
          | refine wpA_region (fun K hK => ?_)
          | (refine gateD ?_; first | (refine wpA_drawG false rfl (by kernel_rfl) (by kernel_rfl) (fun K hK => ?_)) | (refine wpA_drawG true rfl (by kernel_rfl) (by kernel_rfl) (fun K hK => ?_)))
          | (refine wpA_cond' ⟨_, evl, fun hb => ?_, fun hb => ?_⟩ <;> (try simp only [Bool.or_eq_true, Bool.and_eq_true, Bool.or_eq_false_iff, Bool.and_eq_false_iff, Bool.not_eq_true', Bool.not_eq_false', Bool.not_eq_true, Bool.not_eq_false, decide_eq_true_eq, decide_eq_false_iff_not, Bool.true_eq_false, Bool.false_eq_true, ne_eq, Classical.not_not, Int.not_lt, Int.not_le, Bool.not_true, Bool.not_false] at hb))
        | fail
    · refine ret_of (by simp) ⟨_, _, _, evl, ob0, OutOk.eq ?_ ?_⟩
      · rfl
      · simp [AV.free, AV.freeL]
    · exact absurd ⟨⟨⟨hb.1.1.1.1.1.1, hb.1.1.1.1.1.2⟩, hb.1.1.1.1.2, hb.1.1.1.2⟩, ⟨hb.1.1.2, hb.1.2⟩, hb.2⟩ hc
end Go.Proofs.YtihnjbnlbedpaaaGreatDoor
