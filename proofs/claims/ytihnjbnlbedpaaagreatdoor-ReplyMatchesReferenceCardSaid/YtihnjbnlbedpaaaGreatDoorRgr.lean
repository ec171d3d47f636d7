/- The reference of chapter 23: Right, Honest, Wires, Find, Round, Sent. -/
import Derived.Test.YtihnjbnlbedpaaaGreatDoorRgs
import Derived.Test.YtihnjbnlbedpaaaGreatDoorLkR
namespace Go.Proofs.YtihnjbnlbedpaaaGreatDoor
set_option linter.unusedVariables false
set_option linter.unusedSimpArgs false
set_option maxHeartbeats 4000000
set_option maxRecDepth 100000
open Go.RowKit
theorem verifyM_ok {pub : Int} {s : Sig} {m : List Int} (h : (verifyM pub s m).1 = true) : (verifyM pub s m).2 = 0 := by
  unfold verifyM at h ⊢
  split
  · rfl
  · rename_i hc; rw [if_neg hc] at h; cases h
theorem rightR_A (l : List KeyWin) (hl : l.length ≤ 4611686018427387904) (hf : ∀ k ∈ l, k.fits) (r : Reply) (hr : r.fits) : FnA Tryz.prog 64 [lA 7 KeyWin.av l, .agg r.av] (.raw (.bool (rightM l r))) := by
  have hp := pubR_A l hl hf r.auth r.key r.stamp
  have hpf := pubM_fits hf r.auth r.key r.stamp
  have hm := rmessageR_A r hr.2.2.2.1
  have hv := verifyR_A (pubM l r.auth r.key r.stamp).1 r.sig (msgR r) (okI_msgR hr) hpf (by simp [msgR])
  have hvo := verifyM_ok (pub := (pubM l r.auth r.key r.stamp).1) (s := r.sig) (m := msgR r)
  have hfm : (liA (msgR r)).free := lA_free (fun _ => by simp [AV.free, AV.freeL, iC]) _
  have hfr : (lA 7 KeyWin.av l).free := lA_free (fun y => KeyWin.free y) _
  unfold rightM
  generalize verifyM (pubM l r.auth r.key r.stamp).1 r.sig (msgR r) = v at *
  generalize pubM l r.auth r.key r.stamp = p at *
  generalize liA (msgR r) = M at *
  clear hpf hf hl
  by_cases h2 : p.2 = 0
  · rw [h2] at hp
    rw [h2]
    obtain ⟨v1, v2⟩ := v
    simp only at hvo hv ⊢
    cases v1 with
    | true =>
      obtain rfl := hvo rfl
      refine fnA_of tblOk Tryz.func64 rfl (by kernel_rfl) 36 Tryz.ntmps64 (by simp only [List.length_cons, List.length_nil]; omega) [.tmp 4] rfl ?_
      simp only [entrySt, argSl, Nat.zero_add, Nat.reduceAdd]
      repeat' first
        | refine wkG (And.intro hp (And.intro hm hv)) ?_
        | (refine cndS ⟨_, evl, ⟨cb, cb⟩, fun hb => ?_, fun hb => ?_⟩ <;> try (cases hb; done))
        | (refine Stop.mk ?_; intro K hK)
        | fail
      refine ret_of (by simp) ⟨_, _, _, evl, ob0, OutOk.eq ?_ ?_⟩
      · simp
      · simp [AV.free]
    | false =>
      refine fnA_of tblOk Tryz.func64 rfl (by kernel_rfl) 36 Tryz.ntmps64 (by simp only [List.length_cons, List.length_nil]; omega) [.tmp 4] rfl ?_
      simp only [entrySt, argSl, Nat.zero_add, Nat.reduceAdd]
      repeat' first
        | refine wkG (And.intro hp (And.intro hm hv)) ?_
        | (refine cndS ⟨_, evl, ⟨cb, cb⟩, fun hb => ?_, fun hb => ?_⟩ <;> try (cases hb; done))
        | (refine Stop.mk ?_; intro K hK)
        | fail
      refine ret_of (by simp) ⟨_, _, _, evl, ob0, OutOk.eq ?_ ?_⟩
      · simp
      · simp [AV.free]
  · rw [decide_eq_false h2]
    refine fnA_of tblOk Tryz.func64 rfl (by kernel_rfl) 36 Tryz.ntmps64 (by simp only [List.length_cons, List.length_nil]; omega) [.tmp 4] rfl ?_
    simp only [entrySt, argSl, Nat.zero_add, Nat.reduceAdd]
    repeat' first
      | refine wkG (And.intro hp (And.intro hm hv)) ?_
      | (refine cndS ⟨_, evl, ⟨cb, cb⟩, fun hb => ?_, fun hb => ?_⟩ <;> try (cases hb; done))
      | (refine Stop.mk ?_; intro K hK)
      | fail
    · refine ret_of (by simp) ⟨_, _, _, evl, ob0, OutOk.eq ?_ ?_⟩
      · simp
      · simp [AV.free]
    · exact absurd hb h2
theorem rRightR_A (l : List KeyWin) (hl : l.length ≤ 4611686018427387904) (hf : ∀ k ∈ l, k.fits) (r : Reply) (hr : r.fits) : FnA Tryz.prog 21 [lA 7 KeyWin.av l, .agg r.av] (.tup [.raw (.bool (decide (ValidP l) && decide (replyP r) && rightM l r)), .raw (.int .i64 (if ValidP l ∧ replyP r then 0 else 1))]) := by
  have h1 := validR_A l hf
  have h2 := reply11_A r
  have h3 := rightR_A l hl hf r hr
  have hfr : (lA 7 KeyWin.av l).free := lA_free (fun y => KeyWin.free y) _
  rw [show (if ValidP l ∧ replyP r then (0 : Int) else 1) = if (decide (ValidP l) && decide (replyP r)) = true then 0 else 1 from by simp]
  generalize rightM l r = b at *
  generalize decide (ValidP l) = v at *
  generalize decide (replyP r) = w at *
  clear hl hf
  refine fnA_of tblOk Tryz.func21 rfl (by kernel_rfl) 21 Tryz.ntmps21 (by simp only [List.length_cons, List.length_nil]; omega) [.tmp 4, .tmp 5] rfl ?_
  simp only [entrySt, argSl, Nat.zero_add, Nat.reduceAdd]
  repeat' first
    | refine wkG (And.intro h1 (And.intro h2 h3)) ?_
    | (refine cndS ⟨_, evl, ⟨cb, cb⟩, fun hb => ?_, fun hb => ?_⟩ <;> try (cases hb; done))
    | (refine Stop.mk ?_; intro K hK)
    | fail
  · refine ret_of (by simp) ⟨_, _, _, evl, ob0, OutOk.eq ?_ ?_⟩
    · rcases hb with rfl | rfl <;> simp
    · simp [AV.free, AV.freeL]
  · refine ret_of (by simp) ⟨_, _, _, evl, ob0, OutOk.eq ?_ ?_⟩
    · obtain ⟨rfl, rfl⟩ := hb; simp
    · simp [AV.free, AV.freeL]
theorem auth23_A (a : Auth) : FnA Tryz.prog 65 [.agg a.av] (.raw (.bool (decide (authP a)))) := by
  refine fnA_of tblOk Tryz.func65 rfl (by kernel_rfl) 21 Tryz.ntmps65 (by simp only [List.length_cons, List.length_nil]; omega) [.tmp 2] rfl ?_
  simp only [entrySt, argSl, Nat.zero_add, Nat.reduceAdd]
  repeat' first
    | refine wkG trivial ?_
    | (refine cndS ⟨_, evl, ⟨cb, cb⟩, fun hb => ?_, fun hb => ?_⟩ <;> try (cases hb; done))
    | (refine Stop.mk ?_; intro K hK)
    | fail
  all_goals (try (refine ret_of (by simp) ⟨_, _, _, evl, ob0, OutOk.sims ?_ fre⟩))
  all_goals first | exact Sims.refl _ | (refine Sims.of_eq ?_; first | rfl | (simp [authP]; done) | (simp_all [authP]; done) | (simp_all [authP]; omega) | (simp [authP]; grind) | (split <;> simp_all)) | exact simsF | (refine Sims.tup ?_; simp only [SimsL, and_true]; (repeat' apply And.intro) <;> first | exact simsF | skip) | (exfalso; first | omega | (simp_all; done) | (simp_all; omega)) | skip
theorem honestR_A (a : Auth) (r : Reply) (hr : r.fits) (at_ : Int) : FnA Tryz.prog 23 [.agg a.av, .agg r.av, .raw (.int .i64 at_)] (.tup (if authP a ∧ (0 ≤ at_ ∧ at_ ≤ 3000000000000000) ∧ replyP r then [.raw (.bool (decide (honestP a r at_))), .raw (.int .i64 0)] else [.raw (.bool false), .raw (.int .i64 1)])) := by
  have h1 := auth23_A a
  have h2 := reply11_A r
  have h3 := has02_A r.stamp at_
  clear hr
  by_cases hc : authP a ∧ (0 ≤ at_ ∧ at_ ≤ 3000000000000000) ∧ replyP r
  · rw [if_pos hc]
    rw [decide_eq_true hc.2.2] at h2
    rw [decide_eq_true hc.1] at h1
    have hs := hc.2.2.2.1
    obtain ⟨⟨ha1, ha2⟩, ha3, _⟩ := hc
    refine fnA_of tblOk Tryz.func23 rfl (by kernel_rfl) 52 Tryz.ntmps23 (by simp only [List.length_cons, List.length_nil]; omega) [.tmp 6, .tmp 7] rfl ?_
    simp only [entrySt, argSl, Nat.zero_add, Nat.reduceAdd]
    repeat' first
      | refine wkG (And.intro h1 (And.intro h2 h3)) ?_
      | (refine cndS ⟨_, evl, ⟨cb, cb⟩, fun hb => ?_, fun hb => ?_⟩ <;> try (cases hb; done))
      | (refine Stop.mk ?_; intro K hK)
      | fail
    · exfalso; omega
    · refine ret_of (by simp) ⟨_, _, _, evl, ob0, OutOk.eq ?_ ?_⟩
      · rw [show decide (honestP a r at_) = (decide (r.auth = a.id) && (decide (r.stamp.lo ≤ at_) && decide (at_ ≤ r.stamp.hi)) && decide (r.stamp.hi - r.stamp.lo ≤ 2 * a.err)) from by rw [Bool.eq_iff_iff, decide_eq_true_iff]; simp [honestP, and_assoc]]
      · simp [AV.free, AV.freeL]
  · rw [if_neg hc]
    have hno : decide (authP a) = true → decide (replyP r) = true → 0 ≤ at_ → at_ ≤ 3000000000000000 → False := fun h1 h2 h3 h4 => hc ⟨of_decide_eq_true h1, ⟨h3, h4⟩, of_decide_eq_true h2⟩
    clear hc
    generalize decide (authP a) = c1 at *
    generalize decide (replyP r) = c2 at *
    refine fnA_of tblOk Tryz.func23 rfl (by kernel_rfl) 52 Tryz.ntmps23 (by simp only [List.length_cons, List.length_nil]; omega) [.tmp 6, .tmp 7] rfl ?_
    simp only [entrySt, argSl, Nat.zero_add, Nat.reduceAdd]
    try refine wkG (And.intro h1 h2) ?_
    try (refine Stop.mk ?_; intro K hK)
    refine wpA_cond' ⟨_, evl, fun _ => ?_, fun hb => ?_⟩
    · try refine wkG trivial ?_
      try (refine Stop.mk ?_; intro K hK)
      refine ret_of (by simp) ⟨_, _, _, evl, ob0, OutOk.eq ?_ ?_⟩
      · rfl
      · simp [AV.free, AV.freeL]
    · exfalso
      simp at hb
      exact hno hb.1.1.1 hb.1.1.2 hb.1.2 hb.2
theorem findR_A (l : List Wire) (hl : l.length ≤ 4611686018427387904) (h a : Int) : FnA Tryz.prog 74 [lA 3 Wire.av l, .raw (.int .i64 h), .raw (.int .i64 a)] (.raw (.int .i64 (idxM (isW h a) l))) := by
  refine fnA_of tblOk Tryz.func74 rfl (by kernel_rfl) 31 Tryz.ntmps74 (by simp only [List.length_cons, List.length_nil]; omega) [.tmp 6] rfl ?_
  simp only [entrySt, argSl, Nat.zero_add, Nat.reduceAdd]
  repeat' first
    | refine wkG trivial ?_
    | (refine cndS ⟨_, evl, ⟨cb, cb⟩, fun hb => ?_, fun hb => ?_⟩ <;> try (cases hb; done))
    | (refine Stop.mk ?_; intro K hK)
    | fail
  refine wpA_loop (fun k : Nat => ⟨31, 0, [(0, true, lA 3 Wire.av l), (1, true, .raw (.int .i64 h)), (2, true, .raw (.int .i64 a)), (7, true, .raw (.int .i64 k))], [], [], ((0, []), [], true)⟩)
    (fun k => k ≤ l.length ∧ ∀ i, i < k → isW h a (l.getD i default) = false) (fun k => l.length - k) 0 ?_ ⟨by omega, fun i h => by omega⟩ ?_
  · refine wkn ?_ ?_ ?_
    all_goals first | exact wk0 | refine wkS ?_ | skip
    all_goals (try trivial)
    all_goals ((repeat' apply And.intro) <;> first | exact wkL | skip)
  · rintro k ⟨hk, hall⟩
    repeat' first
      | refine wkG trivial ?_
      | (refine cndS ⟨_, evl, ⟨cb, cb⟩, fun hb => ?_, fun hb => ?_⟩ <;> try (cases hb; done))
      | (refine Stop.mk ?_; intro K hK)
      | fail
    · refine ret_of (by simp) ⟨_, _, _, evl, ob0, OutOk.eq ?_ ?_⟩
      · rw [idxM_hit (show k < l.length by omega) hall (by rw [isW, decide_eq_true hb.1, decide_eq_true hb.2]; rfl)]
      · simp [AV.free]
    · refine ⟨k + 1, ⟨by omega, fun i hi => ?_⟩, by omega, ?_⟩
      · rcases Nat.lt_succ_iff_lt_or_eq.1 hi with h | rfl
        · exact hall i h
        · simp only [isW, Bool.and_eq_false_iff, decide_eq_false_iff_not]; omega
      · refine wkn ?_ ?_ ?_
        all_goals first | exact wk0 | refine wkS ?_ | skip
        all_goals (try trivial)
        all_goals ((repeat' apply And.intro) <;> first | exact wkL | skip)
    · refine ret_of (by simp) ⟨_, _, _, evl, ob0, OutOk.eq ?_ ?_⟩
      · rw [idxM_none (fun i hi => hall i (by omega))]
      · simp [AV.free]
end Go.Proofs.YtihnjbnlbedpaaaGreatDoor
