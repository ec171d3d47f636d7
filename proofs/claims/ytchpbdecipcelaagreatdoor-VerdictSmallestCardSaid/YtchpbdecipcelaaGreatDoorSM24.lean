import Derived.Test.YtchpbdecipcelaaGreatDoorSM14
import Derived.Test.YtchpbdecipcelaaGreatDoorSM20
import Derived.Test.YtchpbdecipcelaaGreatDoorSM23
namespace Go.Proofs.YtchpbdecipcelaaGreatDoor
set_option linter.unusedVariables false
set_option linter.unusedSimpArgs false
set_option maxHeartbeats 4000000
set_option maxRecDepth 100000
open Go.RowKit
theorem signR_A (key once : Int) (m : List Int) (h : okI m) (hn : m.length ≤ 999998) : FnA Tryz.prog 115 [.raw (.int .i64 key), .raw (.int .i64 once), liA m] (.tup [.agg (signM key once m).1.av, .raw (.int .i64 (signM key once m).2)]) := by
  have hw1 := withinM_iff key 1
  have hw2 := withinM_iff once 1
  by_cases hb : withinM key 1 = true ∧ withinM once 1 = true
  · have hk := hw1.1 hb.1
    have ho := hw2.1 hb.2
    have hP := powR_A 4 once (by omega) (by omega)
    have hKy := powR_A 4 key (by omega) (by omega)
    have hok : okI ((powM (Int.toNat 4) once.toNat : Int) :: (powM (Int.toNat 4) key.toNat : Int) :: m) := by
      intro n hn
      rcases List.mem_cons.1 hn with rfl | hn
      · exact powM_okI (by omega)
      · rcases List.mem_cons.1 hn with rfl | hn
        · exact powM_okI (by omega)
        · exact h n hn
    have hC := challengeR_A _ _ _ hok hn
    have hcr := chalM_range (powM (Int.toNat 4) once.toNat) (powM (Int.toNat 4) key.toNat) m
    have hmul := mulQ hcr (show 0 ≤ key ∧ key < 1073741789 by omega)
    have e : signM key once m = (⟨chalM (powM (Int.toNat 4) once.toNat) (powM (Int.toNat 4) key.toNat) m, (once + chalM (powM (Int.toNat 4) once.toNat) (powM (Int.toNat 4) key.toNat) m * key).tmod 1073741789⟩, 0) := by
      rw [signM, hb.1, hb.2]; rfl
    rw [e]
    generalize chalM (powM (Int.toNat 4) once.toNat) (powM (Int.toNat 4) key.toNat) m = c at *
    generalize (powM (Int.toNat 4) once.toNat : Int) = p1 at *
    generalize (powM (Int.toNat 4) key.toNat : Int) = p2 at *
    refine fnA_of tblOk Tryz.func115 rfl (by kernel_rfl) 32 Tryz.ntmps115 lenT [.cell 6 92, .tmp 7] rfl ?_
    simp only [entrySt, argSl, Nat.zero_add, Nat.reduceAdd]
    repeat' first
      | refine wkG (And.intro (keyR_A key) (And.intro (keyR_A once) (And.intro hP (And.intro hKy hC)))) ?_
      | (refine cndS ⟨_, evl, ⟨cb, cb⟩, fun hb => ?_, fun hb => ?_⟩ <;> try (cases hb; done))
      | (refine Stop.mk ?_; intro K hK)
      | fail
    all_goals (try (refine ret_of (by simp) ⟨_, _, _, evl, ob0, OutOk.sims ?_ fre⟩))
    all_goals first | exact Sims.refl _ | (refine Sims.of_eq ?_; first | rfl | (simp [Sig.av]; done) | (simp_all [Sig.av]; done) | (simp_all [Sig.av]; omega) | (simp [Sig.av]; grind) | (split <;> simp_all)) | exact simsF | (refine Sims.tup ?_; simp only [SimsL, and_true]; (repeat' apply And.intro) <;> first | exact simsF | skip) | (exfalso; first | omega | (simp_all; done) | (simp_all; omega)) | skip
  · have e : signM key once m = (⟨0, 0⟩, 1) := by
      rw [signM, if_neg (by simpa using hb)]
    rw [e]
    refine fnA_of tblOk Tryz.func115 rfl (by kernel_rfl) 32 Tryz.ntmps115 lenT [.cell 6 92, .tmp 7] rfl ?_
    simp only [entrySt, argSl, Nat.zero_add, Nat.reduceAdd]
    repeat' first
      | refine wkG (And.intro (keyR_A key) (keyR_A once)) ?_
      | (refine cndS ⟨_, evl, ⟨cb, cb⟩, fun hb => ?_, fun hb => ?_⟩ <;> try (cases hb; done))
      | (refine Stop.mk ?_; intro K hK)
      | fail
    all_goals (try (refine ret_of (by simp) ⟨_, _, _, evl, ob0, OutOk.sims ?_ fre⟩))
    all_goals first | exact Sims.refl _ | (refine Sims.of_eq ?_; first | rfl | (simp [Sig.av]; done) | (simp_all [Sig.av]; done) | (simp_all [Sig.av]; omega) | (simp [Sig.av]; grind) | (split <;> simp_all)) | exact simsF | (refine Sims.tup ?_; simp only [SimsL, and_true]; (repeat' apply And.intro) <;> first | exact simsF | skip) | (exfalso; first | omega | (simp_all; done) | (simp_all; omega)) | skip
end Go.Proofs.YtchpbdecipcelaaGreatDoor
namespace Go.Proofs.YtchpbdecipcelaaGreatDoor
set_option linter.unusedVariables false
set_option linter.unusedSimpArgs false
set_option maxHeartbeats 4000000
set_option maxRecDepth 100000
open Go.RowKit
theorem formR_A (k : KeyWin) : FnA Tryz.prog 138 [.agg k.av] (.raw (.bool (decide (formedP k)))) := by
  have h1 := memberR_A k.pub
  have h2 := exponentR_A k.sig.c
  have h3 := exponentR_A k.sig.s
  refine fnA_of tblOk Tryz.func138 rfl (by kernel_rfl) 64 Tryz.ntmps138 lenT [.tmp 2] rfl ?_
  simp only [entrySt, argSl, Nat.zero_add, Nat.reduceAdd]
  repeat' first
    | refine wkG (And.intro h1 (And.intro h2 h3)) ?_
    | (refine cndS ⟨_, evl, ⟨cb, cb⟩, fun hb => ?_, fun hb => ?_⟩ <;> try (cases hb; done))
    | (refine Stop.mk ?_; intro K hK)
    | fail
  all_goals (try (refine ret_of (by simp) ⟨_, _, _, evl, ob0, OutOk.sims ?_ fre⟩))
  all_goals first | exact Sims.refl _ | (refine Sims.of_eq ?_; first | rfl | (simp [formedP]; done) | (simp_all [formedP]; done) | (simp_all [formedP]; omega) | (simp [formedP]; grind) | (simp [formedP]; grind) | (split <;> simp_all)) | exact simsF | (refine Sims.tup ?_; simp only [SimsL, and_true]; (repeat' apply And.intro) <;> first | exact simsF | skip) | (exfalso; first | omega | (simp_all; done) | (simp_all; omega)) | skip
end Go.Proofs.YtchpbdecipcelaaGreatDoor
namespace Go.Proofs.YtchpbdecipcelaaGreatDoor
set_option linter.unusedVariables false
set_option linter.unusedSimpArgs false
set_option maxHeartbeats 4000000
set_option maxRecDepth 100000
open Go.RowKit
theorem validIR_A (i : Iv) : FnA Tryz.prog 107 [.agg i.av] (.raw (.bool (decide (0 ≤ i.lo) && decide (i.lo ≤ i.hi) && decide (i.hi ≤ 3000000000000000)))) := by
  refine fnA_of tblOk Tryz.func107 rfl (by kernel_rfl) 18 Tryz.ntmps107 lenT [.tmp 2] rfl ?_
  simp only [entrySt, argSl, Nat.zero_add, Nat.reduceAdd]
  repeat' first
    | refine wkG trivial ?_
    | (refine cndS ⟨_, evl, ⟨cb, cb⟩, fun hb => ?_, fun hb => ?_⟩ <;> try (cases hb; done))
    | (refine Stop.mk ?_; intro K hK)
    | fail
  all_goals (try (refine ret_of (by simp) ⟨_, _, _, evl, ob0, OutOk.sims ?_ fre⟩))
  all_goals first | exact Sims.refl _ | exact finT | exact simsF | (refine Sims.tup ?_; simp only [SimsL, and_true]; (repeat' apply And.intro) <;> first | exact simsF | skip) | (exfalso; first | omega | (simp_all; done) | (simp_all; omega)) | skip
end Go.Proofs.YtchpbdecipcelaaGreatDoor
namespace Go.Proofs.YtchpbdecipcelaaGreatDoor
set_option linter.unusedVariables false
set_option linter.unusedSimpArgs false
set_option maxHeartbeats 4000000
set_option maxRecDepth 100000
open Go.RowKit
abbrev ka : KeyWin := ⟨2, 1, 1024, 0, 100, ⟨0, 0⟩⟩
abbrev kb : KeyWin := ⟨2, 1, 1024, 0, 70, ⟨0, 0⟩⟩
abbrev wr : Wire := ⟨1, 2, [⟨0, 2, 4, 0, 0⟩]⟩
theorem ka_fits : ∀ k ∈ [ka], k.fits := by
  intro k hk
  simp only [List.mem_cons, List.not_mem_nil, or_false] at hk
  subst hk
  simp [KeyWin.fits, Sig.fits, inK]
theorem in11_A (n lo hi : Int) : FnA Tryz.prog 167 [.raw (.int .i64 n), .raw (.int .i64 lo), .raw (.int .i64 hi)] (.raw (.bool (decide (lo ≤ n) && decide (n ≤ hi)))) := by
  refine fnA_of tblOk Tryz.func167 rfl (by kernel_rfl) 15 Tryz.ntmps167 lenT [.tmp 6] rfl ?_
  simp only [entrySt, argSl, Nat.zero_add, Nat.reduceAdd]
  repeat' first
    | refine wkG trivial ?_
    | (refine cndS ⟨_, evl, ⟨cb, cb⟩, fun hb => ?_, fun hb => ?_⟩ <;> try (cases hb; done))
    | (refine Stop.mk ?_; intro K hK)
    | fail
  all_goals (try (refine ret_of (by simp) ⟨_, _, _, evl, ob0, OutOk.sims ?_ fre⟩))
  all_goals first | exact Sims.refl _ | exact finT | exact simsF | (refine Sims.tup ?_; simp only [SimsL, and_true]; (repeat' apply And.intro) <;> first | exact simsF | skip) | (exfalso; first | omega | (simp_all; done) | (simp_all; omega)) | skip
theorem request11_A (r : Request) : FnA Tryz.prog 166 [.agg r.av] (.raw (.bool (decide (reqP r.host r.auth r.round)))) := by
  refine fnA_of tblOk Tryz.func166 rfl (by kernel_rfl) 22 Tryz.ntmps166 lenT [.tmp 2] rfl ?_
  simp only [entrySt, argSl, Nat.zero_add, Nat.reduceAdd]
  repeat' first
    | (refine wkM hK in11_A ?_)
    | refine wkG in11_A ?_
    | (refine cndS ⟨_, evl, ⟨cb, cb⟩, fun hb => ?_, fun hb => ?_⟩ <;> try (cases hb; done))
    | (refine Stop.mk ?_; intro K hK)
    | fail
  all_goals (try (refine ret_of (by simp) ⟨_, _, _, evl, ob0, OutOk.sims ?_ fre⟩))
  all_goals first | exact Sims.refl _ | (refine Sims.of_eq ?_; first | rfl | (simp [reqP]; done) | (simp_all [reqP]; done) | (simp_all [reqP]; omega) | (simp [reqP]; grind) | (split <;> simp_all)) | exact simsF | (refine Sims.tup ?_; simp only [SimsL, and_true]; (repeat' apply And.intro) <;> first | exact simsF | skip) | (exfalso; first | omega | (simp_all; done) | (simp_all; omega)) | skip
theorem reply11_A (r : Reply) : FnA Tryz.prog 113 [.agg r.av] (.raw (.bool (decide (replyP r)))) := by
  have hr := request11_A ⟨r.host, r.auth, r.round, 0⟩
  have hi := validIR_A r.stamp
  simp only at hr
  refine fnA_of tblOk Tryz.func113 rfl (by kernel_rfl) 50 Tryz.ntmps113 lenT [.tmp 2] rfl ?_
  simp only [entrySt, argSl, Nat.zero_add, Nat.reduceAdd]
  repeat' first
    | (refine wkM hK (And.intro hr (And.intro in11_A hi)) ?_)
    | refine wkG (And.intro hr (And.intro in11_A hi)) ?_
    | (refine cndS ⟨_, evl, ⟨cb, cb⟩, fun hb => ?_, fun hb => ?_⟩ <;> try (cases hb; done))
    | (refine Stop.mk ?_; intro K hK)
    | fail
  all_goals (try (refine ret_of (by simp) ⟨_, _, _, evl, ob0, OutOk.sims ?_ fre⟩))
  all_goals first | exact Sims.refl _ | (refine Sims.of_eq ?_; first | rfl | (simp [replyP]; done) | (simp_all [replyP]; done) | (simp_all [replyP]; omega) | (simp [replyP]; grind) | (split <;> simp_all)) | exact simsF | (refine Sims.tup ?_; simp only [SimsL, and_true]; (repeat' apply And.intro) <;> first | exact simsF | skip) | (exfalso; first | omega | (simp_all; done) | (simp_all; omega)) | skip
end Go.Proofs.YtchpbdecipcelaaGreatDoor
namespace Go.Proofs.YtchpbdecipcelaaGreatDoor
set_option linter.unusedVariables false
set_option linter.unusedSimpArgs false
set_option maxHeartbeats 4000000
set_option maxRecDepth 100000
open Go.RowKit
theorem upperR_A (n : Int) (hn : inK .u64 n) : FnA Tryz.prog 169 [.raw (.int .u64 n)] (.raw (.int .i64 (n / 4294967296))) := by
  simp only [inK] at hn
  have h1 : inK .i64 (n.fdiv (2 ^ min (Int.toNat 32) 64)) := by rw [hi_eq]; simp only [inK]; omega
  refine fnA_of tblOk Tryz.func169 rfl (by kernel_rfl) 6 Tryz.ntmps169 lenT [.tmp 2] rfl ?_
  simp only [entrySt, argSl, Nat.zero_add, Nat.reduceAdd]
  repeat' first
    | refine wkG trivial ?_
    | (refine cndS ⟨_, evl, ⟨cb, cb⟩, fun hb => ?_, fun hb => ?_⟩ <;> try (cases hb; done))
    | (refine Stop.mk ?_; intro K hK)
    | fail
  refine ret_of (by simp) ⟨_, _, _, evl, ob0, OutOk.eq ?_ ?_⟩
  · rw [hi_eq]
  · simp [AV.free, AV.freeL]
theorem lowerR_A (n : Int) (hn : inK .u64 n) : FnA Tryz.prog 170 [.raw (.int .u64 n)] (.raw (.int .i64 (n % 4294967296))) := by
  have h2 := lo_eq hn
  simp only [inK] at hn
  have h3 : inK .i64 (bitI .and .u64 n 4294967295) := by rw [h2]; simp only [inK]; omega
  refine fnA_of tblOk Tryz.func170 rfl (by kernel_rfl) 6 Tryz.ntmps170 lenT [.tmp 2] rfl ?_
  simp only [entrySt, argSl, Nat.zero_add, Nat.reduceAdd]
  repeat' first
    | refine wkG trivial ?_
    | (refine cndS ⟨_, evl, ⟨cb, cb⟩, fun hb => ?_, fun hb => ?_⟩ <;> try (cases hb; done))
    | (refine Stop.mk ?_; intro K hK)
    | fail
  refine ret_of (by simp) ⟨_, _, _, evl, ob0, OutOk.eq ?_ ?_⟩
  · rw [h2]
  · simp [AV.free, AV.freeL]
theorem rmessageR_A (r : Reply) (hn : inK .u64 r.nonce) : FnA Tryz.prog 116 [.agg r.av] (liA (msgR r)) := by
  have h1 := upperR_A r.nonce hn
  have h2 := lowerR_A r.nonce hn
  refine fnA_of tblOk Tryz.func116 rfl (by kernel_rfl) 26 Tryz.ntmps116 lenT [.tmp 2] rfl ?_
  simp only [entrySt, argSl, Nat.zero_add, Nat.reduceAdd]
  repeat' first
    | refine wkG (And.intro h1 h2) ?_
    | (refine cndS ⟨_, evl, ⟨cb, cb⟩, fun hb => ?_, fun hb => ?_⟩ <;> try (cases hb; done))
    | (refine Stop.mk ?_; intro K hK)
    | fail
  refine ret_of (by simp) ⟨_, _, _, evl, ob0, OutOk.sims ?_ fre⟩
  exact (Sim.lstE rfl fun i hi => chunk_lit (enc := iC) (l := msgR r) (fun _ => rfl) rfl hi).s
end Go.Proofs.YtchpbdecipcelaaGreatDoor
namespace Go.Proofs.YtchpbdecipcelaaGreatDoor
set_option linter.unusedVariables false
set_option linter.unusedSimpArgs false
set_option maxHeartbeats 4000000
set_option maxRecDepth 100000
open Go.RowKit
theorem signM_ok {key once : Int} {m : List Int} (hk : withinM key 1 = true) (ho : withinM once 1 = true) : (signM key once m).2 = 0 := by
  unfold signM; rw [hk, ho]; rfl
theorem rsignR_A (key once : Int) (r : Reply) (hf : r.fits) : FnA Tryz.prog 70 [.raw (.int .i64 key), .raw (.int .i64 once), .agg r.av] (.tup [.agg (rsignM key once r).1.av, .raw (.int .i64 (rsignM key once r).2)]) := by
  have hb : (bare r).fits := ⟨hf.1, hf.2.1, hf.2.2.1, hf.2.2.2.1, hf.2.2.2.2.1, hf.2.2.2.2.2.1, hf.2.2.2.2.2.2.1, by simp [Sig.fits, inK]⟩
  have hv := reply11_A (bare r)
  have hm := rmessageR_A (bare r) hf.2.2.2.1
  have hs := signR_A key once (msgR (bare r)) (okI_msgR hb) (by simp [msgR])
  have k1 := keyR_A key
  have k2 := keyR_A once
  have hfm : (liA (msgR (bare r))).free := lA_free (fun _ => by simp [AV.free, AV.freeL, iC]) _
  have e0 : ¬ (withinM key 1 = true ∧ withinM once 1 = true) → signM key once (msgR (bare r)) = (⟨0, 0⟩, 1) := fun h => by
    rw [signM, if_neg (by simpa using h)]
  have e1 : withinM key 1 = true ∧ withinM once 1 = true → (signM key once (msgR (bare r))).2 = 0 := fun h => by
    exact signM_ok h.1 h.2
  unfold rsignM
  rw [show msgR r = msgR (bare r) from rfl]
  by_cases h1 : replyP (bare r)
  · rw [if_pos h1]
    rw [decide_eq_true h1] at hv
    by_cases h2 : withinM key 1 = true ∧ withinM once 1 = true
    · rw [if_pos (e1 h2)]
      rw [e1 h2] at hs
      rw [h2.1] at k1
      rw [h2.2] at k2
      clear e0 e1 h1 hb
      generalize signM key once (msgR (bare r)) = s at *
      generalize liA (msgR (bare r)) = M at *
      refine fnA_of tblOk Tryz.func70 rfl (by kernel_rfl) 43 Tryz.ntmps70 lenT [.cell 6 94, .tmp 7] rfl ?_
      simp only [entrySt, argSl, Nat.zero_add, Nat.reduceAdd]
      repeat' first
        | refine wkG (And.intro hv (And.intro k1 (And.intro k2 (And.intro hm hs)))) ?_
        | (refine cndS ⟨_, evl, ⟨cb, cb⟩, fun hb => ?_, fun hb => ?_⟩ <;> try (cases hb; done))
        | (refine Stop.mk ?_; intro K hK)
        | fail
      refine ret_of (by simp) ⟨_, _, _, evl, ob0, OutOk.eq ?_ ?_⟩
      · rfl
      · simp [AV.free, AV.freeL, go_sem]
    · rw [e0 h2, if_neg (by decide)]
      clear hs hm e0 e1 hb h1
      generalize withinM key 1 = b1 at *
      generalize withinM once 1 = b2 at *
      refine fnA_of tblOk Tryz.func70 rfl (by kernel_rfl) 43 Tryz.ntmps70 lenT [.cell 6 94, .tmp 7] rfl ?_
      simp only [entrySt, argSl, Nat.zero_add, Nat.reduceAdd]
      repeat' first
        | refine wkG (And.intro hv (And.intro k1 k2)) ?_
        | (refine cndS ⟨_, evl, ⟨cb, cb⟩, fun hb => ?_, fun hb => ?_⟩ <;> try (cases hb; done))
        | (refine Stop.mk ?_; intro K hK)
        | fail
      · refine ret_of (by simp) ⟨_, _, _, evl, ob0, OutOk.eq ?_ ?_⟩
        · rfl
        · simp [AV.free, AV.freeL, go_sem]
      · exact absurd hb h2
  · rw [if_neg h1]
    rw [decide_eq_false h1] at hv
    refine fnA_of tblOk Tryz.func70 rfl (by kernel_rfl) 43 Tryz.ntmps70 lenT [.cell 6 94, .tmp 7] rfl ?_
    simp only [entrySt, argSl, Nat.zero_add, Nat.reduceAdd]
    repeat' first
      | refine wkG (And.intro hv (And.intro k1 k2)) ?_
      | (refine cndS ⟨_, evl, ⟨cb, cb⟩, fun hb => ?_, fun hb => ?_⟩ <;> try (cases hb; done))
      | (refine Stop.mk ?_; intro K hK)
      | fail
    refine ret_of (by simp) ⟨_, _, _, evl, ob0, OutOk.eq ?_ ?_⟩
    · rfl
    · simp [AV.free, AV.freeL, go_sem]
end Go.Proofs.YtchpbdecipcelaaGreatDoor
