/- package group and its reference: challenges, signatures. -/
import Derived.Test.YtihnjbnlbedpaaaGreatDoorDec
namespace Go.Proofs.YtihnjbnlbedpaaaGreatDoor
set_option linter.unusedVariables false
set_option linter.unusedSimpArgs false
set_option maxHeartbeats 4000000
set_option maxRecDepth 100000
open Go.RowKit
def dI (l : List Int) : Int := fnvL (txtL l)
theorem u64wrap_range (n : Int) : 0 ≤ IntKind.u64.wrap n ∧ IntKind.u64.wrap n < 18446744073709551616 := by
  rw [show IntKind.u64.wrap n = n % 18446744073709551616 from by simp only [IntKind.wrap, IntKind.bits, IntKind.signed]; simp; try omega]
  omega
theorem fnv_range (x : Nat → Int) (n : Nat) : 0 ≤ fnv x n ∧ fnv x n < 18446744073709551616 := by
  cases n with
  | zero => simp [fnv]
  | succ n => exact u64wrap_range _
theorem dI_range (l : List Int) : 0 ≤ dI l ∧ dI l < 18446744073709551616 := fnv_range _ _
theorem txt_list (l : List Int) : ∀ k, k ≤ l.length → txt (fun q => l.getD q 0) k = txtL (l.take k)
  | 0, _ => by simp [txt, txtL]
  | k + 1, h => by rw [txt, txt_list l k (by omega), take_succ_getD l (by omega), txtL_snoc]
theorem ints_L (l : List Int) (h : okI l) (h0 : l ≠ []) (hn : l.length ≤ 1000000) : FnA Tryz.prog 186 [liA l] (.raw (.int .u64 (dI l))) := by
  have hp : 0 < l.length := List.length_pos_iff.2 h0
  have := ints_A l.length (fun q => l.getD q 0) (fun q hq => by have := okI_getD h hq; simpa only [inK] using this) hp hn
  rw [txt_list l _ (Nat.le_refl _), List.take_length] at this
  exact this.sim ⟨Sim.lstE rfl fun i _ => rfl, trivial⟩
theorem intsR_A (l : List Int) (h : okI l) (hn : l.length ≤ 1000000) : FnA Tryz.prog 80 [liA l] (.raw (.int .u64 (dI l))) := by
  have hl := txtL_length h
  refine fnA_of tblOk Tryz.func80 rfl (by kernel_rfl) 6 Tryz.ntmps80 (by simp only [List.length_cons, List.length_nil]; omega) [.tmp 2] rfl ?_
  simp only [entrySt, argSl, Nat.zero_add, Nat.reduceAdd]
  repeat'
    first
      | first
        | (refine runS_nil (hK _ ?_); clear hK K)
        | refine stG ?_
        | (refine gateS 1 rfl ?_; refine runS_call rfl rfl ⟨_, evl, _, _, _, evl, oblF, ?_⟩; apply Exists.intro; refine ⟨fun hg => ?_, ?_⟩; · first | exact FnA.at_ (textR_A l h hn) rfl rfl | exact FnA.at_ (sumR_A (txtL l) (by omega)) rfl rfl | exact FnA.at_s (textR_A l h hn) rfl simT | exact FnA.at_s (textR_A l h hn) rfl simF | exact FnA.at_s (sumR_A (txtL l) (by omega)) rfl simT | exact FnA.at_s (sumR_A (txtL l) (by omega)) rfl simF)
        | (refine gateA 1 rfl ?_; refine runA_call rfl ⟨_, evl, _, _, _, (fun _ _ => evlA), oblF, ?_⟩; apply Exists.intro; refine ⟨fun hg => ?_, ?_⟩; · first | exact FnA.at_ (textR_A l h hn) rfl rfl | exact FnA.at_ (sumR_A (txtL l) (by omega)) rfl rfl | exact FnA.at_s (textR_A l h hn) rfl simT | exact FnA.at_s (textR_A l h hn) rfl simF | exact FnA.at_s (sumR_A (txtL l) (by omega)) rfl simT | exact FnA.at_s (sumR_A (txtL l) (by omega)) rfl simF)
        | (refine gateA 1 rfl ?_; refine runA_put ?_)
        | (refine gateBc ?_; first | (refine runB_nil (hK _ ?_); clear hK K) | (refine runB_op rfl ⟨_, evl, fun nb' => ?_⟩))
        | refine wpA_region (fun K hK => ?_)
        | (refine gateD ?_; first | (refine wpA_drawG false rfl (by kernel_rfl) (by kernel_rfl) (fun K hK => ?_)) | (refine wpA_drawG true rfl (by kernel_rfl) (by kernel_rfl) (fun K hK => ?_)))
        | (refine wpA_cond' ⟨_, evl, fun hb => ?_, fun hb => ?_⟩ <;> (try simp only [Bool.or_eq_true, Bool.and_eq_true, Bool.or_eq_false_iff, Bool.and_eq_false_iff, Bool.not_eq_true', Bool.not_eq_false', Bool.not_eq_true, Bool.not_eq_false, decide_eq_true_eq, decide_eq_false_iff_not, Bool.true_eq_false, Bool.false_eq_true, ne_eq, Classical.not_not, Int.not_lt, Int.not_le, Bool.not_true, Bool.not_false] at hb))
      | fail
  all_goals (try (refine ret_of (by simp) ⟨_, _, _, evl, ob0, OutOk.sims ?_ (by first | (simp [AV.free, AV.freeL, go_sem]; done) | exact lA_free (fun _ => by simp [AV.free, AV.freeL, u8C, iC]) _ | (simp_all [AV.free, AV.freeL, sA, u8C, iC]; done))⟩))
  all_goals first | exact Sims.refl _ | (refine Sims.of_eq ?_; first | rfl | (simp [dI]; done) | (simp_all [dI]; done) | (simp_all [dI]; omega) | (simp [dI]; grind) | (split <;> simp_all)) | exact simsF | (refine Sims.tup ?_; simp only [SimsL, and_true]; (repeat' apply And.intro) <;> first | exact simsF | skip) | (exfalso; first | omega | (simp_all; done) | (simp_all; omega)) | skip
def chalM (b p : Int) (m : List Int) : Int := (dI (b :: p :: m)).tmod 1073741789
theorem chalM_range (b p : Int) (m : List Int) : 0 ≤ chalM b p m ∧ chalM b p m < 1073741789 := by
  have h := dI_range (b :: p :: m)
  unfold chalM
  rw [Int.tmod_eq_emod_of_nonneg h.1]
  omega
theorem appEl_two (b p : Int) (m : List Int) : ∀ i, i < 2 + m.length → appEl 2 (chunkA 1 [.raw (.int .i64 b), .raw (.int .i64 p)]) (els iC m) i = els iC (b :: p :: m) i := by
  intro i hi
  match i with
  | 0 => rfl
  | 1 => rfl
  | i + 2 => rw [appEl_ge (by omega)]; rfl
theorem challenge_A (b p : Int) (m : List Int) (h : okI (b :: p :: m)) (hn : m.length ≤ 999998) : FnA Tryz.prog 132 [.raw (.int .i64 b), .raw (.int .i64 p), liA m] (.raw (.int .i64 (chalM b p m))) := by
  have hr := dI_range (b :: p :: m)
  have hc := chalM_range b p m
  have e1 := ints_L (b :: p :: m) h (by simp) (by simp; omega)
  unfold chalM at hc ⊢
  generalize dI (b :: p :: m) = d at *
  refine fnA_of tblOk Tryz.func132 rfl (by kernel_rfl) 17 Tryz.ntmps132 (by simp only [List.length_cons, List.length_nil]; omega) [.tmp 6] rfl ?_
  simp only [entrySt, argSl, Nat.zero_add, Nat.reduceAdd]
  repeat'
    first
      | first
        | (refine runS_nil (hK _ ?_); clear hK K)
        | refine stR ?_
        | (refine gateS 1 rfl ?_; first | (refine runS_call rfl rfl ⟨_, evl, _, _, _, evl, oblF, ?_⟩; apply Exists.intro; refine ⟨fun hg => ?_, ?_⟩; · first | exact FnA.sim e1 ⟨Sim.lstE (by simp; omega) (fun i hi => appEl_two b p m i hi), trivial⟩ ) | (refine runS_callR rfl rfl ⟨_, evl, _, _, _, evl, _, _, evl, oblF, ?_⟩; apply Exists.intro; refine ⟨fun hg => ?_, ?_⟩; · first | exact FnA.sim e1 ⟨Sim.lstE (by simp; omega) (fun i hi => appEl_two b p m i hi), trivial⟩ ))
        | (refine gateA 1 rfl ?_; refine runA_call rfl ⟨_, evl, _, _, _, (fun _ _ => evlA), oblF, ?_⟩; apply Exists.intro; refine ⟨fun hg => ?_, ?_⟩; · first | exact FnA.sim e1 ⟨Sim.lstE (by simp; omega) (fun i hi => appEl_two b p m i hi), trivial⟩ )
        | (refine gateA 1 rfl ?_; refine runA_put ?_)
        | (refine gateBc ?_; first | (refine runB_nil (hK _ ?_); clear hK K) | (refine runB_op rfl ⟨_, evl, fun nb' => ?_⟩))
        | refine wpA_region (fun K hK => ?_)
        | (refine gateD ?_; first | (refine wpA_drawG false rfl (by kernel_rfl) (by kernel_rfl) (fun K hK => ?_)) | (refine wpA_drawG true rfl (by kernel_rfl) (by kernel_rfl) (fun K hK => ?_)))
        | (refine wpA_cond' ⟨_, evl, fun hb => ?_, fun hb => ?_⟩ <;> (try simp only [Bool.or_eq_true, Bool.and_eq_true, Bool.or_eq_false_iff, Bool.and_eq_false_iff, Bool.not_eq_true', Bool.not_eq_false', Bool.not_eq_true, Bool.not_eq_false, decide_eq_true_eq, decide_eq_false_iff_not, Bool.true_eq_false, Bool.false_eq_true, ne_eq, Classical.not_not, Int.not_lt, Int.not_le, Bool.not_true, Bool.not_false] at hb))
      | fail
  all_goals (try (refine ret_of (by simp) ⟨_, _, _, evl, ob0, OutOk.sims ?_ (by first | (simp [AV.free, AV.freeL, go_sem]; done) | exact lA_free (fun _ => by simp [AV.free, AV.freeL, u8C, iC]) _ | (simp_all [AV.free, AV.freeL, sA, u8C, iC]; done))⟩))
  all_goals first | exact Sims.refl _ | (refine Sims.of_eq ?_; first | rfl | (simp []; done) | (simp_all []; done) | (simp_all []; omega) | (simp []; grind) | (split <;> simp_all)) | exact simsF | (refine Sims.tup ?_; simp only [SimsL, and_true]; (repeat' apply And.intro) <;> first | exact simsF | skip) | (exfalso; first | omega | (simp_all; done) | (simp_all; omega)) | skip
theorem challengeR_A (b p : Int) (m : List Int) (h : okI (b :: p :: m)) (hn : m.length ≤ 999998) : FnA Tryz.prog 31 [.raw (.int .i64 b), .raw (.int .i64 p), liA m] (.raw (.int .i64 (chalM b p m))) := by
  have hr := dI_range (b :: p :: m)
  have hc := chalM_range b p m
  have e1 := intsR_A (b :: p :: m) h (by simp; omega)
  unfold chalM at hc ⊢
  generalize dI (b :: p :: m) = d at *
  refine fnA_of tblOk Tryz.func31 rfl (by kernel_rfl) 18 Tryz.ntmps31 (by simp only [List.length_cons, List.length_nil]; omega) [.tmp 6] rfl ?_
  simp only [entrySt, argSl, Nat.zero_add, Nat.reduceAdd]
  repeat'
    first
      | first
        | (refine runS_nil (hK _ ?_); clear hK K)
        | refine stR ?_
        | (refine gateS 1 rfl ?_; first | (refine runS_call rfl rfl ⟨_, evl, _, _, _, evl, oblF, ?_⟩; apply Exists.intro; refine ⟨fun hg => ?_, ?_⟩; · first | exact FnA.sim e1 ⟨Sim.lstE (by simp; omega) (fun i hi => appEl_two b p m i hi), trivial⟩ ) | (refine runS_callR rfl rfl ⟨_, evl, _, _, _, evl, _, _, evl, oblF, ?_⟩; apply Exists.intro; refine ⟨fun hg => ?_, ?_⟩; · first | exact FnA.sim e1 ⟨Sim.lstE (by simp; omega) (fun i hi => appEl_two b p m i hi), trivial⟩ ))
        | (refine gateA 1 rfl ?_; refine runA_call rfl ⟨_, evl, _, _, _, (fun _ _ => evlA), oblF, ?_⟩; apply Exists.intro; refine ⟨fun hg => ?_, ?_⟩; · first | exact FnA.sim e1 ⟨Sim.lstE (by simp; omega) (fun i hi => appEl_two b p m i hi), trivial⟩ )
        | (refine gateA 1 rfl ?_; refine runA_put ?_)
        | (refine gateBc ?_; first | (refine runB_nil (hK _ ?_); clear hK K) | (refine runB_op rfl ⟨_, evl, fun nb' => ?_⟩))
        | refine wpA_region (fun K hK => ?_)
        | (refine gateD ?_; first | (refine wpA_drawG false rfl (by kernel_rfl) (by kernel_rfl) (fun K hK => ?_)) | (refine wpA_drawG true rfl (by kernel_rfl) (by kernel_rfl) (fun K hK => ?_)))
        | (refine wpA_cond' ⟨_, evl, fun hb => ?_, fun hb => ?_⟩ <;> (try simp only [Bool.or_eq_true, Bool.and_eq_true, Bool.or_eq_false_iff, Bool.and_eq_false_iff, Bool.not_eq_true', Bool.not_eq_false', Bool.not_eq_true, Bool.not_eq_false, decide_eq_true_eq, decide_eq_false_iff_not, Bool.true_eq_false, Bool.false_eq_true, ne_eq, Classical.not_not, Int.not_lt, Int.not_le, Bool.not_true, Bool.not_false] at hb))
      | fail
  all_goals (try (refine ret_of (by simp) ⟨_, _, _, evl, ob0, OutOk.sims ?_ (by first | (simp [AV.free, AV.freeL, go_sem]; done) | exact lA_free (fun _ => by simp [AV.free, AV.freeL, u8C, iC]) _ | (simp_all [AV.free, AV.freeL, sA, u8C, iC]; done))⟩))
  all_goals first | exact Sims.refl _ | (refine Sims.of_eq ?_; first | rfl | (simp []; done) | (simp_all []; done) | (simp_all []; omega) | (simp []; grind) | (split <;> simp_all)) | exact simsF | (refine Sims.tup ?_; simp only [SimsL, and_true]; (repeat' apply And.intro) <;> first | exact simsF | skip) | (exfalso; first | omega | (simp_all; done) | (simp_all; omega)) | skip
structure Sig where
  c : Int
  s : Int
  deriving Inhabited, DecidableEq
@[go_sem] def Sig.av (x : Sig) : List AV := [.raw (.int .i64 x.c), .raw (.int .i64 x.s)]
def Sig.fits (x : Sig) : Prop := (inK .i64 x.c) ∧ (inK .i64 x.s)
@[simp] theorem Sig.free (x : Sig) : AV.freeL x.av := ⟨trivial, trivial, trivial⟩
def signM (key once : Int) (m : List Int) : Sig × Int :=
  if withinM key 1 && withinM once 1 then (⟨chalM (powM 4 once.toNat) (powM 4 key.toNat) m, (once + chalM (powM 4 once.toNat) (powM 4 key.toNat) m * key).tmod 1073741789⟩, 0) else (⟨0, 0⟩, 1)
theorem withinM_iff (x low : Int) : withinM x low = true ↔ low ≤ x ∧ x < 1073741789 := by simp [withinM]
theorem mulQ {c k : Int} (hc : 0 ≤ c ∧ c < 1073741789) (hk : 0 ≤ k ∧ k < 1073741789) : 0 ≤ c * k ∧ c * k ≤ 1152921504606846976 := by
  refine ⟨Int.mul_nonneg hc.1 hk.1, ?_⟩
  have := Int.mul_le_mul (show c ≤ 1073741824 by omega) (show k ≤ 1073741824 by omega) hk.1 (by omega)
  omega
theorem powM_okI {a x : Nat} (h : x < 18446744073709551616) : inK .i64 (powM a x : Int) := by
  have := powM_lt a x h
  simp only [inK]; omega
theorem sign_A (key once : Int) (m : List Int) (h : okI m) (hn : m.length ≤ 999998) : FnA Tryz.prog 60 [.raw (.int .i64 key), .raw (.int .i64 once), liA m] (.tup [.agg (signM key once m).1.av, .raw (.int .i64 (signM key once m).2)]) := by
  have hw1 := withinM_iff key 1
  have hw2 := withinM_iff once 1
  by_cases hb : withinM key 1 = true ∧ withinM once 1 = true
  · have hk := hw1.1 hb.1
    have ho := hw2.1 hb.2
    have hP := pow_A 4 once (by omega) (by omega)
    have hKy := pow_A 4 key (by omega) (by omega)
    have hok : okI ((powM (Int.toNat 4) once.toNat : Int) :: (powM (Int.toNat 4) key.toNat : Int) :: m) := by
      intro n hn
      rcases List.mem_cons.1 hn with rfl | hn
      · exact powM_okI (by omega)
      · rcases List.mem_cons.1 hn with rfl | hn
        · exact powM_okI (by omega)
        · exact h n hn
    have hC := challenge_A _ _ _ hok hn
    have hcr := chalM_range (powM (Int.toNat 4) once.toNat) (powM (Int.toNat 4) key.toNat) m
    have hmul := mulQ hcr (show 0 ≤ key ∧ key < 1073741789 by omega)
    have e : signM key once m = (⟨chalM (powM (Int.toNat 4) once.toNat) (powM (Int.toNat 4) key.toNat) m, (once + chalM (powM (Int.toNat 4) once.toNat) (powM (Int.toNat 4) key.toNat) m * key).tmod 1073741789⟩, 0) := by
      rw [signM, hb.1, hb.2]; rfl
    rw [e]
    generalize chalM (powM (Int.toNat 4) once.toNat) (powM (Int.toNat 4) key.toNat) m = c at *
    generalize (powM (Int.toNat 4) once.toNat : Int) = p1 at *
    generalize (powM (Int.toNat 4) key.toNat : Int) = p2 at *
    refine fnA_of tblOk Tryz.func60 rfl (by kernel_rfl) 32 Tryz.ntmps60 (by simp only [List.length_cons, List.length_nil]; omega) [.cell 6 29, .tmp 7] rfl ?_
    simp only [entrySt, argSl, Nat.zero_add, Nat.reduceAdd]
    repeat'
      first
        | first
          | (refine runS_nil (hK _ ?_); clear hK K)
          | refine stG ?_
          | (refine gateS 1 rfl ?_; refine runS_call rfl rfl ⟨_, evl, _, _, _, evl, oblF, ?_⟩; apply Exists.intro; refine ⟨fun hg => ?_, ?_⟩; · first | exact FnA.at_ (within_A key 1) rfl rfl | exact FnA.at_ (within_A once 1) rfl rfl | exact FnA.at_ (hP) rfl rfl | exact FnA.at_ (hKy) rfl rfl | exact FnA.at_ (hC) rfl rfl | exact FnA.at_s (within_A key 1) rfl simT | exact FnA.at_s (within_A key 1) rfl simF | exact FnA.at_s (within_A once 1) rfl simT | exact FnA.at_s (within_A once 1) rfl simF | exact FnA.at_s (hP) rfl simT | exact FnA.at_s (hP) rfl simF | exact FnA.at_s (hKy) rfl simT | exact FnA.at_s (hKy) rfl simF | exact FnA.at_s (hC) rfl simT | exact FnA.at_s (hC) rfl simF)
          | (refine gateA 1 rfl ?_; refine runA_call rfl ⟨_, evl, _, _, _, (fun _ _ => evlA), oblF, ?_⟩; apply Exists.intro; refine ⟨fun hg => ?_, ?_⟩; · first | exact FnA.at_ (within_A key 1) rfl rfl | exact FnA.at_ (within_A once 1) rfl rfl | exact FnA.at_ (hP) rfl rfl | exact FnA.at_ (hKy) rfl rfl | exact FnA.at_ (hC) rfl rfl | exact FnA.at_s (within_A key 1) rfl simT | exact FnA.at_s (within_A key 1) rfl simF | exact FnA.at_s (within_A once 1) rfl simT | exact FnA.at_s (within_A once 1) rfl simF | exact FnA.at_s (hP) rfl simT | exact FnA.at_s (hP) rfl simF | exact FnA.at_s (hKy) rfl simT | exact FnA.at_s (hKy) rfl simF | exact FnA.at_s (hC) rfl simT | exact FnA.at_s (hC) rfl simF)
          | (refine gateA 1 rfl ?_; refine runA_put ?_)
          | (refine gateBc ?_; first | (refine runB_nil (hK _ ?_); clear hK K) | (refine runB_op rfl ⟨_, evl, fun nb' => ?_⟩))
          | refine wpA_region (fun K hK => ?_)
          | (refine gateD ?_; first | (refine wpA_drawG false rfl (by kernel_rfl) (by kernel_rfl) (fun K hK => ?_)) | (refine wpA_drawG true rfl (by kernel_rfl) (by kernel_rfl) (fun K hK => ?_)))
          | (refine wpA_cond' ⟨_, evl, fun hb => ?_, fun hb => ?_⟩ <;> (try simp only [Bool.or_eq_true, Bool.and_eq_true, Bool.or_eq_false_iff, Bool.and_eq_false_iff, Bool.not_eq_true', Bool.not_eq_false', Bool.not_eq_true, Bool.not_eq_false, decide_eq_true_eq, decide_eq_false_iff_not, Bool.true_eq_false, Bool.false_eq_true, ne_eq, Classical.not_not, Int.not_lt, Int.not_le, Bool.not_true, Bool.not_false] at hb))
        | fail
    all_goals (try (refine ret_of (by simp) ⟨_, _, _, evl, ob0, OutOk.sims ?_ (by first | (simp [AV.free, AV.freeL, go_sem]; done) | exact lA_free (fun _ => by simp [AV.free, AV.freeL, u8C, iC]) _ | (simp_all [AV.free, AV.freeL, sA, u8C, iC]; done))⟩))
    all_goals first | exact Sims.refl _ | (refine Sims.of_eq ?_; first | rfl | (simp [Sig.av]; done) | (simp_all [Sig.av]; done) | (simp_all [Sig.av]; omega) | (simp [Sig.av]; grind) | (split <;> simp_all)) | exact simsF | (refine Sims.tup ?_; simp only [SimsL, and_true]; (repeat' apply And.intro) <;> first | exact simsF | skip) | (exfalso; first | omega | (simp_all; done) | (simp_all; omega)) | skip
  · have e : signM key once m = (⟨0, 0⟩, 1) := by
      rw [signM, if_neg (by simpa using hb)]
    rw [e]
    refine fnA_of tblOk Tryz.func60 rfl (by kernel_rfl) 32 Tryz.ntmps60 (by simp only [List.length_cons, List.length_nil]; omega) [.cell 6 29, .tmp 7] rfl ?_
    simp only [entrySt, argSl, Nat.zero_add, Nat.reduceAdd]
    repeat'
      first
        | first
          | (refine runS_nil (hK _ ?_); clear hK K)
          | refine stG ?_
          | (refine gateS 1 rfl ?_; refine runS_call rfl rfl ⟨_, evl, _, _, _, evl, oblF, ?_⟩; apply Exists.intro; refine ⟨fun hg => ?_, ?_⟩; · first | exact FnA.at_ (within_A key 1) rfl rfl | exact FnA.at_ (within_A once 1) rfl rfl | exact FnA.at_s (within_A key 1) rfl simT | exact FnA.at_s (within_A key 1) rfl simF | exact FnA.at_s (within_A once 1) rfl simT | exact FnA.at_s (within_A once 1) rfl simF)
          | (refine gateA 1 rfl ?_; refine runA_call rfl ⟨_, evl, _, _, _, (fun _ _ => evlA), oblF, ?_⟩; apply Exists.intro; refine ⟨fun hg => ?_, ?_⟩; · first | exact FnA.at_ (within_A key 1) rfl rfl | exact FnA.at_ (within_A once 1) rfl rfl | exact FnA.at_s (within_A key 1) rfl simT | exact FnA.at_s (within_A key 1) rfl simF | exact FnA.at_s (within_A once 1) rfl simT | exact FnA.at_s (within_A once 1) rfl simF)
          | (refine gateA 1 rfl ?_; refine runA_put ?_)
          | (refine gateBc ?_; first | (refine runB_nil (hK _ ?_); clear hK K) | (refine runB_op rfl ⟨_, evl, fun nb' => ?_⟩))
          | refine wpA_region (fun K hK => ?_)
          | (refine gateD ?_; first | (refine wpA_drawG false rfl (by kernel_rfl) (by kernel_rfl) (fun K hK => ?_)) | (refine wpA_drawG true rfl (by kernel_rfl) (by kernel_rfl) (fun K hK => ?_)))
          | (refine wpA_cond' ⟨_, evl, fun hb => ?_, fun hb => ?_⟩ <;> (try simp only [Bool.or_eq_true, Bool.and_eq_true, Bool.or_eq_false_iff, Bool.and_eq_false_iff, Bool.not_eq_true', Bool.not_eq_false', Bool.not_eq_true, Bool.not_eq_false, decide_eq_true_eq, decide_eq_false_iff_not, Bool.true_eq_false, Bool.false_eq_true, ne_eq, Classical.not_not, Int.not_lt, Int.not_le, Bool.not_true, Bool.not_false] at hb))
        | fail
    all_goals (try (refine ret_of (by simp) ⟨_, _, _, evl, ob0, OutOk.sims ?_ (by first | (simp [AV.free, AV.freeL, go_sem]; done) | exact lA_free (fun _ => by simp [AV.free, AV.freeL, u8C, iC]) _ | (simp_all [AV.free, AV.freeL, sA, u8C, iC]; done))⟩))
    all_goals first | exact Sims.refl _ | (refine Sims.of_eq ?_; first | rfl | (simp [Sig.av]; done) | (simp_all [Sig.av]; done) | (simp_all [Sig.av]; omega) | (simp [Sig.av]; grind) | (split <;> simp_all)) | exact simsF | (refine Sims.tup ?_; simp only [SimsL, and_true]; (repeat' apply And.intro) <;> first | exact simsF | skip) | (exfalso; first | omega | (simp_all; done) | (simp_all; omega)) | skip
/-- G to the power of S, times the key to the power of Q - C. -/
def backM (pub : Int) (s : Sig) : Int := ((powM 4 s.s.toNat * powM pub.toNat (1073741789 - s.c).toNat % 2147483579 : Nat) : Int)
def verifyM (pub : Int) (s : Sig) (m : List Int) : Bool × Int :=
  if memberM pub && withinM s.c 0 && withinM s.s 0 then (decide (chalM (backM pub s) pub m = s.c), 0) else (false, 1)
theorem mulP2 {a b : Int} (ha : 0 ≤ a ∧ a < 2147483579) (hb : 0 ≤ b ∧ b < 2147483579) : 0 ≤ a * b ∧ a * b ≤ 4611686018427387904 := by
  refine ⟨Int.mul_nonneg ha.1 hb.1, ?_⟩
  have := Int.mul_le_mul (show a ≤ 2147483648 by omega) (show b ≤ 2147483648 by omega) hb.1 (by omega)
  omega
theorem verify_A (pub : Int) (s : Sig) (m : List Int) (h : okI m) (hp : inK .i64 pub) (hn : m.length ≤ 999998) : FnA Tryz.prog 134 [.raw (.int .i64 pub), .agg s.av, liA m] (.tup [.raw (.bool (verifyM pub s m).1), .raw (.int .i64 (verifyM pub s m).2)]) := by
  have hw1 := withinM_iff s.c 0
  have hw2 := withinM_iff s.s 0
  have hm := memberM_iff pub
  by_cases hb : memberM pub = true ∧ withinM s.c 0 = true ∧ withinM s.s 0 = true
  · have hk := hw1.1 hb.2.1
    have ho := hw2.1 hb.2.2
    have hmm := hm.1 hb.1
    have hP := pow_A 4 s.s (by omega) (by omega)
    have hKy := pow_A pub (1073741789 - s.c) (by omega) (by omega)
    have r1 := powM_lt (Int.toNat 4) s.s.toNat (by omega)
    have r2 := powM_lt pub.toNat (1073741789 - s.c).toNat (by omega)
    have hmul := mulP2 (a := (powM (Int.toNat 4) s.s.toNat : Int)) (b := (powM pub.toNat (1073741789 - s.c).toNat : Int)) (by omega) (by omega)
    have hbk : ((powM (Int.toNat 4) s.s.toNat : Int) * (powM pub.toNat (1073741789 - s.c).toNat : Int)).tmod 2147483579 = backM pub s := by
      rw [← Int.natCast_mul]; rfl
    have hbr : 0 ≤ backM pub s ∧ backM pub s < 2147483579 := by unfold backM; omega
    have hok : okI (backM pub s :: pub :: m) := by
      intro n hn
      rcases List.mem_cons.1 hn with rfl | hn
      · simp only [inK]; omega
      · rcases List.mem_cons.1 hn with rfl | hn
        · exact hp
        · exact h n hn
    have hC := challenge_A _ _ _ hok hn
    have e : verifyM pub s m = (decide (chalM (backM pub s) pub m = s.c), 0) := by
      rw [verifyM, hb.1, hb.2.1, hb.2.2]; rfl
    rw [e]
    have hcr := chalM_range (backM pub s) pub m
    rw [← hbk] at hC hcr ⊢
    generalize chalM _ pub m = c at *
    generalize (powM (Int.toNat 4) s.s.toNat : Int) = p1 at *
    generalize (powM pub.toNat (1073741789 - s.c).toNat : Int) = p2 at *
    refine fnA_of tblOk Tryz.func134 rfl (by kernel_rfl) 43 Tryz.ntmps134 (by simp only [List.length_cons, List.length_nil]; omega) [.tmp 6, .tmp 7] rfl ?_
    simp only [entrySt, argSl, Nat.zero_add, Nat.reduceAdd]
    repeat'
      first
        | first
          | (refine runS_nil (hK _ ?_); clear hK K)
          | refine stG ?_
          | (refine gateS 1 rfl ?_; refine runS_call rfl rfl ⟨_, evl, _, _, _, evl, oblF, ?_⟩; apply Exists.intro; refine ⟨fun hg => ?_, ?_⟩; · first | exact FnA.at_ (within_A s.c 0) rfl rfl | exact FnA.at_ (within_A s.s 0) rfl rfl | exact FnA.at_ (member_A pub) rfl rfl | exact FnA.at_ (hP) rfl rfl | exact FnA.at_ (hKy) rfl rfl | exact FnA.at_ (hC) rfl rfl | exact FnA.at_s (within_A s.c 0) rfl simT | exact FnA.at_s (within_A s.c 0) rfl simF | exact FnA.at_s (within_A s.s 0) rfl simT | exact FnA.at_s (within_A s.s 0) rfl simF | exact FnA.at_s (member_A pub) rfl simT | exact FnA.at_s (member_A pub) rfl simF | exact FnA.at_s (hP) rfl simT | exact FnA.at_s (hP) rfl simF | exact FnA.at_s (hKy) rfl simT | exact FnA.at_s (hKy) rfl simF | exact FnA.at_s (hC) rfl simT | exact FnA.at_s (hC) rfl simF)
          | (refine gateA 1 rfl ?_; refine runA_call rfl ⟨_, evl, _, _, _, (fun _ _ => evlA), oblF, ?_⟩; apply Exists.intro; refine ⟨fun hg => ?_, ?_⟩; · first | exact FnA.at_ (within_A s.c 0) rfl rfl | exact FnA.at_ (within_A s.s 0) rfl rfl | exact FnA.at_ (member_A pub) rfl rfl | exact FnA.at_ (hP) rfl rfl | exact FnA.at_ (hKy) rfl rfl | exact FnA.at_ (hC) rfl rfl | exact FnA.at_s (within_A s.c 0) rfl simT | exact FnA.at_s (within_A s.c 0) rfl simF | exact FnA.at_s (within_A s.s 0) rfl simT | exact FnA.at_s (within_A s.s 0) rfl simF | exact FnA.at_s (member_A pub) rfl simT | exact FnA.at_s (member_A pub) rfl simF | exact FnA.at_s (hP) rfl simT | exact FnA.at_s (hP) rfl simF | exact FnA.at_s (hKy) rfl simT | exact FnA.at_s (hKy) rfl simF | exact FnA.at_s (hC) rfl simT | exact FnA.at_s (hC) rfl simF)
          | (refine gateA 1 rfl ?_; refine runA_put ?_)
          | (refine gateBc ?_; first | (refine runB_nil (hK _ ?_); clear hK K) | (refine runB_op rfl ⟨_, evl, fun nb' => ?_⟩))
          | refine wpA_region (fun K hK => ?_)
          | (refine gateD ?_; first | (refine wpA_drawG false rfl (by kernel_rfl) (by kernel_rfl) (fun K hK => ?_)) | (refine wpA_drawG true rfl (by kernel_rfl) (by kernel_rfl) (fun K hK => ?_)))
          | (refine wpA_cond' ⟨_, evl, fun hb => ?_, fun hb => ?_⟩ <;> (try simp only [Bool.or_eq_true, Bool.and_eq_true, Bool.or_eq_false_iff, Bool.and_eq_false_iff, Bool.not_eq_true', Bool.not_eq_false', Bool.not_eq_true, Bool.not_eq_false, decide_eq_true_eq, decide_eq_false_iff_not, Bool.true_eq_false, Bool.false_eq_true, ne_eq, Classical.not_not, Int.not_lt, Int.not_le, Bool.not_true, Bool.not_false] at hb))
        | fail
    all_goals (try (refine ret_of (by simp) ⟨_, _, _, evl, ob0, OutOk.sims ?_ (by first | (simp [AV.free, AV.freeL, go_sem]; done) | exact lA_free (fun _ => by simp [AV.free, AV.freeL, u8C, iC]) _ | (simp_all [AV.free, AV.freeL, sA, u8C, iC]; done))⟩))
    all_goals first | exact Sims.refl _ | (refine Sims.of_eq ?_; first | rfl | (simp []; done) | (simp_all []; done) | (simp_all []; omega) | (simp []; grind) | (split <;> simp_all)) | exact simsF | (refine Sims.tup ?_; simp only [SimsL, and_true]; (repeat' apply And.intro) <;> first | exact simsF | skip) | (exfalso; first | omega | (simp_all; done) | (simp_all; omega)) | skip
  · have e : verifyM pub s m = (false, 1) := by
      rw [verifyM, if_neg (by simpa [and_assoc] using hb)]
    rw [e]
    refine fnA_of tblOk Tryz.func134 rfl (by kernel_rfl) 43 Tryz.ntmps134 (by simp only [List.length_cons, List.length_nil]; omega) [.tmp 6, .tmp 7] rfl ?_
    simp only [entrySt, argSl, Nat.zero_add, Nat.reduceAdd]
    repeat'
      first
        | first
          | (refine runS_nil (hK _ ?_); clear hK K)
          | refine stG ?_
          | (refine gateS 1 rfl ?_; refine runS_call rfl rfl ⟨_, evl, _, _, _, evl, oblF, ?_⟩; apply Exists.intro; refine ⟨fun hg => ?_, ?_⟩; · first | exact FnA.at_ (within_A s.c 0) rfl rfl | exact FnA.at_ (within_A s.s 0) rfl rfl | exact FnA.at_ (member_A pub) rfl rfl | exact FnA.at_s (within_A s.c 0) rfl simT | exact FnA.at_s (within_A s.c 0) rfl simF | exact FnA.at_s (within_A s.s 0) rfl simT | exact FnA.at_s (within_A s.s 0) rfl simF | exact FnA.at_s (member_A pub) rfl simT | exact FnA.at_s (member_A pub) rfl simF)
          | (refine gateA 1 rfl ?_; refine runA_call rfl ⟨_, evl, _, _, _, (fun _ _ => evlA), oblF, ?_⟩; apply Exists.intro; refine ⟨fun hg => ?_, ?_⟩; · first | exact FnA.at_ (within_A s.c 0) rfl rfl | exact FnA.at_ (within_A s.s 0) rfl rfl | exact FnA.at_ (member_A pub) rfl rfl | exact FnA.at_s (within_A s.c 0) rfl simT | exact FnA.at_s (within_A s.c 0) rfl simF | exact FnA.at_s (within_A s.s 0) rfl simT | exact FnA.at_s (within_A s.s 0) rfl simF | exact FnA.at_s (member_A pub) rfl simT | exact FnA.at_s (member_A pub) rfl simF)
          | (refine gateA 1 rfl ?_; refine runA_put ?_)
          | (refine gateBc ?_; first | (refine runB_nil (hK _ ?_); clear hK K) | (refine runB_op rfl ⟨_, evl, fun nb' => ?_⟩))
          | refine wpA_region (fun K hK => ?_)
          | (refine gateD ?_; first | (refine wpA_drawG false rfl (by kernel_rfl) (by kernel_rfl) (fun K hK => ?_)) | (refine wpA_drawG true rfl (by kernel_rfl) (by kernel_rfl) (fun K hK => ?_)))
          | (refine wpA_cond' ⟨_, evl, fun hb => ?_, fun hb => ?_⟩ <;> (try simp only [Bool.or_eq_true, Bool.and_eq_true, Bool.or_eq_false_iff, Bool.and_eq_false_iff, Bool.not_eq_true', Bool.not_eq_false', Bool.not_eq_true, Bool.not_eq_false, decide_eq_true_eq, decide_eq_false_iff_not, Bool.true_eq_false, Bool.false_eq_true, ne_eq, Classical.not_not, Int.not_lt, Int.not_le, Bool.not_true, Bool.not_false] at hb))
        | fail
    all_goals (try (refine ret_of (by simp) ⟨_, _, _, evl, ob0, OutOk.sims ?_ (by first | (simp [AV.free, AV.freeL, go_sem]; done) | exact lA_free (fun _ => by simp [AV.free, AV.freeL, u8C, iC]) _ | (simp_all [AV.free, AV.freeL, sA, u8C, iC]; done))⟩))
    all_goals first | exact Sims.refl _ | (refine Sims.of_eq ?_; first | rfl | (simp []; done) | (simp_all []; done) | (simp_all []; omega) | (simp []; grind) | (split <;> simp_all)) | exact simsF | (refine Sims.tup ?_; simp only [SimsL, and_true]; (repeat' apply And.intro) <;> first | exact simsF | skip) | (exfalso; first | omega | (simp_all; done) | (simp_all; omega)) | skip
end Go.Proofs.YtihnjbnlbedpaaaGreatDoor
