/- package keys: valid windows, Pub. -/
import Derived.Test.YtihnjbnlbedpaaaGreatDoorKeyB
namespace Go.Proofs.YtihnjbnlbedpaaaGreatDoor
set_option linter.unusedVariables false
set_option linter.unusedSimpArgs false
set_option maxHeartbeats 4000000
set_option maxRecDepth 100000
open Go.RowKit
def followsP (a b : KeyWin) : Prop := b.auth = a.auth ∧ b.id = a.id + 1 ∧ a.from_ < b.from_ ∧ b.from_ ≤ a.until_ ∧ a.until_ < b.until_
instance (a b : KeyWin) : Decidable (followsP a b) := by unfold followsP; infer_instance
theorem follows_A (a b : KeyWin) (h : a.id ≤ 1000 ∧ 1 ≤ a.id) : FnA Tryz.prog 181 [.agg a.av, .agg b.av] (.raw (.bool (decide (followsP a b)))) := by
  refine fnA_of tblOk Tryz.func181 rfl (by kernel_rfl) 39 Tryz.ntmps181 (by simp only [List.length_cons, List.length_nil]; omega) [.tmp 4] rfl ?_
  simp only [entrySt, argSl, Nat.zero_add, Nat.reduceAdd]
  repeat'
    first
      | first
        | (refine runS_nil (hK _ ?_); clear hK K)
        | refine stG ?_
        | (refine gateA 1 rfl ?_; refine runA_put ?_)
        | (refine gateBc ?_; first | (refine runB_nil (hK _ ?_); clear hK K) | (refine runB_op rfl ⟨_, evl, fun nb' => ?_⟩))
        | refine wpA_region (fun K hK => ?_)
        | (refine gateD ?_; first | (refine wpA_drawG false rfl (by kernel_rfl) (by kernel_rfl) (fun K hK => ?_)) | (refine wpA_drawG true rfl (by kernel_rfl) (by kernel_rfl) (fun K hK => ?_)))
        | (refine wpA_cond' ⟨_, evl, fun hb => ?_, fun hb => ?_⟩ <;> (try simp only [Bool.or_eq_true, Bool.and_eq_true, Bool.or_eq_false_iff, Bool.and_eq_false_iff, Bool.not_eq_true', Bool.not_eq_false', Bool.not_eq_true, Bool.not_eq_false, decide_eq_true_eq, decide_eq_false_iff_not, Bool.true_eq_false, Bool.false_eq_true, ne_eq, Classical.not_not, Int.not_lt, Int.not_le, Bool.not_true, Bool.not_false] at hb))
      | fail
  all_goals (try (refine ret_of (by simp) ⟨_, _, _, evl, ob0, OutOk.sims ?_ (by first | (simp [AV.free, AV.freeL, go_sem]; done) | exact lA_free (fun _ => by simp [AV.free, AV.freeL, u8C, iC]) _ | (simp_all [AV.free, AV.freeL, sA, u8C, iC]; done))⟩))
  all_goals first | exact Sims.refl _ | (refine Sims.of_eq ?_; first | rfl | (simp [followsP]; done) | (simp_all [followsP]; done) | (simp_all [followsP]; omega) | (simp [followsP]; grind) | (simp [followsP]; grind) | (split <;> simp_all)) | exact simsF | (refine Sims.tup ?_; simp only [SimsL, and_true]; (repeat' apply And.intro) <;> first | exact simsF | skip) | (exfalso; first | omega | (simp_all; done) | (simp_all; omega)) | skip
theorem okI_msg {k : KeyWin} (h : k.fits) : okI (msgM k) := by
  obtain ⟨h1, h2, h3, h4, h5, h6⟩ := h
  simp only [okI, msgM, List.forall_mem_cons]
  exact ⟨h1, h2, h3, h4, h5, by simp⟩
def signedM (a b : KeyWin) : Bool := (verifyM a.pub b.sig (msgM b)).1
theorem signed_A (a b : KeyWin) (ha : a.fits) (hb : b.fits) : FnA Tryz.prog 182 [.agg a.av, .agg b.av] (.raw (.bool (signedM a b))) := by
  have hm := message_A b
  have hv := verify_A a.pub b.sig (msgM b) (okI_msg hb) ha.2.2.1 (by simp [msgM])
  have e : ((verifyM a.pub b.sig (msgM b)).1 && decide ((verifyM a.pub b.sig (msgM b)).2 = 0)) = signedM a b := by
    unfold signedM verifyM; split <;> simp
  have hfr : (liA (msgM b)).free := lA_free (fun _ => by simp [AV.free, AV.freeL, iC]) (msgM b)
  generalize signedM a b = s at *
  generalize verifyM a.pub b.sig (msgM b) = v at *
  generalize liA (msgM b) = L at *
  refine fnA_of tblOk Tryz.func182 rfl (by kernel_rfl) 22 Tryz.ntmps182 (by simp only [List.length_cons, List.length_nil]; omega) [.tmp 4] rfl ?_
  simp only [entrySt, argSl, Nat.zero_add, Nat.reduceAdd]
  repeat'
    first
      | first
        | (refine runS_nil (hK _ ?_); clear hK K)
        | refine stG ?_
        | (refine gateS 1 rfl ?_; refine runS_call rfl rfl ⟨_, evl, _, _, _, evl, oblF, ?_⟩; apply Exists.intro; refine ⟨fun hg => ?_, ?_⟩; · first | exact FnA.at_ (hm) rfl rfl | exact FnA.at_ (hv) rfl rfl | exact FnA.at_s (hm) rfl simT | exact FnA.at_s (hm) rfl simF | exact FnA.at_s (hv) rfl simT | exact FnA.at_s (hv) rfl simF)
        | (refine gateA 1 rfl ?_; refine runA_call rfl ⟨_, evl, _, _, _, (fun _ _ => evlA), oblF, ?_⟩; apply Exists.intro; refine ⟨fun hg => ?_, ?_⟩; · first | exact FnA.at_ (hm) rfl rfl | exact FnA.at_ (hv) rfl rfl | exact FnA.at_s (hm) rfl simT | exact FnA.at_s (hm) rfl simF | exact FnA.at_s (hv) rfl simT | exact FnA.at_s (hv) rfl simF)
        | (refine gateA 1 rfl ?_; refine runA_put ?_)
        | (refine gateBc ?_; first | (refine runB_nil (hK _ ?_); clear hK K) | (refine runB_op rfl ⟨_, evl, fun nb' => ?_⟩))
        | refine wpA_region (fun K hK => ?_)
        | (refine gateD ?_; first | (refine wpA_drawG false rfl (by kernel_rfl) (by kernel_rfl) (fun K hK => ?_)) | (refine wpA_drawG true rfl (by kernel_rfl) (by kernel_rfl) (fun K hK => ?_)))
        | (refine wpA_cond' ⟨_, evl, fun hb => ?_, fun hb => ?_⟩ <;> (try simp only [Bool.or_eq_true, Bool.and_eq_true, Bool.or_eq_false_iff, Bool.and_eq_false_iff, Bool.not_eq_true', Bool.not_eq_false', Bool.not_eq_true, Bool.not_eq_false, decide_eq_true_eq, decide_eq_false_iff_not, Bool.true_eq_false, Bool.false_eq_true, ne_eq, Classical.not_not, Int.not_lt, Int.not_le, Bool.not_true, Bool.not_false] at hb))
      | fail
  all_goals (try (refine ret_of (by simp) ⟨_, _, _, evl, ob0, OutOk.sims ?_ (by first | (simp [AV.free, AV.freeL, go_sem]; done) | exact lA_free (fun _ => by simp [AV.free, AV.freeL, u8C, iC]) _ | (simp_all [AV.free, AV.freeL, sA, u8C, iC]; done))⟩))
  all_goals first | exact Sims.refl _ | (refine Sims.of_eq ?_; first | rfl | (simp []; done) | (simp_all []; done) | (simp_all []; omega) | (simp []; grind) | (split <;> simp_all)) | exact simsF | (refine Sims.tup ?_; simp only [SimsL, and_true]; (repeat' apply And.intro) <;> first | exact simsF | skip) | (exfalso; first | omega | (simp_all; done) | (simp_all; omega)) | skip
structure Iv where
  lo : Int
  hi : Int
  deriving Inhabited, DecidableEq
@[go_sem] def Iv.av (x : Iv) : List AV := [.raw (.int .i64 x.lo), .raw (.int .i64 x.hi)]
def Iv.fits (x : Iv) : Prop := (inK .i64 x.lo) ∧ (inK .i64 x.hi)
@[simp] theorem Iv.free (x : Iv) : AV.freeL x.av := ⟨trivial, trivial, trivial⟩
theorem validI_A' (lo hi : Int) : FnA Tryz.prog 66 [.agg [.raw (.int .i64 lo), .raw (.int .i64 hi)]] (.raw (.bool (decide (0 ≤ lo) && decide (lo ≤ hi) && decide (hi ≤ 3000000000000000)))) := by
  refine fnA_of tblOk Tryz.func66 rfl (by kernel_rfl) 18 Tryz.ntmps66 (by simp only [List.length_cons, List.length_nil]; omega) [.tmp 2] rfl ?_
  simp only [entrySt, argSl, Nat.zero_add, Nat.reduceAdd]
  repeat'
    first
      | first
        | (refine runS_nil (hK _ ?_); clear hK K)
        | refine stG ?_
        | (refine gateA 1 rfl ?_; refine runA_put ?_)
        | (refine gateBc ?_; first | (refine runB_nil (hK _ ?_); clear hK K) | (refine runB_op rfl ⟨_, evl, fun nb' => ?_⟩))
        | refine wpA_region (fun K hK => ?_)
        | (refine gateD ?_; first | (refine wpA_drawG false rfl (by kernel_rfl) (by kernel_rfl) (fun K hK => ?_)) | (refine wpA_drawG true rfl (by kernel_rfl) (by kernel_rfl) (fun K hK => ?_)))
        | (refine wpA_cond' ⟨_, evl, fun hb => ?_, fun hb => ?_⟩ <;> (try simp only [Bool.or_eq_true, Bool.and_eq_true, Bool.or_eq_false_iff, Bool.and_eq_false_iff, Bool.not_eq_true', Bool.not_eq_false', Bool.not_eq_true, Bool.not_eq_false, decide_eq_true_eq, decide_eq_false_iff_not, Bool.true_eq_false, Bool.false_eq_true, ne_eq, Classical.not_not, Int.not_lt, Int.not_le, Bool.not_true, Bool.not_false] at hb))
      | fail
  all_goals (try (refine ret_of (by simp) ⟨_, _, _, evl, ob0, OutOk.sims ?_ (by first | (simp [AV.free, AV.freeL, go_sem]; done) | exact lA_free (fun _ => by simp [AV.free, AV.freeL, u8C, iC]) _ | (simp_all [AV.free, AV.freeL, sA, u8C, iC]; done))⟩))
  all_goals first | exact Sims.refl _ | (refine Sims.of_eq ?_; first | rfl | (simp []; done) | (simp_all []; done) | (simp_all []; omega) | (simp []; grind) | (split <;> simp_all)) | exact simsF | (refine Sims.tup ?_; simp only [SimsL, and_true]; (repeat' apply And.intro) <;> first | exact simsF | skip) | (exfalso; first | omega | (simp_all; done) | (simp_all; omega)) | skip
def rightP (l : List KeyWin) (i : Nat) : Prop :=
  if i = 0 ∨ (l.getD (i - 1) default).auth < (l.getD i default).auth then (l.getD i default).id = 1 ∧ (l.getD i default).sig.c = 0 ∧ (l.getD i default).sig.s = 0
  else followsP (l.getD (i - 1) default) (l.getD i default) ∧ signedM (l.getD (i - 1) default) (l.getD i default) = true
instance (l : List KeyWin) (i : Nat) : Decidable (rightP l i) := by unfold rightP; infer_instance
theorem right_A (l : List KeyWin) (hl : l.length ≤ 4611686018427387904) (hf : ∀ k ∈ l, k.fits ∧ formedP k) (i : Nat) (hi : i < l.length) : FnA Tryz.prog 129 [lA 7 KeyWin.av l, .raw (.int .i64 i)] (.raw (.bool (decide (rightP l i)))) := by
  have m1 : l.getD i default ∈ l := by rw [getD_get hi]; exact List.getElem_mem _
  rcases Nat.eq_zero_or_pos i with rfl | h0
  · refine fnA_of tblOk Tryz.func129 rfl (by kernel_rfl) 58 Tryz.ntmps129 (by simp only [List.length_cons, List.length_nil]; omega) [.tmp 4] rfl ?_
    simp only [entrySt, argSl, Nat.zero_add, Nat.reduceAdd]
    repeat'
      first
        | first
          | (refine runS_nil (hK _ ?_); clear hK K)
          | refine stG ?_
          | (refine gateA 1 rfl ?_; refine runA_put ?_)
          | (refine gateBc ?_; first | (refine runB_nil (hK _ ?_); clear hK K) | (refine runB_op rfl ⟨_, evl, fun nb' => ?_⟩))
          | refine wpA_region (fun K hK => ?_)
          | (refine gateD ?_; first | (refine wpA_drawG false rfl (by kernel_rfl) (by kernel_rfl) (fun K hK => ?_)) | (refine wpA_drawG true rfl (by kernel_rfl) (by kernel_rfl) (fun K hK => ?_)))
          | (refine wpA_cond' ⟨_, evl, fun hb => ?_, fun hb => ?_⟩ <;> (try simp only [Bool.or_eq_true, Bool.and_eq_true, Bool.or_eq_false_iff, Bool.and_eq_false_iff, Bool.not_eq_true', Bool.not_eq_false', Bool.not_eq_true, Bool.not_eq_false, decide_eq_true_eq, decide_eq_false_iff_not, Bool.true_eq_false, Bool.false_eq_true, ne_eq, Classical.not_not, Int.not_lt, Int.not_le, Bool.not_true, Bool.not_false] at hb))
        | fail
    all_goals (try (refine ret_of (by simp) ⟨_, _, _, evl, ob0, OutOk.sims ?_ (by first | (simp [AV.free, AV.freeL, go_sem]; done) | exact lA_free (fun _ => by simp [AV.free, AV.freeL, u8C, iC]) _ | (simp_all [AV.free, AV.freeL, sA, u8C, iC]; done))⟩))
    all_goals first | exact Sims.refl _ | (refine Sims.of_eq ?_; first | rfl | (simp [rightP]; done) | (simp_all [rightP]; done) | (simp_all [rightP]; omega) | (simp [rightP]; grind) | (split <;> simp_all)) | exact simsF | (refine Sims.tup ?_; simp only [SimsL, and_true]; (repeat' apply And.intro) <;> first | exact simsF | skip) | (exfalso; first | omega | (simp_all; done) | (simp_all; omega)) | skip
  · have e1 : ((i : Int) - 1).toNat = i - 1 := by omega
    have m2 : l.getD ((i : Int) - 1).toNat default ∈ l := by rw [e1, getD_get (by omega)]; exact List.getElem_mem _
    have h1 := hf _ m1
    have h2 := hf _ m2
    have f1 := follows_A (l.getD ((i : Int) - 1).toNat default) (l.getD i default) ⟨h2.2.2.2.2.1, h2.2.2.2.1⟩
    have f2 := signed_A (l.getD ((i : Int) - 1).toNat default) (l.getD i default) h2.1 h1.1
    have er : rightP l i = (if (l.getD ((i : Int) - 1).toNat default).auth < (l.getD i default).auth then (l.getD i default).id = 1 ∧ (l.getD i default).sig.c = 0 ∧ (l.getD i default).sig.s = 0
      else followsP (l.getD ((i : Int) - 1).toNat default) (l.getD i default) ∧ signedM (l.getD ((i : Int) - 1).toNat default) (l.getD i default) = true) := by
      rw [rightP, e1]; simp only [show ¬ i = 0 from by omega, false_or]
    have ed : decide (rightP l i) = (if (l.getD ((i : Int) - 1).toNat default).auth < (l.getD i default).auth then decide ((l.getD i default).id = 1) && (decide ((l.getD i default).sig.c = 0) && decide ((l.getD i default).sig.s = 0))
      else decide (followsP (l.getD ((i : Int) - 1).toNat default) (l.getD i default)) && signedM (l.getD ((i : Int) - 1).toNat default) (l.getD i default)) := by
      by_cases hlt : (l.getD ((i : Int) - 1).toNat default).auth < (l.getD i default).auth
      · rw [if_pos hlt] at er ⊢; simp only [er, Bool.decide_and]
      · rw [if_neg hlt] at er ⊢; simp only [er, Bool.decide_and, Bool.decide_eq_true]
    rw [ed]
    clear er ed h1 h2 m1 m2 hf
    generalize decide (followsP (l.getD ((i : Int) - 1).toNat default) (l.getD i default)) = b1 at *
    generalize signedM (l.getD ((i : Int) - 1).toNat default) (l.getD i default) = b2 at *
    refine fnA_of tblOk Tryz.func129 rfl (by kernel_rfl) 58 Tryz.ntmps129 (by simp only [List.length_cons, List.length_nil]; omega) [.tmp 4] rfl ?_
    simp only [entrySt, argSl, Nat.zero_add, Nat.reduceAdd]
    repeat'
      first
        | first
          | (refine runS_nil (hK _ ?_); clear hK K)
          | refine stG ?_
          | (refine gateS 1 rfl ?_; refine runS_call rfl rfl ⟨_, evl, _, _, _, evl, oblF, ?_⟩; apply Exists.intro; refine ⟨fun hg => ?_, ?_⟩; · first | exact FnA.at_ (f1) rfl rfl | exact FnA.at_ (f2) rfl rfl | exact FnA.at_s (f1) rfl simT | exact FnA.at_s (f1) rfl simF | exact FnA.at_s (f2) rfl simT | exact FnA.at_s (f2) rfl simF)
          | (refine gateA 1 rfl ?_; refine runA_call rfl ⟨_, evl, _, _, _, (fun _ _ => evlA), oblF, ?_⟩; apply Exists.intro; refine ⟨fun hg => ?_, ?_⟩; · first | exact FnA.at_ (f1) rfl rfl | exact FnA.at_ (f2) rfl rfl | exact FnA.at_s (f1) rfl simT | exact FnA.at_s (f1) rfl simF | exact FnA.at_s (f2) rfl simT | exact FnA.at_s (f2) rfl simF)
          | (refine gateA 1 rfl ?_; refine runA_put ?_)
          | (refine gateBc ?_; first | (refine runB_nil (hK _ ?_); clear hK K) | (refine runB_op rfl ⟨_, evl, fun nb' => ?_⟩))
          | refine wpA_region (fun K hK => ?_)
          | (refine gateD ?_; first | (refine wpA_drawG false rfl (by kernel_rfl) (by kernel_rfl) (fun K hK => ?_)) | (refine wpA_drawG true rfl (by kernel_rfl) (by kernel_rfl) (fun K hK => ?_)))
          | (refine wpA_cond' ⟨_, evl, fun hb => ?_, fun hb => ?_⟩ <;> (try simp only [Bool.or_eq_true, Bool.and_eq_true, Bool.or_eq_false_iff, Bool.and_eq_false_iff, Bool.not_eq_true', Bool.not_eq_false', Bool.not_eq_true, Bool.not_eq_false, decide_eq_true_eq, decide_eq_false_iff_not, Bool.true_eq_false, Bool.false_eq_true, ne_eq, Classical.not_not, Int.not_lt, Int.not_le, Bool.not_true, Bool.not_false] at hb))
        | fail
    all_goals (try (refine ret_of (by simp) ⟨_, _, _, evl, ob0, OutOk.sims ?_ (by first | (simp [AV.free, AV.freeL, go_sem]; done) | exact lA_free (fun _ => by simp [AV.free, AV.freeL, u8C, iC]) _ | (simp_all [AV.free, AV.freeL, sA, u8C, iC]; done))⟩))
    all_goals first | exact Sims.refl _ | (refine Sims.of_eq ?_; first | rfl | (simp []; done) | (simp_all []; done) | (simp_all []; omega) | (simp []; grind) | (split <;> simp_all)) | exact simsF | (refine Sims.tup ?_; simp only [SimsL, and_true]; (repeat' apply And.intro) <;> first | exact simsF | skip) | (exfalso; first | omega | (simp_all; done) | (simp_all; omega)) | skip
theorem all1_A (g : FuncId) (k : KeyWin) (b : Bool) (h : FnA Tryz.prog g [.agg k.av] (.raw (.bool b))) : FnA Tryz.prog 179 [.agg k.av, .elt [.raw (.func (.func g) #[] #[])] 0] (.raw (.bool (!b))) := by
  refine fnA_of tblOk Tryz.func179 rfl (by kernel_rfl) 8 Tryz.ntmps179 (by simp only [List.length_cons, List.length_nil]; omega) [.tmp 3] rfl ?_
  simp only [entrySt, argSl, Nat.zero_add, Nat.reduceAdd]
  repeat'
    first
      | first
        | (refine runS_nil (hK _ ?_); clear hK K)
        | refine stG ?_
        | (refine gateS 1 rfl ?_; refine runS_call rfl rfl ⟨_, evl, _, _, _, evl, oblF, ?_⟩; apply Exists.intro; refine ⟨fun hg => ?_, ?_⟩; · first | exact FnA.at_ (h) rfl rfl | exact FnA.at_s (h) rfl simT | exact FnA.at_s (h) rfl simF)
        | (refine gateA 1 rfl ?_; refine runA_call rfl ⟨_, evl, _, _, _, (fun _ _ => evlA), oblF, ?_⟩; apply Exists.intro; refine ⟨fun hg => ?_, ?_⟩; · first | exact FnA.at_ (h) rfl rfl | exact FnA.at_s (h) rfl simT | exact FnA.at_s (h) rfl simF)
        | (refine gateA 1 rfl ?_; refine runA_put ?_)
        | (refine gateBc ?_; first | (refine runB_nil (hK _ ?_); clear hK K) | (refine runB_op rfl ⟨_, evl, fun nb' => ?_⟩))
        | refine wpA_region (fun K hK => ?_)
        | (refine gateD ?_; first | (refine wpA_drawG false rfl (by kernel_rfl) (by kernel_rfl) (fun K hK => ?_)) | (refine wpA_drawG true rfl (by kernel_rfl) (by kernel_rfl) (fun K hK => ?_)))
        | (refine wpA_cond' ⟨_, evl, fun hb => ?_, fun hb => ?_⟩ <;> (try simp only [Bool.or_eq_true, Bool.and_eq_true, Bool.or_eq_false_iff, Bool.and_eq_false_iff, Bool.not_eq_true', Bool.not_eq_false', Bool.not_eq_true, Bool.not_eq_false, decide_eq_true_eq, decide_eq_false_iff_not, Bool.true_eq_false, Bool.false_eq_true, ne_eq, Classical.not_not, Int.not_lt, Int.not_le, Bool.not_true, Bool.not_false] at hb))
      | fail
  all_goals (try (refine ret_of (by simp) ⟨_, _, _, evl, ob0, OutOk.sims ?_ (by first | (simp [AV.free, AV.freeL, go_sem]; done) | exact lA_free (fun _ => by simp [AV.free, AV.freeL, u8C, iC]) _ | (simp_all [AV.free, AV.freeL, sA, u8C, iC]; done))⟩))
  all_goals first | exact Sims.refl _ | (refine Sims.of_eq ?_; first | rfl | (simp []; done) | (simp_all []; done) | (simp_all []; omega) | (simp []; grind) | (split <;> simp_all)) | exact simsF | (refine Sims.tup ?_; simp only [SimsL, and_true]; (repeat' apply And.intro) <;> first | exact simsF | skip) | (exfalso; first | omega | (simp_all; done) | (simp_all; omega)) | skip
theorem all_A (l : List KeyWin) (hl : l.length ≤ 4611686018427387904) (g : FuncId) (p : KeyWin → Bool) (h : ∀ k ∈ l, FnA Tryz.prog g [.agg k.av] (.raw (.bool (p k)))) : FnA Tryz.prog 127 [lA 7 KeyWin.av l, .raw (.func (.func g) #[] #[])] (.raw (.bool (l.all p))) := by
  have hc := containsFunc_KeyWin l hl 179 [.elt [.raw (.func (.func g) #[] #[])] 0] (by simp [AV.freeL, AV.free]) (fun k => !p k) (fun x hx => all1_A g x _ (h x hx))
  have hfr : (lA 7 KeyWin.av l).free := lA_free (fun y => KeyWin.free y) _
  have he : (!l.any fun k => !p k) = l.all p := by simp [List.all_eq_not_any_not]
  rw [← he]
  clear he
  refine fnA_of tblOk Tryz.func127 rfl (by kernel_rfl) 9 Tryz.ntmps127 (by simp only [List.length_cons, List.length_nil]; omega) [.tmp 4] rfl ?_
  simp only [entrySt, argSl, Nat.zero_add, Nat.reduceAdd]
  repeat'
    first
      | first
        | (refine runS_nil (hK _ ?_); clear hK K)
        | refine stG ?_
        | (refine gateS 1 rfl ?_; refine runS_call rfl rfl ⟨_, evl, _, _, _, evl, oblF, ?_⟩; apply Exists.intro; refine ⟨fun hg => ?_, ?_⟩; · first | exact FnA.at_ (hc) rfl rfl | exact FnA.at_s (hc) rfl simT | exact FnA.at_s (hc) rfl simF)
        | (refine gateA 1 rfl ?_; refine runA_call rfl ⟨_, evl, _, _, _, (fun _ _ => evlA), oblF, ?_⟩; apply Exists.intro; refine ⟨fun hg => ?_, ?_⟩; · first | exact FnA.at_ (hc) rfl rfl | exact FnA.at_s (hc) rfl simT | exact FnA.at_s (hc) rfl simF)
        | (refine gateA 1 rfl ?_; refine runA_put ?_)
        | (refine gateBc ?_; first | (refine runB_nil (hK _ ?_); clear hK K) | (refine runB_op rfl ⟨_, evl, fun nb' => ?_⟩))
        | refine wpA_region (fun K hK => ?_)
        | (refine gateD ?_; first | (refine wpA_drawG false rfl (by kernel_rfl) (by kernel_rfl) (fun K hK => ?_)) | (refine wpA_drawG true rfl (by kernel_rfl) (by kernel_rfl) (fun K hK => ?_)))
        | (refine wpA_cond' ⟨_, evl, fun hb => ?_, fun hb => ?_⟩ <;> (try simp only [Bool.or_eq_true, Bool.and_eq_true, Bool.or_eq_false_iff, Bool.and_eq_false_iff, Bool.not_eq_true', Bool.not_eq_false', Bool.not_eq_true, Bool.not_eq_false, decide_eq_true_eq, decide_eq_false_iff_not, Bool.true_eq_false, Bool.false_eq_true, ne_eq, Classical.not_not, Int.not_lt, Int.not_le, Bool.not_true, Bool.not_false] at hb))
      | fail
  refine runS_freeze 0 obf ⟨_, evl, _, evl, ?_⟩
  repeat'
    first
      | first
        | (refine runS_nil (hK _ ?_); clear hK K)
        | refine stG ?_
        | (refine gateS 1 rfl ?_; refine runS_call rfl rfl ⟨_, evl, _, _, _, evl, oblF, ?_⟩; apply Exists.intro; refine ⟨fun hg => ?_, ?_⟩; · first | exact FnA.at_ (hc) rfl rfl | exact FnA.at_s (hc) rfl simT | exact FnA.at_s (hc) rfl simF)
        | (refine gateA 1 rfl ?_; refine runA_call rfl ⟨_, evl, _, _, _, (fun _ _ => evlA), oblF, ?_⟩; apply Exists.intro; refine ⟨fun hg => ?_, ?_⟩; · first | exact FnA.at_ (hc) rfl rfl | exact FnA.at_s (hc) rfl simT | exact FnA.at_s (hc) rfl simF)
        | (refine gateA 1 rfl ?_; refine runA_put ?_)
        | (refine gateBc ?_; first | (refine runB_nil (hK _ ?_); clear hK K) | (refine runB_op rfl ⟨_, evl, fun nb' => ?_⟩))
        | refine wpA_region (fun K hK => ?_)
        | (refine gateD ?_; first | (refine wpA_drawG false rfl (by kernel_rfl) (by kernel_rfl) (fun K hK => ?_)) | (refine wpA_drawG true rfl (by kernel_rfl) (by kernel_rfl) (fun K hK => ?_)))
        | (refine wpA_cond' ⟨_, evl, fun hb => ?_, fun hb => ?_⟩ <;> (try simp only [Bool.or_eq_true, Bool.and_eq_true, Bool.or_eq_false_iff, Bool.and_eq_false_iff, Bool.not_eq_true', Bool.not_eq_false', Bool.not_eq_true, Bool.not_eq_false, decide_eq_true_eq, decide_eq_false_iff_not, Bool.true_eq_false, Bool.false_eq_true, ne_eq, Classical.not_not, Int.not_lt, Int.not_le, Bool.not_true, Bool.not_false] at hb))
      | fail
  all_goals (try (refine ret_of (by simp) ⟨_, _, _, evl, ob0, OutOk.sims ?_ (by first | (simp [AV.free, AV.freeL, go_sem]; done) | exact lA_free (fun _ => by simp [AV.free, AV.freeL, u8C, iC]) _ | (simp_all [AV.free, AV.freeL, sA, u8C, iC]; done))⟩))
  all_goals first | exact Sims.refl _ | (refine Sims.of_eq ?_; first | rfl | (simp []; done) | (simp_all []; done) | (simp_all []; omega) | (simp []; grind) | (split <;> simp_all)) | exact simsF | (refine Sims.tup ?_; simp only [SimsL, and_true]; (repeat' apply And.intro) <;> first | exact simsF | skip) | (exfalso; first | omega | (simp_all; done) | (simp_all; omega)) | skip
def ValidP (l : List KeyWin) : Prop := l.length ≤ 100 ∧ (∀ k ∈ l, formedP k) ∧ ∀ i, i < l.length → rightP l i
instance (l : List KeyWin) : Decidable (ValidP l) := by unfold ValidP; infer_instance
theorem valid_A (l : List KeyWin) (hl : l.length ≤ 4611686018427387904) (hf : ∀ k ∈ l, k.fits) : FnA Tryz.prog 56 [lA 7 KeyWin.av l] (.raw (.bool (decide (ValidP l)))) := by
  have ha := all_A l hl _ _ fun k _ => formed_A k
  have hall : l.all (fun k => decide (formedP k)) = true ↔ ∀ k ∈ l, formedP k := by simp [List.all_eq_true]
  have hr := fun h i hi => right_A l hl (fun k hk => ⟨hf k hk, hall.1 h k hk⟩) i hi
  refine fnA_of tblOk Tryz.func56 rfl (by kernel_rfl) 22 Tryz.ntmps56 (by simp only [List.length_cons, List.length_nil]; omega) [.tmp 2] rfl ?_
  simp only [entrySt, argSl, Nat.zero_add, Nat.reduceAdd]
  repeat'
    first
      | first
        | (refine runS_nil (hK _ ?_); clear hK K)
        | refine stG ?_
        | (refine gateS 1 rfl ?_; refine runS_call rfl rfl ⟨_, evl, _, _, _, evl, oblF, ?_⟩; apply Exists.intro; refine ⟨fun hg => ?_, ?_⟩; · first | exact FnA.at_ (ha) rfl rfl | exact FnA.at_s (ha) rfl simT | exact FnA.at_s (ha) rfl simF)
        | (refine gateA 1 rfl ?_; refine runA_call rfl ⟨_, evl, _, _, _, (fun _ _ => evlA), oblF, ?_⟩; apply Exists.intro; refine ⟨fun hg => ?_, ?_⟩; · first | exact FnA.at_ (ha) rfl rfl | exact FnA.at_s (ha) rfl simT | exact FnA.at_s (ha) rfl simF)
        | (refine gateA 1 rfl ?_; refine runA_put ?_)
        | (refine gateBc ?_; first | (refine runB_nil (hK _ ?_); clear hK K) | (refine runB_op rfl ⟨_, evl, fun nb' => ?_⟩))
        | refine wpA_region (fun K hK => ?_)
        | (refine gateD ?_; first | (refine wpA_drawG false rfl (by kernel_rfl) (by kernel_rfl) (fun K hK => ?_)) | (refine wpA_drawG true rfl (by kernel_rfl) (by kernel_rfl) (fun K hK => ?_)))
        | (refine wpA_cond' ⟨_, evl, fun hb => ?_, fun hb => ?_⟩ <;> (try simp only [Bool.or_eq_true, Bool.and_eq_true, Bool.or_eq_false_iff, Bool.and_eq_false_iff, Bool.not_eq_true', Bool.not_eq_false', Bool.not_eq_true, Bool.not_eq_false, decide_eq_true_eq, decide_eq_false_iff_not, Bool.true_eq_false, Bool.false_eq_true, ne_eq, Classical.not_not, Int.not_lt, Int.not_le, Bool.not_true, Bool.not_false] at hb))
      | fail
  · refine ret_of (by simp) ⟨_, _, _, evl, ob0, OutOk.eq ?_ (by simp [AV.free])⟩
    simp only [AV.raw.injEq, Value.bool.injEq]
    rw [eq_comm, decide_eq_false_iff_not]
    rintro ⟨h1, h2, _⟩
    rcases hb with h | h
    · omega
    · rw [hall.2 h2] at h; cases h
  · refine wpA_loop (fun k : Nat => ⟨22, 0, [(0, true, lA 7 KeyWin.av l), (13, true, .raw (.int .i64 l.length)), (14, true, .raw (.int .i64 k))], [], [], ((0, []), [], true)⟩)
      (fun k => k ≤ l.length ∧ ∀ i, i < k → rightP l i) (fun k => l.length - k) 0 ?_ ⟨by omega, fun i h => by omega⟩ ?_
    · refine Weak.gen ?_ ?_ ?_ (by simp) ?_
      rotate_left 3
      · first | (simp [subSl, subB, subR, AV.sub, AV.subL, go_sem]; done) | (simp [subSl, subB, subR, AV.sub, AV.subL, go_sem, AV.subL_free, AV.sub_free, *]; done) | (simp_all [subSl, subB, subR, AV.sub, AV.subL, go_sem]; done)
      all_goals (try simp only [SlSim, BxSim, RwSim, SimsL, lookN_cons, ↓reduceIte, Nat.reduceEqDiff, Option.some.injEq, Prod.mk.injEq, true_and, and_true, exists_eq_left', and_self])
      all_goals (try trivial)
      all_goals ((repeat' apply And.intro) <;> first | exact simsT | (intro _ _; exact simsT) | omega | (simp; done) | (simp; omega) | (intro _ _; refine SimsL.of_eq (els_snoc ?_ (by assumption) rfl) <;> first | rfl | omega | (simp; done) | (simp; omega)) | skip)
    · rintro k ⟨hk, hr2⟩
      have hb0 := hb
      repeat'
        first
          | first
            | (refine runS_nil (hK _ ?_); clear hK K)
            | refine stG ?_
            | (refine gateS 1 rfl ?_; refine runS_call rfl rfl ⟨_, evl, _, _, _, evl, oblF, ?_⟩; apply Exists.intro; refine ⟨fun hg => ?_, ?_⟩; · first | exact FnA.at_ (hr (by simp_all) k (by omega)) rfl rfl | exact FnA.at_s (hr (by simp_all) k (by omega)) rfl simT | exact FnA.at_s (hr (by simp_all) k (by omega)) rfl simF)
            | (refine gateA 1 rfl ?_; refine runA_call rfl ⟨_, evl, _, _, _, (fun _ _ => evlA), oblF, ?_⟩; apply Exists.intro; refine ⟨fun hg => ?_, ?_⟩; · first | exact FnA.at_ (hr (by simp_all) k (by omega)) rfl rfl | exact FnA.at_s (hr (by simp_all) k (by omega)) rfl simT | exact FnA.at_s (hr (by simp_all) k (by omega)) rfl simF)
            | (refine gateA 1 rfl ?_; refine runA_put ?_)
            | (refine gateBc ?_; first | (refine runB_nil (hK _ ?_); clear hK K) | (refine runB_op rfl ⟨_, evl, fun nb' => ?_⟩))
            | refine wpA_region (fun K hK => ?_)
            | (refine gateD ?_; first | (refine wpA_drawG false rfl (by kernel_rfl) (by kernel_rfl) (fun K hK => ?_)) | (refine wpA_drawG true rfl (by kernel_rfl) (by kernel_rfl) (fun K hK => ?_)))
            | (refine wpA_cond' ⟨_, evl, fun hb => ?_, fun hb => ?_⟩ <;> (try simp only [Bool.or_eq_true, Bool.and_eq_true, Bool.or_eq_false_iff, Bool.and_eq_false_iff, Bool.not_eq_true', Bool.not_eq_false', Bool.not_eq_true, Bool.not_eq_false, decide_eq_true_eq, decide_eq_false_iff_not, Bool.true_eq_false, Bool.false_eq_true, ne_eq, Classical.not_not, Int.not_lt, Int.not_le, Bool.not_true, Bool.not_false] at hb))
          | fail
      · refine ret_of (by simp) ⟨_, _, _, evl, ob0, OutOk.eq ?_ (by simp [AV.free])⟩
        simp only [AV.raw.injEq, Value.bool.injEq]
        rw [eq_comm, decide_eq_false_iff_not]
        rintro ⟨_, _, h3⟩
        exact hb (h3 k (by omega))
      · refine ⟨k + 1, ⟨by omega, fun i hi => ?_⟩, by omega, ?_⟩
        · rcases Nat.lt_succ_iff_lt_or_eq.1 hi with h | rfl
          · exact hr2 i h
          · exact hb
        · refine Weak.gen ?_ ?_ ?_ (by simp) ?_
          rotate_left 3
          · first | (simp [subSl, subB, subR, AV.sub, AV.subL, go_sem]; done) | (simp [subSl, subB, subR, AV.sub, AV.subL, go_sem, AV.subL_free, AV.sub_free, *]; done) | (simp_all [subSl, subB, subR, AV.sub, AV.subL, go_sem]; done)
          all_goals (try simp only [SlSim, BxSim, RwSim, SimsL, lookN_cons, ↓reduceIte, Nat.reduceEqDiff, Option.some.injEq, Prod.mk.injEq, true_and, and_true, exists_eq_left', and_self])
          all_goals (try trivial)
          all_goals ((repeat' apply And.intro) <;> first | exact simsT | (intro _ _; exact simsT) | omega | (simp; done) | (simp; omega) | (intro _ _; refine SimsL.of_eq (els_snoc ?_ (by assumption) rfl) <;> first | rfl | omega | (simp; done) | (simp; omega)) | skip)
      · refine ret_of (by simp) ⟨_, _, _, evl, ob0, OutOk.eq ?_ (by simp [AV.free])⟩
        simp only [AV.raw.injEq, Value.bool.injEq]
        rw [eq_comm, decide_eq_true_eq]
        exact ⟨by omega, hall.1 hb0.2, fun i hi => hr2 i (by omega)⟩
end Go.Proofs.YtihnjbnlbedpaaaGreatDoor
