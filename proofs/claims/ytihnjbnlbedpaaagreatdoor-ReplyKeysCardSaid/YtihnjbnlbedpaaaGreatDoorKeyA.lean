/- package keys: windows. -/
import Derived.Test.YtihnjbnlbedpaaaGreatDoorGrr
import Derived.Test.YtihnjbnlbedpaaaGreatDoorA6
namespace Go.Proofs.YtihnjbnlbedpaaaGreatDoor
set_option linter.unusedVariables false
set_option linter.unusedSimpArgs false
set_option maxHeartbeats 4000000
set_option maxRecDepth 100000
open Go.RowKit
structure KeyWin where
  auth : Int
  id : Int
  pub : Int
  from_ : Int
  until_ : Int
  sig : Sig
  deriving Inhabited, DecidableEq
@[go_sem] def KeyWin.av (x : KeyWin) : List AV := [.raw (.int .i64 x.auth), .raw (.int .i64 x.id), .raw (.int .i64 x.pub), .raw (.int .i64 x.from_), .raw (.int .i64 x.until_), .raw (.int .i64 x.sig.c), .raw (.int .i64 x.sig.s)]
def KeyWin.fits (x : KeyWin) : Prop := (inK .i64 x.auth) ∧ (inK .i64 x.id) ∧ (inK .i64 x.pub) ∧ (inK .i64 x.from_) ∧ (inK .i64 x.until_) ∧ (x.sig.fits)
@[simp] theorem KeyWin.free (x : KeyWin) : AV.freeL x.av := ⟨trivial, trivial, trivial, trivial, trivial, trivial, trivial, trivial⟩
theorem between_A (n lo hi : Int) : FnA Tryz.prog 180 [.raw (.int .i64 n), .raw (.int .i64 lo), .raw (.int .i64 hi)] (.raw (.bool (decide (lo ≤ n) && decide (n ≤ hi)))) := by
  refine fnA_of tblOk Tryz.func180 rfl (by kernel_rfl) 15 Tryz.ntmps180 (by simp only [List.length_cons, List.length_nil]; omega) [.tmp 6] rfl ?_
  simp only [entrySt, argSl, Nat.zero_add, Nat.reduceAdd]
  repeat'
    first
      | first
        | (refine runS_nil (hK _ ?_); clear hK K)
        | refine stG ?_
        | (refine gateA 1 rfl ?_; refine runA_put ?_)
        | (refine gateBc ?_; first | (refine runB_nil (hK _ ?_); clear hK K) | (refine runB_op rfl ⟨_, evl, fun nb' => ?_⟩))
        | refine wpA_region (fun K hK => ?_)
        | (refine gateD ?_; first | (refine wpA_drawG false rfl (by kernel_rfl) (by kernel_rfl) (fun K hK => ?_)) | (refine wpA_drawG true rfl (by kernel_rfl) (by kernel_rfl) (fun K hK => ?_)))
        | (refine wpA_cond' ⟨_, evl, fun hb => ?_, fun hb => ?_⟩ <;> (try simp only [Bool.or_eq_true, Bool.and_eq_true, Bool.or_eq_false_iff, Bool.and_eq_false_iff, Bool.not_eq_true', Bool.not_eq_false', Bool.not_eq_true, Bool.not_eq_false, decide_eq_true_eq, decide_eq_false_iff_not, Bool.true_eq_false, Bool.false_eq_true, ne_eq, Classical.not_not, Int.not_lt, Int.not_le, Bool.not_true, Bool.not_false] at hb))
      | fail
  all_goals (try (refine ret_of (by simp) ⟨_, _, _, evl, ob0, OutOk.sims ?_ (by first | (simp [AV.free, AV.freeL, go_sem]; done) | exact lA_free (fun _ => by simp [AV.free, AV.freeL, u8C, iC]) _ | (simp_all [AV.free, AV.freeL, sA, u8C, iC]; done))⟩))
  all_goals first | exact Sims.refl _ | (refine Sims.of_eq ?_; first | rfl | (simp []; done) | (simp_all []; done) | (simp_all []; omega) | (simp []; grind) | (split <;> simp_all)) | exact simsF | (refine Sims.tup ?_; simp only [SimsL, and_true]; (repeat' apply And.intro) <;> first | exact simsF | skip) | (exfalso; first | omega | (simp_all; done) | (simp_all; omega)) | skip
def formedP (k : KeyWin) : Prop := 1 ≤ k.auth ∧ k.auth ≤ 16 ∧ 1 ≤ k.id ∧ k.id ≤ 1000 ∧ 0 ≤ k.from_ ∧ k.from_ < k.until_ ∧ k.until_ ≤ 3000000000000000 ∧ k.pub ≠ 1 ∧ memberM k.pub = true ∧ withinM k.sig.c 0 = true ∧ withinM k.sig.s 0 = true
instance (k : KeyWin) : Decidable (formedP k) := by unfold formedP; infer_instance
theorem formed_A (k : KeyWin) : FnA Tryz.prog 128 [.agg k.av] (.raw (.bool (decide (formedP k)))) := by
  refine fnA_of tblOk Tryz.func128 rfl (by kernel_rfl) 50 Tryz.ntmps128 (by simp only [List.length_cons, List.length_nil]; omega) [.tmp 2] rfl ?_
  simp only [entrySt, argSl, Nat.zero_add, Nat.reduceAdd]
  repeat'
    first
      | first
        | (refine runS_nil (hK _ ?_); clear hK K)
        | refine stG ?_
        | (refine gateS 1 rfl ?_; refine runS_call rfl rfl ⟨_, evl, _, _, _, evl, oblF, ?_⟩; apply Exists.intro; refine ⟨fun hg => ?_, ?_⟩; · first | exact FnA.at_ (between_A _ _ _) rfl rfl | exact FnA.at_ (member_A _) rfl rfl | exact FnA.at_s (between_A _ _ _) rfl simT | exact FnA.at_s (between_A _ _ _) rfl simF | exact FnA.at_s (member_A _) rfl simT | exact FnA.at_s (member_A _) rfl simF)
        | (refine gateA 1 rfl ?_; refine runA_call rfl ⟨_, evl, _, _, _, (fun _ _ => evlA), oblF, ?_⟩; apply Exists.intro; refine ⟨fun hg => ?_, ?_⟩; · first | exact FnA.at_ (between_A _ _ _) rfl rfl | exact FnA.at_ (member_A _) rfl rfl | exact FnA.at_s (between_A _ _ _) rfl simT | exact FnA.at_s (between_A _ _ _) rfl simF | exact FnA.at_s (member_A _) rfl simT | exact FnA.at_s (member_A _) rfl simF)
        | (refine gateA 1 rfl ?_; refine runA_put ?_)
        | (refine gateBc ?_; first | (refine runB_nil (hK _ ?_); clear hK K) | (refine runB_op rfl ⟨_, evl, fun nb' => ?_⟩))
        | refine wpA_region (fun K hK => ?_)
        | (refine gateD ?_; first | (refine wpA_drawG false rfl (by kernel_rfl) (by kernel_rfl) (fun K hK => ?_)) | (refine wpA_drawG true rfl (by kernel_rfl) (by kernel_rfl) (fun K hK => ?_)))
        | (refine wpA_cond' ⟨_, evl, fun hb => ?_, fun hb => ?_⟩ <;> (try simp only [Bool.or_eq_true, Bool.and_eq_true, Bool.or_eq_false_iff, Bool.and_eq_false_iff, Bool.not_eq_true', Bool.not_eq_false', Bool.not_eq_true, Bool.not_eq_false, decide_eq_true_eq, decide_eq_false_iff_not, Bool.true_eq_false, Bool.false_eq_true, ne_eq, Classical.not_not, Int.not_lt, Int.not_le, Bool.not_true, Bool.not_false] at hb))
      | fail
  all_goals (try (refine ret_of (by simp) ⟨_, _, _, evl, ob0, OutOk.sims ?_ (by first | (simp [AV.free, AV.freeL, go_sem]; done) | exact lA_free (fun _ => by simp [AV.free, AV.freeL, u8C, iC]) _ | (simp_all [AV.free, AV.freeL, sA, u8C, iC]; done))⟩))
  all_goals first | exact Sims.refl _ | (refine Sims.of_eq ?_; first | rfl | (simp [formedP]; done) | (simp_all [formedP]; done) | (simp_all [formedP]; omega) | (simp [formedP, withinM]; grind) | (simp [formedP]; grind) | (split <;> simp_all)) | exact simsF | (refine Sims.tup ?_; simp only [SimsL, and_true]; (repeat' apply And.intro) <;> first | exact simsF | skip) | (exfalso; first | omega | (simp_all; done) | (simp_all; omega)) | skip
def msgM (k : KeyWin) : List Int := [k.auth, k.id, k.pub, k.from_, k.until_]
theorem ints_KA (l : List Int) : FnA Tryz.prog 176 [liA l] (liA l) := by
  refine fnA_of tblOk Tryz.func176 rfl (by kernel_rfl) 4 Tryz.ntmps176 (by simp only [List.length_cons, List.length_nil]; omega) [.tmp 2] rfl ?_
  simp only [entrySt, argSl, Nat.zero_add, Nat.reduceAdd]
  repeat'
    first
      | first
        | (refine runS_nil (hK _ ?_); clear hK K)
        | refine stG ?_
        | (refine gateA 1 rfl ?_; refine runA_put ?_)
        | (refine gateBc ?_; first | (refine runB_nil (hK _ ?_); clear hK K) | (refine runB_op rfl ⟨_, evl, fun nb' => ?_⟩))
        | refine wpA_region (fun K hK => ?_)
        | (refine gateD ?_; first | (refine wpA_drawG false rfl (by kernel_rfl) (by kernel_rfl) (fun K hK => ?_)) | (refine wpA_drawG true rfl (by kernel_rfl) (by kernel_rfl) (fun K hK => ?_)))
        | (refine wpA_cond' ⟨_, evl, fun hb => ?_, fun hb => ?_⟩ <;> (try simp only [Bool.or_eq_true, Bool.and_eq_true, Bool.or_eq_false_iff, Bool.and_eq_false_iff, Bool.not_eq_true', Bool.not_eq_false', Bool.not_eq_true, Bool.not_eq_false, decide_eq_true_eq, decide_eq_false_iff_not, Bool.true_eq_false, Bool.false_eq_true, ne_eq, Classical.not_not, Int.not_lt, Int.not_le, Bool.not_true, Bool.not_false] at hb))
      | fail
  all_goals (try (refine ret_of (by simp) ⟨_, _, _, evl, ob0, OutOk.sims ?_ (by first | (simp [AV.free, AV.freeL, go_sem]; done) | exact lA_free (fun _ => by simp [AV.free, AV.freeL, u8C, iC]) _ | (simp_all [AV.free, AV.freeL, sA, u8C, iC]; done))⟩))
  all_goals first | exact Sims.refl _ | (refine Sims.of_eq ?_; first | rfl | (simp []; done) | (simp_all []; done) | (simp_all []; omega) | (simp []; grind) | (split <;> simp_all)) | exact simsF | (refine Sims.tup ?_; simp only [SimsL, and_true]; (repeat' apply And.intro) <;> first | exact simsF | skip) | (exfalso; first | omega | (simp_all; done) | (simp_all; omega)) | skip
theorem message_A (k : KeyWin) : FnA Tryz.prog 204 [.agg k.av] (liA (msgM k)) := by
  refine fnA_of tblOk Tryz.func204 rfl (by kernel_rfl) 15 Tryz.ntmps204 (by simp only [List.length_cons, List.length_nil]; omega) [.tmp 2] rfl ?_
  simp only [entrySt, argSl, Nat.zero_add, Nat.reduceAdd]
  repeat'
    first
      | first
        | (refine runS_nil (hK _ ?_); clear hK K)
        | refine stG ?_
        | (refine gateS 1 rfl ?_; refine runS_call rfl rfl ⟨_, evl, _, _, _, evl, oblF, ?_⟩; apply Exists.intro; refine ⟨fun hg => ?_, ?_⟩; · first | exact FnA.at_ (ints_KA (msgM k)) rfl rfl | exact FnA.at_s (ints_KA (msgM k)) rfl simT | exact FnA.at_s (ints_KA (msgM k)) rfl simF)
        | (refine gateA 1 rfl ?_; refine runA_call rfl ⟨_, evl, _, _, _, (fun _ _ => evlA), oblF, ?_⟩; apply Exists.intro; refine ⟨fun hg => ?_, ?_⟩; · first | exact FnA.at_ (ints_KA (msgM k)) rfl rfl | exact FnA.at_s (ints_KA (msgM k)) rfl simT | exact FnA.at_s (ints_KA (msgM k)) rfl simF)
        | (refine gateA 1 rfl ?_; refine runA_put ?_)
        | (refine gateBc ?_; first | (refine runB_nil (hK _ ?_); clear hK K) | (refine runB_op rfl ⟨_, evl, fun nb' => ?_⟩))
        | refine wpA_region (fun K hK => ?_)
        | (refine gateD ?_; first | (refine wpA_drawG false rfl (by kernel_rfl) (by kernel_rfl) (fun K hK => ?_)) | (refine wpA_drawG true rfl (by kernel_rfl) (by kernel_rfl) (fun K hK => ?_)))
        | (refine wpA_cond' ⟨_, evl, fun hb => ?_, fun hb => ?_⟩ <;> (try simp only [Bool.or_eq_true, Bool.and_eq_true, Bool.or_eq_false_iff, Bool.and_eq_false_iff, Bool.not_eq_true', Bool.not_eq_false', Bool.not_eq_true, Bool.not_eq_false, decide_eq_true_eq, decide_eq_false_iff_not, Bool.true_eq_false, Bool.false_eq_true, ne_eq, Classical.not_not, Int.not_lt, Int.not_le, Bool.not_true, Bool.not_false] at hb))
      | fail
  all_goals (try (refine ret_of (by simp) ⟨_, _, _, evl, ob0, OutOk.sims ?_ (by first | (simp [AV.free, AV.freeL, go_sem]; done) | exact lA_free (fun _ => by simp [AV.free, AV.freeL, u8C, iC]) _ | (simp_all [AV.free, AV.freeL, sA, u8C, iC]; done))⟩))
  all_goals first | exact Sims.refl _ | (refine Sims.of_eq ?_; first | rfl | (simp []; done) | (simp_all []; done) | (simp_all []; omega) | (simp []; grind) | (split <;> simp_all)) | exact simsF | (refine Sims.tup ?_; simp only [SimsL, and_true]; (repeat' apply And.intro) <;> first | exact simsF | skip) | (exfalso; first | omega | (simp_all; done) | (simp_all; omega)) | skip
theorem indexFunc_KeyWin (l : List KeyWin) (hl : l.length ≤ 4611686018427387904) (g : FuncId) (cap : List AV) (hcap : AV.freeL cap) (p : KeyWin → Bool) (hp : ∀ x ∈ l, FnA Tryz.prog g (.agg x.av :: cap) (.raw (.bool (p x)))) :
    FnA Tryz.prog 203 [lA 7 KeyWin.av l, .fn (.func g) [] cap] (.raw (.int .i64 (idxM p l))) := by
  refine fnA_of tblOk Tryz.func203 rfl (by kernel_rfl) 19 Tryz.ntmps203 (by simp only [List.length_cons, List.length_nil]; omega) [.tmp 4] rfl ?_
  simp only [entrySt, argSl, Nat.zero_add, Nat.reduceAdd]
  repeat
    first
      | (refine runS_nil (hK _ ?_); clear hK K)
      | refine stG ?_
      | (refine gateA 1 rfl ?_; refine runA_put ?_)
      | (refine gateBc ?_; first | (refine runB_nil (hK _ ?_); clear hK K) | (refine runB_op rfl ⟨_, evl, fun nb' => ?_⟩))
      | refine wpA_region (fun K hK => ?_)
      | (refine gateD ?_; first | (refine wpA_drawG false rfl (by kernel_rfl) (by kernel_rfl) (fun K hK => ?_)) | (refine wpA_drawG true rfl (by kernel_rfl) (by kernel_rfl) (fun K hK => ?_)))
  refine wpA_loop (fun k : Nat => ⟨19, 0, [(0, true, lA 7 KeyWin.av l), (1, true, .fn (.func g) [] cap), (7, true, .raw (.int .i64 l.length)), (8, true, .raw (.int .i64 k))], [], [], ((0, []), [], true)⟩)
    (fun k => k ≤ l.length ∧ ∀ i, i < k → p (l.getD i default) = false) (fun k => l.length - k) 0 ?_ ⟨by omega, fun i h => by omega⟩ ?_
  · refine Weak.gen ?_ ?_ ?_ (by simp) ?_
    rotate_left 3
    · first | (simp [subSl, subB, subR, AV.sub, AV.subL, go_sem]; done) | (simp [subSl, subB, subR, AV.sub, AV.subL, go_sem, AV.subL_free, AV.sub_free, *]; done) | (simp_all [subSl, subB, subR, AV.sub, AV.subL, go_sem]; done)
    all_goals (try simp only [SlSim, BxSim, RwSim, SimsL, lookN_cons, ↓reduceIte, Nat.reduceEqDiff, Option.some.injEq, Prod.mk.injEq, true_and, and_true, exists_eq_left', and_self])
    all_goals (try trivial)
    all_goals ((repeat' apply And.intro) <;> first | exact simsT | (intro _ _; exact simsT) | omega | (simp; done) | (simp; omega) | (intro _ _; refine SimsL.of_eq (els_snoc ?_ (by assumption) rfl) <;> first | rfl | omega | (simp; done) | (simp; omega)) | skip)
  · rintro k ⟨hk, hall⟩
    repeat
      first
        | (refine runS_nil (hK _ ?_); clear hK K)
        | refine stG ?_
        | (refine gateA 1 rfl ?_; refine runA_put ?_)
        | (refine gateBc ?_; first | (refine runB_nil (hK _ ?_); clear hK K) | (refine runB_op rfl ⟨_, evl, fun nb' => ?_⟩))
        | refine wpA_region (fun K hK => ?_)
        | (refine gateD ?_; first | (refine wpA_drawG false rfl (by kernel_rfl) (by kernel_rfl) (fun K hK => ?_)) | (refine wpA_drawG true rfl (by kernel_rfl) (by kernel_rfl) (fun K hK => ?_)))
    refine wpA_cond' ⟨_, evl, ?_, ?_⟩
    · intro hlt
      simp only [decide_eq_true_eq] at hlt
      have hmem : l.getD k default ∈ l := by rw [List.getD_eq_getElem?_getD, List.getElem?_eq_getElem (show k < l.length by omega)]; exact List.getElem_mem _
      have hpk := hp _ hmem
      repeat
        first
          | (refine runS_nil (hK _ ?_); clear hK K)
          | refine stG ?_
          | (refine gateS 1 rfl ?_; refine runS_call rfl rfl ⟨_, evl, _, _, _, evl, oblF, ?_⟩; apply Exists.intro; refine ⟨fun hg => ?_, ?_⟩; · first | exact FnA.at_ (hpk) rfl rfl | exact FnA.at_s (hpk) rfl simT | exact FnA.at_s (hpk) rfl simF)
          | (refine gateA 1 rfl ?_; refine runA_call rfl ⟨_, evl, _, _, _, (fun _ _ => evlA), oblF, ?_⟩; apply Exists.intro; refine ⟨fun hg => ?_, ?_⟩; · first | exact FnA.at_ (hpk) rfl rfl | exact FnA.at_s (hpk) rfl simT | exact FnA.at_s (hpk) rfl simF)
          | (refine gateA 1 rfl ?_; refine runA_put ?_)
          | (refine gateBc ?_; first | (refine runB_nil (hK _ ?_); clear hK K) | (refine runB_op rfl ⟨_, evl, fun nb' => ?_⟩))
          | refine wpA_region (fun K hK => ?_)
          | (refine gateD ?_; first | (refine wpA_drawG false rfl (by kernel_rfl) (by kernel_rfl) (fun K hK => ?_)) | (refine wpA_drawG true rfl (by kernel_rfl) (by kernel_rfl) (fun K hK => ?_)))
      refine wpA_cond' ⟨_, evl, ?_, ?_⟩
      · intro hb
        repeat
          first
            | (refine runS_nil (hK _ ?_); clear hK K)
            | refine stG ?_
            | (refine gateA 1 rfl ?_; refine runA_put ?_)
            | (refine gateBc ?_; first | (refine runB_nil (hK _ ?_); clear hK K) | (refine runB_op rfl ⟨_, evl, fun nb' => ?_⟩))
            | refine wpA_region (fun K hK => ?_)
            | (refine gateD ?_; first | (refine wpA_drawG false rfl (by kernel_rfl) (by kernel_rfl) (fun K hK => ?_)) | (refine wpA_drawG true rfl (by kernel_rfl) (by kernel_rfl) (fun K hK => ?_)))
        refine ret_of (by simp) ⟨_, _, _, evl, ob0, OutOk.eq ?_ ?_⟩
        · rw [idxM_hit (show k < l.length by omega) hall hb]
        · simp [AV.free]
      · intro hb
        repeat
          first
            | (refine runS_nil (hK _ ?_); clear hK K)
            | refine stG ?_
            | (refine gateA 1 rfl ?_; refine runA_put ?_)
            | (refine gateBc ?_; first | (refine runB_nil (hK _ ?_); clear hK K) | (refine runB_op rfl ⟨_, evl, fun nb' => ?_⟩))
            | refine wpA_region (fun K hK => ?_)
            | (refine gateD ?_; first | (refine wpA_drawG false rfl (by kernel_rfl) (by kernel_rfl) (fun K hK => ?_)) | (refine wpA_drawG true rfl (by kernel_rfl) (by kernel_rfl) (fun K hK => ?_)))
        refine ⟨k + 1, ⟨by omega, fun i hi => ?_⟩, by omega, ?_⟩
        · rcases Nat.lt_succ_iff_lt_or_eq.1 hi with h | rfl
          · exact hall i h
          · exact hb
        · refine Weak.gen ?_ ?_ ?_ (by simp) ?_
          rotate_left 3
          · first | (simp [subSl, subB, subR, AV.sub, AV.subL, go_sem]; done) | (simp [subSl, subB, subR, AV.sub, AV.subL, go_sem, AV.subL_free, AV.sub_free, *]; done) | (simp_all [subSl, subB, subR, AV.sub, AV.subL, go_sem]; done)
          all_goals (try simp only [SlSim, BxSim, RwSim, SimsL, lookN_cons, ↓reduceIte, Nat.reduceEqDiff, Option.some.injEq, Prod.mk.injEq, true_and, and_true, exists_eq_left', and_self])
          all_goals (try trivial)
          all_goals ((repeat' apply And.intro) <;> first | exact simsT | (intro _ _; exact simsT) | omega | (simp; done) | (simp; omega) | (intro _ _; refine SimsL.of_eq (els_snoc ?_ (by assumption) rfl) <;> first | rfl | omega | (simp; done) | (simp; omega)) | skip)
    · intro hge
      simp only [decide_eq_false_iff_not] at hge
      repeat
        first
          | (refine runS_nil (hK _ ?_); clear hK K)
          | refine stG ?_
          | (refine gateA 1 rfl ?_; refine runA_put ?_)
          | (refine gateBc ?_; first | (refine runB_nil (hK _ ?_); clear hK K) | (refine runB_op rfl ⟨_, evl, fun nb' => ?_⟩))
          | refine wpA_region (fun K hK => ?_)
          | (refine gateD ?_; first | (refine wpA_drawG false rfl (by kernel_rfl) (by kernel_rfl) (fun K hK => ?_)) | (refine wpA_drawG true rfl (by kernel_rfl) (by kernel_rfl) (fun K hK => ?_)))
      refine ret_of (by simp) ⟨_, _, _, evl, ob0, OutOk.eq ?_ ?_⟩
      · rw [idxM_none (fun i hi => hall i (by omega))]
      · simp [AV.free]
theorem containsFunc_KeyWin (l : List KeyWin) (hl : l.length ≤ 4611686018427387904) (g : FuncId) (cap : List AV) (hcap : AV.freeL cap) (p : KeyWin → Bool) (hp : ∀ x ∈ l, FnA Tryz.prog g (.agg x.av :: cap) (.raw (.bool (p x)))) :
    FnA Tryz.prog 178 [lA 7 KeyWin.av l, .fn (.func g) [] cap] (.raw (.bool (l.any p))) := by
  have hi := indexFunc_KeyWin l hl g cap hcap p hp
  have hany := idxM_any p l
  have hfr : (lA 7 KeyWin.av l).free := lA_free (fun y => KeyWin.free y) _
  generalize lA 7 KeyWin.av l = L at hi hfr
  generalize idxM p l = i at hi hany
  refine fnA_of tblOk Tryz.func178 rfl (by kernel_rfl) 9 Tryz.ntmps178 (by simp only [List.length_cons, List.length_nil]; omega) [.tmp 4] rfl ?_
  simp only [entrySt, argSl, Nat.zero_add, Nat.reduceAdd]
  repeat'
    first
      | first
        | (refine runS_nil (hK _ ?_); clear hK K)
        | refine stG ?_
        | (refine gateS 1 rfl ?_; refine runS_call rfl rfl ⟨_, evl, _, _, _, evl, oblF, ?_⟩; apply Exists.intro; refine ⟨fun hg => ?_, ?_⟩; · first | exact FnA.at_ (hi) rfl rfl | exact FnA.at_s (hi) rfl simT | exact FnA.at_s (hi) rfl simF)
        | (refine gateA 1 rfl ?_; refine runA_call rfl ⟨_, evl, _, _, _, (fun _ _ => evlA), oblF, ?_⟩; apply Exists.intro; refine ⟨fun hg => ?_, ?_⟩; · first | exact FnA.at_ (hi) rfl rfl | exact FnA.at_s (hi) rfl simT | exact FnA.at_s (hi) rfl simF)
        | (refine gateA 1 rfl ?_; refine runA_put ?_)
        | (refine gateBc ?_; first | (refine runB_nil (hK _ ?_); clear hK K) | (refine runB_op rfl ⟨_, evl, fun nb' => ?_⟩))
        | refine wpA_region (fun K hK => ?_)
        | (refine gateD ?_; first | (refine wpA_drawG false rfl (by kernel_rfl) (by kernel_rfl) (fun K hK => ?_)) | (refine wpA_drawG true rfl (by kernel_rfl) (by kernel_rfl) (fun K hK => ?_)))
        | (refine wpA_cond' ⟨_, evl, fun hb => ?_, fun hb => ?_⟩ <;> (try simp only [Bool.or_eq_true, Bool.and_eq_true, Bool.or_eq_false_iff, Bool.and_eq_false_iff, Bool.not_eq_true', Bool.not_eq_false', Bool.not_eq_true, Bool.not_eq_false, decide_eq_true_eq, decide_eq_false_iff_not, Bool.true_eq_false, Bool.false_eq_true, ne_eq, Classical.not_not, Int.not_lt, Int.not_le, Bool.not_true, Bool.not_false] at hb))
      | fail
  all_goals (try (refine ret_of (by simp) ⟨_, _, _, evl, ob0, OutOk.sims ?_ (by first | (simp [AV.free, AV.freeL, go_sem]; done) | exact lA_free (fun _ => by simp [AV.free, AV.freeL, u8C, iC]) _ | (simp_all [AV.free, AV.freeL, sA, u8C, iC]; done))⟩))
  all_goals first | exact Sims.refl _ | (refine Sims.of_eq ?_; first | rfl | (simp []; done) | (simp_all []; done) | (simp_all []; omega) | (simp []; grind) | (split <;> simp_all)) | exact simsF | (refine Sims.tup ?_; simp only [SimsL, and_true]; (repeat' apply And.intro) <;> first | exact simsF | skip) | (exfalso; first | omega | (simp_all; done) | (simp_all; omega)) | skip
  all_goals (rw [hany])
end Go.Proofs.YtihnjbnlbedpaaaGreatDoor
