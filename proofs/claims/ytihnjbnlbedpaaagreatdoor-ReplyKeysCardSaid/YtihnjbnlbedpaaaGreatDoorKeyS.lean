/- The reference of layer 22: Last, Pub, lists that are the same. -/
import Derived.Test.YtihnjbnlbedpaaaGreatDoorKeyR
namespace Go.Proofs.YtihnjbnlbedpaaaGreatDoor
set_option linter.unusedVariables false
set_option linter.unusedSimpArgs false
set_option maxHeartbeats 4000000
set_option maxRecDepth 100000
open Go.RowKit
/-- The index of the last element of which something holds, or -1. -/
def lastM {α : Type} [Inhabited α] (p : α → Bool) (l : List α) : Nat → Int
  | 0 => -1
  | k + 1 => if p (l.getD k default) then k else lastM p l k
theorem lastM_range {α : Type} [Inhabited α] (p : α → Bool) (l : List α) : ∀ k, -1 ≤ lastM p l k ∧ lastM p l k < k
  | 0 => by simp [lastM]
  | k + 1 => by
    have := lastM_range p l k
    unfold lastM
    split <;> omega
theorem same_step {α : Type} [Inhabited α] {a b : List α} (hl : a.length = b.length) (h : ∀ i, i < a.length → a.getD i default = b.getD i default) : a = b := by
  refine List.ext_getElem hl fun i h1 h2 => ?_
  have := h i h1
  simpa [h1, h2] using this
theorem sameR_A (a b : List KeyWin) (hl : a.length ≤ 4611686018427387904) : FnA Tryz.prog 48 [lA 7 KeyWin.av a, lA 7 KeyWin.av b] (.raw (.bool (decide (a = b)))) := by
  refine fnA_of tblOk Tryz.func48 rfl (by kernel_rfl) 26 Tryz.ntmps48 (by simp only [List.length_cons, List.length_nil]; omega) [.tmp 4] rfl ?_
  simp only [entrySt, argSl, Nat.zero_add, Nat.reduceAdd]
  repeat'
    first
      | first
        | (refine runS_nil (hK _ ?_); clear hK K)
        | refine stG ?_
        | (refine gateA 1 rfl ?_; refine runA_put ?_)
        | (refine gateBc ?_; first | (refine runB_nil (hK _ ?_); clear hK K) | (refine runB_op rfl ⟨_, evl, fun nb' => ?_⟩))
        | refine wpA_region (fun K hK => ?_)
        | (refine gateD ?_; first | (refine wpA_drawG false rfl (by kernel_rfl) (by kernel_rfl) (fun K hK => ?_)) | (refine wpA_drawG true rfl (by kernel_rfl) (by kernel_rfl) (fun K hK => ?_)))
        | (refine wpA_cond' ⟨_, evl, fun hb => ?_, fun hb => ?_⟩ <;> (try simp only [Bool.or_eq_true, Bool.and_eq_true, Bool.or_eq_false_iff, Bool.and_eq_false_iff, Bool.not_eq_true', Bool.not_eq_false', Bool.not_eq_true, Bool.not_eq_false, decide_eq_true_eq, decide_eq_false_iff_not, Bool.true_eq_false, Bool.false_eq_true, ne_eq, Classical.not_not, Int.not_lt, Int.not_le, Bool.not_true, Bool.not_false] at hb))
      | fail
  · refine ret_of (by simp) ⟨_, _, _, evl, ob0, OutOk.eq ?_ (by simp [AV.free])⟩
    simp only [AV.raw.injEq, Value.bool.injEq]
    rw [eq_comm, decide_eq_false_iff_not]
    intro h
    have := congrArg List.length h
    omega
  refine wpA_loop (fun k : Nat => ⟨26, 0, [(0, true, lA 7 KeyWin.av a), (1, true, lA 7 KeyWin.av b), (5, true, .raw (.int .i64 k))], [], [], ((0, []), [], true)⟩)
    (fun k => k ≤ a.length ∧ ∀ i, i < k → a.getD i default = b.getD i default) (fun k => a.length - k) 0 ?_ ⟨by omega, fun i h => by omega⟩ ?_
  · refine Weak.gen ?_ ?_ ?_ (by simp) ?_
    rotate_left 3
    · first | (simp [subSl, subB, subR, AV.sub, AV.subL, go_sem]; done) | (simp [subSl, subB, subR, AV.sub, AV.subL, go_sem, AV.subL_free, AV.sub_free, *]; done) | (simp_all [subSl, subB, subR, AV.sub, AV.subL, go_sem]; done)
    all_goals (try simp only [SlSim, BxSim, RwSim, SimsL, lookN_cons, ↓reduceIte, Nat.reduceEqDiff, Option.some.injEq, Prod.mk.injEq, true_and, and_true, exists_eq_left', and_self])
    all_goals (try trivial)
    all_goals ((repeat' apply And.intro) <;> first | exact simsT | (intro _ _; exact simsT) | omega | (simp; done) | (simp; omega) | (intro _ _; refine SimsL.of_eq (els_snoc ?_ (by assumption) rfl) <;> first | rfl | omega | (simp; done) | (simp; omega)) | skip)
  · rintro k ⟨hk, hall⟩
    repeat'
      first
        | first
          | (refine runS_nil (hK _ ?_); clear hK K)
          | refine stG ?_
          | (refine gateA 1 rfl ?_; refine runA_put ?_)
          | (refine gateBc ?_; first | (refine runB_nil (hK _ ?_); clear hK K) | (refine runB_op rfl ⟨_, evl, fun nb' => ?_⟩))
          | refine wpA_region (fun K hK => ?_)
          | (refine gateD ?_; first | (refine wpA_drawG false rfl (by kernel_rfl) (by kernel_rfl) (fun K hK => ?_)) | (refine wpA_drawG true rfl (by kernel_rfl) (by kernel_rfl) (fun K hK => ?_)))
          | (refine wpA_cond' ⟨_, evl, fun hb => ?_, fun hb => ?_⟩ <;> (try simp only [Bool.or_eq_true, Bool.and_eq_true, Bool.or_eq_false_iff, Bool.and_eq_false_iff, Bool.not_eq_true', Bool.not_eq_false', Bool.not_eq_true, Bool.not_eq_false, decide_eq_true_eq, decide_eq_false_iff_not, Bool.true_eq_false, Bool.false_eq_true, ne_eq, Classical.not_not, Int.not_lt, Int.not_le, Bool.not_true, Bool.not_false] at hb))
        | fail
    · refine ret_of (by simp) ⟨_, _, _, evl, ob0, OutOk.eq ?_ (by simp [AV.free])⟩
      simp only [AV.raw.injEq, Value.bool.injEq]
      rw [eq_comm, decide_eq_false_iff_not]
      rintro rfl
      simp at hb
    · refine ⟨k + 1, ⟨by omega, fun i hi => ?_⟩, by omega, ?_⟩
      · rcases Nat.lt_succ_iff_lt_or_eq.1 hi with h | rfl
        · exact hall i h
        · have e : ∀ x y : KeyWin, x.auth = y.auth → x.id = y.id → x.pub = y.pub → x.from_ = y.from_ → x.until_ = y.until_ → x.sig.c = y.sig.c → x.sig.s = y.sig.s → x = y := by
            rintro ⟨_, _, _, _, _, ⟨_, _⟩⟩ ⟨_, _, _, _, _, ⟨_, _⟩⟩
            simp only [KeyWin.mk.injEq, Sig.mk.injEq]
            intro h1 h2 h3 h4 h5 h6 h7
            exact ⟨h1, h2, h3, h4, h5, h6, h7⟩
          simp at hb
          exact e _ _ (by simp_all) (by simp_all) (by simp_all) (by simp_all) (by simp_all) (by simp_all) (by simp_all)
      · refine Weak.gen ?_ ?_ ?_ (by simp) ?_
        rotate_left 3
        · first | (simp [subSl, subB, subR, AV.sub, AV.subL, go_sem]; done) | (simp [subSl, subB, subR, AV.sub, AV.subL, go_sem, AV.subL_free, AV.sub_free, *]; done) | (simp_all [subSl, subB, subR, AV.sub, AV.subL, go_sem]; done)
        all_goals (try simp only [SlSim, BxSim, RwSim, SimsL, lookN_cons, ↓reduceIte, Nat.reduceEqDiff, Option.some.injEq, Prod.mk.injEq, true_and, and_true, exists_eq_left', and_self])
        all_goals (try trivial)
        all_goals ((repeat' apply And.intro) <;> first | exact simsT | (intro _ _; exact simsT) | omega | (simp; done) | (simp; omega) | (intro _ _; refine SimsL.of_eq (els_snoc ?_ (by assumption) rfl) <;> first | rfl | omega | (simp; done) | (simp; omega)) | skip)
    · refine ret_of (by simp) ⟨_, _, _, evl, ob0, OutOk.eq ?_ (by simp [AV.free])⟩
      simp only [AV.raw.injEq, Value.bool.injEq]
      rw [eq_comm, decide_eq_true_eq]
      exact same_step (by omega) fun i hi => hall i (by omega)
theorem validIR_A (i : Iv) : FnA Tryz.prog 34 [.agg i.av] (.raw (.bool (decide (0 ≤ i.lo) && decide (i.lo ≤ i.hi) && decide (i.hi ≤ 3000000000000000)))) := by
  refine fnA_of tblOk Tryz.func34 rfl (by kernel_rfl) 18 Tryz.ntmps34 (by simp only [List.length_cons, List.length_nil]; omega) [.tmp 2] rfl ?_
  simp only [entrySt, argSl, Nat.zero_add, Nat.reduceAdd]
  repeat'
    first
      | first
        | (refine runS_nil (hK _ ?_); clear hK K)
        | refine stG ?_
        | (refine gateA 1 rfl ?_; refine runA_put ?_)
        | (refine gateBc ?_; first | (refine runB_nil (hK _ ?_); clear hK K) | (refine runB_op rfl ⟨_, evl, fun nb' => ?_⟩))
        | refine wpA_region (fun K hK => ?_)
        | (refine gateD ?_; first | (refine wpA_drawG false rfl (by kernel_rfl) (by kernel_rfl) (fun K hK => ?_)) | (refine wpA_drawG true rfl (by kernel_rfl) (by kernel_rfl) (fun K hK => ?_)))
        | (refine wpA_cond' ⟨_, evl, fun hb => ?_, fun hb => ?_⟩ <;> (try simp only [Bool.or_eq_true, Bool.and_eq_true, Bool.or_eq_false_iff, Bool.and_eq_false_iff, Bool.not_eq_true', Bool.not_eq_false', Bool.not_eq_true, Bool.not_eq_false, decide_eq_true_eq, decide_eq_false_iff_not, Bool.true_eq_false, Bool.false_eq_true, ne_eq, Classical.not_not, Int.not_lt, Int.not_le, Bool.not_true, Bool.not_false] at hb))
      | fail
  all_goals (try (refine ret_of (by simp) ⟨_, _, _, evl, ob0, OutOk.sims ?_ (by first | (simp [AV.free, AV.freeL, go_sem]; done) | exact lA_free (fun _ => by simp [AV.free, AV.freeL, u8C, iC]) _ | (simp_all [AV.free, AV.freeL, sA, u8C, iC]; done))⟩))
  all_goals first | exact Sims.refl _ | (refine Sims.of_eq ?_; first | rfl | (simp []; done) | (simp_all []; done) | (simp_all []; omega) | (simp []; grind) | (split <;> simp_all)) | exact simsF | (refine Sims.tup ?_; simp only [SimsL, and_true]; (repeat' apply And.intro) <;> first | exact simsF | skip) | (exfalso; first | omega | (simp_all; done) | (simp_all; omega)) | skip
/-- What is found is the one. -/
theorem found_at {l : List KeyWin} (h : ValidP l) {auth id : Int} {k : Nat} (hk : k < l.length) (he : (l.getD k default).auth = auth ∧ (l.getD k default).id = id) : foundM l auth id = true ∧ findN l auth id = k := by
  have h1 : findN l auth id = k := by
    unfold findN
    rcases Nat.lt_trichotomy (lowN l fun k => cmpK k auth id) k with h2 | h2 | h2
    · have h3 := lowN_ge (l := l) (c := fun k => cmpK k auth id) (by omega)
      have h4 := valid_lex h k _ h2 hk
      have h5 := (cmpK_lt (l.getD (lowN l fun k => cmpK k auth id) default) auth id).2 (by omega)
      omega
    · exact h2
    · have h3 := lowN_lt (l := l) (c := fun k => cmpK k auth id) h2
      rw [(cmpK_eq _ auth id).2 he] at h3
      omega
  refine ⟨?_, h1⟩
  unfold foundM
  rw [h1, (cmpK_eq _ auth id).2 he]
  simp [hk]
theorem found_none {l : List KeyWin} {auth id : Int} (h : ∀ i, i < l.length → ¬ ((l.getD i default).auth = auth ∧ (l.getD i default).id = id)) : foundM l auth id = false := by
  unfold foundM
  rcases Nat.lt_or_ge (findN l auth id) l.length with h1 | h1
  · have := h _ h1
    rw [← cmpK_eq] at this
    rw [decide_eq_false this, Bool.and_false]
  · rw [decide_eq_false (by omega), Bool.false_and]
theorem pubM_at {l : List KeyWin} {auth id : Int} {i : Iv} (hp : ValidP l ∧ (0 ≤ i.lo ∧ i.lo ≤ i.hi ∧ i.hi ≤ 3000000000000000)) {k : Nat} (hk : k < l.length) (he : (l.getD k default).auth = auth ∧ (l.getD k default).id = id) :
    pubM l auth id i = if i.lo < (l.getD k default).from_ ∨ (l.getD k default).until_ ≤ i.hi then (0, 31) else ((l.getD k default).pub, 0) := by
  obtain ⟨h1, h2⟩ := found_at hp.1 hk he
  rw [pubM, if_pos hp, h2, h1]
  simp
theorem pubM_none {l : List KeyWin} {auth id : Int} {i : Iv} (hp : ValidP l ∧ (0 ≤ i.lo ∧ i.lo ≤ i.hi ∧ i.hi ≤ 3000000000000000)) (h : ∀ i, i < l.length → ¬ ((l.getD i default).auth = auth ∧ (l.getD i default).id = id)) : pubM l auth id i = (0, 4) := by
  rw [pubM, if_pos hp, found_none h]
  simp
theorem pubR_A (l : List KeyWin) (hl : l.length ≤ 4611686018427387904) (hf : ∀ k ∈ l, k.fits) (auth id : Int) (i : Iv) : FnA Tryz.prog 135 [lA 7 KeyWin.av l, .raw (.int .i64 auth), .raw (.int .i64 id), .agg i.av] (.tup [.raw (.int .i64 (pubM l auth id i).1), .raw (.int .i64 (pubM l auth id i).2)]) := by
  have hv := validR_A l hf
  have hi := validIR_A i
  refine fnA_of tblOk Tryz.func135 rfl (by kernel_rfl) 68 Tryz.ntmps135 (by simp only [List.length_cons, List.length_nil]; omega) [.tmp 8, .tmp 9] rfl ?_
  simp only [entrySt, argSl, Nat.zero_add, Nat.reduceAdd]
  repeat'
    first
      | first
        | (refine runS_nil (hK _ ?_); clear hK K)
        | refine stG ?_
        | (refine gateS 1 rfl ?_; refine runS_call rfl rfl ⟨_, evl, _, _, _, evl, oblF, ?_⟩; apply Exists.intro; refine ⟨fun hg => ?_, ?_⟩; · first | exact FnA.at_ (hv) rfl rfl | exact FnA.at_ (hi) rfl rfl | exact FnA.at_s (hv) rfl simT | exact FnA.at_s (hv) rfl simF | exact FnA.at_s (hi) rfl simT | exact FnA.at_s (hi) rfl simF)
        | (refine gateA 1 rfl ?_; refine runA_call rfl ⟨_, evl, _, _, _, (fun _ _ => evlA), oblF, ?_⟩; apply Exists.intro; refine ⟨fun hg => ?_, ?_⟩; · first | exact FnA.at_ (hv) rfl rfl | exact FnA.at_ (hi) rfl rfl | exact FnA.at_s (hv) rfl simT | exact FnA.at_s (hv) rfl simF | exact FnA.at_s (hi) rfl simT | exact FnA.at_s (hi) rfl simF)
        | (refine gateA 1 rfl ?_; refine runA_put ?_)
        | (refine gateBc ?_; first | (refine runB_nil (hK _ ?_); clear hK K) | (refine runB_op rfl ⟨_, evl, fun nb' => ?_⟩))
        | refine wpA_region (fun K hK => ?_)
        | (refine gateD ?_; first | (refine wpA_drawG false rfl (by kernel_rfl) (by kernel_rfl) (fun K hK => ?_)) | (refine wpA_drawG true rfl (by kernel_rfl) (by kernel_rfl) (fun K hK => ?_)))
        | (refine wpA_cond' ⟨_, evl, fun hb => ?_, fun hb => ?_⟩ <;> (try simp only [Bool.or_eq_true, Bool.and_eq_true, Bool.or_eq_false_iff, Bool.and_eq_false_iff, Bool.not_eq_true', Bool.not_eq_false', Bool.not_eq_true, Bool.not_eq_false, decide_eq_true_eq, decide_eq_false_iff_not, Bool.true_eq_false, Bool.false_eq_true, ne_eq, Classical.not_not, Int.not_lt, Int.not_le, Bool.not_true, Bool.not_false] at hb))
      | fail
  · all_goals (try (refine ret_of (by simp) ⟨_, _, _, evl, ob0, OutOk.sims ?_ (by first | (simp [AV.free, AV.freeL, go_sem]; done) | exact lA_free (fun _ => by simp [AV.free, AV.freeL, u8C, iC]) _ | (simp_all [AV.free, AV.freeL, sA, u8C, iC]; done))⟩))
    all_goals first | exact Sims.refl _ | (refine Sims.of_eq ?_; first | rfl | (simp [pubM]; done) | (simp_all [pubM]; done) | (simp_all [pubM]; omega) | (simp [pubM]; grind) | (split <;> simp_all)) | exact simsF | (refine Sims.tup ?_; simp only [SimsL, and_true]; (repeat' apply And.intro) <;> first | exact simsF | skip) | (exfalso; first | omega | (simp_all; done) | (simp_all; omega)) | skip
  refine wpA_loop (fun k : Nat => ⟨68, 0, [(0, true, lA 7 KeyWin.av l), (1, true, .raw (.int .i64 auth)), (2, true, .raw (.int .i64 id)), (7, true, .box 0 0), (12, true, .raw (.int .i64 k))], [[.raw (.int .i64 i.lo), .raw (.int .i64 i.hi)]], [], ((0, []), [], true)⟩)
    (fun k => k ≤ l.length ∧ ∀ i, i < k → ¬ ((l.getD i default).auth = auth ∧ (l.getD i default).id = id)) (fun k => l.length - k) 0 ?_ ⟨by omega, fun i h => by omega⟩ ?_
  · refine Weak.gen ?_ ?_ ?_ (by simp) ?_
    rotate_left 3
    · first | (simp [subSl, subB, subR, AV.sub, AV.subL, go_sem]; done) | (simp [subSl, subB, subR, AV.sub, AV.subL, go_sem, AV.subL_free, AV.sub_free, *]; done) | (simp_all [subSl, subB, subR, AV.sub, AV.subL, go_sem]; done)
    all_goals (try simp only [SlSim, BxSim, RwSim, SimsL, lookN_cons, ↓reduceIte, Nat.reduceEqDiff, Option.some.injEq, Prod.mk.injEq, true_and, and_true, exists_eq_left', and_self])
    all_goals (try trivial)
    all_goals ((repeat' apply And.intro) <;> first | exact simsT | (intro _ _; exact simsT) | omega | (simp; done) | (simp; omega) | (intro _ _; refine SimsL.of_eq (els_snoc ?_ (by assumption) rfl) <;> first | rfl | omega | (simp; done) | (simp; omega)) | skip)
  · rintro k ⟨hk, hall⟩
    have hp : ValidP l ∧ (0 ≤ i.lo ∧ i.lo ≤ i.hi ∧ i.hi ≤ 3000000000000000) := by simp_all
    have hat := fun hk he => pubM_at (auth := auth) (id := id) hp (k := k) hk he
    clear hv hi
    repeat'
      first
        | first
          | (refine runS_nil (hK _ ?_); clear hK K)
          | refine stG ?_
          | (refine gateA 1 rfl ?_; refine runA_put ?_)
          | (refine gateBc ?_; first | (refine runB_nil (hK _ ?_); clear hK K) | (refine runB_op rfl ⟨_, evl, fun nb' => ?_⟩))
          | refine wpA_region (fun K hK => ?_)
          | (refine gateD ?_; first | (refine wpA_drawG false rfl (by kernel_rfl) (by kernel_rfl) (fun K hK => ?_)) | (refine wpA_drawG true rfl (by kernel_rfl) (by kernel_rfl) (fun K hK => ?_)))
          | (refine wpA_cond' ⟨_, evl, fun hb => ?_, fun hb => ?_⟩ <;> (try simp only [Bool.or_eq_true, Bool.and_eq_true, Bool.or_eq_false_iff, Bool.and_eq_false_iff, Bool.not_eq_true', Bool.not_eq_false', Bool.not_eq_true, Bool.not_eq_false, decide_eq_true_eq, decide_eq_false_iff_not, Bool.true_eq_false, Bool.false_eq_true, ne_eq, Classical.not_not, Int.not_lt, Int.not_le, Bool.not_true, Bool.not_false] at hb))
        | fail
    · refine ⟨k + 1, ⟨by omega, fun i hi => ?_⟩, by omega, ?_⟩
      · rcases Nat.lt_succ_iff_lt_or_eq.1 hi with h | rfl
        · exact hall i h
        · intro h
          rcases hb with hb | hb
          · exact hb h.1
          · exact hb h.2
      · refine Weak.gen ?_ ?_ ?_ (by simp) ?_
        rotate_left 3
        · first | (simp [subSl, subB, subR, AV.sub, AV.subL, go_sem]; done) | (simp [subSl, subB, subR, AV.sub, AV.subL, go_sem, AV.subL_free, AV.sub_free, *]; done) | (simp_all [subSl, subB, subR, AV.sub, AV.subL, go_sem]; done)
        all_goals (try simp only [SlSim, BxSim, RwSim, SimsL, lookN_cons, ↓reduceIte, Nat.reduceEqDiff, Option.some.injEq, Prod.mk.injEq, true_and, and_true, exists_eq_left', and_self])
        all_goals (try trivial)
        all_goals ((repeat' apply And.intro) <;> first | exact simsT | (intro _ _; exact simsT) | omega | (simp; done) | (simp; omega) | (intro _ _; refine SimsL.of_eq (els_snoc ?_ (by assumption) rfl) <;> first | rfl | omega | (simp; done) | (simp; omega)) | skip)
    · refine ret_of (by simp) ⟨_, _, _, evl, ob0, OutOk.sims ?_ (by first | (simp [AV.free, AV.freeL, go_sem]; done) | exact lA_free (fun _ => by simp [AV.free, AV.freeL, u8C, iC]) _ | (simp_all [AV.free, AV.freeL, sA, u8C, iC]; done))⟩
      rw [hat (by omega) (by assumption), if_pos (by assumption)]
      exact Sims.refl _
    · refine ret_of (by simp) ⟨_, _, _, evl, ob0, OutOk.sims ?_ (by first | (simp [AV.free, AV.freeL, go_sem]; done) | exact lA_free (fun _ => by simp [AV.free, AV.freeL, u8C, iC]) _ | (simp_all [AV.free, AV.freeL, sA, u8C, iC]; done))⟩
      rw [hat (by omega) (by assumption), if_neg (by omega)]
      exact Sims.refl _
    · refine ret_of (by simp) ⟨_, _, _, evl, ob0, OutOk.sims ?_ (by first | (simp [AV.free, AV.freeL, go_sem]; done) | exact lA_free (fun _ => by simp [AV.free, AV.freeL, u8C, iC]) _ | (simp_all [AV.free, AV.freeL, sA, u8C, iC]; done))⟩
      rw [pubM_none hp fun i hi => hall i (by omega)]
      exact Sims.refl _
end Go.Proofs.YtihnjbnlbedpaaaGreatDoor
