/- package keys: finding windows. -/
import Derived.Test.YtihnjbnlbedpaaaGreatDoorKeyA
namespace Go.Proofs.YtihnjbnlbedpaaaGreatDoor
set_option linter.unusedVariables false
set_option linter.unusedSimpArgs false
set_option maxHeartbeats 4000000
set_option maxRecDepth 100000
open Go.RowKit
theorem isNaN_A (x : Int) : FnA Tryz.prog 192 [.raw (.int .i64 x)] (.raw (.bool false)) := by
  refine fnA_of tblOk Tryz.func192 rfl (by kernel_rfl) 6 Tryz.ntmps192 (by simp only [List.length_cons, List.length_nil]; omega) [.tmp 2] rfl ?_
  simp only [entrySt, argSl, Nat.zero_add, Nat.reduceAdd]
  repeat'
    first
      | first
        | (refine runS_nil (hK _ ?_); clear hK K)
        | refine stG ?_
        | (refine gateA 1 rfl ?_; refine runA_put ?_)
        | (refine gateBc ?_; first | (refine runB_nil (hK _ ?_); clear hK K) | (refine runB_op rfl ⟨_, evl, fun nb' => ?_⟩))
        | refine wpA_region (fun K hK => ?_)
        | (refine gateD ?_; first | (refine wpA_drawG false rfl (by kernel_rfl) (by kernel_rfl) (fun K hK => ?_)) | (refine wpA_drawG true rfl (by kernel_rfl) (by kernel_rfl) (fun K hK => ?_)))
        | (refine wpA_cond' ⟨_, evl, fun hb => ?_, fun hb => ?_⟩ <;> (try simp only [Bool.or_eq_true, Bool.and_eq_true, Bool.or_eq_false_iff, Bool.and_eq_false_iff, Bool.not_eq_true', Bool.not_eq_false', Bool.not_eq_true, Bool.not_eq_false, decide_eq_true_eq, decide_eq_false_iff_not, Bool.true_eq_false, Bool.false_eq_true, ne_eq, Classical.not_not, Int.not_lt, Int.not_le, Bool.not_true, Bool.not_false] at hb))
      | fail
  all_goals (try (refine ret_of (by simp) ⟨_, _, _, evl, ob0, OutOk.sims ?_ (by first | (simp [AV.free, AV.freeL, go_sem]; done) | exact lA_free (fun _ => by simp [AV.free, AV.freeL, u8C, iC]) _ | (simp_all [AV.free, AV.freeL, sA, u8C, iC]; done))⟩))
  all_goals first | exact Sims.refl _ | (refine Sims.of_eq ?_; first | rfl | (simp []; done) | (simp_all []; done) | (simp_all []; omega) | (simp []; grind) | (split <;> simp_all)) | exact simsF | (refine Sims.tup ?_; simp only [SimsL, and_true]; (repeat' apply And.intro) <;> first | exact simsF | skip) | (exfalso; first | omega | (simp_all; done) | (simp_all; omega)) | skip
def cmpI (x y : Int) : Int := if x < y then -1 else if y < x then 1 else 0
theorem compareI_A (x y : Int) : FnA Tryz.prog 153 [.raw (.int .i64 x), .raw (.int .i64 y)] (.raw (.int .i64 (cmpI x y))) := by
  refine fnA_of tblOk Tryz.func153 rfl (by kernel_rfl) 20 Tryz.ntmps153 (by simp only [List.length_cons, List.length_nil]; omega) [.tmp 4] rfl ?_
  simp only [entrySt, argSl, Nat.zero_add, Nat.reduceAdd]
  repeat'
    first
      | first
        | (refine runS_nil (hK _ ?_); clear hK K)
        | refine stG ?_
        | (refine gateS 1 rfl ?_; refine runS_call rfl rfl ⟨_, evl, _, _, _, evl, oblF, ?_⟩; apply Exists.intro; refine ⟨fun hg => ?_, ?_⟩; · first | exact FnA.at_ (isNaN_A _) rfl rfl | exact FnA.at_s (isNaN_A _) rfl simT | exact FnA.at_s (isNaN_A _) rfl simF)
        | (refine gateA 1 rfl ?_; refine runA_call rfl ⟨_, evl, _, _, _, (fun _ _ => evlA), oblF, ?_⟩; apply Exists.intro; refine ⟨fun hg => ?_, ?_⟩; · first | exact FnA.at_ (isNaN_A _) rfl rfl | exact FnA.at_s (isNaN_A _) rfl simT | exact FnA.at_s (isNaN_A _) rfl simF)
        | (refine gateA 1 rfl ?_; refine runA_put ?_)
        | (refine gateBc ?_; first | (refine runB_nil (hK _ ?_); clear hK K) | (refine runB_op rfl ⟨_, evl, fun nb' => ?_⟩))
        | refine wpA_region (fun K hK => ?_)
        | (refine gateD ?_; first | (refine wpA_drawG false rfl (by kernel_rfl) (by kernel_rfl) (fun K hK => ?_)) | (refine wpA_drawG true rfl (by kernel_rfl) (by kernel_rfl) (fun K hK => ?_)))
        | (refine wpA_cond' ⟨_, evl, fun hb => ?_, fun hb => ?_⟩ <;> (try simp only [Bool.or_eq_true, Bool.and_eq_true, Bool.or_eq_false_iff, Bool.and_eq_false_iff, Bool.not_eq_true', Bool.not_eq_false', Bool.not_eq_true, Bool.not_eq_false, decide_eq_true_eq, decide_eq_false_iff_not, Bool.true_eq_false, Bool.false_eq_true, ne_eq, Classical.not_not, Int.not_lt, Int.not_le, Bool.not_true, Bool.not_false] at hb))
      | fail
  all_goals (try (refine ret_of (by simp) ⟨_, _, _, evl, ob0, OutOk.sims ?_ (by first | (simp [AV.free, AV.freeL, go_sem]; done) | exact lA_free (fun _ => by simp [AV.free, AV.freeL, u8C, iC]) _ | (simp_all [AV.free, AV.freeL, sA, u8C, iC]; done))⟩))
  all_goals first | exact Sims.refl _ | (refine Sims.of_eq ?_; first | rfl | (simp [cmpI]; done) | (simp_all [cmpI]; done) | (simp_all [cmpI]; omega) | (simp [cmpI]; grind) | (split <;> simp_all)) | exact simsF | (refine Sims.tup ?_; simp only [SimsL, and_true]; (repeat' apply And.intro) <;> first | exact simsF | skip) | (exfalso; first | omega | (simp_all; done) | (simp_all; omega)) | skip
def orM : List Int → Int
  | [] => 0
  | x :: r => if x = 0 then orM r else x
theorem or2_A (a b : Int) : FnA Tryz.prog 164 [liA [a, b]] (.raw (.int .i64 (if a = 0 then b else a))) := by
  refine fnA_of tblOk Tryz.func164 rfl (by kernel_rfl) 18 Tryz.ntmps164 (by simp only [List.length_cons, List.length_nil]; omega) [.tmp 2] rfl ?_
  simp only [entrySt, argSl, Nat.zero_add, Nat.reduceAdd]
  repeat
    first
      | (refine runS_nil (hK _ ?_); clear hK K)
      | refine stG ?_
      | (refine gateA 1 rfl ?_; refine runA_put ?_)
      | (refine gateBc ?_; first | (refine runB_nil (hK _ ?_); clear hK K) | (refine runB_op rfl ⟨_, evl, fun nb' => ?_⟩))
      | refine wpA_region (fun K hK => ?_)
      | (refine gateD ?_; first | (refine wpA_drawG false rfl (by kernel_rfl) (by kernel_rfl) (fun K hK => ?_)) | (refine wpA_drawG true rfl (by kernel_rfl) (by kernel_rfl) (fun K hK => ?_)))
  refine wpA_loop (fun k : Nat => ⟨18, 0, [(3, true, .raw (.int .i64 0)), (6, true, liA [a, b]), (7, true, .raw (.int .i64 2)), (8, true, .raw (.int .i64 k))], [], [], ((0, []), [], true)⟩)
    (fun k => k ≤ 2 ∧ ∀ i, i < k → [a, b].getD i 0 = 0) (fun k => 2 - k) 0 ?_ ⟨by omega, fun i h => by omega⟩ ?_
  · refine Weak.gen ?_ ?_ ?_ (by simp) ?_
    rotate_left 3
    · first | (simp [subSl, subB, subR, AV.sub, AV.subL, go_sem]; done) | (simp [subSl, subB, subR, AV.sub, AV.subL, go_sem, AV.subL_free, AV.sub_free, *]; done) | (simp_all [subSl, subB, subR, AV.sub, AV.subL, go_sem]; done)
    all_goals (try simp only [SlSim, BxSim, RwSim, SimsL, lookN_cons, ↓reduceIte, Nat.reduceEqDiff, Option.some.injEq, Prod.mk.injEq, true_and, and_true, exists_eq_left', and_self])
    all_goals (try trivial)
    all_goals ((repeat' apply And.intro) <;> first | exact simsT | (intro _ _; exact simsT) | omega | (simp; done) | (simp; omega) | (intro _ _; refine SimsL.of_eq (els_snoc ?_ (by assumption) rfl) <;> first | rfl | omega | (simp; done) | (simp; omega)) | skip)
  · rintro k ⟨hk, hall⟩
    repeat
      first
        | (refine runS_nil (hK _ ?_); clear hK K)
        | refine stG ?_
        | (refine gateA 1 rfl ?_; refine runA_put ?_)
        | (refine gateBc ?_; first | (refine runB_nil (hK _ ?_); clear hK K) | (refine runB_op rfl ⟨_, evl, fun nb' => ?_⟩))
        | refine wpA_region (fun K hK => ?_)
        | (refine gateD ?_; first | (refine wpA_drawG false rfl (by kernel_rfl) (by kernel_rfl) (fun K hK => ?_)) | (refine wpA_drawG true rfl (by kernel_rfl) (by kernel_rfl) (fun K hK => ?_)))
    refine wpA_cond' ⟨_, evl, ?_, ?_⟩
    · intro hlt
      simp only [decide_eq_true_eq] at hlt
      repeat
        first
          | (refine runS_nil (hK _ ?_); clear hK K)
          | refine stG ?_
          | (refine gateA 1 rfl ?_; refine runA_put ?_)
          | (refine gateBc ?_; first | (refine runB_nil (hK _ ?_); clear hK K) | (refine runB_op rfl ⟨_, evl, fun nb' => ?_⟩))
          | refine wpA_region (fun K hK => ?_)
          | (refine gateD ?_; first | (refine wpA_drawG false rfl (by kernel_rfl) (by kernel_rfl) (fun K hK => ?_)) | (refine wpA_drawG true rfl (by kernel_rfl) (by kernel_rfl) (fun K hK => ?_)))
      refine wpA_cond' ⟨_, evl, ?_, ?_⟩
      · intro hb
        repeat
          first
            | (refine runS_nil (hK _ ?_); clear hK K)
            | refine stG ?_
            | (refine gateA 1 rfl ?_; refine runA_put ?_)
            | (refine gateBc ?_; first | (refine runB_nil (hK _ ?_); clear hK K) | (refine runB_op rfl ⟨_, evl, fun nb' => ?_⟩))
            | refine wpA_region (fun K hK => ?_)
            | (refine gateD ?_; first | (refine wpA_drawG false rfl (by kernel_rfl) (by kernel_rfl) (fun K hK => ?_)) | (refine wpA_drawG true rfl (by kernel_rfl) (by kernel_rfl) (fun K hK => ?_)))
        refine ret_of (by simp) ⟨_, _, _, evl, ob0, OutOk.eq ?_ ?_⟩
        · match k, hlt, hall, hb with
          | 0, _, _, hb => simp at hb; simp [hb]
          | 1, _, hall, hb => have := hall 0 (by omega); simp at this hb; simp [this]
        · simp [AV.free]
      · intro hb
        repeat
          first
            | (refine runS_nil (hK _ ?_); clear hK K)
            | refine stG ?_
            | (refine gateA 1 rfl ?_; refine runA_put ?_)
            | (refine gateBc ?_; first | (refine runB_nil (hK _ ?_); clear hK K) | (refine runB_op rfl ⟨_, evl, fun nb' => ?_⟩))
            | refine wpA_region (fun K hK => ?_)
            | (refine gateD ?_; first | (refine wpA_drawG false rfl (by kernel_rfl) (by kernel_rfl) (fun K hK => ?_)) | (refine wpA_drawG true rfl (by kernel_rfl) (by kernel_rfl) (fun K hK => ?_)))
        refine ⟨k + 1, ⟨by omega, fun i hi => ?_⟩, by omega, ?_⟩
        · rcases Nat.lt_succ_iff_lt_or_eq.1 hi with h | rfl
          · exact hall i h
          · simpa using hb
        · refine Weak.gen ?_ ?_ ?_ (by simp) ?_
          rotate_left 3
          · first | (simp [subSl, subB, subR, AV.sub, AV.subL, go_sem]; done) | (simp [subSl, subB, subR, AV.sub, AV.subL, go_sem, AV.subL_free, AV.sub_free, *]; done) | (simp_all [subSl, subB, subR, AV.sub, AV.subL, go_sem]; done)
          all_goals (try simp only [SlSim, BxSim, RwSim, SimsL, lookN_cons, ↓reduceIte, Nat.reduceEqDiff, Option.some.injEq, Prod.mk.injEq, true_and, and_true, exists_eq_left', and_self])
          all_goals (try trivial)
          all_goals ((repeat' apply And.intro) <;> first | exact simsT | (intro _ _; exact simsT) | omega | (simp; done) | (simp; omega) | (intro _ _; refine SimsL.of_eq (els_snoc ?_ (by assumption) rfl) <;> first | rfl | omega | (simp; done) | (simp; omega)) | skip)
    · intro hge
      simp only [decide_eq_false_iff_not] at hge
      obtain rfl : k = 2 := by omega
      have h0 := hall 0 (by omega)
      have h1 := hall 1 (by omega)
      simp at h0 h1
      repeat
        first
          | (refine runS_nil (hK _ ?_); clear hK K)
          | refine stG ?_
          | (refine gateA 1 rfl ?_; refine runA_put ?_)
          | (refine gateBc ?_; first | (refine runB_nil (hK _ ?_); clear hK K) | (refine runB_op rfl ⟨_, evl, fun nb' => ?_⟩))
          | refine wpA_region (fun K hK => ?_)
          | (refine gateD ?_; first | (refine wpA_drawG false rfl (by kernel_rfl) (by kernel_rfl) (fun K hK => ?_)) | (refine wpA_drawG true rfl (by kernel_rfl) (by kernel_rfl) (fun K hK => ?_)))
      refine ret_of (by simp) ⟨_, _, _, evl, ob0, OutOk.eq ?_ ?_⟩
      · simp [h0, h1]
      · simp [AV.free]
/-- Windows are compared by their authorities, and then by their IDs. -/
def cmpK (k : KeyWin) (auth id : Int) : Int := if cmpI k.auth auth = 0 then cmpI k.id id else cmpI k.auth auth
theorem find1_A (k : KeyWin) (auth id : Int) : FnA Tryz.prog 177 [.agg k.av, liA [auth, id]] (.raw (.int .i64 (cmpK k auth id))) := by
  unfold cmpK
  have h1 := compareI_A k.auth auth
  have h2 := compareI_A k.id id
  generalize cmpI k.auth auth = c1 at *
  generalize cmpI k.id id = c2 at *
  refine fnA_of tblOk Tryz.func177 rfl (by kernel_rfl) 19 Tryz.ntmps177 (by simp only [List.length_cons, List.length_nil]; omega) [.tmp 4] rfl ?_
  simp only [entrySt, argSl, Nat.zero_add, Nat.reduceAdd]
  repeat'
    first
      | first
        | (refine runS_nil (hK _ ?_); clear hK K)
        | refine stG ?_
        | (refine gateS 1 rfl ?_; refine runS_call rfl rfl ⟨_, evl, _, _, _, evl, oblF, ?_⟩; apply Exists.intro; refine ⟨fun hg => ?_, ?_⟩; · first | exact FnA.at_ (h1) rfl rfl | exact FnA.at_ (h2) rfl rfl | exact FnA.at_ (or2_A c1 c2) rfl rfl | exact FnA.at_s (h1) rfl simT | exact FnA.at_s (h1) rfl simF | exact FnA.at_s (h2) rfl simT | exact FnA.at_s (h2) rfl simF | exact FnA.at_s (or2_A c1 c2) rfl simT | exact FnA.at_s (or2_A c1 c2) rfl simF)
        | (refine gateA 1 rfl ?_; refine runA_call rfl ⟨_, evl, _, _, _, (fun _ _ => evlA), oblF, ?_⟩; apply Exists.intro; refine ⟨fun hg => ?_, ?_⟩; · first | exact FnA.at_ (h1) rfl rfl | exact FnA.at_ (h2) rfl rfl | exact FnA.at_ (or2_A c1 c2) rfl rfl | exact FnA.at_s (h1) rfl simT | exact FnA.at_s (h1) rfl simF | exact FnA.at_s (h2) rfl simT | exact FnA.at_s (h2) rfl simF | exact FnA.at_s (or2_A c1 c2) rfl simT | exact FnA.at_s (or2_A c1 c2) rfl simF)
        | (refine gateA 1 rfl ?_; refine runA_put ?_)
        | (refine gateBc ?_; first | (refine runB_nil (hK _ ?_); clear hK K) | (refine runB_op rfl ⟨_, evl, fun nb' => ?_⟩))
        | refine wpA_region (fun K hK => ?_)
        | (refine gateD ?_; first | (refine wpA_drawG false rfl (by kernel_rfl) (by kernel_rfl) (fun K hK => ?_)) | (refine wpA_drawG true rfl (by kernel_rfl) (by kernel_rfl) (fun K hK => ?_)))
        | (refine wpA_cond' ⟨_, evl, fun hb => ?_, fun hb => ?_⟩ <;> (try simp only [Bool.or_eq_true, Bool.and_eq_true, Bool.or_eq_false_iff, Bool.and_eq_false_iff, Bool.not_eq_true', Bool.not_eq_false', Bool.not_eq_true, Bool.not_eq_false, decide_eq_true_eq, decide_eq_false_iff_not, Bool.true_eq_false, Bool.false_eq_true, ne_eq, Classical.not_not, Int.not_lt, Int.not_le, Bool.not_true, Bool.not_false] at hb))
      | fail
  all_goals (try (refine ret_of (by simp) ⟨_, _, _, evl, ob0, OutOk.sims ?_ (by first | (simp [AV.free, AV.freeL, go_sem]; done) | exact lA_free (fun _ => by simp [AV.free, AV.freeL, u8C, iC]) _ | (simp_all [AV.free, AV.freeL, sA, u8C, iC]; done))⟩))
  all_goals first | exact Sims.refl _ | (refine Sims.of_eq ?_; first | rfl | (simp []; done) | (simp_all []; done) | (simp_all []; omega) | (simp []; grind) | (split <;> simp_all)) | exact simsF | (refine Sims.tup ?_; simp only [SimsL, and_true]; (repeat' apply And.intro) <;> first | exact simsF | skip) | (exfalso; first | omega | (simp_all; done) | (simp_all; omega)) | skip
/-- The index of the first element that is not below. -/
def lowN (l : List KeyWin) (c : KeyWin → Int) : Nat := l.findIdx fun k => decide (0 ≤ c k)
theorem lowN_le (l : List KeyWin) (c : KeyWin → Int) : lowN l c ≤ l.length := List.findIdx_le_length
theorem getD_get {α : Type} [Inhabited α] {l : List α} {i : Nat} (h : i < l.length) : l.getD i default = l[i] := by simp [h]
theorem lowN_lt {l : List KeyWin} {c : KeyWin → Int} {i : Nat} (h : i < lowN l c) : c (l.getD i default) < 0 := by
  have hl := lowN_le l c
  rw [getD_get (by omega)]
  have := List.not_of_lt_findIdx h
  simpa using this
theorem lowN_ge {l : List KeyWin} {c : KeyWin → Int} (h : lowN l c < l.length) : 0 ≤ c (l.getD (lowN l c) default) := by
  rw [getD_get h]
  have := List.findIdx_getElem (w := h)
  exact of_decide_eq_true this
def risesC (l : List KeyWin) (c : KeyWin → Int) : Prop := ∀ i j, i ≤ j → j < l.length → c (l.getD j default) < 0 → c (l.getD i default) < 0
theorem u64w {n : Int} (h : 0 ≤ n ∧ n < 18446744073709551616) : IntKind.u64.wrap n = n := inK_wrap (k := .u64) (by simp only [inK]; omega)
theorem shr64 (x : Nat) : (x : Int).fdiv (2 ^ min 1 64) = ((x / 2 : Nat) : Int) := shr1 x
theorem bsearch_A (l : List KeyWin) (hl : l.length ≤ 4611686018427387904) (t : AV) (ht : t.free) (g : FuncId) (c : KeyWin → Int) (hc : ∀ k, FnA Tryz.prog g [.agg k.av, t] (.raw (.int .i64 (c k)))) (hr : risesC l c) :
    FnA Tryz.prog 175 [lA 7 KeyWin.av l, t, .raw (.func (.func g) #[] #[])]
      (.tup [.raw (.int .i64 (lowN l c)), .raw (.bool (decide (lowN l c < l.length) && decide (c (l.getD (lowN l c) default) = 0)))]) := by
  have hle := lowN_le l c
  have hlt := fun i => lowN_lt (l := l) (c := c) (i := i)
  have hge := lowN_ge (l := l) (c := c)
  have hr' := fun i j => hr i j
  generalize lowN l c = m at *
  refine fnA_of tblOk Tryz.func175 rfl (by kernel_rfl) 49 Tryz.ntmps175 (by simp only [List.length_cons, List.length_nil]; omega) [.tmp 6, .tmp 7] rfl ?_
  simp only [entrySt, argSl, Nat.zero_add, Nat.reduceAdd]
  repeat
    first
      | (refine runS_nil (hK _ ?_); clear hK K)
      | refine stG ?_
      | (refine gateA 1 rfl ?_; refine runA_put ?_)
      | (refine gateBc ?_; first | (refine runB_nil (hK _ ?_); clear hK K) | (refine runB_op rfl ⟨_, evl, fun nb' => ?_⟩))
      | refine wpA_region (fun K hK => ?_)
      | (refine gateD ?_; first | (refine wpA_drawG false rfl (by kernel_rfl) (by kernel_rfl) (fun K hK => ?_)) | (refine wpA_drawG true rfl (by kernel_rfl) (by kernel_rfl) (fun K hK => ?_)))
  refine wpA_loop (fun s : Nat × Nat => ⟨49, 0, [(0, true, lA 7 KeyWin.av l), (1, true, t), (2, true, .raw (.func (.func g) #[] #[])), (8, true, .raw (.int .i64 l.length)), (9, true, .raw (.int .i64 s.1)), (10, true, .raw (.int .i64 s.2))], [], [], ((0, []), [], true)⟩)
    (fun s => s.1 ≤ m ∧ m ≤ s.2 ∧ s.2 ≤ l.length) (fun s => s.2 - s.1) (0, l.length) ?_ ⟨by simp, hle, by simp⟩ ?_
  · refine Weak.gen ?_ ?_ ?_ (by simp) ?_
    rotate_left 3
    · first | (simp [subSl, subB, subR, AV.sub, AV.subL, go_sem]; done) | (simp [subSl, subB, subR, AV.sub, AV.subL, go_sem, AV.subL_free, AV.sub_free, *]; done) | (simp_all [subSl, subB, subR, AV.sub, AV.subL, go_sem]; done)
    all_goals (try simp only [SlSim, BxSim, RwSim, SimsL, lookN_cons, ↓reduceIte, Nat.reduceEqDiff, Option.some.injEq, Prod.mk.injEq, true_and, and_true, exists_eq_left', and_self])
    all_goals (try trivial)
    all_goals ((repeat' apply And.intro) <;> first | exact simsT | (intro _ _; exact simsT) | omega | (simp; done) | (simp; omega) | (intro _ _; refine SimsL.of_eq (els_snoc ?_ (by assumption) rfl) <;> first | rfl | omega | (simp; done) | (simp; omega)) | skip)
  · rintro ⟨i, j⟩ ⟨h1, h2, h3⟩
    dsimp only at h1 h2 h3 ⊢
    have e1 : IntKind.u64.wrap ((i : Int) + j) = ((i + j : Nat) : Int) := by rw [u64w (by omega)]; simp
    repeat
      first
        | (refine runS_nil (hK _ ?_); clear hK K)
        | refine stG ?_
        | (refine gateA 1 rfl ?_; refine runA_put ?_)
        | (refine gateBc ?_; first | (refine runB_nil (hK _ ?_); clear hK K) | (refine runB_op rfl ⟨_, evl, fun nb' => ?_⟩))
        | refine wpA_region (fun K hK => ?_)
        | (refine gateD ?_; first | (refine wpA_drawG false rfl (by kernel_rfl) (by kernel_rfl) (fun K hK => ?_)) | (refine wpA_drawG true rfl (by kernel_rfl) (by kernel_rfl) (fun K hK => ?_)))
    refine wpA_cond' ⟨_, evl, ?_, ?_⟩
    · intro hb
      simp only [decide_eq_true_eq] at hb
      repeat
        first
          | (refine runS_nil (hK _ ?_); clear hK K)
          | refine stG ?_
          | (refine gateA 1 rfl ?_; refine runA_put ?_)
          | (refine gateBc ?_; first | (refine runB_nil (hK _ ?_); clear hK K) | (refine runB_op rfl ⟨_, evl, fun nb' => ?_⟩))
          | refine wpA_region (fun K hK => ?_)
          | (refine gateD ?_; first | (refine wpA_drawG false rfl (by kernel_rfl) (by kernel_rfl) (fun K hK => ?_)) | (refine wpA_drawG true rfl (by kernel_rfl) (by kernel_rfl) (fun K hK => ?_)))
      rw [e1, shr64]
      have hmid : (i + j) / 2 < l.length := by omega
      repeat
        first
          | (refine runS_nil (hK _ ?_); clear hK K)
          | refine stG ?_
          | (refine gateS 1 rfl ?_; refine runS_call rfl rfl ⟨_, evl, _, _, _, evl, oblF, ?_⟩; apply Exists.intro; refine ⟨fun hg => ?_, ?_⟩; · first | exact FnA.at_ (hc _) rfl rfl | exact FnA.at_s (hc _) rfl simT | exact FnA.at_s (hc _) rfl simF)
          | (refine gateA 1 rfl ?_; refine runA_call rfl ⟨_, evl, _, _, _, (fun _ _ => evlA), oblF, ?_⟩; apply Exists.intro; refine ⟨fun hg => ?_, ?_⟩; · first | exact FnA.at_ (hc _) rfl rfl | exact FnA.at_s (hc _) rfl simT | exact FnA.at_s (hc _) rfl simF)
          | (refine gateA 1 rfl ?_; refine runA_put ?_)
          | (refine gateBc ?_; first | (refine runB_nil (hK _ ?_); clear hK K) | (refine runB_op rfl ⟨_, evl, fun nb' => ?_⟩))
          | refine wpA_region (fun K hK => ?_)
          | (refine gateD ?_; first | (refine wpA_drawG false rfl (by kernel_rfl) (by kernel_rfl) (fun K hK => ?_)) | (refine wpA_drawG true rfl (by kernel_rfl) (by kernel_rfl) (fun K hK => ?_)))
      refine wpA_cond' ⟨_, evl, ?_, ?_⟩
      · intro hb2
        simp only [decide_eq_true_eq] at hb2
        repeat
          first
            | (refine runS_nil (hK _ ?_); clear hK K)
            | refine stG ?_
            | (refine gateA 1 rfl ?_; refine runA_put ?_)
            | (refine gateBc ?_; first | (refine runB_nil (hK _ ?_); clear hK K) | (refine runB_op rfl ⟨_, evl, fun nb' => ?_⟩))
            | refine wpA_region (fun K hK => ?_)
            | (refine gateD ?_; first | (refine wpA_drawG false rfl (by kernel_rfl) (by kernel_rfl) (fun K hK => ?_)) | (refine wpA_drawG true rfl (by kernel_rfl) (by kernel_rfl) (fun K hK => ?_)))
        refine ⟨((i + j) / 2 + 1, j), ⟨?_, h2, h3⟩, by show j - ((i + j) / 2 + 1) < j - i; omega, ?_⟩
        · show (i + j) / 2 + 1 ≤ m
          rcases Nat.lt_or_ge ((i + j) / 2) m with h | h
          · exact h
          · have q1 := hr' m ((i + j) / 2) h hmid hb2
            have q2 := hge (by omega)
            omega
        · refine Weak.gen ?_ ?_ ?_ (by simp) ?_
          rotate_left 3
          · first | (simp [subSl, subB, subR, AV.sub, AV.subL, go_sem]; done) | (simp [subSl, subB, subR, AV.sub, AV.subL, go_sem, AV.subL_free, AV.sub_free, *]; done) | (simp_all [subSl, subB, subR, AV.sub, AV.subL, go_sem]; done)
          all_goals (try simp only [SlSim, BxSim, RwSim, SimsL, lookN_cons, ↓reduceIte, Nat.reduceEqDiff, Option.some.injEq, Prod.mk.injEq, true_and, and_true, exists_eq_left', and_self])
          all_goals (try trivial)
          all_goals ((repeat' apply And.intro) <;> first | exact simsT | (intro _ _; exact simsT) | omega | (simp; done) | (simp; omega) | (intro _ _; refine SimsL.of_eq (els_snoc ?_ (by assumption) rfl) <;> first | rfl | omega | (simp; done) | (simp; omega)) | skip)
      · intro hb2
        simp only [decide_eq_false_iff_not] at hb2
        repeat
          first
            | (refine runS_nil (hK _ ?_); clear hK K)
            | refine stG ?_
            | (refine gateA 1 rfl ?_; refine runA_put ?_)
            | (refine gateBc ?_; first | (refine runB_nil (hK _ ?_); clear hK K) | (refine runB_op rfl ⟨_, evl, fun nb' => ?_⟩))
            | refine wpA_region (fun K hK => ?_)
            | (refine gateD ?_; first | (refine wpA_drawG false rfl (by kernel_rfl) (by kernel_rfl) (fun K hK => ?_)) | (refine wpA_drawG true rfl (by kernel_rfl) (by kernel_rfl) (fun K hK => ?_)))
        refine ⟨(i, (i + j) / 2), ⟨h1, ?_, by show (i + j) / 2 ≤ _; omega⟩, by show (i + j) / 2 - i < j - i; omega, ?_⟩
        · show m ≤ (i + j) / 2
          rcases Nat.lt_or_ge ((i + j) / 2) m with h | h
          · exact absurd (hlt _ h) hb2
          · exact h
        · refine Weak.gen ?_ ?_ ?_ (by simp) ?_
          rotate_left 3
          · first | (simp [subSl, subB, subR, AV.sub, AV.subL, go_sem]; done) | (simp [subSl, subB, subR, AV.sub, AV.subL, go_sem, AV.subL_free, AV.sub_free, *]; done) | (simp_all [subSl, subB, subR, AV.sub, AV.subL, go_sem]; done)
          all_goals (try simp only [SlSim, BxSim, RwSim, SimsL, lookN_cons, ↓reduceIte, Nat.reduceEqDiff, Option.some.injEq, Prod.mk.injEq, true_and, and_true, exists_eq_left', and_self])
          all_goals (try trivial)
          all_goals ((repeat' apply And.intro) <;> first | exact simsT | (intro _ _; exact simsT) | omega | (simp; done) | (simp; omega) | (intro _ _; refine SimsL.of_eq (els_snoc ?_ (by assumption) rfl) <;> first | rfl | omega | (simp; done) | (simp; omega)) | skip)
    · intro hb
      simp only [decide_eq_false_iff_not] at hb
      obtain rfl : i = m := by omega
      repeat
        first
          | (refine runS_nil (hK _ ?_); clear hK K)
          | refine stG ?_
          | (refine gateS 1 rfl ?_; refine runS_call rfl rfl ⟨_, evl, _, _, _, evl, oblF, ?_⟩; apply Exists.intro; refine ⟨fun hg => ?_, ?_⟩; · first | exact FnA.at_ (hc _) rfl rfl | exact FnA.at_s (hc _) rfl simT | exact FnA.at_s (hc _) rfl simF)
          | (refine gateA 1 rfl ?_; refine runA_call rfl ⟨_, evl, _, _, _, (fun _ _ => evlA), oblF, ?_⟩; apply Exists.intro; refine ⟨fun hg => ?_, ?_⟩; · first | exact FnA.at_ (hc _) rfl rfl | exact FnA.at_s (hc _) rfl simT | exact FnA.at_s (hc _) rfl simF)
          | (refine gateA 1 rfl ?_; refine runA_put ?_)
          | (refine gateBc ?_; first | (refine runB_nil (hK _ ?_); clear hK K) | (refine runB_op rfl ⟨_, evl, fun nb' => ?_⟩))
          | refine wpA_region (fun K hK => ?_)
          | (refine gateD ?_; first | (refine wpA_drawG false rfl (by kernel_rfl) (by kernel_rfl) (fun K hK => ?_)) | (refine wpA_drawG true rfl (by kernel_rfl) (by kernel_rfl) (fun K hK => ?_)))
      refine ret_of (by simp) ⟨_, _, _, evl, ob0, OutOk.eq ?_ ?_⟩
      · simp
      · simp [AV.free, AV.freeL]
end Go.Proofs.YtihnjbnlbedpaaaGreatDoor
