/- The reference's numerals and texts, and the functions of its layer 6. -/
import Derived.Test.YtihnjbnlbedpaaaGreatDoorRef
namespace Go.Proofs.YtihnjbnlbedpaaaGreatDoor
set_option linter.unusedVariables false
set_option linter.unusedSimpArgs false
set_option maxHeartbeats 4000000
set_option maxRecDepth 100000
open Go.RowKit
theorem u8wrap {n : Int} (h : 0 ≤ n ∧ n ≤ 255) : IntKind.u8.wrap n = n := inK_wrap (k := .u8) h
theorem strOne {k : Int} (h : 0 ≤ k ∧ k ≤ 255) : strOf 1 (chunkA 1 [.raw (.int .u8 (IntKind.u8.wrap k))]) = ⟨[UInt8.ofNat k.toNat].toArray⟩ := by
  rw [u8wrap h]; exact strOf_one k _ rfl
theorem itoa_nn (n : Int) (h : 0 ≤ n) : Lib.itoa n = Lib.decDigits n.toNat := by rw [Lib.itoa, if_neg (by omega)]
theorem itoa_ng (n : Int) (h : n < 0) : Lib.itoa n = 45 :: Lib.decDigits n.natAbs := by rw [Lib.itoa, if_pos h]
theorem decimalR_A : ∀ (m : Nat) (n : Int), n.natAbs ≤ m → inK .i64 n → FnA Tryz.prog 191 [.raw (.int .i64 n)] (sA (Lib.itoa n)) := by
  intro m
  induction m using Nat.strongRecOn with
  | _ m ih =>
  intro n hm hn
  have hk := hn
  simp only [inK] at hn
  have ih2 : 10 ≤ n.natAbs → FnA Tryz.prog 191 [.raw (.int .i64 (n.tdiv 10))] (sA (Lib.itoa (n.tdiv 10))) := fun h => by
    have hb := tdiv_bounds (a := n) (b := 10) (by omega)
    refine ih (n.tdiv 10).natAbs ?_ _ (Nat.le_refl _) (by simp only [inK]; omega)
    rw [Int.natAbs_tdiv]
    show n.natAbs / 10 < m
    omega
  have hlen : (Lib.itoa (n.tdiv 10)).length ≤ 21 := by
    have hb := tdiv_bounds (a := n) (b := 10) (by omega)
    exact Lib.itoa_length_le _ (by omega) (by omega)
  have hq0 : 10 * n.tdiv 10 + n.tmod 10 = n := Int.mul_tdiv_add_tmod n 10
  have hr : -10 < n.tmod 10 ∧ n.tmod 10 < 10 ∧ (0 ≤ n → 0 ≤ n.tmod 10) ∧ (n ≤ 0 → n.tmod 10 ≤ 0) := by
    have h1 := Int.tmod_eq_emod (a := n) (b := 10)
    split at h1 <;> omega
  have hq : (0 ≤ n → 10 * n.tdiv 10 ≤ n ∧ n < 10 * n.tdiv 10 + 10) ∧ (n ≤ 0 → n ≤ 10 * n.tdiv 10 ∧ 10 * n.tdiv 10 - 10 < n) := by omega
  have htd := tdiv_bounds (a := n) (b := 10) (by omega)
  clear hq0 ih
  refine fnA_of tblOk Tryz.func191 rfl (by kernel_rfl) 41 Tryz.ntmps191 (by simp only [List.length_cons, List.length_nil]; omega) [.tmp 2] rfl ?_
  simp only [entrySt, argSl, Nat.zero_add, Nat.reduceAdd]
  repeat'
    first
      | first
        | (refine runS_nil (hK _ ?_); clear hK K)
        | refine stG ?_
        | (refine gateS 1 rfl ?_; refine runS_call rfl rfl ⟨_, evl, _, _, _, evl, oblF, ?_⟩; apply Exists.intro; refine ⟨fun hg => ?_, ?_⟩; · first | exact FnA.at_ (ih2 (by omega)) rfl rfl | exact FnA.at_s (ih2 (by omega)) rfl simT | exact FnA.at_s (ih2 (by omega)) rfl simF)
        | (refine gateA 1 rfl ?_; refine runA_call rfl ⟨_, evl, _, _, _, (fun _ _ => evlA), oblF, ?_⟩; apply Exists.intro; refine ⟨fun hg => ?_, ?_⟩; · first | exact FnA.at_ (ih2 (by omega)) rfl rfl | exact FnA.at_s (ih2 (by omega)) rfl simT | exact FnA.at_s (ih2 (by omega)) rfl simF)
        | (refine gateA 1 rfl ?_; refine runA_put ?_)
        | (refine gateBc ?_; first | (refine runB_nil (hK _ ?_); clear hK K) | (refine runB_op rfl ⟨_, evl, fun nb' => ?_⟩))
        | refine wpA_region (fun K hK => ?_)
        | (refine gateD ?_; first | (refine wpA_drawG false rfl (by kernel_rfl) (by kernel_rfl) (fun K hK => ?_)) | (refine wpA_drawG true rfl (by kernel_rfl) (by kernel_rfl) (fun K hK => ?_)))
        | (refine wpA_cond' ⟨_, evl, fun hb => ?_, fun hb => ?_⟩ <;> (try simp only [Bool.or_eq_true, Bool.and_eq_true, Bool.or_eq_false_iff, Bool.and_eq_false_iff, Bool.not_eq_true', Bool.not_eq_false', Bool.not_eq_true, Bool.not_eq_false, decide_eq_true_eq, decide_eq_false_iff_not, Bool.true_eq_false, Bool.false_eq_true, ne_eq, Classical.not_not, Int.not_lt, Int.not_le, Bool.not_true, Bool.not_false] at hb))
      | fail
  all_goals (refine ret_of (by simp) ⟨_, _, _, evl, ob0, OutOk.eq ?_ (by simp [sA, AV.free])⟩)
  · refine congrArg (fun x => AV.raw (.string x)) ?_
    rw [strOne (by omega), itoa_ng n (by omega), Lib.decDigits_one (by omega)]
    have e : (48 - n).toNat = 48 + n.natAbs := by omega
    rw [e]; rfl
  · refine congrArg (fun x => AV.raw (.string x)) ?_
    have hq0 : 10 * n.tdiv 10 + n.tmod 10 = n := Int.mul_tdiv_add_tmod n 10
    have e : (48 - n.tmod 10).toNat = 48 + n.natAbs % 10 := by omega
    have e2 : (n.tdiv 10).natAbs = n.natAbs / 10 := by omega
    rw [strOne (by omega), str_append, itoa_ng n (by omega), itoa_ng (n.tdiv 10) (by omega), e, e2, Lib.decDigits.eq_1 n.natAbs, dif_neg (by omega)]
    rfl
  · refine congrArg (fun x => AV.raw (.string x)) ?_
    rw [strOne (by omega), itoa_nn n (by omega), Lib.decDigits_one (by omega)]
    have e : (48 + n).toNat = 48 + n.toNat := by omega
    rw [e]
  · refine congrArg (fun x => AV.raw (.string x)) ?_
    have hq0 : 10 * n.tdiv 10 + n.tmod 10 = n := Int.mul_tdiv_add_tmod n 10
    have e : (48 + n.tmod 10).toNat = 48 + n.toNat % 10 := by omega
    have e2 : (n.tdiv 10).toNat = n.toNat / 10 := by omega
    rw [strOne (by omega), str_append, itoa_nn n (by omega), itoa_nn (n.tdiv 10) (by omega), e, e2, Lib.decDigits.eq_1 n.toNat, dif_neg (by omega)]
/-- The text of integers, of a list. -/
def txtL (l : List Int) : List UInt8 := (l.map fun n => Lib.itoa n ++ [32]).flatten
theorem txtL_snoc (l : List Int) (n : Int) : txtL (l ++ [n]) = txtL l ++ (Lib.itoa n ++ [32]) := by simp [txtL]
def okI (l : List Int) : Prop := ∀ n ∈ l, inK .i64 n
theorem okI_getD {l : List Int} (h : okI l) {k : Nat} (hk : k < l.length) : inK .i64 (l.getD k 0) := by
  rw [List.getD_eq_getElem?_getD, List.getElem?_eq_getElem hk]; exact h _ (List.getElem_mem hk)
theorem txtL_length {l : List Int} (h : okI l) : (txtL l).length ≤ 22 * l.length := by
  induction l with
  | nil => simp [txtL]
  | cons n l ih =>
    have h1 := h n (by simp)
    simp only [inK] at h1
    have h2 := Lib.itoa_length_le n h1.1 h1.2
    have h3 := ih fun m hm => h m (by simp [hm])
    simp only [txtL, List.map_cons, List.flatten_cons, List.length_append, List.length_cons, List.length_nil] at h3 ⊢
    omega
theorem take_succ_getD (l : List Int) {k : Nat} (hk : k < l.length) : l.take (k + 1) = l.take k ++ [l.getD k 0] := by
  rw [List.take_succ_eq_append_getElem hk, List.getD_eq_getElem?_getD, List.getElem?_eq_getElem hk]; rfl
theorem textR_A (l : List Int) (h : okI l) (hl : l.length ≤ 1000000) : FnA Tryz.prog 148 [liA l] (byA (txtL l)) := by
  have hlen := txtL_length h
  refine fnA_of tblOk Tryz.func148 rfl (by kernel_rfl) 22 Tryz.ntmps148 (by simp only [List.length_cons, List.length_nil]; omega) [.tmp 2] rfl ?_
  simp only [entrySt, argSl, Nat.zero_add, Nat.reduceAdd]
  repeat
    first
      | (refine runS_nil (hK _ ?_); clear hK K)
      | refine stR ?_
      | (refine gateA 1 rfl ?_; refine runA_put ?_)
      | (refine gateBc ?_; first | (refine runB_nil (hK _ ?_); clear hK K) | (refine runB_op rfl ⟨_, evl, fun nb' => ?_⟩))
      | refine wpA_region (fun K hK => ?_)
      | (refine gateD ?_; first | (refine wpA_drawG false rfl (by kernel_rfl) (by kernel_rfl) (fun K hK => ?_)) | (refine wpA_drawG true rfl (by kernel_rfl) (by kernel_rfl) (fun K hK => ?_)))
  refine wpA_weak (Weak.nilRow 3 5 1 rfl) ?_
  repeat
    first
      | (refine runS_nil (hK _ ?_); clear hK K)
      | refine stR ?_
      | (refine gateA 1 rfl ?_; refine runA_put ?_)
      | (refine gateBc ?_; first | (refine runB_nil (hK _ ?_); clear hK K) | (refine runB_op rfl ⟨_, evl, fun nb' => ?_⟩))
      | refine wpA_region (fun K hK => ?_)
      | (refine gateD ?_; first | (refine wpA_drawG false rfl (by kernel_rfl) (by kernel_rfl) (fun K hK => ?_)) | (refine wpA_drawG true rfl (by kernel_rfl) (by kernel_rfl) (fun K hK => ?_)))
  refine wpA_loop (fun k : Nat => ⟨22, 0, [(0, true, liA l), (3, true, .row 0 (txtL (l.take k)).length), (4, true, .raw (.int .i64 k))], [], [⟨5, 1, (txtL (l.take k)).length, els u8C (txtL (l.take k))⟩], ((0, []), [], true)⟩)
    (fun k => k ≤ l.length) (fun k => l.length - k) 0 ?_ (by omega) ?_
  · refine Weak.gen ?_ ?_ ?_ (by simp) ?_
    rotate_left 3
    · first | (simp [subSl, subB, subR, AV.sub, AV.subL, go_sem]; done) | (simp [subSl, subB, subR, AV.sub, AV.subL, go_sem, AV.subL_free, AV.sub_free, *]; done) | (simp_all [subSl, subB, subR, AV.sub, AV.subL, go_sem]; done)
    all_goals (try simp only [SlSim, BxSim, RwSim, SimsL, lookN_cons, ↓reduceIte, Nat.reduceEqDiff, Option.some.injEq, Prod.mk.injEq, true_and, and_true, exists_eq_left', and_self])
    all_goals (try trivial)
    all_goals ((repeat' apply And.intro) <;> first | exact simsT | (intro _ _; exact simsT) | omega | (simp; done) | (simp; omega) | (intro _ _; refine SimsL.of_eq (els_snoc ?_ (by assumption) rfl) <;> first | rfl | omega | (simp; done) | (simp; omega)) | skip)
  · rintro k hk
    have hlk : (txtL (l.take k)).length ≤ 22000000 := by
      have := txtL_length (l := l.take k) fun n hn => h n (List.mem_of_mem_take hn)
      rw [List.length_take] at this
      omega
    repeat
      first
        | (refine runS_nil (hK _ ?_); clear hK K)
        | refine stR ?_
        | (refine gateA 1 rfl ?_; refine runA_put ?_)
        | (refine gateBc ?_; first | (refine runB_nil (hK _ ?_); clear hK K) | (refine runB_op rfl ⟨_, evl, fun nb' => ?_⟩))
        | refine wpA_region (fun K hK => ?_)
        | (refine gateD ?_; first | (refine wpA_drawG false rfl (by kernel_rfl) (by kernel_rfl) (fun K hK => ?_)) | (refine wpA_drawG true rfl (by kernel_rfl) (by kernel_rfl) (fun K hK => ?_)))
    refine wpA_cond' ⟨_, evl, ?_, ?_⟩
    · intro hlt
      simp only [decide_eq_true_eq] at hlt
      have hin := okI_getD h (k := k) (by omega)
      have hit : (Lib.itoa (l.getD k 0)).length ≤ 21 := by
        simp only [inK] at hin
        exact Lib.itoa_length_le _ hin.1 hin.2
      repeat
        first
          | (refine runS_nil (hK _ ?_); clear hK K)
          | refine stR ?_
          | (refine gateS 1 rfl ?_; first | (refine runS_call rfl rfl ⟨_, evl, _, _, _, evl, oblF, ?_⟩; apply Exists.intro; refine ⟨fun hg => ?_, ?_⟩; · first | exact FnA.at_ (decimalR_A _ _ (Nat.le_refl _) hin) rfl rfl | exact FnA.at_s (decimalR_A _ _ (Nat.le_refl _) hin) rfl simT | exact FnA.at_s (decimalR_A _ _ (Nat.le_refl _) hin) rfl simF) | (refine runS_callR rfl rfl ⟨_, evl, _, _, _, evl, _, _, evl, oblF, ?_⟩; apply Exists.intro; refine ⟨fun hg => ?_, ?_⟩; · first | exact FnA.at_ (decimalR_A _ _ (Nat.le_refl _) hin) rfl rfl | exact FnA.at_s (decimalR_A _ _ (Nat.le_refl _) hin) rfl simT | exact FnA.at_s (decimalR_A _ _ (Nat.le_refl _) hin) rfl simF))
          | (refine gateA 1 rfl ?_; refine runA_call rfl ⟨_, evl, _, _, _, (fun _ _ => evlA), oblF, ?_⟩; apply Exists.intro; refine ⟨fun hg => ?_, ?_⟩; · first | exact FnA.at_ (decimalR_A _ _ (Nat.le_refl _) hin) rfl rfl | exact FnA.at_s (decimalR_A _ _ (Nat.le_refl _) hin) rfl simT | exact FnA.at_s (decimalR_A _ _ (Nat.le_refl _) hin) rfl simF)
          | (refine gateA 1 rfl ?_; refine runA_put ?_)
          | (refine gateBc ?_; first | (refine runB_nil (hK _ ?_); clear hK K) | (refine runB_op rfl ⟨_, evl, fun nb' => ?_⟩))
          | refine wpA_region (fun K hK => ?_)
          | (refine gateD ?_; first | (refine wpA_drawG false rfl (by kernel_rfl) (by kernel_rfl) (fun K hK => ?_)) | (refine wpA_drawG true rfl (by kernel_rfl) (by kernel_rfl) (fun K hK => ?_)))
      refine ⟨k + 1, by omega, by omega, ?_⟩
      rw [take_succ_getD l (by omega), txtL_snoc]
      refine Weak.gen ?_ ?_ ?_ (by simp) ?_
      rotate_left 3
      · first | (simp [subSl, subB, subR, AV.sub, AV.subL, go_sem]; done) | (simp [subSl, subB, subR, AV.sub, AV.subL, go_sem, AV.subL_free, AV.sub_free, *]; done) | (simp_all [subSl, subB, subR, AV.sub, AV.subL, go_sem]; done)
      all_goals (try simp only [SlSim, BxSim, RwSim, SimsL, lookN_cons, ↓reduceIte, Nat.reduceEqDiff, Option.some.injEq, Prod.mk.injEq, true_and, and_true, exists_eq_left', and_self])
      all_goals (try trivial)
      all_goals ((repeat' apply And.intro) <;> first | exact simsT | (intro _ _; exact simsT) | omega | (simp; done) | (simp; omega) | (intro _ _; refine SimsL.of_eq (els_snoc ?_ (by assumption) rfl) <;> first | rfl | omega | (simp; done) | (simp; omega)) | skip)
      intro q hq
      refine SimsL.of_eq ?_
      rw [appEl_els rfl, ← List.append_assoc]
      exact els_snoc (by simp) (by simp only [List.length_append, List.length_cons, List.length_nil] at hq; omega) rfl
    · intro hge
      simp only [decide_eq_false_iff_not] at hge
      obtain rfl : k = l.length := by omega
      rw [List.take_length]
      repeat
        first
          | (refine runS_nil (hK _ ?_); clear hK K)
          | refine stR ?_
          | (refine gateA 1 rfl ?_; refine runA_put ?_)
          | (refine gateBc ?_; first | (refine runB_nil (hK _ ?_); clear hK K) | (refine runB_op rfl ⟨_, evl, fun nb' => ?_⟩))
          | refine wpA_region (fun K hK => ?_)
          | (refine gateD ?_; first | (refine wpA_drawG false rfl (by kernel_rfl) (by kernel_rfl) (fun K hK => ?_)) | (refine wpA_drawG true rfl (by kernel_rfl) (by kernel_rfl) (fun K hK => ?_)))
      refine ret_of (by simp) ⟨_, _, _, evl, ob0, OutOk.sims ?_ (by first | (simp [AV.free, AV.freeL, go_sem]; done) | exact lA_free (fun _ => by simp [AV.free, AV.freeL, u8C, iC]) _ | (simp_all [AV.free, AV.freeL, sA, u8C, iC]; done))⟩
      exact simsT
end Go.Proofs.YtihnjbnlbedpaaaGreatDoor
