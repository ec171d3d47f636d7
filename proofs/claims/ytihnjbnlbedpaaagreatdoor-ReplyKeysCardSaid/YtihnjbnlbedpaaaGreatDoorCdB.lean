/- package codec: put. -/
import Derived.Test.YtihnjbnlbedpaaaGreatDoorCdA
namespace Go.Proofs.YtihnjbnlbedpaaaGreatDoor
set_option linter.unusedVariables false
set_option linter.unusedSimpArgs false
set_option maxHeartbeats 4000000
set_option maxRecDepth 100000
open Go.RowKit
def zzI (v : Int) : Int := bitI .xor .u64 (IntKind.u64.wrap (IntKind.u64.wrap v * 2 ^ min 1 64)) (IntKind.u64.wrap (v.fdiv (2 ^ min (Int.toNat 63) 64)))
theorem u64_range (n : Int) : 0 ≤ IntKind.u64.wrap n ∧ IntKind.u64.wrap n < 18446744073709551616 := by
  have h : IntKind.u64.wrap n = n % 18446744073709551616 := rfl
  rw [h]
  exact ⟨Int.emod_nonneg _ (by decide), Int.emod_lt_of_pos _ (by decide)⟩
theorem zz_range (v : Int) : 0 ≤ zzI v ∧ zzI v < 18446744073709551616 := u64_range _
/-- The bytes of a number. -/
def putB (v : Int) : List Int := digF 10 (zzI v)
theorem putB_len (v : Int) : (putB v).length ≤ 10 := digF_len _ _
theorem pref_item {pre full : List Int} {item : List AV} {h : List (List AV)} (e : h = pre.map itB) (hp : pre <+: full) (hi : (h ++ [item]) <+: full.map itB) : ∃ d, item = itB d ∧ (pre ++ [d]) <+: full := by
  subst e
  obtain ⟨r, rfl⟩ := hp
  simp only [List.map_append] at hi
  cases r with
  | nil => exfalso; have := hi.length_le; simp at this; omega
  | cons c r =>
    rw [List.prefix_append_right_inj] at hi
    simp only [List.map_cons, List.cons_prefix_cons, List.nil_prefix, and_true] at hi
    exact ⟨c, hi, by simp⟩
theorem put_G (v : Int) (B : List Int) (hn : B.length ≤ 1000000) :
    FnG Tryz.prog 214 [.row 0 B.length, .raw (.int .i64 v)] [] [⟨5, 1, B.length, els (kC .u8) B⟩] (.row 0 (B ++ putB v).length) [] [⟨5, 1, (B ++ putB v).length, els (kC .u8) (B ++ putB v)⟩] := by
  refine fnG_of tblOk Tryz.func214 rfl (by kernel_rfl) 20 Tryz.ntmps214 (by simp only [List.length_cons, List.length_nil]; omega) [.tmp 4] rfl 0 (by simp) ?_
  simp only [entryG, argSl, Nat.zero_add, Nat.reduceAdd, List.length_cons, List.length_nil]
  repeat
    first
      | (refine runS_nil (hK _ ?_); clear hK K)
      | refine stR ?_
      | (refine gateA 1 rfl ?_; refine runA_put ?_)
      | (refine gateBc ?_; first | (refine runB_nil (hK _ ?_); clear hK K) | (refine runB_op rfl ⟨_, evl, fun nb' => ?_⟩))
      | refine wpA_region (fun K hK => ?_)
      | (refine gateD ?_; first | (refine wpA_drawG false rfl (by kernel_rfl) (by kernel_rfl) (fun K hK => ?_)) | (refine wpA_drawG true rfl (by kernel_rfl) (by kernel_rfl) (fun K hK => ?_)))
  refine sCallG [] [] (digits_G _) rfl rfl rfl ⟨_, evl, _, evl, _, evl, by simp, by decide, by decide, by first | trivial | exact ⟨rfl, trivial⟩ | exact ⟨rfl, rfl, trivial⟩ | exact ⟨rfl, rfl, rfl, trivial⟩ | simp [handL, AV.renL, AV.ren, ARow.ren], by first | trivial | exact ⟨rfl, trivial⟩ | exact ⟨rfl, rfl, trivial⟩ | exact ⟨rfl, rfl, rfl, trivial⟩ | simp [handL, AV.renL, AV.ren, ARow.ren], (by first | (simp [AV.subL, AV.sub]; done) | (simp only [List.forall_mem_cons, List.not_mem_nil, false_implies, implies_true, and_true, true_and, AV.subL, AV.sub, List.length_cons, List.length_nil, Nat.zero_add, Nat.reduceAdd]; (repeat' apply And.intro) <;> first | trivial | omega | (simp; done) | (refine AV.sub_free _ _ _ ?_; exact lA_free (fun _ => by simp) _) | (refine AV.subL_free _ _ _ ?_; simp; done) | (intro r hr; cases hr; done))), _, evl, _, evl, _, evl, ?_⟩
  repeat
    first
      | (refine runS_nil (hK _ ?_); clear hK K)
      | refine stR ?_
      | (refine gateA 1 rfl ?_; refine runA_put ?_)
      | (refine gateBc ?_; first | (refine runB_nil (hK _ ?_); clear hK K) | (refine runB_op rfl ⟨_, evl, fun nb' => ?_⟩))
      | refine wpA_region (fun K hK => ?_)
      | (refine gateD ?_; first | (refine wpA_drawG false rfl (by kernel_rfl) (by kernel_rfl) (fun K hK => ?_)) | (refine wpA_drawG true rfl (by kernel_rfl) (by kernel_rfl) (fun K hK => ?_)))
  refine wpA_rangeFuncB (bk := [[.row 0 B.length]]) (own := [[.raw (.int .u64 (zzI v))]]) (sl' := [(2, true, .box 0 0)]) (cap := [.box 0 0]) (items := (putB v).map itB) (fun h j bx rw ys => j = none ∧ ys = ((0, []), [], true) ∧ ∃ pre, pre <+: putB v ∧ h = pre.map itB ∧ bx = [[.row 0 (B ++ pre).length]] ∧ rw = [⟨5, 1, (B ++ pre).length, els (kC .u8) (B ++ pre)⟩])
    rfl rfl rfl rfl (by simp [AV.subL, AV.sub]) (fun cs hc => by simp at hc; subst hc; exact ⟨trivial, trivial⟩) (digits1_S _ (zz_range v)) ⟨by simp, by simp⟩ (by simp) ?_ (by simp) ?_ ⟨rfl, rfl, [], by simp, rfl, by rw [List.append_nil], by rw [List.append_nil]⟩ ?_ ?_ ?_
  · simp only [SlSim, lookN_cons, ↓reduceIte, Nat.reduceEqDiff, Option.some.injEq, Prod.mk.injEq, true_and, and_true, exists_eq_left']
    exact simsT
  · simp [subSl, subB, subR, AV.sub, AV.subL, go_sem, els, kC]
  · rintro h item bx' rw' ys' ⟨_, rfl, pre, hp, hh, rfl, rfl⟩ hpr _
    obtain ⟨d, rfl, hpd⟩ := pref_item hh hp hpr
    refine ⟨rfl, ?_⟩
    simp only [zipSl, List.cons_append, List.nil_append]
    have hpl := hp.length_le
    have hpl2 := putB_len v
    have hbp : (B ++ pre).length ≤ 1000010 := by rw [List.length_append]; omega
    obtain ⟨Bp, hBp⟩ : ∃ Bp, Bp = B ++ pre := ⟨_, rfl⟩
    rw [← hBp] at hbp ⊢
    repeat
      first
        | (refine runS_nil (hK _ ?_); clear hK K)
        | refine stR ?_
        | (refine gateA 1 rfl ?_; refine runA_put ?_)
        | (refine gateBc ?_; first | (refine runB_nil (hK _ ?_); clear hK K) | (refine runB_op rfl ⟨_, evl, fun nb' => ?_⟩))
        | refine wpA_region (fun K hK => ?_)
        | (refine gateD ?_; first | (refine wpA_drawG false rfl (by kernel_rfl) (by kernel_rfl) (fun K hK => ?_)) | (refine wpA_drawG true rfl (by kernel_rfl) (by kernel_rfl) (fun K hK => ?_)))
    refine ⟨rfl, ?_⟩
    repeat
      first
        | (refine runS_nil (hK _ ?_); clear hK K)
        | refine stR ?_
        | (refine gateA 1 rfl ?_; refine runA_put ?_)
        | (refine gateBc ?_; first | (refine runB_nil (hK _ ?_); clear hK K) | (refine runB_op rfl ⟨_, evl, fun nb' => ?_⟩))
        | refine wpA_region (fun K hK => ?_)
        | (refine gateD ?_; first | (refine wpA_drawG false rfl (by kernel_rfl) (by kernel_rfl) (fun K hK => ?_)) | (refine wpA_drawG true rfl (by kernel_rfl) (by kernel_rfl) (fun K hK => ?_)))
    refine ⟨20, 65, [], [[.row 0 (Bp ++ [d]).length]], [⟨5, 1, (Bp ++ [d]).length, els (kC .u8) (Bp ++ [d])⟩], ((0, []), [], true), ?_, rfl, rfl, rfl, pre ++ [d], hpd, by rw [hh]; simp, by rw [hBp, List.append_assoc], by rw [hBp, List.append_assoc]⟩
    rw [List.length_append]
    refine Weak.gen ?_ ?_ ?_ (by simp) ?_
    rotate_left 3
    · first | (simp [subSl, subB, subR, AV.sub, AV.subL, go_sem]; done) | (simp [subSl, subB, subR, AV.sub, AV.subL, go_sem, AV.subL_free, AV.sub_free, *]; done) | (simp_all [subSl, subB, subR, AV.sub, AV.subL, go_sem]; done)
    all_goals (try simp only [SlSim, BxSim, RwSim, SimsL, lookN_cons, ↓reduceIte, Nat.reduceEqDiff, Option.some.injEq, Prod.mk.injEq, true_and, and_true, exists_eq_left', and_self])
    all_goals (try trivial)
    all_goals ((repeat' apply And.intro) <;> first | exact simsT | (intro _ _; exact simsT) | omega | (simp; done) | (simp; omega) | (intro _ _; refine SimsL.of_eq (els_snoc ?_ (by assumption) rfl) <;> first | rfl | omega | (simp; done) | (simp; omega)) | skip)
  · rintro bx' rw' ys' ⟨_, rfl, pre, hp, hh, rfl, rfl⟩
    have hl : pre.length = (putB v).length := by have := congrArg List.length hh; simpa using this.symm
    obtain rfl := hp.eq_of_length hl
    clear hp hh hl
    repeat
      first
        | (refine runS_nil (hK _ ?_); clear hK K)
        | refine stR ?_
        | (refine gateA 1 rfl ?_; refine runA_put ?_)
        | (refine gateBc ?_; first | (refine runB_nil (hK _ ?_); clear hK K) | (refine runB_op rfl ⟨_, evl, fun nb' => ?_⟩))
        | refine wpA_region (fun K hK => ?_)
        | (refine gateD ?_; first | (refine wpA_drawG false rfl (by kernel_rfl) (by kernel_rfl) (fun K hK => ?_)) | (refine wpA_drawG true rfl (by kernel_rfl) (by kernel_rfl) (fun K hK => ?_)))
    refine retG_of (by simp) ⟨_, _, _, evl, obq, OutG.bel rfl obb, by simp, rfl, rfl, obb, ?_⟩
    intro r hr
    simp only [List.mem_cons, List.not_mem_nil, or_false] at hr
    subst hr
    exact fun i hi => ⟨trivial, trivial⟩
  · rintro h j bx' rw' ys' _ ⟨hj, _⟩
    cases hj
/-- The first bytes, in a row of its own. -/
theorem put_N (v : Int) :
    FnG Tryz.prog 214 [.raw (.slice none 0 0), .raw (.int .i64 v)] [] [] (.row 0 (putB v).length) [] [⟨5, 1, (putB v).length, els (kC .u8) (putB v)⟩] := by
  refine fnG_of tblOk Tryz.func214 rfl (by kernel_rfl) 20 Tryz.ntmps214 (by simp only [List.length_cons, List.length_nil]; omega) [.tmp 4] rfl 0 (by simp) ?_
  simp only [entryG, argSl, Nat.zero_add, Nat.reduceAdd, List.length_cons, List.length_nil]
  refine wpA_weak (Weak.nilRow 0 5 1 rfl) ?_
  refine wpA_weak (st' := ⟨20, 64 * 0, [(0, true, .row 0 0), (1, true, .raw (.int .i64 v))], [], [⟨5, 1, 0, els (kC .u8) []⟩], ((0, []), [], true)⟩) ?_ ?_
  · refine Weak.gen ?_ ?_ ?_ (by simp) ?_
    rotate_left 3
    · first | (simp [subSl, subB, subR, AV.sub, AV.subL, go_sem]; done) | (simp [subSl, subB, subR, AV.sub, AV.subL, go_sem, AV.subL_free, AV.sub_free, *]; done) | (simp_all [subSl, subB, subR, AV.sub, AV.subL, go_sem]; done)
    all_goals (try simp only [SlSim, BxSim, RwSim, SimsL, lookN_cons, ↓reduceIte, Nat.reduceEqDiff, Option.some.injEq, Prod.mk.injEq, true_and, and_true, exists_eq_left', and_self])
    all_goals (try trivial)
    all_goals ((repeat' apply And.intro) <;> first | exact simsT | (intro _ _; exact simsT) | omega | (simp; done) | (simp; omega) | (intro _ _; refine SimsL.of_eq (els_snoc ?_ (by assumption) rfl) <;> first | rfl | omega | (simp; done) | (simp; omega)) | skip)
  repeat
    first
      | (refine runS_nil (hK _ ?_); clear hK K)
      | refine stR ?_
      | (refine gateA 1 rfl ?_; refine runA_put ?_)
      | (refine gateBc ?_; first | (refine runB_nil (hK _ ?_); clear hK K) | (refine runB_op rfl ⟨_, evl, fun nb' => ?_⟩))
      | refine wpA_region (fun K hK => ?_)
      | (refine gateD ?_; first | (refine wpA_drawG false rfl (by kernel_rfl) (by kernel_rfl) (fun K hK => ?_)) | (refine wpA_drawG true rfl (by kernel_rfl) (by kernel_rfl) (fun K hK => ?_)))
  refine sCallG [] [] (digits_G _) rfl rfl rfl ⟨_, evl, _, evl, _, evl, by simp, by decide, by decide, by first | trivial | exact ⟨rfl, trivial⟩ | exact ⟨rfl, rfl, trivial⟩ | exact ⟨rfl, rfl, rfl, trivial⟩ | simp [handL, AV.renL, AV.ren, ARow.ren], by first | trivial | exact ⟨rfl, trivial⟩ | exact ⟨rfl, rfl, trivial⟩ | exact ⟨rfl, rfl, rfl, trivial⟩ | simp [handL, AV.renL, AV.ren, ARow.ren], (by first | (simp [AV.subL, AV.sub]; done) | (simp only [List.forall_mem_cons, List.not_mem_nil, false_implies, implies_true, and_true, true_and, AV.subL, AV.sub, List.length_cons, List.length_nil, Nat.zero_add, Nat.reduceAdd]; (repeat' apply And.intro) <;> first | trivial | omega | (simp; done) | (refine AV.sub_free _ _ _ ?_; exact lA_free (fun _ => by simp) _) | (refine AV.subL_free _ _ _ ?_; simp; done) | (intro r hr; cases hr; done))), _, evl, _, evl, _, evl, ?_⟩
  repeat
    first
      | (refine runS_nil (hK _ ?_); clear hK K)
      | refine stR ?_
      | (refine gateA 1 rfl ?_; refine runA_put ?_)
      | (refine gateBc ?_; first | (refine runB_nil (hK _ ?_); clear hK K) | (refine runB_op rfl ⟨_, evl, fun nb' => ?_⟩))
      | refine wpA_region (fun K hK => ?_)
      | (refine gateD ?_; first | (refine wpA_drawG false rfl (by kernel_rfl) (by kernel_rfl) (fun K hK => ?_)) | (refine wpA_drawG true rfl (by kernel_rfl) (by kernel_rfl) (fun K hK => ?_)))
  refine wpA_rangeFuncB (bk := [[.row 0 0]]) (own := [[.raw (.int .u64 (zzI v))]]) (sl' := [(2, true, .box 0 0)]) (cap := [.box 0 0]) (items := (putB v).map itB) (fun h j bx rw ys => j = none ∧ ys = ((0, []), [], true) ∧ ∃ pre, pre <+: putB v ∧ h = pre.map itB ∧ bx = [[.row 0 pre.length]] ∧ rw = [⟨5, 1, pre.length, els (kC .u8) pre⟩])
    rfl rfl rfl rfl (by simp [AV.subL, AV.sub]) (fun cs hc => by simp at hc; subst hc; exact ⟨trivial, trivial⟩) (digits1_S _ (zz_range v)) ⟨by simp, by simp⟩ (by simp) ?_ (by simp) ?_ ⟨rfl, rfl, [], by simp, rfl, rfl, rfl⟩ ?_ ?_ ?_
  · simp only [SlSim, lookN_cons, ↓reduceIte, Nat.reduceEqDiff, Option.some.injEq, Prod.mk.injEq, true_and, and_true, exists_eq_left']
    exact simsT
  · simp [subSl, subB, subR, AV.sub, AV.subL, go_sem, els, kC]
  · rintro h item bx' rw' ys' ⟨_, rfl, pre, hp, hh, rfl, rfl⟩ hpr _
    obtain ⟨d, rfl, hpd⟩ := pref_item hh hp hpr
    refine ⟨rfl, ?_⟩
    simp only [zipSl, List.cons_append, List.nil_append]
    have hpl := hp.length_le
    have hpl2 := putB_len v
    have hbp : pre.length ≤ 1000010 := by omega
    obtain ⟨Bp, hBp⟩ : ∃ Bp, Bp = pre := ⟨_, rfl⟩
    rw [← hBp] at hbp ⊢
    repeat
      first
        | (refine runS_nil (hK _ ?_); clear hK K)
        | refine stR ?_
        | (refine gateA 1 rfl ?_; refine runA_put ?_)
        | (refine gateBc ?_; first | (refine runB_nil (hK _ ?_); clear hK K) | (refine runB_op rfl ⟨_, evl, fun nb' => ?_⟩))
        | refine wpA_region (fun K hK => ?_)
        | (refine gateD ?_; first | (refine wpA_drawG false rfl (by kernel_rfl) (by kernel_rfl) (fun K hK => ?_)) | (refine wpA_drawG true rfl (by kernel_rfl) (by kernel_rfl) (fun K hK => ?_)))
    refine ⟨rfl, ?_⟩
    repeat
      first
        | (refine runS_nil (hK _ ?_); clear hK K)
        | refine stR ?_
        | (refine gateA 1 rfl ?_; refine runA_put ?_)
        | (refine gateBc ?_; first | (refine runB_nil (hK _ ?_); clear hK K) | (refine runB_op rfl ⟨_, evl, fun nb' => ?_⟩))
        | refine wpA_region (fun K hK => ?_)
        | (refine gateD ?_; first | (refine wpA_drawG false rfl (by kernel_rfl) (by kernel_rfl) (fun K hK => ?_)) | (refine wpA_drawG true rfl (by kernel_rfl) (by kernel_rfl) (fun K hK => ?_)))
    refine ⟨20, 65, [], [[.row 0 (Bp ++ [d]).length]], [⟨5, 1, (Bp ++ [d]).length, els (kC .u8) (Bp ++ [d])⟩], ((0, []), [], true), ?_, rfl, rfl, rfl, pre ++ [d], hpd, by rw [hh]; simp, by rw [hBp], by rw [hBp]⟩
    rw [List.length_append]
    refine Weak.gen ?_ ?_ ?_ (by simp) ?_
    rotate_left 3
    · first | (simp [subSl, subB, subR, AV.sub, AV.subL, go_sem]; done) | (simp [subSl, subB, subR, AV.sub, AV.subL, go_sem, AV.subL_free, AV.sub_free, *]; done) | (simp_all [subSl, subB, subR, AV.sub, AV.subL, go_sem]; done)
    all_goals (try simp only [SlSim, BxSim, RwSim, SimsL, lookN_cons, ↓reduceIte, Nat.reduceEqDiff, Option.some.injEq, Prod.mk.injEq, true_and, and_true, exists_eq_left', and_self])
    all_goals (try trivial)
    all_goals ((repeat' apply And.intro) <;> first | exact simsT | (intro _ _; exact simsT) | omega | (simp; done) | (simp; omega) | (intro _ _; refine SimsL.of_eq (els_snoc ?_ (by assumption) rfl) <;> first | rfl | omega | (simp; done) | (simp; omega)) | skip)
  · rintro bx' rw' ys' ⟨_, rfl, pre, hp, hh, rfl, rfl⟩
    have hl : pre.length = (putB v).length := by have := congrArg List.length hh; simpa using this.symm
    obtain rfl := hp.eq_of_length hl
    clear hp hh hl
    repeat
      first
        | (refine runS_nil (hK _ ?_); clear hK K)
        | refine stR ?_
        | (refine gateA 1 rfl ?_; refine runA_put ?_)
        | (refine gateBc ?_; first | (refine runB_nil (hK _ ?_); clear hK K) | (refine runB_op rfl ⟨_, evl, fun nb' => ?_⟩))
        | refine wpA_region (fun K hK => ?_)
        | (refine gateD ?_; first | (refine wpA_drawG false rfl (by kernel_rfl) (by kernel_rfl) (fun K hK => ?_)) | (refine wpA_drawG true rfl (by kernel_rfl) (by kernel_rfl) (fun K hK => ?_)))
    refine retG_of (by simp) ⟨_, _, _, evl, obq, OutG.bel rfl obb, by simp, rfl, rfl, obb, ?_⟩
    intro r hr
    simp only [List.mem_cons, List.not_mem_nil, or_false] at hr
    subst hr
    exact fun i hi => ⟨trivial, trivial⟩
  · rintro h j bx' rw' ys' _ ⟨hj, _⟩
    cases hj
end Go.Proofs.YtihnjbnlbedpaaaGreatDoor
