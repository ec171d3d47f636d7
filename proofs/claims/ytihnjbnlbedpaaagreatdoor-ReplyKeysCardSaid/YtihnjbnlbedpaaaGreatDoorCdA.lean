/- package codec: the digits of a number. -/
import Derived.Test.YtihnjbnlbedpaaaGreatDoorW
import Derived.Test.YtihnjbnlbedpaaaGreatDoorA6
namespace Go.Proofs.YtihnjbnlbedpaaaGreatDoor
set_option linter.unusedVariables false
set_option linter.unusedSimpArgs false
set_option maxHeartbeats 4000000
set_option maxRecDepth 100000
open Go.RowKit
/-- The digits of a number, the least first. -/
def digF : Nat → Int → List Int
  | 0, _ => []
  | f + 1, x => if 128 ≤ x then bitI .or .u8 (IntKind.u8.wrap x) 128 :: digF f (x.tdiv 128) else [IntKind.u8.wrap x]
theorem digF_len : ∀ (f : Nat) (x : Int), (digF f x).length ≤ f
  | 0, _ => Nat.le_refl _
  | f + 1, x => by
    unfold digF
    split
    · simp only [List.length_cons]; have := digF_len f (x.tdiv 128); omega
    · simp
abbrev itB (d : Int) : List AV := [.raw (.int .u8 d)]
theorem tdiv128 {y : Int} {f : Nat} (h : 0 ≤ y ∧ y < 128 ^ (f + 1)) : 0 ≤ y.tdiv 128 ∧ y.tdiv 128 < 128 ^ f := by
  rw [Int.tdiv_eq_ediv_of_nonneg h.1]
  have h2 := h.2
  rw [Int.pow_succ] at h2
  generalize (128 : Int) ^ f = z at *
  omega
theorem pref_one {pre rest full : List Int} {d : Int} (h : pre ++ d :: rest = full) : pre.map itB ++ [itB d] <+: full.map itB := by
  subst h
  refine ⟨rest.map itB, ?_⟩
  simp
theorem digits1_S (x : Int) (hx : 0 ≤ x ∧ x < 18446744073709551616) : SeqB Tryz.prog 220 [.box 0 0] [[.raw (.int .u64 x)]] ((digF 10 x).map itB) := by
  refine seqB_of Tryz.func220 rfl (by kernel_rfl) 17 Tryz.ntmps220 (by simp only [List.length_cons, List.length_nil]; omega) rfl (by simp) (fun y => ?_)
  simp only [argSl, Nat.zero_add, Nat.reduceAdd, List.cons_append, List.nil_append, List.length_cons, List.length_nil]
  repeat
    first
      | (refine runS_nil (hK _ ?_); clear hK K)
      | refine stG ?_
      | (refine gateA 1 rfl ?_; refine runA_put ?_)
      | (refine gateBc ?_; first | (refine runB_nil (hK _ ?_); clear hK K) | (refine runB_op rfl ⟨_, evl, fun nb' => ?_⟩))
      | refine wpA_region (fun K hK => ?_)
      | (refine gateD ?_; first | (refine wpA_drawG false rfl (by kernel_rfl) (by kernel_rfl) (fun K hK => ?_)) | (refine wpA_drawG true rfl (by kernel_rfl) (by kernel_rfl) (fun K hK => ?_)))
  refine wpA_loop (fun s : List Int × Int × Nat => ⟨17, 1, [(0, true, .raw (.func (.yield y) #[] #[])), (1, true, .box 0 0)], [[.raw (.int .u64 s.2.1)]], [], ((y, (digF 10 x).map itB), s.1.map itB, false)⟩)
    (fun s => s.1 ++ digF s.2.2 s.2.1 = digF 10 x ∧ 1 ≤ s.2.2 ∧ (0 ≤ s.2.1 ∧ s.2.1 < 128 ^ s.2.2) ∧ s.2.1 < 18446744073709551616) (fun s => s.2.2) ([], x, 10) ?_ ⟨rfl, by simp, ⟨hx.1, by have := hx.2; simp only; omega⟩, hx.2⟩ ?_
  · refine Weak.gen ?_ ?_ ?_ (by simp) ?_
    rotate_left 3
    · first | (simp [subSl, subB, subR, AV.sub, AV.subL, go_sem]; done) | (simp [subSl, subB, subR, AV.sub, AV.subL, go_sem, AV.subL_free, AV.sub_free, *]; done) | (simp_all [subSl, subB, subR, AV.sub, AV.subL, go_sem]; done)
    all_goals (try simp only [SlSim, BxSim, RwSim, SimsL, lookN_cons, ↓reduceIte, Nat.reduceEqDiff, Option.some.injEq, Prod.mk.injEq, true_and, and_true, exists_eq_left', and_self])
    all_goals (try trivial)
    all_goals ((repeat' apply And.intro) <;> first | exact simsT | (intro _ _; exact simsT) | omega | (simp; done) | (simp; omega) | (intro _ _; refine SimsL.of_eq (els_snoc ?_ (by assumption) rfl) <;> first | rfl | omega | (simp; done) | (simp; omega)) | skip)
  · rintro ⟨pre, z, f⟩ ⟨hp, hf, hz, h64⟩
    simp only at hp hf hz h64 ⊢
    obtain ⟨f, rfl⟩ : ∃ g, f = g + 1 := ⟨f - 1, by omega⟩
    rw [digF] at hp
    repeat
      first
        | (refine runS_nil (hK _ ?_); clear hK K)
        | refine stG ?_
        | (refine gateA 1 rfl ?_; refine runA_put ?_)
        | (refine gateBc ?_; first | (refine runB_nil (hK _ ?_); clear hK K) | (refine runB_op rfl ⟨_, evl, fun nb' => ?_⟩))
        | refine wpA_region (fun K hK => ?_)
        | (refine gateD ?_; first | (refine wpA_drawG false rfl (by kernel_rfl) (by kernel_rfl) (fun K hK => ?_)) | (refine wpA_drawG true rfl (by kernel_rfl) (by kernel_rfl) (fun K hK => ?_)))
    refine wpA_cond' ⟨_, evl, fun hb => ?_, fun hb => ?_⟩
    · simp only [decide_eq_true_eq] at hb
      rw [if_pos hb] at hp
      have hd := tdiv128 hz
      have hd64 : z.tdiv 128 < 18446744073709551616 := by rw [Int.tdiv_eq_ediv_of_nonneg hz.1]; omega
      have hf1 : 1 ≤ f := by
        rcases Nat.eq_zero_or_pos f with rfl | h
        · simp at hz; omega
        · exact h
      repeat
        first
          | (refine runS_nil (hK _ ?_); clear hK K)
          | refine stG ?_
          | (refine gateA 1 rfl ?_; refine runA_put ?_)
          | (refine gateBc ?_; first | (refine runB_nil (hK _ ?_); clear hK K) | (refine runB_op rfl ⟨_, evl, fun nb' => ?_⟩))
          | refine wpA_region (fun K hK => ?_)
          | (refine gateD ?_; first | (refine wpA_drawG false rfl (by kernel_rfl) (by kernel_rfl) (fun K hK => ?_)) | (refine wpA_drawG true rfl (by kernel_rfl) (by kernel_rfl) (fun K hK => ?_)))
      refine runS_yield rfl rfl ⟨_, evl, _, _, evl, ?_, ?_, ?_⟩
      · intro _
        exact ⟨fun c hc => by simp at hc; simp [hc], by simp [AV.free, AV.freeL], pref_one hp⟩
      · intro hg
        simp at hg
      · intro _ b
        repeat
          first
            | (refine runS_nil (hK _ ?_); clear hK K)
            | refine stG ?_
            | (refine gateA 1 rfl ?_; refine runA_put ?_)
            | (refine gateBc ?_; first | (refine runB_nil (hK _ ?_); clear hK K) | (refine runB_op rfl ⟨_, evl, fun nb' => ?_⟩))
            | refine wpA_region (fun K hK => ?_)
            | (refine gateD ?_; first | (refine wpA_drawG false rfl (by kernel_rfl) (by kernel_rfl) (fun K hK => ?_)) | (refine wpA_drawG true rfl (by kernel_rfl) (by kernel_rfl) (fun K hK => ?_)))
        refine wpA_cond' ⟨_, evl, fun hb2 => ?_, fun hb2 => ?_⟩
        · repeat
            first
              | (refine runS_nil (hK _ ?_); clear hK K)
              | refine stG ?_
              | (refine gateA 1 rfl ?_; refine runA_put ?_)
              | (refine gateBc ?_; first | (refine runB_nil (hK _ ?_); clear hK K) | (refine runB_op rfl ⟨_, evl, fun nb' => ?_⟩))
              | refine wpA_region (fun K hK => ?_)
              | (refine gateD ?_; first | (refine wpA_drawG false rfl (by kernel_rfl) (by kernel_rfl) (fun K hK => ?_)) | (refine wpA_drawG true rfl (by kernel_rfl) (by kernel_rfl) (fun K hK => ?_)))
          obtain rfl : b = false := by simpa using hb2
          exact ⟨.inr rfl, pref_one hp, fun h => by simp at h⟩
        · repeat
            first
              | (refine runS_nil (hK _ ?_); clear hK K)
              | refine stG ?_
              | (refine gateA 1 rfl ?_; refine runA_put ?_)
              | (refine gateBc ?_; first | (refine runB_nil (hK _ ?_); clear hK K) | (refine runB_op rfl ⟨_, evl, fun nb' => ?_⟩))
              | refine wpA_region (fun K hK => ?_)
              | (refine gateD ?_; first | (refine wpA_drawG false rfl (by kernel_rfl) (by kernel_rfl) (fun K hK => ?_)) | (refine wpA_drawG true rfl (by kernel_rfl) (by kernel_rfl) (fun K hK => ?_)))
          obtain rfl : b = true := by simpa using hb2
          refine ⟨(pre ++ [_], z.tdiv 128, f), ⟨by simp only; rw [List.append_assoc]; exact hp, hf1, hd, hd64⟩, by simp, ?_⟩
          simp only [List.map_append, List.map_cons, List.map_nil]
          refine Weak.gen ?_ ?_ ?_ (by simp) ?_
          rotate_left 3
          · first | (simp [subSl, subB, subR, AV.sub, AV.subL, go_sem]; done) | (simp [subSl, subB, subR, AV.sub, AV.subL, go_sem, AV.subL_free, AV.sub_free, *]; done) | (simp_all [subSl, subB, subR, AV.sub, AV.subL, go_sem]; done)
          all_goals (try simp only [SlSim, BxSim, RwSim, SimsL, lookN_cons, ↓reduceIte, Nat.reduceEqDiff, Option.some.injEq, Prod.mk.injEq, true_and, and_true, exists_eq_left', and_self])
          all_goals (try trivial)
          all_goals ((repeat' apply And.intro) <;> first | exact simsT | (intro _ _; exact simsT) | omega | (simp; done) | (simp; omega) | (intro _ _; refine SimsL.of_eq (els_snoc ?_ (by assumption) rfl) <;> first | rfl | omega | (simp; done) | (simp; omega)) | skip)
    · simp only [decide_eq_false_iff_not] at hb
      rw [if_neg hb] at hp
      repeat
        first
          | (refine runS_nil (hK _ ?_); clear hK K)
          | refine stG ?_
          | (refine gateA 1 rfl ?_; refine runA_put ?_)
          | (refine gateBc ?_; first | (refine runB_nil (hK _ ?_); clear hK K) | (refine runB_op rfl ⟨_, evl, fun nb' => ?_⟩))
          | refine wpA_region (fun K hK => ?_)
          | (refine gateD ?_; first | (refine wpA_drawG false rfl (by kernel_rfl) (by kernel_rfl) (fun K hK => ?_)) | (refine wpA_drawG true rfl (by kernel_rfl) (by kernel_rfl) (fun K hK => ?_)))
      refine runS_yield rfl rfl ⟨_, evl, _, _, evl, ?_, ?_, ?_⟩
      · intro _
        exact ⟨fun c hc => by simp at hc; simp [hc], by simp [AV.free, AV.freeL], pref_one hp⟩
      · intro hg
        simp at hg
      · intro _ b
        repeat
          first
            | (refine runS_nil (hK _ ?_); clear hK K)
            | refine stG ?_
            | (refine gateA 1 rfl ?_; refine runA_put ?_)
            | (refine gateBc ?_; first | (refine runB_nil (hK _ ?_); clear hK K) | (refine runB_op rfl ⟨_, evl, fun nb' => ?_⟩))
            | refine wpA_region (fun K hK => ?_)
            | (refine gateD ?_; first | (refine wpA_drawG false rfl (by kernel_rfl) (by kernel_rfl) (fun K hK => ?_)) | (refine wpA_drawG true rfl (by kernel_rfl) (by kernel_rfl) (fun K hK => ?_)))
        refine ⟨.inl rfl, pref_one hp, fun _ => ?_⟩
        rw [← hp]
        simp
/-- The one who makes them leaves a variable to them. -/
theorem digits_G (x : Int) : FnG Tryz.prog 217 [.raw (.int .u64 x)] [] [] (.fn (.func 220) [] [.box 0 0]) [[.raw (.int .u64 x)]] [] := by
  refine fnG_of tblOk Tryz.func217 rfl (by kernel_rfl) 4 Tryz.ntmps217 (by simp only [List.length_cons, List.length_nil]; omega) [.tmp 2] rfl 1 (by simp) ?_
  simp only [entryG, argSl, Nat.zero_add, Nat.reduceAdd, List.length_cons, List.length_nil]
  repeat
    first
      | (refine runS_nil (hK _ ?_); clear hK K)
      | refine stG ?_
      | (refine gateA 1 rfl ?_; refine runA_put ?_)
      | (refine gateBc ?_; first | (refine runB_nil (hK _ ?_); clear hK K) | (refine runB_op rfl ⟨_, evl, fun nb' => ?_⟩))
      | refine wpA_region (fun K hK => ?_)
      | (refine gateD ?_; first | (refine wpA_drawG false rfl (by kernel_rfl) (by kernel_rfl) (fun K hK => ?_)) | (refine wpA_drawG true rfl (by kernel_rfl) (by kernel_rfl) (fun K hK => ?_)))
  all_goals (refine retG_of (by simp) ⟨_, _, _, evl, obq, OutG.bel ?_ obb, by simp, ?_, rfl, obb, obb⟩)
  all_goals first | rfl | (simp []; done) | (simp_all []; done) | (simp_all []; omega) | (simp []; grind) | (split <;> simp_all) | skip
end Go.Proofs.YtihnjbnlbedpaaaGreatDoor
