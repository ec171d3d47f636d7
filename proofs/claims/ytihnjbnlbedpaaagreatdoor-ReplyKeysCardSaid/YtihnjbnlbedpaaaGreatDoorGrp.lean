/- package group: power. -/
import Derived.Test.YtihnjbnlbedpaaaGreatDoorDig
namespace Go.Proofs.YtihnjbnlbedpaaaGreatDoor
set_option linter.unusedVariables false
set_option linter.unusedSimpArgs false
set_option maxHeartbeats 4000000
set_option maxRecDepth 100000
open Go.RowKit
theorem times_A (n b : Int) (h : -9223372036854775808 ≤ n * b ∧ n * b ≤ 9223372036854775807) : FnG Tryz.prog 187 [.box 0 0, .raw (.int .i64 b)] [[.raw (.int .i64 n)]] [] (.tup []) [[.raw (.int .i64 ((n * b).tmod 2147483579))]] [] := by
  refine fnG_of tblOk Tryz.func187 rfl (by kernel_rfl) 12 Tryz.ntmps187 (by simp only [List.length_cons, List.length_nil]; omega) [] rfl 1 (by simp) ?_
  simp only [entryG, argSl, Nat.zero_add, Nat.reduceAdd, List.length_cons, List.length_nil]
  repeat
    first
      | (refine runS_nil (hK _ ?_); clear hK K)
      | refine stG ?_
      | (refine gateA 1 rfl ?_; refine runA_put ?_)
      | (refine gateBc ?_; first | (refine runB_nil (hK _ ?_); clear hK K) | (refine runB_op rfl ⟨_, evl, fun nb' => ?_⟩))
      | refine wpA_region (fun K hK => ?_)
      | (refine gateD ?_; first | (refine wpA_drawG false rfl (by kernel_rfl) (by kernel_rfl) (fun K hK => ?_)) | (refine wpA_drawG true rfl (by kernel_rfl) (by kernel_rfl) (fun K hK => ?_)))
  all_goals (refine retG_of (by simp) ⟨_, _, _, evl, obq, OutG.bel ?_ obb, by simp, ?_, rfl, obb, obb⟩)
  all_goals first | rfl | (simp []; done) | (simp_all []; done) | (simp_all []; omega) | (simp []; grind) | (split <;> simp_all) | skip
theorem mulP (n b : Nat) (hn : n < 2147483579) (hb : b < 2147483579) : n * b < 4611686018427387904 := by
  have h1 : n * b ≤ 2147483578 * b := Nat.mul_le_mul_right _ (by omega)
  omega
theorem times_N (n b : Nat) (hn : n < 2147483579) (hb : b < 2147483579) : FnG Tryz.prog 187 [.box 0 0, .raw (.int .i64 b)] [[.raw (.int .i64 n)]] [] (.tup []) [[.raw (.int .i64 ((n * b % 2147483579 : Nat) : Int))]] [] := by
  have h := times_A n b (by have := mulP n b hn hb; rw [← Int.natCast_mul]; omega)
  rwa [show ((n : Int) * b).tmod 2147483579 = ((n * b % 2147483579 : Nat) : Int) from by rw [← Int.natCast_mul]; rfl] at h
theorem and1 (x : Nat) (h : x < 9223372036854775808) : bitI .and .i64 (x : Int) 1 = ((x % 2 : Nat) : Int) := by
  have h1 : (BitVec.ofInt 64 (x : Int) &&& BitVec.ofInt 64 1).toNat = x % 2 := by
    rw [BitVec.toNat_and, show (BitVec.ofInt 64 (1 : Int)).toNat = 1 from rfl, Nat.and_one_is_mod, BitVec.ofInt_natCast, BitVec.toNat_ofNat]
    omega
  show IntKind.i64.wrap (((BitVec.ofInt 64 (x : Int) &&& BitVec.ofInt 64 1).toNat : Nat) : Int) = _
  rw [h1, inK_wrap]
  simp only [inK]
  omega
@[simp] theorem shr1 (x : Nat) : (x : Int).fdiv 2 = ((x / 2 : Nat) : Int) := by
  rw [Int.fdiv_eq_ediv_of_nonneg _ (by omega)]
  rfl
theorem power_A (a x : Nat) (ha : a < 2147483579) (hx : x < 9223372036854775808) : FnA Tryz.prog 133 [.raw (.int .i64 a), .raw (.int .i64 x)] (.raw (.int .i64 ((a ^ x % 2147483579 : Nat) : Int))) := by
  refine fnA_of tblOk Tryz.func133 rfl (by kernel_rfl) 21 Tryz.ntmps133 (by simp only [List.length_cons, List.length_nil]; omega) [.tmp 4] rfl ?_
  simp only [entrySt, argSl, Nat.zero_add, Nat.reduceAdd]
  repeat
    first
      | (refine runS_nil (hK _ ?_); clear hK K)
      | refine stG ?_
      | (refine gateA 1 rfl ?_; refine runA_put ?_)
      | (refine gateBc ?_; first | (refine runB_nil (hK _ ?_); clear hK K) | (refine runB_op rfl ⟨_, evl, fun nb' => ?_⟩))
      | refine wpA_region (fun K hK => ?_)
      | (refine gateD ?_; first | (refine wpA_drawG false rfl (by kernel_rfl) (by kernel_rfl) (fun K hK => ?_)) | (refine wpA_drawG true rfl (by kernel_rfl) (by kernel_rfl) (fun K hK => ?_)))
  refine wpA_loop (fun s : Nat × Nat × Nat => ⟨21, 0, [(1, true, .raw (.int .i64 s.2.1)), (2, true, .box 0 0), (5, true, .box 1 0), (6, true, .raw (.func (.func 187) #[] #[]))], [[.raw (.int .i64 s.1)], [.raw (.int .i64 s.2.2)]], [], ((0, []), [], true)⟩)
      (fun s => s.1 < 2147483579 ∧ s.2.1 < 9223372036854775808 ∧ s.2.2 < 2147483579 ∧ s.2.2 * s.1 ^ s.2.1 % 2147483579 = a ^ x % 2147483579) (fun s => s.2.1) (a, x, 1) ?_ ⟨ha, hx, by simp, by simp⟩ ?_
  · refine Weak.sl ?_
    (try simp only [SubSl, lookN_cons, ↓reduceIte, Nat.reduceEqDiff, and_true, true_and, Option.some.injEq, Prod.mk.injEq, AV.raw.injEq, Value.int.injEq, Value.bool.injEq])
    all_goals ((repeat' apply And.intro) <;> first | rfl | omega | (simp; done))
  · rintro ⟨b, y, o⟩ ⟨h1, h2, h3, h4⟩
    dsimp only at h1 h2 h3 h4 ⊢
    have hy2 : b ^ y = b ^ (y % 2) * (b * b) ^ (y / 2) := by
      rw [← Nat.pow_two, ← Nat.pow_mul, ← Nat.pow_add]; congr 1; omega
    have hm := mulP o b h3 h1
    repeat
      first
        | (refine runS_nil (hK _ ?_); clear hK K)
        | refine stG ?_
        | (refine gateA 1 rfl ?_; refine runA_put ?_)
        | (refine gateBc ?_; first | (refine runB_nil (hK _ ?_); clear hK K) | (refine runB_op rfl ⟨_, evl, fun nb' => ?_⟩))
        | refine wpA_region (fun K hK => ?_)
        | (refine gateD ?_; first | (refine wpA_drawG false rfl (by kernel_rfl) (by kernel_rfl) (fun K hK => ?_)) | (refine wpA_drawG true rfl (by kernel_rfl) (by kernel_rfl) (fun K hK => ?_)))
    refine wpA_cond' ⟨_, evl, ?_, ?_⟩
    · intro hb
      simp only [decide_eq_true_eq] at hb
      repeat
        first
          | (refine runS_nil (hK _ ?_); clear hK K)
          | refine stG ?_
          | (refine gateA 1 rfl ?_; refine runA_put ?_)
          | (refine gateBc ?_; first | (refine runB_nil (hK _ ?_); clear hK K) | (refine runB_op rfl ⟨_, evl, fun nb' => ?_⟩))
          | refine wpA_region (fun K hK => ?_)
          | (refine gateD ?_; first | (refine wpA_drawG false rfl (by kernel_rfl) (by kernel_rfl) (fun K hK => ?_)) | (refine wpA_drawG true rfl (by kernel_rfl) (by kernel_rfl) (fun K hK => ?_)))
      refine wpA_cond' ⟨_, evl, ?_, ?_⟩
      · intro hc
        rw [and1 y h2] at hc
        simp only [decide_eq_true_eq] at hc
        repeat
          first
            | (refine runS_nil (hK _ ?_); clear hK K)
            | refine stG ?_
            | (refine gateA 1 rfl ?_; refine runA_put ?_)
            | (refine gateBc ?_; first | (refine runB_nil (hK _ ?_); clear hK K) | (refine runB_op rfl ⟨_, evl, fun nb' => ?_⟩))
            | refine wpA_region (fun K hK => ?_)
            | (refine gateD ?_; first | (refine wpA_drawG false rfl (by kernel_rfl) (by kernel_rfl) (fun K hK => ?_)) | (refine wpA_drawG true rfl (by kernel_rfl) (by kernel_rfl) (fun K hK => ?_)))
        refine sCallG [1] [] (times_N o b h3 h1) rfl rfl rfl ⟨_, evl, _, evl, _, evl, by simp, by decide, by decide, by first | trivial | exact ⟨rfl, trivial⟩ | exact ⟨rfl, rfl, trivial⟩ | exact ⟨rfl, rfl, rfl, trivial⟩ | simp [handL, AV.renL, AV.ren, ARow.ren], by first | trivial | exact ⟨rfl, trivial⟩ | exact ⟨rfl, rfl, trivial⟩ | exact ⟨rfl, rfl, rfl, trivial⟩ | simp [handL, AV.renL, AV.ren, ARow.ren], (by first | (simp [AV.subL, AV.sub]; done) | (simp only [List.forall_mem_cons, List.not_mem_nil, false_implies, implies_true, and_true, true_and, AV.subL, AV.sub, List.length_cons, List.length_nil, Nat.zero_add, Nat.reduceAdd]; (repeat' apply And.intro) <;> first | trivial | omega | (simp; done) | (refine AV.sub_free _ _ _ ?_; exact lA_free (fun _ => by simp) _) | (refine AV.subL_free _ _ _ ?_; simp; done) | (intro r hr; cases hr; done))), _, evl, _, evl, _, evl, ?_⟩
        repeat
          first
            | (refine runS_nil (hK _ ?_); clear hK K)
            | refine stG ?_
            | (refine gateA 1 rfl ?_; refine runA_put ?_)
            | (refine gateBc ?_; first | (refine runB_nil (hK _ ?_); clear hK K) | (refine runB_op rfl ⟨_, evl, fun nb' => ?_⟩))
            | refine wpA_region (fun K hK => ?_)
            | (refine gateD ?_; first | (refine wpA_drawG false rfl (by kernel_rfl) (by kernel_rfl) (fun K hK => ?_)) | (refine wpA_drawG true rfl (by kernel_rfl) (by kernel_rfl) (fun K hK => ?_)))
        refine sCallG [0] [] (times_N b b h1 h1) rfl rfl rfl ⟨_, evl, _, evl, _, evl, by simp, by decide, by decide, by first | trivial | exact ⟨rfl, trivial⟩ | exact ⟨rfl, rfl, trivial⟩ | exact ⟨rfl, rfl, rfl, trivial⟩ | simp [handL, AV.renL, AV.ren, ARow.ren], by first | trivial | exact ⟨rfl, trivial⟩ | exact ⟨rfl, rfl, trivial⟩ | exact ⟨rfl, rfl, rfl, trivial⟩ | simp [handL, AV.renL, AV.ren, ARow.ren], (by first | (simp [AV.subL, AV.sub]; done) | (simp only [List.forall_mem_cons, List.not_mem_nil, false_implies, implies_true, and_true, true_and, AV.subL, AV.sub, List.length_cons, List.length_nil, Nat.zero_add, Nat.reduceAdd]; (repeat' apply And.intro) <;> first | trivial | omega | (simp; done) | (refine AV.sub_free _ _ _ ?_; exact lA_free (fun _ => by simp) _) | (refine AV.subL_free _ _ _ ?_; simp; done) | (intro r hr; cases hr; done))), _, evl, _, evl, _, evl, ?_⟩
        repeat
          first
            | (refine runS_nil (hK _ ?_); clear hK K)
            | refine stG ?_
            | (refine gateA 1 rfl ?_; refine runA_put ?_)
            | (refine gateBc ?_; first | (refine runB_nil (hK _ ?_); clear hK K) | (refine runB_op rfl ⟨_, evl, fun nb' => ?_⟩))
            | refine wpA_region (fun K hK => ?_)
            | (refine gateD ?_; first | (refine wpA_drawG false rfl (by kernel_rfl) (by kernel_rfl) (fun K hK => ?_)) | (refine wpA_drawG true rfl (by kernel_rfl) (by kernel_rfl) (fun K hK => ?_)))
        refine ⟨(b * b % 2147483579, y / 2, o * b % 2147483579), ⟨Nat.mod_lt _ (by omega), by show y / 2 < _; omega, Nat.mod_lt _ (by omega), ?_⟩, by show y / 2 < y; omega, ?_⟩
        · rw [← h4, hy2, show y % 2 = 1 from by omega]
          show o * b % 2147483579 * (b * b % 2147483579) ^ (y / 2) % 2147483579 = _
          rw [Nat.pow_one, ← Nat.mul_assoc, Nat.mul_mod, Nat.mod_mod, ← Nat.pow_mod, ← Nat.mul_mod]
        · skip
          refine Weak.mk rfl ?_ ?_
          rotate_left
          · simp [belS, belB, AV.bel, AV.belL, go_sem]
          (try simp only [SubSl, lookN_cons, ↓reduceIte, Nat.reduceEqDiff, and_true, true_and, Option.some.injEq, Prod.mk.injEq, AV.raw.injEq, Value.int.injEq, Value.bool.injEq])
          all_goals ((repeat' apply And.intro) <;> first | rfl | omega | (simp; done))
      · intro hc
        rw [and1 y h2] at hc
        simp only [decide_eq_false_iff_not] at hc
        repeat
          first
            | (refine runS_nil (hK _ ?_); clear hK K)
            | refine stG ?_
            | (refine gateA 1 rfl ?_; refine runA_put ?_)
            | (refine gateBc ?_; first | (refine runB_nil (hK _ ?_); clear hK K) | (refine runB_op rfl ⟨_, evl, fun nb' => ?_⟩))
            | refine wpA_region (fun K hK => ?_)
            | (refine gateD ?_; first | (refine wpA_drawG false rfl (by kernel_rfl) (by kernel_rfl) (fun K hK => ?_)) | (refine wpA_drawG true rfl (by kernel_rfl) (by kernel_rfl) (fun K hK => ?_)))
        refine sCallG [0] [] (times_N b b h1 h1) rfl rfl rfl ⟨_, evl, _, evl, _, evl, by simp, by decide, by decide, by first | trivial | exact ⟨rfl, trivial⟩ | exact ⟨rfl, rfl, trivial⟩ | exact ⟨rfl, rfl, rfl, trivial⟩ | simp [handL, AV.renL, AV.ren, ARow.ren], by first | trivial | exact ⟨rfl, trivial⟩ | exact ⟨rfl, rfl, trivial⟩ | exact ⟨rfl, rfl, rfl, trivial⟩ | simp [handL, AV.renL, AV.ren, ARow.ren], (by first | (simp [AV.subL, AV.sub]; done) | (simp only [List.forall_mem_cons, List.not_mem_nil, false_implies, implies_true, and_true, true_and, AV.subL, AV.sub, List.length_cons, List.length_nil, Nat.zero_add, Nat.reduceAdd]; (repeat' apply And.intro) <;> first | trivial | omega | (simp; done) | (refine AV.sub_free _ _ _ ?_; exact lA_free (fun _ => by simp) _) | (refine AV.subL_free _ _ _ ?_; simp; done) | (intro r hr; cases hr; done))), _, evl, _, evl, _, evl, ?_⟩
        repeat
          first
            | (refine runS_nil (hK _ ?_); clear hK K)
            | refine stG ?_
            | (refine gateA 1 rfl ?_; refine runA_put ?_)
            | (refine gateBc ?_; first | (refine runB_nil (hK _ ?_); clear hK K) | (refine runB_op rfl ⟨_, evl, fun nb' => ?_⟩))
            | refine wpA_region (fun K hK => ?_)
            | (refine gateD ?_; first | (refine wpA_drawG false rfl (by kernel_rfl) (by kernel_rfl) (fun K hK => ?_)) | (refine wpA_drawG true rfl (by kernel_rfl) (by kernel_rfl) (fun K hK => ?_)))
        refine ⟨(b * b % 2147483579, y / 2, o), ⟨Nat.mod_lt _ (by omega), by show y / 2 < _; omega, h3, ?_⟩, by show y / 2 < y; omega, ?_⟩
        · rw [← h4, hy2, show y % 2 = 0 from by omega]
          show o * (b * b % 2147483579) ^ (y / 2) % 2147483579 = _
          rw [Nat.pow_zero, Nat.one_mul, Nat.mul_mod, ← Nat.pow_mod, ← Nat.mul_mod]
        · skip
          refine Weak.mk rfl ?_ ?_
          rotate_left
          · simp [belS, belB, AV.bel, AV.belL, go_sem]
          (try simp only [SubSl, lookN_cons, ↓reduceIte, Nat.reduceEqDiff, and_true, true_and, Option.some.injEq, Prod.mk.injEq, AV.raw.injEq, Value.int.injEq, Value.bool.injEq])
          all_goals ((repeat' apply And.intro) <;> first | rfl | omega | (simp; done))
    · intro hb
      simp only [decide_eq_false_iff_not] at hb
      repeat
        first
          | (refine runS_nil (hK _ ?_); clear hK K)
          | refine stG ?_
          | (refine gateA 1 rfl ?_; refine runA_put ?_)
          | (refine gateBc ?_; first | (refine runB_nil (hK _ ?_); clear hK K) | (refine runB_op rfl ⟨_, evl, fun nb' => ?_⟩))
          | refine wpA_region (fun K hK => ?_)
          | (refine gateD ?_; first | (refine wpA_drawG false rfl (by kernel_rfl) (by kernel_rfl) (fun K hK => ?_)) | (refine wpA_drawG true rfl (by kernel_rfl) (by kernel_rfl) (fun K hK => ?_)))
      refine ret_of (by simp) ⟨_, _, _, evl, ob0, OutOk.eq ?_ ?_⟩
      · rw [← h4, show y = 0 from by omega, Nat.pow_zero, Nat.mul_one, Nat.mod_eq_of_lt h3]
      · simp [AV.free]
end Go.Proofs.YtihnjbnlbedpaaaGreatDoor
