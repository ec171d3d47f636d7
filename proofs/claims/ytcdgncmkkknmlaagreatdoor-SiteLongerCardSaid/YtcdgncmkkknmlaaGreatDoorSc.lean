/- packages math/bits and scale: products and quotients. -/
import Derived.Test.YtcdgncmkkknmlaaGreatDoorW
import Derived.Lib.Mul64
namespace Go.Proofs.YtcdgncmkkknmlaaGreatDoor
set_option linter.unusedVariables false
set_option linter.unusedSimpArgs false
set_option maxHeartbeats 4000000
set_option maxRecDepth 100000
open Go.RowKit
theorem shr32 {n : Int} : n.fdiv (2 ^ min (Int.toNat 32) 64) = n / 4294967296 := by
  rw [Int.fdiv_eq_ediv_of_nonneg _ (by decide)]
  rfl
theorem and32 {n : Int} (h : inK .u64 n) : bitI .and .u64 n 4294967295 = n % 4294967296 := by
  simp only [inK] at h
  obtain ⟨x, rfl⟩ := Int.eq_ofNat_of_zero_le h.1
  have e : ((BitVec.ofInt 64 (x : Int) &&& BitVec.ofInt 64 4294967295).toNat : Int) = (x % 4294967296 : Nat) := by
    rw [BitVec.toNat_and, BitVec.toNat_ofInt, BitVec.toNat_ofInt]
    have e1 : ((x : Int) % ((2 ^ 64 : Nat) : Int)).toNat = x := by omega
    have e2 : ((4294967295 : Int) % ((2 ^ 64 : Nat) : Int)).toNat = 2 ^ 32 - 1 := by decide
    rw [e1, e2, Nat.and_two_pow_sub_one_eq_mod]
  show IntKind.u64.wrap _ = _
  rw [show IntKind.u64.bits = 64 from rfl, e]
  rw [inK_wrap (k := .u64) (by simp only [inK]; omega)]
  omega
theorem wrapU (z : Int) : IntKind.u64.wrap z = z % 18446744073709551616 := rfl
theorem wrapN {n : Nat} (h : n < 18446744073709551616) : IntKind.u64.wrap (n : Int) = n := by rw [wrapU]; omega
theorem mul64_A (x y : Int) (hx : inK .u64 x) (hy : inK .u64 y) : FnA Tryz.prog 139 [.raw (.int .u64 x), .raw (.int .u64 y)] (.tup [.raw (.int .u64 (x * y / 18446744073709551616)), .raw (.int .u64 (x * y % 18446744073709551616))]) := by
  have ax := and32 hx
  have ay := and32 hy
  refine fnA_of tblOk Tryz.func139 rfl (by kernel_rfl) 51 Tryz.ntmps139 (by simp only [List.length_cons, List.length_nil]; omega) [.tmp 4, .tmp 5] rfl ?_
  simp only [entrySt, argSl, Nat.zero_add, Nat.reduceAdd]
  repeat' first
    | refine wkG trivial ?_
    | (refine cndS ⟨_, evl, ⟨cb, cb⟩, fun hb => ?_, fun hb => ?_⟩ <;> try (cases hb; done))
    | (refine Stop.mk ?_; intro K hK)
    | fail
  refine ret_of (by simp) ⟨_, _, _, evl, ob0, OutOk.eq ?_ ?_⟩
  · simp only [inK] at hx hy
    obtain ⟨x, rfl⟩ := Int.eq_ofNat_of_zero_le hx.1
    obtain ⟨y, rfl⟩ := Int.eq_ofNat_of_zero_le hy.1
    simp only [AV.tup.injEq, List.cons.injEq, AV.raw.injEq, Value.int.injEq, true_and, and_true, shr32, ax, ay]
    have e1 : (x : Int) / 4294967296 = ((x / 4294967296 : Nat) : Int) := by omega
    have e2 : (y : Int) / 4294967296 = ((y / 4294967296 : Nat) : Int) := by omega
    have e3 : (x : Int) % 4294967296 = ((x % 4294967296 : Nat) : Int) := by omega
    have e4 : (y : Int) % 4294967296 = ((y % 4294967296 : Nat) : Int) := by omega
    obtain ⟨m1, m2, m3, m4⟩ := Lib.mul64_hi x y (by omega) (by omega)
    have m5 := Lib.half_mul_le (a := x / 4294967296) (b := y / 4294967296) (by omega) (by omega)
    have m6 := Lib.half_mul_le (a := x / 4294967296) (b := y % 4294967296) (by omega) (by omega)
    have m7 := Lib.half_mul_le (a := x % 4294967296) (b := y / 4294967296) (by omega) (by omega)
    have m8 : x * y / 18446744073709551616 < 18446744073709551616 := Nat.div_lt_of_lt_mul (Nat.mul_lt_mul'' (by omega) (by omega))
    rw [e1, e2, e3, e4]
    simp only [← Int.natCast_mul]
    rw [← m4] at m8
    have e5 : (((x * y : Nat) : Int) / 18446744073709551616) = ((x * y / 18446744073709551616 : Nat) : Int) := by omega
    rw [e5, ← m4]
    generalize x * y = p at *
    generalize x / 4294967296 * (y / 4294967296) = a at *
    generalize x / 4294967296 * (y % 4294967296) = b at *
    generalize x % 4294967296 * (y / 4294967296) = c at *
    generalize x % 4294967296 * (y % 4294967296) = d at *
    simp only [wrapU]
    have k1 : (a : Int) % 18446744073709551616 = a := by omega
    have k2 : (b : Int) % 18446744073709551616 = b := by omega
    have k3 : (c : Int) % 18446744073709551616 = c := by omega
    have k4 : (d : Int) % 18446744073709551616 = d := by omega
    simp only [k1, k2, k3, k4]
    obtain ⟨t, ht⟩ : ∃ t : Nat, t = b + d / 4294967296 := ⟨_, rfl⟩
    have k5 : ((b : Int) + (d : Int) / 4294967296) % 18446744073709551616 = (t : Int) := by omega
    rw [← ht] at m2 m3 m4 m8 ⊢
    simp only [k5]
    have k6 : bitI .and .u64 (t : Int) 4294967295 = (t : Int) % 4294967296 := and32 (by simp only [inK]; omega)
    rw [k6]
    exact ⟨by omega, trivial⟩
  · simp [AV.free, AV.freeL]
theorem div64_A (lo y : Int) (hlo : inK .u64 lo) (hy : 0 < y ∧ y < 18446744073709551616) : FnA Tryz.prog 140 [.raw (.int .u64 0), .raw (.int .u64 lo), .raw (.int .u64 y)] (.tup [.raw (.int .u64 (lo / y)), .raw (.int .u64 (lo % y))]) := by
  simp only [inK] at hlo
  refine fnA_of tblOk Tryz.func140 rfl (by kernel_rfl) 135 Tryz.ntmps140 (by simp only [List.length_cons, List.length_nil]; omega) [.tmp 6, .tmp 7] rfl ?_
  simp only [entrySt, argSl, Nat.zero_add, Nat.reduceAdd]
  repeat' first
    | refine wkG trivial ?_
    | (refine cndS ⟨_, evl, ⟨cb, cb⟩, fun hb => ?_, fun hb => ?_⟩ <;> try (cases hb; done))
    | (refine Stop.mk ?_; intro K hK)
    | fail
  · exfalso; omega
  · exfalso; omega
  · refine ret_of (by simp) ⟨_, _, _, evl, ob0, OutOk.eq ?_ ?_⟩
    · rw [Int.tdiv_eq_ediv_of_nonneg hlo.1, Int.tmod_eq_emod_of_nonneg hlo.1]
    · simp [AV.free, AV.freeL]
structure Quotient where
  whole : Int
  left : Int
  d : Int
  negative : Bool
  deriving Inhabited, DecidableEq
@[go_sem] def Quotient.av (x : Quotient) : List AV := [.raw (.int .u64 x.whole), .raw (.int .u64 x.left), .raw (.int .u64 x.d), .raw (.bool x.negative)]
def Quotient.fits (x : Quotient) : Prop := (inK .u64 x.whole) ∧ (inK .u64 x.left) ∧ (inK .u64 x.d) ∧ (True)
@[simp] theorem Quotient.free (x : Quotient) : AV.freeL x.av := ⟨trivial, trivial, trivial, trivial, trivial⟩
theorem isTime_A (n : Int) : FnA Tryz.prog 131 [.raw (.int .i64 n)] (.raw (.bool (decide (-3000000000000000 ≤ n) && decide (n ≤ 3000000000000000)))) := by
  refine fnA_of tblOk Tryz.func131 rfl (by kernel_rfl) 9 Tryz.ntmps131 (by simp only [List.length_cons, List.length_nil]; omega) [.tmp 2] rfl ?_
  simp only [entrySt, argSl, Nat.zero_add, Nat.reduceAdd]
  repeat' first
    | refine wkG trivial ?_
    | (refine cndS ⟨_, evl, ⟨cb, cb⟩, fun hb => ?_, fun hb => ?_⟩ <;> try (cases hb; done))
    | (refine Stop.mk ?_; intro K hK)
    | fail
  all_goals (try (refine ret_of (by simp) ⟨_, _, _, evl, ob0, OutOk.sims ?_ fre⟩))
  all_goals first | exact Sims.refl _ | (refine Sims.of_eq ?_; first | rfl | (simp []; done) | (simp_all []; done) | (simp_all []; omega) | (simp []; grind) | (split <;> simp_all)) | exact simsF | (refine Sims.tup ?_; simp only [SimsL, and_true]; (repeat' apply And.intro) <;> first | exact simsF | skip) | (exfalso; first | omega | (simp_all; done) | (simp_all; omega)) | skip
/-- A quotient whose product is small. -/
theorem divide_A (a n d : Int) (ha : -3000000000000000 ≤ a ∧ a ≤ 3000000000000000) (hn : 0 ≤ n ∧ n ≤ 2000000000) (hd : 1 ≤ d ∧ d ≤ 2000000000) (hs : max a (-a) * n < 18446744073709551616) :
    FnA Tryz.prog 132 [.raw (.int .i64 a), .raw (.int .i64 n), .raw (.int .i64 d)] (.tup [.agg (Quotient.av ⟨max a (-a) * n / d, max a (-a) * n % d, d, decide (a < 0)⟩), .raw (.bool (decide (max a (-a) * n / d ≤ 3000000000000000)))]) := by
  have h0 : 0 ≤ max a (-a) * n := Int.mul_nonneg (by omega) hn.1
  have m := mul64_A (max a (-a)) n (by simp only [inK]; omega) (by simp only [inK]; omega)
  rw [Int.ediv_eq_zero_of_lt h0 hs, Int.emod_eq_of_lt h0 hs] at m
  have q := div64_A (max a (-a) * n) d (by simp only [inK]; omega) (by omega)
  have w1 : IntKind.u64.wrap (max a (-a)) = max a (-a) := by rw [wrapU]; omega
  have w2 : IntKind.u64.wrap n = n := by rw [wrapU]; omega
  have w3 : IntKind.u64.wrap d = d := by rw [wrapU]; omega
  have m' : FnA Tryz.prog 139 [.raw (.int .u64 (IntKind.u64.wrap (max a (-a)))), .raw (.int .u64 (IntKind.u64.wrap n))] (.tup [.raw (.int .u64 0), .raw (.int .u64 (max a (-a) * n))]) := by rw [w1, w2]; exact m
  have q' : FnA Tryz.prog 140 [.raw (.int .u64 0), .raw (.int .u64 (max a (-a) * n)), .raw (.int .u64 (IntKind.u64.wrap d))] (.tup [.raw (.int .u64 (max a (-a) * n / d)), .raw (.int .u64 (max a (-a) * n % d))]) := by rw [w3]; exact q
  have hna : IntKind.i64.wrap (-a) = -a := inK_wrap (k := .i64) (by simp only [inK]; omega)
  clear m q
  generalize max a (-a) * n = p at *
  refine fnA_of tblOk Tryz.func132 rfl (by kernel_rfl) 46 Tryz.ntmps132 (by simp only [List.length_cons, List.length_nil]; omega) [.cell 6 146, .tmp 7] rfl ?_
  simp only [entrySt, argSl, Nat.zero_add, Nat.reduceAdd]
  try refine wkG m' ?_
  try (refine Stop.mk ?_; intro K hK)
  refine wpA_cond' ⟨_, evl, fun hb => absurd (of_decide_eq_true hb) (by omega), fun _ => ?_⟩
  repeat
    first
      | (refine runS_nil (hK _ ?_); clear hK K)
      | refine stG ?_
      | (refine gateA 1 rfl ?_; refine runA_put ?_)
      | (refine gateBc ?_; first | (refine runB_nil (hK _ ?_); clear hK K) | (refine runB_op rfl ⟨_, evl, fun nb' => ?_⟩))
      | refine wpA_region (fun K hK => ?_)
      | (refine gateD ?_; first | (refine wpA_drawG false rfl (by kernel_rfl) (by kernel_rfl) (fun K hK => ?_)) | (refine wpA_drawG true rfl (by kernel_rfl) (by kernel_rfl) (fun K hK => ?_)))
  refine gateS 1 rfl ?_
  refine runS_call rfl rfl ⟨_, evl, _, _, _, evl, oblF, ?_⟩
  refine ⟨_, fun hg => FnA.at_ q' rfl rfl, ?_⟩
  iterate 7 (refine stG ?_)
  refine runS_freeze 1 obf ⟨_, evl, _, evl, ?_⟩
  repeat
    first
      | (refine runS_nil (hK _ ?_); clear hK K)
      | refine stG ?_
      | (refine gateA 1 rfl ?_; refine runA_put ?_)
      | (refine gateBc ?_; first | (refine runB_nil (hK _ ?_); clear hK K) | (refine runB_op rfl ⟨_, evl, fun nb' => ?_⟩))
      | refine wpA_region (fun K hK => ?_)
      | (refine gateD ?_; first | (refine wpA_drawG false rfl (by kernel_rfl) (by kernel_rfl) (fun K hK => ?_)) | (refine wpA_drawG true rfl (by kernel_rfl) (by kernel_rfl) (fun K hK => ?_)))
  refine ret_of (by simp) ⟨_, _, _, evl, ob0, OutOk.eq ?_ ?_⟩
  · rw [w3]; rfl
  · simp [AV.free, AV.freeL, go_sem]
def ceilQ (q : Quotient) : Bool := !q.negative && decide (0 < q.left)
def floorQ (q : Quotient) : Bool := q.negative && decide (0 < q.left)
theorem floorF_A (q : Quotient) : FnA Tryz.prog 108 [.agg q.av] (.raw (.bool (floorQ q))) := by
  refine fnA_of tblOk Tryz.func108 rfl (by kernel_rfl) 10 Tryz.ntmps108 (by simp only [List.length_cons, List.length_nil]; omega) [.tmp 2] rfl ?_
  simp only [entrySt, argSl, Nat.zero_add, Nat.reduceAdd]
  repeat' first
    | refine wkG trivial ?_
    | (refine cndS ⟨_, evl, ⟨cb, cb⟩, fun hb => ?_, fun hb => ?_⟩ <;> try (cases hb; done))
    | (refine Stop.mk ?_; intro K hK)
    | fail
  all_goals (try (refine ret_of (by simp) ⟨_, _, _, evl, ob0, OutOk.sims ?_ fre⟩))
  all_goals first | exact Sims.refl _ | (refine Sims.of_eq ?_; first | rfl | (simp [floorQ]; done) | (simp_all [floorQ]; done) | (simp_all [floorQ]; omega) | (simp [floorQ]; grind) | (split <;> simp_all)) | exact simsF | (refine Sims.tup ?_; simp only [SimsL, and_true]; (repeat' apply And.intro) <;> first | exact simsF | skip) | (exfalso; first | omega | (simp_all; done) | (simp_all; omega)) | skip
theorem ceilF_A (q : Quotient) : FnA Tryz.prog 109 [.agg q.av] (.raw (.bool (ceilQ q))) := by
  refine fnA_of tblOk Tryz.func109 rfl (by kernel_rfl) 11 Tryz.ntmps109 (by simp only [List.length_cons, List.length_nil]; omega) [.tmp 2] rfl ?_
  simp only [entrySt, argSl, Nat.zero_add, Nat.reduceAdd]
  repeat' first
    | refine wkG trivial ?_
    | (refine cndS ⟨_, evl, ⟨cb, cb⟩, fun hb => ?_, fun hb => ?_⟩ <;> try (cases hb; done))
    | (refine Stop.mk ?_; intro K hK)
    | fail
  all_goals (try (refine ret_of (by simp) ⟨_, _, _, evl, ob0, OutOk.sims ?_ fre⟩))
  all_goals first | exact Sims.refl _ | (refine Sims.of_eq ?_; first | rfl | (simp [ceilQ]; done) | (simp_all [ceilQ]; done) | (simp_all [ceilQ]; omega) | (simp [ceilQ]; grind) | (split <;> simp_all)) | exact simsF | (refine Sims.tup ?_; simp only [SimsL, and_true]; (repeat' apply And.intro) <;> first | exact simsF | skip) | (exfalso; first | omega | (simp_all; done) | (simp_all; omega)) | skip
/-- What is scaled and rounded, for a product that is not negative and small. -/
theorem scaled_A (a n d : Int) (ha : 0 ≤ a ∧ a ≤ 3000000000000000) (hn : 0 ≤ n ∧ n ≤ 2000000000) (hd : 1 ≤ d ∧ d ≤ 2000000000) (hs : a * n < 18446744073709551616) (hq : a * n / d < 3000000000000000) (g : FuncId) (up : Quotient → Bool) (hg : ∀ q : Quotient, FnA Tryz.prog g [.agg q.av] (.raw (.bool (up q)))) :
    FnA Tryz.prog 107 [.raw (.int .i64 a), .raw (.int .i64 n), .raw (.int .i64 d), .fn (.func g) [] []] (.tup [.raw (.int .i64 (a * n / d + if up ⟨a * n / d, a * n % d, d, false⟩ = true then 1 else 0)), .raw (.int .i64 0)]) := by
  have h0 : 0 ≤ a * n := Int.mul_nonneg ha.1 hn.1
  have hv := divide_A a n d (by omega) hn hd (by rw [show max a (-a) = a by omega]; exact hs)
  rw [show max a (-a) = a by omega, decide_eq_false (by omega : ¬ a < 0), decide_eq_true (by omega : a * n / d ≤ 3000000000000000)] at hv
  have ht := isTime_A a
  rw [decide_eq_true (by omega : -3000000000000000 ≤ a), decide_eq_true (by omega : a ≤ 3000000000000000)] at ht
  have hg1 := hg ⟨a * n / d, a * n % d, d, false⟩
  have hw0 : 0 ≤ a * n / d := Int.ediv_nonneg h0 (by omega)
  have t2 := isTime_A (a * n / d + 1)
  rw [decide_eq_true (by omega : -3000000000000000 ≤ a * n / d + 1), decide_eq_true (by omega : a * n / d + 1 ≤ 3000000000000000)] at t2
  have t3 := isTime_A (a * n / d)
  rw [decide_eq_true (by omega : -3000000000000000 ≤ a * n / d), decide_eq_true (by omega : a * n / d ≤ 3000000000000000)] at t3
  clear hg hs h0
  generalize a * n / d = W at *
  generalize a * n % d = L at *
  generalize hu : up ⟨W, L, d, false⟩ = u at *
  refine fnA_of tblOk Tryz.func107 rfl (by kernel_rfl) 57 Tryz.ntmps107 (by simp only [List.length_cons, List.length_nil]; omega) [.tmp 8, .tmp 9] rfl ?_
  simp only [entrySt, argSl, Nat.zero_add, Nat.reduceAdd]
  repeat' first
    | refine wkG (And.intro ht (And.intro hv (And.intro hg1 (And.intro t2 t3)))) ?_
    | (refine cndS ⟨_, evl, ⟨cb, cb⟩, fun hb => ?_, fun hb => ?_⟩ <;> try (cases hb; done))
    | (refine Stop.mk ?_; intro K hK)
    | fail
  all_goals first
    | (exfalso; omega)
    | (refine ret_of (by simp) ⟨_, _, _, evl, ob0, OutOk.eq ?_ (by simp [AV.free, AV.freeL])⟩; simp [*])
theorem floor_A (a n d : Int) (ha : 0 ≤ a ∧ a ≤ 3000000000000000) (hn : 0 ≤ n ∧ n ≤ 2000000000) (hd : 1 ≤ d ∧ d ≤ 2000000000) (hs : a * n < 18446744073709551616) (hq : a * n / d < 3000000000000000) :
    FnA Tryz.prog 73 [.raw (.int .i64 a), .raw (.int .i64 n), .raw (.int .i64 d)] (.tup [.raw (.int .i64 (a * n / d)), .raw (.int .i64 0)]) := by
  have h := scaled_A a n d ha hn hd hs hq _ floorQ floorF_A
  rw [if_neg (by simp [floorQ]), Int.add_zero] at h
  clear hs hq
  generalize a * n / d = W at *
  refine fnA_of tblOk Tryz.func73 rfl (by kernel_rfl) 14 Tryz.ntmps73 (by simp only [List.length_cons, List.length_nil]; omega) [.tmp 6, .tmp 7] rfl ?_
  simp only [entrySt, argSl, Nat.zero_add, Nat.reduceAdd]
  repeat' first
    | refine wkG h ?_
    | (refine cndS ⟨_, evl, ⟨cb, cb⟩, fun hb => ?_, fun hb => ?_⟩ <;> try (cases hb; done))
    | (refine Stop.mk ?_; intro K hK)
    | fail
  refine ret_of (by simp) ⟨_, _, _, evl, ob0, OutOk.eq ?_ ?_⟩
  · rfl
  · simp [AV.free, AV.freeL]
def ceilD (p d : Int) : Int := p / d + if 0 < p % d then 1 else 0
theorem ceil_A (a n d : Int) (ha : 0 ≤ a ∧ a ≤ 3000000000000000) (hn : 0 ≤ n ∧ n ≤ 2000000000) (hd : 1 ≤ d ∧ d ≤ 2000000000) (hs : a * n < 18446744073709551616) (hq : a * n / d < 3000000000000000) :
    FnA Tryz.prog 74 [.raw (.int .i64 a), .raw (.int .i64 n), .raw (.int .i64 d)] (.tup [.raw (.int .i64 (ceilD (a * n) d)), .raw (.int .i64 0)]) := by
  have h := scaled_A a n d ha hn hd hs hq _ ceilQ ceilF_A
  have e : (a * n / d + if ceilQ ⟨a * n / d, a * n % d, d, false⟩ = true then 1 else 0) = ceilD (a * n) d := by simp [ceilD, ceilQ]
  rw [e] at h
  clear hs hq e
  generalize ceilD (a * n) d = W at *
  refine fnA_of tblOk Tryz.func74 rfl (by kernel_rfl) 14 Tryz.ntmps74 (by simp only [List.length_cons, List.length_nil]; omega) [.tmp 6, .tmp 7] rfl ?_
  simp only [entrySt, argSl, Nat.zero_add, Nat.reduceAdd]
  repeat' first
    | refine wkG h ?_
    | (refine cndS ⟨_, evl, ⟨cb, cb⟩, fun hb => ?_, fun hb => ?_⟩ <;> try (cases hb; done))
    | (refine Stop.mk ?_; intro K hK)
    | fail
  refine ret_of (by simp) ⟨_, _, _, evl, ob0, OutOk.eq ?_ ?_⟩
  · rfl
  · simp [AV.free, AV.freeL]
end Go.Proofs.YtcdgncmkkknmlaaGreatDoor
