import Derived.Lib.Mul64
import Derived.Test.YtchpbdecipcelaaGreatDoorSM10
import Derived.Test.YtchpbdecipcelaaGreatDoorSM17
namespace Go.Proofs.YtchpbdecipcelaaGreatDoor
set_option linter.unusedVariables false
set_option linter.unusedSimpArgs false
set_option maxHeartbeats 4000000
set_option maxRecDepth 100000
open Go.RowKit
namespace Lk
theorem delaysR_A (lo hi : Int) : FnA Tryz.prog 160 [.raw (.int .i64 lo), .raw (.int .i64 hi)] (.raw (.bool (boundsM lo hi))) := by
  refine fnA_of tblOk Tryz.func160 rfl (by kernel_rfl) 16 Tryz.ntmps160 lenT [.tmp 4] rfl ?_
  simp only [entrySt, argSl, Nat.zero_add, Nat.reduceAdd]
  try refine wkG trivial ?_
  try (refine Stop.mk ?_; intro K hK)
  refine ret_of (by simp) ⟨_, _, _, evl, ob0, OutOk.eq ?_ ?_⟩
  · simp [boundsM]
  · simp [AV.free]
theorem formR_A (c : Change) : FnA Tryz.prog 106 [.agg c.c] (.raw (.bool (formedM c))) := by
  refine fnA_of tblOk Tryz.func106 rfl (by kernel_rfl) 15 Tryz.ntmps106 lenT [.tmp 2] rfl ?_
  simp only [entrySt, argSl, Nat.zero_add, Nat.reduceAdd]
  try (first | refine wkM hK delaysR_A ?_ | refine wkG delaysR_A ?_)
  try clear hK K
  try (refine Stop.mk ?_; intro K hK)
  refine ret_of (by simp) ⟨_, _, _, evl, ob0, OutOk.eq ?_ ?_⟩
  · simp [formedM]
  · simp [AV.free]
theorem at_mono {l : List Change} (h : ∀ i, i < l.length → vOk l i) : ∀ i j, i ≤ j → j < l.length → (gD l i).at_ ≤ (gD l j).at_ := by
  intro i j hij
  induction j with
  | zero => intro _; obtain rfl : i = 0 := by omega
            exact Int.le_refl _
  | succ j ih =>
    intro hj
    by_cases e : i = j + 1
    · subst e; exact Int.le_refl _
    · have h1 := ih (by omega) (by omega)
      have h2 := (h (j + 1) hj).2 (by omega)
      rw [Nat.add_sub_cancel] at h2
      omega
def atM (l : List Change) (t : Int) (n : Nat) : Change := (List.range n).foldl (fun o k => if (gD l k).at_ ≤ t then gD l k else o) (gD l 0)
theorem atM_succ (l : List Change) (t : Int) (n : Nat) : atM l t (n + 1) = if (gD l n).at_ ≤ t then gD l n else atM l t n := by simp [atM, List.range_succ]
theorem at_strict {l : List Change} (h : ∀ i, i < l.length → vOk l i) : ∀ i j, i < j → j < l.length → (gD l i).at_ < (gD l j).at_ := by
  intro i j hij hj
  have h1 := at_mono h i (j - 1) (by omega) (by omega)
  have h2 := (h j hj).2 (by omega)
  omega
theorem extStep_min (p : Change → Int) (b : Int) (c : Change) : extStep 1 p (b, false) c = (min b (p c), false) := by
  unfold extStep cmpM
  by_cases h : p c < b
  · simp [h]; try omega
  · by_cases h2 : b < p c
    · simp [h, h2]; try omega
    · simp [h, h2]; try omega
theorem extStep_max (p : Change → Int) (b : Int) (c : Change) : extStep (-1) p (b, false) c = (max b (p c), false) := by
  unfold extStep cmpM
  by_cases h : p c < b
  · simp [h]; try omega
  · by_cases h2 : b < p c
    · simp [h, h2]; try omega
    · simp [h, h2]; try omega
theorem extM_min (p : Change → Int) (c : Change) (r : List Change) : extM 1 p (c :: r) = (r.foldl (fun b x => min b (p x)) (p c), false) := by
  have : ∀ (r : List Change) (b : Int), r.foldl (extStep 1 p) (b, false) = (r.foldl (fun b x => min b (p x)) b, false) := by
    intro r
    induction r with
    | nil => intro b; rfl
    | cons x r ih => intro b; simp only [List.foldl_cons, extStep_min, ih]
  simp only [extM, List.foldl_cons]
  rw [show extStep 1 p (0, true) c = (p c, false) from by simp [extStep], this]
theorem extM_max (p : Change → Int) (c : Change) (r : List Change) : extM (-1) p (c :: r) = (r.foldl (fun b x => max b (p x)) (p c), false) := by
  have : ∀ (r : List Change) (b : Int), r.foldl (extStep (-1) p) (b, false) = (r.foldl (fun b x => max b (p x)) b, false) := by
    intro r
    induction r with
    | nil => intro b; rfl
    | cons x r ih => intro b; simp only [List.foldl_cons, extStep_max, ih]
  simp only [extM, List.foldl_cons]
  rw [show extStep (-1) p (0, true) c = (p c, false) from by simp [extStep], this]
def laterL (l : List Change) (i : Iv) (n : Nat) : List Change := ((List.range n).filter fun k => decide (i.lo < (gD l k).at_ ∧ (gD l k).at_ ≤ i.hi)).map (gD l)
theorem lastAt {l : List Change} {lo : Int} (h1 : 1 ≤ l.length) (h0 : (gD l 0).at_ ≤ lo) (hs : ∀ i j, i < j → j < l.length → (gD l i).at_ < (gD l j).at_) : ∃ a, a < l.length ∧ (gD l a).at_ ≤ lo ∧ ∀ k, a < k → k < l.length → lo < (gD l k).at_ := by
  have : ∀ n, n < l.length → ∃ a, a ≤ n ∧ (gD l a).at_ ≤ lo ∧ ∀ k, a < k → k ≤ n → lo < (gD l k).at_ := by
    intro n
    induction n with
    | zero => intro _; exact ⟨0, Nat.le_refl _, h0, fun k h h' => by omega⟩
    | succ n ih =>
      intro hn
      obtain ⟨a, e1, e2, e3⟩ := ih (by omega)
      by_cases hc : (gD l (n + 1)).at_ ≤ lo
      · exact ⟨n + 1, Nat.le_refl _, hc, fun k h h' => by omega⟩
      · refine ⟨a, by omega, e2, fun k h h' => ?_⟩
        by_cases hk : k = n + 1
        · subst hk; omega
        · exact e3 k h (by omega)
  obtain ⟨a, e1, e2, e3⟩ := this (l.length - 1) (by omega)
  exact ⟨a, by omega, e2, fun k h h' => e3 k h (by omega)⟩
theorem force_eq {l : List Change} {i : Iv} (h1 : 1 ≤ l.length) (h0 : (gD l 0).at_ ≤ i.lo) (hi : i.lo ≤ i.hi) (hs : ∀ i j, i < j → j < l.length → (gD l i).at_ < (gD l j).at_) : forceL l i l.length = atM l i.lo l.length :: laterL l i l.length := by
  obtain ⟨a, e1, e2, e3⟩ := lastAt h1 h0 hs
  have hP : ∀ k, k < l.length → (inF l i k = true ↔ k = a ∨ (i.lo < (gD l k).at_ ∧ (gD l k).at_ ≤ i.hi)) := by
    intro k hk
    have e : ((k : Int) + 1).toNat = k + 1 := by omega
    simp only [inF, e, Bool.and_eq_true, Bool.not_eq_true', Bool.and_eq_false_iff, decide_eq_false_iff_not, decide_eq_true_eq]
    rcases Nat.lt_trichotomy k a with h | h | h
    · have h2 := hs k a h e1
      have h3 : (gD l (k + 1)).at_ ≤ i.lo := by
        by_cases hka : k + 1 = a
        · rw [hka]; exact e2
        · have := hs (k + 1) a (by omega) e1; omega
      constructor
      · rintro ⟨h4 | h4, _⟩ <;> omega
      · rintro (h4 | h4) <;> omega
    · subst h
      refine ⟨fun _ => .inl rfl, fun _ => ⟨?_, by omega⟩⟩
      by_cases hn : k + 1 < l.length
      · have := e3 (k + 1) (by omega) hn; omega
      · omega
    · have h2 := e3 k h hk
      constructor
      · rintro ⟨_, h4⟩; exact .inr ⟨h2, h4⟩
      · rintro (h4 | h4)
        · omega
        · refine ⟨?_, h4.2⟩
          by_cases hn : k + 1 < l.length
          · have := e3 (k + 1) (by omega) hn; omega
          · omega
  have key : ∀ n, n ≤ l.length → (List.range n).filter (inF l i) = (if a < n then [a] else []) ++ (List.range n).filter (fun k => decide (i.lo < (gD l k).at_ ∧ (gD l k).at_ ≤ i.hi)) ∧ (a < n → atM l i.lo n = gD l a) := by
    intro n
    induction n with
    | zero => intro _; simp
    | succ n ih =>
      intro hn
      obtain ⟨i1, i2⟩ := ih (by omega)
      have hp := hP n (by omega)
      rw [List.range_succ, List.filter_append, List.filter_append, i1, atM_succ]
      rcases Nat.lt_trichotomy n a with h | h | h
      · have hq : ¬ i.lo < (gD l n).at_ := by have := hs n a h e1; omega
        have hf : inF l i n = false := by rw [Bool.eq_false_iff]; intro h4; rcases hp.1 h4 with h5 | h5 <;> omega
        refine ⟨by simp [hf, hq, show ¬ a < n from by omega, show ¬ a < n + 1 from by omega], fun h => by omega⟩
      · subst h
        have hq : ¬ i.lo < (gD l n).at_ := by omega
        have hnil : (List.range n).filter (fun k => decide (i.lo < (gD l k).at_ ∧ (gD l k).at_ ≤ i.hi)) = [] := by
          rw [List.filter_eq_nil_iff]
          intro k hk
          have := hs k n (List.mem_range.1 hk) e1
          simp; omega
        refine ⟨by rw [hnil]; simp [hp.2 (.inl rfl), hq], fun _ => by rw [if_pos e2]⟩
      · have h2 := e3 n h (by omega)
        have hb : inF l i n = decide (i.lo < (gD l n).at_ ∧ (gD l n).at_ ≤ i.hi) := by
          rw [Bool.eq_iff_iff, decide_eq_true_iff, hp]
          exact ⟨fun h => h.resolve_left (by omega), .inr⟩
        refine ⟨by simp [hb, h, show a < n + 1 from by omega, List.append_assoc, List.filter_cons], fun _ => by rw [if_neg (by omega)]; exact i2 h⟩
  obtain ⟨k1, k2⟩ := key l.length (Nat.le_refl _)
  rw [forceL, k1, if_pos e1, k2 e1]
  rfl
end Lk
end Go.Proofs.YtchpbdecipcelaaGreatDoor
namespace Go.Proofs.YtchpbdecipcelaaGreatDoor
set_option linter.unusedVariables false
set_option linter.unusedSimpArgs false
set_option maxHeartbeats 4000000
set_option maxRecDepth 100000
open Go.RowKit
theorem shr32 {n : Int} : n.fdiv (2 ^ min (Int.toNat 32) 64) = n / 4294967296 := by
  rw [Int.fdiv_eq_ediv_of_nonneg _ (by decide)]
  rfl
theorem and32 {n : Int} (h : inK .u64 n) : bitI .and .u64 n 4294967295 = n % 4294967296 := by
  simp only [inK] at h
  obtain ⟨x, rfl⟩ := Int.eq_ofNat_of_zero_le h.1
  have e : ((BitVec.ofInt 64 (x : Int) &&& BitVec.ofInt 64 4294967295).toNat : Int) = (x % 4294967296 : Nat) := by
    rw [BitVec.toNat_and, BitVec.toNat_ofInt, BitVec.toNat_ofInt]
    have e1 : ((x : Int) % ((2 ^ 64 : Nat) : Int)).toNat = x := by omega
    have e2 : ((4294967295 : Int) % ((2 ^ 64 : Nat) : Int)).toNat = 2 ^ 32 - 1 := by decide
    rw [e1, e2, Nat.and_two_pow_sub_one_eq_mod]
  show IntKind.u64.wrap _ = _
  rw [show IntKind.u64.bits = 64 from rfl, e]
  rw [inK_wrap (k := .u64) (by simp only [inK]; omega)]
  omega
theorem wrapU (z : Int) : IntKind.u64.wrap z = z % 18446744073709551616 := rfl
theorem mul64_A (x y : Int) (hx : inK .u64 x) (hy : inK .u64 y) : FnA Tryz.prog 255 [.raw (.int .u64 x), .raw (.int .u64 y)] (.tup [.raw (.int .u64 (x * y / 18446744073709551616)), .raw (.int .u64 (x * y % 18446744073709551616))]) := by
  have ax := and32 hx
  have ay := and32 hy
  refine fnA_of tblOk Tryz.func255 rfl (by kernel_rfl) 51 Tryz.ntmps255 lenT [.tmp 4, .tmp 5] rfl ?_
  simp only [entrySt, argSl, Nat.zero_add, Nat.reduceAdd]
  repeat' first
    | refine wkG trivial ?_
    | (refine cndS ⟨_, evl, ⟨cb, cb⟩, fun hb => ?_, fun hb => ?_⟩ <;> try (cases hb; done))
    | (refine Stop.mk ?_; intro K hK)
    | fail
  refine ret_of (by simp) ⟨_, _, _, evl, ob0, OutOk.eq ?_ ?_⟩
  · simp only [inK] at hx hy
    obtain ⟨x, rfl⟩ := Int.eq_ofNat_of_zero_le hx.1
    obtain ⟨y, rfl⟩ := Int.eq_ofNat_of_zero_le hy.1
    simp only [AV.tup.injEq, List.cons.injEq, AV.raw.injEq, Value.int.injEq, true_and, and_true, shr32, ax, ay]
    have e1 : (x : Int) / 4294967296 = ((x / 4294967296 : Nat) : Int) := by omega
    have e2 : (y : Int) / 4294967296 = ((y / 4294967296 : Nat) : Int) := by omega
    have e3 : (x : Int) % 4294967296 = ((x % 4294967296 : Nat) : Int) := by omega
    have e4 : (y : Int) % 4294967296 = ((y % 4294967296 : Nat) : Int) := by omega
    obtain ⟨m1, m2, m3, m4⟩ := Lib.mul64_hi x y (by omega) (by omega)
    have m5 := Lib.half_mul_le (a := x / 4294967296) (b := y / 4294967296) (by omega) (by omega)
    have m6 := Lib.half_mul_le (a := x / 4294967296) (b := y % 4294967296) (by omega) (by omega)
    have m7 := Lib.half_mul_le (a := x % 4294967296) (b := y / 4294967296) (by omega) (by omega)
    have m8 : x * y / 18446744073709551616 < 18446744073709551616 := Nat.div_lt_of_lt_mul (Nat.mul_lt_mul'' (by omega) (by omega))
    rw [e1, e2, e3, e4]
    simp only [← Int.natCast_mul]
    rw [← m4] at m8
    have e5 : (((x * y : Nat) : Int) / 18446744073709551616) = ((x * y / 18446744073709551616 : Nat) : Int) := by omega
    rw [e5, ← m4]
    generalize x * y = p at *
    generalize x / 4294967296 * (y / 4294967296) = a at *
    generalize x / 4294967296 * (y % 4294967296) = b at *
    generalize x % 4294967296 * (y / 4294967296) = c at *
    generalize x % 4294967296 * (y % 4294967296) = d at *
    simp only [wrapU]
    have k1 : (a : Int) % 18446744073709551616 = a := by omega
    have k2 : (b : Int) % 18446744073709551616 = b := by omega
    have k3 : (c : Int) % 18446744073709551616 = c := by omega
    have k4 : (d : Int) % 18446744073709551616 = d := by omega
    simp only [k1, k2, k3, k4]
    obtain ⟨t, ht⟩ : ∃ t : Nat, t = b + d / 4294967296 := ⟨_, rfl⟩
    have k5 : ((b : Int) + (d : Int) / 4294967296) % 18446744073709551616 = (t : Int) := by omega
    rw [← ht] at m2 m3 m4 m8 ⊢
    simp only [k5]
    have k6 : bitI .and .u64 (t : Int) 4294967295 = (t : Int) % 4294967296 := and32 (by simp only [inK]; omega)
    rw [k6]
    exact ⟨by omega, trivial⟩
  · simp [AV.free, AV.freeL]
theorem div64_A (lo y : Int) (hlo : inK .u64 lo) (hy : 0 < y ∧ y < 18446744073709551616) : FnA Tryz.prog 256 [.raw (.int .u64 0), .raw (.int .u64 lo), .raw (.int .u64 y)] (.tup [.raw (.int .u64 (lo / y)), .raw (.int .u64 (lo % y))]) := by
  simp only [inK] at hlo
  refine fnA_of tblOk Tryz.func256 rfl (by kernel_rfl) 135 Tryz.ntmps256 lenT [.tmp 6, .tmp 7] rfl ?_
  simp only [entrySt, argSl, Nat.zero_add, Nat.reduceAdd]
  repeat' first
    | refine wkG trivial ?_
    | (refine cndS ⟨_, evl, ⟨cb, cb⟩, fun hb => ?_, fun hb => ?_⟩ <;> try (cases hb; done))
    | (refine Stop.mk ?_; intro K hK)
    | fail
  · exfalso; omega
  · exfalso; omega
  · refine ret_of (by simp) ⟨_, _, _, evl, ob0, OutOk.eq ?_ ?_⟩
    · rw [Int.tdiv_eq_ediv_of_nonneg hlo.1, Int.tmod_eq_emod_of_nonneg hlo.1]
    · simp [AV.free, AV.freeL]
structure Quotient where
  whole : Int
  left : Int
  d : Int
  negative : Bool
  deriving Inhabited, DecidableEq
@[go_sem] def Quotient.av (x : Quotient) : List AV := [.raw (.int .u64 x.whole), .raw (.int .u64 x.left), .raw (.int .u64 x.d), .raw (.bool x.negative)]
@[simp] theorem Quotient.free (x : Quotient) : AV.freeL x.av := ⟨trivial, trivial, trivial, trivial, trivial⟩
theorem isTime_A (n : Int) : FnA Tryz.prog 238 [.raw (.int .i64 n)] (.raw (.bool (decide (-3000000000000000 ≤ n) && decide (n ≤ 3000000000000000)))) := by
  refine fnA_of tblOk Tryz.func238 rfl (by kernel_rfl) 9 Tryz.ntmps238 lenT [.tmp 2] rfl ?_
  simp only [entrySt, argSl, Nat.zero_add, Nat.reduceAdd]
  repeat' first
    | refine wkG trivial ?_
    | (refine cndS ⟨_, evl, ⟨cb, cb⟩, fun hb => ?_, fun hb => ?_⟩ <;> try (cases hb; done))
    | (refine Stop.mk ?_; intro K hK)
    | fail
  all_goals (try (refine ret_of (by simp) ⟨_, _, _, evl, ob0, OutOk.sims ?_ fre⟩))
  all_goals first | exact Sims.refl _ | exact finT | exact simsF | (refine Sims.tup ?_; simp only [SimsL, and_true]; (repeat' apply And.intro) <;> first | exact simsF | skip) | (exfalso; first | omega | (simp_all; done) | (simp_all; omega)) | skip
def ceilQ (q : Quotient) : Bool := !q.negative && decide (0 < q.left)
def floorQ (q : Quotient) : Bool := q.negative && decide (0 < q.left)
theorem floorF_A (q : Quotient) : FnA Tryz.prog 203 [.agg q.av] (.raw (.bool (floorQ q))) := by
  refine fnA_of tblOk Tryz.func203 rfl (by kernel_rfl) 10 Tryz.ntmps203 lenT [.tmp 2] rfl ?_
  simp only [entrySt, argSl, Nat.zero_add, Nat.reduceAdd]
  repeat' first
    | refine wkG trivial ?_
    | (refine cndS ⟨_, evl, ⟨cb, cb⟩, fun hb => ?_, fun hb => ?_⟩ <;> try (cases hb; done))
    | (refine Stop.mk ?_; intro K hK)
    | fail
  all_goals (try (refine ret_of (by simp) ⟨_, _, _, evl, ob0, OutOk.sims ?_ fre⟩))
  all_goals first | exact Sims.refl _ | (refine Sims.of_eq ?_; first | rfl | (simp [floorQ]; done) | (simp_all [floorQ]; done) | (simp_all [floorQ]; omega) | (simp [floorQ]; grind) | (split <;> simp_all)) | exact simsF | (refine Sims.tup ?_; simp only [SimsL, and_true]; (repeat' apply And.intro) <;> first | exact simsF | skip) | (exfalso; first | omega | (simp_all; done) | (simp_all; omega)) | skip
theorem ceilF_A (q : Quotient) : FnA Tryz.prog 204 [.agg q.av] (.raw (.bool (ceilQ q))) := by
  refine fnA_of tblOk Tryz.func204 rfl (by kernel_rfl) 11 Tryz.ntmps204 lenT [.tmp 2] rfl ?_
  simp only [entrySt, argSl, Nat.zero_add, Nat.reduceAdd]
  repeat' first
    | refine wkG trivial ?_
    | (refine cndS ⟨_, evl, ⟨cb, cb⟩, fun hb => ?_, fun hb => ?_⟩ <;> try (cases hb; done))
    | (refine Stop.mk ?_; intro K hK)
    | fail
  all_goals (try (refine ret_of (by simp) ⟨_, _, _, evl, ob0, OutOk.sims ?_ fre⟩))
  all_goals first | exact Sims.refl _ | (refine Sims.of_eq ?_; first | rfl | (simp [ceilQ]; done) | (simp_all [ceilQ]; done) | (simp_all [ceilQ]; omega) | (simp [ceilQ]; grind) | (split <;> simp_all)) | exact simsF | (refine Sims.tup ?_; simp only [SimsL, and_true]; (repeat' apply And.intro) <;> first | exact simsF | skip) | (exfalso; first | omega | (simp_all; done) | (simp_all; omega)) | skip
def ceilD (p d : Int) : Int := p / d + if 0 < p % d then 1 else 0
end Go.Proofs.YtchpbdecipcelaaGreatDoor
