import Derived.Test.YtioaahmkebojiaaGreatDoorWC01
import Derived.Test.YtioaahmkebojiaaGreatDoorWC14
namespace Go.Proofs.YtioaahmkebojiaaGreatDoor
open Tryz
set_option linter.unusedVariables false
set_option linter.unusedSimpArgs false
set_option maxHeartbeats 4000000
set_option maxRecDepth 100000
open Go.RowKit
set_option maxRecDepth 100000 in
theorem zYc (y : Nat) (h1 : 536870912 ≤ y) (h2 : y < 1073741824) : FnA Tryz.prog 307 [.raw (.int .u64 y)] (.raw (.int .i64 30)) := by
 have e1 : ((y : Int).fdiv (2 ^ min (Int.toNat 16) 64)) = ((y / 65536 : Nat) : Int) := by
  rw [yPd _ dq, show (2 : Int) ^ min (Int.toNat 16) 64 = 65536 from by decide]; omega
 have e2 : (((y / 65536 : Nat) : Int).fdiv (2 ^ min (Int.toNat 8) 64)) = ((y / 16777216 : Nat) : Int) := by
  rw [yPd _ dq, show (2 : Int) ^ min (Int.toNat 8) 64 = 256 from by decide]; omega
 have e3 : IntKind.u8.wrap ((y / 16777216 : Nat) : Int) = ((y / 16777216 : Nat) : Int) := yV (k := .u8) (by simp only [inK]; omega)
 have h3 : 32 ≤ y / 16777216 ∧ y / 16777216 < 64 := by omega
 refine en func307 ntmps307 [.tmp 2] rfl ?_
 generalize hS : ByteArray.mk _ = S
 have hk : S.size = 256 ∧ ∀ j : Fin 32, zK7 S (32 + j.val) = 6 := by
  rw [← hS]
  exact ⟨by decide +kernel, by decide +kernel⟩
 have h6 : zK7 S (y / 16777216) = 6 := by
  have := hk.2 ⟨y / 16777216 - 32, by omega⟩
  rwa [show 32 + (y / 16777216 - 32) = y / 16777216 by omega] at this
 have hsz := hk.1
 clear hk hS
 try (refine wg ?_; try refine sM fun K hK => ?_)
 refine zB ⟨_, evl, fun hb => absurd (yPn hb) oq, fun _ => ?_⟩
 try (refine wg ?_; try refine sM fun K hK => ?_)
 refine zB ⟨_, evl, fun _ => ?_, fun hb => absurd (yPo hb) oq⟩
 try (refine wg ?_; try refine sM fun K hK => ?_)
 rw [e1]
 refine zB ⟨_, evl, fun _ => ?_, fun hb => absurd (yPo hb) oq⟩
 try (refine wg ?_; try refine sM fun K hK => ?_)
 simp only [zK7] at h6
 rw [e2, e3, yNq, h6]
 try (first | refine wkM hK trivial ?_ | refine wkg trivial ?_)
 try clear hK K
 try refine sM fun K hK => ?_
 refine rq ?_ ?_
 ·rfl
 ·simp [AV.free]
theorem zVc (y : Nat) (h1 : 536870912 ≤ y) (h2 : y < 1073741824) : FnA Tryz.prog 258 [.raw (.int .u64 y)] (.raw (.int .i64 34)) := by
 have h := zYc y h1 h2
 refine en func258 ntmps258 [.tmp 2] rfl ?_
 repeat' first
  | refine wkg h ?_
  | (refine cS (fun hb => ?_) fun hb => ?_ <;> try (cases hb; done))
  | refine sM fun K hK => ?_
  | fail
 refine rq ?_ ?_
 ·rfl
 ·simp [AV.free]
theorem yL4 {hi lo y : Nat} (h0 : hi < y) (h2 : y < 1073741824) (hlo : lo < 18446744073709551616) (U L q r : Nat) (hU : U = hi * 17179869184 + lo / 1073741824) (hL : L = lo % 1073741824) (hq : q = U / (4 * y)) (hr : r = (hi * 18446744073709551616 + lo) % (4294967296 * y)) :
  hi * 18446744073709551616 + lo = U * 1073741824 + L ∧ hi * 18446744073709551616 + lo = q * (4294967296 * y) + r ∧ r < 4294967296 * y ∧ q < 4294967296 ∧ (hi * 18446744073709551616 + lo) / y = q * 4294967296 + r / y ∧ (hi * 18446744073709551616 + lo) % y = r % y := by
 have hN : hi * 18446744073709551616 + lo = U * 1073741824 + L := by omega
 have hUN : U = (hi * 18446744073709551616 + lo) / 1073741824 := by omega
 have hqN : q = (hi * 18446744073709551616 + lo) / (4294967296 * y) := by
  rw [hq, hUN, Nat.div_div_eq_div_mul]
  congr 1
  omega
 have hy : 0 < y := by omega
 have hd := Nat.div_add_mod (hi * 18446744073709551616 + lo) (4294967296 * y)
 rw [← hqN, ← hr, Nat.mul_comm] at hd
 have hrl : r < 4294967296 * y := by rw [hr]; exact Nat.mod_lt _ oq
 have hql : q < 4294967296 := by
  rw [hqN]
  refine Nat.div_lt_of_lt_mul ?_
  have : (hi + 1) * 18446744073709551616 ≤ y * 18446744073709551616 := yNe _ h0
  omega
 refine ⟨hN, hd.symm, hrl, hql, ?_, ?_⟩
 ·rw [← hd, show q * (4294967296 * y) + r = r + y * (q * 4294967296) by rw [Nat.mul_left_comm, Nat.mul_comm y, Nat.mul_assoc, Nat.mul_left_comm]; omega, Nat.add_mul_div_left _ _ hy, Nat.add_comm]
 ·rw [← hd, show q * (4294967296 * y) + r = r + y * (q * 4294967296) by rw [Nat.mul_left_comm, Nat.mul_comm y, Nat.mul_assoc, Nat.mul_left_comm]; omega, Nat.add_mul_mod_self_left]
theorem yB9 {a b : Nat} (ha : a < 1073741824) (hb : b < 17179869184) : zF9 .or .u64 (a * 17179869184 : Nat) (b : Nat) = ((a * 17179869184 + b : Nat) : Int) := by
 have e : (BitVec.ofInt 64 ((a * 17179869184 : Nat) : Int) ||| BitVec.ofInt 64 ((b : Nat) : Int)).toNat = a * 17179869184 + b := by
  rw [BitVec.toNat_or, BitVec.toNat_ofInt, BitVec.toNat_ofInt]
  have e1 : (((a * 17179869184 : Nat) : Int) % ((2 ^ 64 : Nat) : Int)).toNat = 2 ^ 34 * a := by omega
  have e2 : ((b : Int) % ((2 ^ 64 : Nat) : Int)).toNat = b := by omega
  rw [e1, e2, ← Nat.two_pow_add_eq_or_of_lt (by omega : b < 2 ^ 34)]
  omega
 show IntKind.u64.wrap _ = _
 rw [show IntKind.u64.bits = 64 from rfl, e]
 exact yV (k := .u64) (by simp only [inK]; omega)
theorem zQ6 (z : Int) : 0 ≤ IntKind.u64.wrap z := by rw [zDv]; omega
theorem zY6 (q y : Nat) : q * (y * 17179869184) = 4 * (q * (4294967296 * y)) := by
 have e : y * 17179869184 = 4 * (4294967296 * y) := by omega
 rw [e]
 exact Nat.mul_left_comm q 4 _
theorem zV2 (r y : Nat) : (r / y) * (y * 17179869184) = 17179869184 * (y * (r / y)) := by rw [← Nat.mul_assoc, Nat.mul_comm (r / y) y, Nat.mul_comm]
structure yCj (hi lo y U L q r : Nat) : Prop where
 eY : IntKind.u64.wrap ((y : Int) * 2 ^ min (Int.toNat 34) 64) = ((y * 17179869184 : Nat) : Int)
 e9 : ((y * 17179869184 : Nat) : Int).fdiv (2 ^ min (Int.toNat 32) 64) = ((4 * y : Nat) : Int)
 e10 : zF9 .and .u64 ((y * 17179869184 : Nat) : Int) 4294967295 = 0
 eH : IntKind.u64.wrap ((hi : Int) * 2 ^ min (Int.toNat 34) 64) = ((hi * 17179869184 : Nat) : Int)
 eL : (lo : Int).fdiv (2 ^ min (Int.toNat 30) 64) = ((lo / 1073741824 : Nat) : Int)
 e11 : zF9 .or .u64 ((hi * 17179869184 : Nat) : Int) ((lo / 1073741824 : Nat) : Int) = (U : Int)
 e12 : IntKind.u64.wrap ((lo : Int) * 2 ^ min (Int.toNat 34) 64) = ((L * 17179869184 : Nat) : Int)
 e13 : ((L * 17179869184 : Nat) : Int).fdiv (2 ^ min (Int.toNat 32) 64) = ((4 * L : Nat) : Int)
 e14 : zF9 .and .u64 ((L * 17179869184 : Nat) : Int) 4294967295 = 0
 e15 : (U : Int).tdiv ((4 * y : Nat) : Int) = (q : Int)
 wz : IntKind.u64.wrap ((q : Int) * 0) = 0
 wz2 : IntKind.u64.wrap (((r / y : Nat) : Int) * 0) = 0
 eun : IntKind.u64.wrap (IntKind.u64.wrap (IntKind.u64.wrap ((U : Int) * 4294967296) + ((4 * L : Nat) : Int)) - IntKind.u64.wrap ((q : Int) * ((y * 17179869184 : Nat) : Int))) = ((4 * r : Nat) : Int)
 e18 : ((4 * r : Nat) : Int).tdiv ((4 * y : Nat) : Int) = ((r / y : Nat) : Int)
 eq1 : IntKind.u64.wrap (IntKind.u64.wrap ((q : Int) * 4294967296) + ((r / y : Nat) : Int)) = (((hi * 18446744073709551616 + lo) / y : Nat) : Int)
 eq2 : (IntKind.u64.wrap (IntKind.u64.wrap (IntKind.u64.wrap (((4 * r : Nat) : Int) * 4294967296) + 0) - IntKind.u64.wrap (((r / y : Nat) : Int) * ((y * 17179869184 : Nat) : Int)))).fdiv (2 ^ min (Int.toNat 34) 64) = (((hi * 18446744073709551616 + lo) % y : Nat) : Int)
 y4 : 0 < ((4 * y : Nat) : Int)
 u64 : inK .u64 (U : Int)
 r4 : inK .u64 ((4 * r : Nat) : Int)
 ql : q < 4294967296
 dl : r / y < 4294967296
theorem yBh {hi lo y : Nat} (h0 : hi < y) (h1 : 536870912 ≤ y) (h2 : y < 1073741824) (hlo : lo < 18446744073709551616) : ∃ U L q r, yCj hi lo y U L q r := by
 obtain ⟨U, hU⟩ : ∃ U, U = hi * 17179869184 + lo / 1073741824 := ⟨_, rfl⟩
 obtain ⟨L, hL⟩ : ∃ L, L = lo % 1073741824 := ⟨_, rfl⟩
 obtain ⟨q, hq⟩ : ∃ q, q = U / (4 * y) := ⟨_, rfl⟩
 obtain ⟨r, hr⟩ : ∃ r, r = (hi * 18446744073709551616 + lo) % (4294967296 * y) := ⟨_, rfl⟩
 obtain ⟨k1, k2, k3, k4, k5, k6⟩ := yL4 h0 h2 hlo U L q r hU hL hq hr
 clear hr
 have hP : q * (y * 17179869184) = 4 * (q * (4294967296 * y)) := zY6 q y
 have hdm := Nat.div_add_mod r y
 have hP2 := zV2 r y
 have hrd : r / y < 4294967296 := Nat.div_lt_of_lt_mul (by rw [Nat.mul_comm]; exact k3)
 have hmy : r % y < y := Nat.mod_lt _ oq
 have p34 : (2 : Int) ^ min (Int.toNat 34) 64 = 17179869184 := by decide
 refine ⟨U, L, q, r, ?_, ?_, ?_, ?_, ?_, ?_, ?_, ?_, ?_, ?_, ?_, ?_, ?_, ?_, ?_, ?_, ?_, ?_, ?_, k4, hrd⟩
 ·rw [p34, zDv]; clear hq k5 k6 hdm hP2 hP; omega
 ·rw [zXo]; clear hq k5 k6 hdm hP2 hP; omega
 ·rw [zTr (by clear hq k5 k6 hdm hP2 hP; simp only [inK]; omega)]; clear hq k5 k6 hdm hP2 hP; omega
 ·rw [p34, zDv]; clear hq k5 k6 hdm hP2 hP; omega
 ·rw [yPd _ dq, show (2 : Int) ^ min (Int.toNat 30) 64 = 1073741824 from by decide]; clear hq k5 k6 hdm hP2 hP; omega
 ·clear hq k5 k6 hdm hP2 hP
  rw [yB9 oq oq, ← hU]
 ·rw [p34, zDv]; clear hq k5 k6 hdm hP2 hP; omega
 ·rw [zXo]; clear hq k5 k6 hdm hP2 hP; omega
 ·rw [zTr (by clear hq k5 k6 hdm hP2 hP; simp only [inK]; omega)]; clear hq k5 k6 hdm hP2 hP; omega
 ·rw [yPj oq, hq]; rfl
 ·rw [Int.mul_zero]; rfl
 ·rw [Int.mul_zero]; rfl
 ·rw [← Int.natCast_mul, hP]
  clear hq k5 k6 hdm hP2 hP
  generalize q * (4294967296 * y) = p at *
  simp only [zDv]
  omega
 ·rw [yPj oq, ← Int.natCast_ediv, Nat.mul_div_mul_left _ _ dq]
 ·rw [k5]
  clear hq k5 k6 hdm hP2 hP k1 k2
  generalize r / y = d at *
  simp only [zDv]
  omega
 ·rw [yPd _ dq, p34, k6, ← Int.natCast_mul, hP2]
  clear hq k5 k6 hP2 hP k1 k2 hU hL
  generalize r % y = d at *
  generalize y * (r / y) = p at *
  simp only [zDv]
  omega
 ·omega
 ·clear hq k5 k6 hdm hP2 hP; simp only [inK]; omega
 ·clear hq k5 k6 hdm hP2 hP k1 k2; simp only [inK]; omega
theorem zW1 (hi lo y : Nat) (h0 : hi < y) (hp : 0 < hi) (h1 : 536870912 ≤ y) (h2 : y < 1073741824) (hlo : lo < 18446744073709551616) :
  FnA Tryz.prog 184 [.raw (.int .u64 hi), .raw (.int .u64 lo), .raw (.int .u64 y)] (.tup [.raw (.int .u64 ((hi * 18446744073709551616 + lo) / y : Nat)), .raw (.int .u64 ((hi * 18446744073709551616 + lo) % y : Nat))]) := by
 have hl := zVc y h1 h2
 obtain ⟨U, L, q, r, E⟩ := yBh h0 h1 h2 hlo
 have w34 : IntKind.u64.wrap 34 = 34 := by decide
 have e30 : IntKind.u64.wrap (64 - 34) = 30 := by decide
 have y4 := E.y4
 have u64 := E.u64
 have r4 := E.r4
 refine en func184 ntmps184 [.tmp 6, .tmp 7] rfl ?_
 try (refine wkg hl ?_; try refine sM fun K hK => ?_)
 refine zB ⟨_, evl, fun hb => absurd (yPn hb) oq, fun _ => ?_⟩
 try (refine wkg hl ?_; try refine sM fun K hK => ?_)
 refine zB ⟨_, evl, fun hb => absurd (yPn hb) oq, fun _ => ?_⟩
 try (refine wkg hl ?_; try refine sM fun K hK => ?_)
 refine zB ⟨_, evl, fun hb => absurd (yPn hb) oq, fun _ => ?_⟩
 try (refine wkg hl ?_; try refine sM fun K hK => ?_)
 simp only [w34, E.eY, E.e9, E.e10, E.eH, e30, E.eL, E.e11, E.e12, E.e13, E.e14]
 try (first | refine wkM hK trivial ?_ | refine wkg trivial ?_)
 try clear hK K
 try refine sM fun K hK => ?_
 simp only [E.e15]
 generalize IntKind.u64.wrap ((U : Int) - IntKind.u64.wrap ((q : Int) * ((4 * y : Nat) : Int))) = A
 refine zP (fun _ : Nat => ⟨135,0,[(2,true,.raw (.int .u64 ((y * 17179869184 : Nat) : Int))),(8,true,.raw (.int .u64 34)),(9,true,.raw (.int .u64 ((4 * y : Nat) : Int))),(10,true,.raw (.int .u64 0)),(11,true,.raw (.int .u64 U)),(13,true,.raw (.int .u64 ((4 * L : Nat) : Int))),(14,true,.raw (.int .u64 0)),(15,true,.raw (.int .u64 q)),(16,true,.raw (.int .u64 A))],[],[],((0,[]),[],true)⟩)
  (fun k => k = 0) (fun k => k) 0 ?_ rfl ?_
 ·exact wkZ
 ·rintro k rfl
  try (refine wg ?_; try refine sM fun K hK => ?_)
  refine zB ⟨_, evl, fun hb => ?_, fun _ => ?_⟩
  ·exfalso
   rw [E.wz] at hb
   have hn := zQ6 (IntKind.u64.wrap (4294967296 * A) + ((4 * L : Nat) : Int))
   have hql := E.ql
   generalize IntKind.u64.wrap (IntKind.u64.wrap (4294967296 * A) + ((4 * L : Nat) : Int)) = Z at *
   simp at hb
   omega
  try (refine wg ?_; try refine sM fun K hK => ?_)
  simp only [E.eun]
  try (first | refine wkM hK trivial ?_ | refine wkg trivial ?_)
  try clear hK K
  try refine sM fun K hK => ?_
  simp only [E.e18]
  generalize IntKind.u64.wrap (((4 * r : Nat) : Int) - IntKind.u64.wrap (((r / y : Nat) : Int) * ((4 * y : Nat) : Int))) = B
  refine zP (fun _ : Nat => ⟨135,0,[(2,true,.raw (.int .u64 ((y * 17179869184 : Nat) : Int))),(8,true,.raw (.int .u64 34)),(9,true,.raw (.int .u64 ((4 * y : Nat) : Int))),(10,true,.raw (.int .u64 0)),(14,true,.raw (.int .u64 0)),(15,true,.raw (.int .u64 q)),(16,true,.raw (.int .u64 B)),(17,true,.raw (.int .u64 ((4 * r : Nat) : Int))),(18,true,.raw (.int .u64 ((r / y : Nat) : Int)))],[],[],((0,[]),[],true)⟩)
   (fun k => k = 0) (fun k => k) 0 ?_ rfl ?_
  ·exact wkZ
  ·rintro k rfl
   try (refine wg ?_; try refine sM fun K hK => ?_)
   refine zB ⟨_, evl, fun hb => ?_, fun _ => ?_⟩
   ·exfalso
    rw [E.wz2] at hb
    have hn := zQ6 (IntKind.u64.wrap (4294967296 * B) + 0)
    have hdl := E.dl
    generalize IntKind.u64.wrap (IntKind.u64.wrap (4294967296 * B) + 0) = Z at *
    generalize r / y = D at *
    simp at hb
    omega
   try (refine wg ?_; try refine sM fun K hK => ?_)
   refine rq ?_ ?_
   ·rw [E.eq1, E.eq2]
   ·simp [AV.free, AV.freeL]
theorem zW0 (p d : Int) (hp : 0 ≤ p ∧ p < 9000000000000000000000000000) (hd : 536870912 ≤ d ∧ d < 1073741824) :
  FnA Tryz.prog 184 [.raw (.int .u64 (p / 18446744073709551616)), .raw (.int .u64 (p % 18446744073709551616)), .raw (.int .u64 d)] (.tup [.raw (.int .u64 (p / d)), .raw (.int .u64 (p % d))]) := by
 obtain ⟨p, rfl⟩ := yPi hp.1
 obtain ⟨d, rfl⟩ := yPi (by omega : 0 ≤ d)
 rcases yNc (p / 18446744073709551616) with h0 | h0
 ·have e1 : (p : Int) / 18446744073709551616 = 0 := by omega
  have e2 : (p : Int) % 18446744073709551616 = p := by omega
  rw [e1, e2]
  exact zYy p d (by simp only [inK]; omega) oq
 ·have h := zW1 (p / 18446744073709551616) (p % 18446744073709551616) d oq h0 oq oq (Nat.mod_lt _ dq)
  have e : p / 18446744073709551616 * 18446744073709551616 + p % 18446744073709551616 = p := Nat.div_add_mod' _ _
  rw [e] at h
  exact h
theorem zT3 (a n d : Int) (ha : -3000000000000000 ≤ a ∧ a ≤ 3000000000000000) (hn : 0 ≤ n ∧ n ≤ 2000000000) (hd : 536870912 ≤ d ∧ d < 1073741824) :
  FnA Tryz.prog 119 [.raw (.int .i64 a), .raw (.int .i64 n), .raw (.int .i64 d)] (.tup [.agg (w9.av ⟨max a (-a) * n / d, max a (-a) * n % d, d, decide (a < 0)⟩), .raw (.bool (decide (max a (-a) * n / d ≤ 3000000000000000)))]) := by
 have h0 : 0 ≤ max a (-a) * n := yPg oq hn.1
 have hb : max a (-a) * n ≤ 6000000000000000000000000 := by
  calc max a (-a) * n ≤ 3000000000000000 * n := Int.mul_le_mul_of_nonneg_right oq hn.1
   _ ≤ 3000000000000000 * 2000000000 := yPp hn.2 dq
 have m := zY7 (max a (-a)) n (by simp only [inK]; omega) (by simp only [inK]; omega)
 have q := zW0 (max a (-a) * n) d ⟨h0, by omega⟩ hd
 have w1 : IntKind.u64.wrap (max a (-a)) = max a (-a) := by rw [zDv]; omega
 have w2 : IntKind.u64.wrap n = n := by rw [zDv]; omega
 have w3 : IntKind.u64.wrap d = d := by rw [zDv]; omega
 have hhi : max a (-a) * n / 18446744073709551616 < d := by omega
 have m' : FnA Tryz.prog 183 [.raw (.int .u64 (IntKind.u64.wrap (max a (-a)))), .raw (.int .u64 (IntKind.u64.wrap n))] (.tup [.raw (.int .u64 (max a (-a) * n / 18446744073709551616)), .raw (.int .u64 (max a (-a) * n % 18446744073709551616))]) := by rw [w1, w2]; exact m
 have q' : FnA Tryz.prog 184 [.raw (.int .u64 (max a (-a) * n / 18446744073709551616)), .raw (.int .u64 (max a (-a) * n % 18446744073709551616)), .raw (.int .u64 (IntKind.u64.wrap d))] (.tup [.raw (.int .u64 (max a (-a) * n / d)), .raw (.int .u64 (max a (-a) * n % d))]) := by rw [w3]; exact q
 have hna : IntKind.i64.wrap (-a) = -a := yV (k := .i64) (by simp only [inK]; omega)
 clear m q hb
 generalize max a (-a) * n / 18446744073709551616 = H at *
 generalize max a (-a) * n % 18446744073709551616 = L at *
 generalize max a (-a) * n / d = Q at *
 generalize max a (-a) * n % d = R at *
 clear h0
 refine en func119 ntmps119 [.cell 6 143, .tmp 7] rfl ?_
 try (refine wkg m' ?_; try refine sM fun K hK => ?_)
 refine zB ⟨_, evl, fun hb => absurd (yPn hb) (by rw [w3]; omega), fun _ => ?_⟩
 try (first | refine wkM hK trivial ?_ | refine wkg trivial ?_)
 try clear hK K
 try refine sM fun K hK => ?_
 refine yO 1 rfl ?_
 refine yD rfl rfl ⟨_, evl, _, _, _, evl, oblF, ?_⟩
 refine ⟨_, fun hg => FnA.at_ q' rfl rfl, ?_⟩
 iterate 7 (refine stG ?_)
 refine zAn 1 obf ⟨_, evl, _, evl, ?_⟩
 try (first | refine wkM hK trivial ?_ | refine wkg trivial ?_)
 try clear hK K
 try refine sM fun K hK => ?_
 refine rq ?_ ?_
 ·rw [w3]; rfl
 ·simp [AV.free, AV.freeL, go_sem]
theorem zIu (a n d : Int) (ha : -3000000000000000 ≤ a ∧ a ≤ 3000000000000000) (hn : 0 ≤ n ∧ n ≤ 2000000000) (hd : 536870912 ≤ d ∧ d < 1073741824) (hq : max a (-a) * n / d < 3000000000000000) (g : FuncId) (up : w9 → Bool) (hg : ∀ q : w9, FnA Tryz.prog g [.agg q.av] (.raw (.bool (up q)))) (W : Int)
  (hW : W = if a < 0 then -(max a (-a) * n / d + if up ⟨max a (-a) * n / d, max a (-a) * n % d, d, true⟩ = true then 1 else 0) else max a (-a) * n / d + if up ⟨max a (-a) * n / d, max a (-a) * n % d, d, false⟩ = true then 1 else 0) :
  FnA Tryz.prog 67 [.raw (.int .i64 a), .raw (.int .i64 n), .raw (.int .i64 d), .fn (.func g) [] []] (.tup [.raw (.int .i64 W), .raw (.int .i64 0)]) := by
 have h0 : 0 ≤ max a (-a) * n := yPg oq hn.1
 have hv := zT3 a n d ha hn hd
 rw [yPm (by omega : max a (-a) * n / d ≤ 3000000000000000)] at hv
 have ht := zNq a
 rw [yPm ha.1, yPm ha.2] at ht
 have hg1 := hg ⟨max a (-a) * n / d, max a (-a) * n % d, d, decide (a < 0)⟩
 have hw0 : 0 ≤ max a (-a) * n / d := Int.ediv_nonneg h0 oq
 generalize max a (-a) * n / d = Q at *
 generalize max a (-a) * n % d = R at *
 have t1 := fun x : Int => zNq x
 clear hg h0
 rcases Int.lt_or_le a 0 with hneg | hneg
 ·rw [if_pos hneg] at hW
  rw [yPm hneg] at hv hg1
  generalize hu : up ⟨Q, R, d, true⟩ = u at *
  have t2 := t1 W
  rw [yPm (show -3000000000000000 ≤ W by rw [hW]; split <;> omega), yPm (show W ≤ 3000000000000000 by rw [hW]; split <;> omega)] at t2
  cases u with
  | false =>
   rw [if_neg dq, Int.add_zero] at hW
   subst hW
   have hna : IntKind.i64.wrap (-Q) = -Q := yV (k := .i64) (by simp only [inK]; omega)
   refine en func67 ntmps67 [.tmp 8, .tmp 9] rfl ?_
   repeat' first
    | refine wkg (And.intro ht (And.intro hv (And.intro hg1 t2))) ?_
    | (refine cS (fun hb => ?_) fun hb => ?_ <;> try (cases hb; done))
    | refine sM fun K hK => ?_
    | fail
   all_goals first
    | (exfalso; omega)
    | (refine yA sq ⟨_, _, _, evl, ob0, yP.eq ?_ (by simp [AV.free, AV.freeL])⟩; simp [*])
  | true =>
   rw [if_pos rfl] at hW
   subst hW
   have hna : IntKind.i64.wrap (-(Q + 1)) = -(Q + 1) := yV (k := .i64) (by simp only [inK]; omega)
   refine en func67 ntmps67 [.tmp 8, .tmp 9] rfl ?_
   repeat' first
    | refine wkg (And.intro ht (And.intro hv (And.intro hg1 t2))) ?_
    | (refine cS (fun hb => ?_) fun hb => ?_ <;> try (cases hb; done))
    | refine sM fun K hK => ?_
    | fail
   all_goals first
    | (exfalso; omega)
    | (refine yA sq ⟨_, _, _, evl, ob0, yP.eq ?_ (by simp [AV.free, AV.freeL])⟩; simp [*])
 ·rw [if_neg oq] at hW
  rw [yPl (by omega : ¬ a < 0)] at hv hg1
  generalize hu : up ⟨Q, R, d, false⟩ = u at *
  have t2 := t1 W
  rw [yPm (show -3000000000000000 ≤ W by rw [hW]; split <;> omega), yPm (show W ≤ 3000000000000000 by rw [hW]; split <;> omega)] at t2
  cases u with
  | false =>
   rw [if_neg dq, Int.add_zero] at hW
   subst hW
   refine en func67 ntmps67 [.tmp 8, .tmp 9] rfl ?_
   repeat' first
    | refine wkg (And.intro ht (And.intro hv (And.intro hg1 t2))) ?_
    | (refine cS (fun hb => ?_) fun hb => ?_ <;> try (cases hb; done))
    | refine sM fun K hK => ?_
    | fail
   all_goals first
    | (exfalso; omega)
    | (refine yA sq ⟨_, _, _, evl, ob0, yP.eq ?_ (by simp [AV.free, AV.freeL])⟩; simp [*])
  | true =>
   rw [if_pos rfl] at hW
   subst hW
   refine en func67 ntmps67 [.tmp 8, .tmp 9] rfl ?_
   repeat' first
    | refine wkg (And.intro ht (And.intro hv (And.intro hg1 t2))) ?_
    | (refine cS (fun hb => ?_) fun hb => ?_ <;> try (cases hb; done))
    | refine sM fun K hK => ?_
    | fail
   all_goals first
    | (exfalso; omega)
    | (refine yA sq ⟨_, _, _, evl, ob0, yP.eq ?_ (by simp [AV.free, AV.freeL])⟩; simp [*])
theorem zSy {p d : Int} (hd : 0 < d) : (-p) / d = -(p / d + if 0 < p % d then 1 else 0) := by
 have h1 := Int.mul_ediv_add_emod p d
 have h2 := Int.emod_nonneg p (show d ≠ 0 by omega)
 have h3 := Int.emod_lt_of_pos p hd
 split
 ·refine ((Int.ediv_emod_unique (r := d - p % d) (q := -(p / d + 1)) hd).2 ⟨?_, by omega, by omega⟩).1
  rw [Int.mul_neg, Int.mul_add, Int.mul_one]
  omega
 ·refine ((Int.ediv_emod_unique (r := 0) (q := -(p / d + 0)) hd).2 ⟨?_, by omega, by omega⟩).1
  rw [Int.add_zero, Int.mul_neg]
  omega
theorem zHu (a n d : Int) (ha : -3000000000000000 ≤ a ∧ a ≤ 3000000000000000) (hn : 0 ≤ n ∧ n ≤ 2000000000) (hd : 536870912 ≤ d ∧ d < 1073741824) (hq : max a (-a) * n / d < 3000000000000000) :
  FnA Tryz.prog 27 [.raw (.int .i64 a), .raw (.int .i64 n), .raw (.int .i64 d)] (.tup [.raw (.int .i64 (a * n / d)), .raw (.int .i64 0)]) := by
 have h := zIu a n d ha hn hd hq _ zD8 zVn (a * n / d) (by
  rcases Int.lt_or_le a 0 with hneg | hneg
  ·rw [if_pos hneg, show max a (-a) = -a by omega, show a * n = -(-a * n) by rw [Int.neg_mul, Int.neg_neg], zSy oq]
   simp [zD8]
  ·rw [if_neg oq, show max a (-a) = a by omega]
   simp [zD8])
 clear hq
 generalize a * n / d = W at *
 refine en func27 ntmps27 [.tmp 6, .tmp 7] rfl ?_
 repeat' first
  | refine wkg h ?_
  | (refine cS (fun hb => ?_) fun hb => ?_ <;> try (cases hb; done))
  | refine sM fun K hK => ?_
  | fail
 refine rq ?_ ?_
 ·rfl
 ·simp [AV.free, AV.freeL]
theorem zTb (a n d : Int) (ha : 0 ≤ a ∧ a ≤ 3000000000000000) (hn : 0 ≤ n ∧ n ≤ 2000000000) (hd : 536870912 ≤ d ∧ d < 1073741824) (hq : a * n / d < 3000000000000000) :
  FnA Tryz.prog 28 [.raw (.int .i64 a), .raw (.int .i64 n), .raw (.int .i64 d)] (.tup [.raw (.int .i64 (zAd (a * n) d)), .raw (.int .i64 0)]) := by
 have h := zIu a n d oq hn hd (by rw [show max a (-a) = a by omega]; exact hq) _ zMf zZ6 (zAd (a * n) d) (by
  rw [if_neg oq, show max a (-a) = a by omega]
  simp [zAd, zMf])
 clear hq
 generalize zAd (a * n) d = W at *
 refine en func28 ntmps28 [.tmp 6, .tmp 7] rfl ?_
 repeat' first
  | refine wkg h ?_
  | (refine cS (fun hb => ?_) fun hb => ?_ <;> try (cases hb; done))
  | refine sM fun K hK => ?_
  | fail
 refine rq ?_ ?_
 ·rfl
 ·simp [AV.free, AV.freeL]
end Go.Proofs.YtioaahmkebojiaaGreatDoor
