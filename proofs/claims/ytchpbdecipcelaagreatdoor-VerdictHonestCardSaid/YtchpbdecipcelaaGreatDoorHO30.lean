import Derived.Test.YtchpbdecipcelaaGreatDoorHO01
import Derived.Test.YtchpbdecipcelaaGreatDoorHO24
namespace Go.Proofs.YtchpbdecipcelaaGreatDoor
set_option linter.unusedVariables false
set_option linter.unusedSimpArgs false
set_option maxHeartbeats 4000000
set_option maxRecDepth 100000
open Go.RowKit
set_option maxRecDepth 100000 in
theorem zYv (y : Nat) (h1 : 536870912 ≤ y) (h2 : y < 1073741824) : FnA Tryz.prog 158 [.raw (.int .u64 y)] (.raw (.int .i64 30)) := by
 have e1 : ((y : Int).fdiv (2 ^ min (Int.toNat 16) 64)) = ((y / 65536 : Nat) : Int) := by
  rw [yLo _ (by decide), show (2 : Int) ^ min (Int.toNat 16) 64 = 65536 from by decide]; omega
 have e2 : (((y / 65536 : Nat) : Int).fdiv (2 ^ min (Int.toNat 8) 64)) = ((y / 16777216 : Nat) : Int) := by
  rw [yLo _ (by decide), show (2 : Int) ^ min (Int.toNat 8) 64 = 256 from by decide]; omega
 have e3 : IntKind.u8.wrap ((y / 16777216 : Nat) : Int) = ((y / 16777216 : Nat) : Int) := y8 (k := .u8) (by simp only [inK]; omega)
 have h3 : 32 ≤ y / 16777216 ∧ y / 16777216 < 64 := by omega
 refine en Tryz.func158 Tryz.ntmps158 [.tmp 2] rfl ?_
 generalize hS : ByteArray.mk _ = S
 have hk : S.size = 256 ∧ ∀ j : Fin 32, zMo S (32 + j.val) = 6 := by
  rw [← hS]
  exact ⟨by decide +kernel, by decide +kernel⟩
 have h6 : zMo S (y / 16777216) = 6 := by
  have := hk.2 ⟨y / 16777216 - 32, by omega⟩
  rwa [show 32 + (y / 16777216 - 32) = y / 16777216 by omega] at this
 have hsz := hk.1
 clear hk hS
 try (refine wg ?_; try refine sM fun K hK => ?_)
 refine zA ⟨_, evl, fun hb => absurd (yLv hb) (by omega), fun _ => ?_⟩
 try (refine wg ?_; try refine sM fun K hK => ?_)
 refine zA ⟨_, evl, fun _ => ?_, fun hb => absurd (yMa hb) (by omega)⟩
 try (refine wg ?_; try refine sM fun K hK => ?_)
 rw [e1]
 refine zA ⟨_, evl, fun _ => ?_, fun hb => absurd (yMa hb) (by omega)⟩
 try (refine wg ?_; try refine sM fun K hK => ?_)
 simp only [zMo] at h6
 rw [e2, e3, yJs, h6]
 try (first | refine wkM hK trivial ?_ | refine wkg trivial ?_)
 try clear hK K
 try refine sM fun K hK => ?_
 refine rq ?_ ?_
 ·rfl
 ·simp [AV.free]
theorem zVr (y : Nat) (h1 : 536870912 ≤ y) (h2 : y < 1073741824) : FnA Tryz.prog 259 [.raw (.int .u64 y)] (.raw (.int .i64 34)) := by
 have h := zYv y h1 h2
 refine en Tryz.func259 Tryz.ntmps259 [.tmp 2] rfl ?_
 repeat' first
  | refine wkg h ?_
  | (refine cS (fun hb => ?_) fun hb => ?_ <;> try (cases hb; done))
  | refine sM fun K hK => ?_
  | fail
 refine rq ?_ ?_
 ·rfl
 ·simp [AV.free]
theorem yHs {hi lo y : Nat} (h0 : hi < y) (h2 : y < 1073741824) (hlo : lo < 18446744073709551616) (U L q r : Nat) (hU : U = hi * 17179869184 + lo / 1073741824) (hL : L = lo % 1073741824) (hq : q = U / (4 * y)) (hr : r = (hi * 18446744073709551616 + lo) % (4294967296 * y)) :
  hi * 18446744073709551616 + lo = U * 1073741824 + L ∧ hi * 18446744073709551616 + lo = q * (4294967296 * y) + r ∧ r < 4294967296 * y ∧ q < 4294967296 ∧ (hi * 18446744073709551616 + lo) / y = q * 4294967296 + r / y ∧ (hi * 18446744073709551616 + lo) % y = r % y := by
 have hN : hi * 18446744073709551616 + lo = U * 1073741824 + L := by omega
 have hUN : U = (hi * 18446744073709551616 + lo) / 1073741824 := by omega
 have hqN : q = (hi * 18446744073709551616 + lo) / (4294967296 * y) := by
  rw [hq, hUN, Nat.div_div_eq_div_mul]
  congr 1
  omega
 have hy : 0 < y := by omega
 have hd := Nat.div_add_mod (hi * 18446744073709551616 + lo) (4294967296 * y)
 rw [← hqN, ← hr, yL0] at hd
 have hrl : r < 4294967296 * y := by rw [hr]; exact yJz _ (by omega)
 have hql : q < 4294967296 := by
  rw [hqN]
  refine Nat.div_lt_of_lt_mul ?_
  have : (hi + 1) * 18446744073709551616 ≤ y * 18446744073709551616 := yJg _ h0
  omega
 refine ⟨hN, hd.symm, hrl, hql, ?_, ?_⟩
 ·rw [← hd, show q * (4294967296 * y) + r = r + y * (q * 4294967296) by rw [Nat.mul_left_comm, yL0 y, Nat.mul_assoc, Nat.mul_left_comm]; omega, Nat.add_mul_div_left _ _ hy, Nat.add_comm]
 ·rw [← hd, show q * (4294967296 * y) + r = r + y * (q * 4294967296) by rw [Nat.mul_left_comm, yL0 y, Nat.mul_assoc, Nat.mul_left_comm]; omega, Nat.add_mul_mod_self_left]
theorem yAy {a b : Nat} (ha : a < 1073741824) (hb : b < 17179869184) : zFv .or .u64 (a * 17179869184 : Nat) (b : Nat) = ((a * 17179869184 + b : Nat) : Int) := by
 have e : (BitVec.ofInt 64 ((a * 17179869184 : Nat) : Int) ||| BitVec.ofInt 64 ((b : Nat) : Int)).toNat = a * 17179869184 + b := by
  rw [BitVec.toNat_or, BitVec.toNat_ofInt, BitVec.toNat_ofInt]
  have e1 : (((a * 17179869184 : Nat) : Int) % ((2 ^ 64 : Nat) : Int)).toNat = 2 ^ 34 * a := by omega
  have e2 : ((b : Int) % ((2 ^ 64 : Nat) : Int)).toNat = b := by omega
  rw [e1, e2, ← Nat.two_pow_add_eq_or_of_lt (by omega : b < 2 ^ 34)]
  omega
 show IntKind.u64.wrap _ = _
 rw [show IntKind.u64.bits = 64 from rfl, e]
 exact y8 (k := .u64) (by simp only [inK]; omega)
theorem zQu (z : Int) : 0 ≤ IntKind.u64.wrap z := by rw [zEl]; omega
theorem zYn (q y : Nat) : q * (y * 17179869184) = 4 * (q * (4294967296 * y)) := by
 have e : y * 17179869184 = 4 * (4294967296 * y) := by omega
 rw [e]
 exact Nat.mul_left_comm q 4 _
theorem zVj (r y : Nat) : (r / y) * (y * 17179869184) = 17179869184 * (y * (r / y)) := by rw [← Nat.mul_assoc, yL0 (r / y) y, yL0]
structure yC7 (hi lo y U L q r : Nat) : Prop where
 eY : IntKind.u64.wrap ((y : Int) * 2 ^ min (Int.toNat 34) 64) = ((y * 17179869184 : Nat) : Int)
 e9 : ((y * 17179869184 : Nat) : Int).fdiv (2 ^ min (Int.toNat 32) 64) = ((4 * y : Nat) : Int)
 e10 : zFv .and .u64 ((y * 17179869184 : Nat) : Int) 4294967295 = 0
 eH : IntKind.u64.wrap ((hi : Int) * 2 ^ min (Int.toNat 34) 64) = ((hi * 17179869184 : Nat) : Int)
 eL : (lo : Int).fdiv (2 ^ min (Int.toNat 30) 64) = ((lo / 1073741824 : Nat) : Int)
 e11 : zFv .or .u64 ((hi * 17179869184 : Nat) : Int) ((lo / 1073741824 : Nat) : Int) = (U : Int)
 e12 : IntKind.u64.wrap ((lo : Int) * 2 ^ min (Int.toNat 34) 64) = ((L * 17179869184 : Nat) : Int)
 e13 : ((L * 17179869184 : Nat) : Int).fdiv (2 ^ min (Int.toNat 32) 64) = ((4 * L : Nat) : Int)
 e14 : zFv .and .u64 ((L * 17179869184 : Nat) : Int) 4294967295 = 0
 e15 : (U : Int).tdiv ((4 * y : Nat) : Int) = (q : Int)
 wz : IntKind.u64.wrap ((q : Int) * 0) = 0
 wz2 : IntKind.u64.wrap (((r / y : Nat) : Int) * 0) = 0
 eun : IntKind.u64.wrap (IntKind.u64.wrap (IntKind.u64.wrap ((U : Int) * 4294967296) + ((4 * L : Nat) : Int)) - IntKind.u64.wrap ((q : Int) * ((y * 17179869184 : Nat) : Int))) = ((4 * r : Nat) : Int)
 e18 : ((4 * r : Nat) : Int).tdiv ((4 * y : Nat) : Int) = ((r / y : Nat) : Int)
 eq1 : IntKind.u64.wrap (IntKind.u64.wrap ((q : Int) * 4294967296) + ((r / y : Nat) : Int)) = (((hi * 18446744073709551616 + lo) / y : Nat) : Int)
 eq2 : (IntKind.u64.wrap (IntKind.u64.wrap (IntKind.u64.wrap (((4 * r : Nat) : Int) * 4294967296) + 0) - IntKind.u64.wrap (((r / y : Nat) : Int) * ((y * 17179869184 : Nat) : Int)))).fdiv (2 ^ min (Int.toNat 34) 64) = (((hi * 18446744073709551616 + lo) % y : Nat) : Int)
 y4 : 0 < ((4 * y : Nat) : Int)
 u64 : inK .u64 (U : Int)
 r4 : inK .u64 ((4 * r : Nat) : Int)
 ql : q < 4294967296
 dl : r / y < 4294967296
theorem yB5 {hi lo y : Nat} (h0 : hi < y) (h1 : 536870912 ≤ y) (h2 : y < 1073741824) (hlo : lo < 18446744073709551616) : ∃ U L q r, yC7 hi lo y U L q r := by
 obtain ⟨U, hU⟩ : ∃ U, U = hi * 17179869184 + lo / 1073741824 := ⟨_, rfl⟩
 obtain ⟨L, hL⟩ : ∃ L, L = lo % 1073741824 := ⟨_, rfl⟩
 obtain ⟨q, hq⟩ : ∃ q, q = U / (4 * y) := ⟨_, rfl⟩
 obtain ⟨r, hr⟩ : ∃ r, r = (hi * 18446744073709551616 + lo) % (4294967296 * y) := ⟨_, rfl⟩
 obtain ⟨k1, k2, k3, k4, k5, k6⟩ := yHs h0 h2 hlo U L q r hU hL hq hr
 clear hr
 have hP : q * (y * 17179869184) = 4 * (q * (4294967296 * y)) := zYn q y
 have hdm := Nat.div_add_mod r y
 have hP2 := zVj r y
 have hrd : r / y < 4294967296 := Nat.div_lt_of_lt_mul (by rw [yL0]; exact k3)
 have hmy : r % y < y := yJz _ (by omega)
 have p34 : (2 : Int) ^ min (Int.toNat 34) 64 = 17179869184 := by decide
 refine ⟨U, L, q, r, ?_, ?_, ?_, ?_, ?_, ?_, ?_, ?_, ?_, ?_, ?_, ?_, ?_, ?_, ?_, ?_, ?_, ?_, ?_, k4, hrd⟩
 ·rw [p34, zEl]; clear hq k5 k6 hdm hP2 hP; omega
 ·rw [zXw]; clear hq k5 k6 hdm hP2 hP; omega
 ·rw [zUk (by clear hq k5 k6 hdm hP2 hP; simp only [inK]; omega)]; clear hq k5 k6 hdm hP2 hP; omega
 ·rw [p34, zEl]; clear hq k5 k6 hdm hP2 hP; omega
 ·rw [yLo _ (by decide), show (2 : Int) ^ min (Int.toNat 30) 64 = 1073741824 from by decide]; clear hq k5 k6 hdm hP2 hP; omega
 ·clear hq k5 k6 hdm hP2 hP
  rw [yAy (by omega) (by omega), ← hU]
 ·rw [p34, zEl]; clear hq k5 k6 hdm hP2 hP; omega
 ·rw [zXw]; clear hq k5 k6 hdm hP2 hP; omega
 ·rw [zUk (by clear hq k5 k6 hdm hP2 hP; simp only [inK]; omega)]; clear hq k5 k6 hdm hP2 hP; omega
 ·rw [yLy (by omega), hq]; rfl
 ·rw [Int.mul_zero]; rfl
 ·rw [Int.mul_zero]; rfl
 ·rw [← yLn, hP]
  clear hq k5 k6 hdm hP2 hP
  generalize q * (4294967296 * y) = p at *
  simp only [zEl]
  omega
 ·rw [yLy (by omega), ← Int.natCast_ediv, Nat.mul_div_mul_left _ _ (by decide)]
 ·rw [k5]
  clear hq k5 k6 hdm hP2 hP k1 k2
  generalize r / y = d at *
  simp only [zEl]
  omega
 ·rw [yLo _ (by decide), p34, k6, ← yLn, hP2]
  clear hq k5 k6 hP2 hP k1 k2 hU hL
  generalize r % y = d at *
  generalize y * (r / y) = p at *
  simp only [zEl]
  omega
 ·omega
 ·clear hq k5 k6 hdm hP2 hP; simp only [inK]; omega
 ·clear hq k5 k6 hdm hP2 hP k1 k2; simp only [inK]; omega
theorem zWi (hi lo y : Nat) (h0 : hi < y) (hp : 0 < hi) (h1 : 536870912 ≤ y) (h2 : y < 1073741824) (hlo : lo < 18446744073709551616) :
  FnA Tryz.prog 256 [.raw (.int .u64 hi), .raw (.int .u64 lo), .raw (.int .u64 y)] (.tup [.raw (.int .u64 ((hi * 18446744073709551616 + lo) / y : Nat)), .raw (.int .u64 ((hi * 18446744073709551616 + lo) % y : Nat))]) := by
 have hl := zVr y h1 h2
 obtain ⟨U, L, q, r, E⟩ := yB5 h0 h1 h2 hlo
 have w34 : IntKind.u64.wrap 34 = 34 := by decide
 have e30 : IntKind.u64.wrap (64 - 34) = 30 := by decide
 have y4 := E.y4
 have u64 := E.u64
 have r4 := E.r4
 refine en Tryz.func256 Tryz.ntmps256 [.tmp 6, .tmp 7] rfl ?_
 try (refine wkg hl ?_; try refine sM fun K hK => ?_)
 refine zA ⟨_, evl, fun hb => absurd (yLv hb) (by omega), fun _ => ?_⟩
 try (refine wkg hl ?_; try refine sM fun K hK => ?_)
 refine zA ⟨_, evl, fun hb => absurd (yLv hb) (by omega), fun _ => ?_⟩
 try (refine wkg hl ?_; try refine sM fun K hK => ?_)
 refine zA ⟨_, evl, fun hb => absurd (yLv hb) (by omega), fun _ => ?_⟩
 try (refine wkg hl ?_; try refine sM fun K hK => ?_)
 simp only [w34, E.eY, E.e9, E.e10, E.eH, e30, E.eL, E.e11, E.e12, E.e13, E.e14]
 try (first | refine wkM hK trivial ?_ | refine wkg trivial ?_)
 try clear hK K
 try refine sM fun K hK => ?_
 simp only [E.e15]
 generalize IntKind.u64.wrap ((U : Int) - IntKind.u64.wrap ((q : Int) * ((4 * y : Nat) : Int))) = A
 refine zJ (fun _ : Nat => ⟨135, 0, [(2, true, .raw (.int .u64 ((y * 17179869184 : Nat) : Int))), (8, true, .raw (.int .u64 34)), (9, true, .raw (.int .u64 ((4 * y : Nat) : Int))), (10, true, .raw (.int .u64 0)), (11, true, .raw (.int .u64 U)), (13, true, .raw (.int .u64 ((4 * L : Nat) : Int))), (14, true, .raw (.int .u64 0)), (15, true, .raw (.int .u64 q)), (16, true, .raw (.int .u64 A))], [], [], ((0, []), [], true)⟩)
  (fun k => k = 0) (fun k => k) 0 ?_ rfl ?_
 ·exact wkZ
 ·rintro k rfl
  try (refine wg ?_; try refine sM fun K hK => ?_)
  refine zA ⟨_, evl, fun hb => ?_, fun _ => ?_⟩
  ·exfalso
   rw [E.wz] at hb
   have hn := zQu (IntKind.u64.wrap (4294967296 * A) + ((4 * L : Nat) : Int))
   have hql := E.ql
   generalize IntKind.u64.wrap (IntKind.u64.wrap (4294967296 * A) + ((4 * L : Nat) : Int)) = Z at *
   simp at hb
   omega
  try (refine wg ?_; try refine sM fun K hK => ?_)
  simp only [E.eun]
  try (first | refine wkM hK trivial ?_ | refine wkg trivial ?_)
  try clear hK K
  try refine sM fun K hK => ?_
  simp only [E.e18]
  generalize IntKind.u64.wrap (((4 * r : Nat) : Int) - IntKind.u64.wrap (((r / y : Nat) : Int) * ((4 * y : Nat) : Int))) = B
  refine zJ (fun _ : Nat => ⟨135, 0, [(2, true, .raw (.int .u64 ((y * 17179869184 : Nat) : Int))), (8, true, .raw (.int .u64 34)), (9, true, .raw (.int .u64 ((4 * y : Nat) : Int))), (10, true, .raw (.int .u64 0)), (14, true, .raw (.int .u64 0)), (15, true, .raw (.int .u64 q)), (16, true, .raw (.int .u64 B)), (17, true, .raw (.int .u64 ((4 * r : Nat) : Int))), (18, true, .raw (.int .u64 ((r / y : Nat) : Int)))], [], [], ((0, []), [], true)⟩)
   (fun k => k = 0) (fun k => k) 0 ?_ rfl ?_
  ·exact wkZ
  ·rintro k rfl
   try (refine wg ?_; try refine sM fun K hK => ?_)
   refine zA ⟨_, evl, fun hb => ?_, fun _ => ?_⟩
   ·exfalso
    rw [E.wz2] at hb
    have hn := zQu (IntKind.u64.wrap (4294967296 * B) + 0)
    have hdl := E.dl
    generalize IntKind.u64.wrap (IntKind.u64.wrap (4294967296 * B) + 0) = Z at *
    generalize r / y = D at *
    simp at hb
    omega
   try (refine wg ?_; try refine sM fun K hK => ?_)
   refine rq ?_ ?_
   ·rw [E.eq1, E.eq2]
   ·simp [AV.free, AV.freeL]
theorem zWh (p d : Int) (hp : 0 ≤ p ∧ p < 9000000000000000000000000000) (hd : 536870912 ≤ d ∧ d < 1073741824) :
  FnA Tryz.prog 256 [.raw (.int .u64 (p / 18446744073709551616)), .raw (.int .u64 (p % 18446744073709551616)), .raw (.int .u64 d)] (.tup [.raw (.int .u64 (p / d)), .raw (.int .u64 (p % d))]) := by
 obtain ⟨p, rfl⟩ := yM0 hp.1
 obtain ⟨d, rfl⟩ := yM0 (by omega : 0 ≤ d)
 rcases yJe (p / 18446744073709551616) with h0 | h0
 ·have e1 : (p : Int) / 18446744073709551616 = 0 := by omega
  have e2 : (p : Int) % 18446744073709551616 = p := by omega
  rw [e1, e2]
  exact zZk p d (by simp only [inK]; omega) (by omega)
 ·have h := zWi (p / 18446744073709551616) (p % 18446744073709551616) d (by omega) h0 (by omega) (by omega) (yJz _ (by decide))
  have e : p / 18446744073709551616 * 18446744073709551616 + p % 18446744073709551616 = p := Nat.div_add_mod' _ _
  rw [e] at h
  exact h
theorem zTx (a n d : Int) (ha : -3000000000000000 ≤ a ∧ a ≤ 3000000000000000) (hn : 0 ≤ n ∧ n ≤ 2000000000) (hd : 536870912 ≤ d ∧ d < 1073741824) :
  FnA Tryz.prog 239 [.raw (.int .i64 a), .raw (.int .i64 n), .raw (.int .i64 d)] (.tup [.agg (wX.av ⟨max a (-a) * n / d, max a (-a) * n % d, d, decide (a < 0)⟩), .raw (.bool (decide (max a (-a) * n / d ≤ 3000000000000000)))]) := by
 have h0 : 0 ≤ max a (-a) * n := yLt (by omega) hn.1
 have hb : max a (-a) * n ≤ 6000000000000000000000000 := by
  calc max a (-a) * n ≤ 3000000000000000 * n := yM8 (by omega) hn.1
   _ ≤ 3000000000000000 * 2000000000 := yMc hn.2 (by decide)
 have m := zYo (max a (-a)) n (by simp only [inK]; omega) (by simp only [inK]; omega)
 have q := zWh (max a (-a) * n) d ⟨h0, by omega⟩ hd
 have w1 : IntKind.u64.wrap (max a (-a)) = max a (-a) := by rw [zEl]; omega
 have w2 : IntKind.u64.wrap n = n := by rw [zEl]; omega
 have w3 : IntKind.u64.wrap d = d := by rw [zEl]; omega
 have hhi : max a (-a) * n / 18446744073709551616 < d := by omega
 have m' : FnA Tryz.prog 255 [.raw (.int .u64 (IntKind.u64.wrap (max a (-a)))), .raw (.int .u64 (IntKind.u64.wrap n))] (.tup [.raw (.int .u64 (max a (-a) * n / 18446744073709551616)), .raw (.int .u64 (max a (-a) * n % 18446744073709551616))]) := by rw [w1, w2]; exact m
 have q' : FnA Tryz.prog 256 [.raw (.int .u64 (max a (-a) * n / 18446744073709551616)), .raw (.int .u64 (max a (-a) * n % 18446744073709551616)), .raw (.int .u64 (IntKind.u64.wrap d))] (.tup [.raw (.int .u64 (max a (-a) * n / d)), .raw (.int .u64 (max a (-a) * n % d))]) := by rw [w3]; exact q
 have hna : IntKind.i64.wrap (-a) = -a := y8 (k := .i64) (by simp only [inK]; omega)
 clear m q hb
 generalize max a (-a) * n / 18446744073709551616 = H at *
 generalize max a (-a) * n % 18446744073709551616 = L at *
 generalize max a (-a) * n / d = Q at *
 generalize max a (-a) * n % d = R at *
 clear h0
 refine en Tryz.func239 Tryz.ntmps239 [.cell 6 245, .tmp 7] rfl ?_
 try (refine wkg m' ?_; try refine sM fun K hK => ?_)
 refine zA ⟨_, evl, fun hb => absurd (yLv hb) (by rw [w3]; omega), fun _ => ?_⟩
 try (first | refine wkM hK trivial ?_ | refine wkg trivial ?_)
 try clear hK K
 try refine sM fun K hK => ?_
 refine yH 1 rfl ?_
 refine zN rfl rfl ⟨_, evl, _, _, _, evl, oblF, ?_⟩
 refine ⟨_, fun hg => FnA.at_ q' rfl rfl, ?_⟩
 iterate 7 (refine stG ?_)
 refine zX 1 obf ⟨_, evl, _, evl, ?_⟩
 try (first | refine wkM hK trivial ?_ | refine wkg trivial ?_)
 try clear hK K
 try refine sM fun K hK => ?_
 refine rq ?_ ?_
 ·rw [w3]; rfl
 ·simp [AV.free, AV.freeL, go_sem]
theorem zIz (a n d : Int) (ha : -3000000000000000 ≤ a ∧ a ≤ 3000000000000000) (hn : 0 ≤ n ∧ n ≤ 2000000000) (hd : 536870912 ≤ d ∧ d < 1073741824) (hq : max a (-a) * n / d < 3000000000000000) (g : FuncId) (up : wX → Bool) (hg : ∀ q : wX, FnA Tryz.prog g [.agg q.av] (.raw (.bool (up q)))) (W : Int)
  (hW : W = if a < 0 then -(max a (-a) * n / d + if up ⟨max a (-a) * n / d, max a (-a) * n % d, d, true⟩ = true then 1 else 0) else max a (-a) * n / d + if up ⟨max a (-a) * n / d, max a (-a) * n % d, d, false⟩ = true then 1 else 0) :
  FnA Tryz.prog 202 [.raw (.int .i64 a), .raw (.int .i64 n), .raw (.int .i64 d), .fn (.func g) [] []] (.tup [.raw (.int .i64 W), .raw (.int .i64 0)]) := by
 have h0 : 0 ≤ max a (-a) * n := yLt (by omega) hn.1
 have hv := zTx a n d ha hn hd
 rw [yM1 (by omega : max a (-a) * n / d ≤ 3000000000000000)] at hv
 have ht := zO2 a
 rw [yM1 ha.1, yM1 ha.2] at ht
 have hg1 := hg ⟨max a (-a) * n / d, max a (-a) * n % d, d, decide (a < 0)⟩
 have hw0 : 0 ≤ max a (-a) * n / d := yMd h0 (by omega)
 generalize max a (-a) * n / d = Q at *
 generalize max a (-a) * n % d = R at *
 have t1 := fun x : Int => zO2 x
 clear hg h0
 rcases Int.lt_or_le a 0 with hneg | hneg
 ·rw [if_pos hneg] at hW
  rw [yM1 hneg] at hv hg1
  generalize hu : up ⟨Q, R, d, true⟩ = u at *
  have t2 := t1 W
  rw [yM1 (show -3000000000000000 ≤ W by rw [hW]; split <;> omega), yM1 (show W ≤ 3000000000000000 by rw [hW]; split <;> omega)] at t2
  cases u with
  | false =>
   rw [if_neg (by decide), Int.add_zero] at hW
   subst hW
   have hna : IntKind.i64.wrap (-Q) = -Q := y8 (k := .i64) (by simp only [inK]; omega)
   refine en Tryz.func202 Tryz.ntmps202 [.tmp 8, .tmp 9] rfl ?_
   repeat' first
    | refine wkg (And.intro ht (And.intro hv (And.intro hg1 t2))) ?_
    | (refine cS (fun hb => ?_) fun hb => ?_ <;> try (cases hb; done))
    | refine sM fun K hK => ?_
    | fail
   all_goals first
    | (exfalso; omega)
    | (refine zR (by simp) ⟨_, _, _, evl, ob0, zV.eq ?_ (by simp [AV.free, AV.freeL])⟩; simp [*])
  | true =>
   rw [if_pos rfl] at hW
   subst hW
   have hna : IntKind.i64.wrap (-(Q + 1)) = -(Q + 1) := y8 (k := .i64) (by simp only [inK]; omega)
   refine en Tryz.func202 Tryz.ntmps202 [.tmp 8, .tmp 9] rfl ?_
   repeat' first
    | refine wkg (And.intro ht (And.intro hv (And.intro hg1 t2))) ?_
    | (refine cS (fun hb => ?_) fun hb => ?_ <;> try (cases hb; done))
    | refine sM fun K hK => ?_
    | fail
   all_goals first
    | (exfalso; omega)
    | (refine zR (by simp) ⟨_, _, _, evl, ob0, zV.eq ?_ (by simp [AV.free, AV.freeL])⟩; simp [*])
 ·rw [if_neg (by omega)] at hW
  rw [yM2 (by omega : ¬ a < 0)] at hv hg1
  generalize hu : up ⟨Q, R, d, false⟩ = u at *
  have t2 := t1 W
  rw [yM1 (show -3000000000000000 ≤ W by rw [hW]; split <;> omega), yM1 (show W ≤ 3000000000000000 by rw [hW]; split <;> omega)] at t2
  cases u with
  | false =>
   rw [if_neg (by decide), Int.add_zero] at hW
   subst hW
   refine en Tryz.func202 Tryz.ntmps202 [.tmp 8, .tmp 9] rfl ?_
   repeat' first
    | refine wkg (And.intro ht (And.intro hv (And.intro hg1 t2))) ?_
    | (refine cS (fun hb => ?_) fun hb => ?_ <;> try (cases hb; done))
    | refine sM fun K hK => ?_
    | fail
   all_goals first
    | (exfalso; omega)
    | (refine zR (by simp) ⟨_, _, _, evl, ob0, zV.eq ?_ (by simp [AV.free, AV.freeL])⟩; simp [*])
  | true =>
   rw [if_pos rfl] at hW
   subst hW
   refine en Tryz.func202 Tryz.ntmps202 [.tmp 8, .tmp 9] rfl ?_
   repeat' first
    | refine wkg (And.intro ht (And.intro hv (And.intro hg1 t2))) ?_
    | (refine cS (fun hb => ?_) fun hb => ?_ <;> try (cases hb; done))
    | refine sM fun K hK => ?_
    | fail
   all_goals first
    | (exfalso; omega)
    | (refine zR (by simp) ⟨_, _, _, evl, ob0, zV.eq ?_ (by simp [AV.free, AV.freeL])⟩; simp [*])
theorem zTk {p d : Int} (hd : 0 < d) : (-p) / d = -(p / d + if 0 < p % d then 1 else 0) := by
 have h1 := Int.mul_ediv_add_emod p d
 have h2 := Int.emod_nonneg p (show d ≠ 0 by omega)
 have h3 := yLz p hd
 split
 ·refine ((Int.ediv_emod_unique (r := d - p % d) (q := -(p / d + 1)) hd).2 ⟨?_, by omega, by omega⟩).1
  rw [Int.mul_neg, Int.mul_add, Int.mul_one]
  omega
 ·refine ((Int.ediv_emod_unique (r := 0) (q := -(p / d + 0)) hd).2 ⟨?_, by omega, by omega⟩).1
  rw [Int.add_zero, Int.mul_neg]
  omega
theorem zW7 (a n d : Int) (ha : -3000000000000000 ≤ a ∧ a ≤ 3000000000000000) (hn : 0 ≤ n ∧ n ≤ 2000000000) (hd : 536870912 ≤ d ∧ d < 1073741824) (hq : max a (-a) * n / d < 3000000000000000) :
  FnA Tryz.prog 136 [.raw (.int .i64 a), .raw (.int .i64 n), .raw (.int .i64 d)] (.tup [.raw (.int .i64 (a * n / d)), .raw (.int .i64 0)]) := by
 have h := zIz a n d ha hn hd hq _ zDq zW8 (a * n / d) (by
  rcases Int.lt_or_le a 0 with hneg | hneg
  ·rw [if_pos hneg, show max a (-a) = -a by omega, show a * n = -(-a * n) by rw [Int.neg_mul, Int.neg_neg], zTk (by omega)]
   simp [zDq]
  ·rw [if_neg (by omega), show max a (-a) = a by omega]
   simp [zDq])
 clear hq
 generalize a * n / d = W at *
 refine en Tryz.func136 Tryz.ntmps136 [.tmp 6, .tmp 7] rfl ?_
 repeat' first
  | refine wkg h ?_
  | (refine cS (fun hb => ?_) fun hb => ?_ <;> try (cases hb; done))
  | refine sM fun K hK => ?_
  | fail
 refine rq ?_ ?_
 ·rfl
 ·simp [AV.free, AV.freeL]
theorem zZr (a n d : Int) (ha : 0 ≤ a ∧ a ≤ 3000000000000000) (hn : 0 ≤ n ∧ n ≤ 2000000000) (hd : 536870912 ≤ d ∧ d < 1073741824) (hq : a * n / d < 3000000000000000) :
  FnA Tryz.prog 137 [.raw (.int .i64 a), .raw (.int .i64 n), .raw (.int .i64 d)] (.tup [.raw (.int .i64 (jP (a * n) d)), .raw (.int .i64 0)]) := by
 have h := zIz a n d (by omega) hn hd (by rw [show max a (-a) = a by omega]; exact hq) _ zMm zZs (jP (a * n) d) (by
  rw [if_neg (by omega), show max a (-a) = a by omega]
  simp [jP, zMm])
 clear hq
 generalize jP (a * n) d = W at *
 refine en Tryz.func137 Tryz.ntmps137 [.tmp 6, .tmp 7] rfl ?_
 repeat' first
  | refine wkg h ?_
  | (refine cS (fun hb => ?_) fun hb => ?_ <;> try (cases hb; done))
  | refine sM fun K hK => ?_
  | fail
 refine rq ?_ ?_
 ·rfl
 ·simp [AV.free, AV.freeL]
structure Rg where
 lo : Int
 hi : Int
 deriving Inhabited, DecidableEq
@[go_sem] def Rg.av (x : Rg) : List AV := [.raw (.int .i64 x.lo), .raw (.int .i64 x.hi)]
@[simp] theorem Rg.free (x : Rg) : AV.freeL x.av := ⟨trivial, trivial, trivial⟩
theorem zWe (n : Int) : FnA Tryz.prog 134 [.raw (.int .i64 n)] (.raw (.bool (decide (0 ≤ n) && decide (n ≤ 1000000)))) := by
 refine en Tryz.func134 Tryz.ntmps134 [.tmp 2] rfl ?_
 repeat' first
  | refine wkg trivial ?_
  | (refine cS (fun hb => ?_) fun hb => ?_ <;> try (cases hb; done))
  | refine sM fun K hK => ?_
  | fail
 all_goals exact fA
theorem zQc (n : Int) : FnA Tryz.prog 135 [.raw (.int .i64 n)] (.raw (.bool (decide (0 ≤ n) && decide (n ≤ 1000000000000000)))) := by
 refine en Tryz.func135 Tryz.ntmps135 [.tmp 2] rfl ?_
 repeat' first
  | refine wkg trivial ?_
  | (refine cS (fun hb => ?_) fun hb => ?_ <;> try (cases hb; done))
  | refine sM fun K hK => ?_
  | fail
 all_goals exact fA
def xK (rate count : Int) : Rg × Int := if (0 ≤ rate ∧ rate ≤ 1000000) ∧ 0 ≤ count ∧ count ≤ 1000000000000000 then
 (⟨if 0 < count then (count - 1) * 1000000000 / (1000000000 + rate) + 1 else 0, jP ((count + 1) * 1000000000) (1000000000 - rate) - 1⟩, 0) else (⟨0, 0⟩, 1)
theorem zFu {p d : Int} (hp : 0 ≤ p) (hd : 0 < d) : 0 ≤ jP p d ∧ jP p d ≤ p / d + 1 := by
 have := yMd hp (by omega : 0 ≤ d)
 unfold jP
 split <;> omega
theorem zKf (rate count : Int) : FnA Tryz.prog 81 [.raw (.int .i64 rate), .raw (.int .i64 count)] (.tup [.agg (xK rate count).1.av, .raw (.int .i64 (xK rate count).2)]) := by
 have h1 := zWe rate
 have h2 := zQc count
 by_cases hc : (0 ≤ rate ∧ rate ≤ 1000000) ∧ 0 ≤ count ∧ count ≤ 1000000000000000
 ·rw [xK, if_pos hc]
  rw [yM1 hc.1.1, yM1 hc.1.2] at h1
  rw [yM1 hc.2.1, yM1 hc.2.2] at h2
  obtain ⟨⟨r1, r2⟩, r3, r4⟩ := hc
  have d1 : max (count - 1) (-(count - 1)) * 1000000000 / (1000000000 + rate) < 3000000000000000 := by
   refine yMe (by omega) ?_
   have : 3000000000000000 * (1000000000 + rate) ≥ 3000000000000000 * 1000000000 := yMc (by omega) (by decide)
   omega
  have d2 : (count + 1) * 1000000000 / (1000000000 - rate) < 2000000000000000 := by
   refine yMe (by omega) ?_
   have : 2000000000000000 * (1000000000 - rate) ≥ 2000000000000000 * 999000000 := yMc (by omega) (by decide)
   omega
  have f1 := zW7 (count - 1) 1000000000 (1000000000 + rate) (by omega) (by decide) (by omega) d1
  have f2 := zZr (count + 1) 1000000000 (1000000000 - rate) (by omega) (by decide) (by omega) (by omega)
  have c2 := zFu (p := (count + 1) * 1000000000) (d := 1000000000 - rate) (by omega) (by omega)
  have hlo : max ((count - 1) * 1000000000 / (1000000000 + rate) + 1) 0 = (if 0 < count then (count - 1) * 1000000000 / (1000000000 + rate) + 1 else 0) := by
   split
   ·have := yMd (a := (count - 1) * 1000000000) (b := 1000000000 + rate) (by omega) (by omega)
    omega
   ·obtain rfl : count = 0 := by omega
    have : (0 - 1) * 1000000000 / (1000000000 + rate) = -1 := by
     refine ((Int.ediv_emod_unique (r := rate) (q := -1) (by omega)).2 ⟨?_, by omega, by omega⟩).1
     omega
    omega
  have hb : -3000000000000000 ≤ (count - 1) * 1000000000 / (1000000000 + rate) ∧ (count - 1) * 1000000000 / (1000000000 + rate) ≤ 3000000000000000 := by
   refine ⟨Int.le_ediv_of_mul_le (by omega) ?_, Int.le_of_lt (yMe (by omega) ?_)⟩
   ·have : 3000000000000000 * (1000000000 + rate) ≥ 3000000000000000 * 1000000000 := yMc (by omega) (by decide)
    omega
   ·have : 3000000000000000 * (1000000000 + rate) ≥ 3000000000000000 * 1000000000 := yMc (by omega) (by decide)
    omega
  rw [← hlo]
  clear d1 hlo
  generalize (count - 1) * 1000000000 / (1000000000 + rate) = X at *
  generalize jP ((count + 1) * 1000000000) (1000000000 - rate) = Y at *
  generalize (count + 1) * 1000000000 / (1000000000 - rate) = Z at *
  refine en Tryz.func81 Tryz.ntmps81 [.cell 4 98, .tmp 5] rfl ?_
  repeat' first
   | refine wkg (And.intro h1 (And.intro h2 (And.intro f1 f2))) ?_
   | (refine cS (fun hb => ?_) fun hb => ?_ <;> try (cases hb; done))
   | refine sM fun K hK => ?_
   | fail
  refine rq ?_ ?_
  ·rfl
  ·simp [AV.free, AV.freeL, go_sem]
 ·rw [xK, if_neg hc]
  refine en Tryz.func81 Tryz.ntmps81 [.cell 4 98, .tmp 5] rfl ?_
  repeat' first
   | refine wkg (And.intro h1 h2) ?_
   | (refine cS (fun hb => ?_) fun hb => ?_ <;> try (cases hb; done))
   | refine sM fun K hK => ?_
   | fail
  ·refine rq ?_ ?_
   ·rfl
   ·simp [AV.free, AV.freeL, go_sem]
  ·exact absurd ⟨hb.1, hb.2⟩ hc
end Go.Proofs.YtchpbdecipcelaaGreatDoor
