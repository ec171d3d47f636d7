import Derived.Test.YtchpbdecipcelaaGreatDoorHO01
import Derived.Lib.Mul64
import Derived.Test.YtchpbdecipcelaaGreatDoorHO10
import Derived.Test.YtchpbdecipcelaaGreatDoorHO14
import Derived.Test.YtchpbdecipcelaaGreatDoorHO22
import Derived.Test.YtchpbdecipcelaaGreatDoorHO23
namespace Go.Proofs.YtchpbdecipcelaaGreatDoor
set_option linter.unusedVariables false
set_option linter.unusedSimpArgs false
set_option maxHeartbeats 4000000
set_option maxRecDepth 100000
open Go.RowKit
theorem zJq (l : List Change) (hmax : l.length ≤ 4611686018427387904) : FnA Tryz.prog 65 [lA 5 Change.av l] (.raw (.bool (decide (Lk.ValidP l)))) := Lk.validR_A l hmax
theorem zQ2 (l : List Change) (i : Iv) (h : l.length ≤ 4611686018427387904) : FnA Tryz.prog 66 [lA 5 Change.av l, .agg i.av] (.tup [.agg (Lk.linkBoundsM l i).1.av, .raw (.int .i64 (Lk.linkBoundsM l i).2)]) := by
 rw [← Lk.refBounds_eq]
 exact Lk.boundsR_A l i h
theorem zXw {n : Int} : n.fdiv (2 ^ min (Int.toNat 32) 64) = n / 4294967296 := by
 rw [yLo _ (by decide)]
 rfl
theorem zUk {n : Int} (h : inK .u64 n) : zFv .and .u64 n 4294967295 = n % 4294967296 := by
 simp only [inK] at h
 obtain ⟨x, rfl⟩ := yM0 h.1
 have e : ((BitVec.ofInt 64 (x : Int) &&& BitVec.ofInt 64 4294967295).toNat : Int) = (x % 4294967296 : Nat) := by
  rw [BitVec.toNat_and, BitVec.toNat_ofInt, BitVec.toNat_ofInt]
  have e1 : ((x : Int) % ((2 ^ 64 : Nat) : Int)).toNat = x := by omega
  have e2 : ((4294967295 : Int) % ((2 ^ 64 : Nat) : Int)).toNat = 2 ^ 32 - 1 := by decide
  rw [e1, e2, Nat.and_two_pow_sub_one_eq_mod]
 show IntKind.u64.wrap _ = _
 rw [show IntKind.u64.bits = 64 from rfl, e]
 rw [y8 (k := .u64) (by simp only [inK]; omega)]
 omega
theorem zEl (z : Int) : IntKind.u64.wrap z = z % 18446744073709551616 := rfl
theorem zYo (x y : Int) (hx : inK .u64 x) (hy : inK .u64 y) : FnA Tryz.prog 255 [.raw (.int .u64 x), .raw (.int .u64 y)] (.tup [.raw (.int .u64 (x * y / 18446744073709551616)), .raw (.int .u64 (x * y % 18446744073709551616))]) := by
 have ax := zUk hx
 have ay := zUk hy
 refine en Tryz.func255 Tryz.ntmps255 [.tmp 4, .tmp 5] rfl ?_
 repeat' first
  | refine wkg trivial ?_
  | (refine cS (fun hb => ?_) fun hb => ?_ <;> try (cases hb; done))
  | refine sM fun K hK => ?_
  | fail
 refine rq ?_ ?_
 ·simp only [inK] at hx hy
  obtain ⟨x, rfl⟩ := yM0 hx.1
  obtain ⟨y, rfl⟩ := yM0 hy.1
  simp only [AV.tup.injEq, List.cons.injEq, AV.raw.injEq, Value.int.injEq, yIw, yKn, zXw, ax, ay]
  have e1 : (x : Int) / 4294967296 = ((x / 4294967296 : Nat) : Int) := by omega
  have e2 : (y : Int) / 4294967296 = ((y / 4294967296 : Nat) : Int) := by omega
  have e3 : (x : Int) % 4294967296 = ((x % 4294967296 : Nat) : Int) := by omega
  have e4 : (y : Int) % 4294967296 = ((y % 4294967296 : Nat) : Int) := by omega
  obtain ⟨m1, m2, m3, m4⟩ := Lib.mul64_hi x y (by omega) (by omega)
  have m5 := Lib.half_mul_le (a := x / 4294967296) (b := y / 4294967296) (by omega) (by omega)
  have m6 := Lib.half_mul_le (a := x / 4294967296) (b := y % 4294967296) (by omega) (by omega)
  have m7 := Lib.half_mul_le (a := x % 4294967296) (b := y / 4294967296) (by omega) (by omega)
  have m8 : x * y / 18446744073709551616 < 18446744073709551616 := Nat.div_lt_of_lt_mul (Nat.mul_lt_mul'' (by omega) (by omega))
  rw [e1, e2, e3, e4]
  simp only [← yLn]
  rw [← m4] at m8
  have e5 : (((x * y : Nat) : Int) / 18446744073709551616) = ((x * y / 18446744073709551616 : Nat) : Int) := by omega
  rw [e5, ← m4]
  generalize x * y = p at *
  generalize x / 4294967296 * (y / 4294967296) = a at *
  generalize x / 4294967296 * (y % 4294967296) = b at *
  generalize x % 4294967296 * (y / 4294967296) = c at *
  generalize x % 4294967296 * (y % 4294967296) = d at *
  simp only [zEl]
  have k1 : (a : Int) % 18446744073709551616 = a := by omega
  have k2 : (b : Int) % 18446744073709551616 = b := by omega
  have k3 : (c : Int) % 18446744073709551616 = c := by omega
  have k4 : (d : Int) % 18446744073709551616 = d := by omega
  simp only [k1, k2, k3, k4]
  obtain ⟨t, ht⟩ : ∃ t : Nat, t = b + d / 4294967296 := ⟨_, rfl⟩
  have k5 : ((b : Int) + (d : Int) / 4294967296) % 18446744073709551616 = (t : Int) := by omega
  rw [← ht] at m2 m3 m4 m8 ⊢
  simp only [k5]
  have k6 : zFv .and .u64 (t : Int) 4294967295 = (t : Int) % 4294967296 := zUk (by simp only [inK]; omega)
  rw [k6]
  exact ⟨by omega, trivial⟩
 ·simp [AV.free, AV.freeL]
theorem zZk (lo y : Int) (hlo : inK .u64 lo) (hy : 0 < y ∧ y < 18446744073709551616) : FnA Tryz.prog 256 [.raw (.int .u64 0), .raw (.int .u64 lo), .raw (.int .u64 y)] (.tup [.raw (.int .u64 (lo / y)), .raw (.int .u64 (lo % y))]) := by
 simp only [inK] at hlo
 refine en Tryz.func256 Tryz.ntmps256 [.tmp 6, .tmp 7] rfl ?_
 repeat' first
  | refine wkg trivial ?_
  | (refine cS (fun hb => ?_) fun hb => ?_ <;> try (cases hb; done))
  | refine sM fun K hK => ?_
  | fail
 ·exfalso; omega
 ·exfalso; omega
 ·refine rq ?_ ?_
  ·rw [yLy hlo.1, yLs hlo.1]
  ·simp [AV.free, AV.freeL]
structure wX where
 whole : Int
 left : Int
 d : Int
 negative : Bool
 deriving Inhabited, DecidableEq
@[go_sem] def wX.av (x : wX) : List AV := [.raw (.int .u64 x.whole), .raw (.int .u64 x.left), .raw (.int .u64 x.d), .raw (.bool x.negative)]
@[simp] theorem wX.free (x : wX) : AV.freeL x.av := ⟨trivial, trivial, trivial, trivial, trivial⟩
theorem zO2 (n : Int) : FnA Tryz.prog 238 [.raw (.int .i64 n)] (.raw (.bool (decide (-3000000000000000 ≤ n) && decide (n ≤ 3000000000000000)))) := by
 refine en Tryz.func238 Tryz.ntmps238 [.tmp 2] rfl ?_
 repeat' first
  | refine wkg trivial ?_
  | (refine cS (fun hb => ?_) fun hb => ?_ <;> try (cases hb; done))
  | refine sM fun K hK => ?_
  | fail
 all_goals exact fA
def zMm (q : wX) : Bool := !q.negative && decide (0 < q.left)
def zDq (q : wX) : Bool := q.negative && decide (0 < q.left)
theorem zW8 (q : wX) : FnA Tryz.prog 203 [.agg q.av] (.raw (.bool (zDq q))) := by
 refine en Tryz.func203 Tryz.ntmps203 [.tmp 2] rfl ?_
 repeat' first
  | refine wkg trivial ?_
  | (refine cS (fun hb => ?_) fun hb => ?_ <;> try (cases hb; done))
  | refine sM fun K hK => ?_
  | fail
 all_goals (try (refine zR (by simp) ⟨_, _, _, evl, ob0, zV.sims ?_ fre⟩))
 all_goals first | exact z6.refl _ | (refine z6.of_eq ?_; first | rfl | (simp [zDq]; done) | (simp_all [zDq]; done) | (simp_all [zDq]; omega) | (simp [zDq]; grind) | (split <;> simp_all)) | exact yU | (refine z6.tup ?_; simp only [z8, yKn]; (repeat' apply And.intro) <;> first | exact yU | skip) | (exfalso; first | omega | (simp_all; done) | (simp_all; omega)) | skip
theorem zZs (q : wX) : FnA Tryz.prog 204 [.agg q.av] (.raw (.bool (zMm q))) := by
 refine en Tryz.func204 Tryz.ntmps204 [.tmp 2] rfl ?_
 repeat' first
  | refine wkg trivial ?_
  | (refine cS (fun hb => ?_) fun hb => ?_ <;> try (cases hb; done))
  | refine sM fun K hK => ?_
  | fail
 all_goals (try (refine zR (by simp) ⟨_, _, _, evl, ob0, zV.sims ?_ fre⟩))
 all_goals first | exact z6.refl _ | (refine z6.of_eq ?_; first | rfl | (simp [zMm]; done) | (simp_all [zMm]; done) | (simp_all [zMm]; omega) | (simp [zMm]; grind) | (split <;> simp_all)) | exact yU | (refine z6.tup ?_; simp only [z8, yKn]; (repeat' apply And.intro) <;> first | exact yU | skip) | (exfalso; first | omega | (simp_all; done) | (simp_all; omega)) | skip
def jP (p d : Int) : Int := p / d + if 0 < p % d then 1 else 0
theorem zS1 {P q : Nat} (hP : 1 < P) (hq : 4 ^ q % P = 1) (x : Nat) : 4 ^ x % P = 4 ^ (x % q) % P := by
 have h1 : 4 ^ x = 4 ^ (x % q) * (4 ^ q) ^ (x / q) := by
  rw [← Nat.pow_mul, ← Nat.pow_add]; congr 1; rw [Nat.mod_add_div]
 rw [h1, yLp, Nat.pow_mod (4 ^ q), hq, Nat.one_pow, yJx hP, yJq, Nat.mod_mod]
theorem zZx {P q once key c : Nat} (hP : 1 < P) (hq : 4 ^ q % P = 1) (hc : c ≤ q) (ho : once < q) : 4 ^ ((once + c * key) % q) % P * ((4 ^ key % P) ^ (q - c) % P) % P = 4 ^ once % P := by
 have e1 : (4 ^ key % P) ^ (q - c) % P = 4 ^ (key * (q - c)) % P := by rw [← Nat.pow_mod, ← Nat.pow_mul]
 have e2 : once + c * key + key * (q - c) = once + q * key := by
  have h1 : key * (q - c) = key * q - key * c := Nat.mul_sub key q c
  have h2 : key * c ≤ key * q := Nat.mul_le_mul_left _ hc
  rw [h1, yL0 c key, yL0 q key]
  omega
 rw [← zS1 hP hq (once + c * key), e1, ← yLp, ← Nat.pow_add, zS1 hP hq, e2, Nat.add_mul_mod_self_left, yJx ho]
theorem zTc : 4 ^ 1073741789 % 2147483579 = 1 := (qC 4 1073741789 (by omega)).symm.trans (by decide +kernel)
theorem zBy {key once : Int} {m : List Int} (hk : zU key 1 = true) (ho : zU once 1 = true) : qB key once m = (⟨qY (wD 4 once.toNat) (wD 4 key.toNat) m, (once + qY (wD 4 once.toNat) (wD 4 key.toNat) m * key).tmod 1073741789⟩, 0) := by
 unfold qB; rw [hk, ho]; rfl
theorem zB1 {key once : Int} {m : List Int} (hk : zU key 1 = true) (ho : zU once 1 = true) : zU (qB key once m).1.c 0 = true ∧ zU (qB key once m).1.s 0 = true := by
 rw [zBy hk ho]
 rw [yL] at hk ho
 have hc := wL (wD 4 once.toNat) (wD 4 key.toNat) m
 rw [yL, yL]
 dsimp only
 generalize qY (wD 4 once.toNat) (wD 4 key.toNat) m = c at *
 have := mulQ hc (show 0 ≤ key ∧ key < 1073741789 by omega)
 generalize c * key = z at *
 rw [yLs (by omega)]
 omega
theorem zUb {key once : Int} {m : List Int} (hk : zU key 1 = true) (ho : zU once 1 = true) : jS (wD 4 key.toNat) (qB key once m).1 = wD 4 once.toNat := by
 rw [zBy hk ho]
 rw [yL] at hk ho
 have hc := wL (wD 4 once.toNat) (wD 4 key.toNat) m
 generalize qY (wD 4 once.toNat) (wD 4 key.toNat) m = c at *
 obtain ⟨c, rfl⟩ := yM0 hc.1
 obtain ⟨k, rfl⟩ := yM0 (show 0 ≤ key by omega)
 obtain ⟨o, rfl⟩ := yM0 (show 0 ≤ once by omega)
 have e1 : (((o : Int) + (c : Int) * (k : Int)).tmod 1073741789).toNat = (o + c * k) % 1073741789 := by
  rw [← yLn, ← Int.natCast_add]
  rfl
 have e2 : ((1073741789 : Int) - (c : Int)).toNat = 1073741789 - c := by omega
 unfold jS
 simp only [yJs]
 rw [e1, e2, qC 4 _ (by omega), qC 4 k (by omega), qC _ (1073741789 - c) (by omega), qC 4 o (by omega)]
 rw [zZx (P := 2147483579) (q := 1073741789) (by omega) zTc (by omega) (by omega)]
theorem zLf {key once : Int} {m : List Int} (hk : zU key 1 = true) (ho : zU once 1 = true) (hm : xQ (wD 4 key.toNat) = true) : yW (wD 4 key.toNat) (qB key once m).1 m = (true, 0) := by
 have hr := zB1 (m := m) hk ho
 have hb := zUb (m := m) hk ho
 rw [yW, hm, hr.1, hr.2, hb, zBy hk ho]
 simp
theorem zYc {P q : Nat} (k : Nat) (hP : 1 < P) (hq : 4 ^ q % P = 1) (h0 : q ≠ 0) : (4 ^ k % P) ^ q % P = 1 ∧ 4 ^ k % P ≠ 0 := by
 have h1 : (4 ^ k % P) ^ q % P = 1 := by
  rw [← Nat.pow_mod, ← Nat.pow_mul, yL0, Nat.pow_mul, Nat.pow_mod, hq, Nat.one_pow, yJx hP]
 refine ⟨h1, fun h => ?_⟩
 rw [h, Nat.zero_pow (Nat.pos_of_ne_zero h0), Nat.zero_mod] at h1
 cases h1
theorem zPz {k : Nat} (h : k < 18446744073709551616) : xQ (wD 4 k) = true := by
 have hl := zD7 4 k h
 have e := qC 4 k h
 have h1 := zYc (P := 2147483579) (q := 1073741789) k (by omega) zTc (by omega)
 rw [← e] at h1
 obtain ⟨h1, h2⟩ := h1
 have h3 : wD (wD 4 k) 1073741789 = 1 := (qC (wD 4 k) 1073741789 (by decide)).trans h1
 clear h1 e
 rw [zB9]
 generalize wD 4 k = a at *
 exact ⟨by omega, by omega, by rw [yJs, h3]⟩
end Go.Proofs.YtchpbdecipcelaaGreatDoor
