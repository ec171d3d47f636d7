/- What is signed is right. -/
import Derived.Test.YtihnjbnlbedpaaaGreatDoorGrr
namespace Go.Proofs.YtihnjbnlbedpaaaGreatDoor
set_option linter.unusedVariables false
set_option linter.unusedSimpArgs false
set_option maxHeartbeats 4000000
set_option maxRecDepth 100000
open Go.RowKit
theorem pow_red {P q : Nat} (hP : 1 < P) (hq : 4 ^ q % P = 1) (x : Nat) : 4 ^ x % P = 4 ^ (x % q) % P := by
  have h1 : 4 ^ x = 4 ^ (x % q) * (4 ^ q) ^ (x / q) := by
    rw [← Nat.pow_mul, ← Nat.pow_add]; congr 1; rw [Nat.mod_add_div]
  rw [h1, Nat.mul_mod, Nat.pow_mod (4 ^ q), hq, Nat.one_pow, Nat.mod_eq_of_lt hP, Nat.mul_one, Nat.mod_mod]
theorem back_id {P q once key c : Nat} (hP : 1 < P) (hq : 4 ^ q % P = 1) (hc : c ≤ q) (ho : once < q) : 4 ^ ((once + c * key) % q) % P * ((4 ^ key % P) ^ (q - c) % P) % P = 4 ^ once % P := by
  have e1 : (4 ^ key % P) ^ (q - c) % P = 4 ^ (key * (q - c)) % P := by rw [← Nat.pow_mod, ← Nat.pow_mul]
  have e2 : once + c * key + key * (q - c) = once + q * key := by
    have h1 : key * (q - c) = key * q - key * c := Nat.mul_sub key q c
    have h2 : key * c ≤ key * q := Nat.mul_le_mul_left _ hc
    rw [h1, Nat.mul_comm c key, Nat.mul_comm q key]
    omega
  rw [← pow_red hP hq (once + c * key), e1, ← Nat.mul_mod, ← Nat.pow_add, pow_red hP hq, e2, Nat.add_mul_mod_self_left, Nat.mod_eq_of_lt ho]
theorem gen_one : 4 ^ 1073741789 % 2147483579 = 1 := (powM_eq 4 1073741789 (by omega)).symm.trans (by decide +kernel)
theorem signM_pos {key once : Int} {m : List Int} (hk : withinM key 1 = true) (ho : withinM once 1 = true) : signM key once m = (⟨chalM (powM 4 once.toNat) (powM 4 key.toNat) m, (once + chalM (powM 4 once.toNat) (powM 4 key.toNat) m * key).tmod 1073741789⟩, 0) := by
  unfold signM; rw [hk, ho]; rfl
theorem signM_range {key once : Int} {m : List Int} (hk : withinM key 1 = true) (ho : withinM once 1 = true) : withinM (signM key once m).1.c 0 = true ∧ withinM (signM key once m).1.s 0 = true := by
  rw [signM_pos hk ho]
  rw [withinM_iff] at hk ho
  have hc := chalM_range (powM 4 once.toNat) (powM 4 key.toNat) m
  rw [withinM_iff, withinM_iff]
  dsimp only
  generalize chalM (powM 4 once.toNat) (powM 4 key.toNat) m = c at *
  have := mulQ hc (show 0 ≤ key ∧ key < 1073741789 by omega)
  generalize c * key = z at *
  rw [Int.tmod_eq_emod_of_nonneg (by omega)]
  omega
theorem back_sign {key once : Int} {m : List Int} (hk : withinM key 1 = true) (ho : withinM once 1 = true) : backM (powM 4 key.toNat) (signM key once m).1 = powM 4 once.toNat := by
  rw [signM_pos hk ho]
  rw [withinM_iff] at hk ho
  have hc := chalM_range (powM 4 once.toNat) (powM 4 key.toNat) m
  generalize chalM (powM 4 once.toNat) (powM 4 key.toNat) m = c at *
  obtain ⟨c, rfl⟩ := Int.eq_ofNat_of_zero_le hc.1
  obtain ⟨k, rfl⟩ := Int.eq_ofNat_of_zero_le (show 0 ≤ key by omega)
  obtain ⟨o, rfl⟩ := Int.eq_ofNat_of_zero_le (show 0 ≤ once by omega)
  have e1 : (((o : Int) + (c : Int) * (k : Int)).tmod 1073741789).toNat = (o + c * k) % 1073741789 := by
    rw [← Int.natCast_mul, ← Int.natCast_add]
    rfl
  have e2 : ((1073741789 : Int) - (c : Int)).toNat = 1073741789 - c := by omega
  unfold backM
  simp only [Int.toNat_natCast]
  rw [e1, e2, powM_eq 4 _ (by omega), powM_eq 4 k (by omega), powM_eq _ (1073741789 - c) (by omega), powM_eq 4 o (by omega)]
  rw [back_id (P := 2147483579) (q := 1073741789) (by omega) gen_one (by omega) (by omega)]
theorem sign_verify {key once : Int} {m : List Int} (hk : withinM key 1 = true) (ho : withinM once 1 = true) (hm : memberM (powM 4 key.toNat) = true) : verifyM (powM 4 key.toNat) (signM key once m).1 m = (true, 0) := by
  have hr := signM_range (m := m) hk ho
  have hb := back_sign (m := m) hk ho
  rw [verifyM, hm, hr.1, hr.2, hb, signM_pos hk ho]
  simp
theorem pow_mem {P q : Nat} (k : Nat) (hP : 1 < P) (hq : 4 ^ q % P = 1) (h0 : q ≠ 0) : (4 ^ k % P) ^ q % P = 1 ∧ 4 ^ k % P ≠ 0 := by
  have h1 : (4 ^ k % P) ^ q % P = 1 := by
    rw [← Nat.pow_mod, ← Nat.pow_mul, Nat.mul_comm, Nat.pow_mul, Nat.pow_mod, hq, Nat.one_pow, Nat.mod_eq_of_lt hP]
  refine ⟨h1, fun h => ?_⟩
  rw [h, Nat.zero_pow (Nat.pos_of_ne_zero h0), Nat.zero_mod] at h1
  cases h1
/-- A power of the generator is a member. -/
theorem member_pow {k : Nat} (h : k < 18446744073709551616) : memberM (powM 4 k) = true := by
  have hl := powM_lt 4 k h
  have e := powM_eq 4 k h
  have h1 := pow_mem (P := 2147483579) (q := 1073741789) k (by omega) gen_one (by omega)
  rw [← e] at h1
  obtain ⟨h1, h2⟩ := h1
  have h3 : powM (powM 4 k) 1073741789 = 1 := (powM_eq (powM 4 k) 1073741789 (by decide)).trans h1
  clear h1 e
  rw [memberM_iff]
  generalize powM 4 k = a at *
  exact ⟨by omega, by omega, by rw [Int.toNat_natCast, h3]⟩
end Go.Proofs.YtihnjbnlbedpaaaGreatDoor
