import Derived.Test.YtchpbdecipcelaaGreatDoorHO01
import Derived.Test.YtchpbdecipcelaaGreatDoorHO06
import Derived.Test.YtchpbdecipcelaaGreatDoorHO11
namespace Go.Proofs.YtchpbdecipcelaaGreatDoor
set_option linter.unusedVariables false
set_option linter.unusedSimpArgs false
set_option maxHeartbeats 4000000
set_option maxRecDepth 100000
open Go.RowKit
theorem zXp (n b : Int) (h : -9223372036854775808 ≤ n * b ∧ n * b ≤ 9223372036854775807) : FnG Tryz.prog 242 [.box 0 0, .raw (.int .i64 b)] [[.raw (.int .i64 n)]] [] (.tup []) [[.raw (.int .i64 ((n * b).tmod 2147483579))]] [] := by
 refine enG Tryz.func242 Tryz.ntmps242 [] 1 rfl ?_
 try (refine wg ?_; try refine sM fun K hK => ?_)
 all_goals (refine yE (by simp) ⟨_, _, _, evl, obq, jB.bel ?_ obb, by simp, ?_, rfl, obb, obb⟩)
 all_goals first | rfl | (simp []; done) | (simp_all []; done) | (simp_all []; omega) | (simp []; grind) | (split <;> simp_all) | skip
theorem mulP (n b : Nat) (hn : n < 2147483579) (hb : b < 2147483579) : n * b < 4611686018427387904 := by
 have h1 : n * b ≤ 2147483578 * b := yJg _ (by omega)
 omega
theorem zL9 (n b : Nat) (hn : n < 2147483579) (hb : b < 2147483579) : FnG Tryz.prog 242 [.box 0 0, .raw (.int .i64 b)] [[.raw (.int .i64 n)]] [] (.tup []) [[.raw (.int .i64 ((n * b % 2147483579 : Nat) : Int))]] [] := by
 have h := zXp n b (by have := mulP n b hn hb; rw [← yLn]; omega)
 rwa [show ((n : Int) * b).tmod 2147483579 = ((n * b % 2147483579 : Nat) : Int) from by rw [← yLn]; rfl] at h
theorem and1 (x : Nat) (h : x < 9223372036854775808) : zFv .and .i64 (x : Int) 1 = ((x % 2 : Nat) : Int) := by
 have h1 : (BitVec.ofInt 64 (x : Int) &&& BitVec.ofInt 64 1).toNat = x % 2 := by
  rw [BitVec.toNat_and, show (BitVec.ofInt 64 (1 : Int)).toNat = 1 from rfl, Nat.and_one_is_mod, BitVec.ofInt_natCast, BitVec.toNat_ofNat]
  omega
 show IntKind.i64.wrap (((BitVec.ofInt 64 (x : Int) &&& BitVec.ofInt 64 1).toNat : Nat) : Int) = _
 rw [h1, y8]
 simp only [inK]
 omega
@[simp] theorem shr1 (x : Nat) : (x : Int).fdiv 2 = ((x / 2 : Nat) : Int) := by
 rw [yLo _ (by omega)]
 rfl
theorem zYb (a x : Nat) (ha : a < 2147483579) (hx : x < 9223372036854775808) : FnA Tryz.prog 221 [.raw (.int .i64 a), .raw (.int .i64 x)] (.raw (.int .i64 ((a ^ x % 2147483579 : Nat) : Int))) := by
 refine en Tryz.func221 Tryz.ntmps221 [.tmp 4] rfl ?_
 try (refine wg ?_; try refine sM fun K hK => ?_)
 refine zJ (fun s : Nat × Nat × Nat => ⟨21, 0, [(1, true, .raw (.int .i64 s.2.1)), (2, true, .box 0 0), (5, true, .box 1 0), (6, true, .raw (.func (.func 242) #[] #[]))], [[.raw (.int .i64 s.1)], [.raw (.int .i64 s.2.2)]], [], ((0, []), [], true)⟩)
   (fun s => s.1 < 2147483579 ∧ s.2.1 < 9223372036854775808 ∧ s.2.2 < 2147483579 ∧ s.2.2 * s.1 ^ s.2.1 % 2147483579 = a ^ x % 2147483579) (fun s => s.2.1) (a, x, 1) ?_ ⟨ha, hx, by simp, by simp⟩ ?_
 ·refine xJ.sl ?_
  (try simp only [vX, zL, ↓reduceIte, Nat.reduceEqDiff, yKn, yIw, yIg, yIv, AV.raw.injEq, Value.int.injEq, Value.bool.injEq])
  all_goals ((repeat' apply And.intro) <;> first | rfl | omega | (simp; done))
 ·rintro ⟨b, y, o⟩ ⟨h1, h2, h3, h4⟩
  dsimp only at h1 h2 h3 h4 ⊢
  have hy2 : b ^ y = b ^ (y % 2) * (b * b) ^ (y / 2) := by
   rw [← Nat.pow_two, ← Nat.pow_mul, ← Nat.pow_add]; congr 1; omega
  have hm := mulP o b h3 h1
  try (refine wg ?_; try refine sM fun K hK => ?_)
  refine zA ⟨_, evl, ?_, ?_⟩
  ·intro hb
   simp only [yJm] at hb
   try (refine wg ?_; try refine sM fun K hK => ?_)
   refine zA ⟨_, evl, ?_, ?_⟩
   ·intro hc
    rw [and1 y h2] at hc
    simp only [yJm] at hc
    try (first | refine wkM hK trivial ?_ | refine wkg trivial ?_)
    try clear hK K
    try refine sM fun K hK => ?_
    refine xV [1] [] (zL9 o b h3 h1) rfl rfl rfl ⟨_, evl, _, evl, _, evl, by simp, by decide, by decide, hlT, hlT, (by first | (simp [AV.subL, AV.sub]; done) | (simp only [yKi, yKj, yKk, yKl, yKn, yIw, AV.subL, AV.sub, yIz, yK8, yJa, Nat.reduceAdd]; (repeat' apply And.intro) <;> first | trivial | omega | (simp; done) | (refine AV.sub_free _ _ _ ?_; exact zE (fun _ => by simp) _) | (refine AV.subL_free _ _ _ ?_; simp; done) | (intro r hr; cases hr; done))), _, evl, _, evl, _, evl, ?_⟩
    try (first | refine wkM hK trivial ?_ | refine wkg trivial ?_)
    try clear hK K
    try refine sM fun K hK => ?_
    refine xV [0] [] (zL9 b b h1 h1) rfl rfl rfl ⟨_, evl, _, evl, _, evl, by simp, by decide, by decide, hlT, hlT, (by first | (simp [AV.subL, AV.sub]; done) | (simp only [yKi, yKj, yKk, yKl, yKn, yIw, AV.subL, AV.sub, yIz, yK8, yJa, Nat.reduceAdd]; (repeat' apply And.intro) <;> first | trivial | omega | (simp; done) | (refine AV.sub_free _ _ _ ?_; exact zE (fun _ => by simp) _) | (refine AV.subL_free _ _ _ ?_; simp; done) | (intro r hr; cases hr; done))), _, evl, _, evl, _, evl, ?_⟩
    try (first | refine wkM hK trivial ?_ | refine wkg trivial ?_)
    try clear hK K
    try refine sM fun K hK => ?_
    refine ⟨(b * b % 2147483579, y / 2, o * b % 2147483579), ⟨yJz _ (by omega), by show y / 2 < _; omega, yJz _ (by omega), ?_⟩, by show y / 2 < y; omega, ?_⟩
    ·rw [← h4, hy2, show y % 2 = 1 from by omega]
     show o * b % 2147483579 * (b * b % 2147483579) ^ (y / 2) % 2147483579 = _
     rw [Nat.pow_one, ← Nat.mul_assoc, yLp, Nat.mod_mod, ← Nat.pow_mod, ← yLp]
    ·skip
     refine xJ.mk rfl ?_ ?_
     rotate_left
     ·simp [zKw, jY, AV.bel, AV.belL, go_sem]
     (try simp only [vX, zL, ↓reduceIte, Nat.reduceEqDiff, yKn, yIw, yIg, yIv, AV.raw.injEq, Value.int.injEq, Value.bool.injEq])
     all_goals ((repeat' apply And.intro) <;> first | rfl | omega | (simp; done))
   ·intro hc
    rw [and1 y h2] at hc
    simp only [yKu] at hc
    try (first | refine wkM hK trivial ?_ | refine wkg trivial ?_)
    try clear hK K
    try refine sM fun K hK => ?_
    refine xV [0] [] (zL9 b b h1 h1) rfl rfl rfl ⟨_, evl, _, evl, _, evl, by simp, by decide, by decide, hlT, hlT, (by first | (simp [AV.subL, AV.sub]; done) | (simp only [yKi, yKj, yKk, yKl, yKn, yIw, AV.subL, AV.sub, yIz, yK8, yJa, Nat.reduceAdd]; (repeat' apply And.intro) <;> first | trivial | omega | (simp; done) | (refine AV.sub_free _ _ _ ?_; exact zE (fun _ => by simp) _) | (refine AV.subL_free _ _ _ ?_; simp; done) | (intro r hr; cases hr; done))), _, evl, _, evl, _, evl, ?_⟩
    try (first | refine wkM hK trivial ?_ | refine wkg trivial ?_)
    try clear hK K
    try refine sM fun K hK => ?_
    refine ⟨(b * b % 2147483579, y / 2, o), ⟨yJz _ (by omega), by show y / 2 < _; omega, h3, ?_⟩, by show y / 2 < y; omega, ?_⟩
    ·rw [← h4, hy2, show y % 2 = 0 from by omega]
     show o * (b * b % 2147483579) ^ (y / 2) % 2147483579 = _
     rw [Nat.pow_zero, Nat.one_mul, yLp, ← Nat.pow_mod, ← yLp]
    ·skip
     refine xJ.mk rfl ?_ ?_
     rotate_left
     ·simp [zKw, jY, AV.bel, AV.belL, go_sem]
     (try simp only [vX, zL, ↓reduceIte, Nat.reduceEqDiff, yKn, yIw, yIg, yIv, AV.raw.injEq, Value.int.injEq, Value.bool.injEq])
     all_goals ((repeat' apply And.intro) <;> first | rfl | omega | (simp; done))
  ·intro hb
   simp only [yKu] at hb
   try (refine wg ?_; try refine sM fun K hK => ?_)
   refine rq ?_ ?_
   ·rw [← h4, show y = 0 from by omega, Nat.pow_zero, yJq, yJx h3]
   ·simp [AV.free]
def yAw : Nat → Nat → Nat → Nat → Nat
 | 0, _, _, o => o
 | f + 1, a, x, o => if x = 0 then o else yAw f (a * a % 2147483579) (x / 2) (if x % 2 = 1 then o * a % 2147483579 else o)
def wD (a x : Nat) : Nat := yAw 64 (a % 2147483579) x 1
theorem zLq : ∀ (f a x o : Nat), x < 2 ^ f → o < 2147483579 → yAw f a x o = o * a ^ x % 2147483579
 | 0, a, x, o, h, ho => by
  have : x = 0 := by simpa using h
  subst this
  simp [yAw, yJx ho]
 | f + 1, a, x, o, h, ho => by
  unfold yAw
  split
  ·rename_i h0; subst h0; simp [yJx ho]
  ·have hx : x / 2 < 2 ^ f := by rw [Nat.pow_succ] at h; omega
   have hy2 : a ^ x = a ^ (x % 2) * (a * a) ^ (x / 2) := by
    rw [← Nat.pow_two, ← Nat.pow_mul, ← Nat.pow_add]; congr 1; omega
   split
   ·rename_i h1
    rw [zLq f _ _ _ hx (yJz _ (by omega)), hy2, h1, Nat.pow_one, ← Nat.mul_assoc, yLp, Nat.mod_mod, ← Nat.pow_mod, ← yLp]
   ·rename_i h1
    rw [zLq f _ _ _ hx ho, hy2, show x % 2 = 0 from by omega, Nat.pow_zero, Nat.one_mul, yLp, ← Nat.pow_mod, ← yLp]
theorem qC (a x : Nat) (h : x < 18446744073709551616) : wD a x = a ^ x % 2147483579 := by
 rw [wD, zLq _ _ _ _ (by simpa using h) (by omega), Nat.one_mul, ← Nat.pow_mod]
theorem zD7 (a x : Nat) (h : x < 18446744073709551616) : wD a x < 2147483579 := by rw [qC a x h]; exact yJz _ (by omega)
theorem zJe (a x : Int) (ha : 0 ≤ a ∧ a < 2147483579) (hx : 0 ≤ x ∧ x < 9223372036854775808) : FnA Tryz.prog 221 [.raw (.int .i64 a), .raw (.int .i64 x)] (.raw (.int .i64 (wD a.toNat x.toNat))) := by
 have h := zYb a.toNat x.toNat (by omega) (by omega)
 rw [← qC _ _ (by omega)] at h
 rwa [Int.toNat_of_nonneg ha.1, Int.toNat_of_nonneg hx.1] at h
def zU (x low : Int) : Bool := decide (low ≤ x) && decide (x < 1073741789)
theorem zE6 (x low : Int) : FnA Tryz.prog 236 [.raw (.int .i64 x), .raw (.int .i64 low)] (.raw (.bool (zU x low))) := by
 refine en Tryz.func236 Tryz.ntmps236 [.tmp 4] rfl ?_
 repeat' first
  | refine wkg trivial ?_
  | (refine cS (fun hb => ?_) fun hb => ?_ <;> try (cases hb; done))
  | refine sM fun K hK => ?_
  | fail
 all_goals (try (refine zR (by simp) ⟨_, _, _, evl, ob0, zV.sims ?_ fre⟩))
 all_goals first | exact z6.refl _ | (refine z6.of_eq ?_; first | rfl | (simp [zU]; done) | (simp_all [zU]; done) | (simp_all [zU]; omega) | (simp [zU]; grind) | (split <;> simp_all)) | exact yU | (refine z6.tup ?_; simp only [z8, yKn]; (repeat' apply And.intro) <;> first | exact yU | skip) | (exfalso; first | omega | (simp_all; done) | (simp_all; omega)) | skip
def xQ (a : Int) : Bool := decide (0 < a) && decide (a < 2147483579) && decide ((wD a.toNat 1073741789 : Int) = 1)
theorem zEf (a : Int) : FnA Tryz.prog 174 [.raw (.int .i64 a)] (.raw (.bool (xQ a))) := by
 refine en Tryz.func174 Tryz.ntmps174 [.tmp 2] rfl ?_
 repeat'
  first
   | first
    | (refine zF (hK _ ?_); clear hK K)
    | refine stG ?_
    | (refine yH 1 rfl ?_; refine zN rfl rfl ⟨_, evl, _, _, _, evl, yR, ?_⟩; apply Exists.intro; refine ⟨fun hg => ?_, ?_⟩; · first | exact FnA.at_ (zJe a 1073741789 (by simp at hg; omega) (by omega)) rfl rfl | exact FnA.at_s (zJe a 1073741789 (by simp at hg; omega) (by omega)) rfl xB | exact FnA.at_s (zJe a 1073741789 (by simp at hg; omega) (by omega)) rfl xC)
    | (refine zS 1 rfl ?_; refine zP rfl ⟨_, evl, _, _, _, (fun _ _ => w7), yR, ?_⟩; apply Exists.intro; refine ⟨fun hg => ?_, ?_⟩; · first | exact FnA.at_ (zJe a 1073741789 (by simp at hg; omega) (by omega)) rfl rfl | exact FnA.at_s (zJe a 1073741789 (by simp at hg; omega) (by omega)) rfl xB | exact FnA.at_s (zJe a 1073741789 (by simp at hg; omega) (by omega)) rfl xC)
    | (refine zS 1 rfl ?_; refine zG ?_)
    | (refine z7 ?_; first | (refine zK (hK _ ?_); clear hK K) | (refine zT rfl ⟨_, evl, fun nb' => ?_⟩))
    | refine zD (fun K hK => ?_)
    | (refine xD ?_; first | (refine zC false rfl (by kernel_rfl) (by kernel_rfl) (fun K hK => ?_)) | (refine zC true rfl (by kernel_rfl) (by kernel_rfl) (fun K hK => ?_)))
    | (refine zA ⟨_, evl, fun hb => ?_, fun hb => ?_⟩ <;> (try simp only [yKt, yJl, yKw, yKv, yJn, yKs, yJd, yLj, yJm, yKu, yLk, yK3, ne_eq, yLl, yJc, yLm, yKg, yKh] at hb))
   | fail
 all_goals (try (refine zR (by simp) ⟨_, _, _, evl, ob0, zV.sims ?_ fre⟩))
 all_goals first | exact z6.refl _ | (refine z6.of_eq ?_; first | rfl | (simp [xQ]; done) | (simp_all [xQ]; done) | (simp_all [xQ]; omega) | rfl | (simp [xQ]; grind) | (split <;> simp_all)) | exact yU | (refine z6.tup ?_; simp only [z8, yKn]; (repeat' apply And.intro) <;> first | exact yU | skip) | (exfalso; first | omega | (simp_all; done) | (simp_all; omega)) | skip
theorem zB9 (a : Int) : xQ a = true ↔ 0 < a ∧ a < 2147483579 ∧ wD a.toNat 1073741789 = 1 := by
 simp [xQ]; omega
end Go.Proofs.YtchpbdecipcelaaGreatDoor
