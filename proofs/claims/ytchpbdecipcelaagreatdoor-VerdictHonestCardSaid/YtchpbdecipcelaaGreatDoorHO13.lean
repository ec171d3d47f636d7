import Derived.Test.YtchpbdecipcelaaGreatDoorHO01
import Derived.Test.YtchpbdecipcelaaGreatDoorHO12
namespace Go.Proofs.YtchpbdecipcelaaGreatDoor
set_option linter.unusedVariables false
set_option linter.unusedSimpArgs false
set_option maxHeartbeats 4000000
set_option maxRecDepth 100000
open Go.RowKit
theorem zVc (a x m : Nat) (hm : 1 < m) (hm2 : m < 2147483648) (ha : a < m) (hx : x < 9223372036854775808) : FnA Tryz.prog 110 [.raw (.int .i64 a), .raw (.int .i64 x), .raw (.int .i64 m)] (.raw (.int .i64 ((a ^ x % m : Nat) : Int))) := by
 have hmul : ∀ b c : Nat, b < m → c < m → b * c < 4611686018427387904 := fun b c hb hc => by
  have h1 : b * c ≤ 2147483647 * c := yJg _ (by omega)
  omega
 refine en Tryz.func110 Tryz.ntmps110 [.tmp 6] rfl ?_
 try (refine wg ?_; try refine sM fun K hK => ?_)
 refine zJ (fun s : Nat × Nat × Nat => ⟨26, 0, [(0, true, .raw (.int .i64 s.1)), (1, true, .raw (.int .i64 s.2.1)), (2, true, .raw (.int .i64 m)), (7, true, .raw (.int .i64 s.2.2))], [], [], ((0, []), [], true)⟩)
   (fun s => s.1 < m ∧ s.2.1 < 9223372036854775808 ∧ s.2.2 < m ∧ s.2.2 * s.1 ^ s.2.1 % m = a ^ x % m) (fun s => s.2.1) (a, x, 1) ?_ ⟨ha, hx, hm, by simp⟩ ?_
 ·exact wkZ
 ·rintro ⟨b, y, o⟩ ⟨h1, h2, h3, h4⟩
  dsimp only at h1 h2 h3 h4 ⊢
  have hy2 : b ^ y = b ^ (y % 2) * (b * b) ^ (y / 2) := by
   rw [← Nat.pow_two, ← Nat.pow_mul, ← Nat.pow_add]; congr 1; omega
  have e1 : (b : Int) * b = ((b * b : Nat) : Int) := by simp
  have e2 : (o : Int) * b = ((o * b : Nat) : Int) := by simp
  have k1 := hmul b b h1 h1
  have k2 := hmul o b h3 h1
  have e3 : ∀ c : Nat, (c : Int).tmod m = ((c % m : Nat) : Int) := fun c => rfl
  have e4 : (y : Int).tmod 2 = ((y % 2 : Nat) : Int) := rfl
  have e5 : (y : Int).tdiv 2 = ((y / 2 : Nat) : Int) := rfl
  try (refine wg ?_; try refine sM fun K hK => ?_)
  refine zA ⟨_, evl, ?_, ?_⟩
  ·intro hb
   simp only [yJm] at hb
   try (refine wg ?_; try refine sM fun K hK => ?_)
   refine zA ⟨_, evl, ?_, ?_⟩
   ·intro hc
    simp only [yJm, e4] at hc
    try (refine wg ?_; try refine sM fun K hK => ?_)
    refine ⟨(b * b % m, y / 2, o * b % m), ⟨yJz _ (by omega), by show y / 2 < _; omega, yJz _ (by omega), ?_⟩, by show y / 2 < y; omega, ?_⟩
    ·rw [← h4, hy2, show y % 2 = 1 from by omega]
     show o * b % m * (b * b % m) ^ (y / 2) % m = _
     rw [Nat.pow_one, ← Nat.mul_assoc, yLp, Nat.mod_mod, ← Nat.pow_mod, ← yLp]
    ·exact wkZ
   ·intro hc
    simp only [yKu, e4] at hc
    try (refine wg ?_; try refine sM fun K hK => ?_)
    refine ⟨(b * b % m, y / 2, o), ⟨yJz _ (by omega), by show y / 2 < _; omega, h3, ?_⟩, by show y / 2 < y; omega, ?_⟩
    ·rw [← h4, hy2, show y % 2 = 0 from by omega]
     show o * (b * b % m) ^ (y / 2) % m = _
     rw [Nat.pow_zero, Nat.one_mul, yLp, ← Nat.pow_mod, ← yLp]
    ·exact wkZ
  ·intro hb
   simp only [yKu] at hb
   try (refine wg ?_; try refine sM fun K hK => ?_)
   refine rq ?_ ?_
   ·rw [← h4, show y = 0 from by omega, Nat.pow_zero, yJq, yJx h3]
   ·simp [AV.free]
theorem vO (a x : Int) (ha : 0 ≤ a ∧ a < 2147483579) (hx : 0 ≤ x ∧ x < 9223372036854775808) : FnA Tryz.prog 110 [.raw (.int .i64 a), .raw (.int .i64 x), .raw (.int .i64 2147483579)] (.raw (.int .i64 (wD a.toNat x.toNat))) := by
 have h := zVc a.toNat x.toNat 2147483579 (by omega) (by omega) (by omega) (by omega)
 rw [← qC _ _ (by omega)] at h
 rwa [Int.toNat_of_nonneg ha.1, Int.toNat_of_nonneg hx.1] at h
theorem zF7 (a : Int) : FnA Tryz.prog 205 [.raw (.int .i64 a)] (.raw (.bool (xQ a))) := by
 refine en Tryz.func205 Tryz.ntmps205 [.tmp 2] rfl ?_
 repeat'
  first
   | first
    | (refine zF (hK _ ?_); clear hK K)
    | refine stG ?_
    | (refine yH 1 rfl ?_; refine zN rfl rfl ⟨_, evl, _, _, _, evl, yR, ?_⟩; apply Exists.intro; refine ⟨fun hg => ?_, ?_⟩; · first | exact FnA.at_ (vO a 1073741789 (by simp at hg; omega) (by omega)) rfl rfl | exact FnA.at_s (vO a 1073741789 (by simp at hg; omega) (by omega)) rfl xB | exact FnA.at_s (vO a 1073741789 (by simp at hg; omega) (by omega)) rfl xC)
    | (refine zS 1 rfl ?_; refine zP rfl ⟨_, evl, _, _, _, (fun _ _ => w7), yR, ?_⟩; apply Exists.intro; refine ⟨fun hg => ?_, ?_⟩; · first | exact FnA.at_ (vO a 1073741789 (by simp at hg; omega) (by omega)) rfl rfl | exact FnA.at_s (vO a 1073741789 (by simp at hg; omega) (by omega)) rfl xB | exact FnA.at_s (vO a 1073741789 (by simp at hg; omega) (by omega)) rfl xC)
    | (refine zS 1 rfl ?_; refine zG ?_)
    | (refine z7 ?_; first | (refine zK (hK _ ?_); clear hK K) | (refine zT rfl ⟨_, evl, fun nb' => ?_⟩))
    | refine zD (fun K hK => ?_)
    | (refine xD ?_; first | (refine zC false rfl (by kernel_rfl) (by kernel_rfl) (fun K hK => ?_)) | (refine zC true rfl (by kernel_rfl) (by kernel_rfl) (fun K hK => ?_)))
    | (refine zA ⟨_, evl, fun hb => ?_, fun hb => ?_⟩ <;> (try simp only [yKt, yJl, yKw, yKv, yJn, yKs, yJd, yLj, yJm, yKu, yLk, yK3, ne_eq, yLl, yJc, yLm, yKg, yKh] at hb))
   | fail
 all_goals (try (refine zR (by simp) ⟨_, _, _, evl, ob0, zV.sims ?_ fre⟩))
 all_goals first | exact z6.refl _ | (refine z6.of_eq ?_; first | rfl | (simp [xQ]; done) | (simp_all [xQ]; done) | (simp_all [xQ]; omega) | (simp [xQ]; omega) | (simp [xQ]; grind) | (split <;> simp_all)) | exact yU | (refine z6.tup ?_; simp only [z8, yKn]; (repeat' apply And.intro) <;> first | exact yU | skip) | (exfalso; first | omega | (simp_all; done) | (simp_all; omega)) | skip
theorem vD (x : Int) : FnA Tryz.prog 206 [.raw (.int .i64 x)] (.raw (.bool (zU x 0))) := by
 refine en Tryz.func206 Tryz.ntmps206 [.tmp 2] rfl ?_
 repeat' first
  | refine wkg trivial ?_
  | (refine cS (fun hb => ?_) fun hb => ?_ <;> try (cases hb; done))
  | refine sM fun K hK => ?_
  | fail
 all_goals (try (refine zR (by simp) ⟨_, _, _, evl, ob0, zV.sims ?_ fre⟩))
 all_goals first | exact z6.refl _ | (refine z6.of_eq ?_; first | rfl | (simp [zU]; done) | (simp_all [zU]; done) | (simp_all [zU]; omega) | (simp [zU]; grind) | (split <;> simp_all)) | exact yU | (refine z6.tup ?_; simp only [z8, yKn]; (repeat' apply And.intro) <;> first | exact yU | skip) | (exfalso; first | omega | (simp_all; done) | (simp_all; omega)) | skip
theorem zGx (x : Int) : FnA Tryz.prog 114 [.raw (.int .i64 x)] (.raw (.bool (zU x 1))) := by
 refine en Tryz.func114 Tryz.ntmps114 [.tmp 2] rfl ?_
 repeat' first
  | refine wkg trivial ?_
  | (refine cS (fun hb => ?_) fun hb => ?_ <;> try (cases hb; done))
  | refine sM fun K hK => ?_
  | fail
 all_goals (try (refine zR (by simp) ⟨_, _, _, evl, ob0, zV.sims ?_ fre⟩))
 all_goals first | exact z6.refl _ | (refine z6.of_eq ?_; first | rfl | (simp [zU]; done) | (simp_all [zU]; done) | (simp_all [zU]; omega) | (simp [zU]; grind) | (split <;> simp_all)) | exact yU | (refine z6.tup ?_; simp only [z8, yKn]; (repeat' apply And.intro) <;> first | exact yU | skip) | (exfalso; first | omega | (simp_all; done) | (simp_all; omega)) | skip
theorem zEr (l : List UInt8) (hl : l.length ≤ 1000000000) : FnA Tryz.prog 163 [byA l] (.raw (.int .u64 (zUs l))) := by
 unfold byA lA
 refine en Tryz.func163 Tryz.ntmps163 [.tmp 2] rfl ?_
 try (refine wg ?_; try refine sM fun K hK => ?_)
 refine zJ (fun k : Nat => ⟨20, 0, [(3, true, .raw (.int .u64 (fnv (fun q => ((l.getD q 0).toNat : Int)) k))), (0, true, .lst 1 l.length (els u8C l)), (4, true, .raw (.int .i64 k))], [], [], ((0, []), [], true)⟩)
  (fun k => k ≤ l.length) (fun k => l.length - k) 0 ?_ (by omega) ?_
 ·exact wkZ
 ·rintro k hk
  try (refine wg ?_; try refine sM fun K hK => ?_)
  refine zA ⟨_, evl, ?_, ?_⟩
  ·intro hlt
   simp only [yJm] at hlt
   try (refine wg ?_; try refine sM fun K hK => ?_)
   refine ⟨k + 1, by omega, by omega, ?_⟩
   ·exact wkZ
  ·intro hge
   simp only [yKu] at hge
   try (refine wg ?_; try refine sM fun K hK => ?_)
   refine rq ?_ ?_
   ·rw [zUs, show k = l.length from by omega]
   ·simp [AV.free]
theorem yAg {n : Int} (h : 0 ≤ n ∧ n ≤ 255) : IntKind.u8.wrap n = n := y8 (k := .u8) h
theorem zN5 {k : Int} (h : 0 ≤ k ∧ k ≤ 255) : zLc 1 (yA 1 [.raw (.int .u8 (IntKind.u8.wrap k))]) = ⟨[UInt8.ofNat k.toNat].toArray⟩ := by
 rw [yAg h]; exact zR9 k _ rfl
theorem zM2 (n : Int) (h : 0 ≤ n) : Lib.itoa n = Lib.decDigits n.toNat := by rw [Lib.itoa, if_neg (by omega)]
theorem zM3 (n : Int) (h : n < 0) : Lib.itoa n = 45 :: Lib.decDigits n.natAbs := by rw [Lib.itoa, if_pos h]
theorem wA : ∀ (m : Nat) (n : Int), n.natAbs ≤ m → inK .i64 n → FnA Tryz.prog 218 [.raw (.int .i64 n)] (sA (Lib.itoa n)) := by
 intro m
 induction m using Nat.strongRecOn with
 | _ m ih =>
 intro n hm hn
 have hk := hn
 simp only [inK] at hn
 have ih2 : 10 ≤ n.natAbs → FnA Tryz.prog 218 [.raw (.int .i64 (n.tdiv 10))] (sA (Lib.itoa (n.tdiv 10))) := fun h => by
  have hb := jE (a := n) (b := 10) (by omega)
  refine ih (n.tdiv 10).natAbs ?_ _ (yIn _) (by simp only [inK]; omega)
  rw [Int.natAbs_tdiv]
  show n.natAbs / 10 < m
  omega
 have hlen : (Lib.itoa (n.tdiv 10)).length ≤ 21 := by
  have hb := jE (a := n) (b := 10) (by omega)
  exact Lib.itoa_length_le _ (by omega) (by omega)
 have hq0 : 10 * n.tdiv 10 + n.tmod 10 = n := Int.mul_tdiv_add_tmod n 10
 have hr : -10 < n.tmod 10 ∧ n.tmod 10 < 10 ∧ (0 ≤ n → 0 ≤ n.tmod 10) ∧ (n ≤ 0 → n.tmod 10 ≤ 0) := by
  have h1 := Int.tmod_eq_emod (a := n) (b := 10)
  split at h1 <;> omega
 have hq : (0 ≤ n → 10 * n.tdiv 10 ≤ n ∧ n < 10 * n.tdiv 10 + 10) ∧ (n ≤ 0 → n ≤ 10 * n.tdiv 10 ∧ 10 * n.tdiv 10 - 10 < n) := by omega
 have htd := jE (a := n) (b := 10) (by omega)
 clear hq0 ih
 refine en Tryz.func218 Tryz.ntmps218 [.tmp 2] rfl ?_
 repeat'
  first
   | first
    | (refine zF (hK _ ?_); clear hK K)
    | refine stG ?_
    | (refine yH 1 rfl ?_; refine zN rfl rfl ⟨_, evl, _, _, _, evl, yR, ?_⟩; apply Exists.intro; refine ⟨fun hg => ?_, ?_⟩; · first | exact FnA.at_ (ih2 (by omega)) rfl rfl | exact FnA.at_s (ih2 (by omega)) rfl xB | exact FnA.at_s (ih2 (by omega)) rfl xC)
    | (refine zS 1 rfl ?_; refine zP rfl ⟨_, evl, _, _, _, (fun _ _ => w7), yR, ?_⟩; apply Exists.intro; refine ⟨fun hg => ?_, ?_⟩; · first | exact FnA.at_ (ih2 (by omega)) rfl rfl | exact FnA.at_s (ih2 (by omega)) rfl xB | exact FnA.at_s (ih2 (by omega)) rfl xC)
    | (refine zS 1 rfl ?_; refine zG ?_)
    | (refine z7 ?_; first | (refine zK (hK _ ?_); clear hK K) | (refine zT rfl ⟨_, evl, fun nb' => ?_⟩))
    | refine zD (fun K hK => ?_)
    | (refine xD ?_; first | (refine zC false rfl (by kernel_rfl) (by kernel_rfl) (fun K hK => ?_)) | (refine zC true rfl (by kernel_rfl) (by kernel_rfl) (fun K hK => ?_)))
    | (refine zA ⟨_, evl, fun hb => ?_, fun hb => ?_⟩ <;> (try simp only [yKt, yJl, yKw, yKv, yJn, yKs, yJd, yLj, yJm, yKu, yLk, yK3, ne_eq, yLl, yJc, yLm, yKg, yKh] at hb))
   | fail
 all_goals (refine zR (by simp) ⟨_, _, _, evl, ob0, zV.eq ?_ (by simp [sA, AV.free])⟩)
 ·refine congrArg (fun x => AV.raw (.string x)) ?_
  rw [zN5 (by omega), zM3 n (by omega), Lib.decDigits_one (by omega)]
  have e : (48 - n).toNat = 48 + n.natAbs := by omega
  rw [e]; rfl
 ·refine congrArg (fun x => AV.raw (.string x)) ?_
  have hq0 : 10 * n.tdiv 10 + n.tmod 10 = n := Int.mul_tdiv_add_tmod n 10
  have e : (48 - n.tmod 10).toNat = 48 + n.natAbs % 10 := by omega
  have e2 : (n.tdiv 10).natAbs = n.natAbs / 10 := by omega
  rw [zN5 (by omega), zGg, zM3 n (by omega), zM3 (n.tdiv 10) (by omega), e, e2, Lib.decDigits.eq_1 n.natAbs, dif_neg (by omega)]
  rfl
 ·refine congrArg (fun x => AV.raw (.string x)) ?_
  rw [zN5 (by omega), zM2 n (by omega), Lib.decDigits_one (by omega)]
  have e : (48 + n).toNat = 48 + n.toNat := by omega
  rw [e]
 ·refine congrArg (fun x => AV.raw (.string x)) ?_
  have hq0 : 10 * n.tdiv 10 + n.tmod 10 = n := Int.mul_tdiv_add_tmod n 10
  have e : (48 + n.tmod 10).toNat = 48 + n.toNat % 10 := by omega
  have e2 : (n.tdiv 10).toNat = n.toNat / 10 := by omega
  rw [zN5 (by omega), zGg, zM2 n (by omega), zM2 (n.tdiv 10) (by omega), e, e2, Lib.decDigits.eq_1 n.toNat, dif_neg (by omega)]
def zEp (l : List Int) : List UInt8 := (l.map fun n => Lib.itoa n ++ [32]).flatten
theorem zIq (l : List Int) (n : Int) : zEp (l ++ [n]) = zEp l ++ (Lib.itoa n ++ [32]) := by simp [zEp]
def okI (l : List Int) : Prop := ∀ n ∈ l, inK .i64 n
theorem zNv {l : List Int} (h : okI l) {k : Nat} (hk : k < l.length) : inK .i64 (l.getD k 0) := by
 rw [yJk, yJh hk]; exact h _ (yLb hk)
theorem jC {l : List Int} (h : okI l) : (zEp l).length ≤ 22 * l.length := by
 induction l with
 | nil => simp [zEp]
 | cons n l ih =>
  have h1 := h n (by simp)
  simp only [inK] at h1
  have h2 := Lib.itoa_length_le n h1.1 h1.2
  have h3 := ih fun m hm => h m (by simp [hm])
  simp only [zEp, yJo, List.flatten_cons, yJ2, yIz, yK8] at h3 ⊢
  omega
theorem zAp (l : List Int) {k : Nat} (hk : k < l.length) : l.take (k + 1) = l.take k ++ [l.getD k 0] := by
 rw [yLq hk, yJk, yJh hk]; rfl
theorem zAz (l : List Int) (h : okI l) (hl : l.length ≤ 1000000) : FnA Tryz.prog 162 [liA l] (byA (zEp l)) := by
 have hlen := jC h
 refine en Tryz.func162 Tryz.ntmps162 [.tmp 2] rfl ?_
 try (refine wkR trivial ?_; try refine sM fun K hK => ?_)
 refine yI (xJ.nilRow 3 5 1 rfl) ?_
 try (refine wkR trivial ?_; try refine sM fun K hK => ?_)
 refine zJ (fun k : Nat => ⟨22, 0, [(0, true, liA l), (3, true, .row 0 (zEp (l.take k)).length), (4, true, .raw (.int .i64 k))], [], [⟨5, 1, (zEp (l.take k)).length, els u8C (zEp (l.take k))⟩], ((0, []), [], true)⟩)
  (fun k => k ≤ l.length) (fun k => l.length - k) 0 ?_ (by omega) ?_
 ·exact wkZ
 ·rintro k hk
  have hlk : (zEp (l.take k)).length ≤ 22000000 := by
   have := jC (l := l.take k) fun n hn => h n (yKd hn)
   rw [yKy] at this
   omega
  try (refine wkR trivial ?_; try refine sM fun K hK => ?_)
  refine zA ⟨_, evl, ?_, ?_⟩
  ·intro hlt
   simp only [yJm] at hlt
   have hin := zNv h (k := k) (by omega)
   have hit : (Lib.itoa (l.getD k 0)).length ≤ 21 := by
    simp only [inK] at hin
    exact Lib.itoa_length_le _ hin.1 hin.2
   repeat
    first
     | (refine zF (hK _ ?_); clear hK K)
     | refine stR ?_
     | (refine yH 1 rfl ?_; first | (refine zN rfl rfl ⟨_, evl, _, _, _, evl, yR, ?_⟩; apply Exists.intro; refine ⟨fun hg => ?_, ?_⟩; · first | exact FnA.at_ (wA _ _ (yIn _) hin) rfl rfl | exact FnA.at_s (wA _ _ (yIn _) hin) rfl xB | exact FnA.at_s (wA _ _ (yIn _) hin) rfl xC) | (refine xN rfl rfl ⟨_, evl, _, _, _, evl, _, _, evl, yR, ?_⟩; apply Exists.intro; refine ⟨fun hg => ?_, ?_⟩; · first | exact FnA.at_ (wA _ _ (yIn _) hin) rfl rfl | exact FnA.at_s (wA _ _ (yIn _) hin) rfl xB | exact FnA.at_s (wA _ _ (yIn _) hin) rfl xC))
     | (refine zS 1 rfl ?_; refine zP rfl ⟨_, evl, _, _, _, (fun _ _ => w7), yR, ?_⟩; apply Exists.intro; refine ⟨fun hg => ?_, ?_⟩; · first | exact FnA.at_ (wA _ _ (yIn _) hin) rfl rfl | exact FnA.at_s (wA _ _ (yIn _) hin) rfl xB | exact FnA.at_s (wA _ _ (yIn _) hin) rfl xC)
     | (refine zS 1 rfl ?_; refine zG ?_)
     | (refine z7 ?_; first | (refine zK (hK _ ?_); clear hK K) | (refine zT rfl ⟨_, evl, fun nb' => ?_⟩))
     | refine zD (fun K hK => ?_)
     | (refine xD ?_; first | (refine zC false rfl (by kernel_rfl) (by kernel_rfl) (fun K hK => ?_)) | (refine zC true rfl (by kernel_rfl) (by kernel_rfl) (fun K hK => ?_)))
   refine ⟨k + 1, by omega, by omega, ?_⟩
   rw [zAp l (by omega), zIq]
   refine wkn ?_ ?_ ?_
   all_goals first | exact wk0 | refine wkS ?_ | skip
   all_goals (try trivial)
   all_goals ((repeat' apply And.intro) <;> first | exact wkL | skip)
   intro q hq
   refine z8.of_eq ?_
   rw [zUj rfl, ← yKx]
   exact jM (by simp) (by simp only [yJ2, yIz, yK8] at hq; omega) rfl
  ·intro hge
   simp only [yKu] at hge
   obtain rfl : k = l.length := by omega
   rw [yLr]
   try (refine wkR trivial ?_; try refine sM fun K hK => ?_)
   refine rt ?_
   exact zPe
end Go.Proofs.YtchpbdecipcelaaGreatDoor
