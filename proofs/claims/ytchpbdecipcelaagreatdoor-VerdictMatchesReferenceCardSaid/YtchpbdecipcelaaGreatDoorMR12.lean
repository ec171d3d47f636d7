import Derived.Test.YtchpbdecipcelaaGreatDoorMR01
import Derived.Test.YtchpbdecipcelaaGreatDoorMR11
namespace Go.Proofs.YtchpbdecipcelaaGreatDoor
set_option linter.unusedVariables false
set_option linter.unusedSimpArgs false
set_option maxHeartbeats 4000000
set_option maxRecDepth 100000
open Go.RowKit
theorem zX5 (a x m : Nat) (hm : 1 < m) (hm2 : m < 2147483648) (ha : a < m) (hx : x < 9223372036854775808) : FnA Tryz.prog 110 [.raw (.int .i64 a), .raw (.int .i64 x), .raw (.int .i64 m)] (.raw (.int .i64 ((a ^ x % m : Nat) : Int))) := by
 have hmul : ∀ b c : Nat, b < m → c < m → b * c < 4611686018427387904 := fun b c hb hc => by
  have h1 : b * c ≤ 2147483647 * c := yLl _ (by omega)
  omega
 refine en Tryz.func110 Tryz.ntmps110 [.tmp 6] rfl ?_
 try (refine wg ?_; try refine sM fun K hK => ?_)
 refine zF (fun s : Nat × Nat × Nat => ⟨26, 0, [(0, true, .raw (.int .i64 s.1)), (1, true, .raw (.int .i64 s.2.1)), (2, true, .raw (.int .i64 m)), (7, true, .raw (.int .i64 s.2.2))], [], [], ((0, []), [], true)⟩)
   (fun s => s.1 < m ∧ s.2.1 < 9223372036854775808 ∧ s.2.2 < m ∧ s.2.2 * s.1 ^ s.2.1 % m = a ^ x % m) (fun s => s.2.1) (a, x, 1) ?_ ⟨ha, hx, hm, by simp⟩ ?_
 ·exact wkZ
 ·rintro ⟨b, y, o⟩ ⟨h1, h2, h3, h4⟩
  dsimp only at h1 h2 h3 h4 ⊢
  have hy2 : b ^ y = b ^ (y % 2) * (b * b) ^ (y / 2) := by
   rw [← Nat.pow_two, ← Nat.pow_mul, ← Nat.pow_add]; congr 1; omega
  have e1 : (b : Int) * b = ((b * b : Nat) : Int) := by simp
  have e2 : (o : Int) * b = ((o * b : Nat) : Int) := by simp
  have k1 := hmul b b h1 h1
  have k2 := hmul o b h3 h1
  have e3 : ∀ c : Nat, (c : Int).tmod m = ((c % m : Nat) : Int) := fun c => rfl
  have e4 : (y : Int).tmod 2 = ((y % 2 : Nat) : Int) := rfl
  have e5 : (y : Int).tdiv 2 = ((y / 2 : Nat) : Int) := rfl
  try (refine wg ?_; try refine sM fun K hK => ?_)
  refine zA ⟨_, evl, ?_, ?_⟩
  ·intro hb
   simp only [yLr] at hb
   try (refine wg ?_; try refine sM fun K hK => ?_)
   refine zA ⟨_, evl, ?_, ?_⟩
   ·intro hc
    simp only [yLr, e4] at hc
    try (refine wg ?_; try refine sM fun K hK => ?_)
    refine ⟨(b * b % m, y / 2, o * b % m), ⟨yM3 _ (by omega), by show y / 2 < _; omega, yM3 _ (by omega), ?_⟩, by show y / 2 < y; omega, ?_⟩
    ·rw [← h4, hy2, show y % 2 = 1 from by omega]
     show o * b % m * (b * b % m) ^ (y / 2) % m = _
     rw [Nat.pow_one, ← Nat.mul_assoc, yNr, Nat.mod_mod, ← Nat.pow_mod, ← yNr]
    ·exact wkZ
   ·intro hc
    simp only [yMz, e4] at hc
    try (refine wg ?_; try refine sM fun K hK => ?_)
    refine ⟨(b * b % m, y / 2, o), ⟨yM3 _ (by omega), by show y / 2 < _; omega, h3, ?_⟩, by show y / 2 < y; omega, ?_⟩
    ·rw [← h4, hy2, show y % 2 = 0 from by omega]
     show o * (b * b % m) ^ (y / 2) % m = _
     rw [Nat.pow_zero, Nat.one_mul, yNr, ← Nat.pow_mod, ← yNr]
    ·exact wkZ
  ·intro hb
   simp only [yMz] at hb
   try (refine wg ?_; try refine sM fun K hK => ?_)
   refine rq ?_ ?_
   ·rw [← h4, show y = 0 from by omega, Nat.pow_zero, yLv, Nat.mod_eq_of_lt h3]
   ·simp [AV.free]
theorem zB1 (a x : Int) (ha : 0 ≤ a ∧ a < 2147483579) (hx : 0 ≤ x ∧ x < 9223372036854775808) : FnA Tryz.prog 110 [.raw (.int .i64 a), .raw (.int .i64 x), .raw (.int .i64 2147483579)] (.raw (.int .i64 (kV a.toNat x.toNat))) := by
 have h := zX5 a.toNat x.toNat 2147483579 (by omega) (by omega) (by omega) (by omega)
 rw [← zIl _ _ (by omega)] at h
 rwa [Int.toNat_of_nonneg ha.1, Int.toNat_of_nonneg hx.1] at h
theorem zFs (a : Int) : FnA Tryz.prog 205 [.raw (.int .i64 a)] (.raw (.bool (x7 a))) := by
 refine en Tryz.func205 Tryz.ntmps205 [.tmp 2] rfl ?_
 repeat'
  first
   | first
    | (refine zG (hK _ ?_); clear hK K)
    | refine stG ?_
    | (refine yJ 1 rfl ?_; refine zR rfl rfl ⟨_, evl, _, _, _, evl, yR, ?_⟩; apply Exists.intro; refine ⟨fun hg => ?_, ?_⟩; · first | exact FnA.at_ (zB1 a 1073741789 (by simp at hg; omega) (by omega)) rfl rfl | exact FnA.at_s (zB1 a 1073741789 (by simp at hg; omega) (by omega)) rfl yV | exact FnA.at_s (zB1 a 1073741789 (by simp at hg; omega) (by omega)) rfl yW)
    | (refine zW 1 rfl ?_; refine zS rfl ⟨_, evl, _, _, _, (fun _ _ => vH), yR, ?_⟩; apply Exists.intro; refine ⟨fun hg => ?_, ?_⟩; · first | exact FnA.at_ (zB1 a 1073741789 (by simp at hg; omega) (by omega)) rfl rfl | exact FnA.at_s (zB1 a 1073741789 (by simp at hg; omega) (by omega)) rfl yV | exact FnA.at_s (zB1 a 1073741789 (by simp at hg; omega) (by omega)) rfl yW)
    | (refine zW 1 rfl ?_; refine zJ ?_)
    | (refine yB ?_; first | (refine zP (hK _ ?_); clear hK K) | (refine zX rfl ⟨_, evl, fun nb' => ?_⟩))
    | refine zE (fun K hK => ?_)
    | (refine yZ ?_; first | (refine zD false rfl (by kernel_rfl) (by kernel_rfl) (fun K hK => ?_)) | (refine zD true rfl (by kernel_rfl) (by kernel_rfl) (fun K hK => ?_)))
    | (refine zA ⟨_, evl, fun hb => ?_, fun hb => ?_⟩ <;> (try simp only [yMy, yLq, yN1, yN0, yLs, yMx, yLi, yNm, yLr, yMz, yNn, yM7, ne_eq, yNo, yLh, yNp, yMl, yMm] at hb))
   | fail
 all_goals (try (refine zM (by simp) ⟨_, _, _, evl, ob0, zV.sims ?_ fre⟩))
 all_goals first | exact z5.refl _ | (refine z5.of_eq ?_; first | rfl | (simp [x7]; done) | (simp_all [x7]; done) | (simp_all [x7]; omega) | (simp [x7]; omega) | (simp [x7]; grind) | (split <;> simp_all)) | exact yM | (refine z5.tup ?_; simp only [z8, yMs]; (repeat' apply And.intro) <;> first | exact yM | skip) | (exfalso; first | omega | (simp_all; done) | (simp_all; omega)) | skip
theorem vQ (x : Int) : FnA Tryz.prog 206 [.raw (.int .i64 x)] (.raw (.bool (yC x 0))) := by
 refine en Tryz.func206 Tryz.ntmps206 [.tmp 2] rfl ?_
 repeat' first
  | refine wkg trivial ?_
  | (refine cS (fun hb => ?_) fun hb => ?_ <;> try (cases hb; done))
  | refine sM fun K hK => ?_
  | fail
 all_goals (try (refine zM (by simp) ⟨_, _, _, evl, ob0, zV.sims ?_ fre⟩))
 all_goals first | exact z5.refl _ | (refine z5.of_eq ?_; first | rfl | (simp [yC]; done) | (simp_all [yC]; done) | (simp_all [yC]; omega) | (simp [yC]; grind) | (split <;> simp_all)) | exact yM | (refine z5.tup ?_; simp only [z8, yMs]; (repeat' apply And.intro) <;> first | exact yM | skip) | (exfalso; first | omega | (simp_all; done) | (simp_all; omega)) | skip
theorem zHk (x : Int) : FnA Tryz.prog 114 [.raw (.int .i64 x)] (.raw (.bool (yC x 1))) := by
 refine en Tryz.func114 Tryz.ntmps114 [.tmp 2] rfl ?_
 repeat' first
  | refine wkg trivial ?_
  | (refine cS (fun hb => ?_) fun hb => ?_ <;> try (cases hb; done))
  | refine sM fun K hK => ?_
  | fail
 all_goals (try (refine zM (by simp) ⟨_, _, _, evl, ob0, zV.sims ?_ fre⟩))
 all_goals first | exact z5.refl _ | (refine z5.of_eq ?_; first | rfl | (simp [yC]; done) | (simp_all [yC]; done) | (simp_all [yC]; omega) | (simp [yC]; grind) | (split <;> simp_all)) | exact yM | (refine z5.tup ?_; simp only [z8, yMs]; (repeat' apply And.intro) <;> first | exact yM | skip) | (exfalso; first | omega | (simp_all; done) | (simp_all; omega)) | skip
theorem zF5 (l : List UInt8) (hl : l.length ≤ 1000000000) : FnA Tryz.prog 163 [byA l] (.raw (.int .u64 (zWk l))) := by
 unfold byA lA
 refine en Tryz.func163 Tryz.ntmps163 [.tmp 2] rfl ?_
 try (refine wg ?_; try refine sM fun K hK => ?_)
 refine zF (fun k : Nat => ⟨20, 0, [(3, true, .raw (.int .u64 (fnv (fun q => ((l.getD q 0).toNat : Int)) k))), (0, true, .lst 1 l.length (els u8C l)), (4, true, .raw (.int .i64 k))], [], [], ((0, []), [], true)⟩)
  (fun k => k ≤ l.length) (fun k => l.length - k) 0 ?_ (by omega) ?_
 ·exact wkZ
 ·rintro k hk
  try (refine wg ?_; try refine sM fun K hK => ?_)
  refine zA ⟨_, evl, ?_, ?_⟩
  ·intro hlt
   simp only [yLr] at hlt
   try (refine wg ?_; try refine sM fun K hK => ?_)
   refine ⟨k + 1, by omega, by omega, ?_⟩
   ·exact wkZ
  ·intro hge
   simp only [yMz] at hge
   try (refine wg ?_; try refine sM fun K hK => ?_)
   refine rq ?_ ?_
   ·rw [zWk, show k = l.length from by omega]
   ·simp [AV.free]
theorem yCa {n : Int} (h : 0 ≤ n ∧ n ≤ 255) : IntKind.u8.wrap n = n := yX (k := .u8) h
theorem zOb {k : Int} (h : 0 ≤ k ∧ k ≤ 255) : zM8 1 (z7 1 [.raw (.int .u8 (IntKind.u8.wrap k))]) = ⟨[UInt8.ofNat k.toNat].toArray⟩ := by
 rw [yCa h]; exact zSp k _ rfl
theorem zN4 (n : Int) (h : 0 ≤ n) : Lib.itoa n = Lib.decDigits n.toNat := by rw [Lib.itoa, if_neg (by omega)]
theorem zN5 (n : Int) (h : n < 0) : Lib.itoa n = 45 :: Lib.decDigits n.natAbs := by rw [Lib.itoa, if_pos h]
theorem wG : ∀ (m : Nat) (n : Int), n.natAbs ≤ m → inK .i64 n → FnA Tryz.prog 218 [.raw (.int .i64 n)] (sA (Lib.itoa n)) := by
 intro m
 induction m using Nat.strongRecOn with
 | _ m ih =>
 intro n hm hn
 have hk := hn
 simp only [inK] at hn
 have ih2 : 10 ≤ n.natAbs → FnA Tryz.prog 218 [.raw (.int .i64 (n.tdiv 10))] (sA (Lib.itoa (n.tdiv 10))) := fun h => by
  have hb := jG (a := n) (b := 10) (by omega)
  refine ih (n.tdiv 10).natAbs ?_ _ (yKq _) (by simp only [inK]; omega)
  rw [Int.natAbs_tdiv]
  show n.natAbs / 10 < m
  omega
 have hlen : (Lib.itoa (n.tdiv 10)).length ≤ 21 := by
  have hb := jG (a := n) (b := 10) (by omega)
  exact Lib.itoa_length_le _ (by omega) (by omega)
 have hq0 : 10 * n.tdiv 10 + n.tmod 10 = n := Int.mul_tdiv_add_tmod n 10
 have hr : -10 < n.tmod 10 ∧ n.tmod 10 < 10 ∧ (0 ≤ n → 0 ≤ n.tmod 10) ∧ (n ≤ 0 → n.tmod 10 ≤ 0) := by
  have h1 := Int.tmod_eq_emod (a := n) (b := 10)
  split at h1 <;> omega
 have hq : (0 ≤ n → 10 * n.tdiv 10 ≤ n ∧ n < 10 * n.tdiv 10 + 10) ∧ (n ≤ 0 → n ≤ 10 * n.tdiv 10 ∧ 10 * n.tdiv 10 - 10 < n) := by omega
 have htd := jG (a := n) (b := 10) (by omega)
 clear hq0 ih
 refine en Tryz.func218 Tryz.ntmps218 [.tmp 2] rfl ?_
 repeat'
  first
   | first
    | (refine zG (hK _ ?_); clear hK K)
    | refine stG ?_
    | (refine yJ 1 rfl ?_; refine zR rfl rfl ⟨_, evl, _, _, _, evl, yR, ?_⟩; apply Exists.intro; refine ⟨fun hg => ?_, ?_⟩; · first | exact FnA.at_ (ih2 (by omega)) rfl rfl | exact FnA.at_s (ih2 (by omega)) rfl yV | exact FnA.at_s (ih2 (by omega)) rfl yW)
    | (refine zW 1 rfl ?_; refine zS rfl ⟨_, evl, _, _, _, (fun _ _ => vH), yR, ?_⟩; apply Exists.intro; refine ⟨fun hg => ?_, ?_⟩; · first | exact FnA.at_ (ih2 (by omega)) rfl rfl | exact FnA.at_s (ih2 (by omega)) rfl yV | exact FnA.at_s (ih2 (by omega)) rfl yW)
    | (refine zW 1 rfl ?_; refine zJ ?_)
    | (refine yB ?_; first | (refine zP (hK _ ?_); clear hK K) | (refine zX rfl ⟨_, evl, fun nb' => ?_⟩))
    | refine zE (fun K hK => ?_)
    | (refine yZ ?_; first | (refine zD false rfl (by kernel_rfl) (by kernel_rfl) (fun K hK => ?_)) | (refine zD true rfl (by kernel_rfl) (by kernel_rfl) (fun K hK => ?_)))
    | (refine zA ⟨_, evl, fun hb => ?_, fun hb => ?_⟩ <;> (try simp only [yMy, yLq, yN1, yN0, yLs, yMx, yLi, yNm, yLr, yMz, yNn, yM7, ne_eq, yNo, yLh, yNp, yMl, yMm] at hb))
   | fail
 all_goals (refine zM (by simp) ⟨_, _, _, evl, ob0, zV.eq ?_ (by simp [sA, AV.free])⟩)
 ·refine congrArg (fun x => AV.raw (.string x)) ?_
  rw [zOb (by omega), zN5 n (by omega), Lib.decDigits_one (by omega)]
  have e : (48 - n).toNat = 48 + n.natAbs := by omega
  rw [e]; rfl
 ·refine congrArg (fun x => AV.raw (.string x)) ?_
  have hq0 : 10 * n.tdiv 10 + n.tmod 10 = n := Int.mul_tdiv_add_tmod n 10
  have e : (48 - n.tmod 10).toNat = 48 + n.natAbs % 10 := by omega
  have e2 : (n.tdiv 10).natAbs = n.natAbs / 10 := by omega
  rw [zOb (by omega), zH2, zN5 n (by omega), zN5 (n.tdiv 10) (by omega), e, e2, Lib.decDigits.eq_1 n.natAbs, dif_neg (by omega)]
  rfl
 ·refine congrArg (fun x => AV.raw (.string x)) ?_
  rw [zOb (by omega), zN4 n (by omega), Lib.decDigits_one (by omega)]
  have e : (48 + n).toNat = 48 + n.toNat := by omega
  rw [e]
 ·refine congrArg (fun x => AV.raw (.string x)) ?_
  have hq0 : 10 * n.tdiv 10 + n.tmod 10 = n := Int.mul_tdiv_add_tmod n 10
  have e : (48 + n.tmod 10).toNat = 48 + n.toNat % 10 := by omega
  have e2 : (n.tdiv 10).toNat = n.toNat / 10 := by omega
  rw [zOb (by omega), zH2, zN4 n (by omega), zN4 (n.tdiv 10) (by omega), e, e2, Lib.decDigits.eq_1 n.toNat, dif_neg (by omega)]
def zF1 (l : List Int) : List UInt8 := (l.map fun n => Lib.itoa n ++ [32]).flatten
theorem zJg (l : List Int) (n : Int) : zF1 (l ++ [n]) = zF1 l ++ (Lib.itoa n ++ [32]) := by simp [zF1]
def okI (l : List Int) : Prop := ∀ n ∈ l, inK .i64 n
theorem zOv {l : List Int} (h : okI l) {k : Nat} (hk : k < l.length) : inK .i64 (l.getD k 0) := by
 rw [yLp, yLm hk]; exact h _ (yNe hk)
theorem jE {l : List Int} (h : okI l) : (zF1 l).length ≤ 22 * l.length := by
 induction l with
 | nil => simp [zF1]
 | cons n l ih =>
  have h1 := h n (by simp)
  simp only [inK] at h1
  have h2 := Lib.itoa_length_le n h1.1 h1.2
  have h3 := ih fun m hm => h m (by simp [hm])
  simp only [zF1, yLt, List.flatten_cons, yL5, yL2, yMc] at h3 ⊢
  omega
theorem zAz (l : List Int) {k : Nat} (hk : k < l.length) : l.take (k + 1) = l.take k ++ [l.getD k 0] := by
 rw [yNs hk, yLp, yLm hk]; rfl
theorem zB9 (l : List Int) (h : okI l) (hl : l.length ≤ 1000000) : FnA Tryz.prog 162 [liA l] (byA (zF1 l)) := by
 have hlen := jE h
 refine en Tryz.func162 Tryz.ntmps162 [.tmp 2] rfl ?_
 try (refine wkR trivial ?_; try refine sM fun K hK => ?_)
 refine yP (xE.nilRow 3 5 1 rfl) ?_
 try (refine wkR trivial ?_; try refine sM fun K hK => ?_)
 refine zF (fun k : Nat => ⟨22, 0, [(0, true, liA l), (3, true, .row 0 (zF1 (l.take k)).length), (4, true, .raw (.int .i64 k))], [], [⟨5, 1, (zF1 (l.take k)).length, els u8C (zF1 (l.take k))⟩], ((0, []), [], true)⟩)
  (fun k => k ≤ l.length) (fun k => l.length - k) 0 ?_ (by omega) ?_
 ·exact wkZ
 ·rintro k hk
  have hlk : (zF1 (l.take k)).length ≤ 22000000 := by
   have := jE (l := l.take k) fun n hn => h n (yMh hn)
   rw [yN3] at this
   omega
  try (refine wkR trivial ?_; try refine sM fun K hK => ?_)
  refine zA ⟨_, evl, ?_, ?_⟩
  ·intro hlt
   simp only [yLr] at hlt
   have hin := zOv h (k := k) (by omega)
   have hit : (Lib.itoa (l.getD k 0)).length ≤ 21 := by
    simp only [inK] at hin
    exact Lib.itoa_length_le _ hin.1 hin.2
   repeat
    first
     | (refine zG (hK _ ?_); clear hK K)
     | refine stR ?_
     | (refine yJ 1 rfl ?_; first | (refine zR rfl rfl ⟨_, evl, _, _, _, evl, yR, ?_⟩; apply Exists.intro; refine ⟨fun hg => ?_, ?_⟩; · first | exact FnA.at_ (wG _ _ (yKq _) hin) rfl rfl | exact FnA.at_s (wG _ _ (yKq _) hin) rfl yV | exact FnA.at_s (wG _ _ (yKq _) hin) rfl yW) | (refine xB rfl rfl ⟨_, evl, _, _, _, evl, _, _, evl, yR, ?_⟩; apply Exists.intro; refine ⟨fun hg => ?_, ?_⟩; · first | exact FnA.at_ (wG _ _ (yKq _) hin) rfl rfl | exact FnA.at_s (wG _ _ (yKq _) hin) rfl yV | exact FnA.at_s (wG _ _ (yKq _) hin) rfl yW))
     | (refine zW 1 rfl ?_; refine zS rfl ⟨_, evl, _, _, _, (fun _ _ => vH), yR, ?_⟩; apply Exists.intro; refine ⟨fun hg => ?_, ?_⟩; · first | exact FnA.at_ (wG _ _ (yKq _) hin) rfl rfl | exact FnA.at_s (wG _ _ (yKq _) hin) rfl yV | exact FnA.at_s (wG _ _ (yKq _) hin) rfl yW)
     | (refine zW 1 rfl ?_; refine zJ ?_)
     | (refine yB ?_; first | (refine zP (hK _ ?_); clear hK K) | (refine zX rfl ⟨_, evl, fun nb' => ?_⟩))
     | refine zE (fun K hK => ?_)
     | (refine yZ ?_; first | (refine zD false rfl (by kernel_rfl) (by kernel_rfl) (fun K hK => ?_)) | (refine zD true rfl (by kernel_rfl) (by kernel_rfl) (fun K hK => ?_)))
   refine ⟨k + 1, by omega, by omega, ?_⟩
   rw [zAz l (by omega), zJg]
   refine wkn ?_ ?_ ?_
   all_goals first | exact wk0 | refine wkS ?_ | skip
   all_goals (try trivial)
   all_goals ((repeat' apply And.intro) <;> first | exact wkL | skip)
   intro q hq
   refine z8.of_eq ?_
   rw [zWc rfl, ← yN2]
   exact kA (by simp) (by simp only [yL5, yL2, yMc] at hq; omega) rfl
  ·intro hge
   simp only [yMz] at hge
   obtain rfl : k = l.length := by omega
   rw [yNt]
   try (refine wkR trivial ?_; try refine sM fun K hK => ?_)
   refine rt ?_
   exact zQe
end Go.Proofs.YtchpbdecipcelaaGreatDoor
