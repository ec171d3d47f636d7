import Derived.Test.YtchpbdecipcelaaGreatDoorMR01
import Derived.Test.YtchpbdecipcelaaGreatDoorMR06
import Derived.Test.YtchpbdecipcelaaGreatDoorMR12
namespace Go.Proofs.YtchpbdecipcelaaGreatDoor
set_option linter.unusedVariables false
set_option linter.unusedSimpArgs false
set_option maxHeartbeats 4000000
set_option maxRecDepth 100000
open Go.RowKit
def dI (l : List Int) : Int := zWk (zF1 l)
theorem zI4 (n : Int) : 0 ≤ IntKind.u64.wrap n ∧ IntKind.u64.wrap n < 18446744073709551616 := by
 rw [show IntKind.u64.wrap n = n % 18446744073709551616 from by simp only [IntKind.wrap, IntKind.bits, IntKind.signed]; simp; try omega]
 omega
theorem zV5 (x : Nat → Int) (n : Nat) : 0 ≤ fnv x n ∧ fnv x n < 18446744073709551616 := by
 cases n with
 | zero => simp [fnv]
 | succ n => exact zI4 _
theorem zJ2 (l : List Int) : 0 ≤ dI l ∧ dI l < 18446744073709551616 := zV5 _ _
theorem zI5 (l : List Int) : ∀ k, k ≤ l.length → txt (fun q => l.getD q 0) k = zF1 (l.take k)
 | 0, _ => by simp [txt, zF1]
 | k + 1, h => by rw [txt, zI5 l k (by omega), zAz l (by omega), zJg]
theorem yDl (l : List Int) (h : okI l) (h0 : l ≠ []) (hn : l.length ≤ 1000000) : FnA Tryz.prog 246 [liA l] (.raw (.int .u64 (dI l))) := by
 have hp : 0 < l.length := List.length_pos_iff.2 h0
 have := zZa l.length (fun q => l.getD q 0) (fun q hq => by have := zOv h hq; simpa only [inK] using this) hp hn
 rw [zI5 l _ (yKq _), yNt] at this
 exact this.sim ⟨Sim.lstE rfl fun i _ => rfl, trivial⟩
theorem zUk (l : List Int) (h : okI l) (hn : l.length ≤ 1000000) : FnA Tryz.prog 219 [liA l] (.raw (.int .u64 (dI l))) := by
 have hl := jE h
 refine en Tryz.func219 Tryz.ntmps219 [.tmp 2] rfl ?_
 repeat'
  first
   | first
    | (refine zG (hK _ ?_); clear hK K)
    | refine stG ?_
    | (refine yJ 1 rfl ?_; refine zR rfl rfl ⟨_, evl, _, _, _, evl, yR, ?_⟩; apply Exists.intro; refine ⟨fun hg => ?_, ?_⟩; · first | exact FnA.at_ (zB9 l h hn) rfl rfl | exact FnA.at_ (zF5 (zF1 l) (by omega)) rfl rfl | exact FnA.at_s (zB9 l h hn) rfl yV | exact FnA.at_s (zB9 l h hn) rfl yW | exact FnA.at_s (zF5 (zF1 l) (by omega)) rfl yV | exact FnA.at_s (zF5 (zF1 l) (by omega)) rfl yW)
    | (refine zW 1 rfl ?_; refine zS rfl ⟨_, evl, _, _, _, (fun _ _ => vH), yR, ?_⟩; apply Exists.intro; refine ⟨fun hg => ?_, ?_⟩; · first | exact FnA.at_ (zB9 l h hn) rfl rfl | exact FnA.at_ (zF5 (zF1 l) (by omega)) rfl rfl | exact FnA.at_s (zB9 l h hn) rfl yV | exact FnA.at_s (zB9 l h hn) rfl yW | exact FnA.at_s (zF5 (zF1 l) (by omega)) rfl yV | exact FnA.at_s (zF5 (zF1 l) (by omega)) rfl yW)
    | (refine zW 1 rfl ?_; refine zJ ?_)
    | (refine yB ?_; first | (refine zP (hK _ ?_); clear hK K) | (refine zX rfl ⟨_, evl, fun nb' => ?_⟩))
    | refine zE (fun K hK => ?_)
    | (refine yZ ?_; first | (refine zD false rfl (by kernel_rfl) (by kernel_rfl) (fun K hK => ?_)) | (refine zD true rfl (by kernel_rfl) (by kernel_rfl) (fun K hK => ?_)))
    | (refine zA ⟨_, evl, fun hb => ?_, fun hb => ?_⟩ <;> (try simp only [yMy, yLq, yN1, yN0, yLs, yMx, yLi, yNm, yLr, yMz, yNn, yM7, ne_eq, yNo, yLh, yNp, yMl, yMm] at hb))
   | fail
 all_goals (try (refine zM (by simp) ⟨_, _, _, evl, ob0, zV.sims ?_ fre⟩))
 all_goals first | exact z5.refl _ | (refine z5.of_eq ?_; first | rfl | (simp [dI]; done) | (simp_all [dI]; done) | (simp_all [dI]; omega) | (simp [dI]; grind) | (split <;> simp_all)) | exact yM | (refine z5.tup ?_; simp only [z8, yMs]; (repeat' apply And.intro) <;> first | exact yM | skip) | (exfalso; first | omega | (simp_all; done) | (simp_all; omega)) | skip
def zAa (b p : Int) (m : List Int) : Int := (dI (b :: p :: m)).tmod 1073741789
theorem qQ (b p : Int) (m : List Int) : 0 ≤ zAa b p m ∧ zAa b p m < 1073741789 := by
 have h := zJ2 (b :: p :: m)
 unfold zAa
 rw [yNu h.1]
 omega
theorem jA (b p : Int) (m : List Int) : ∀ i, i < 2 + m.length → vX 2 (z7 1 [.raw (.int .i64 b), .raw (.int .i64 p)]) (els iC m) i = els iC (b :: p :: m) i := by
 intro i hi
 match i with
 | 0 => rfl
 | 1 => rfl
 | i + 2 => rw [y6 (by omega)]; rfl
theorem zNo (b p : Int) (m : List Int) (h : okI (b :: p :: m)) (hn : m.length ≤ 999998) : FnA Tryz.prog 237 [.raw (.int .i64 b), .raw (.int .i64 p), liA m] (.raw (.int .i64 (zAa b p m))) := by
 have hr := zJ2 (b :: p :: m)
 have hc := qQ b p m
 have e1 := yDl (b :: p :: m) h (by simp) (by simp; omega)
 unfold zAa at hc ⊢
 generalize dI (b :: p :: m) = d at *
 refine en Tryz.func237 Tryz.ntmps237 [.tmp 6] rfl ?_
 repeat'
  first
   | first
    | (refine zG (hK _ ?_); clear hK K)
    | refine stR ?_
    | (refine yJ 1 rfl ?_; first | (refine zR rfl rfl ⟨_, evl, _, _, _, evl, yR, ?_⟩; apply Exists.intro; refine ⟨fun hg => ?_, ?_⟩; · first | exact FnA.sim e1 ⟨Sim.lstE (by simp; omega) (fun i hi => jA b p m i hi), trivial⟩ ) | (refine xB rfl rfl ⟨_, evl, _, _, _, evl, _, _, evl, yR, ?_⟩; apply Exists.intro; refine ⟨fun hg => ?_, ?_⟩; · first | exact FnA.sim e1 ⟨Sim.lstE (by simp; omega) (fun i hi => jA b p m i hi), trivial⟩ ))
    | (refine zW 1 rfl ?_; refine zS rfl ⟨_, evl, _, _, _, (fun _ _ => vH), yR, ?_⟩; apply Exists.intro; refine ⟨fun hg => ?_, ?_⟩; · first | exact FnA.sim e1 ⟨Sim.lstE (by simp; omega) (fun i hi => jA b p m i hi), trivial⟩ )
    | (refine zW 1 rfl ?_; refine zJ ?_)
    | (refine yB ?_; first | (refine zP (hK _ ?_); clear hK K) | (refine zX rfl ⟨_, evl, fun nb' => ?_⟩))
    | refine zE (fun K hK => ?_)
    | (refine yZ ?_; first | (refine zD false rfl (by kernel_rfl) (by kernel_rfl) (fun K hK => ?_)) | (refine zD true rfl (by kernel_rfl) (by kernel_rfl) (fun K hK => ?_)))
    | (refine zA ⟨_, evl, fun hb => ?_, fun hb => ?_⟩ <;> (try simp only [yMy, yLq, yN1, yN0, yLs, yMx, yLi, yNm, yLr, yMz, yNn, yM7, ne_eq, yNo, yLh, yNp, yMl, yMm] at hb))
   | fail
 all_goals exact fA
theorem zE2 (b p : Int) (m : List Int) (h : okI (b :: p :: m)) (hn : m.length ≤ 999998) : FnA Tryz.prog 168 [.raw (.int .i64 b), .raw (.int .i64 p), liA m] (.raw (.int .i64 (zAa b p m))) := by
 have hr := zJ2 (b :: p :: m)
 have hc := qQ b p m
 have e1 := zUk (b :: p :: m) h (by simp; omega)
 unfold zAa at hc ⊢
 generalize dI (b :: p :: m) = d at *
 refine en Tryz.func168 Tryz.ntmps168 [.tmp 6] rfl ?_
 repeat'
  first
   | first
    | (refine zG (hK _ ?_); clear hK K)
    | refine stR ?_
    | (refine yJ 1 rfl ?_; first | (refine zR rfl rfl ⟨_, evl, _, _, _, evl, yR, ?_⟩; apply Exists.intro; refine ⟨fun hg => ?_, ?_⟩; · first | exact FnA.sim e1 ⟨Sim.lstE (by simp; omega) (fun i hi => jA b p m i hi), trivial⟩ ) | (refine xB rfl rfl ⟨_, evl, _, _, _, evl, _, _, evl, yR, ?_⟩; apply Exists.intro; refine ⟨fun hg => ?_, ?_⟩; · first | exact FnA.sim e1 ⟨Sim.lstE (by simp; omega) (fun i hi => jA b p m i hi), trivial⟩ ))
    | (refine zW 1 rfl ?_; refine zS rfl ⟨_, evl, _, _, _, (fun _ _ => vH), yR, ?_⟩; apply Exists.intro; refine ⟨fun hg => ?_, ?_⟩; · first | exact FnA.sim e1 ⟨Sim.lstE (by simp; omega) (fun i hi => jA b p m i hi), trivial⟩ )
    | (refine zW 1 rfl ?_; refine zJ ?_)
    | (refine yB ?_; first | (refine zP (hK _ ?_); clear hK K) | (refine zX rfl ⟨_, evl, fun nb' => ?_⟩))
    | refine zE (fun K hK => ?_)
    | (refine yZ ?_; first | (refine zD false rfl (by kernel_rfl) (by kernel_rfl) (fun K hK => ?_)) | (refine zD true rfl (by kernel_rfl) (by kernel_rfl) (fun K hK => ?_)))
    | (refine zA ⟨_, evl, fun hb => ?_, fun hb => ?_⟩ <;> (try simp only [yMy, yLq, yN1, yN0, yLs, yMx, yLi, yNm, yLr, yMz, yNn, yM7, ne_eq, yNo, yLh, yNp, yMl, yMm] at hb))
   | fail
 all_goals exact fA
structure Sig where
 c : Int
 s : Int
 deriving Inhabited, DecidableEq
@[go_sem] def Sig.av (x : Sig) : List AV := [.raw (.int .i64 x.c), .raw (.int .i64 x.s)]
def Sig.fits (x : Sig) : Prop := (inK .i64 x.c) ∧ (inK .i64 x.s)
@[simp] theorem Sig.free (x : Sig) : AV.freeL x.av := ⟨trivial, trivial, trivial⟩
def zBb (key once : Int) (m : List Int) : Sig × Int :=
 if yC key 1 && yC once 1 then (⟨zAa (kV 4 once.toNat) (kV 4 key.toNat) m, (once + zAa (kV 4 once.toNat) (kV 4 key.toNat) m * key).tmod 1073741789⟩, 0) else (⟨0, 0⟩, 1)
theorem vI (x low : Int) : yC x low = true ↔ low ≤ x ∧ x < 1073741789 := by simp [yC]
theorem mulQ {c k : Int} (hc : 0 ≤ c ∧ c < 1073741789) (hk : 0 ≤ k ∧ k < 1073741789) : 0 ≤ c * k ∧ c * k ≤ 1152921504606846976 := by
 refine ⟨Int.mul_nonneg hc.1 hk.1, ?_⟩
 have := Int.mul_le_mul (show c ≤ 1073741824 by omega) (show k ≤ 1073741824 by omega) hk.1 (by omega)
 omega
theorem zOn {a x : Nat} (h : x < 18446744073709551616) : inK .i64 (kV a x : Int) := by
 have := zFp a x h
 simp only [inK]; omega
def zAe (pub : Int) (s : Sig) : Int := ((kV 4 s.s.toNat * kV pub.toNat (1073741789 - s.c).toNat % 2147483579 : Nat) : Int)
def yY (pub : Int) (s : Sig) (m : List Int) : Bool × Int :=
 if x7 pub && yC s.c 0 && yC s.s 0 then (decide (zAa (zAe pub s) pub m = s.c), 0) else (false, 1)
theorem yDf {a b : Int} (ha : 0 ≤ a ∧ a < 2147483579) (hb : 0 ≤ b ∧ b < 2147483579) : 0 ≤ a * b ∧ a * b ≤ 4611686018427387904 := by
 refine ⟨Int.mul_nonneg ha.1 hb.1, ?_⟩
 have := Int.mul_le_mul (show a ≤ 2147483648 by omega) (show b ≤ 2147483648 by omega) hb.1 (by omega)
 omega
theorem zO3 (pub : Int) (s : Sig) (m : List Int) (h : okI m) (hp : inK .i64 pub) (hn : m.length ≤ 999998) : FnA Tryz.prog 200 [.raw (.int .i64 pub), .agg s.av, liA m] (.tup [.raw (.bool (yY pub s m).1), .raw (.int .i64 (yY pub s m).2)]) := by
 have hw1 := vI s.c 0
 have hw2 := vI s.s 0
 have hm := zFt pub
 by_cases hb : x7 pub = true ∧ yC s.c 0 = true ∧ yC s.s 0 = true
 ·have hk := hw1.1 hb.2.1
  have ho := hw2.1 hb.2.2
  have hmm := hm.1 hb.1
  have hP := zK6 4 s.s (by omega) (by omega)
  have hKy := zK6 pub (1073741789 - s.c) (by omega) (by omega)
  have r1 := zFp (Int.toNat 4) s.s.toNat (by omega)
  have r2 := zFp pub.toNat (1073741789 - s.c).toNat (by omega)
  have hmul := yDf (a := (kV (Int.toNat 4) s.s.toNat : Int)) (b := (kV pub.toNat (1073741789 - s.c).toNat : Int)) (by omega) (by omega)
  have hbk : ((kV (Int.toNat 4) s.s.toNat : Int) * (kV pub.toNat (1073741789 - s.c).toNat : Int)).tmod 2147483579 = zAe pub s := by
   rw [← Int.natCast_mul]; rfl
  have hbr : 0 ≤ zAe pub s ∧ zAe pub s < 2147483579 := by unfold zAe; omega
  have hok : okI (zAe pub s :: pub :: m) := by
   intro n hn
   rcases yLf.1 hn with rfl | hn
   ·simp only [inK]; omega
   ·rcases yLf.1 hn with rfl | hn
    ·exact hp
    ·exact h n hn
  have hC := zNo _ _ _ hok hn
  have e : yY pub s m = (decide (zAa (zAe pub s) pub m = s.c), 0) := by
   rw [yY, hb.1, hb.2.1, hb.2.2]; rfl
  rw [e]
  have hcr := qQ (zAe pub s) pub m
  rw [← hbk] at hC hcr ⊢
  generalize zAa _ pub m = c at *
  generalize (kV (Int.toNat 4) s.s.toNat : Int) = p1 at *
  generalize (kV pub.toNat (1073741789 - s.c).toNat : Int) = p2 at *
  refine en Tryz.func200 Tryz.ntmps200 [.tmp 6, .tmp 7] rfl ?_
  repeat' first
   | refine wkg (And.intro (zEe s.c 0) (And.intro (zEe s.s 0) (And.intro (zEs pub) (And.intro hP (And.intro hKy hC))))) ?_
   | (refine cS (fun hb => ?_) fun hb => ?_ <;> try (cases hb; done))
   | refine sM fun K hK => ?_
   | fail
  all_goals exact fA
 ·have e : yY pub s m = (false, 1) := by
   rw [yY, if_neg (by simpa [and_assoc] using hb)]
  rw [e]
  refine en Tryz.func200 Tryz.ntmps200 [.tmp 6, .tmp 7] rfl ?_
  repeat' first
   | refine wkg (And.intro (zEe s.c 0) (And.intro (zEe s.s 0) (zEs pub))) ?_
   | (refine cS (fun hb => ?_) fun hb => ?_ <;> try (cases hb; done))
   | refine sM fun K hK => ?_
   | fail
  all_goals exact fA
structure zI where
 auth : Int
 id : Int
 pub : Int
 from_ : Int
 until_ : Int
 sig : Sig
 deriving Inhabited, DecidableEq
@[go_sem] def zI.av (x : zI) : List AV := [.raw (.int .i64 x.auth), .raw (.int .i64 x.id), .raw (.int .i64 x.pub), .raw (.int .i64 x.from_), .raw (.int .i64 x.until_), .raw (.int .i64 x.sig.c), .raw (.int .i64 x.sig.s)]
def zI.fits (x : zI) : Prop := (inK .i64 x.auth) ∧ (inK .i64 x.id) ∧ (inK .i64 x.pub) ∧ (inK .i64 x.from_) ∧ (inK .i64 x.until_) ∧ (x.sig.fits)
@[simp] theorem zI.free (x : zI) : AV.freeL x.av := ⟨trivial, trivial, trivial, trivial, trivial, trivial, trivial, trivial⟩
theorem zLq (n lo hi : Int) : FnA Tryz.prog 173 [.raw (.int .i64 n), .raw (.int .i64 lo), .raw (.int .i64 hi)] (.raw (.bool (decide (lo ≤ n) && decide (n ≤ hi)))) := by
 refine en Tryz.func173 Tryz.ntmps173 [.tmp 6] rfl ?_
 repeat' first
  | refine wkg trivial ?_
  | (refine cS (fun hb => ?_) fun hb => ?_ <;> try (cases hb; done))
  | refine sM fun K hK => ?_
  | fail
 all_goals exact fA
def xH (k : zI) : Prop := 1 ≤ k.auth ∧ k.auth ≤ 16 ∧ 1 ≤ k.id ∧ k.id ≤ 1000 ∧ 0 ≤ k.from_ ∧ k.from_ < k.until_ ∧ k.until_ ≤ 3000000000000000 ∧ k.pub ≠ 1 ∧ x7 k.pub = true ∧ yC k.sig.c 0 = true ∧ yC k.sig.s 0 = true
instance (k : zI) : Decidable (xH k) := by unfold xH; infer_instance
theorem formed_A (k : zI) : FnA Tryz.prog 118 [.agg k.av] (.raw (.bool (decide (xH k)))) := by
 refine en Tryz.func118 Tryz.ntmps118 [.tmp 2] rfl ?_
 repeat' first
  | (refine wkM hK (And.intro zLq zEs) ?_)
  | refine wkg (And.intro zLq zEs) ?_
  | (refine cS (fun hb => ?_) fun hb => ?_ <;> try (cases hb; done))
  | refine sM fun K hK => ?_
  | fail
 all_goals (try (refine zM (by simp) ⟨_, _, _, evl, ob0, zV.sims ?_ fre⟩))
 all_goals first | exact z5.refl _ | (refine z5.of_eq ?_; first | rfl | (simp [xH]; done) | (simp_all [xH]; done) | (simp_all [xH]; omega) | (simp [xH, yC]; grind) | (simp [xH]; grind) | (split <;> simp_all)) | exact yM | (refine z5.tup ?_; simp only [z8, yMs]; (repeat' apply And.intro) <;> first | exact yM | skip) | (exfalso; first | omega | (simp_all; done) | (simp_all; omega)) | skip
def zFr (k : zI) : List Int := [k.auth, k.id, k.pub, k.from_, k.until_]
theorem zUj (l : List Int) : FnA Tryz.prog 243 [liA l] (liA l) := by
 refine en Tryz.func243 Tryz.ntmps243 [.tmp 2] rfl ?_
 repeat' first
  | refine wkg trivial ?_
  | (refine cS (fun hb => ?_) fun hb => ?_ <;> try (cases hb; done))
  | refine sM fun K hK => ?_
  | fail
 all_goals exact fA
theorem zU7 (k : zI) : FnA Tryz.prog 222 [.agg k.av] (liA (zFr k)) := by
 refine en Tryz.func222 Tryz.ntmps222 [.tmp 2] rfl ?_
 repeat' first
  | refine wkg (zUj (zFr k)) ?_
  | (refine cS (fun hb => ?_) fun hb => ?_ <;> try (cases hb; done))
  | refine sM fun K hK => ?_
  | fail
 all_goals exact fA
theorem zE8 (l : List zI) (hl : l.length ≤ 4611686018427387904) (g : FuncId) (cap : List AV) (hcap : AV.freeL cap) (p : zI → Bool) (hp : ∀ x ∈ l, FnA Tryz.prog g (.agg x.av :: cap) (.raw (.bool (p x)))) :
  FnA Tryz.prog 220 [lA 7 zI.av l, .fn (.func g) [] cap] (.raw (.int .i64 (vA p l))) := by
 refine en Tryz.func220 Tryz.ntmps220 [.tmp 4] rfl ?_
 try (refine wg ?_; try refine sM fun K hK => ?_)
 refine zF (fun k : Nat => ⟨19, 0, [(0, true, lA 7 zI.av l), (1, true, .fn (.func g) [] cap), (7, true, .raw (.int .i64 l.length)), (8, true, .raw (.int .i64 k))], [], [], ((0, []), [], true)⟩)
  (fun k => k ≤ l.length ∧ ∀ i, i < k → p (l.getD i default) = false) (fun k => l.length - k) 0 ?_ ⟨by omega, fun i h => by omega⟩ ?_
 ·exact wkZ
 ·rintro k ⟨hk, hall⟩
  try (refine wg ?_; try refine sM fun K hK => ?_)
  refine zA ⟨_, evl, ?_, ?_⟩
  ·intro hlt
   simp only [yLr] at hlt
   have hmem : l.getD k default ∈ l := by rw [yLp, yLm (show k < l.length by omega)]; exact yNe _
   have hpk := hp _ hmem
   have hfe : AV.freeL (zI.av (l.getD k default)) := by first | exact zI.free _ | (simp [AV.free, AV.freeL, iC, u8C, kC]; done)
   try (refine wkg hpk ?_; try refine sM fun K hK => ?_)
   refine zA ⟨_, evl, ?_, ?_⟩
   ·intro hb
    try (refine wg ?_; try refine sM fun K hK => ?_)
    refine rq ?_ ?_
    ·rw [wQ (show k < l.length by omega) hall hb]
    ·simp [AV.free]
   ·intro hb
    try (refine wg ?_; try refine sM fun K hK => ?_)
    refine ⟨k + 1, ⟨by omega, fun i hi => ?_⟩, by omega, ?_⟩
    ·rcases yNv.1 hi with h | rfl
     ·exact hall i h
     ·exact hb
    ·exact wkZ
  ·intro hge
   simp only [yMz] at hge
   try (refine wg ?_; try refine sM fun K hK => ?_)
   refine rq ?_ ?_
   ·rw [xI (fun i hi => hall i (by omega))]
   ·simp [AV.free]
theorem zBm (l : List zI) (hl : l.length ≤ 4611686018427387904) (g : FuncId) (cap : List AV) (hcap : AV.freeL cap) (p : zI → Bool) (hp : ∀ x ∈ l, FnA Tryz.prog g (.agg x.av :: cap) (.raw (.bool (p x)))) :
  FnA Tryz.prog 171 [lA 7 zI.av l, .fn (.func g) [] cap] (.raw (.bool (l.any p))) := by
 have hi := zE8 l hl g cap hcap p hp
 have hany := qZ p l
 have hfr : (lA 7 zI.av l).free := zC (fun y => zI.free y) _
 generalize lA 7 zI.av l = L at hi hfr
 generalize vA p l = i at hi hany
 refine en Tryz.func171 Tryz.ntmps171 [.tmp 4] rfl ?_
 repeat' first
  | refine wkg hi ?_
  | (refine cS (fun hb => ?_) fun hb => ?_ <;> try (cases hb; done))
  | refine sM fun K hK => ?_
  | fail
 all_goals (try (refine zM (by simp) ⟨_, _, _, evl, ob0, zV.sims ?_ fre⟩))
 all_goals first | exact z5.refl _ | exact yC2 | exact yM | (refine z5.tup ?_; simp only [z8, yMs]; (repeat' apply And.intro) <;> first | exact yM | skip) | (exfalso; first | omega | (simp_all; done) | (simp_all; omega)) | skip
 all_goals (rw [hany])
theorem isNaN_A (x : Int) : FnA Tryz.prog 159 [.raw (.int .i64 x)] (.raw (.bool false)) := by
 refine en Tryz.func159 Tryz.ntmps159 [.tmp 2] rfl ?_
 repeat' first
  | refine wkg trivial ?_
  | (refine cS (fun hb => ?_) fun hb => ?_ <;> try (cases hb; done))
  | refine sM fun K hK => ?_
  | fail
 all_goals exact fA
def zEa (x y : Int) : Int := if x < y then -1 else if y < x then 1 else 0
theorem zAs (x y : Int) : FnA Tryz.prog 102 [.raw (.int .i64 x), .raw (.int .i64 y)] (.raw (.int .i64 (zEa x y))) := by
 refine en Tryz.func102 Tryz.ntmps102 [.tmp 4] rfl ?_
 repeat' first
  | (refine wkM hK isNaN_A ?_)
  | refine wkg isNaN_A ?_
  | (refine cS (fun hb => ?_) fun hb => ?_ <;> try (cases hb; done))
  | refine sM fun K hK => ?_
  | fail
 all_goals (try (refine zM (by simp) ⟨_, _, _, evl, ob0, zV.sims ?_ fre⟩))
 all_goals first | exact z5.refl _ | (refine z5.of_eq ?_; first | rfl | (simp [zEa]; done) | (simp_all [zEa]; done) | (simp_all [zEa]; omega) | (simp [zEa]; grind) | (split <;> simp_all)) | exact yM | (refine z5.tup ?_; simp only [z8, yMs]; (repeat' apply And.intro) <;> first | exact yM | skip) | (exfalso; first | omega | (simp_all; done) | (simp_all; omega)) | skip
theorem yDb (a b : Int) : FnA Tryz.prog 101 [liA [a, b]] (.raw (.int .i64 (if a = 0 then b else a))) := by
 refine en Tryz.func101 Tryz.ntmps101 [.tmp 2] rfl ?_
 try (refine wg ?_; try refine sM fun K hK => ?_)
 refine zF (fun k : Nat => ⟨18, 0, [(3, true, .raw (.int .i64 0)), (6, true, liA [a, b]), (7, true, .raw (.int .i64 2)), (8, true, .raw (.int .i64 k))], [], [], ((0, []), [], true)⟩)
  (fun k => k ≤ 2 ∧ ∀ i, i < k → [a, b].getD i 0 = 0) (fun k => 2 - k) 0 ?_ ⟨by omega, fun i h => by omega⟩ ?_
 ·exact wkZ
 ·rintro k ⟨hk, hall⟩
  try (refine wg ?_; try refine sM fun K hK => ?_)
  refine zA ⟨_, evl, ?_, ?_⟩
  ·intro hlt
   simp only [yLr] at hlt
   try (refine wg ?_; try refine sM fun K hK => ?_)
   refine zA ⟨_, evl, ?_, ?_⟩
   ·intro hb
    try (refine wg ?_; try refine sM fun K hK => ?_)
    refine rq ?_ ?_
    ·match k, hlt, hall, hb with
     | 0, _, _, hb => simp at hb; simp [hb]
     | 1, _, hall, hb => have := hall 0 (by omega); simp at this hb; simp [this]
    ·simp [AV.free]
   ·intro hb
    try (refine wg ?_; try refine sM fun K hK => ?_)
    refine ⟨k + 1, ⟨by omega, fun i hi => ?_⟩, by omega, ?_⟩
    ·rcases yNv.1 hi with h | rfl
     ·exact hall i h
     ·simpa using hb
    ·exact wkZ
  ·intro hge
   simp only [yMz] at hge
   obtain rfl : k = 2 := by omega
   have h0 := hall 0 (by omega)
   have h1 := hall 1 (by omega)
   simp at h0 h1
   try (refine wg ?_; try refine sM fun K hK => ?_)
   refine rq ?_ ?_
   ·simp [h0, h1]
   ·simp [AV.free]
def zLk (k : zI) (auth id : Int) : Int := if zEa k.auth auth = 0 then zEa k.id id else zEa k.auth auth
theorem yBb (k : zI) (auth id : Int) : FnA Tryz.prog 254 [.agg k.av, liA [auth, id]] (.raw (.int .i64 (zLk k auth id))) := by
 unfold zLk
 have h1 := zAs k.auth auth
 have h2 := zAs k.id id
 generalize zEa k.auth auth = c1 at *
 generalize zEa k.id id = c2 at *
 refine en Tryz.func254 Tryz.ntmps254 [.tmp 4] rfl ?_
 repeat' first
  | refine wkg (And.intro h1 (And.intro h2 (yDb c1 c2))) ?_
  | (refine cS (fun hb => ?_) fun hb => ?_ <;> try (cases hb; done))
  | refine sM fun K hK => ?_
  | fail
 all_goals exact fA
def zP0 (l : List zI) (c : zI → Int) : Nat := l.findIdx fun k => decide (0 ≤ c k)
theorem zUb (l : List zI) (c : zI → Int) : zP0 l c ≤ l.length := List.findIdx_le_length
theorem zU {α : Type} [Inhabited α] {l : List α} {i : Nat} (h : i < l.length) : l.getD i default = l[i] := by simp [h]
theorem zUa {l : List zI} {c : zI → Int} {i : Nat} (h : i < zP0 l c) : c (l.getD i default) < 0 := by
 have hl := zUb l c
 rw [zU (by omega)]
 have := List.not_of_lt_findIdx h
 simpa using this
theorem zUc {l : List zI} {c : zI → Int} (h : zP0 l c < l.length) : 0 ≤ c (l.getD (zP0 l c) default) := by
 rw [zU h]
 have := List.findIdx_getElem (w := h)
 exact yNw this
def zZ3 (l : List zI) (c : zI → Int) : Prop := ∀ i j, i ≤ j → j < l.length → c (l.getD j default) < 0 → c (l.getD i default) < 0
theorem u64w {n : Int} (h : 0 ≤ n ∧ n < 18446744073709551616) : IntKind.u64.wrap n = n := yX (k := .u64) (by simp only [inK]; omega)
theorem yJd (x : Nat) : (x : Int).fdiv (2 ^ min 1 64) = ((x / 2 : Nat) : Int) := shr1 x
theorem zW1 (l : List zI) (hl : l.length ≤ 4611686018427387904) (t : AV) (ht : t.free) (g : FuncId) (c : zI → Int) (hc : ∀ k, FnA Tryz.prog g [.agg k.av, t] (.raw (.int .i64 (c k)))) (hr : zZ3 l c) :
  FnA Tryz.prog 253 [lA 7 zI.av l, t, .raw (.func (.func g) #[] #[])]
   (.tup [.raw (.int .i64 (zP0 l c)), .raw (.bool (decide (zP0 l c < l.length) && decide (c (l.getD (zP0 l c) default) = 0)))]) := by
 have hle := zUb l c
 have hlt := fun i => zUa (l := l) (c := c) (i := i)
 have hge := zUc (l := l) (c := c)
 have hr' := fun i j => hr i j
 generalize zP0 l c = m at *
 refine en Tryz.func253 Tryz.ntmps253 [.tmp 6, .tmp 7] rfl ?_
 try (refine wg ?_; try refine sM fun K hK => ?_)
 refine zF (fun s : Nat × Nat => ⟨49, 0, [(0, true, lA 7 zI.av l), (1, true, t), (2, true, .raw (.func (.func g) #[] #[])), (8, true, .raw (.int .i64 l.length)), (9, true, .raw (.int .i64 s.1)), (10, true, .raw (.int .i64 s.2))], [], [], ((0, []), [], true)⟩)
  (fun s => s.1 ≤ m ∧ m ≤ s.2 ∧ s.2 ≤ l.length) (fun s => s.2 - s.1) (0, l.length) ?_ ⟨by simp, hle, by simp⟩ ?_
 ·exact wkZ
 ·rintro ⟨i, j⟩ ⟨h1, h2, h3⟩
  dsimp only at h1 h2 h3 ⊢
  have e1 : IntKind.u64.wrap ((i : Int) + j) = ((i + j : Nat) : Int) := by rw [u64w (by omega)]; simp
  try (refine wg ?_; try refine sM fun K hK => ?_)
  refine zA ⟨_, evl, ?_, ?_⟩
  ·intro hb
   simp only [yLr] at hb
   try (refine wg ?_; try refine sM fun K hK => ?_)
   rw [e1, yJd]
   have hmid : (i + j) / 2 < l.length := by omega
   try (first | refine wkM hK hc ?_ | refine wkg hc ?_)
   try clear hK K
   try refine sM fun K hK => ?_
   refine zA ⟨_, evl, ?_, ?_⟩
   ·intro hb2
    simp only [yLr] at hb2
    try (refine wg ?_; try refine sM fun K hK => ?_)
    refine ⟨((i + j) / 2 + 1, j), ⟨?_, h2, h3⟩, by show j - ((i + j) / 2 + 1) < j - i; omega, ?_⟩
    ·show (i + j) / 2 + 1 ≤ m
     rcases yKt ((i + j) / 2) m with h | h
     ·exact h
     ·have q1 := hr' m ((i + j) / 2) h hmid hb2
      have q2 := hge (by omega)
      omega
    ·exact wkZ
   ·intro hb2
    simp only [yMz] at hb2
    try (refine wg ?_; try refine sM fun K hK => ?_)
    refine ⟨(i, (i + j) / 2), ⟨h1, ?_, by show (i + j) / 2 ≤ _; omega⟩, by show (i + j) / 2 - i < j - i; omega, ?_⟩
    ·show m ≤ (i + j) / 2
     rcases yKt ((i + j) / 2) m with h | h
     ·exact absurd (hlt _ h) hb2
     ·exact h
    ·exact wkZ
  ·intro hb
   simp only [yMz] at hb
   obtain rfl : i = m := by omega
   try (first | refine wkM hK hc ?_ | refine wkg hc ?_)
   try clear hK K
   try refine sM fun K hK => ?_
   refine rq ?_ ?_
   ·simp
   ·simp [AV.free, AV.freeL]
end Go.Proofs.YtchpbdecipcelaaGreatDoor
