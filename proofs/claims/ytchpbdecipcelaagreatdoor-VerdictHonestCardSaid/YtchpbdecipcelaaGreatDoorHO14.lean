import Derived.Test.YtchpbdecipcelaaGreatDoorHO01
import Derived.Test.YtchpbdecipcelaaGreatDoorHO13
namespace Go.Proofs.YtchpbdecipcelaaGreatDoor
set_option linter.unusedVariables false
set_option linter.unusedSimpArgs false
set_option maxHeartbeats 4000000
set_option maxRecDepth 100000
open Go.RowKit
def dI (l : List Int) : Int := zUs (zEp l)
theorem zHi (n : Int) : 0 ≤ IntKind.u64.wrap n ∧ IntKind.u64.wrap n < 18446744073709551616 := by
 rw [show IntKind.u64.wrap n = n % 18446744073709551616 from by simp only [IntKind.wrap, IntKind.bits, IntKind.signed]; simp; try omega]
 omega
theorem zTj (x : Nat → Int) (n : Nat) : 0 ≤ fnv x n ∧ fnv x n < 18446744073709551616 := by
 cases n with
 | zero => simp [fnv]
 | succ n => exact zHi _
theorem zIc (l : List Int) : 0 ≤ dI l ∧ dI l < 18446744073709551616 := zTj _ _
theorem zHj (l : List Int) : ∀ k, k ≤ l.length → txt (fun q => l.getD q 0) k = zEp (l.take k)
 | 0, _ => by simp [txt, zEp]
 | k + 1, h => by rw [txt, zHj l k (by omega), zAp l (by omega), zIq]
theorem yB9 (l : List Int) (h : okI l) (h0 : l ≠ []) (hn : l.length ≤ 1000000) : FnA Tryz.prog 246 [liA l] (.raw (.int .u64 (dI l))) := by
 have hp : 0 < l.length := List.length_pos_iff.2 h0
 have := zX9 l.length (fun q => l.getD q 0) (fun q hq => by have := zNv h hq; simpa only [inK] using this) hp hn
 rw [zHj l _ (yIn _), yLr] at this
 exact this.sim ⟨Sim.lstE rfl fun i _ => rfl, trivial⟩
theorem zT0 (l : List Int) (h : okI l) (hn : l.length ≤ 1000000) : FnA Tryz.prog 219 [liA l] (.raw (.int .u64 (dI l))) := by
 have hl := jC h
 refine en Tryz.func219 Tryz.ntmps219 [.tmp 2] rfl ?_
 repeat'
  first
   | first
    | (refine zF (hK _ ?_); clear hK K)
    | refine stG ?_
    | (refine yH 1 rfl ?_; refine zN rfl rfl ⟨_, evl, _, _, _, evl, yR, ?_⟩; apply Exists.intro; refine ⟨fun hg => ?_, ?_⟩; · first | exact FnA.at_ (zAz l h hn) rfl rfl | exact FnA.at_ (zEr (zEp l) (by omega)) rfl rfl | exact FnA.at_s (zAz l h hn) rfl xB | exact FnA.at_s (zAz l h hn) rfl xC | exact FnA.at_s (zEr (zEp l) (by omega)) rfl xB | exact FnA.at_s (zEr (zEp l) (by omega)) rfl xC)
    | (refine zS 1 rfl ?_; refine zP rfl ⟨_, evl, _, _, _, (fun _ _ => w7), yR, ?_⟩; apply Exists.intro; refine ⟨fun hg => ?_, ?_⟩; · first | exact FnA.at_ (zAz l h hn) rfl rfl | exact FnA.at_ (zEr (zEp l) (by omega)) rfl rfl | exact FnA.at_s (zAz l h hn) rfl xB | exact FnA.at_s (zAz l h hn) rfl xC | exact FnA.at_s (zEr (zEp l) (by omega)) rfl xB | exact FnA.at_s (zEr (zEp l) (by omega)) rfl xC)
    | (refine zS 1 rfl ?_; refine zG ?_)
    | (refine z7 ?_; first | (refine zK (hK _ ?_); clear hK K) | (refine zT rfl ⟨_, evl, fun nb' => ?_⟩))
    | refine zD (fun K hK => ?_)
    | (refine xD ?_; first | (refine zC false rfl (by kernel_rfl) (by kernel_rfl) (fun K hK => ?_)) | (refine zC true rfl (by kernel_rfl) (by kernel_rfl) (fun K hK => ?_)))
    | (refine zA ⟨_, evl, fun hb => ?_, fun hb => ?_⟩ <;> (try simp only [yKt, yJl, yKw, yKv, yJn, yKs, yJd, yLj, yJm, yKu, yLk, yK3, ne_eq, yLl, yJc, yLm, yKg, yKh] at hb))
   | fail
 all_goals (try (refine zR (by simp) ⟨_, _, _, evl, ob0, zV.sims ?_ fre⟩))
 all_goals first | exact z6.refl _ | (refine z6.of_eq ?_; first | rfl | (simp [dI]; done) | (simp_all [dI]; done) | (simp_all [dI]; omega) | (simp [dI]; grind) | (split <;> simp_all)) | exact yU | (refine z6.tup ?_; simp only [z8, yKn]; (repeat' apply And.intro) <;> first | exact yU | skip) | (exfalso; first | omega | (simp_all; done) | (simp_all; omega)) | skip
def qY (b p : Int) (m : List Int) : Int := (dI (b :: p :: m)).tmod 1073741789
theorem wL (b p : Int) (m : List Int) : 0 ≤ qY b p m ∧ qY b p m < 1073741789 := by
 have h := zIc (b :: p :: m)
 unfold qY
 rw [yLs h.1]
 omega
theorem k9 (b p : Int) (m : List Int) : ∀ i, i < 2 + m.length → vL 2 (yA 1 [.raw (.int .i64 b), .raw (.int .i64 p)]) (els iC m) i = els iC (b :: p :: m) i := by
 intro i hi
 match i with
 | 0 => rfl
 | 1 => rfl
 | i + 2 => rw [yV (by omega)]; rfl
theorem zMl (b p : Int) (m : List Int) (h : okI (b :: p :: m)) (hn : m.length ≤ 999998) : FnA Tryz.prog 237 [.raw (.int .i64 b), .raw (.int .i64 p), liA m] (.raw (.int .i64 (qY b p m))) := by
 have hr := zIc (b :: p :: m)
 have hc := wL b p m
 have e1 := yB9 (b :: p :: m) h (by simp) (by simp; omega)
 unfold qY at hc ⊢
 generalize dI (b :: p :: m) = d at *
 refine en Tryz.func237 Tryz.ntmps237 [.tmp 6] rfl ?_
 repeat'
  first
   | first
    | (refine zF (hK _ ?_); clear hK K)
    | refine stR ?_
    | (refine yH 1 rfl ?_; first | (refine zN rfl rfl ⟨_, evl, _, _, _, evl, yR, ?_⟩; apply Exists.intro; refine ⟨fun hg => ?_, ?_⟩; · first | exact FnA.sim e1 ⟨Sim.lstE (by simp; omega) (fun i hi => k9 b p m i hi), trivial⟩ ) | (refine xN rfl rfl ⟨_, evl, _, _, _, evl, _, _, evl, yR, ?_⟩; apply Exists.intro; refine ⟨fun hg => ?_, ?_⟩; · first | exact FnA.sim e1 ⟨Sim.lstE (by simp; omega) (fun i hi => k9 b p m i hi), trivial⟩ ))
    | (refine zS 1 rfl ?_; refine zP rfl ⟨_, evl, _, _, _, (fun _ _ => w7), yR, ?_⟩; apply Exists.intro; refine ⟨fun hg => ?_, ?_⟩; · first | exact FnA.sim e1 ⟨Sim.lstE (by simp; omega) (fun i hi => k9 b p m i hi), trivial⟩ )
    | (refine zS 1 rfl ?_; refine zG ?_)
    | (refine z7 ?_; first | (refine zK (hK _ ?_); clear hK K) | (refine zT rfl ⟨_, evl, fun nb' => ?_⟩))
    | refine zD (fun K hK => ?_)
    | (refine xD ?_; first | (refine zC false rfl (by kernel_rfl) (by kernel_rfl) (fun K hK => ?_)) | (refine zC true rfl (by kernel_rfl) (by kernel_rfl) (fun K hK => ?_)))
    | (refine zA ⟨_, evl, fun hb => ?_, fun hb => ?_⟩ <;> (try simp only [yKt, yJl, yKw, yKv, yJn, yKs, yJd, yLj, yJm, yKu, yLk, yK3, ne_eq, yLl, yJc, yLm, yKg, yKh] at hb))
   | fail
 all_goals exact fA
theorem zDt (b p : Int) (m : List Int) (h : okI (b :: p :: m)) (hn : m.length ≤ 999998) : FnA Tryz.prog 168 [.raw (.int .i64 b), .raw (.int .i64 p), liA m] (.raw (.int .i64 (qY b p m))) := by
 have hr := zIc (b :: p :: m)
 have hc := wL b p m
 have e1 := zT0 (b :: p :: m) h (by simp; omega)
 unfold qY at hc ⊢
 generalize dI (b :: p :: m) = d at *
 refine en Tryz.func168 Tryz.ntmps168 [.tmp 6] rfl ?_
 repeat'
  first
   | first
    | (refine zF (hK _ ?_); clear hK K)
    | refine stR ?_
    | (refine yH 1 rfl ?_; first | (refine zN rfl rfl ⟨_, evl, _, _, _, evl, yR, ?_⟩; apply Exists.intro; refine ⟨fun hg => ?_, ?_⟩; · first | exact FnA.sim e1 ⟨Sim.lstE (by simp; omega) (fun i hi => k9 b p m i hi), trivial⟩ ) | (refine xN rfl rfl ⟨_, evl, _, _, _, evl, _, _, evl, yR, ?_⟩; apply Exists.intro; refine ⟨fun hg => ?_, ?_⟩; · first | exact FnA.sim e1 ⟨Sim.lstE (by simp; omega) (fun i hi => k9 b p m i hi), trivial⟩ ))
    | (refine zS 1 rfl ?_; refine zP rfl ⟨_, evl, _, _, _, (fun _ _ => w7), yR, ?_⟩; apply Exists.intro; refine ⟨fun hg => ?_, ?_⟩; · first | exact FnA.sim e1 ⟨Sim.lstE (by simp; omega) (fun i hi => k9 b p m i hi), trivial⟩ )
    | (refine zS 1 rfl ?_; refine zG ?_)
    | (refine z7 ?_; first | (refine zK (hK _ ?_); clear hK K) | (refine zT rfl ⟨_, evl, fun nb' => ?_⟩))
    | refine zD (fun K hK => ?_)
    | (refine xD ?_; first | (refine zC false rfl (by kernel_rfl) (by kernel_rfl) (fun K hK => ?_)) | (refine zC true rfl (by kernel_rfl) (by kernel_rfl) (fun K hK => ?_)))
    | (refine zA ⟨_, evl, fun hb => ?_, fun hb => ?_⟩ <;> (try simp only [yKt, yJl, yKw, yKv, yJn, yKs, yJd, yLj, yJm, yKu, yLk, yK3, ne_eq, yLl, yJc, yLm, yKg, yKh] at hb))
   | fail
 all_goals exact fA
structure Sig where
 c : Int
 s : Int
 deriving Inhabited, DecidableEq
@[go_sem] def Sig.av (x : Sig) : List AV := [.raw (.int .i64 x.c), .raw (.int .i64 x.s)]
def Sig.fits (x : Sig) : Prop := (inK .i64 x.c) ∧ (inK .i64 x.s)
@[simp] theorem Sig.free (x : Sig) : AV.freeL x.av := ⟨trivial, trivial, trivial⟩
def qB (key once : Int) (m : List Int) : Sig × Int :=
 if zU key 1 && zU once 1 then (⟨qY (wD 4 once.toNat) (wD 4 key.toNat) m, (once + qY (wD 4 once.toNat) (wD 4 key.toNat) m * key).tmod 1073741789⟩, 0) else (⟨0, 0⟩, 1)
theorem yL (x low : Int) : zU x low = true ↔ low ≤ x ∧ x < 1073741789 := by simp [zU]
theorem mulQ {c k : Int} (hc : 0 ≤ c ∧ c < 1073741789) (hk : 0 ≤ k ∧ k < 1073741789) : 0 ≤ c * k ∧ c * k ≤ 1152921504606846976 := by
 refine ⟨yLt hc.1 hk.1, ?_⟩
 have := Int.mul_le_mul (show c ≤ 1073741824 by omega) (show k ≤ 1073741824 by omega) hk.1 (by omega)
 omega
theorem zNl {a x : Nat} (h : x < 18446744073709551616) : inK .i64 (wD a x : Int) := by
 have := zD7 a x h
 simp only [inK]; omega
def jS (pub : Int) (s : Sig) : Int := ((wD 4 s.s.toNat * wD pub.toNat (1073741789 - s.c).toNat % 2147483579 : Nat) : Int)
def yW (pub : Int) (s : Sig) (m : List Int) : Bool × Int :=
 if xQ pub && zU s.c 0 && zU s.s 0 then (decide (qY (jS pub s) pub m = s.c), 0) else (false, 1)
theorem yB3 {a b : Int} (ha : 0 ≤ a ∧ a < 2147483579) (hb : 0 ≤ b ∧ b < 2147483579) : 0 ≤ a * b ∧ a * b ≤ 4611686018427387904 := by
 refine ⟨yLt ha.1 hb.1, ?_⟩
 have := Int.mul_le_mul (show a ≤ 2147483648 by omega) (show b ≤ 2147483648 by omega) hb.1 (by omega)
 omega
theorem zMy (pub : Int) (s : Sig) (m : List Int) (h : okI m) (hp : inK .i64 pub) (hn : m.length ≤ 999998) : FnA Tryz.prog 200 [.raw (.int .i64 pub), .agg s.av, liA m] (.tup [.raw (.bool (yW pub s m).1), .raw (.int .i64 (yW pub s m).2)]) := by
 have hw1 := yL s.c 0
 have hw2 := yL s.s 0
 have hm := zB9 pub
 by_cases hb : xQ pub = true ∧ zU s.c 0 = true ∧ zU s.s 0 = true
 ·have hk := hw1.1 hb.2.1
  have ho := hw2.1 hb.2.2
  have hmm := hm.1 hb.1
  have hP := zJe 4 s.s (by omega) (by omega)
  have hKy := zJe pub (1073741789 - s.c) (by omega) (by omega)
  have r1 := zD7 (Int.toNat 4) s.s.toNat (by omega)
  have r2 := zD7 pub.toNat (1073741789 - s.c).toNat (by omega)
  have hmul := yB3 (a := (wD (Int.toNat 4) s.s.toNat : Int)) (b := (wD pub.toNat (1073741789 - s.c).toNat : Int)) (by omega) (by omega)
  have hbk : ((wD (Int.toNat 4) s.s.toNat : Int) * (wD pub.toNat (1073741789 - s.c).toNat : Int)).tmod 2147483579 = jS pub s := by
   rw [← yLn]; rfl
  have hbr : 0 ≤ jS pub s ∧ jS pub s < 2147483579 := by unfold jS; omega
  have hok : okI (jS pub s :: pub :: m) := by
   intro n hn
   rcases yJb.1 hn with rfl | hn
   ·simp only [inK]; omega
   ·rcases yJb.1 hn with rfl | hn
    ·exact hp
    ·exact h n hn
  have hC := zMl _ _ _ hok hn
  have e : yW pub s m = (decide (qY (jS pub s) pub m = s.c), 0) := by
   rw [yW, hb.1, hb.2.1, hb.2.2]; rfl
  rw [e]
  have hcr := wL (jS pub s) pub m
  rw [← hbk] at hC hcr ⊢
  generalize qY _ pub m = c at *
  generalize (wD (Int.toNat 4) s.s.toNat : Int) = p1 at *
  generalize (wD pub.toNat (1073741789 - s.c).toNat : Int) = p2 at *
  refine en Tryz.func200 Tryz.ntmps200 [.tmp 6, .tmp 7] rfl ?_
  repeat' first
   | refine wkg (And.intro (zE6 s.c 0) (And.intro (zE6 s.s 0) (And.intro (zEf pub) (And.intro hP (And.intro hKy hC))))) ?_
   | (refine cS (fun hb => ?_) fun hb => ?_ <;> try (cases hb; done))
   | refine sM fun K hK => ?_
   | fail
  all_goals exact fA
 ·have e : yW pub s m = (false, 1) := by
   rw [yW, if_neg (by simpa [and_assoc] using hb)]
  rw [e]
  refine en Tryz.func200 Tryz.ntmps200 [.tmp 6, .tmp 7] rfl ?_
  repeat' first
   | refine wkg (And.intro (zE6 s.c 0) (And.intro (zE6 s.s 0) (zEf pub))) ?_
   | (refine cS (fun hb => ?_) fun hb => ?_ <;> try (cases hb; done))
   | refine sM fun K hK => ?_
   | fail
  all_goals exact fA
end Go.Proofs.YtchpbdecipcelaaGreatDoor
