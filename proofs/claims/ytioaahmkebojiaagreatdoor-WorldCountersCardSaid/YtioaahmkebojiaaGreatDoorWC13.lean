import Derived.Test.YtioaahmkebojiaaGreatDoorWC01
import Derived.Test.YtioaahmkebojiaaGreatDoorWC06
import Derived.Test.YtioaahmkebojiaaGreatDoorWC12
namespace Go.Proofs.YtioaahmkebojiaaGreatDoor
open Tryz
set_option linter.unusedVariables false
set_option linter.unusedSimpArgs false
set_option maxHeartbeats 4000000
set_option maxRecDepth 100000
open Go.RowKit
def dI (l : List Int) : Int := fnvL (zZk l)
theorem zH4 (n : Int) : 0 ≤ IntKind.u64.wrap n ∧ IntKind.u64.wrap n < 18446744073709551616 := by
 rw [show IntKind.u64.wrap n = n % 18446744073709551616 from by simp only [IntKind.wrap, IntKind.bits, IntKind.signed]; simp; try omega]
 omega
theorem zSx (x : Nat → Int) (n : Nat) : 0 ≤ fnv x n ∧ fnv x n < 18446744073709551616 := by
 cases n with
 | zero => simp [fnv]
 | succ n => exact zH4 _
theorem zO8 (l : List Int) : 0 ≤ dI l ∧ dI l < 18446744073709551616 := zSx _ _
theorem zMs (l : List Int) : ∀ k, k ≤ l.length → txt (fun q => l.getD q 0) k = zZk (l.take k)
 | 0, _ => by simp [txt, zZk]
 | k + 1, h => by rw [txt, zMs l k oq, zFn l oq, zQe]
theorem yBo (l : List Int) (h : okI l) (h0 : l ≠ []) (hn : l.length ≤ 1000000) : FnA Tryz.prog 206 [liA l] (.raw (.int .u64 (dI l))) := by
 have hp : 0 < l.length := List.length_pos_iff.2 h0
 have := yBp l.length (fun q => l.getD q 0) (fun q hq => by have := zUx h hq; simpa only [inK] using this) hp hn
 rw [zMs l _ (yMj _), List.take_length] at this
 exact this.sim ⟨Sim.lstE rfl fun i _ => rfl, trivial⟩
def zCw (b p : Int) (m : List Int) : Int := (dI (b :: p :: m)).tmod 1073741789
theorem zB5 (b p : Int) (m : List Int) : 0 ≤ zCw b p m ∧ zCw b p m < 1073741789 := by
 have h := zO8 (b :: p :: m)
 unfold zCw
 rw [yPf h.1]
 omega
theorem zFd (b p : Int) (m : List Int) : ∀ i, i < 2 + m.length → q8 2 (zU 1 [.raw (.int .i64 b), .raw (.int .i64 p)]) (els iC m) i = els iC (b :: p :: m) i := by
 intro i hi
 match i with
 | 0 => rfl
 | 1 => rfl
 | i + 2 => rw [zBv oq]; rfl
theorem zF4 (b p : Int) (m : List Int) (h : okI (b :: p :: m)) (hn : m.length ≤ 999998) : FnA Tryz.prog 321 [.raw (.int .i64 b), .raw (.int .i64 p), liA m] (.raw (.int .i64 (zCw b p m))) := by
 have hr := zO8 (b :: p :: m)
 have hc := zB5 b p m
 have e1 := yBo (b :: p :: m) h sq (by simp; omega)
 unfold zCw at hc ⊢
 generalize dI (b :: p :: m) = d at *
 refine en func321 ntmps321 [.tmp 6] rfl ?_
 repeat'
  first
   | first
    | (refine zG (hK _ ?_); clear hK K)
    | refine stR ?_
    | (refine yO 1 rfl ?_; first | (refine yD rfl rfl ⟨_, evl, _, _, _, evl, wW, ?_⟩; apply Exists.intro; refine ⟨fun hg => ?_, ?_⟩; · first | exact FnA.sim e1 ⟨Sim.lstE (by simp; omega) (fun i hi => zFd b p m i hi), trivial⟩ ) | (refine zCg rfl rfl ⟨_, evl, _, _, _, evl, _, _, evl, wW, ?_⟩; apply Exists.intro; refine ⟨fun hg => ?_, ?_⟩; · first | exact FnA.sim e1 ⟨Sim.lstE (by simp; omega) (fun i hi => zFd b p m i hi), trivial⟩ ))
    | (refine z5 1 rfl ?_; refine yJ rfl ⟨_, evl, _, _, _, (fun _ _ => zBl), wW, ?_⟩; apply Exists.intro; refine ⟨fun hg => ?_, ?_⟩; · first | exact FnA.sim e1 ⟨Sim.lstE (by simp; omega) (fun i hi => zFd b p m i hi), trivial⟩ )
    | (refine z5 1 rfl ?_; refine zE ?_)
    | (refine yH ?_; first | (refine zN (hK _ ?_); clear hK K) | (refine zT rfl ⟨_, evl, fun nb' => ?_⟩))
    | refine zH (fun K hK => ?_)
    | (refine wY ?_; first | (refine zD false rfl kq kq (fun K hK => ?_)) | (refine zD true rfl kq kq (fun K hK => ?_)))
    | (refine zB ⟨_, evl, fun hb => ?_, fun hb => ?_⟩ <;> (try simp only [yOn, yNj, yOq, yOp, yNl, yOm, yNb, yP9, yNk, yOo, yPa, yO0, ne_eq, yPb, Int.not_lt, Int.not_le, yOb, yOc] at hb))
   | fail
 all_goals exact fA
structure Sig where
 c : Int
 s : Int
 deriving Inhabited, DecidableEq
@[go_sem] def Sig.av (x : Sig) : List AV := [.raw (.int .i64 x.c), .raw (.int .i64 x.s)]
def Sig.fits (x : Sig) : Prop := (inK .i64 x.c) ∧ (inK .i64 x.s)
@[simp] theorem Sig.free (x : Sig) : AV.freeL x.av := ⟨trivial, trivial, trivial⟩
def zOy (key once : Int) (m : List Int) : Sig × Int :=
 if xE key 1 && xE once 1 then (⟨zCw (zAr 4 once.toNat) (zAr 4 key.toNat) m, (once + zCw (zAr 4 once.toNat) (zAr 4 key.toNat) m * key).tmod 1073741789⟩, 0) else (⟨0, 0⟩, 1)
theorem kN (x low : Int) : xE x low = true ↔ low ≤ x ∧ x < 1073741789 := by simp [xE]
theorem mulQ {c k : Int} (hc : 0 ≤ c ∧ c < 1073741789) (hk : 0 ≤ k ∧ k < 1073741789) : 0 ≤ c * k ∧ c * k ≤ 1152921504606846976 := by
 refine ⟨yPg hc.1 hk.1, ?_⟩
 have := Int.mul_le_mul (show c ≤ 1073741824 by omega) (show k ≤ 1073741824 by omega) hk.1 oq
 omega
theorem zN8 {a x : Nat} (h : x < 18446744073709551616) : inK .i64 (zAr a x : Int) := by
 have := zLe a x h
 simp only [inK]; omega
theorem sign_A (key once : Int) (m : List Int) (h : okI m) (hn : m.length ≤ 999998) : FnA Tryz.prog 272 [.raw (.int .i64 key), .raw (.int .i64 once), liA m] (.tup [.agg (zOy key once m).1.av, .raw (.int .i64 (zOy key once m).2)]) := by
 have hw1 := kN key 1
 have hw2 := kN once 1
 by_cases hb : xE key 1 = true ∧ xE once 1 = true
 ·have hk := hw1.1 hb.1
  have ho := hw2.1 hb.2
  have hP := zFs 4 once oq oq
  have hKy := zFs 4 key oq oq
  have hok : okI ((zAr (Int.toNat 4) once.toNat : Int) :: (zAr (Int.toNat 4) key.toNat : Int) :: m) := by
   intro n hn
   rcases yNa.1 hn with rfl | hn
   ·exact zN8 oq
   ·rcases yNa.1 hn with rfl | hn
    ·exact zN8 oq
    ·exact h n hn
  have hC := zF4 _ _ _ hok hn
  have hcr := zB5 (zAr (Int.toNat 4) once.toNat) (zAr (Int.toNat 4) key.toNat) m
  have hmul := mulQ hcr (show 0 ≤ key ∧ key < 1073741789 by omega)
  have e : zOy key once m = (⟨zCw (zAr (Int.toNat 4) once.toNat) (zAr (Int.toNat 4) key.toNat) m, (once + zCw (zAr (Int.toNat 4) once.toNat) (zAr (Int.toNat 4) key.toNat) m * key).tmod 1073741789⟩, 0) := by
   rw [zOy, hb.1, hb.2]; rfl
  rw [e]
  generalize zCw (zAr (Int.toNat 4) once.toNat) (zAr (Int.toNat 4) key.toNat) m = c at *
  generalize (zAr (Int.toNat 4) once.toNat : Int) = p1 at *
  generalize (zAr (Int.toNat 4) key.toNat : Int) = p2 at *
  refine en func272 ntmps272 [.cell 6 160, .tmp 7] rfl ?_
  repeat' first
   | refine wkg (And.intro (qT key 1) (And.intro (qT once 1) (And.intro hP (And.intro hKy hC)))) ?_
   | (refine cS (fun hb => ?_) fun hb => ?_ <;> try (cases hb; done))
   | refine sM fun K hK => ?_
   | fail
  all_goals (try (refine yA sq ⟨_, _, _, evl, ob0, yP.sims ?_ fre⟩))
  all_goals first | exact xD.refl _ | (refine xD.of_eq ?_; first | rfl | (simp [Sig.av]; done) | (simp_all [Sig.av]; done) | (simp_all [Sig.av]; omega) | (simp [Sig.av]; grind) | (split <;> simp_all)) | exact x7 | (refine xD.tup ?_; simp only [xF, yOi]; (repeat' apply And.intro) <;> first | exact x7 | skip) | (exfalso; first | omega | (simp_all; done) | (simp_all; omega)) | skip
 ·have e : zOy key once m = (⟨0, 0⟩, 1) := by
   rw [zOy, if_neg (by simpa using hb)]
  rw [e]
  refine en func272 ntmps272 [.cell 6 160, .tmp 7] rfl ?_
  repeat' first
   | refine wkg (And.intro (qT key 1) (qT once 1)) ?_
   | (refine cS (fun hb => ?_) fun hb => ?_ <;> try (cases hb; done))
   | refine sM fun K hK => ?_
   | fail
  all_goals (try (refine yA sq ⟨_, _, _, evl, ob0, yP.sims ?_ fre⟩))
  all_goals first | exact xD.refl _ | (refine xD.of_eq ?_; first | rfl | (simp [Sig.av]; done) | (simp_all [Sig.av]; done) | (simp_all [Sig.av]; omega) | (simp [Sig.av]; grind) | (split <;> simp_all)) | exact x7 | (refine xD.tup ?_; simp only [xF, yOi]; (repeat' apply And.intro) <;> first | exact x7 | skip) | (exfalso; first | omega | (simp_all; done) | (simp_all; omega)) | skip
def zKa (pub : Int) (s : Sig) : Int := ((zAr 4 s.s.toNat * zAr pub.toNat (1073741789 - s.c).toNat % 2147483579 : Nat) : Int)
def qH (pub : Int) (s : Sig) (m : List Int) : Bool × Int :=
 if q7 pub && xE s.c 0 && xE s.s 0 then (decide (zCw (zKa pub s) pub m = s.c), 0) else (false, 1)
theorem yL0 {a b : Int} (ha : 0 ≤ a ∧ a < 2147483579) (hb : 0 ≤ b ∧ b < 2147483579) : 0 ≤ a * b ∧ a * b ≤ 4611686018427387904 := by
 refine ⟨yPg ha.1 hb.1, ?_⟩
 have := Int.mul_le_mul (show a ≤ 2147483648 by omega) (show b ≤ 2147483648 by omega) hb.1 oq
 omega
theorem zUd (pub : Int) (s : Sig) (m : List Int) (h : okI m) (hp : inK .i64 pub) (hn : m.length ≤ 999998) : FnA Tryz.prog 288 [.raw (.int .i64 pub), .agg s.av, liA m] (.tup [.raw (.bool (qH pub s m).1), .raw (.int .i64 (qH pub s m).2)]) := by
 have hw1 := kN s.c 0
 have hw2 := kN s.s 0
 have hm := zLl pub
 by_cases hb : q7 pub = true ∧ xE s.c 0 = true ∧ xE s.s 0 = true
 ·have hk := hw1.1 hb.2.1
  have ho := hw2.1 hb.2.2
  have hmm := hm.1 hb.1
  have hP := zFs 4 s.s oq oq
  have hKy := zFs pub (1073741789 - s.c) oq oq
  have r1 := zLe (Int.toNat 4) s.s.toNat oq
  have r2 := zLe pub.toNat (1073741789 - s.c).toNat oq
  have hmul := yL0 (a := (zAr (Int.toNat 4) s.s.toNat : Int)) (b := (zAr pub.toNat (1073741789 - s.c).toNat : Int)) oq oq
  have hbk : ((zAr (Int.toNat 4) s.s.toNat : Int) * (zAr pub.toNat (1073741789 - s.c).toNat : Int)).tmod 2147483579 = zKa pub s := by
   rw [← Int.natCast_mul]; rfl
  have hbr : 0 ≤ zKa pub s ∧ zKa pub s < 2147483579 := by unfold zKa; omega
  have hok : okI (zKa pub s :: pub :: m) := by
   intro n hn
   rcases yNa.1 hn with rfl | hn
   ·simp only [inK]; omega
   ·rcases yNa.1 hn with rfl | hn
    ·exact hp
    ·exact h n hn
  have hC := zF4 _ _ _ hok hn
  have e : qH pub s m = (decide (zCw (zKa pub s) pub m = s.c), 0) := by
   rw [qH, hb.1, hb.2.1, hb.2.2]; rfl
  rw [e]
  have hcr := zB5 (zKa pub s) pub m
  rw [← hbk] at hC hcr ⊢
  generalize zCw _ pub m = c at *
  generalize (zAr (Int.toNat 4) s.s.toNat : Int) = p1 at *
  generalize (zAr pub.toNat (1073741789 - s.c).toNat : Int) = p2 at *
  refine en func288 ntmps288 [.tmp 6, .tmp 7] rfl ?_
  repeat' first
   | refine wkg (And.intro (qT s.c 0) (And.intro (qT s.s 0) (And.intro (zDm pub) (And.intro hP (And.intro hKy hC))))) ?_
   | (refine cS (fun hb => ?_) fun hb => ?_ <;> try (cases hb; done))
   | refine sM fun K hK => ?_
   | fail
  all_goals exact fA
 ·have e : qH pub s m = (false, 1) := by
   rw [qH, if_neg (by simpa [and_assoc] using hb)]
  rw [e]
  refine en func288 ntmps288 [.tmp 6, .tmp 7] rfl ?_
  repeat' first
   | refine wkg (And.intro (qT s.c 0) (And.intro (qT s.s 0) (zDm pub))) ?_
   | (refine cS (fun hb => ?_) fun hb => ?_ <;> try (cases hb; done))
   | refine sM fun K hK => ?_
   | fail
  all_goals exact fA
structure z9 where
 auth : Int
 id : Int
 pub : Int
 from_ : Int
 until_ : Int
 sig : Sig
 deriving Inhabited, DecidableEq
@[go_sem] def z9.av (x : z9) : List AV := [.raw (.int .i64 x.auth), .raw (.int .i64 x.id), .raw (.int .i64 x.pub), .raw (.int .i64 x.from_), .raw (.int .i64 x.until_), .raw (.int .i64 x.sig.c), .raw (.int .i64 x.sig.s)]
def z9.fits (x : z9) : Prop := (inK .i64 x.auth) ∧ (inK .i64 x.id) ∧ (inK .i64 x.pub) ∧ (inK .i64 x.from_) ∧ (inK .i64 x.until_) ∧ (x.sig.fits)
@[simp] theorem z9.free (x : z9) : AV.freeL x.av := ⟨trivial, trivial, trivial, trivial, trivial, trivial, trivial, trivial⟩
theorem zK8 (n lo hi : Int) : FnA Tryz.prog 327 [.raw (.int .i64 n), .raw (.int .i64 lo), .raw (.int .i64 hi)] (.raw (.bool (decide (lo ≤ n) && decide (n ≤ hi)))) := by
 refine en func327 ntmps327 [.tmp 6] rfl ?_
 repeat' first
  | refine wkg trivial ?_
  | (refine cS (fun hb => ?_) fun hb => ?_ <;> try (cases hb; done))
  | refine sM fun K hK => ?_
  | fail
 all_goals exact fA
def vX (k : z9) : Prop := 1 ≤ k.auth ∧ k.auth ≤ 16 ∧ 1 ≤ k.id ∧ k.id ≤ 1000 ∧ 0 ≤ k.from_ ∧ k.from_ < k.until_ ∧ k.until_ ≤ 3000000000000000 ∧ k.pub ≠ 1 ∧ q7 k.pub = true ∧ xE k.sig.c 0 = true ∧ xE k.sig.s 0 = true
instance (k : z9) : Decidable (vX k) := by unfold vX; infer_instance
theorem formed_A (k : z9) : FnA Tryz.prog 282 [.agg k.av] (.raw (.bool (decide (vX k)))) := by
 refine en func282 ntmps282 [.tmp 2] rfl ?_
 repeat' first
  | (refine wkM hK (And.intro zK8 zDm) ?_)
  | refine wkg (And.intro zK8 zDm) ?_
  | (refine cS (fun hb => ?_) fun hb => ?_ <;> try (cases hb; done))
  | refine sM fun K hK => ?_
  | fail
 all_goals (try (refine yA sq ⟨_, _, _, evl, ob0, yP.sims ?_ fre⟩))
 all_goals first | exact xD.refl _ | (refine xD.of_eq ?_; first | rfl | (simp [vX]; done) | (simp_all [vX]; done) | (simp_all [vX]; omega) | (simp [vX, xE]; grind) | (simp [vX]; grind) | (split <;> simp_all)) | exact x7 | (refine xD.tup ?_; simp only [xF, yOi]; (repeat' apply And.intro) <;> first | exact x7 | skip) | (exfalso; first | omega | (simp_all; done) | (simp_all; omega)) | skip
def zPd (k : z9) : List Int := [k.auth, k.id, k.pub, k.from_, k.until_]
theorem zYf (l : List Int) : FnA Tryz.prog 349 [liA l] (liA l) := by
 refine en func349 ntmps349 [.tmp 2] rfl ?_
 repeat' first
  | refine wkg trivial ?_
  | (refine cS (fun hb => ?_) fun hb => ?_ <;> try (cases hb; done))
  | refine sM fun K hK => ?_
  | fail
 all_goals exact fA
theorem zS7 (k : z9) : FnA Tryz.prog 347 [.agg k.av] (liA (zPd k)) := by
 refine en func347 ntmps347 [.tmp 2] rfl ?_
 repeat' first
  | refine wkg (zYf (zPd k)) ?_
  | (refine cS (fun hb => ?_) fun hb => ?_ <;> try (cases hb; done))
  | refine sM fun K hK => ?_
  | fail
 all_goals exact fA

theorem zDe (l : List z9) (hl : l.length ≤ 4611686018427387904) (g : FuncId) (cap : List AV) (hcap : AV.freeL cap) (p : z9 → Bool) (hp : ∀ x ∈ l, FnA Tryz.prog g (.agg x.av :: cap) (.raw (.bool (p x)))) :
  FnA Tryz.prog 346 [lA 7 z9.av l, .fn (.func g) [] cap] (.raw (.int .i64 (zNr p l))) := by
 refine en func346 ntmps346 [.tmp 4] rfl ?_
 try (refine wg ?_; try refine sM fun K hK => ?_)
 refine zP (fun k : Nat => ⟨19, 0, [(0, true, lA 7 z9.av l), (1, true, .fn (.func g) [] cap), (7, true, .raw (.int .i64 l.length)), (8, true, .raw (.int .i64 k))], [], [], ((0, []), [], true)⟩)
  (fun k => k ≤ l.length ∧ ∀ i, i < k → p (l.getD i default) = false) (fun k => l.length - k) 0 ?_ ⟨by omega, fun i h => by omega⟩ ?_
 ·exact wkZ
 ·rintro k ⟨hk, hall⟩
  try (refine wg ?_; try refine sM fun K hK => ?_)
  refine zB ⟨_, evl, ?_, ?_⟩
  ·intro hlt
   simp only [yNk] at hlt
   have hmem : l.getD k default ∈ l := by rw [yNh, yNf (show k < l.length by omega)]; exact yP5 _
   have hpk := hp _ hmem
   have hfe : AV.freeL (z9.av (l.getD k default)) := by first | exact z9.free _ | (simp [AV.free, AV.freeL, iC, u8C, kC]; done)
   try (refine wkg hpk ?_; try refine sM fun K hK => ?_)
   refine zB ⟨_, evl, ?_, ?_⟩
   ·intro hb
    try (refine wg ?_; try refine sM fun K hK => ?_)
    refine rq ?_ ?_
    ·rw [zDo (show k < l.length by omega) hall hb]
    ·simp [AV.free]
   ·intro hb
    try (refine wg ?_; try refine sM fun K hK => ?_)
    refine ⟨k + 1, ⟨by omega, fun i hi => ?_⟩, by omega, ?_⟩
    ·rcases yPh.1 hi with h | rfl
     ·exact hall i h
     ·exact hb
    ·exact wkZ
  ·intro hge
   simp only [yOo] at hge
   try (refine wg ?_; try refine sM fun K hK => ?_)
   refine rq ?_ ?_
   ·rw [zBh (fun i hi => hall i oq)]
   ·simp [AV.free]
theorem zB4 (l : List z9) (hl : l.length ≤ 4611686018427387904) (g : FuncId) (cap : List AV) (hcap : AV.freeL cap) (p : z9 → Bool) (hp : ∀ x ∈ l, FnA Tryz.prog g (.agg x.av :: cap) (.raw (.bool (p x)))) :
  FnA Tryz.prog 325 [lA 7 z9.av l, .fn (.func g) [] cap] (.raw (.bool (l.any p))) := by
 have hi := zDe l hl g cap hcap p hp
 have hany := zDp p l
 have hfr : (lA 7 z9.av l).free := zO (fun y => z9.free y) _
 generalize lA 7 z9.av l = L at hi hfr
 generalize zNr p l = i at hi hany
 refine en func325 ntmps325 [.tmp 4] rfl ?_
 repeat' first
  | refine wkg hi ?_
  | (refine cS (fun hb => ?_) fun hb => ?_ <;> try (cases hb; done))
  | refine sM fun K hK => ?_
  | fail
 all_goals (try (refine yA sq ⟨_, _, _, evl, ob0, yP.sims ?_ fre⟩))
 all_goals first | exact xD.refl _ | exact yBw | exact x7 | (refine xD.tup ?_; simp only [xF, yOi]; (repeat' apply And.intro) <;> first | exact x7 | skip) | (exfalso; first | omega | (simp_all; done) | (simp_all; omega)) | skip
 all_goals (rw [hany])
theorem zSf (x : Int) : FnA Tryz.prog 155 [.raw (.int .i64 x)] (.raw (.bool false)) := by
 refine en func155 ntmps155 [.tmp 2] rfl ?_
 repeat' first
  | refine wkg trivial ?_
  | (refine cS (fun hb => ?_) fun hb => ?_ <;> try (cases hb; done))
  | refine sM fun K hK => ?_
  | fail
 all_goals exact fA
def zT9 (x y : Int) : Int := if x < y then -1 else if y < x then 1 else 0
theorem zH0 (x y : Int) : FnA Tryz.prog 104 [.raw (.int .i64 x), .raw (.int .i64 y)] (.raw (.int .i64 (zT9 x y))) := by
 refine en func104 ntmps104 [.tmp 4] rfl ?_
 repeat' first
  | (refine wkM hK zSf ?_)
  | refine wkg zSf ?_
  | (refine cS (fun hb => ?_) fun hb => ?_ <;> try (cases hb; done))
  | refine sM fun K hK => ?_
  | fail
 all_goals (try (refine yA sq ⟨_, _, _, evl, ob0, yP.sims ?_ fre⟩))
 all_goals first | exact xD.refl _ | (refine xD.of_eq ?_; first | rfl | (simp [zT9]; done) | (simp_all [zT9]; done) | (simp_all [zT9]; omega) | (simp [zT9]; grind) | (split <;> simp_all)) | exact x7 | (refine xD.tup ?_; simp only [xF, yOi]; (repeat' apply And.intro) <;> first | exact x7 | skip) | (exfalso; first | omega | (simp_all; done) | (simp_all; omega)) | skip
theorem yKz (a b : Int) : FnA Tryz.prog 103 [liA [a, b]] (.raw (.int .i64 (if a = 0 then b else a))) := by
 refine en func103 ntmps103 [.tmp 2] rfl ?_
 try (refine wg ?_; try refine sM fun K hK => ?_)
 refine zP (fun k : Nat => ⟨18, 0, [(3, true, .raw (.int .i64 0)), (6, true, liA [a, b]), (7, true, .raw (.int .i64 2)), (8, true, .raw (.int .i64 k))], [], [], ((0, []), [], true)⟩)
  (fun k => k ≤ 2 ∧ ∀ i, i < k → [a, b].getD i 0 = 0) (fun k => 2 - k) 0 ?_ ⟨by omega, fun i h => by omega⟩ ?_
 ·exact wkZ
 ·rintro k ⟨hk, hall⟩
  try (refine wg ?_; try refine sM fun K hK => ?_)
  refine zB ⟨_, evl, ?_, ?_⟩
  ·intro hlt
   simp only [yNk] at hlt
   try (refine wg ?_; try refine sM fun K hK => ?_)
   refine zB ⟨_, evl, ?_, ?_⟩
   ·intro hb
    try (refine wg ?_; try refine sM fun K hK => ?_)
    refine rq ?_ ?_
    ·match k, hlt, hall, hb with
     | 0, _, _, hb => simp at hb; simp [hb]
     | 1, _, hall, hb => have := hall 0 oq; simp at this hb; simp [this]
    ·simp [AV.free]
   ·intro hb
    try (refine wg ?_; try refine sM fun K hK => ?_)
    refine ⟨k + 1, ⟨by omega, fun i hi => ?_⟩, by omega, ?_⟩
    ·rcases yPh.1 hi with h | rfl
     ·exact hall i h
     ·simpa using hb
    ·exact wkZ
  ·intro hge
   simp only [yOo] at hge
   obtain rfl : k = 2 := by omega
   have h0 := hall 0 oq
   have h1 := hall 1 oq
   simp at h0 h1
   try (refine wg ?_; try refine sM fun K hK => ?_)
   refine rq ?_ ?_
   ·simp [h0, h1]
   ·simp [AV.free]
theorem yB {α : Type} [Inhabited α] {l : List α} {i : Nat} (h : i < l.length) : l.getD i default = l[i] := by simp [h]
end Go.Proofs.YtioaahmkebojiaaGreatDoor
