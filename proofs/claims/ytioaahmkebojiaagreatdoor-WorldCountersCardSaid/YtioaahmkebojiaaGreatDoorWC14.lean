import Derived.Test.YtioaahmkebojiaaGreatDoorWC01
import Derived.Lib.Mul64
import Derived.Test.YtioaahmkebojiaaGreatDoorWC10
import Derived.Test.YtioaahmkebojiaaGreatDoorWC13
namespace Go.Proofs.YtioaahmkebojiaaGreatDoor
open Tryz
set_option linter.unusedVariables false
set_option linter.unusedSimpArgs false
set_option maxHeartbeats 4000000
set_option maxRecDepth 100000
open Go.RowKit
def wB (a b : z9) : Prop := b.auth = a.auth ∧ b.id = a.id + 1 ∧ a.from_ < b.from_ ∧ b.from_ ≤ a.until_ ∧ a.until_ < b.until_
instance (a b : z9) : Decidable (wB a b) := by unfold wB; infer_instance
theorem zSv (a b : z9) (h : a.id ≤ 1000 ∧ 1 ≤ a.id) : FnA Tryz.prog 328 [.agg a.av, .agg b.av] (.raw (.bool (decide (wB a b)))) := by
 refine en func328 ntmps328 [.tmp 4] rfl ?_
 repeat' first
  | refine wkg trivial ?_
  | (refine cS (fun hb => ?_) fun hb => ?_ <;> try (cases hb; done))
  | refine sM fun K hK => ?_
  | fail
 all_goals (try (refine yA sq ⟨_, _, _, evl, ob0, yP.sims ?_ fre⟩))
 all_goals first | exact xD.refl _ | (refine xD.of_eq ?_; first | rfl | (simp [wB]; done) | (simp_all [wB]; done) | (simp_all [wB]; omega) | (simp [wB]; grind) | (simp [wB]; grind) | (split <;> simp_all)) | exact x7 | (refine xD.tup ?_; simp only [xF, yOi]; (repeat' apply And.intro) <;> first | exact x7 | skip) | (exfalso; first | omega | (simp_all; done) | (simp_all; omega)) | skip
theorem zY1 {k : z9} (h : k.fits) : okI (zPd k) := by
 obtain ⟨h1, h2, h3, h4, h5, h6⟩ := h
 simp only [okI, zPd, yOd]
 exact ⟨h1, h2, h3, h4, h5, by simp⟩
def jO (a b : z9) : Bool := (qH a.pub b.sig (zPd b)).1
theorem zUl (a b : z9) (ha : a.fits) (hb : b.fits) : FnA Tryz.prog 329 [.agg a.av, .agg b.av] (.raw (.bool (jO a b))) := by
 have hm := zS7 b
 have hv := zUd a.pub b.sig (zPd b) (zY1 hb) ha.2.2.1 (by simp [zPd])
 have e : ((qH a.pub b.sig (zPd b)).1 && decide ((qH a.pub b.sig (zPd b)).2 = 0)) = jO a b := by
  unfold jO qH; split <;> simp
 have hfr : (liA (zPd b)).free := zO (fun _ => by simp [AV.free, AV.freeL, iC]) (zPd b)
 generalize jO a b = s at *
 generalize qH a.pub b.sig (zPd b) = v at *
 generalize liA (zPd b) = L at *
 refine en func329 ntmps329 [.tmp 4] rfl ?_
 repeat' first
  | refine wkg (And.intro hm hv) ?_
  | (refine cS (fun hb => ?_) fun hb => ?_ <;> try (cases hb; done))
  | refine sM fun K hK => ?_
  | fail
 all_goals exact fA
structure Iv where
 lo : Int
 hi : Int
 deriving Inhabited, DecidableEq
@[go_sem] def Iv.av (x : Iv) : List AV := [.raw (.int .i64 x.lo), .raw (.int .i64 x.hi)]
@[simp] theorem Iv.free (x : Iv) : AV.freeL x.av := ⟨trivial, trivial, trivial⟩
def jI (l : List z9) (i : Nat) : Prop :=
 if i = 0 ∨ (l.getD (i - 1) default).auth < (l.getD i default).auth then (l.getD i default).id = 1 ∧ (l.getD i default).sig.c = 0 ∧ (l.getD i default).sig.s = 0
 else wB (l.getD (i - 1) default) (l.getD i default) ∧ jO (l.getD (i - 1) default) (l.getD i default) = true
instance (l : List z9) (i : Nat) : Decidable (jI l i) := by unfold jI; infer_instance
theorem zXs (l : List z9) (hl : l.length ≤ 4611686018427387904) (hf : ∀ k ∈ l, k.fits ∧ vX k) (i : Nat) (hi : i < l.length) : FnA Tryz.prog 283 [lA 7 z9.av l, .raw (.int .i64 i)] (.raw (.bool (decide (jI l i)))) := by
 have m1 : l.getD i default ∈ l := by rw [yB hi]; exact yP5 _
 rcases yNc i with rfl | h0
 ·refine en func283 ntmps283 [.tmp 4] rfl ?_
  repeat' first
   | refine wkg trivial ?_
   | (refine cS (fun hb => ?_) fun hb => ?_ <;> try (cases hb; done))
   | refine sM fun K hK => ?_
   | fail
  all_goals (try (refine yA sq ⟨_, _, _, evl, ob0, yP.sims ?_ fre⟩))
  all_goals first | exact xD.refl _ | (refine xD.of_eq ?_; first | rfl | (simp [jI]; done) | (simp_all [jI]; done) | (simp_all [jI]; omega) | (simp [jI]; grind) | (split <;> simp_all)) | exact x7 | (refine xD.tup ?_; simp only [xF, yOi]; (repeat' apply And.intro) <;> first | exact x7 | skip) | (exfalso; first | omega | (simp_all; done) | (simp_all; omega)) | skip
 ·have e1 : ((i : Int) - 1).toNat = i - 1 := by omega
  have m2 : l.getD ((i : Int) - 1).toNat default ∈ l := by rw [e1, yB oq]; exact yP5 _
  have h1 := hf _ m1
  have h2 := hf _ m2
  have f1 := zSv (l.getD ((i : Int) - 1).toNat default) (l.getD i default) ⟨h2.2.2.2.2.1, h2.2.2.2.1⟩
  have f2 := zUl (l.getD ((i : Int) - 1).toNat default) (l.getD i default) h2.1 h1.1
  have er : jI l i = (if (l.getD ((i : Int) - 1).toNat default).auth < (l.getD i default).auth then (l.getD i default).id = 1 ∧ (l.getD i default).sig.c = 0 ∧ (l.getD i default).sig.s = 0
   else wB (l.getD ((i : Int) - 1).toNat default) (l.getD i default) ∧ jO (l.getD ((i : Int) - 1).toNat default) (l.getD i default) = true) := by
   rw [jI, e1]; simp only [show ¬ i = 0 from by omega, false_or]
  have ed : decide (jI l i) = (if (l.getD ((i : Int) - 1).toNat default).auth < (l.getD i default).auth then decide ((l.getD i default).id = 1) && (decide ((l.getD i default).sig.c = 0) && decide ((l.getD i default).sig.s = 0))
   else decide (wB (l.getD ((i : Int) - 1).toNat default) (l.getD i default)) && jO (l.getD ((i : Int) - 1).toNat default) (l.getD i default)) := by
   by_cases hlt : (l.getD ((i : Int) - 1).toNat default).auth < (l.getD i default).auth
   ·rw [if_pos hlt] at er ⊢; simp only [er, Bool.decide_and]
   ·rw [if_neg hlt] at er ⊢; simp only [er, Bool.decide_and, Bool.decide_eq_true]
  rw [ed]
  clear er ed h1 h2 m1 m2 hf
  generalize decide (wB (l.getD ((i : Int) - 1).toNat default) (l.getD i default)) = b1 at *
  generalize jO (l.getD ((i : Int) - 1).toNat default) (l.getD i default) = b2 at *
  refine en func283 ntmps283 [.tmp 4] rfl ?_
  repeat' first
   | refine wkg (And.intro f1 f2) ?_
   | (refine cS (fun hb => ?_) fun hb => ?_ <;> try (cases hb; done))
   | refine sM fun K hK => ?_
   | fail
  all_goals exact fA
theorem yCf (g : FuncId) (k : z9) (b : Bool) (h : FnA Tryz.prog g [.agg k.av] (.raw (.bool b))) : FnA Tryz.prog 326 [.agg k.av, .elt [.raw (.func (.func g) #[] #[])] 0] (.raw (.bool (!b))) := by
 refine en func326 ntmps326 [.tmp 3] rfl ?_
 repeat' first
  | refine wkg h ?_
  | (refine cS (fun hb => ?_) fun hb => ?_ <;> try (cases hb; done))
  | refine sM fun K hK => ?_
  | fail
 all_goals exact fA
theorem yLy (l : List z9) (hl : l.length ≤ 4611686018427387904) (g : FuncId) (p : z9 → Bool) (h : ∀ k ∈ l, FnA Tryz.prog g [.agg k.av] (.raw (.bool (p k)))) : FnA Tryz.prog 281 [lA 7 z9.av l, .raw (.func (.func g) #[] #[])] (.raw (.bool (l.all p))) := by
 have hc := zB4 l hl 326 [.elt [.raw (.func (.func g) #[] #[])] 0] (by simp [AV.freeL, AV.free]) (fun k => !p k) (fun x hx => yCf g x _ (h x hx))
 have hfr : (lA 7 z9.av l).free := zO (fun y => z9.free y) _
 have he : (!l.any fun k => !p k) = l.all p := by simp [List.all_eq_not_any_not]
 rw [← he]
 clear he
 refine en func281 ntmps281 [.tmp 4] rfl ?_
 repeat'
  first
   | first
    | (refine zG (hK _ ?_); clear hK K)
    | refine stG ?_
    | (refine yO 1 rfl ?_; refine yD rfl rfl ⟨_, evl, _, _, _, evl, wW, ?_⟩; apply Exists.intro; refine ⟨fun hg => ?_, ?_⟩; · first | exact FnA.at_ (hc) rfl rfl | exact FnA.at_s (hc) rfl vV | exact FnA.at_s (hc) rfl vW)
    | (refine z5 1 rfl ?_; refine yJ rfl ⟨_, evl, _, _, _, (fun _ _ => zBl), wW, ?_⟩; apply Exists.intro; refine ⟨fun hg => ?_, ?_⟩; · first | exact FnA.at_ (hc) rfl rfl | exact FnA.at_s (hc) rfl vV | exact FnA.at_s (hc) rfl vW)
    | (refine z5 1 rfl ?_; refine zE ?_)
    | (refine yH ?_; first | (refine zN (hK _ ?_); clear hK K) | (refine zT rfl ⟨_, evl, fun nb' => ?_⟩))
    | refine zH (fun K hK => ?_)
    | (refine wY ?_; first | (refine zD false rfl kq kq (fun K hK => ?_)) | (refine zD true rfl kq kq (fun K hK => ?_)))
    | (refine zB ⟨_, evl, fun hb => ?_, fun hb => ?_⟩ <;> (try simp only [yOn, yNj, yOq, yOp, yNl, yOm, yNb, yP9, yNk, yOo, yPa, yO0, ne_eq, yPb, Int.not_lt, Int.not_le, yOb, yOc] at hb))
   | fail
 refine zAn 0 obf ⟨_, evl, _, evl, ?_⟩
 repeat'
  first
   | first
    | (refine zG (hK _ ?_); clear hK K)
    | refine stG ?_
    | (refine yO 1 rfl ?_; refine yD rfl rfl ⟨_, evl, _, _, _, evl, wW, ?_⟩; apply Exists.intro; refine ⟨fun hg => ?_, ?_⟩; · first | exact FnA.at_ (hc) rfl rfl | exact FnA.at_s (hc) rfl vV | exact FnA.at_s (hc) rfl vW)
    | (refine z5 1 rfl ?_; refine yJ rfl ⟨_, evl, _, _, _, (fun _ _ => zBl), wW, ?_⟩; apply Exists.intro; refine ⟨fun hg => ?_, ?_⟩; · first | exact FnA.at_ (hc) rfl rfl | exact FnA.at_s (hc) rfl vV | exact FnA.at_s (hc) rfl vW)
    | (refine z5 1 rfl ?_; refine zE ?_)
    | (refine yH ?_; first | (refine zN (hK _ ?_); clear hK K) | (refine zT rfl ⟨_, evl, fun nb' => ?_⟩))
    | refine zH (fun K hK => ?_)
    | (refine wY ?_; first | (refine zD false rfl kq kq (fun K hK => ?_)) | (refine zD true rfl kq kq (fun K hK => ?_)))
    | (refine zB ⟨_, evl, fun hb => ?_, fun hb => ?_⟩ <;> (try simp only [yOn, yNj, yOq, yOp, yNl, yOm, yNb, yP9, yNk, yOo, yPa, yO0, ne_eq, yPb, Int.not_lt, Int.not_le, yOb, yOc] at hb))
   | fail
 all_goals exact fA
def ValidP (l : List z9) : Prop := l.length ≤ 100 ∧ (∀ k ∈ l, vX k) ∧ ∀ i, i < l.length → jI l i
instance (l : List z9) : Decidable (ValidP l) := by unfold ValidP; infer_instance
theorem valid_A (l : List z9) (hl : l.length ≤ 4611686018427387904) (hf : ∀ k ∈ l, k.fits) : FnA Tryz.prog 219 [lA 7 z9.av l] (.raw (.bool (decide (ValidP l)))) := by
 have ha := yLy l hl _ _ fun k _ => formed_A k
 have hall : l.all (fun k => decide (vX k)) = true ↔ ∀ k ∈ l, vX k := by simp [yP7]
 have hr := fun h i hi => zXs l hl (fun k hk => ⟨hf k hk, hall.1 h k hk⟩) i hi
 refine en func219 ntmps219 [.tmp 2] rfl ?_
 repeat' first
  | refine wkg ha ?_
  | (refine cS (fun hb => ?_) fun hb => ?_ <;> try (cases hb; done))
  | refine sM fun K hK => ?_
  | fail
 ·refine yA sq ⟨_, _, _, evl, ob0, yP.eq ?_ (by simp [AV.free])⟩
  simp only [AV.raw.injEq, Value.bool.injEq]
  rw [eq_comm, yOo]
  rintro ⟨h1, h2, _⟩
  rcases hb with h | h
  ·omega
  ·rw [hall.2 h2] at h; cases h
 ·refine zP (fun k : Nat => ⟨22, 0, [(0, true, lA 7 z9.av l), (13, true, .raw (.int .i64 l.length)), (14, true, .raw (.int .i64 k))], [], [], ((0, []), [], true)⟩)
   (fun k => k ≤ l.length ∧ ∀ i, i < k → jI l i) (fun k => l.length - k) 0 ?_ ⟨by omega, fun i h => by omega⟩ ?_
  ·exact wkZ
  ·rintro k ⟨hk, hr2⟩
   have hb0 := hb
   repeat'
    first
     | first
      | (refine zG (hK _ ?_); clear hK K)
      | refine stG ?_
      | (refine yO 1 rfl ?_; refine yD rfl rfl ⟨_, evl, _, _, _, evl, wW, ?_⟩; apply Exists.intro; refine ⟨fun hg => ?_, ?_⟩; · first | exact FnA.at_ (hr (by simp_all) k oq) rfl rfl | exact FnA.at_s (hr (by simp_all) k oq) rfl vV | exact FnA.at_s (hr (by simp_all) k oq) rfl vW)
      | (refine z5 1 rfl ?_; refine yJ rfl ⟨_, evl, _, _, _, (fun _ _ => zBl), wW, ?_⟩; apply Exists.intro; refine ⟨fun hg => ?_, ?_⟩; · first | exact FnA.at_ (hr (by simp_all) k oq) rfl rfl | exact FnA.at_s (hr (by simp_all) k oq) rfl vV | exact FnA.at_s (hr (by simp_all) k oq) rfl vW)
      | (refine z5 1 rfl ?_; refine zE ?_)
      | (refine yH ?_; first | (refine zN (hK _ ?_); clear hK K) | (refine zT rfl ⟨_, evl, fun nb' => ?_⟩))
      | refine zH (fun K hK => ?_)
      | (refine wY ?_; first | (refine zD false rfl kq kq (fun K hK => ?_)) | (refine zD true rfl kq kq (fun K hK => ?_)))
      | (refine zB ⟨_, evl, fun hb => ?_, fun hb => ?_⟩ <;> (try simp only [yOn, yNj, yOq, yOp, yNl, yOm, yNb, yP9, yNk, yOo, yPa, yO0, ne_eq, yPb, Int.not_lt, Int.not_le, yOb, yOc] at hb))
     | fail
   ·refine yA sq ⟨_, _, _, evl, ob0, yP.eq ?_ (by simp [AV.free])⟩
    simp only [AV.raw.injEq, Value.bool.injEq]
    rw [eq_comm, yOo]
    rintro ⟨_, _, h3⟩
    exact hb (h3 k oq)
   ·refine ⟨k + 1, ⟨by omega, fun i hi => ?_⟩, by omega, ?_⟩
    ·rcases yPh.1 hi with h | rfl
     ·exact hr2 i h
     ·exact hb
    ·exact wkZ
   ·refine yA sq ⟨_, _, _, evl, ob0, yP.eq ?_ (by simp [AV.free])⟩
    simp only [AV.raw.injEq, Value.bool.injEq]
    rw [eq_comm, yNk]
    exact ⟨by omega, hall.1 hb0.2, fun i hi => hr2 i oq⟩
def zAb {α : Type} [Inhabited α] (p : α → Bool) (l : List α) : Nat → Int
 | 0 => -1
 | k + 1 => if p (l.getD k default) then k else zAb p l k
theorem zEo {α : Type} [Inhabited α] (p : α → Bool) (l : List α) : ∀ k, -1 ≤ zAb p l k ∧ zAb p l k < k
 | 0 => by simp [zAb]
 | k + 1 => by
  have := zEo p l k
  unfold zAb
  split <;> omega
theorem zXo {n : Int} : n.fdiv (2 ^ min (Int.toNat 32) 64) = n / 4294967296 := by
 rw [yPd _ dq]
 rfl
theorem zTr {n : Int} (h : inK .u64 n) : zF9 .and .u64 n 4294967295 = n % 4294967296 := by
 simp only [inK] at h
 obtain ⟨x, rfl⟩ := yPi h.1
 have e : ((BitVec.ofInt 64 (x : Int) &&& BitVec.ofInt 64 4294967295).toNat : Int) = (x % 4294967296 : Nat) := by
  rw [BitVec.toNat_and, BitVec.toNat_ofInt, BitVec.toNat_ofInt]
  have e1 : ((x : Int) % ((2 ^ 64 : Nat) : Int)).toNat = x := by omega
  have e2 : ((4294967295 : Int) % ((2 ^ 64 : Nat) : Int)).toNat = 2 ^ 32 - 1 := by decide
  rw [e1, e2, Nat.and_two_pow_sub_one_eq_mod]
 show IntKind.u64.wrap _ = _
 rw [show IntKind.u64.bits = 64 from rfl, e]
 rw [yV (k := .u64) (by simp only [inK]; omega)]
 omega
theorem zDv (z : Int) : IntKind.u64.wrap z = z % 18446744073709551616 := rfl
theorem zY7 (x y : Int) (hx : inK .u64 x) (hy : inK .u64 y) : FnA Tryz.prog 183 [.raw (.int .u64 x), .raw (.int .u64 y)] (.tup [.raw (.int .u64 (x * y / 18446744073709551616)), .raw (.int .u64 (x * y % 18446744073709551616))]) := by
 have ax := zTr hx
 have ay := zTr hy
 refine en func183 ntmps183 [.tmp 4, .tmp 5] rfl ?_
 repeat' first
  | refine wkg trivial ?_
  | (refine cS (fun hb => ?_) fun hb => ?_ <;> try (cases hb; done))
  | refine sM fun K hK => ?_
  | fail
 refine rq ?_ ?_
 ·simp only [inK] at hx hy
  obtain ⟨x, rfl⟩ := yPi hx.1
  obtain ⟨y, rfl⟩ := yPi hy.1
  simp only [AV.tup.injEq, yOy, AV.raw.injEq, Value.int.injEq, yMv, yOi, zXo, ax, ay]
  have e1 : (x : Int) / 4294967296 = ((x / 4294967296 : Nat) : Int) := by omega
  have e2 : (y : Int) / 4294967296 = ((y / 4294967296 : Nat) : Int) := by omega
  have e3 : (x : Int) % 4294967296 = ((x % 4294967296 : Nat) : Int) := by omega
  have e4 : (y : Int) % 4294967296 = ((y % 4294967296 : Nat) : Int) := by omega
  obtain ⟨m1, m2, m3, m4⟩ := Lib.mul64_hi x y oq oq
  have m5 := Lib.half_mul_le (a := x / 4294967296) (b := y / 4294967296) oq oq
  have m6 := Lib.half_mul_le (a := x / 4294967296) (b := y % 4294967296) oq oq
  have m7 := Lib.half_mul_le (a := x % 4294967296) (b := y / 4294967296) oq oq
  have m8 : x * y / 18446744073709551616 < 18446744073709551616 := Nat.div_lt_of_lt_mul (Nat.mul_lt_mul'' oq oq)
  rw [e1, e2, e3, e4]
  simp only [← Int.natCast_mul]
  rw [← m4] at m8
  have e5 : (((x * y : Nat) : Int) / 18446744073709551616) = ((x * y / 18446744073709551616 : Nat) : Int) := by omega
  rw [e5, ← m4]
  generalize x * y = p at *
  generalize x / 4294967296 * (y / 4294967296) = a at *
  generalize x / 4294967296 * (y % 4294967296) = b at *
  generalize x % 4294967296 * (y / 4294967296) = c at *
  generalize x % 4294967296 * (y % 4294967296) = d at *
  simp only [zDv]
  have k1 : (a : Int) % 18446744073709551616 = a := by omega
  have k2 : (b : Int) % 18446744073709551616 = b := by omega
  have k3 : (c : Int) % 18446744073709551616 = c := by omega
  have k4 : (d : Int) % 18446744073709551616 = d := by omega
  simp only [k1, k2, k3, k4]
  obtain ⟨t, ht⟩ : ∃ t : Nat, t = b + d / 4294967296 := ⟨_, rfl⟩
  have k5 : ((b : Int) + (d : Int) / 4294967296) % 18446744073709551616 = (t : Int) := by omega
  rw [← ht] at m2 m3 m4 m8 ⊢
  simp only [k5]
  have k6 : zF9 .and .u64 (t : Int) 4294967295 = (t : Int) % 4294967296 := zTr (by simp only [inK]; omega)
  rw [k6]
  exact ⟨by omega, trivial⟩
 ·simp [AV.free, AV.freeL]
theorem zYy (lo y : Int) (hlo : inK .u64 lo) (hy : 0 < y ∧ y < 18446744073709551616) : FnA Tryz.prog 184 [.raw (.int .u64 0), .raw (.int .u64 lo), .raw (.int .u64 y)] (.tup [.raw (.int .u64 (lo / y)), .raw (.int .u64 (lo % y))]) := by
 simp only [inK] at hlo
 refine en func184 ntmps184 [.tmp 6, .tmp 7] rfl ?_
 repeat' first
  | refine wkg trivial ?_
  | (refine cS (fun hb => ?_) fun hb => ?_ <;> try (cases hb; done))
  | refine sM fun K hK => ?_
  | fail
 ·exfalso; omega
 ·exfalso; omega
 ·refine rq ?_ ?_
  ·rw [yPj hlo.1, yPf hlo.1]
  ·simp [AV.free, AV.freeL]
structure w9 where
 whole : Int
 left : Int
 d : Int
 negative : Bool
 deriving Inhabited, DecidableEq
@[go_sem] def w9.av (x : w9) : List AV := [.raw (.int .u64 x.whole), .raw (.int .u64 x.left), .raw (.int .u64 x.d), .raw (.bool x.negative)]
@[simp] theorem w9.free (x : w9) : AV.freeL x.av := ⟨trivial, trivial, trivial, trivial, trivial⟩
theorem zNq (n : Int) : FnA Tryz.prog 118 [.raw (.int .i64 n)] (.raw (.bool (decide (-3000000000000000 ≤ n) && decide (n ≤ 3000000000000000)))) := by
 refine en func118 ntmps118 [.tmp 2] rfl ?_
 repeat' first
  | refine wkg trivial ?_
  | (refine cS (fun hb => ?_) fun hb => ?_ <;> try (cases hb; done))
  | refine sM fun K hK => ?_
  | fail
 all_goals exact fA
def zMf (q : w9) : Bool := !q.negative && decide (0 < q.left)
def zD8 (q : w9) : Bool := q.negative && decide (0 < q.left)
theorem zVn (q : w9) : FnA Tryz.prog 68 [.agg q.av] (.raw (.bool (zD8 q))) := by
 refine en func68 ntmps68 [.tmp 2] rfl ?_
 repeat' first
  | refine wkg trivial ?_
  | (refine cS (fun hb => ?_) fun hb => ?_ <;> try (cases hb; done))
  | refine sM fun K hK => ?_
  | fail
 all_goals (try (refine yA sq ⟨_, _, _, evl, ob0, yP.sims ?_ fre⟩))
 all_goals first | exact xD.refl _ | (refine xD.of_eq ?_; first | rfl | (simp [zD8]; done) | (simp_all [zD8]; done) | (simp_all [zD8]; omega) | (simp [zD8]; grind) | (split <;> simp_all)) | exact x7 | (refine xD.tup ?_; simp only [xF, yOi]; (repeat' apply And.intro) <;> first | exact x7 | skip) | (exfalso; first | omega | (simp_all; done) | (simp_all; omega)) | skip
theorem zZ6 (q : w9) : FnA Tryz.prog 69 [.agg q.av] (.raw (.bool (zMf q))) := by
 refine en func69 ntmps69 [.tmp 2] rfl ?_
 repeat' first
  | refine wkg trivial ?_
  | (refine cS (fun hb => ?_) fun hb => ?_ <;> try (cases hb; done))
  | refine sM fun K hK => ?_
  | fail
 all_goals (try (refine yA sq ⟨_, _, _, evl, ob0, yP.sims ?_ fre⟩))
 all_goals first | exact xD.refl _ | (refine xD.of_eq ?_; first | rfl | (simp [zMf]; done) | (simp_all [zMf]; done) | (simp_all [zMf]; omega) | (simp [zMf]; grind) | (split <;> simp_all)) | exact x7 | (refine xD.tup ?_; simp only [xF, yOi]; (repeat' apply And.intro) <;> first | exact x7 | skip) | (exfalso; first | omega | (simp_all; done) | (simp_all; omega)) | skip
def zAd (p d : Int) : Int := p / d + if 0 < p % d then 1 else 0
end Go.Proofs.YtioaahmkebojiaaGreatDoor
