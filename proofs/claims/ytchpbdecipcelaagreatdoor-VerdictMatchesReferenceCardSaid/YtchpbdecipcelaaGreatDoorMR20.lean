import Derived.Test.YtchpbdecipcelaaGreatDoorMR01
import Derived.Test.YtchpbdecipcelaaGreatDoorMR13
import Derived.Test.YtchpbdecipcelaaGreatDoorMR17
import Derived.Test.YtchpbdecipcelaaGreatDoorMR19
namespace Go.Proofs.YtchpbdecipcelaaGreatDoor
set_option linter.unusedVariables false
set_option linter.unusedSimpArgs false
set_option maxHeartbeats 4000000
set_option maxRecDepth 100000
open Go.RowKit
theorem zZv (key once : Int) (m : List Int) (h : okI m) (hn : m.length ≤ 999998) : FnA Tryz.prog 115 [.raw (.int .i64 key), .raw (.int .i64 once), liA m] (.tup [.agg (zBb key once m).1.av, .raw (.int .i64 (zBb key once m).2)]) := by
 have hw1 := vI key 1
 have hw2 := vI once 1
 by_cases hb : yC key 1 = true ∧ yC once 1 = true
 ·have hk := hw1.1 hb.1
  have ho := hw2.1 hb.2
  have hP := zB1 4 once (by omega) (by omega)
  have hKy := zB1 4 key (by omega) (by omega)
  have hok : okI ((kV (Int.toNat 4) once.toNat : Int) :: (kV (Int.toNat 4) key.toNat : Int) :: m) := by
   intro n hn
   rcases yLf.1 hn with rfl | hn
   ·exact zOn (by omega)
   ·rcases yLf.1 hn with rfl | hn
    ·exact zOn (by omega)
    ·exact h n hn
  have hC := zE2 _ _ _ hok hn
  have hcr := qQ (kV (Int.toNat 4) once.toNat) (kV (Int.toNat 4) key.toNat) m
  have hmul := mulQ hcr (show 0 ≤ key ∧ key < 1073741789 by omega)
  have e : zBb key once m = (⟨zAa (kV (Int.toNat 4) once.toNat) (kV (Int.toNat 4) key.toNat) m, (once + zAa (kV (Int.toNat 4) once.toNat) (kV (Int.toNat 4) key.toNat) m * key).tmod 1073741789⟩, 0) := by
   rw [zBb, hb.1, hb.2]; rfl
  rw [e]
  generalize zAa (kV (Int.toNat 4) once.toNat) (kV (Int.toNat 4) key.toNat) m = c at *
  generalize (kV (Int.toNat 4) once.toNat : Int) = p1 at *
  generalize (kV (Int.toNat 4) key.toNat : Int) = p2 at *
  refine en Tryz.func115 Tryz.ntmps115 [.cell 6 92, .tmp 7] rfl ?_
  repeat' first
   | refine wkg (And.intro (zHk key) (And.intro (zHk once) (And.intro hP (And.intro hKy hC)))) ?_
   | (refine cS (fun hb => ?_) fun hb => ?_ <;> try (cases hb; done))
   | refine sM fun K hK => ?_
   | fail
  all_goals (try (refine zM (by simp) ⟨_, _, _, evl, ob0, zV.sims ?_ fre⟩))
  all_goals first | exact z5.refl _ | (refine z5.of_eq ?_; first | rfl | (simp [Sig.av]; done) | (simp_all [Sig.av]; done) | (simp_all [Sig.av]; omega) | (simp [Sig.av]; grind) | (split <;> simp_all)) | exact yM | (refine z5.tup ?_; simp only [z8, yMs]; (repeat' apply And.intro) <;> first | exact yM | skip) | (exfalso; first | omega | (simp_all; done) | (simp_all; omega)) | skip
 ·have e : zBb key once m = (⟨0, 0⟩, 1) := by
   rw [zBb, if_neg (by simpa using hb)]
  rw [e]
  refine en Tryz.func115 Tryz.ntmps115 [.cell 6 92, .tmp 7] rfl ?_
  repeat' first
   | refine wkg (And.intro (zHk key) (zHk once)) ?_
   | (refine cS (fun hb => ?_) fun hb => ?_ <;> try (cases hb; done))
   | refine sM fun K hK => ?_
   | fail
  all_goals (try (refine zM (by simp) ⟨_, _, _, evl, ob0, zV.sims ?_ fre⟩))
  all_goals first | exact z5.refl _ | (refine z5.of_eq ?_; first | rfl | (simp [Sig.av]; done) | (simp_all [Sig.av]; done) | (simp_all [Sig.av]; omega) | (simp [Sig.av]; grind) | (split <;> simp_all)) | exact yM | (refine z5.tup ?_; simp only [z8, yMs]; (repeat' apply And.intro) <;> first | exact yM | skip) | (exfalso; first | omega | (simp_all; done) | (simp_all; omega)) | skip
theorem yBv (pub : Int) (s : Sig) (hp : 0 ≤ pub ∧ pub < 2147483579) (h1 : 0 ≤ s.c ∧ s.c < 1073741789) (h2 : 0 ≤ s.s ∧ s.s < 1073741789) (hone : kV pub.toNat 1073741789 = 1) :
  FnA Tryz.prog 240 [.raw (.int .i64 pub), .agg s.av] (.raw (.int .i64 (zAe pub s))) := by
 have e3 : (1073741789 - s.c).tmod 1073741789 = (1073741789 - s.c) % 1073741789 := yNu (by omega)
 have hr : 0 ≤ (1073741789 - s.c) % 1073741789 ∧ (1073741789 - s.c) % 1073741789 < 1073741789 := by omega
 have hP := zB1 4 s.s (by omega) (by omega)
 have hKy := zB1 pub ((1073741789 - s.c).tmod 1073741789) (by omega) (by rw [e3]; omega)
 have e4 : kV pub.toNat ((1073741789 - s.c).tmod 1073741789).toNat = kV pub.toNat (1073741789 - s.c).toNat := by
  rw [e3]
  rcases Int.le_iff_lt_or_eq.1 h1.1 with h | h
  ·rw [show (1073741789 - s.c) % 1073741789 = 1073741789 - s.c from by omega]
  ·rw [← h]
   rw [show (((1073741789 : Int) - 0) % 1073741789).toNat = 0 from rfl, show ((1073741789 : Int) - 0).toNat = 1073741789 from rfl, hone, zIl _ _ (by omega), Nat.pow_zero]
 rw [e4] at hKy
 have r1 := zFp (Int.toNat 4) s.s.toNat (by omega)
 have r2 := zFp pub.toNat (1073741789 - s.c).toNat (by omega)
 have hmul := yDf (a := (kV (Int.toNat 4) s.s.toNat : Int)) (b := (kV pub.toNat (1073741789 - s.c).toNat : Int)) (by omega) (by omega)
 have hbk : ((kV (Int.toNat 4) s.s.toNat : Int) * (kV pub.toNat (1073741789 - s.c).toNat : Int)).tmod 2147483579 = zAe pub s := by
  rw [← Int.natCast_mul]; rfl
 rw [← hbk]
 generalize (kV (Int.toNat 4) s.s.toNat : Int) = p1 at *
 generalize (kV pub.toNat (1073741789 - s.c).toNat : Int) = p2 at *
 refine en Tryz.func240 Tryz.ntmps240 [.tmp 4] rfl ?_
 repeat' first
  | refine wkg (And.intro hP hKy) ?_
  | (refine cS (fun hb => ?_) fun hb => ?_ <;> try (cases hb; done))
  | refine sM fun K hK => ?_
  | fail
 all_goals exact fA
theorem zJe (pub : Int) (s : Sig) (m : List Int) (h : okI m) (hp : inK .i64 pub) (hn : m.length ≤ 999998) : FnA Tryz.prog 207 [.raw (.int .i64 pub), .agg s.av, liA m] (.tup [.raw (.bool (yY pub s m).1), .raw (.int .i64 (yY pub s m).2)]) := by
 have hw1 := vI s.c 0
 have hw2 := vI s.s 0
 have hm := zFt pub
 by_cases hb : x7 pub = true ∧ yC s.c 0 = true ∧ yC s.s 0 = true
 ·have hk := hw1.1 hb.2.1
  have ho := hw2.1 hb.2.2
  have hmm := hm.1 hb.1
  have hB := yBv pub s (by omega) hk ho hmm.2.2
  have hbr : 0 ≤ zAe pub s ∧ zAe pub s < 2147483579 := by unfold zAe; omega
  have hok : okI (zAe pub s :: pub :: m) := by
   intro n hn
   rcases yLf.1 hn with rfl | hn
   ·simp only [inK]; omega
   ·rcases yLf.1 hn with rfl | hn
    ·exact hp
    ·exact h n hn
  have hC := zE2 _ _ _ hok hn
  have e : yY pub s m = (decide (zAa (zAe pub s) pub m = s.c), 0) := by
   rw [yY, hb.1, hb.2.1, hb.2.2]; rfl
  rw [e]
  have hcr := qQ (zAe pub s) pub m
  generalize zAa _ pub m = c at *
  generalize zAe pub s = bk at *
  refine en Tryz.func207 Tryz.ntmps207 [.tmp 6, .tmp 7] rfl ?_
  repeat' first
   | refine wkg (And.intro (vQ s.c) (And.intro (vQ s.s) (And.intro (zFs pub) (And.intro hB hC)))) ?_
   | (refine cS (fun hb => ?_) fun hb => ?_ <;> try (cases hb; done))
   | refine sM fun K hK => ?_
   | fail
  all_goals exact fA
 ·have e : yY pub s m = (false, 1) := by
   rw [yY, if_neg (by simpa [and_assoc] using hb)]
  rw [e]
  refine en Tryz.func207 Tryz.ntmps207 [.tmp 6, .tmp 7] rfl ?_
  repeat' first
   | refine wkg (And.intro (vQ s.c) (And.intro (vQ s.s) (zFs pub))) ?_
   | (refine cS (fun hb => ?_) fun hb => ?_ <;> try (cases hb; done))
   | refine sM fun K hK => ?_
   | fail
  all_goals exact fA
theorem formR_A (k : zI) : FnA Tryz.prog 138 [.agg k.av] (.raw (.bool (decide (xH k)))) := by
 have h1 := zFs k.pub
 have h2 := vQ k.sig.c
 have h3 := vQ k.sig.s
 refine en Tryz.func138 Tryz.ntmps138 [.tmp 2] rfl ?_
 repeat' first
  | refine wkg (And.intro h1 (And.intro h2 h3)) ?_
  | (refine cS (fun hb => ?_) fun hb => ?_ <;> try (cases hb; done))
  | refine sM fun K hK => ?_
  | fail
 all_goals (try (refine zM (by simp) ⟨_, _, _, evl, ob0, zV.sims ?_ fre⟩))
 all_goals first | exact z5.refl _ | (refine z5.of_eq ?_; first | rfl | (simp [xH]; done) | (simp_all [xH]; done) | (simp_all [xH]; omega) | (simp [xH]; grind) | (simp [xH]; grind) | (split <;> simp_all)) | exact yM | (refine z5.tup ?_; simp only [z8, yMs]; (repeat' apply And.intro) <;> first | exact yM | skip) | (exfalso; first | omega | (simp_all; done) | (simp_all; omega)) | skip
theorem zR3 (k : zI) : FnA Tryz.prog 208 [.agg k.av] (liA (zFr k)) := by
 refine en Tryz.func208 Tryz.ntmps208 [.tmp 2] rfl ?_
 repeat' first
  | refine wkg trivial ?_
  | (refine cS (fun hb => ?_) fun hb => ?_ <;> try (cases hb; done))
  | refine sM fun K hK => ?_
  | fail
 refine rt ?_
 exact (Sim.lstE rfl fun i hi => yA (enc := iC) (l := zFr k) (fun _ => rfl) rfl hi).s
theorem zRh (a b : zI) (h : a.id ≤ 1000 ∧ 1 ≤ a.id) : FnA Tryz.prog 139 [.agg a.av, .agg b.av] (.raw (.bool (decide (xD a b)))) := by
 refine en Tryz.func139 Tryz.ntmps139 [.tmp 4] rfl ?_
 repeat' first
  | refine wkg trivial ?_
  | (refine cS (fun hb => ?_) fun hb => ?_ <;> try (cases hb; done))
  | refine sM fun K hK => ?_
  | fail
 all_goals (try (refine zM (by simp) ⟨_, _, _, evl, ob0, zV.sims ?_ fre⟩))
 all_goals first | exact z5.refl _ | (refine z5.of_eq ?_; first | rfl | (simp [xD]; done) | (simp_all [xD]; done) | (simp_all [xD]; omega) | (simp [xD]; grind) | (simp [xD]; grind) | (split <;> simp_all)) | exact yM | (refine z5.tup ?_; simp only [z8, yMs]; (repeat' apply And.intro) <;> first | exact yM | skip) | (exfalso; first | omega | (simp_all; done) | (simp_all; omega)) | skip
theorem zSw (a b : zI) (ha : a.fits) (hb : b.fits) : FnA Tryz.prog 140 [.agg a.av, .agg b.av] (.raw (.bool (vK a b))) := by
 have hm := zR3 b
 have hv := zJe a.pub b.sig (zFr b) (zTx hb) ha.2.2.1 (by simp [zFr])
 have e : ((yY a.pub b.sig (zFr b)).1 && decide ((yY a.pub b.sig (zFr b)).2 = 0)) = vK a b := by
  unfold vK yY; split <;> simp
 have hfr : (liA (zFr b)).free := zC (fun _ => by simp [AV.free, AV.freeL, iC]) (zFr b)
 generalize vK a b = s at *
 generalize yY a.pub b.sig (zFr b) = v at *
 generalize liA (zFr b) = L at *
 refine en Tryz.func140 Tryz.ntmps140 [.tmp 4] rfl ?_
 repeat' first
  | refine wkg (And.intro hm hv) ?_
  | (refine cS (fun hb => ?_) fun hb => ?_ <;> try (cases hb; done))
  | refine sM fun K hK => ?_
  | fail
 all_goals exact fA
theorem validR_A (l : List zI) (hf : ∀ k ∈ l, k.fits) : FnA Tryz.prog 83 [lA 7 zI.av l] (.raw (.bool (decide (ValidP l)))) := by
 refine en Tryz.func83 Tryz.ntmps83 [.tmp 2] rfl ?_
 repeat' first
  | refine wkg trivial ?_
  | (refine cS (fun hb => ?_) fun hb => ?_ <;> try (cases hb; done))
  | refine sM fun K hK => ?_
  | fail
 ·refine zM (by simp) ⟨_, _, _, evl, ob0, zV.eq ?_ (by simp [AV.free])⟩
  simp only [AV.raw.injEq, Value.bool.injEq]
  rw [eq_comm, yMz]
  rintro ⟨h1, _⟩
  omega
 refine zF (fun k : Nat => ⟨89, 0, [(0, true, lA 7 zI.av l), (3, true, .raw (.int .i64 k))], [], [], ((0, []), [], true)⟩)
  (fun k => k ≤ l.length ∧ ∀ i, i < k → xH (l.getD i default) ∧ wN l i) (fun k => l.length - k) 0 ?_ ⟨by omega, fun i h => by omega⟩ ?_
 ·exact wkZ
 ·rintro k ⟨hk, hr2⟩
  rcases yKt k l.length with hlt | hge
  ·have m1 : l.getD k default ∈ l := by rw [zU hlt]; exact yNe _
   have next : xH (l.getD k default) → wN l k → ∀ i, i < k + 1 → xH (l.getD i default) ∧ wN l i := fun h1 h2 i hi => by
    rcases yNv.1 hi with h | rfl
    ·exact hr2 i h
    ·exact ⟨h1, h2⟩
   have f0 := formR_A (l.getD k default)
   have v1 : ValidP l → xH (l.getD k default) := fun h => h.2.1 _ m1
   have v2 : ValidP l → wN l k := fun h => h.2.2 k hlt
   rcases yLj k with rfl | h0
   ·have er : wN l 0 ↔ (l.getD 0 default).id = 1 ∧ (l.getD 0 default).sig.c = 0 ∧ (l.getD 0 default).sig.s = 0 := by simp [wN]
    repeat' first
     | refine wkg f0 ?_
     | (refine cS (fun hb => ?_) fun hb => ?_ <;> try (cases hb; done))
     | refine sM fun K hK => ?_
     | fail
    ·refine zM (by simp) ⟨_, _, _, evl, ob0, zV.eq ?_ (by simp [AV.free])⟩
     simp only [AV.raw.injEq, Value.bool.injEq]
     rw [eq_comm, yMz]
     exact fun h => hb (v1 h)
    ·refine zM (by simp) ⟨_, _, _, evl, ob0, zV.eq ?_ (by simp [AV.free])⟩
     simp only [AV.raw.injEq, Value.bool.injEq]
     rw [eq_comm, yMz]
     intro h
     have := er.1 (v2 h)
     omega
    ·refine ⟨0 + 1, ⟨by omega, next (by assumption) (er.2 (by omega))⟩, by omega, ?_⟩
     ·exact wkZ
    ·exfalso; omega
    ·exfalso; omega
   ·have e1 : ((k : Int) - 1).toNat = k - 1 := by omega
    have m2 : l.getD ((k : Int) - 1).toNat default ∈ l := by rw [e1, zU (by omega)]; exact yNe _
    have h2 := (hr2 (k - 1) (by omega)).1
    rw [← e1] at h2
    have f1 := zRh (l.getD ((k : Int) - 1).toNat default) (l.getD k default) ⟨h2.2.2.2.1, h2.2.2.1⟩
    have f2 := zSw (l.getD ((k : Int) - 1).toNat default) (l.getD k default) (hf _ m2) (hf _ m1)
    have er : wN l k ↔ (if (l.getD ((k : Int) - 1).toNat default).auth < (l.getD k default).auth then (l.getD k default).id = 1 ∧ (l.getD k default).sig.c = 0 ∧ (l.getD k default).sig.s = 0
     else xD (l.getD ((k : Int) - 1).toNat default) (l.getD k default) ∧ vK (l.getD ((k : Int) - 1).toNat default) (l.getD k default) = true) := by
     rw [wN, e1]; simp only [show ¬ k = 0 from by omega, false_or]
    repeat' first
     | refine wkg (And.intro f0 (And.intro f1 f2)) ?_
     | (refine cS (fun hb => ?_) fun hb => ?_ <;> try (cases hb; done))
     | refine sM fun K hK => ?_
     | fail
    ·refine zM (by simp) ⟨_, _, _, evl, ob0, zV.eq ?_ (by simp [AV.free])⟩
     simp only [AV.raw.injEq, Value.bool.injEq]
     rw [eq_comm, yMz]
     exact fun h => hb (v1 h)
    ·refine zM (by simp) ⟨_, _, _, evl, ob0, zV.eq ?_ (by simp [AV.free])⟩
     simp only [AV.raw.injEq, Value.bool.injEq]
     rw [eq_comm, yMz]
     intro h
     have := er.1 (v2 h)
     rw [if_pos (by omega)] at this
     omega
    ·refine ⟨k + 1, ⟨by omega, next (by assumption) (er.2 (by rw [if_pos (by omega)]; omega))⟩, by omega, ?_⟩
     ·exact wkZ
    ·refine zM (by simp) ⟨_, _, _, evl, ob0, zV.eq ?_ (by simp [AV.free])⟩
     simp only [AV.raw.injEq, Value.bool.injEq]
     rw [eq_comm, yMz]
     intro h
     have := er.1 (v2 h)
     rw [if_neg (by omega)] at this
     simp_all
    ·refine ⟨k + 1, ⟨by omega, next (by assumption) (er.2 (by rw [if_neg (by omega)]; exact hb))⟩, by omega, ?_⟩
     ·exact wkZ
    ·exfalso; omega
  ·repeat' first
    | refine wkg trivial ?_
    | (refine cS (fun hb => ?_) fun hb => ?_ <;> try (cases hb; done))
    | refine sM fun K hK => ?_
    | fail
   ·exfalso; omega
   refine zM (by simp) ⟨_, _, _, evl, ob0, zV.eq ?_ (by simp [AV.free])⟩
   simp only [AV.raw.injEq, Value.bool.injEq]
   rw [eq_comm, yLr]
   exact ⟨by omega, fun x hx => by obtain ⟨i, hi, rfl⟩ := yNb.1 hx; have := (hr2 i (by omega)).1; rwa [zU hi] at this, fun i hi => (hr2 i (by omega)).2⟩
theorem validIR_A (i : Iv) : FnA Tryz.prog 107 [.agg i.av] (.raw (.bool (decide (0 ≤ i.lo) && decide (i.lo ≤ i.hi) && decide (i.hi ≤ 3000000000000000)))) := by
 refine en Tryz.func107 Tryz.ntmps107 [.tmp 2] rfl ?_
 repeat' first
  | refine wkg trivial ?_
  | (refine cS (fun hb => ?_) fun hb => ?_ <;> try (cases hb; done))
  | refine sM fun K hK => ?_
  | fail
 all_goals exact fA
theorem zXz {l : List zI} (h : ValidP l) {auth id : Int} {k : Nat} (hk : k < l.length) (he : (l.getD k default).auth = auth ∧ (l.getD k default).id = id) : zA6 l auth id = true ∧ zE9 l auth id = k := by
 have h1 : zE9 l auth id = k := by
  unfold zE9
  rcases Nat.lt_trichotomy (zP0 l fun k => zLk k auth id) k with h2 | h2 | h2
  ·have h3 := zUc (l := l) (c := fun k => zLk k auth id) (by omega)
   have h4 := zEz h k _ h2 hk
   have h5 := (zVw (l.getD (zP0 l fun k => zLk k auth id) default) auth id).2 (by omega)
   omega
  ·exact h2
  ·have h3 := zUa (l := l) (c := fun k => zLk k auth id) h2
   rw [(zNm _ auth id).2 he] at h3
   omega
 refine ⟨?_, h1⟩
 unfold zA6
 rw [h1, (zNm _ auth id).2 he]
 simp [hk]
theorem zRf {l : List zI} {auth id : Int} (h : ∀ i, i < l.length → ¬ ((l.getD i default).auth = auth ∧ (l.getD i default).id = id)) : zA6 l auth id = false := by
 unfold zA6
 rcases yKt (zE9 l auth id) l.length with h1 | h1
 ·have := h _ h1
  rw [← zNm] at this
  rw [yO4 this, Bool.and_false]
 ·rw [yO4 (by omega), Bool.false_and]
theorem yAa {l : List zI} {auth id : Int} {i : Iv} (hp : ValidP l ∧ (0 ≤ i.lo ∧ i.lo ≤ i.hi ∧ i.hi ≤ 3000000000000000)) {k : Nat} (hk : k < l.length) (he : (l.getD k default).auth = auth ∧ (l.getD k default).id = id) :
  zDd l auth id i = if i.lo < (l.getD k default).from_ ∨ (l.getD k default).until_ ≤ i.hi then (0, 31) else ((l.getD k default).pub, 0) := by
 obtain ⟨h1, h2⟩ := zXz hp.1 hk he
 rw [zDd, if_pos hp, h2, h1]
 simp
theorem zTj {l : List zI} {auth id : Int} {i : Iv} (hp : ValidP l ∧ (0 ≤ i.lo ∧ i.lo ≤ i.hi ∧ i.hi ≤ 3000000000000000)) (h : ∀ i, i < l.length → ¬ ((l.getD i default).auth = auth ∧ (l.getD i default).id = id)) : zDd l auth id i = (0, 4) := by
 rw [zDd, if_pos hp, zRf h]
 simp
theorem yD5 (l : List zI) (hl : l.length ≤ 4611686018427387904) (hf : ∀ k ∈ l, k.fits) (auth id : Int) (i : Iv) : FnA Tryz.prog 210 [lA 7 zI.av l, .raw (.int .i64 auth), .raw (.int .i64 id), .agg i.av] (.tup [.raw (.int .i64 (zDd l auth id i).1), .raw (.int .i64 (zDd l auth id i).2)]) := by
 have hv := validR_A l hf
 have hi := validIR_A i
 refine en Tryz.func210 Tryz.ntmps210 [.tmp 8, .tmp 9] rfl ?_
 repeat' first
  | refine wkg (And.intro hv hi) ?_
  | (refine cS (fun hb => ?_) fun hb => ?_ <;> try (cases hb; done))
  | refine sM fun K hK => ?_
  | fail
 ·all_goals (try (refine zM (by simp) ⟨_, _, _, evl, ob0, zV.sims ?_ fre⟩))
  all_goals first | exact z5.refl _ | (refine z5.of_eq ?_; first | rfl | (simp [zDd]; done) | (simp_all [zDd]; done) | (simp_all [zDd]; omega) | (simp [zDd]; grind) | (split <;> simp_all)) | exact yM | (refine z5.tup ?_; simp only [z8, yMs]; (repeat' apply And.intro) <;> first | exact yM | skip) | (exfalso; first | omega | (simp_all; done) | (simp_all; omega)) | skip
 refine zF (fun k : Nat => ⟨68, 0, [(0, true, lA 7 zI.av l), (1, true, .raw (.int .i64 auth)), (2, true, .raw (.int .i64 id)), (7, true, .box 0 0), (12, true, .raw (.int .i64 k))], [[.raw (.int .i64 i.lo), .raw (.int .i64 i.hi)]], [], ((0, []), [], true)⟩)
  (fun k => k ≤ l.length ∧ ∀ i, i < k → ¬ ((l.getD i default).auth = auth ∧ (l.getD i default).id = id)) (fun k => l.length - k) 0 ?_ ⟨by omega, fun i h => by omega⟩ ?_
 ·exact wkZ
 ·rintro k ⟨hk, hall⟩
  have hp : ValidP l ∧ (0 ≤ i.lo ∧ i.lo ≤ i.hi ∧ i.hi ≤ 3000000000000000) := by simp_all
  have hat := fun hk he => yAa (auth := auth) (id := id) hp (k := k) hk he
  clear hv hi
  repeat' first
   | refine wkg trivial ?_
   | (refine cS (fun hb => ?_) fun hb => ?_ <;> try (cases hb; done))
   | refine sM fun K hK => ?_
   | fail
  ·refine ⟨k + 1, ⟨by omega, fun i hi => ?_⟩, by omega, ?_⟩
   ·rcases yNv.1 hi with h | rfl
    ·exact hall i h
    ·intro h
     rcases hb with hb | hb
     ·exact hb h.1
     ·exact hb h.2
   ·exact wkZ
  ·refine rt ?_
   rw [hat (by omega) (by assumption), if_pos (by assumption)]
   exact z5.refl _
  ·refine rt ?_
   rw [hat (by omega) (by assumption), if_neg (by omega)]
   exact z5.refl _
  ·refine rt ?_
   rw [zTj hp fun i hi => hall i (by omega)]
   exact z5.refl _
abbrev ka : zI := ⟨2, 1, 1024, 0, 100, ⟨0, 0⟩⟩
abbrev kb : zI := ⟨2, 1, 1024, 0, 70, ⟨0, 0⟩⟩
abbrev wr : wU := ⟨1, 2, [⟨0, 2, 4, 0, 0⟩]⟩
theorem yJt : ∀ k ∈ [ka], k.fits := by
 intro k hk
 simp only [yLf, yMo, yMv] at hk
 subst hk
 simp [zI.fits, Sig.fits, inK]
theorem zP5 (n lo hi : Int) : FnA Tryz.prog 167 [.raw (.int .i64 n), .raw (.int .i64 lo), .raw (.int .i64 hi)] (.raw (.bool (decide (lo ≤ n) && decide (n ≤ hi)))) := by
 refine en Tryz.func167 Tryz.ntmps167 [.tmp 6] rfl ?_
 repeat' first
  | refine wkg trivial ?_
  | (refine cS (fun hb => ?_) fun hb => ?_ <;> try (cases hb; done))
  | refine sM fun K hK => ?_
  | fail
 all_goals exact fA
theorem zMj (r : zDr) : FnA Tryz.prog 166 [.agg r.av] (.raw (.bool (decide (zGq r.host r.auth r.round)))) := by
 refine en Tryz.func166 Tryz.ntmps166 [.tmp 2] rfl ?_
 repeat' first
  | (refine wkM hK zP5 ?_)
  | refine wkg zP5 ?_
  | (refine cS (fun hb => ?_) fun hb => ?_ <;> try (cases hb; done))
  | refine sM fun K hK => ?_
  | fail
 all_goals (try (refine zM (by simp) ⟨_, _, _, evl, ob0, zV.sims ?_ fre⟩))
 all_goals first | exact z5.refl _ | (refine z5.of_eq ?_; first | rfl | (simp [zGq]; done) | (simp_all [zGq]; done) | (simp_all [zGq]; omega) | (simp [zGq]; grind) | (split <;> simp_all)) | exact yM | (refine z5.tup ?_; simp only [z8, yMs]; (repeat' apply And.intro) <;> first | exact yM | skip) | (exfalso; first | omega | (simp_all; done) | (simp_all; omega)) | skip
theorem zJv (r : zN) : FnA Tryz.prog 113 [.agg r.av] (.raw (.bool (decide (z9 r)))) := by
 have hr := zMj ⟨r.host, r.auth, r.round, 0⟩
 have hi := validIR_A r.stamp
 simp only at hr
 refine en Tryz.func113 Tryz.ntmps113 [.tmp 2] rfl ?_
 repeat' first
  | (refine wkM hK (And.intro hr (And.intro zP5 hi)) ?_)
  | refine wkg (And.intro hr (And.intro zP5 hi)) ?_
  | (refine cS (fun hb => ?_) fun hb => ?_ <;> try (cases hb; done))
  | refine sM fun K hK => ?_
  | fail
 all_goals (try (refine zM (by simp) ⟨_, _, _, evl, ob0, zV.sims ?_ fre⟩))
 all_goals first | exact z5.refl _ | (refine z5.of_eq ?_; first | rfl | (simp [z9]; done) | (simp_all [z9]; done) | (simp_all [z9]; omega) | (simp [z9]; grind) | (split <;> simp_all)) | exact yM | (refine z5.tup ?_; simp only [z8, yMs]; (repeat' apply And.intro) <;> first | exact yM | skip) | (exfalso; first | omega | (simp_all; done) | (simp_all; omega)) | skip
theorem zWp (n : Int) (hn : inK .u64 n) : FnA Tryz.prog 169 [.raw (.int .u64 n)] (.raw (.int .i64 (n / 4294967296))) := by
 simp only [inK] at hn
 have h1 : inK .i64 (n.fdiv (2 ^ min (Int.toNat 32) 64)) := by rw [zGt]; simp only [inK]; omega
 refine en Tryz.func169 Tryz.ntmps169 [.tmp 2] rfl ?_
 repeat' first
  | refine wkg trivial ?_
  | (refine cS (fun hb => ?_) fun hb => ?_ <;> try (cases hb; done))
  | refine sM fun K hK => ?_
  | fail
 refine rq ?_ ?_
 ·rw [zGt]
 ·simp [AV.free, AV.freeL]
theorem zXd (n : Int) (hn : inK .u64 n) : FnA Tryz.prog 170 [.raw (.int .u64 n)] (.raw (.int .i64 (n % 4294967296))) := by
 have h2 := zXh hn
 simp only [inK] at hn
 have h3 : inK .i64 (zGg .and .u64 n 4294967295) := by rw [h2]; simp only [inK]; omega
 refine en Tryz.func170 Tryz.ntmps170 [.tmp 2] rfl ?_
 repeat' first
  | refine wkg trivial ?_
  | (refine cS (fun hb => ?_) fun hb => ?_ <;> try (cases hb; done))
  | refine sM fun K hK => ?_
  | fail
 refine rq ?_ ?_
 ·rw [h2]
 ·simp [AV.free, AV.freeL]
theorem zFh (r : zN) (hn : inK .u64 r.nonce) : FnA Tryz.prog 116 [.agg r.av] (liA (zBu r)) := by
 have h1 := zWp r.nonce hn
 have h2 := zXd r.nonce hn
 refine en Tryz.func116 Tryz.ntmps116 [.tmp 2] rfl ?_
 repeat' first
  | refine wkg (And.intro h1 h2) ?_
  | (refine cS (fun hb => ?_) fun hb => ?_ <;> try (cases hb; done))
  | refine sM fun K hK => ?_
  | fail
 refine rt ?_
 exact (Sim.lstE rfl fun i hi => yA (enc := iC) (l := zBu r) (fun _ => rfl) rfl hi).s
theorem zWu {key once : Int} {m : List Int} (hk : yC key 1 = true) (ho : yC once 1 = true) : (zBb key once m).2 = 0 := by
 unfold zBb; rw [hk, ho]; rfl
theorem zWx (key once : Int) (r : zN) (hf : r.fits) : FnA Tryz.prog 70 [.raw (.int .i64 key), .raw (.int .i64 once), .agg r.av] (.tup [.agg (zOg key once r).1.av, .raw (.int .i64 (zOg key once r).2)]) := by
 have hb : (zS3 r).fits := ⟨hf.1, hf.2.1, hf.2.2.1, hf.2.2.2.1, hf.2.2.2.2.1, hf.2.2.2.2.2.1, hf.2.2.2.2.2.2.1, by simp [Sig.fits, inK]⟩
 have hv := zJv (zS3 r)
 have hm := zFh (zS3 r) hf.2.2.2.1
 have hs := zZv key once (zBu (zS3 r)) (zIp hb) (by simp [zBu])
 have k1 := zHk key
 have k2 := zHk once
 have hfm : (liA (zBu (zS3 r))).free := zC (fun _ => by simp [AV.free, AV.freeL, iC]) _
 have e0 : ¬ (yC key 1 = true ∧ yC once 1 = true) → zBb key once (zBu (zS3 r)) = (⟨0, 0⟩, 1) := fun h => by
  rw [zBb, if_neg (by simpa using h)]
 have e1 : yC key 1 = true ∧ yC once 1 = true → (zBb key once (zBu (zS3 r))).2 = 0 := fun h => by
  exact zWu h.1 h.2
 unfold zOg
 rw [show zBu r = zBu (zS3 r) from rfl]
 by_cases h1 : z9 (zS3 r)
 ·rw [if_pos h1]
  rw [yO3 h1] at hv
  by_cases h2 : yC key 1 = true ∧ yC once 1 = true
  ·rw [if_pos (e1 h2)]
   rw [e1 h2] at hs
   rw [h2.1] at k1
   rw [h2.2] at k2
   clear e0 e1 h1 hb
   generalize zBb key once (zBu (zS3 r)) = s at *
   generalize liA (zBu (zS3 r)) = M at *
   refine en Tryz.func70 Tryz.ntmps70 [.cell 6 94, .tmp 7] rfl ?_
   repeat' first
    | refine wkg (And.intro hv (And.intro k1 (And.intro k2 (And.intro hm hs)))) ?_
    | (refine cS (fun hb => ?_) fun hb => ?_ <;> try (cases hb; done))
    | refine sM fun K hK => ?_
    | fail
   refine rq ?_ ?_
   ·rfl
   ·simp [AV.free, AV.freeL, go_sem]
  ·rw [e0 h2, if_neg (by decide)]
   clear hs hm e0 e1 hb h1
   generalize yC key 1 = b1 at *
   generalize yC once 1 = b2 at *
   refine en Tryz.func70 Tryz.ntmps70 [.cell 6 94, .tmp 7] rfl ?_
   repeat' first
    | refine wkg (And.intro hv (And.intro k1 k2)) ?_
    | (refine cS (fun hb => ?_) fun hb => ?_ <;> try (cases hb; done))
    | refine sM fun K hK => ?_
    | fail
   ·refine rq ?_ ?_
    ·rfl
    ·simp [AV.free, AV.freeL, go_sem]
   ·exact absurd hb h2
 ·rw [if_neg h1]
  rw [yO4 h1] at hv
  refine en Tryz.func70 Tryz.ntmps70 [.cell 6 94, .tmp 7] rfl ?_
  repeat' first
   | refine wkg (And.intro hv (And.intro k1 k2)) ?_
   | (refine cS (fun hb => ?_) fun hb => ?_ <;> try (cases hb; done))
   | refine sM fun K hK => ?_
   | fail
  refine rq ?_ ?_
  ·rfl
  ·simp [AV.free, AV.freeL, go_sem]
end Go.Proofs.YtchpbdecipcelaaGreatDoor
