import Derived.Test.YtchpbdecipcelaaGreatDoorMR01
import Derived.Lib.Mul64
import Derived.Test.YtchpbdecipcelaaGreatDoorMR10
import Derived.Test.YtchpbdecipcelaaGreatDoorMR20
import Derived.Test.YtchpbdecipcelaaGreatDoorMR21
namespace Go.Proofs.YtchpbdecipcelaaGreatDoor
set_option linter.unusedVariables false
set_option linter.unusedSimpArgs false
set_option maxHeartbeats 4000000
set_option maxRecDepth 100000
open Go.RowKit
theorem zQ5 {pub : Int} {s : Sig} {m : List Int} (h : (yY pub s m).1 = true) : (yY pub s m).2 = 0 := by
 unfold yY at h ⊢
 split
 ·rfl
 ·rename_i hc; rw [if_neg hc] at h; cases h
theorem zX0 (l : List zI) (hl : l.length ≤ 4611686018427387904) (hf : ∀ k ∈ l, k.fits) (r : zN) (hr : r.fits) : FnA Tryz.prog 144 [lA 7 zI.av l, .agg r.av] (.raw (.bool (qW l r))) := by
 have hp := yD5 l hl hf r.auth r.key r.stamp
 have hpf := zK3 hf r.auth r.key r.stamp
 have hm := zFh r hr.2.2.2.1
 have hv := zJe (zDd l r.auth r.key r.stamp).1 r.sig (zBu r) (zIp hr) hpf (by simp [zBu])
 have hvo := zQ5 (pub := (zDd l r.auth r.key r.stamp).1) (s := r.sig) (m := zBu r)
 have hfm : (liA (zBu r)).free := zC (fun _ => by simp [AV.free, AV.freeL, iC]) _
 have hfr : (lA 7 zI.av l).free := zC (fun y => zI.free y) _
 unfold qW
 generalize yY (zDd l r.auth r.key r.stamp).1 r.sig (zBu r) = v at *
 generalize zDd l r.auth r.key r.stamp = p at *
 generalize liA (zBu r) = M at *
 clear hpf hf hl
 by_cases h2 : p.2 = 0
 ·rw [h2] at hp
  rw [h2]
  obtain ⟨v1, v2⟩ := v
  simp only at hvo hv ⊢
  cases v1 with
  | true =>
   obtain rfl := hvo rfl
   refine en Tryz.func144 Tryz.ntmps144 [.tmp 4] rfl ?_
   repeat' first
    | refine wkg (And.intro hp (And.intro hm hv)) ?_
    | (refine cS (fun hb => ?_) fun hb => ?_ <;> try (cases hb; done))
    | refine sM fun K hK => ?_
    | fail
   refine rq ?_ ?_
   ·simp
   ·simp [AV.free]
  | false =>
   refine en Tryz.func144 Tryz.ntmps144 [.tmp 4] rfl ?_
   repeat' first
    | refine wkg (And.intro hp (And.intro hm hv)) ?_
    | (refine cS (fun hb => ?_) fun hb => ?_ <;> try (cases hb; done))
    | refine sM fun K hK => ?_
    | fail
   refine rq ?_ ?_
   ·simp
   ·simp [AV.free]
 ·rw [yO4 h2]
  refine en Tryz.func144 Tryz.ntmps144 [.tmp 4] rfl ?_
  repeat' first
   | refine wkg (And.intro hp (And.intro hm hv)) ?_
   | (refine cS (fun hb => ?_) fun hb => ?_ <;> try (cases hb; done))
   | refine sM fun K hK => ?_
   | fail
  ·refine rq ?_ ?_
   ·simp
   ·simp [AV.free]
  ·exact absurd hb h2
theorem zTg (l : List zI) (hl : l.length ≤ 4611686018427387904) (hf : ∀ k ∈ l, k.fits) (r : zN) (hr : r.fits) : FnA Tryz.prog 90 [lA 7 zI.av l, .agg r.av] (.tup [.raw (.bool (decide (ValidP l) && decide (z9 r) && qW l r)), .raw (.int .i64 (if ValidP l ∧ z9 r then 0 else 1))]) := by
 have h1 := validR_A l hf
 have h2 := zJv r
 have h3 := zX0 l hl hf r hr
 have hfr : (lA 7 zI.av l).free := zC (fun y => zI.free y) _
 rw [show (if ValidP l ∧ z9 r then (0 : Int) else 1) = if (decide (ValidP l) && decide (z9 r)) = true then 0 else 1 from by simp]
 generalize qW l r = b at *
 generalize decide (ValidP l) = v at *
 generalize decide (z9 r) = w at *
 clear hl hf
 refine en Tryz.func90 Tryz.ntmps90 [.tmp 4, .tmp 5] rfl ?_
 repeat' first
  | refine wkg (And.intro h1 (And.intro h2 h3)) ?_
  | (refine cS (fun hb => ?_) fun hb => ?_ <;> try (cases hb; done))
  | refine sM fun K hK => ?_
  | fail
 ·refine rq ?_ ?_
  ·rcases hb with rfl | rfl <;> simp
  ·simp [AV.free, AV.freeL]
 ·refine rq ?_ ?_
  ·obtain ⟨rfl, rfl⟩ := hb; simp
  ·simp [AV.free, AV.freeL]
theorem zYr (a : qV) : FnA Tryz.prog 85 [.agg a.av] (.raw (.bool (decide (zJ6 a)))) := by
 refine en Tryz.func85 Tryz.ntmps85 [.tmp 2] rfl ?_
 repeat' first
  | refine wkg trivial ?_
  | (refine cS (fun hb => ?_) fun hb => ?_ <;> try (cases hb; done))
  | refine sM fun K hK => ?_
  | fail
 all_goals (try (refine zM (by simp) ⟨_, _, _, evl, ob0, zV.sims ?_ fre⟩))
 all_goals first | exact z5.refl _ | (refine z5.of_eq ?_; first | rfl | (simp [zJ6]; done) | (simp_all [zJ6]; done) | (simp_all [zJ6]; omega) | (simp [zJ6]; grind) | (split <;> simp_all)) | exact yM | (refine z5.tup ?_; simp only [z8, yMs]; (repeat' apply And.intro) <;> first | exact yM | skip) | (exfalso; first | omega | (simp_all; done) | (simp_all; omega)) | skip
theorem zVb (l : List wU) (hl : l.length ≤ 4611686018427387904) (h a : Int) : FnA Tryz.prog 89 [lA 3 wU.av l, .raw (.int .i64 h), .raw (.int .i64 a)] (.raw (.int .i64 (vA (isW h a) l))) := by
 refine en Tryz.func89 Tryz.ntmps89 [.tmp 6] rfl ?_
 repeat' first
  | refine wkg trivial ?_
  | (refine cS (fun hb => ?_) fun hb => ?_ <;> try (cases hb; done))
  | refine sM fun K hK => ?_
  | fail
 refine zF (fun k : Nat => ⟨31, 0, [(0, true, lA 3 wU.av l), (1, true, .raw (.int .i64 h)), (2, true, .raw (.int .i64 a)), (7, true, .raw (.int .i64 k))], [], [], ((0, []), [], true)⟩)
  (fun k => k ≤ l.length ∧ ∀ i, i < k → isW h a (l.getD i default) = false) (fun k => l.length - k) 0 ?_ ⟨by omega, fun i h => by omega⟩ ?_
 ·exact wkZ
 ·rintro k ⟨hk, hall⟩
  repeat' first
   | refine wkg trivial ?_
   | (refine cS (fun hb => ?_) fun hb => ?_ <;> try (cases hb; done))
   | refine sM fun K hK => ?_
   | fail
  ·refine rq ?_ ?_
   ·rw [wQ (show k < l.length by omega) hall (by rw [isW, yO3 hb.1, yO3 hb.2]; rfl)]
   ·simp [AV.free]
  ·refine ⟨k + 1, ⟨by omega, fun i hi => ?_⟩, by omega, ?_⟩
   ·rcases yNv.1 hi with h | rfl
    ·exact hall i h
    ·simp only [isW, yN0, yMz]; omega
   ·exact wkZ
  ·refine rq ?_ ?_
   ·rw [xI (fun i hi => hall i (by omega))]
   ·simp [AV.free]
theorem zU9 (l : List Change) (hmax : l.length ≤ 4611686018427387904) : FnA Tryz.prog 65 [lA 5 Change.av l] (.raw (.bool (decide (Lk.ValidP l)))) := Lk.validR_A l hmax
theorem zJn {α : Type} [Inhabited α] {l : List α} {k j : Nat} (h : j < k) : (l.take k).getD j default = l.getD j default := by
 simp [yLp, yKn, h]
theorem zPa {l : List wU} {h a : Int} : (zBk l h a).2 = false ↔ ∀ j, j < l.length → isW h a (l.getD j default) = false := by
 have hr := wC (isW h a) l
 constructor
 ·intro hf j hj
  unfold zBk at hf
  split at hf
  ·rename_i hlt
   have ha := qZ (isW h a) l
   rw [yO4 (by omega)] at ha
   have := yNc.1 ha.symm (l.getD j default) (by rw [zU hj]; exact yNe _)
   simpa using this
  ·cases hf
 ·intro hall
  rw [zBk, xI hall, if_pos (by decide)]
theorem zWn (l : List wU) (hl : l.length ≤ 4611686018427387904) (hc : ∀ w ∈ l, w.changes.length ≤ 4611686018427387904) : FnA Tryz.prog 84 [lA 3 wU.av l] (.raw (.bool (decide (x6 l)))) := by
 refine en Tryz.func84 Tryz.ntmps84 [.tmp 2] rfl ?_
 try (refine wg ?_; try refine sM fun K hK => ?_)
 refine zF (fun k : Nat => ⟨84, 0, [(0, true, lA 3 wU.av l), (3, true, .raw (.int .i64 k))], [], [], ((0, []), [], true)⟩)
  (fun k => k ≤ l.length ∧ ∀ i, i < k → zYw l i) (fun k => l.length - k) 0 ?_ ⟨by omega, fun i h => by omega⟩ ?_
 ·exact wkZ
 ·rintro k ⟨hk, hall⟩
  rcases yKt k l.length with hlt | hge
  ·have hmem : l.getD k default ∈ l := by rw [zU hlt]; exact yNe _
   have hv := zU9 _ (hc _ hmem)
   have hno : x6 l → zYw l k := fun h => h.1 k hlt
   try (refine wkg hv ?_; try refine sM fun K hK => ?_)
   refine zA ⟨_, evl, fun _ => ?_, fun hb => absurd hlt (by simpa using hb)⟩
   try (refine wkg hv ?_; try refine sM fun K hK => ?_)
   refine yE1 ⟨_, evl, ⟨cb, cb⟩, fun hb => ?_, fun hb => ?_⟩
   ·try (refine wg ?_; try refine sM fun K hK => ?_)
    refine zM (by simp) ⟨_, _, _, evl, ob0, zV.eq ?_ (by simp [AV.free])⟩
    simp only [AV.raw.injEq, Value.bool.injEq]
    rw [eq_comm, yMz]
    intro h
    obtain ⟨_, ⟨h1, h2⟩, ⟨h3, h4⟩, h5⟩ := hno h
    rcases hb with ((((hb | hb) | hb) | hb) | hb)
    ·exact hb h5
    ·omega
    ·omega
    ·omega
    ·omega
   ·have hb1 := hb
    try (refine wg ?_; try refine sM fun K hK => ?_)
    refine zF (fun j : Nat => ⟨84, 0, [(0, true, lA 3 wU.av l), (3, true, .raw (.int .i64 k)), (5, true, .raw (.int .i64 j))], [], [], ((0, []), [], true)⟩)
     (fun j => j ≤ k ∧ ∀ q, q < j → isW (l.getD k default).host (l.getD k default).auth (l.getD q default) = false) (fun j => k - j) 0 ?_ ⟨by omega, fun i h => by omega⟩ ?_
    ·exact wkZ
    ·rintro j ⟨hj, hq⟩
     repeat' first
      | refine wkg trivial ?_
      | (refine cS (fun hb => ?_) fun hb => ?_ <;> try (cases hb; done))
      | refine sM fun K hK => ?_
      | fail
     ·refine zM (by simp) ⟨_, _, _, evl, ob0, zV.eq ?_ (by simp [AV.free])⟩
      simp only [AV.raw.injEq, Value.bool.injEq]
      rw [eq_comm, yMz]
      intro h
      have h1 := (hno h).1
      rw [zPa] at h1
      have h2 := h1 j (by rw [yN3]; omega)
      rw [zJn (by omega), isW, yO3 hb.1, yO3 hb.2] at h2
      cases h2
     ·refine ⟨j + 1, ⟨by omega, fun q hq' => ?_⟩, by omega, ?_⟩
      ·rcases yNv.1 hq' with h | rfl
       ·exact hq q h
       ·rw [isW, yN0, yMz, yMz]; omega
      ·exact wkZ
     ·obtain rfl : j = k := by omega
      refine ⟨j + 1, ⟨by omega, fun i hi => ?_⟩, by omega, ?_⟩
      ·rcases yNv.1 hi with h | rfl
       ·exact hall i h
       ·refine ⟨?_, by omega, by omega, hb1.1.1.1.1⟩
        rw [zPa]
        intro q hq'
        rw [yN3] at hq'
        rw [zJn (by omega)]
        exact hq q (by omega)
      ·exact wkZ
  ·obtain rfl : k = l.length := by omega
   try (refine wg ?_; try refine sM fun K hK => ?_)
   refine zA ⟨_, evl, fun hb => absurd hb (by simp), fun _ => ?_⟩
   try (refine wg ?_; try refine sM fun K hK => ?_)
   refine rq ?_ ?_
   ·rw [show decide (x6 l) = decide ((l.length : Int) ≤ 1024) from by
     rw [decide_eq_decide]
     exact ⟨fun h => by have := h.2; omega, fun h => ⟨hall, by omega⟩⟩]
   ·simp [AV.free]
theorem zR6 (l : List Change) (i : Iv) (h : l.length ≤ 4611686018427387904) : FnA Tryz.prog 66 [lA 5 Change.av l, .agg i.av] (.tup [.agg (Lk.linkBoundsM l i).1.av, .raw (.int .i64 (Lk.linkBoundsM l i).2)]) := by
 rw [← Lk.refBounds_eq]
 exact Lk.boundsR_A l i h
theorem zZw {n : Int} : n.fdiv (2 ^ min (Int.toNat 32) 64) = n / 4294967296 := by
 rw [yNq _ (by decide)]
 rfl
theorem zWd {n : Int} (h : inK .u64 n) : zGg .and .u64 n 4294967295 = n % 4294967296 := by
 simp only [inK] at h
 obtain ⟨x, rfl⟩ := yO2 h.1
 have e : ((BitVec.ofInt 64 (x : Int) &&& BitVec.ofInt 64 4294967295).toNat : Int) = (x % 4294967296 : Nat) := by
  rw [BitVec.toNat_and, BitVec.toNat_ofInt, BitVec.toNat_ofInt]
  have e1 : ((x : Int) % ((2 ^ 64 : Nat) : Int)).toNat = x := by omega
  have e2 : ((4294967295 : Int) % ((2 ^ 64 : Nat) : Int)).toNat = 2 ^ 32 - 1 := by decide
  rw [e1, e2, Nat.and_two_pow_sub_one_eq_mod]
 show IntKind.u64.wrap _ = _
 rw [show IntKind.u64.bits = 64 from rfl, e]
 rw [yX (k := .u64) (by simp only [inK]; omega)]
 omega
theorem zEy (z : Int) : IntKind.u64.wrap z = z % 18446744073709551616 := rfl
theorem yAn (x y : Int) (hx : inK .u64 x) (hy : inK .u64 y) : FnA Tryz.prog 255 [.raw (.int .u64 x), .raw (.int .u64 y)] (.tup [.raw (.int .u64 (x * y / 18446744073709551616)), .raw (.int .u64 (x * y % 18446744073709551616))]) := by
 have ax := zWd hx
 have ay := zWd hy
 refine en Tryz.func255 Tryz.ntmps255 [.tmp 4, .tmp 5] rfl ?_
 repeat' first
  | refine wkg trivial ?_
  | (refine cS (fun hb => ?_) fun hb => ?_ <;> try (cases hb; done))
  | refine sM fun K hK => ?_
  | fail
 refine rq ?_ ?_
 ·simp only [inK] at hx hy
  obtain ⟨x, rfl⟩ := yO2 hx.1
  obtain ⟨y, rfl⟩ := yO2 hy.1
  simp only [AV.tup.injEq, List.cons.injEq, AV.raw.injEq, Value.int.injEq, yKz, yMs, zZw, ax, ay]
  have e1 : (x : Int) / 4294967296 = ((x / 4294967296 : Nat) : Int) := by omega
  have e2 : (y : Int) / 4294967296 = ((y / 4294967296 : Nat) : Int) := by omega
  have e3 : (x : Int) % 4294967296 = ((x % 4294967296 : Nat) : Int) := by omega
  have e4 : (y : Int) % 4294967296 = ((y % 4294967296 : Nat) : Int) := by omega
  obtain ⟨m1, m2, m3, m4⟩ := Lib.mul64_hi x y (by omega) (by omega)
  have m5 := Lib.half_mul_le (a := x / 4294967296) (b := y / 4294967296) (by omega) (by omega)
  have m6 := Lib.half_mul_le (a := x / 4294967296) (b := y % 4294967296) (by omega) (by omega)
  have m7 := Lib.half_mul_le (a := x % 4294967296) (b := y / 4294967296) (by omega) (by omega)
  have m8 : x * y / 18446744073709551616 < 18446744073709551616 := Nat.div_lt_of_lt_mul (Nat.mul_lt_mul'' (by omega) (by omega))
  rw [e1, e2, e3, e4]
  simp only [← Int.natCast_mul]
  rw [← m4] at m8
  have e5 : (((x * y : Nat) : Int) / 18446744073709551616) = ((x * y / 18446744073709551616 : Nat) : Int) := by omega
  rw [e5, ← m4]
  generalize x * y = p at *
  generalize x / 4294967296 * (y / 4294967296) = a at *
  generalize x / 4294967296 * (y % 4294967296) = b at *
  generalize x % 4294967296 * (y / 4294967296) = c at *
  generalize x % 4294967296 * (y % 4294967296) = d at *
  simp only [zEy]
  have k1 : (a : Int) % 18446744073709551616 = a := by omega
  have k2 : (b : Int) % 18446744073709551616 = b := by omega
  have k3 : (c : Int) % 18446744073709551616 = c := by omega
  have k4 : (d : Int) % 18446744073709551616 = d := by omega
  simp only [k1, k2, k3, k4]
  obtain ⟨t, ht⟩ : ∃ t : Nat, t = b + d / 4294967296 := ⟨_, rfl⟩
  have k5 : ((b : Int) + (d : Int) / 4294967296) % 18446744073709551616 = (t : Int) := by omega
  rw [← ht] at m2 m3 m4 m8 ⊢
  simp only [k5]
  have k6 : zGg .and .u64 (t : Int) 4294967295 = (t : Int) % 4294967296 := zWd (by simp only [inK]; omega)
  rw [k6]
  exact ⟨by omega, trivial⟩
 ·simp [AV.free, AV.freeL]
theorem yBk (lo y : Int) (hlo : inK .u64 lo) (hy : 0 < y ∧ y < 18446744073709551616) : FnA Tryz.prog 256 [.raw (.int .u64 0), .raw (.int .u64 lo), .raw (.int .u64 y)] (.tup [.raw (.int .u64 (lo / y)), .raw (.int .u64 (lo % y))]) := by
 simp only [inK] at hlo
 refine en Tryz.func256 Tryz.ntmps256 [.tmp 6, .tmp 7] rfl ?_
 repeat' first
  | refine wkg trivial ?_
  | (refine cS (fun hb => ?_) fun hb => ?_ <;> try (cases hb; done))
  | refine sM fun K hK => ?_
  | fail
 ·exfalso; omega
 ·exfalso; omega
 ·refine rq ?_ ?_
  ·rw [yO0 hlo.1, yNu hlo.1]
  ·simp [AV.free, AV.freeL]
structure vF where
 whole : Int
 left : Int
 d : Int
 negative : Bool
 deriving Inhabited, DecidableEq
@[go_sem] def vF.av (x : vF) : List AV := [.raw (.int .u64 x.whole), .raw (.int .u64 x.left), .raw (.int .u64 x.d), .raw (.bool x.negative)]
@[simp] theorem vF.free (x : vF) : AV.freeL x.av := ⟨trivial, trivial, trivial, trivial, trivial⟩
theorem zP2 (n : Int) : FnA Tryz.prog 238 [.raw (.int .i64 n)] (.raw (.bool (decide (-3000000000000000 ≤ n) && decide (n ≤ 3000000000000000)))) := by
 refine en Tryz.func238 Tryz.ntmps238 [.tmp 2] rfl ?_
 repeat' first
  | refine wkg trivial ?_
  | (refine cS (fun hb => ?_) fun hb => ?_ <;> try (cases hb; done))
  | refine sM fun K hK => ?_
  | fail
 all_goals exact fA
def zNp (q : vF) : Bool := !q.negative && decide (0 < q.left)
def zE0 (q : vF) : Bool := q.negative && decide (0 < q.left)
theorem zY2 (q : vF) : FnA Tryz.prog 203 [.agg q.av] (.raw (.bool (zE0 q))) := by
 refine en Tryz.func203 Tryz.ntmps203 [.tmp 2] rfl ?_
 repeat' first
  | refine wkg trivial ?_
  | (refine cS (fun hb => ?_) fun hb => ?_ <;> try (cases hb; done))
  | refine sM fun K hK => ?_
  | fail
 all_goals (try (refine zM (by simp) ⟨_, _, _, evl, ob0, zV.sims ?_ fre⟩))
 all_goals first | exact z5.refl _ | (refine z5.of_eq ?_; first | rfl | (simp [zE0]; done) | (simp_all [zE0]; done) | (simp_all [zE0]; omega) | (simp [zE0]; grind) | (split <;> simp_all)) | exact yM | (refine z5.tup ?_; simp only [z8, yMs]; (repeat' apply And.intro) <;> first | exact yM | skip) | (exfalso; first | omega | (simp_all; done) | (simp_all; omega)) | skip
theorem yBq (q : vF) : FnA Tryz.prog 204 [.agg q.av] (.raw (.bool (zNp q))) := by
 refine en Tryz.func204 Tryz.ntmps204 [.tmp 2] rfl ?_
 repeat' first
  | refine wkg trivial ?_
  | (refine cS (fun hb => ?_) fun hb => ?_ <;> try (cases hb; done))
  | refine sM fun K hK => ?_
  | fail
 all_goals (try (refine zM (by simp) ⟨_, _, _, evl, ob0, zV.sims ?_ fre⟩))
 all_goals first | exact z5.refl _ | (refine z5.of_eq ?_; first | rfl | (simp [zNp]; done) | (simp_all [zNp]; done) | (simp_all [zNp]; omega) | (simp [zNp]; grind) | (split <;> simp_all)) | exact yM | (refine z5.tup ?_; simp only [z8, yMs]; (repeat' apply And.intro) <;> first | exact yM | skip) | (exfalso; first | omega | (simp_all; done) | (simp_all; omega)) | skip
def zDp (p d : Int) : Int := p / d + if 0 < p % d then 1 else 0
namespace Bf
structure E where
 a : Nat
 b : Nat
 m : Int
 deriving Inhabited
def zFw (x : Nat → Int) (e : E) : Prop := x e.b ≤ x e.a + e.m
def keepsAll (l : List E) (x : Nat → Int) : Prop := ∀ e ∈ l, zFw x e
def relax (f : Nat → Int) (e : E) : Nat → Int := fun i => if i = e.b then min (f e.b) (f e.a + e.m) else f i
def zGp (l : List E) (f : Nat → Int) : Nat → Int := l.foldl relax f
def jac (l : List E) (f : Nat → Int) : Nat → Int := fun v => l.foldl (fun acc e => if e.b = v then min acc (f e.a + e.m) else acc) (f v)
theorem zOj (f : Nat → Int) (e : E) (i : Nat) : relax f e i ≤ f i := by
 unfold relax; split
 ·rename_i h; subst h; omega
 ·omega
theorem zIk {f h : Nat → Int} {e : E} (hk : zFw h e) (hf : ∀ i, h i ≤ f i) (i : Nat) : h i ≤ relax f e i := by
 unfold relax; split
 ·rename_i hi; subst hi
  have h1 := hf e.b
  have h2 := hf e.a
  unfold zFw at hk
  omega
 ·exact hf i
theorem zI7 : ∀ (l : List E) (f : Nat → Int) (i : Nat), zGp l f i ≤ f i
 | [], f, i => yO8 _
 | e :: l, f, i => Int.le_trans (zI7 l (relax f e) i) (zOj f e i)
theorem zO9 {h : Nat → Int} : ∀ (l : List E) (f : Nat → Int), keepsAll l h → (∀ i, h i ≤ f i) → ∀ i, h i ≤ zGp l f i
 | [], f, _, hf, i => hf i
 | e :: l, f, hk, hf, i => zO9 l (relax f e) (fun e' he => hk e' (by simp [he])) (zIk (hk e (by simp)) hf) i
theorem zH1 : ∀ (l : List E) (f : Nat → Int) (e : E), e ∈ l → zGp l f e.b ≤ f e.a + e.m
 | [], _, _, h => by cases h
 | e0 :: l, f, e, h => by
  rcases yLf.1 h with rfl | h
  ·refine Int.le_trans (zI7 l (relax f e) e.b) ?_
   unfold relax
   rw [if_pos rfl]; omega
  ·refine Int.le_trans (zH1 l (relax f e0) e h) ?_
   have := zOj f e0 e.a
   omega
theorem zCc (f : Nat → Int) (v : Nat) : ∀ (l : List E) (acc : Int), l.foldl (fun acc e => if e.b = v then min acc (f e.a + e.m) else acc) acc ≤ acc ∧ (∀ e ∈ l, e.b = v → l.foldl (fun acc e => if e.b = v then min acc (f e.a + e.m) else acc) acc ≤ f e.a + e.m) ∧
  (∀ c, c ≤ acc → (∀ e ∈ l, e.b = v → c ≤ f e.a + e.m) → c ≤ l.foldl (fun acc e => if e.b = v then min acc (f e.a + e.m) else acc) acc)
 | [], acc => ⟨yO8 _, fun e h => (by cases h), fun c h _ => h⟩
 | e0 :: l, acc => by
  obtain ⟨h1, h2, h3⟩ := zCc f v l (if e0.b = v then min acc (f e0.a + e0.m) else acc)
  simp only [yL4]
  refine ⟨?_, fun e he hv => ?_, fun c hc hall => h3 c ?_ fun e he hv => hall e (by simp [he]) hv⟩
  ·refine Int.le_trans h1 ?_
   split <;> omega
  ·rcases yLf.1 he with rfl | he
   ·refine Int.le_trans h1 ?_
    rw [if_pos hv]; omega
   ·exact h2 e he hv
  ·split
   ·rename_i hv
    have := hall e0 (by simp) hv
    omega
   ·exact hc
structure Rnd (l : List E) (F : (Nat → Int) → Nat → Int) : Prop where
 le : ∀ f i, F f i ≤ f i
 edge : ∀ f, ∀ e ∈ l, F f e.b ≤ f e.a + e.m
 ge : ∀ (h f : Nat → Int), keepsAll l h → (∀ i, h i ≤ f i) → ∀ i, h i ≤ F f i
theorem zC3 (l : List E) : Rnd l (zGp l) := ⟨zI7 l, fun f e he => zH1 l f e he, fun _ f hk hf i => zO9 l f hk hf i⟩
theorem zT6 (l : List E) : Rnd l (jac l) := by
 refine ⟨fun f i => (zCc f i l _).1, fun f e he => (zCc f e.b l _).2.1 e he rfl, fun h f hk hf i => (zCc f i l _).2.2 _ (hf i) fun e he hv => ?_⟩
 have h1 := hk e he
 have h2 := hf e.a
 unfold zFw at h1
 rw [hv] at h1
 omega
def zB2 (F : (Nat → Int) → Nat → Int) : Nat → Nat → Int
 | 0 => fun _ => 0
 | k + 1 => F (zB2 F k)
theorem zWb {f : Nat → Int} : ∀ (R : List Nat), R ≠ [] → ∃ u ∈ R, ∀ v ∈ R, f u ≤ f v
 | [], h => absurd rfl h
 | [a], _ => ⟨a, by simp, fun v hv => by rw [yM8] at hv; subst hv; exact yO8 _⟩
 | a :: b :: r, _ => by
  obtain ⟨u, hu, h⟩ := zWb (f := f) (b :: r) (by simp)
  rcases Int.le_total (f a) (f u) with h1 | h1
  ·refine ⟨a, by simp, fun v hv => ?_⟩
   rcases yLf.1 hv with rfl | hv
   ·exact yO8 _
   ·exact Int.le_trans h1 (h v hv)
  ·refine ⟨u, List.mem_cons_of_mem _ hu, fun v hv => ?_⟩
   rcases yLf.1 hv with rfl | hv
   ·exact h1
   ·exact h v hv
theorem zL3 {R : List Nat} {u : Nat} (hu : u ∈ R) : (R.filter fun v => decide (v ≠ u)).length < R.length := by
 rw [List.length_filter_lt_length_iff_exists]
 exact ⟨u, hu, by simp⟩
structure Near (l : List E) (n : Nat) (x : Nat → Int) (f : Nat → Int) (k : Nat) (R : List Nat) (M : Int) : Prop where
 len : R.length + k + 1 ≤ n ∨ R = []
 low : ∀ u ∈ R, M ≤ f u - x u
 stay : keepsAll l fun v => if v ∈ R then M + x v else f v
theorem near (l : List E) (n : Nat) (h0 : 0 < n) (hin : ∀ e ∈ l, e.a < n ∧ e.b < n) (x : Nat → Int) (hx : keepsAll l x) {F : (Nat → Int) → Nat → Int} (hF : Rnd l F) : ∀ k, ∃ R M, Near l n x (zB2 F k) k R M
 | 0 => by
  obtain ⟨u, hu, hmin⟩ := zWb (f := fun v => (0 : Int) - x v) (List.range n) (by intro h; have := congrArg List.length h; simp at this; omega)
  refine ⟨(List.range n).filter fun v => decide (v ≠ u), 0 - x u, .inl ?_, fun v hv => hmin v (yNl.1 hv).1, fun e he => ?_⟩
  ·have := zL3 hu
   rw [yO6] at this
   omega
  ·have e1 : ∀ v, v < n → (if v ∈ (List.range n).filter (fun v => decide (v ≠ u)) then 0 - x u + x v else zB2 F 0 v) = 0 - x u + x v := fun v hv => by
    split
    ·rfl
    ·rename_i hn
     have hvu : v = u := by
      apply yO7
      intro hc
      exact hn (yNl.2 ⟨yN5.2 hv, by simpa using hc⟩)
     subst hvu
     simp only [zB2]
     omega
   have h1 := hx e he
   unfold zFw at h1 ⊢
   dsimp only
   rw [e1 _ (hin e he).1, e1 _ (hin e he).2]
   omega
 | k + 1 => by
  obtain ⟨R, M, hlen, hlow, hstay⟩ := near l n h0 hin x hx hF k
  have hle : ∀ v, (if v ∈ R then M + x v else zB2 F k v) ≤ zB2 F k v := fun v => by
   split
   ·rename_i hv; have := hlow v hv; omega
   ·exact yO8 _
  have hge := hF.ge _ (zB2 F k) hstay hle
  have hfin : ∀ v, v ∉ R → zB2 F (k + 1) v = zB2 F k v := fun v hv => by
   have h1 := hge v
   have h2 := hF.le (zB2 F k) v
   rw [if_neg hv] at h1
   exact Int.le_antisymm h2 h1
  by_cases hR : R = []
  ·subst hR
   refine ⟨[], M, .inr rfl, fun u hu => (by cases hu), fun e he => ?_⟩
   have h1 := hstay e he
   unfold zFw at h1 ⊢
   simp only [yMo, if_false] at h1 ⊢
   rw [hfin _ (by simp), hfin _ (by simp)]
   exact h1
  ·obtain ⟨u, hu, hmin⟩ := zWb (f := fun v => zB2 F (k + 1) v - x v) R hR
   have hM : M ≤ zB2 F (k + 1) u - x u := by
    have h1 := hge u
    rw [if_pos hu] at h1
    show M ≤ F (zB2 F k) u - x u
    omega
   refine ⟨R.filter fun v => decide (v ≠ u), zB2 F (k + 1) u - x u, .inl ?_, fun v hv => hmin v (yNl.1 hv).1, fun e he => ?_⟩
   ·have := zL3 hu
    rcases hlen with h | h
    ·omega
    ·exact absurd h hR
   ·have hmem : ∀ v, v ∈ R.filter (fun v => decide (v ≠ u)) ↔ v ∈ R ∧ v ≠ u := fun v => by simp [yNl]
    have hval : ∀ v, v ∈ R → (if v ∈ R.filter (fun v => decide (v ≠ u)) then zB2 F (k + 1) u - x u + x v else zB2 F (k + 1) v) = zB2 F (k + 1) u - x u + x v := fun v hv => by
     split
     ·rfl
     ·rename_i hn
      have : v = u := by
       apply yO7
       intro hc
       exact hn ((hmem v).2 ⟨hv, hc⟩)
      subst this
      omega
    have hval2 : ∀ v, v ∉ R → (if v ∈ R.filter (fun v => decide (v ≠ u)) then zB2 F (k + 1) u - x u + x v else zB2 F (k + 1) v) = zB2 F k v := fun v hv => by
     rw [if_neg (fun h => hv ((hmem v).1 h).1), hfin v hv]
    have hx1 := hx e he
    have hs1 := hstay e he
    have he1 := hF.edge (zB2 F k) e he
    unfold zFw at hx1 hs1 ⊢
    dsimp only at hs1 ⊢
    by_cases ha : e.a ∈ R
    ·by_cases hb : e.b ∈ R
     ·rw [hval _ ha, hval _ hb]; omega
     ·rw [hval _ ha, hval2 _ hb]
      rw [if_pos ha, if_neg hb] at hs1
      omega
    ·by_cases hb : e.b ∈ R
     ·rw [hval2 _ ha, hval _ hb]
      have := hmin _ hb
      have h3 : zB2 F (k + 1) e.b ≤ zB2 F k e.a + e.m := he1
      omega
     ·rw [hval2 _ ha, hval2 _ hb]
      rw [if_neg ha, if_neg hb] at hs1
      exact hs1
theorem zMc {l : List E} {n : Nat} (h0 : 0 < n) (hin : ∀ e ∈ l, e.a < n ∧ e.b < n) {x : Nat → Int} (hx : keepsAll l x) {F : (Nat → Int) → Nat → Int} (hF : Rnd l F) : keepsAll l (zB2 F (n - 1)) := by
 obtain ⟨R, M, hlen, hlow, hstay⟩ := near l n h0 hin x hx hF (n - 1)
 have hR : R = [] := by
  rcases hlen with h | h
  ·exact yO9.1 (by omega)
  ·exact h
 subst hR
 intro e he
 have := hstay e he
 unfold zFw at this ⊢
 simpa using this
theorem zUg {l : List E} {F : (Nat → Int) → Nat → Int} (hF : Rnd l F) : ∀ k i, zB2 F k i ≤ 0
 | 0, _ => yO8 _
 | k + 1, i => Int.le_trans (hF.le _ i) (zUg hF k i)
theorem zN6 {l : List E} {F : (Nat → Int) → Nat → Int} (hF : Rnd l F) {h : Nat → Int} (hk : keepsAll l h) (h0 : ∀ i, h i ≤ 0) : ∀ k i, h i ≤ zB2 F k i
 | 0, i => h0 i
 | k + 1, i => hF.ge h _ hk (zN6 hF hk h0 k) i
theorem zN3 {l : List E} {c : Int} (hc : 0 ≤ c) (hm : ∀ e ∈ l, -c ≤ e.m) : ∀ (k i : Nat), -((k : Int) * c) ≤ zB2 (jac l) k i
 | 0, i => by simp [zB2]
 | k + 1, i => by
  have e1 : ((k + 1 : Nat) : Int) * c = (k : Int) * c + c := by
   rw [Int.natCast_add, Int.add_mul]; simp
  rw [e1]
  refine (zCc (zB2 (jac l) k) i l _).2.2 _ ?_ fun e he _ => ?_
  ·have := zN3 hc hm k i; omega
  ·have := zN3 hc hm k e.a
   have := hm e he
   omega
theorem best {l : List E} {n : Nat} (h0 : 0 < n) (hin : ∀ e ∈ l, e.a < n ∧ e.b < n) {x : Nat → Int} (hx : keepsAll l x) {c : Int} (hc : 0 ≤ c) (hm : ∀ e ∈ l, -c ≤ e.m) :
  ∃ h : Nat → Int, keepsAll l h ∧ (∀ i, h i ≤ 0) ∧ ∀ i, -((n : Int) * c) ≤ h i := by
 refine ⟨zB2 (jac l) (n - 1), zMc h0 hin hx (zT6 l), zUg (zT6 l) _, fun i => ?_⟩
 have h1 := zN3 hc hm (n - 1) i
 have h2 : ((n - 1 : Nat) : Int) * c ≤ (n : Int) * c := yOa (by omega) hc
 omega
end Bf
end Go.Proofs.YtchpbdecipcelaaGreatDoor
