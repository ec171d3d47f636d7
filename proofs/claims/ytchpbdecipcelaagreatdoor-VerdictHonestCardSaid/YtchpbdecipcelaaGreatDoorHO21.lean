import Derived.Test.YtchpbdecipcelaaGreatDoorHO01
import Derived.Test.YtchpbdecipcelaaGreatDoorHO14
import Derived.Test.YtchpbdecipcelaaGreatDoorHO20
namespace Go.Proofs.YtchpbdecipcelaaGreatDoor
set_option linter.unusedVariables false
set_option linter.unusedSimpArgs false
set_option maxHeartbeats 4000000
set_option maxRecDepth 100000
open Go.RowKit
theorem zJt (l : List Change) (i : Iv) (h : l.length ≤ 4611686018427387904) : FnA Tryz.prog 131 [lA 5 Change.av l, .agg i.av] (.tup [.agg (Lk.linkBoundsM l i).1.av, .raw (.int .i64 (Lk.linkBoundsM l i).2)]) := Lk.linkBounds_A l i h
theorem zYs (c : Change) (s : Iv) : FnA Tryz.prog 182 [.agg c.av, .agg s.av] (.tup [.agg (Lk.sentM c s).1.av, .raw (.int .i64 (Lk.sentM c s).2)]) := Lk.sent_A c s
def stepS (l : List zH) (wires : List wY) (host : Int) (i : Iv) (x : zM) : Iv × Int :=
 if (zE1 wires host x.auth).2 = false then (⟨0, 0⟩, 4) else if zAr l x = false then (⟨0, 0⟩, 32) else Lk.sentM (Lk.linkBoundsM (zE1 wires host x.auth).1.changes i).1 x.stamp
def zG7 (f : zM → Iv × Int) : List zM → List Iv × Int
 | [] => ([], 0)
 | x :: xs => if (f x).2 = 0 then (if (zG7 f xs).2 = 0 then ((f x).1 :: (zG7 f xs).1, 0) else ([], (zG7 f xs).2)) else ([], (f x).2)
theorem zO7 {f : zM → Iv × Int} : ∀ {l : List zM}, (∀ x ∈ l, (f x).2 = 0) → zG7 f l = (l.map fun x => (f x).1, 0)
 | [], _ => rfl
 | x :: xs, h => by
  have ih := zO7 (f := f) (l := xs) fun y hy => h y (by simp [hy])
  rw [zG7, if_pos (h x (by simp)), ih, if_pos rfl]
  rfl
theorem zK7 {f : zM → Iv × Int} : ∀ {l : List zM} {k : Nat}, k < l.length → (∀ i, i < k → (f (l.getD i default)).2 = 0) → (f (l.getD k default)).2 ≠ 0 → zG7 f l = ([], (f (l.getD k default)).2)
 | x :: xs, 0, _, _, he => by
  rw [zG7, if_neg (by simpa using he)]
  rfl
 | x :: xs, k + 1, hk, h, he => by
  have ih := zK7 (f := f) (l := xs) (k := k) (by simpa using hk) (fun i hi => by simpa using h (i + 1) (by omega)) (by simpa using he)
  have h0 : (f x).2 = 0 := by simpa using h 0 (by omega)
  rw [zG7, if_pos h0, ih, if_neg (by simpa using he)]
  simp
def zHr (l : List zH) (wires : List wY) (host : Int) (rs : List zM) (i : Iv) : Prop := (1 ≤ host ∧ host ≤ 64) ∧ (0 ≤ i.lo ∧ i.lo ≤ i.hi ∧ i.hi ≤ 3000000000000000) ∧ ValidP l ∧ w6 wires ∧ zDi host rs
instance (l : List zH) (wires : List wY) (host : Int) (rs : List zM) (i : Iv) : Decidable (zHr l wires host rs i) := by unfold zHr; infer_instance
def zPj (l : List zH) (wires : List wY) (host : Int) (rs : List zM) (i : Iv) : List Iv × Int := if zHr l wires host rs i then zG7 (stepS l wires host i) rs else ([], 1)
theorem zI8 {l : List wY} (hc : ∀ w ∈ l, w.changes.length ≤ 4611686018427387904) (h a : Int) : (zE1 l h a).1.changes.length ≤ 4611686018427387904 := by
 have hr := kU (isW h a) l
 unfold zE1
 split
 ·simp
 ·refine hc _ ?_
  rw [z5 (by omega)]
  exact yLb _
theorem zNs (st : ASt) (k : IntKind) (c : Int) : zV st (.tup [.raw (.slice none 0 0), .raw (.int k c)]) (.tup [lA 2 Iv.av [], .raw (.int k c)]) :=
 zV.sims (z6.tup (show z8 _ _ [_, _] [_, _] from ⟨(Sim.nil rfl).s, z6.refl _, trivial⟩)) ⟨zE (fun y => Iv.free y) _, trivial, trivial⟩
theorem zXy (l : List zH) (hl : l.length ≤ 4611686018427387904) (hf : ∀ k ∈ l, k.fits) (wires : List wY) (hwl : wires.length ≤ 4611686018427387904) (hc : ∀ w ∈ wires, w.changes.length ≤ 4611686018427387904) (host : Int) (rs : List zM) (hrl : rs.length ≤ 4611686018427387904) (hrf : ∀ r ∈ rs, r.fits) (i : Iv) :
  FnA Tryz.prog 120 [lA 7 zH.av l, lA 3 wY.av wires, .raw (.int .i64 host), .agg [lA 10 zM.av rs], .agg i.av] (.tup [lA 2 Iv.av (zPj l wires host rs i).1, .raw (.int .i64 (zPj l wires host rs i).2)]) := by
 have h1 := zBt i.lo i.hi
 have h2 := valid_A l hl hf
 have h3 := zXl wires hwl hc
 have h4 := zY5 host rs hrl hrf
 have g1 : (lA 7 zH.av l).free := zE (fun y => zH.free y) _
 have g2 : (lA 3 wY.av wires).free := zE (fun y => wY.free y) _
 have g3 : (lA 10 zM.av rs).free := zE (fun y => zM.free y) _
 by_cases hok : zHr l wires host rs i
 ·obtain ⟨k1, k2, k3, k4, k5⟩ := id hok
  rw [yM1 k2.1, yM1 k2.2.1, yM1 k2.2.2] at h1
  rw [yM1 k3] at h2
  rw [yM1 k4] at h3
  rw [yM1 k5] at h4
  have h16 := k5.1
  rw [show zPj l wires host rs i = zG7 (stepS l wires host i) rs from if_pos hok]
  have hfi := fun a => zTm wires hwl host a
  have hch := fun a => zI8 hc host a
  have hri := fun k hk => zNd l hl hf (rs.getD k default) (hrf _ (by rw [z5 (show k < rs.length from hk)]; exact yLb _))
  clear hf hc hrf k2 k3 k4 k5 hok
  refine en Tryz.func120 Tryz.ntmps120 [.tmp 10, .tmp 11] rfl ?_
  try (refine wkg (And.intro h1 (And.intro h2 (And.intro h3 h4))) ?_; try refine sM fun K hK => ?_)
  refine zA ⟨_, evl, fun hb => ?_, fun _ => ?_⟩
  ·exfalso; simp at hb; omega
  clear h1 h2 h3 h4
  try (refine wg ?_; try refine sM fun K hK => ?_)
  refine yI (xJ.nilRow 12 90 2 rfl) ?_
  obtain ⟨f, hfe⟩ : ∃ f, f = stepS l wires host i := ⟨_, rfl⟩
  have hfx : ∀ x, f x = stepS l wires host i x := fun x => by rw [hfe]
  rw [← hfe]
  clear hfe
  refine zJ (fun k : Nat => ⟨94, 0, [(0, true, lA 7 zH.av l), (1, true, lA 3 wY.av wires), (2, true, .raw (.int .i64 host)), (9, true, .box 1 0), (12, true, .row 0 (List.map (fun x => (f x).1) (rs.take k)).length), (50, true, lA 10 zM.av rs), (51, true, .raw (.int .i64 rs.length)), (52, true, .raw (.int .i64 k))], [[lA 10 zM.av rs], Iv.av i], [⟨90, 2, (List.map (fun x => (f x).1) (rs.take k)).length, els Iv.av (List.map (fun x => (f x).1) (rs.take k))⟩], ((0, []), [], true)⟩)
   (fun k => k ≤ rs.length ∧ ∀ j, j < k → (f (rs.getD j default)).2 = 0) (fun k => rs.length - k) 0 ?_ ⟨by omega, fun i h => by omega⟩ ?_
  ·simp only [List.take_zero, yKf, yK8]
   exact wkZ
  ·rintro k ⟨hk, hall⟩
   rcases yIq k rs.length with hlt | hge
   ·have hx := hfx (rs.getD k default)
    have h5 := hfi (rs.getD k default).auth
    have h6 := hri k hlt
    have h7 := zJt (zE1 wires host (rs.getD k default).auth).1.changes i (hch _)
    have h8 := zYs (Lk.linkBoundsM (zE1 wires host (rs.getD k default).auth).1.changes i).1 (rs.getD k default).stamp
    rw [stepS] at hx
    have hrow : (List.map (fun x => (f x).1) (rs.take (k + 1))) = List.map (fun x => (f x).1) (rs.take k) ++ [(f (rs.getD k default)).1] := by
     rw [yLq hlt, yLh, z5 hlt]; rfl
    have hrl2 : (List.map (fun x => (f x).1) (rs.take k)).length ≤ 16 := by rw [yKc, yKy]; omega
    have herr := zK7 (f := f) hlt hall
    clear hfi hri hch hfx
    generalize zE1 wires host (rs.getD k default).auth = W at *
    generalize zAr l (rs.getD k default) = rb at *
    generalize Lk.linkBoundsM W.1.changes i = B at *
    generalize Lk.sentM B.1 (rs.getD k default).stamp = S at *
    generalize List.map (fun x => (f x).1) (rs.take k) = R at *
    by_cases b1 : W.2 = false
    ·rw [if_pos b1] at hx
     rw [hx] at herr
     rw [herr (by simp)]
     rw [b1] at h5
     clear hx herr hrow hall b1 h7 h8 h6
     try (refine wg ?_; try refine sM fun K hK => ?_)
     refine zA ⟨_, evl, fun _ => ?_, fun hb => (by simp at hb; omega)⟩
     repeat' first
      | refine wkR h5 ?_
      | (refine cS (fun hb => ?_) fun hb => ?_ <;> try (cases hb; done))
      | refine sM fun K hK => ?_
      | fail
     refine zR (by simp) ⟨_, _, _, evl, ob0, zNs _ _ _⟩
    ·rw [if_neg b1] at hx
     rw [show W.2 = true from by simpa using b1] at h5
     cases rb with
     | false =>
      rw [if_pos rfl] at hx
      rw [hx] at herr
      rw [herr (by simp)]
      clear hx herr hrow hall b1 h7 h8
      try (refine wg ?_; try refine sM fun K hK => ?_)
      refine zA ⟨_, evl, fun _ => ?_, fun hb => (by simp at hb; omega)⟩
      repeat' first
       | refine wkR (And.intro h5 h6) ?_
       | (refine cS (fun hb => ?_) fun hb => ?_ <;> try (cases hb; done))
       | refine sM fun K hK => ?_
       | fail
      refine zR (by simp) ⟨_, _, _, evl, ob0, zNs _ _ _⟩
     | true =>
      rw [if_neg (by simp)] at hx
      rw [hx] at herr hrow
      by_cases b3 : S.2 = 0
      ·rw [b3] at h8
       have next : ∀ j, j < k + 1 → (f (rs.getD j default)).2 = 0 := fun j hj => by
        rcases yLu.1 hj with h | rfl
        ·exact hall j h
        ·rw [hx]; exact b3
       clear hx herr hall b1
       try (refine wg ?_; try refine sM fun K hK => ?_)
       refine zA ⟨_, evl, fun _ => ?_, fun hb => (by simp at hb; omega)⟩
       try (refine wkR (And.intro h5 (And.intro h6 (And.intro h7 h8))) ?_; try refine sM fun K hK => ?_)
       refine zA ⟨_, evl, fun hb => (by simp at hb), fun _ => ?_⟩
       try (refine wkR (And.intro h5 (And.intro h6 (And.intro h7 h8))) ?_; try refine sM fun K hK => ?_)
       refine zA ⟨_, evl, fun hb => (by simp at hb), fun _ => ?_⟩
       try (refine wkR (And.intro h5 (And.intro h6 (And.intro h7 h8))) ?_; try refine sM fun K hK => ?_)
       refine zA ⟨_, evl, fun hb => (by simp at hb), fun _ => ?_⟩
       try (refine wkR trivial ?_; try refine sM fun K hK => ?_)
       refine ⟨k + 1, ⟨by omega, next⟩, by omega, ?_⟩
       rw [hrow, yJ2]
       clear hrow next
       exact wkZ
      ·rw [herr b3]
       clear hx herr hrow hall b1
       try (refine wg ?_; try refine sM fun K hK => ?_)
       refine zA ⟨_, evl, fun _ => ?_, fun hb => (by simp at hb; omega)⟩
       try (refine wkR (And.intro h5 (And.intro h6 (And.intro h7 h8))) ?_; try refine sM fun K hK => ?_)
       refine zA ⟨_, evl, fun hb => (by simp at hb), fun _ => ?_⟩
       try (refine wkR (And.intro h5 (And.intro h6 (And.intro h7 h8))) ?_; try refine sM fun K hK => ?_)
       refine zA ⟨_, evl, fun hb => (by simp at hb), fun _ => ?_⟩
       try (refine wkR (And.intro h5 (And.intro h6 (And.intro h7 h8))) ?_; try refine sM fun K hK => ?_)
       refine zA ⟨_, evl, fun _ => ?_, fun hb => absurd (by simpa using hb) b3⟩
       try (refine wkR trivial ?_; try refine sM fun K hK => ?_)
       refine zR (by simp) ⟨_, _, _, evl, ob0, zNs _ _ _⟩
   ·obtain rfl : k = rs.length := by omega
    have hfo := zO7 (f := f) (l := rs) fun x hx => by
     obtain ⟨j, hj, rfl⟩ := yL8.1 hx
     rw [← z5 hj]
     exact hall j hj
    rw [hfo]
    simp only [yLr]
    clear hfo hall hfi hri hch hfx
    generalize List.map (fun x => (f x).1) rs = R at *
    try (refine wg ?_; try refine sM fun K hK => ?_)
    refine zA ⟨_, evl, fun hb => (by simp at hb), fun _ => ?_⟩
    try (refine wg ?_; try refine sM fun K hK => ?_)
    refine zR (by simp) ⟨_, _, _, evl, ob0, ?_⟩
    exact zV.sims (z6.tup (show z8 _ _ [_, _] [_, _] from ⟨z6.row rfl rfl rfl rfl (fun i hi => rfl), z6.refl _, trivial⟩)) ⟨zE (fun y => Iv.free y) _, trivial, trivial⟩
 ·rw [show zPj l wires host rs i = ([], 1) from if_neg hok]
  have hno : (1 ≤ host ∧ host ≤ 64) → (decide (0 ≤ i.lo) && decide (i.lo ≤ i.hi) && decide (i.hi ≤ 3000000000000000)) = true → decide (ValidP l) = true → decide (w6 wires) = true → decide (zDi host rs) = true → False :=
   fun a b c d e => hok ⟨a, by simpa [and_assoc] using b, yLv c, yLv d, yLv e⟩
  generalize (decide (0 ≤ i.lo) && decide (i.lo ≤ i.hi) && decide (i.hi ≤ 3000000000000000)) = c1 at *
  generalize decide (ValidP l) = c2 at *
  generalize decide (w6 wires) = c3 at *
  generalize decide (zDi host rs) = c4 at *
  clear hok hf hc hrf
  refine en Tryz.func120 Tryz.ntmps120 [.tmp 10, .tmp 11] rfl ?_
  try (refine wkg (And.intro h1 (And.intro h2 (And.intro h3 h4))) ?_; try refine sM fun K hK => ?_)
  refine zA ⟨_, evl, fun _ => ?_, fun hb => ?_⟩
  ·try (refine wg ?_; try refine sM fun K hK => ?_)
   refine zR (by simp) ⟨_, _, _, evl, ob0, zNs _ _ _⟩
  ·exfalso
   simp at hb
   exact hno ⟨by omega, by omega⟩ (by simp [hb]) (by simp [hb]) (by simp [hb]) (by simp [hb])
theorem zXv (key once : Int) (m : List Int) (h : okI m) (hn : m.length ≤ 999998) : FnA Tryz.prog 115 [.raw (.int .i64 key), .raw (.int .i64 once), liA m] (.tup [.agg (qB key once m).1.av, .raw (.int .i64 (qB key once m).2)]) := by
 have hw1 := yL key 1
 have hw2 := yL once 1
 by_cases hb : zU key 1 = true ∧ zU once 1 = true
 ·have hk := hw1.1 hb.1
  have ho := hw2.1 hb.2
  have hP := vO 4 once (by omega) (by omega)
  have hKy := vO 4 key (by omega) (by omega)
  have hok : okI ((wD (Int.toNat 4) once.toNat : Int) :: (wD (Int.toNat 4) key.toNat : Int) :: m) := by
   intro n hn
   rcases yJb.1 hn with rfl | hn
   ·exact zNl (by omega)
   ·rcases yJb.1 hn with rfl | hn
    ·exact zNl (by omega)
    ·exact h n hn
  have hC := zDt _ _ _ hok hn
  have hcr := wL (wD (Int.toNat 4) once.toNat) (wD (Int.toNat 4) key.toNat) m
  have hmul := mulQ hcr (show 0 ≤ key ∧ key < 1073741789 by omega)
  have e : qB key once m = (⟨qY (wD (Int.toNat 4) once.toNat) (wD (Int.toNat 4) key.toNat) m, (once + qY (wD (Int.toNat 4) once.toNat) (wD (Int.toNat 4) key.toNat) m * key).tmod 1073741789⟩, 0) := by
   rw [qB, hb.1, hb.2]; rfl
  rw [e]
  generalize qY (wD (Int.toNat 4) once.toNat) (wD (Int.toNat 4) key.toNat) m = c at *
  generalize (wD (Int.toNat 4) once.toNat : Int) = p1 at *
  generalize (wD (Int.toNat 4) key.toNat : Int) = p2 at *
  refine en Tryz.func115 Tryz.ntmps115 [.cell 6 92, .tmp 7] rfl ?_
  repeat' first
   | refine wkg (And.intro (zGx key) (And.intro (zGx once) (And.intro hP (And.intro hKy hC)))) ?_
   | (refine cS (fun hb => ?_) fun hb => ?_ <;> try (cases hb; done))
   | refine sM fun K hK => ?_
   | fail
  all_goals (try (refine zR (by simp) ⟨_, _, _, evl, ob0, zV.sims ?_ fre⟩))
  all_goals first | exact z6.refl _ | (refine z6.of_eq ?_; first | rfl | (simp [Sig.av]; done) | (simp_all [Sig.av]; done) | (simp_all [Sig.av]; omega) | (simp [Sig.av]; grind) | (split <;> simp_all)) | exact yU | (refine z6.tup ?_; simp only [z8, yKn]; (repeat' apply And.intro) <;> first | exact yU | skip) | (exfalso; first | omega | (simp_all; done) | (simp_all; omega)) | skip
 ·have e : qB key once m = (⟨0, 0⟩, 1) := by
   rw [qB, if_neg (by simpa using hb)]
  rw [e]
  refine en Tryz.func115 Tryz.ntmps115 [.cell 6 92, .tmp 7] rfl ?_
  repeat' first
   | refine wkg (And.intro (zGx key) (zGx once)) ?_
   | (refine cS (fun hb => ?_) fun hb => ?_ <;> try (cases hb; done))
   | refine sM fun K hK => ?_
   | fail
  all_goals (try (refine zR (by simp) ⟨_, _, _, evl, ob0, zV.sims ?_ fre⟩))
  all_goals first | exact z6.refl _ | (refine z6.of_eq ?_; first | rfl | (simp [Sig.av]; done) | (simp_all [Sig.av]; done) | (simp_all [Sig.av]; omega) | (simp [Sig.av]; grind) | (split <;> simp_all)) | exact yU | (refine z6.tup ?_; simp only [z8, yKn]; (repeat' apply And.intro) <;> first | exact yU | skip) | (exfalso; first | omega | (simp_all; done) | (simp_all; omega)) | skip
theorem zZy (pub : Int) (s : Sig) (hp : 0 ≤ pub ∧ pub < 2147483579) (h1 : 0 ≤ s.c ∧ s.c < 1073741789) (h2 : 0 ≤ s.s ∧ s.s < 1073741789) (hone : wD pub.toNat 1073741789 = 1) :
  FnA Tryz.prog 240 [.raw (.int .i64 pub), .agg s.av] (.raw (.int .i64 (jS pub s))) := by
 have e3 : (1073741789 - s.c).tmod 1073741789 = (1073741789 - s.c) % 1073741789 := yLs (by omega)
 have hr : 0 ≤ (1073741789 - s.c) % 1073741789 ∧ (1073741789 - s.c) % 1073741789 < 1073741789 := by omega
 have hP := vO 4 s.s (by omega) (by omega)
 have hKy := vO pub ((1073741789 - s.c).tmod 1073741789) (by omega) (by rw [e3]; omega)
 have e4 : wD pub.toNat ((1073741789 - s.c).tmod 1073741789).toNat = wD pub.toNat (1073741789 - s.c).toNat := by
  rw [e3]
  rcases Int.le_iff_lt_or_eq.1 h1.1 with h | h
  ·rw [show (1073741789 - s.c) % 1073741789 = 1073741789 - s.c from by omega]
  ·rw [← h]
   rw [show (((1073741789 : Int) - 0) % 1073741789).toNat = 0 from rfl, show ((1073741789 : Int) - 0).toNat = 1073741789 from rfl, hone, qC _ _ (by omega), Nat.pow_zero]
 rw [e4] at hKy
 have r1 := zD7 (Int.toNat 4) s.s.toNat (by omega)
 have r2 := zD7 pub.toNat (1073741789 - s.c).toNat (by omega)
 have hmul := yB3 (a := (wD (Int.toNat 4) s.s.toNat : Int)) (b := (wD pub.toNat (1073741789 - s.c).toNat : Int)) (by omega) (by omega)
 have hbk : ((wD (Int.toNat 4) s.s.toNat : Int) * (wD pub.toNat (1073741789 - s.c).toNat : Int)).tmod 2147483579 = jS pub s := by
  rw [← yLn]; rfl
 rw [← hbk]
 generalize (wD (Int.toNat 4) s.s.toNat : Int) = p1 at *
 generalize (wD pub.toNat (1073741789 - s.c).toNat : Int) = p2 at *
 refine en Tryz.func240 Tryz.ntmps240 [.tmp 4] rfl ?_
 repeat' first
  | refine wkg (And.intro hP hKy) ?_
  | (refine cS (fun hb => ?_) fun hb => ?_ <;> try (cases hb; done))
  | refine sM fun K hK => ?_
  | fail
 all_goals exact fA
theorem zR1 (pub : Int) (s : Sig) (m : List Int) (h : okI m) (hp : inK .i64 pub) (hn : m.length ≤ 999998) : FnA Tryz.prog 207 [.raw (.int .i64 pub), .agg s.av, liA m] (.tup [.raw (.bool (yW pub s m).1), .raw (.int .i64 (yW pub s m).2)]) := by
 have hw1 := yL s.c 0
 have hw2 := yL s.s 0
 have hm := zB9 pub
 by_cases hb : xQ pub = true ∧ zU s.c 0 = true ∧ zU s.s 0 = true
 ·have hk := hw1.1 hb.2.1
  have ho := hw2.1 hb.2.2
  have hmm := hm.1 hb.1
  have hB := zZy pub s (by omega) hk ho hmm.2.2
  have hbr : 0 ≤ jS pub s ∧ jS pub s < 2147483579 := by unfold jS; omega
  have hok : okI (jS pub s :: pub :: m) := by
   intro n hn
   rcases yJb.1 hn with rfl | hn
   ·simp only [inK]; omega
   ·rcases yJb.1 hn with rfl | hn
    ·exact hp
    ·exact h n hn
  have hC := zDt _ _ _ hok hn
  have e : yW pub s m = (decide (qY (jS pub s) pub m = s.c), 0) := by
   rw [yW, hb.1, hb.2.1, hb.2.2]; rfl
  rw [e]
  have hcr := wL (jS pub s) pub m
  generalize qY _ pub m = c at *
  generalize jS pub s = bk at *
  refine en Tryz.func207 Tryz.ntmps207 [.tmp 6, .tmp 7] rfl ?_
  repeat' first
   | refine wkg (And.intro (vD s.c) (And.intro (vD s.s) (And.intro (zF7 pub) (And.intro hB hC)))) ?_
   | (refine cS (fun hb => ?_) fun hb => ?_ <;> try (cases hb; done))
   | refine sM fun K hK => ?_
   | fail
  all_goals exact fA
 ·have e : yW pub s m = (false, 1) := by
   rw [yW, if_neg (by simpa [and_assoc] using hb)]
  rw [e]
  refine en Tryz.func207 Tryz.ntmps207 [.tmp 6, .tmp 7] rfl ?_
  repeat' first
   | refine wkg (And.intro (vD s.c) (And.intro (vD s.s) (zF7 pub))) ?_
   | (refine cS (fun hb => ?_) fun hb => ?_ <;> try (cases hb; done))
   | refine sM fun K hK => ?_
   | fail
  all_goals exact fA
theorem zJb (key : Int) (h : 0 ≤ key ∧ key < 9223372036854775808) : FnA Tryz.prog 67 [.raw (.int .i64 key)] (.raw (.int .i64 (wD 4 key.toNat))) := by
 refine en Tryz.func67 Tryz.ntmps67 [.tmp 2] rfl ?_
 repeat'
  first
   | first
    | (refine zF (hK _ ?_); clear hK K)
    | refine stG ?_
    | (refine yH 1 rfl ?_; refine zN rfl rfl ⟨_, evl, _, _, _, evl, yR, ?_⟩; apply Exists.intro; refine ⟨fun hg => ?_, ?_⟩; · first | exact FnA.at_ (vO 4 key (by omega) h) rfl rfl | exact FnA.at_s (vO 4 key (by omega) h) rfl xB | exact FnA.at_s (vO 4 key (by omega) h) rfl xC)
    | (refine zS 1 rfl ?_; refine zP rfl ⟨_, evl, _, _, _, (fun _ _ => w7), yR, ?_⟩; apply Exists.intro; refine ⟨fun hg => ?_, ?_⟩; · first | exact FnA.at_ (vO 4 key (by omega) h) rfl rfl | exact FnA.at_s (vO 4 key (by omega) h) rfl xB | exact FnA.at_s (vO 4 key (by omega) h) rfl xC)
    | (refine zS 1 rfl ?_; refine zG ?_)
    | (refine z7 ?_; first | (refine zK (hK _ ?_); clear hK K) | (refine zT rfl ⟨_, evl, fun nb' => ?_⟩))
    | refine zD (fun K hK => ?_)
    | (refine xD ?_; first | (refine zC false rfl (by kernel_rfl) (by kernel_rfl) (fun K hK => ?_)) | (refine zC true rfl (by kernel_rfl) (by kernel_rfl) (fun K hK => ?_)))
    | (refine zA ⟨_, evl, fun hb => ?_, fun hb => ?_⟩ <;> (try simp only [yKt, yJl, yKw, yKv, yJn, yKs, yJd, yLj, yJm, yKu, yLk, yK3, ne_eq, yLl, yJc, yLm, yKg, yKh] at hb))
   | fail
 all_goals exact fA
end Go.Proofs.YtchpbdecipcelaaGreatDoor
