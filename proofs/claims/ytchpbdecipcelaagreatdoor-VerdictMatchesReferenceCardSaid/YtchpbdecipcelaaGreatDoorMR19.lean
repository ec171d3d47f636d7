import Derived.Test.YtchpbdecipcelaaGreatDoorMR01
import Derived.Test.YtchpbdecipcelaaGreatDoorMR18
namespace Go.Proofs.YtchpbdecipcelaaGreatDoor
set_option linter.unusedVariables false
set_option linter.unusedSimpArgs false
set_option maxHeartbeats 4000000
set_option maxRecDepth 100000
open Go.RowKit
theorem zKn (l : List Change) (i : Iv) (h : l.length ≤ 4611686018427387904) : FnA Tryz.prog 131 [lA 5 Change.av l, .agg i.av] (.tup [.agg (Lk.linkBoundsM l i).1.av, .raw (.int .i64 (Lk.linkBoundsM l i).2)]) := Lk.linkBounds_A l i h
theorem yAr (c : Change) (s : Iv) : FnA Tryz.prog 182 [.agg c.av, .agg s.av] (.tup [.agg (Lk.sentM c s).1.av, .raw (.int .i64 (Lk.sentM c s).2)]) := Lk.sent_A c s
def stepS (l : List zI) (wires : List wU) (host : Int) (i : Iv) (x : zN) : Iv × Int :=
 if (zBk wires host x.auth).2 = false then (⟨0, 0⟩, 4) else if qW l x = false then (⟨0, 0⟩, 32) else Lk.sentM (Lk.linkBoundsM (zBk wires host x.auth).1.changes i).1 x.stamp
def zGu (f : zN → Iv × Int) : List zN → List Iv × Int
 | [] => ([], 0)
 | x :: xs => if (f x).2 = 0 then (if (zGu f xs).2 = 0 then ((f x).1 :: (zGu f xs).1, 0) else ([], (zGu f xs).2)) else ([], (f x).2)
theorem zP7 {f : zN → Iv × Int} : ∀ {l : List zN}, (∀ x ∈ l, (f x).2 = 0) → zGu f l = (l.map fun x => (f x).1, 0)
 | [], _ => rfl
 | x :: xs, h => by
  have ih := zP7 (f := f) (l := xs) fun y hy => h y (by simp [hy])
  rw [zGu, if_pos (h x (by simp)), ih, if_pos rfl]
  rfl
theorem zL2 {f : zN → Iv × Int} : ∀ {l : List zN} {k : Nat}, k < l.length → (∀ i, i < k → (f (l.getD i default)).2 = 0) → (f (l.getD k default)).2 ≠ 0 → zGu f l = ([], (f (l.getD k default)).2)
 | x :: xs, 0, _, _, he => by
  rw [zGu, if_neg (by simpa using he)]
  rfl
 | x :: xs, k + 1, hk, h, he => by
  have ih := zL2 (f := f) (l := xs) (k := k) (by simpa using hk) (fun i hi => by simpa using h (i + 1) (by omega)) (by simpa using he)
  have h0 : (f x).2 = 0 := by simpa using h 0 (by omega)
  rw [zGu, if_pos h0, ih, if_neg (by simpa using he)]
  simp
def zIb (l : List zI) (wires : List wU) (host : Int) (rs : List zN) (i : Iv) : Prop := (1 ≤ host ∧ host ≤ 64) ∧ (0 ≤ i.lo ∧ i.lo ≤ i.hi ∧ i.hi ≤ 3000000000000000) ∧ ValidP l ∧ x6 wires ∧ zDs host rs
instance (l : List zI) (wires : List wU) (host : Int) (rs : List zN) (i : Iv) : Decidable (zIb l wires host rs i) := by unfold zIb; infer_instance
def zQh (l : List zI) (wires : List wU) (host : Int) (rs : List zN) (i : Iv) : List Iv × Int := if zIb l wires host rs i then zGu (stepS l wires host i) rs else ([], 1)
theorem zIx {l : List wU} (hc : ∀ w ∈ l, w.changes.length ≤ 4611686018427387904) (h a : Int) : (zBk l h a).1.changes.length ≤ 4611686018427387904 := by
 have hr := wC (isW h a) l
 unfold zBk
 split
 ·simp
 ·refine hc _ ?_
  rw [zU (by omega)]
  exact yNe _
theorem zOt (st : ASt) (k : IntKind) (c : Int) : zV st (.tup [.raw (.slice none 0 0), .raw (.int k c)]) (.tup [lA 2 Iv.av [], .raw (.int k c)]) :=
 zV.sims (z5.tup (show z8 _ _ [_, _] [_, _] from ⟨(Sim.nil rfl).s, z5.refl _, trivial⟩)) ⟨zC (fun y => Iv.free y) _, trivial, trivial⟩
theorem zZz (l : List zI) (hl : l.length ≤ 4611686018427387904) (hf : ∀ k ∈ l, k.fits) (wires : List wU) (hwl : wires.length ≤ 4611686018427387904) (hc : ∀ w ∈ wires, w.changes.length ≤ 4611686018427387904) (host : Int) (rs : List zN) (hrl : rs.length ≤ 4611686018427387904) (hrf : ∀ r ∈ rs, r.fits) (i : Iv) :
  FnA Tryz.prog 120 [lA 7 zI.av l, lA 3 wU.av wires, .raw (.int .i64 host), .agg [lA 10 zN.av rs], .agg i.av] (.tup [lA 2 Iv.av (zQh l wires host rs i).1, .raw (.int .i64 (zQh l wires host rs i).2)]) := by
 have h1 := zBx i.lo i.hi
 have h2 := valid_A l hl hf
 have h3 := zZj wires hwl hc
 have h4 := yA3 host rs hrl hrf
 have g1 : (lA 7 zI.av l).free := zC (fun y => zI.free y) _
 have g2 : (lA 3 wU.av wires).free := zC (fun y => wU.free y) _
 have g3 : (lA 10 zN.av rs).free := zC (fun y => zN.free y) _
 by_cases hok : zIb l wires host rs i
 ·obtain ⟨k1, k2, k3, k4, k5⟩ := id hok
  rw [yO3 k2.1, yO3 k2.2.1, yO3 k2.2.2] at h1
  rw [yO3 k3] at h2
  rw [yO3 k4] at h3
  rw [yO3 k5] at h4
  have h16 := k5.1
  rw [show zQh l wires host rs i = zGu (stepS l wires host i) rs from if_pos hok]
  have hfi := fun a => zVa wires hwl host a
  have hch := fun a => zIx hc host a
  have hri := fun k hk => zOh l hl hf (rs.getD k default) (hrf _ (by rw [zU (show k < rs.length from hk)]; exact yNe _))
  clear hf hc hrf k2 k3 k4 k5 hok
  refine en Tryz.func120 Tryz.ntmps120 [.tmp 10, .tmp 11] rfl ?_
  try (refine wkg (And.intro h1 (And.intro h2 (And.intro h3 h4))) ?_; try refine sM fun K hK => ?_)
  refine zA ⟨_, evl, fun hb => ?_, fun _ => ?_⟩
  ·exfalso; simp at hb; omega
  clear h1 h2 h3 h4
  try (refine wg ?_; try refine sM fun K hK => ?_)
  refine yP (xE.nilRow 12 90 2 rfl) ?_
  obtain ⟨f, hfe⟩ : ∃ f, f = stepS l wires host i := ⟨_, rfl⟩
  have hfx : ∀ x, f x = stepS l wires host i x := fun x => by rw [hfe]
  rw [← hfe]
  clear hfe
  refine zF (fun k : Nat => ⟨94, 0, [(0, true, lA 7 zI.av l), (1, true, lA 3 wU.av wires), (2, true, .raw (.int .i64 host)), (9, true, .box 1 0), (12, true, .row 0 (List.map (fun x => (f x).1) (rs.take k)).length), (50, true, lA 10 zN.av rs), (51, true, .raw (.int .i64 rs.length)), (52, true, .raw (.int .i64 k))], [[lA 10 zN.av rs], Iv.av i], [⟨90, 2, (List.map (fun x => (f x).1) (rs.take k)).length, els Iv.av (List.map (fun x => (f x).1) (rs.take k))⟩], ((0, []), [], true)⟩)
   (fun k => k ≤ rs.length ∧ ∀ j, j < k → (f (rs.getD j default)).2 = 0) (fun k => rs.length - k) 0 ?_ ⟨by omega, fun i h => by omega⟩ ?_
  ·simp only [yMi, yMk, yMc]
   exact wkZ
  ·rintro k ⟨hk, hall⟩
   rcases yKt k rs.length with hlt | hge
   ·have hx := hfx (rs.getD k default)
    have h5 := hfi (rs.getD k default).auth
    have h6 := hri k hlt
    have h7 := zKn (zBk wires host (rs.getD k default).auth).1.changes i (hch _)
    have h8 := yAr (Lk.linkBoundsM (zBk wires host (rs.getD k default).auth).1.changes i).1 (rs.getD k default).stamp
    rw [stepS] at hx
    have hrow : (List.map (fun x => (f x).1) (rs.take (k + 1))) = List.map (fun x => (f x).1) (rs.take k) ++ [(f (rs.getD k default)).1] := by
     rw [yNs hlt, yNk, zU hlt]; rfl
    have hrl2 : (List.map (fun x => (f x).1) (rs.take k)).length ≤ 16 := by rw [yMg, yN3]; omega
    have herr := zL2 (f := f) hlt hall
    clear hfi hri hch hfx
    generalize zBk wires host (rs.getD k default).auth = W at *
    generalize qW l (rs.getD k default) = rb at *
    generalize Lk.linkBoundsM W.1.changes i = B at *
    generalize Lk.sentM B.1 (rs.getD k default).stamp = S at *
    generalize List.map (fun x => (f x).1) (rs.take k) = R at *
    by_cases b1 : W.2 = false
    ·rw [if_pos b1] at hx
     rw [hx] at herr
     rw [herr (by simp)]
     rw [b1] at h5
     clear hx herr hrow hall b1 h7 h8 h6
     try (refine wg ?_; try refine sM fun K hK => ?_)
     refine zA ⟨_, evl, fun _ => ?_, fun hb => (by simp at hb; omega)⟩
     repeat' first
      | refine wkR h5 ?_
      | (refine cS (fun hb => ?_) fun hb => ?_ <;> try (cases hb; done))
      | refine sM fun K hK => ?_
      | fail
     refine zM (by simp) ⟨_, _, _, evl, ob0, zOt _ _ _⟩
    ·rw [if_neg b1] at hx
     rw [show W.2 = true from by simpa using b1] at h5
     cases rb with
     | false =>
      rw [if_pos rfl] at hx
      rw [hx] at herr
      rw [herr (by simp)]
      clear hx herr hrow hall b1 h7 h8
      try (refine wg ?_; try refine sM fun K hK => ?_)
      refine zA ⟨_, evl, fun _ => ?_, fun hb => (by simp at hb; omega)⟩
      repeat' first
       | refine wkR (And.intro h5 h6) ?_
       | (refine cS (fun hb => ?_) fun hb => ?_ <;> try (cases hb; done))
       | refine sM fun K hK => ?_
       | fail
      refine zM (by simp) ⟨_, _, _, evl, ob0, zOt _ _ _⟩
     | true =>
      rw [if_neg (by simp)] at hx
      rw [hx] at herr hrow
      by_cases b3 : S.2 = 0
      ·rw [b3] at h8
       have next : ∀ j, j < k + 1 → (f (rs.getD j default)).2 = 0 := fun j hj => by
        rcases yNv.1 hj with h | rfl
        ·exact hall j h
        ·rw [hx]; exact b3
       clear hx herr hall b1
       try (refine wg ?_; try refine sM fun K hK => ?_)
       refine zA ⟨_, evl, fun _ => ?_, fun hb => (by simp at hb; omega)⟩
       try (refine wkR (And.intro h5 (And.intro h6 (And.intro h7 h8))) ?_; try refine sM fun K hK => ?_)
       refine zA ⟨_, evl, fun hb => (by simp at hb), fun _ => ?_⟩
       try (refine wkR (And.intro h5 (And.intro h6 (And.intro h7 h8))) ?_; try refine sM fun K hK => ?_)
       refine zA ⟨_, evl, fun hb => (by simp at hb), fun _ => ?_⟩
       try (refine wkR (And.intro h5 (And.intro h6 (And.intro h7 h8))) ?_; try refine sM fun K hK => ?_)
       refine zA ⟨_, evl, fun hb => (by simp at hb), fun _ => ?_⟩
       try (refine wkR trivial ?_; try refine sM fun K hK => ?_)
       refine ⟨k + 1, ⟨by omega, next⟩, by omega, ?_⟩
       rw [hrow, yL5]
       clear hrow next
       exact wkZ
      ·rw [herr b3]
       clear hx herr hrow hall b1
       try (refine wg ?_; try refine sM fun K hK => ?_)
       refine zA ⟨_, evl, fun _ => ?_, fun hb => (by simp at hb; omega)⟩
       try (refine wkR (And.intro h5 (And.intro h6 (And.intro h7 h8))) ?_; try refine sM fun K hK => ?_)
       refine zA ⟨_, evl, fun hb => (by simp at hb), fun _ => ?_⟩
       try (refine wkR (And.intro h5 (And.intro h6 (And.intro h7 h8))) ?_; try refine sM fun K hK => ?_)
       refine zA ⟨_, evl, fun hb => (by simp at hb), fun _ => ?_⟩
       try (refine wkR (And.intro h5 (And.intro h6 (And.intro h7 h8))) ?_; try refine sM fun K hK => ?_)
       refine zA ⟨_, evl, fun _ => ?_, fun hb => absurd (by simpa using hb) b3⟩
       try (refine wkR trivial ?_; try refine sM fun K hK => ?_)
       refine zM (by simp) ⟨_, _, _, evl, ob0, zOt _ _ _⟩
   ·obtain rfl : k = rs.length := by omega
    have hfo := zP7 (f := f) (l := rs) fun x hx => by
     obtain ⟨j, hj, rfl⟩ := yNb.1 hx
     rw [← zU hj]
     exact hall j hj
    rw [hfo]
    simp only [yNt]
    clear hfo hall hfi hri hch hfx
    generalize List.map (fun x => (f x).1) rs = R at *
    try (refine wg ?_; try refine sM fun K hK => ?_)
    refine zA ⟨_, evl, fun hb => (by simp at hb), fun _ => ?_⟩
    try (refine wg ?_; try refine sM fun K hK => ?_)
    refine zM (by simp) ⟨_, _, _, evl, ob0, ?_⟩
    exact zV.sims (z5.tup (show z8 _ _ [_, _] [_, _] from ⟨z5.row rfl rfl rfl rfl (fun i hi => rfl), z5.refl _, trivial⟩)) ⟨zC (fun y => Iv.free y) _, trivial, trivial⟩
 ·rw [show zQh l wires host rs i = ([], 1) from if_neg hok]
  have hno : (1 ≤ host ∧ host ≤ 64) → (decide (0 ≤ i.lo) && decide (i.lo ≤ i.hi) && decide (i.hi ≤ 3000000000000000)) = true → decide (ValidP l) = true → decide (x6 wires) = true → decide (zDs host rs) = true → False :=
   fun a b c d e => hok ⟨a, by simpa [and_assoc] using b, yNw c, yNw d, yNw e⟩
  generalize (decide (0 ≤ i.lo) && decide (i.lo ≤ i.hi) && decide (i.hi ≤ 3000000000000000)) = c1 at *
  generalize decide (ValidP l) = c2 at *
  generalize decide (x6 wires) = c3 at *
  generalize decide (zDs host rs) = c4 at *
  clear hok hf hc hrf
  refine en Tryz.func120 Tryz.ntmps120 [.tmp 10, .tmp 11] rfl ?_
  try (refine wkg (And.intro h1 (And.intro h2 (And.intro h3 h4))) ?_; try refine sM fun K hK => ?_)
  refine zA ⟨_, evl, fun _ => ?_, fun hb => ?_⟩
  ·try (refine wg ?_; try refine sM fun K hK => ?_)
   refine zM (by simp) ⟨_, _, _, evl, ob0, zOt _ _ _⟩
  ·exfalso
   simp at hb
   exact hno ⟨by omega, by omega⟩ (by simp [hb]) (by simp [hb]) (by simp [hb]) (by simp [hb])
end Go.Proofs.YtchpbdecipcelaaGreatDoor
