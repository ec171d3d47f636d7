import Derived.Test.YtchpbdecipcelaaGreatDoorHO01
import Derived.Test.YtchpbdecipcelaaGreatDoorHO45
import Derived.Test.YtchpbdecipcelaaGreatDoorHO48
import Derived.Test.YtchpbdecipcelaaGreatDoorHO49
namespace Go.Proofs.YtchpbdecipcelaaGreatDoor
set_option linter.unusedVariables false
set_option linter.unusedSimpArgs false
set_option maxHeartbeats 4000000
set_option maxRecDepth 100000
open Go.RowKit
theorem zW0 (c : List Change) (hcl : c.length ≤ 4611686018427387904) (rate at_ : Int) (hr : inK .u32 rate) (ha : inK .u64 at_) (x : List Six) (hxl : x.length ≤ 4611686018427387904) (hok : ∀ y ∈ x, y.ok) (most : Int) (hm : inK .u8 most) :
  FnA Tryz.prog 7 [lA 5 Change.av c, .raw (.int .u32 rate), .raw (.int .u64 at_), lA 6 Six.av x, .raw (.int .u8 most)] (.raw (.bool true)) := by
 have hh := zW1
 have hfc : (lA 5 Change.av c).free := zE (fun y => Change.free y) _
 have hfx : (lA 6 Six.av x).free := zE (fun y => Six.free y) _
 simp only [inK] at hr ha hm
 have hr2 := yT hr.1 (show (0 : Int) < 1000001 by decide)
 have ha2 := yT ha.1 (show (0 : Int) < 1500000000000000 by decide)
 have hm2 := yT hm.1 (show (0 : Int) < 4 by decide)
 by_cases hc : c.length ≤ 30
 ·by_cases hv : Lk.ValidP c ∧ x.length ≤ 6
  ·have hw := zXk c hv.1 hc (rate.tmod 1000001) (at_.tmod 1500000000000000) (by omega) (by omega) x hv.2 hok
   have hR := fun h => (⟨hv.1, by omega, by omega, hv.2, hok, h⟩ : Run c (rate.tmod 1000001) (at_.tmod 1500000000000000) x)
   have hS := fun h => zOy _ (hR h).okM (hR h).bok (most.tmod 4)
   have hU := fun h => zUo _ (hR h).okM (hR h).bok (most.tmod 4)
   have hsets := fun h => (hR h).sets (most := most.tmod 4) (by omega)
   have hfm := zQ.free (mAt c (rate.tmod 1000001) (at_.tmod 1500000000000000) x)
   unfold mAt wAt bC2 at hS hU hsets hfm
   have c1 := zLh [[]] [[]] (by simp) (by simp)
   have hf4 : (AV.lst 1 1 (yA 1 [.raw (.slice none 0 0)])).free := fun i hi => by
    obtain rfl : i = 0 := by omega
    exact ⟨trivial, trivial⟩
   have hf2 : (lA 1 sC2 [[]]).free := zE (fun y => show AV.freeL (sC2 y) from ⟨zE (fun z => zB.free z) _, trivial⟩) _
   have hf3 : (lA 2 zB.av []).free := zE (fun z => zB.free z) _
   clear hR hok hv
   generalize v9 (Lk.linkBoundsM c ⟨0, 3000000000000000⟩).1 (rate.tmod 1000001) (at_.tmod 1500000000000000) x x.length = W at *
   generalize yHq c (rate.tmod 1000001) W = m at *
   by_cases hn : W.now < 2999999991000000
   ·have hS := hS hn
    have hU := hU hn
    rw [(hsets hn).1] at hS
    rw [(hsets hn).2] at hU
    rw [yM1 hn] at hw
    clear hsets hn
    refine en Tryz.func7 Tryz.ntmps7 [.tmp 10] rfl ?_
    try (refine wkg hh ?_; try refine sM fun K hK => ?_)
    refine zA ⟨_, evl, fun hb => absurd hb (by simp; omega), fun _ => ?_⟩
    try (refine wkg hw ?_; try refine sM fun K hK => ?_)
    refine zA ⟨_, evl, fun hb => absurd hb (by simp), fun _ => ?_⟩
    try (refine wkg (And.intro hS hU) ?_; try refine sM fun K hK => ?_)
    repeat
     first
      | (refine zF (hK _ ?_); clear hK K)
      | refine stG ?_
      | (refine yH 1 rfl ?_; refine zN rfl rfl ⟨_, evl, _, _, _, evl, yR, ?_⟩; apply Exists.intro; refine ⟨fun hg => ?_, ?_⟩; · first | exact FnA.sim c1 ⟨Sim.refl _, Sim.one ⟨Sim.nil rfl, trivial⟩ rfl, trivial⟩ )
      | (refine zS 1 rfl ?_; refine zP rfl ⟨_, evl, _, _, _, (fun _ _ => w7), yR, ?_⟩; apply Exists.intro; refine ⟨fun hg => ?_, ?_⟩; · first | exact FnA.sim c1 ⟨Sim.refl _, Sim.one ⟨Sim.nil rfl, trivial⟩ rfl, trivial⟩ )
      | (refine zS 1 rfl ?_; refine zG ?_)
      | (refine z7 ?_; first | (refine zK (hK _ ?_); clear hK K) | (refine zT rfl ⟨_, evl, fun nb' => ?_⟩))
      | refine zD (fun K hK => ?_)
      | (refine xD ?_; first | (refine zC false rfl (by kernel_rfl) (by kernel_rfl) (fun K hK => ?_)) | (refine zC true rfl (by kernel_rfl) (by kernel_rfl) (fun K hK => ?_)))
    all_goals exact fA
   ·rw [yM2 hn] at hw
    clear hS hU hsets
    refine en Tryz.func7 Tryz.ntmps7 [.tmp 10] rfl ?_
    try (refine wkg hh ?_; try refine sM fun K hK => ?_)
    refine zA ⟨_, evl, fun hb => absurd hb (by simp; omega), fun _ => ?_⟩
    try (refine wkg hw ?_; try refine sM fun K hK => ?_)
    refine zA ⟨_, evl, fun _ => ?_, fun hb => absurd hb (by simp)⟩
    try (refine wg ?_; try refine sM fun K hK => ?_)
    all_goals exact fA
  ·have hw := zP2 c hc (rate.tmod 1000001) (at_.tmod 1500000000000000) x hxl hv
   refine en Tryz.func7 Tryz.ntmps7 [.tmp 10] rfl ?_
   try (refine wkg hh ?_; try refine sM fun K hK => ?_)
   refine zA ⟨_, evl, fun hb => absurd hb (by simp; omega), fun _ => ?_⟩
   try (refine wkg hw ?_; try refine sM fun K hK => ?_)
   refine zA ⟨_, evl, fun _ => ?_, fun hb => absurd hb (by simp)⟩
   try (refine wg ?_; try refine sM fun K hK => ?_)
   all_goals exact fA
 ·refine en Tryz.func7 Tryz.ntmps7 [.tmp 10] rfl ?_
  try (refine wkg hh ?_; try refine sM fun K hK => ?_)
  refine zA ⟨_, evl, fun _ => ?_, fun hb => absurd hb (by simp; omega)⟩
  try (refine wg ?_; try refine sM fun K hK => ?_)
  all_goals exact fA
theorem zVg {n : Nat} {xs : List AV} (h : yF tbl (n + 3) 136 xs) : ∃ c : Six, jX xs c.av ∧ c.ok := by
 simp only [yF, zE2, yJo, yKf, yJ4, yJ3, zXr, zR8] at h
 obtain ⟨a, b, rfl, -, ⟨m0, rfl, h0⟩, a, b, rfl, -, ⟨m1, rfl, h1⟩, a, b, rfl, -, ⟨m2, rfl, h2⟩, a, b, rfl, -, ⟨m3, rfl, h3⟩, a, b, rfl, -, ⟨m4, rfl, h4⟩, a, b, rfl, -, ⟨m5, rfl, h5⟩, rfl⟩ := h
 exact ⟨⟨m0, m1, m2, m3, m4, m5⟩, jX.of_eq rfl, h0, h1, h2, h3, h4, h5⟩
theorem zVf {n : Nat} {xs : List AV} (h : yF tbl (n + 1) 63 xs) : ∃ m : Int, xs = [.raw (.int .u32 m)] ∧ inK .u32 m := by
 simp only [yF, zE2, yJo, yKf, yJ4, yJ3, yAn] at h
 exact h
theorem zSb {n : Nat} {xs : List AV} (h : yF tbl (n + 1) 64 xs) : ∃ m : Int, xs = [.raw (.int .u64 m)] ∧ inK .u64 m := by
 simp only [yF, zE2, yJo, yKf, yJ4, yJ3, yAm] at h
 exact h
theorem zEn {x0 x1 x2 x3 x4 : List AV} (k0 : yF tbl 30 62 x0) (k1 : yF tbl 30 63 x1) (k2 : yF tbl 30 64 x2) (k3 : yF tbl 30 65 x3) (k4 : yF tbl 30 5 x4) :
  FnA Tryz.prog 7 [zWx false x0, zWx false x1, zWx false x2, zWx false x3, zWx false x4] (.raw (.bool true)) := by
 obtain ⟨y0, c, rfl, s0, _, g0⟩ := zJg k0
 obtain ⟨r, rfl, hr⟩ := zVf k1
 obtain ⟨a, rfl, ha⟩ := zSb k2
 obtain ⟨y3, x, rfl, s3, f3, g3⟩ := zSc (av := Six.av) (Q := Six.ok) 8 k3 (yAl) rfl (zR8) (by decide) (by decide) (fun ys h => zVg (n := 26) h)
 obtain ⟨n, rfl, hn⟩ := zYi k4
 exact FnA.sim (zW0 c (yIo g0 (by decide)) r a hr ha x (yIo g3 (by decide)) f3 n hn) ⟨s0, Sim.of_eq rfl, Sim.of_eq rfl, s3, Sim.of_eq rfl, trivial⟩
end Go.Proofs.YtchpbdecipcelaaGreatDoor
