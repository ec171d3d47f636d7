import Derived.Test.YtchpbdecipcelaaGreatDoorMR01
import Derived.Test.YtchpbdecipcelaaGreatDoorMR49
namespace Go.Proofs.YtchpbdecipcelaaGreatDoor
set_option linter.unusedVariables false
set_option linter.unusedSimpArgs false
set_option maxHeartbeats 4000000
set_option maxRecDepth 100000
open Go.RowKit
theorem yA8 (m : zL) (hm : zCy m) (most : Int) (l : List zH) (hl : Lim l) (hw : ∀ b ∈ l, Lim b.who) (n : Int) (blamed : List zB) (hbl : Lim blamed) :
  FnA Tryz.prog 3 [.agg m.av, .raw (.int .i64 most), lA 4 zH.av l, .raw (.int .i64 n), lA 2 zB.av blamed] (.raw (.bool true)) := by
 have hh := zXt
 have hmf := zL.free m
 have hfb : (lA 2 zB.av blamed).free := zC (fun y => zB.free y) _
 have hfl : (lA 4 zH.av l).free := zC (fun y => zH.free y) _
 obtain ⟨fb, hfb1, hfew⟩ := yK4 m hm
 unfold Lim at hl hw hbl
 by_cases hc : fb = true ∧ l.length ≤ 300 ∧ n ≤ 40 ∧ blamed.length ≤ 110
 case neg =>
  refine en Tryz.func3 Tryz.ntmps3 [.tmp 10] rfl ?_
  try (refine wkg (And.intro hh hfew) ?_; try refine sM fun K hK => ?_)
  refine zA ⟨_, evl, fun _ => ?_, fun hb => absurd hb ?_⟩
  ·try (refine wg ?_; try refine sM fun K hK => ?_)
   all_goals exact fA
  ·simp only [yN1, yMx, yMz]
   rintro ⟨⟨⟨h1, h2⟩, h3⟩, h4⟩
   exact hc ⟨h1, by omega, by omega, by omega⟩
 obtain ⟨rfl, c1, c2, c3⟩ := hc
 obtain ⟨ho, hB⟩ := yDv hm (hfb1.1 rfl)
 have hb := zDq m ho
 have hbR := zNs m ho
 have hS := zQ0 m ho hB most
 have hSR := zZx m hB hbR most
 have hU := zWh m ho hB most
 have hUR := zZu m hB most hSR
 have hPo := zI3 l n blamed
 have hPoR := yAc l (by omega) (fun b hb => by have := hw b hb; omega) n blamed (by omega)
 have hssh := zD9 (most := most) hB
 have hbl2 : (zT m).1.length ≤ 1000000 ∧ ∀ b ∈ (zT m).1, b.who.length ≤ 100 := by
  by_cases he : (zT m).2.2 = 0
  ·obtain ⟨q1, _, q3⟩ := hB he
   exact ⟨q1, fun b hb => (q3 b hb).2.2.2.1⟩
  ·rw [zNr he]
   exact ⟨by simp, fun b hb => by cases hb⟩
 have hsl2 : (zC0 m most).1.length ≤ 1000 := by
  have := hssh.2
  unfold zC0
  split
  ·simp
  ·split
   ·simp
   ·unfold Vd.sureOf
    refine yKr (List.length_filter_le _ _) ?_
    cases hS : (qA m most).1 with
    | nil => simp
    | cons s S => have := this s (by rw [hS]; simp); simp; omega
 have hE1 := yA0 (zT m).1 (by omega) (fun b hb => by have := hbl2.2 b hb; omega)
 have hE2 := zMe (qA m most).1 (qA m most).1 (by omega) (fun s hs => by have := hssh.2 s hs; omega)
 have hE3 := zMf (zC0 m most).1 (zC0 m most).1 (by omega)
 rw [yO3 rfl] at hE2 hE3
 have f1 : (lA 4 zH.av (zT m).1).free := zC (fun y => zH.free y) _
 have f2 : (lA 1 sC2 (qA m most).1).free := zC (fun y => show AV.freeL (sC2 y) from ⟨zC (fun z => zB.free z) _, trivial⟩) _
 have f3 : (lA 2 zB.av (zC0 m most).1).free := zC (fun y => zB.free y) _
 clear hssh hbl2 hsl2 hB hm ho hfb1
 generalize zE7 l n blamed = pe at *
 generalize zC0 m most = su at *
 generalize qA m most = se at *
 generalize zT m = E at *
 obtain ⟨bl, bn, be⟩ := E
 obtain ⟨yes, pf⟩ := pe
 obtain ⟨s1, s2⟩ := se
 obtain ⟨u1, u2⟩ := su
 simp only at *
 refine en Tryz.func3 Tryz.ntmps3 [.tmp 10] rfl ?_
 try (refine wkg (And.intro hh hfew) ?_; try refine sM fun K hK => ?_)
 refine zA ⟨_, evl, fun hb => absurd hb (by simp; omega), fun _ => ?_⟩
 try (refine wg ?_; try refine sM fun K hK => ?_)
 refine zF (fun k : Nat => ⟨157, 0, [(1, true, .raw (.int .i64 most)), (2, true, lA 4 zH.av l), (3, true, .raw (.int .i64 n)), (4, true, lA 2 zB.av blamed), (5, true, .box 0 0), (11, true, .raw (.bool true)), (12, true, .raw (.int .i64 k))], [m.av], [], ((0, []), [], true)⟩)
  (fun k => k ≤ l.length) (fun k => l.length - k) 0 ?_ (by omega) ?_
 ·exact wkZ
 intro k hk
 rcases yKt k l.length with hlt | hge
 ·try (refine wg ?_; try refine sM fun K hK => ?_)
  refine zA ⟨_, evl, fun _ => ?_, fun hb => absurd (yOc hb) (by omega)⟩
  try (refine wg ?_; try refine sM fun K hK => ?_)
  refine zA ⟨_, evl, fun _ => ?_, fun _ => ?_⟩
  ·try (refine wg ?_; try refine sM fun K hK => ?_)
   all_goals exact fA
  ·try (refine wg ?_; try refine sM fun K hK => ?_)
   refine ⟨k + 1, by omega, by omega, ?_⟩
   exact wkZ
 ·obtain rfl : k = l.length := by omega
  try (refine wg ?_; try refine sM fun K hK => ?_)
  refine zA ⟨_, evl, fun hb => absurd (yNw hb) (by omega), fun _ => ?_⟩
  repeat
   first
    | (refine zG (hK _ ?_); clear hK K)
    | refine stG ?_
    | (refine yJ 1 rfl ?_; refine zR rfl rfl ⟨_, evl, _, _, _, evl, yR, ?_⟩; apply Exists.intro; refine ⟨fun hg => ?_, ?_⟩; · first | exact FnA.at_ (hb) rfl rfl | exact FnA.at_ (hbR) rfl rfl | exact FnA.at_ (hPo) rfl rfl | exact FnA.at_ (hPoR) rfl rfl | exact FnA.at_ (hS) rfl rfl | exact FnA.at_ (hSR) rfl rfl | exact FnA.at_ (hU) rfl rfl | exact FnA.at_ (hUR) rfl rfl | exact FnA.at_ (hE1) rfl rfl | exact FnA.at_ (hE2) rfl rfl | exact FnA.at_ (hE3) rfl rfl | exact FnA.at_s (hb) rfl yV | exact FnA.at_s (hb) rfl yW | exact FnA.at_s (hbR) rfl yV | exact FnA.at_s (hbR) rfl yW | exact FnA.at_s (hPo) rfl yV | exact FnA.at_s (hPo) rfl yW | exact FnA.at_s (hPoR) rfl yV | exact FnA.at_s (hPoR) rfl yW | exact FnA.at_s (hS) rfl yV | exact FnA.at_s (hS) rfl yW | exact FnA.at_s (hSR) rfl yV | exact FnA.at_s (hSR) rfl yW | exact FnA.at_s (hU) rfl yV | exact FnA.at_s (hU) rfl yW | exact FnA.at_s (hUR) rfl yV | exact FnA.at_s (hUR) rfl yW | exact FnA.at_s (hE1) rfl yV | exact FnA.at_s (hE1) rfl yW | exact FnA.at_s (hE2) rfl yV | exact FnA.at_s (hE2) rfl yW | exact FnA.at_s (hE3) rfl yV | exact FnA.at_s (hE3) rfl yW)
    | (refine zW 1 rfl ?_; refine zS rfl ⟨_, evl, _, _, _, (fun _ _ => vH), yR, ?_⟩; apply Exists.intro; refine ⟨fun hg => ?_, ?_⟩; · first | exact FnA.at_ (hb) rfl rfl | exact FnA.at_ (hbR) rfl rfl | exact FnA.at_ (hPo) rfl rfl | exact FnA.at_ (hPoR) rfl rfl | exact FnA.at_ (hS) rfl rfl | exact FnA.at_ (hSR) rfl rfl | exact FnA.at_ (hU) rfl rfl | exact FnA.at_ (hUR) rfl rfl | exact FnA.at_ (hE1) rfl rfl | exact FnA.at_ (hE2) rfl rfl | exact FnA.at_ (hE3) rfl rfl | exact FnA.at_s (hb) rfl yV | exact FnA.at_s (hb) rfl yW | exact FnA.at_s (hbR) rfl yV | exact FnA.at_s (hbR) rfl yW | exact FnA.at_s (hPo) rfl yV | exact FnA.at_s (hPo) rfl yW | exact FnA.at_s (hPoR) rfl yV | exact FnA.at_s (hPoR) rfl yW | exact FnA.at_s (hS) rfl yV | exact FnA.at_s (hS) rfl yW | exact FnA.at_s (hSR) rfl yV | exact FnA.at_s (hSR) rfl yW | exact FnA.at_s (hU) rfl yV | exact FnA.at_s (hU) rfl yW | exact FnA.at_s (hUR) rfl yV | exact FnA.at_s (hUR) rfl yW | exact FnA.at_s (hE1) rfl yV | exact FnA.at_s (hE1) rfl yW | exact FnA.at_s (hE2) rfl yV | exact FnA.at_s (hE2) rfl yW | exact FnA.at_s (hE3) rfl yV | exact FnA.at_s (hE3) rfl yW)
    | (refine zW 1 rfl ?_; refine zJ ?_)
    | (refine yB ?_; first | (refine zP (hK _ ?_); clear hK K) | (refine zX rfl ⟨_, evl, fun nb' => ?_⟩))
    | refine zE (fun K hK => ?_)
    | (refine yZ ?_; first | (refine zD false rfl (by kernel_rfl) (by kernel_rfl) (fun K hK => ?_)) | (refine zD true rfl (by kernel_rfl) (by kernel_rfl) (fun K hK => ?_)))
  all_goals exact fA
theorem kE {x0 x1 x2 x3 x4 : List AV} (k0 : zY tbl 30 30 x0) (k1 : zY tbl 30 3 x1) (k2 : zY tbl 30 31 x2) (k3 : zY tbl 30 3 x3) (k4 : zY tbl 30 32 x4) :
  FnA Tryz.prog 3 [zYx true x0, zYx false x1, zYx false x2, zYx false x3, zYx false x4] (.raw (.bool true)) := by
 obtain ⟨m, s0, g0⟩ := zMt k0
 obtain ⟨most, rfl, _⟩ := zIn k1
 obtain ⟨y2, l, rfl, s2, q2, g2⟩ := zMs k2
 obtain ⟨n, rfl, _⟩ := zIn k3
 obtain ⟨y4, blamed, rfl, s4, g4⟩ := zDu k4
 exact FnA.sim (yA8 m g0 most l g2 q2 n blamed g4) ⟨s0, Sim.of_eq rfl, s2, Sim.of_eq rfl, s4, trivial⟩
end Go.Proofs.YtchpbdecipcelaaGreatDoor
