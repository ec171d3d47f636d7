import Derived.Test.YtchpbdecipcelaaGreatDoorHO01
import Derived.Test.YtchpbdecipcelaaGreatDoorHO47
namespace Go.Proofs.YtchpbdecipcelaaGreatDoor
set_option linter.unusedVariables false
set_option linter.unusedSimpArgs false
set_option maxHeartbeats 4000000
set_option maxRecDepth 100000
open Go.RowKit
abbrev zV5 (l : List zH) : z9 := ⟨130, 7, l.length, els zH.av l⟩
abbrev zV6 (l : List q9) : z9 := ⟨132, 4, l.length, els q9.av l⟩
abbrev zY2 (l : List Int) : z9 := ⟨3, 1, l.length, els iC l⟩
abbrev zY3 (l : List (List Int)) : z9 := ⟨51, 1, l.length, els (fun l => [liA l]) l⟩
abbrev zY1 (l : List yP) : z9 := ⟨77, 1, l.length, els yP.av l⟩
abbrev zV4 (l : List wY) : z9 := ⟨134, 3, l.length, els wY.av l⟩
theorem kH {P : Program} {full : List Oper} {all : Bool} {o : Oper} {d nt nb : Nat} {k' : ASt → Prop} {L : List Nat} {sl : List (Nat × (Bool × AV))} {bx bx0 : List (List AV)} {rw : List z9} {ys : (Nat × List (List AV)) × List (List AV) × Bool} {ent : Bool × AV} (hd : o.dst = some d) (hk : zG1 all bx0 bx) (h64 : Nat.blt bx.length 64 = true) (hl : o.looksAt full.toArray = L)
  (h : ∀ nb' K, K ⟨nt, nb', (d, ent) :: kQ L sl, bx, rw, ys⟩ → xM P full.toArray [o] K ⟨nt, nb', kQ L sl, bx, rw, ys⟩) (hk' : k' ⟨nt, nb, (d, ent) :: sl, bx, rw, ys⟩) : zHn P full.toArray all bx0 o k' ⟨nt, nb, sl, bx, rw, ys⟩ :=
 zBw h64 hl fun nb' => h nb' _ ⟨ent, _, _, by rw [hd]; rfl, hk, fun _ => ⟨rfl, [], by simp⟩, by rw [hd]; exact hk'⟩
theorem zRa {P : Program} {full : List Oper} {o : Oper} {d nt nb : Nat} {k' : ASt → Prop} {L : List Nat} {sl : List (Nat × (Bool × AV))} {bx bx0 : List (List AV)} {rw : List z9} {ys : (Nat × List (List AV)) × List (List AV) × Bool} (hd : o.dst = some d) (hr : hrm o = false) (h64 : Nat.blt bx.length 64 = true) (hl : o.looksAt full.toArray = L)
  (h : ∀ nb', xM P full.toArray [o] (fun st' => ∃ ent rw', st' = ⟨nt, nb', (d, ent) :: kQ L sl, bx, rw', ys⟩ ∧ k' ⟨nt, nb, (d, ent) :: sl, bx, rw', ys⟩) ⟨nt, nb', kQ L sl, bx, rw, ys⟩) : zHn P full.toArray true bx0 o k' ⟨nt, nb, sl, bx, rw, ys⟩ :=
 zBw h64 hl fun nb' C G a w Q hs hq => h nb' C G a w Q hs fun G' a' w' st' hs' ⟨ent, rw', e, hk⟩ => hq G' a' w' st' hs' ⟨ent, bx, rw', by subst e; rw [hd]; rfl, zBc _ _, (fun e => by rw [hr] at e; cases e), by rw [hd]; exact hk⟩
theorem vW {α : Type} [Inhabited α] {enc : α → List AV} {bx : List (List AV)} {rw : List z9} {L : List α} {x : α} {el : Nat → List AV} (h : z8 bx rw (el 0) (enc x)) : ∀ q, q < (L ++ [x]).length → z8 bx rw (vL L.length (els enc L) el q) (els enc (L ++ [x]) q) := by
 intro q hq
 rw [← xE (l := L) (n := L.length) rfl]
 rcases yIq q L.length with hb | hb
 ·rw [xL hb, xL hb]
  exact z8.refl _
 ·obtain h0 : q - L.length = 0 := by simp at hq; omega
  rw [yV hb, yV hb, h0]
  exact h
theorem zXk (c : List Change) (hv : Lk.ValidP c) (hcl : c.length ≤ 30) (rate at_ : Int) (hr : 0 ≤ rate ∧ rate ≤ 1000000) (ha : 0 ≤ at_ ∧ at_ ≤ 1500000000000000) (x : List Six) (hx : x.length ≤ 6) (hok : ∀ y ∈ x, y.ok) :
  FnA Tryz.prog 28 [lA 5 Change.av c, .raw (.int .i64 rate), .raw (.int .i64 at_), lA 6 Six.av x]
   (.tup [.agg (yHq c rate (v9 (Lk.linkBoundsM c ⟨0, 3000000000000000⟩).1 rate at_ x x.length)).av, .raw (.bool (decide ((v9 (Lk.linkBoundsM c ⟨0, 3000000000000000⟩).1 rate at_ x x.length).now < 2999999991000000)))]) := by
 have hva := zJq c (by omega)
 rw [yM1 hv] at hva
 have hb := zQ2 c ⟨0, 3000000000000000⟩ (by omega)
 have hfc : (lA 5 Change.av c).free := zE (fun y => Change.free y) _
 have hfx : (lA 6 Six.av x).free := zE (fun y => Six.free y) _
 generalize hB : (Lk.linkBoundsM c ⟨0, 3000000000000000⟩).1 = b at *
 generalize (Lk.linkBoundsM c ⟨0, 3000000000000000⟩).2 = be at *
 refine en Tryz.func28 Tryz.ntmps28 [.cell 8 30, .tmp 9] rfl ?_
 try (refine wkg hva ?_; try refine sM fun K hK => ?_)
 refine zA ⟨_, evl, fun hc => absurd hc (by simp; omega), fun _ => ?_⟩
 repeat
  first
   | (refine zF (hK _ ?_); clear hK K)
   | refine stG ?_
   | (refine yH 1 rfl ?_; refine zN rfl rfl ⟨_, evl, _, _, _, evl, yR, ?_⟩; apply Exists.intro; refine ⟨fun hg => ?_, ?_⟩; · first | exact FnA.at_ (hb) rfl rfl | exact FnA.at_s (hb) rfl xB | exact FnA.at_s (hb) rfl xC)
   | (refine zS 1 rfl ?_; refine zP rfl ⟨_, evl, _, _, _, (fun _ _ => w7), yR, ?_⟩; apply Exists.intro; refine ⟨fun hg => ?_, ?_⟩; · first | exact FnA.at_ (hb) rfl rfl | exact FnA.at_s (hb) rfl xB | exact FnA.at_s (hb) rfl xC)
   | (refine zS 1 rfl ?_; refine zG ?_)
   | (refine z7 ?_; first | (refine zK (hK _ ?_); clear hK K) | (refine zT rfl ⟨_, evl, fun nb' => ?_⟩))
   | refine zD (fun K hK => ?_)
   | (refine xD ?_; first | (refine zC false rfl (by kernel_rfl) (by kernel_rfl) (fun K hK => ?_)) | (refine zC true rfl (by kernel_rfl) (by kernel_rfl) (fun K hK => ?_)))
 refine yI (xJ.nilRowV 2 0 130 7 rfl rfl) ?_
 refine yI (xJ.nilRowV 2 1 132 4 rfl rfl) ?_
 refine yI (xJ.nilRow 14 134 3 rfl) ?_
 have hp5 := zJb 5 (by decide)
 have hp6 := zJb 6 (by decide)
 rw [show wD 4 (5 : Int).toNat = 1024 by decide +kernel] at hp5
 rw [show wD 4 (6 : Int).toNat = 4096 by decide +kernel] at hp6
 refine zJ (fun k : Nat => ⟨260, 0, [(0, true, lA 5 Change.av c), (1, true, .raw (.int .i64 rate)), (2, true, .raw (.int .i64 at_)), (3, true, lA 6 Six.av x), (8, true, .box 0 0), (11, true, .box 1 0), (13, true, .box 2 0), (14, true, .row 2 ((vI c).take k).length), (15, true, .raw (.int .i64 ((k : Int) + 1)))], [[.raw (.slice none 0 0), .raw (.slice none 0 0), .raw (.int .i64 0), .raw (.slice none 0 0), .raw (.slice none 0 0), .raw (.slice none 0 0)], b.av, [.row 0 (kT.take k).length, .row 1 (vK.take k).length, .raw (.int .i64 2), .raw (.slice none 0 0)]], [zV5 (kT.take k), zV6 (vK.take k), zV4 ((vI c).take k)], ((0, []), [], true)⟩)
  (fun k => k ≤ 2) (fun k => 2 - k) 0 ?_ (by omega) ?_
 ·exact wkZ
 intro k hk
 obtain rfl | rfl | rfl : k = 0 ∨ k = 1 ∨ k = 2 := by omega
 ·try (refine wg ?_; try refine sM fun K hK => ?_)
  refine zA ⟨_, evl, fun _ => ?_, fun hb => absurd hb (by simp)⟩
  try (refine wkR hp5 ?_; try refine sM fun K hK => ?_)
  refine ⟨1, by omega, by omega, ?_⟩
  exact wkZ
 ·have hw1 : ((vI c).take 1).length = 1 := rfl
  try (refine wg ?_; try refine sM fun K hK => ?_)
  refine zA ⟨_, evl, fun _ => ?_, fun hb => absurd hb (by simp)⟩
  try (refine wkR hp6 ?_; try refine sM fun K hK => ?_)
  refine ⟨2, by omega, by omega, ?_⟩
  exact wkZ
 ·try (refine wg ?_; try refine sM fun K hK => ?_)
  refine zA ⟨_, evl, fun hb => absurd hb (by simp), fun _ => ?_⟩
  try (refine wg ?_; try refine sM fun K hK => ?_)
  rw [show kT.take 2 = kT from rfl, show vK.take 2 = vK from rfl, show (vI c).take 2 = vI c from rfl]
  refine yI (xJ.nilRowV 3 2 3 1 rfl rfl) ?_
  refine yI (xJ.nilRowV 3 3 51 1 rfl rfl) ?_
  refine yI (xJ.nilRowV 4 1 77 1 rfl rfl) ?_
  have hwo := zE5 hv hr ha hx hok
  rw [hB] at hwo
  have hno : ∀ i, i < x.length → yA1 b rate (x.getD i default) := fun i hi => by rw [← hB]; exact zNw hv hr (hok _ (zAn hi))
  have hrf : ∀ i, i < x.length → (xO b i (x.getD i default) (v9 b rate at_ x i)).fits := fun i hi => by
   have hw := zE5 hv hr ha hx hok i (by omega)
   have := zGn (rate := rate) hv hr ha (by omega : i < 6) hw (hok _ (zAn hi))
   rwa [hB] at this
  have hbr := zKu hv
  rw [hB] at hbr
  have hsu : ∀ i, v9 b rate at_ x (i + 1) = zB0 b rate i (x.getD i default) (v9 b rate at_ x i) := fun i => rfl
  have hw0 : v9 b rate at_ x 0 = ⟨[], [], [], 0, at_⟩ := rfl
  generalize v9 b rate at_ x = W at *
  refine zJ (fun i : Nat => ⟨260, 0, [(1, true, .raw (.int .i64 rate)), (2, true, .raw (.int .i64 (W i).now)), (3, true, lA 6 Six.av x), (8, true, .box 0 0), (11, true, .box 1 0), (13, true, .box 2 0), (14, true, .row 2 (vI c).length), (16, true, .box 3 0), (17, true, .box 4 0), (18, true, .raw (.int .i64 (W i).count)), (19, true, .raw (.int .i64 i))], [[.raw (.slice none 0 0), .raw (.slice none 0 0), .raw (.int .i64 0), .raw (.slice none 0 0), .raw (.slice none 0 0), .raw (.slice none 0 0)], b.av, [.row 0 kT.length, .row 1 vK.length, .raw (.int .i64 2), .raw (.slice none 0 0)], [.raw (.int .i64 7), .raw (.int .i64 rate), .row 3 (W i).sent.length, .row 4 (W i).got.length], [.raw (.int .i64 7), .row 5 (W i).rounds.length]], [zV5 kT, zV6 vK, zV4 (vI c), zY2 (W i).sent, zY3 (W i).got, zY1 (W i).rounds], ((0, []), [], true)⟩)
   (fun i => i ≤ x.length) (fun i => x.length - i) 0 ?_ (by omega) ?_
  ·rw [hw0]
   exact wkZ
  intro i hi
  rcases yIq i x.length with hlt | hge
  ·obtain ⟨g1, g2, g3, g4, g5, g6⟩ := hwo i hi
   have hno0 := hno i hlt
   have hno1 := hno0
   obtain ⟨n1, n2, n3, n4, n5⟩ := hno1
   have hrf := hrf i hlt
   have hs := hsu i
   have hyo := hok _ (zAn hlt)
   obtain ⟨o0, o1, o2, o3, o4, o5⟩ := hyo
   unfold zP6 at o0 o1 o2 o3 o4 o5
   have t3 := yT o3.1 (show (0 : Int) < 40000 by decide)
   have t4 := yT o4.1 (show (0 : Int) < 40000 by decide)
   clear hwo hno hsu hok
   generalize W i = w at *
   have hhd := zW2 w.rounds (by omega) g6
   have hnc := zNx (wT w.rounds w.rounds.length) 7 ((i : Int) + 1) (qK (x.getD i default)) (by simp only [inK]; omega) (by simp only [inK]; omega) (by simp only [inK]; omega)
   have hsg := zNc (4 + qK (x.getD i default)) 9 (xO b i (x.getD i default) w) hrf
   have hc1 := zKo rate (zAk b (x.getD i default) + vJ b (x.getD i default)) hr (by omega)
   have hc2 := zKo rate (3000000 + (x.getD i default).a5) hr (by omega)
   obtain ⟨m1, m2, m3, m4, m5⟩ := hno0
   have hC1 := vV (rate := rate) (e := zAk b (x.getD i default) + vJ b (x.getD i default)) hr (by omega)
   have hC2 := vV (rate := rate) (e := 3000000 + (x.getD i default).a5) hr (by omega)
   simp only [zAk, vJ, qK, zP4, zDy] at n1 n2 n3 n4 n5 hnc
   simp only [zB0, zAx, zP4, zDy] at hs m4 m5
   try (refine wg ?_; try refine sM fun K hK => ?_)
   refine zA ⟨_, evl, fun _ => ?_, fun hb => absurd (yMa hb) (by omega)⟩
   repeat (refine stG ?_)
   refine zD (fun K hK => ?_)
   repeat
    first
     | (refine zF (hK _ ?_); clear hK K)
     | refine stG ?_
     | (refine zS 1 rfl ?_; refine zG ?_)
     | (refine z7 ?_; first | (refine zK (hK _ ?_); clear hK K) | (refine zT rfl ⟨_, evl, fun nb' => ?_⟩))
   refine xW true (by kernel_rfl) (by kernel_rfl) (fun K hK => ?_)
   repeat
    first
     | (refine zF (hK _ ?_); clear hK K)
     | refine stG ?_
     | (refine zS 1 rfl ?_; refine zG ?_)
     | (refine z7 ?_; first | (refine zK (hK _ ?_); clear hK K) | (refine zT rfl ⟨_, evl, fun nb' => ?_⟩))
   refine xW true (by kernel_rfl) (by kernel_rfl) (fun K hK => ?_)
   repeat
    first
     | (refine zF (hK _ ?_); clear hK K)
     | refine stG ?_
     | (refine zS 1 rfl ?_; refine zG ?_)
     | (refine z7 ?_; first | (refine zK (hK _ ?_); clear hK K) | (refine zT rfl ⟨_, evl, fun nb' => ?_⟩))
   refine xW true (by kernel_rfl) (by kernel_rfl) (fun K hK => ?_)
   repeat
    first
     | (refine zF (hK _ ?_); clear hK K)
     | refine stG ?_
     | (refine zS 1 rfl ?_; refine zG ?_)
     | (refine z7 ?_; first | (refine zK (hK _ ?_); clear hK K) | (refine zT rfl ⟨_, evl, fun nb' => ?_⟩))
   refine zBr ⟨260, 0, [(1, true, .raw (.int .i64 rate)), (2, true, .raw (.int .i64 w.now)), (3, true, lA 6 Six.av x), (8, true, .box 0 0), (11, true, .box 1 0), (13, true, .box 2 0), (14, true, .row 2 (vI c).length), (16, true, .box 3 0), (17, true, .box 4 0), (18, true, .raw (.int .i64 w.count)), (19, true, .raw (.int .i64 i)), (20, true, .raw (.int .i64 (qK (x.getD i default)))), (21, true, .raw (.int .i64 (zAk b (x.getD i default)))), (22, true, .raw (.int .i64 (vJ b (x.getD i default)))), (24, true, .box 6 0)], [[.raw (.slice none 0 0), .raw (.slice none 0 0), .raw (.int .i64 0), .raw (.slice none 0 0), .raw (.slice none 0 0), .raw (.slice none 0 0)], b.av, [.row 0 kT.length, .row 1 vK.length, .raw (.int .i64 2), .raw (.slice none 0 0)], [.raw (.int .i64 7), .raw (.int .i64 rate), .row 3 w.sent.length, .row 4 w.got.length], [.raw (.int .i64 7), .row 5 w.rounds.length], (xO b i (x.getD i default) w).stamp.av, (xO b i (x.getD i default) w).av], [zV5 kT, zV6 vK, zV4 (vI c), zY2 w.sent, zY3 w.got, zY1 w.rounds], ((0, []), [], true)⟩ ?_ ?_
   ·refine xW false (by kernel_rfl) (by kernel_rfl) (fun K hK => ?_)
    repeat
     first
      | (refine zF (hK _ ?_); clear hK K)
      | refine stG ?_
      | (refine yH 1 rfl ?_; refine zN rfl rfl ⟨_, evl, _, _, _, evl, yR, ?_⟩; apply Exists.intro; refine ⟨fun hg => ?_, ?_⟩; · first | exact FnA.at_ (hnc) rfl rfl | exact FnA.at_s (hnc) rfl xB | exact FnA.at_s (hnc) rfl xC)
      | (refine zS 1 rfl ?_; refine zP rfl ⟨_, evl, _, _, _, (fun _ _ => w7), yR, ?_⟩; apply Exists.intro; refine ⟨fun hg => ?_, ?_⟩; · first | exact FnA.at_ (hnc) rfl rfl | exact FnA.at_s (hnc) rfl xB | exact FnA.at_s (hnc) rfl xC)
      | (refine zS 1 rfl ?_; refine zG ?_)
      | (refine z7 ?_; first | (refine zK (hK _ ?_); clear hK K) | (refine zT rfl ⟨_, evl, fun nb' => ?_⟩))
    refine zC0 ⟨_, evl, _, evl, by decide +kernel, ?_⟩
    refine qV (rem := [5, 9, 11, 12, 13]) (m := 4) (cs := [5, 12]) rfl (by decide +kernel) ?_
    refine yKi.2 ⟨fun o ho => ?_, yKi.2 ⟨fun o ho => ?_, fun _ h => by cases h⟩⟩
    ·cases yMg ho
     refine kH (d := 155) (ent := (true, .raw (.int .u64 (wT w.rounds w.rounds.length)))) rfl (zI3 [] (by simp)) rfl evl (fun nb' K hk => ?_) ?_
     ·try (first | refine wkN hK hhd ?_ | refine wkR hhd ?_)
      try clear hK K
      try refine sM fun K hK => ?_
      exact zF hk
     ·refine qV (rem := [9, 11, 12, 13]) (m := 3) (cs := [9, 12]) rfl (by decide +kernel) ?_
      refine yKi.2 ⟨fun o ho => ?_, yKi.2 ⟨fun o ho => ?_, fun _ h => by cases h⟩⟩
      ·cases yMg ho
       refine kH (d := 159) (ent := (true, .raw (.int .u64 (kS (wT w.rounds w.rounds.length) 7 ((i : Int) + 1) (1 + (x.getD i default).a0.tmod 2))))) rfl (zI3 [] (by simp)) rfl evl (fun nb' K hk => ?_) ?_
       ·try (first | refine wkN hK hnc ?_ | refine wkR hnc ?_)
        try clear hK K
        try refine sM fun K hK => ?_
        exact zF hk
       ·refine qV (rem := [11, 12, 13]) (m := 2) (cs := [11, 12]) rfl (by decide +kernel) ?_
        refine yKi.2 ⟨fun o ho => ?_, yKi.2 ⟨fun o ho => ?_, fun _ h => by cases h⟩⟩
        ·cases yMg ho
         refine kH (d := 161) (ent := (true, .agg (xO b i (x.getD i default) w).av)) rfl (zI3 [] (by simp)) rfl evl (fun nb' K hk => ?_) ?_
         ·refine stR ?_
          exact zF hk
         ·refine yM (rem := [12, 13]) (by decide +kernel) ?_
          rw [yN]
          dsimp only [vM]
          try (first | refine wkN hK trivial ?_ | refine wkR trivial ?_)
          try clear hK K
          try refine sM fun K hK => ?_
          exact wkZ
        ·cases yMg ho
         refine xT (d := 24) (ent := (true, .box 6 0)) (c := zL4.av) rfl ⟨_, rfl⟩ rfl evl (fun nb' K hk => ?_) ?_
         ·refine stG ?_
          exact zF hk
         ·refine yM (rem := [11, 13]) (by decide +kernel) ?_
          rw [yN]
          dsimp only [vM]
          try (first | refine wkN hK trivial ?_ | refine wkR trivial ?_)
          try clear hK K
          try refine sM fun K hK => ?_
          exact wkZ
      ·cases yMg ho
       refine xT (d := 24) (ent := (true, .box 6 0)) (c := zL4.av) rfl ⟨_, rfl⟩ rfl evl (fun nb' K hk => ?_) ?_
       ·refine stG ?_
        exact zF hk
       ·refine yM (rem := [9, 11, 13]) (by decide +kernel) ?_
        rw [yN]
        dsimp only [vM]
        try (first | refine wkN hK hnc ?_ | refine wkR hnc ?_)
        try clear hK K
        try refine sM fun K hK => ?_
        exact wkZ
    ·cases yMg ho
     refine xT (d := 24) (ent := (true, .box 6 0)) (c := zL4.av) rfl ⟨_, rfl⟩ rfl evl (fun nb' K hk => ?_) ?_
     ·refine stG ?_
      exact zF hk
     ·refine yM (rem := [5, 9, 11, 13]) (by decide +kernel) ?_
      rw [yN]
      dsimp only [vM]
      try (first | refine wkN hK (And.intro hhd hnc) ?_ | refine wkR (And.intro hhd hnc) ?_)
      try clear hK K
      try refine sM fun K hK => ?_
      exact wkZ
   clear n1 n2 n3 n4 n5 hnc hhd
   generalize zC1 (4 + qK (x.getD i default)) 9 (xO b i (x.getD i default) w) = sg at *
   generalize xO b i (x.getD i default) w = r at *
   generalize yZ rate (zAk b (x.getD i default) + vJ b (x.getD i default)) = C1 at *
   generalize yZ rate (3000000 + (x.getD i default).a5) = C2 at *
   have q1 := yT o5.1 (show 0 < C1.hi - C1.lo + 1 by omega)
   have q2 := yT o4.1 (show 0 < C2.hi - C2.lo + 1 by omega)
   repeat (refine stG ?_)
   refine zD (fun K hK => ?_)
   repeat
    first
     | (refine zF (hK _ ?_); clear hK K)
     | refine stG ?_
     | (refine yH 1 rfl ?_; refine zN rfl rfl ⟨_, evl, _, _, _, evl, yR, ?_⟩; apply Exists.intro; refine ⟨fun hg => ?_, ?_⟩; · first | exact FnA.at_ (hsg) rfl rfl | exact FnA.at_s (hsg) rfl xB | exact FnA.at_s (hsg) rfl xC)
     | (refine zS 1 rfl ?_; refine zP rfl ⟨_, evl, _, _, _, (fun _ _ => w7), yR, ?_⟩; apply Exists.intro; refine ⟨fun hg => ?_, ?_⟩; · first | exact FnA.at_ (hsg) rfl rfl | exact FnA.at_s (hsg) rfl xB | exact FnA.at_s (hsg) rfl xC)
     | (refine zS 1 rfl ?_; refine zG ?_)
     | (refine z7 ?_; first | (refine zK (hK _ ?_); clear hK K) | (refine zT rfl ⟨_, evl, fun nb' => ?_⟩))
   refine zD (fun K hK => ?_)
   repeat
    first
     | (refine zF (hK _ ?_); clear hK K)
     | refine stG ?_
     | (refine zS 1 rfl ?_; refine zG ?_)
     | (refine z7 ?_; first | (refine zK (hK _ ?_); clear hK K) | (refine zT rfl ⟨_, evl, fun nb' => ?_⟩))
   refine zD (fun K hK => ?_)
   repeat
    first
     | (refine zF (hK _ ?_); clear hK K)
     | refine stG ?_
     | (refine yH 1 rfl ?_; refine zN rfl rfl ⟨_, evl, _, _, _, evl, yR, ?_⟩; apply Exists.intro; refine ⟨fun hg => ?_, ?_⟩; · first | exact FnA.at_ (hc1) rfl rfl | exact FnA.at_s (hc1) rfl xB | exact FnA.at_s (hc1) rfl xC)
     | (refine zS 1 rfl ?_; refine zP rfl ⟨_, evl, _, _, _, (fun _ _ => w7), yR, ?_⟩; apply Exists.intro; refine ⟨fun hg => ?_, ?_⟩; · first | exact FnA.at_ (hc1) rfl rfl | exact FnA.at_s (hc1) rfl xB | exact FnA.at_s (hc1) rfl xC)
     | (refine zS 1 rfl ?_; refine zG ?_)
     | (refine z7 ?_; first | (refine zK (hK _ ?_); clear hK K) | (refine zT rfl ⟨_, evl, fun nb' => ?_⟩))
   refine xW false (by kernel_rfl) (by kernel_rfl) (fun K hK => ?_)
   repeat
    first
     | (refine zF (hK _ ?_); clear hK K)
     | refine stG ?_
     | (refine zS 1 rfl ?_; refine zG ?_)
     | (refine z7 ?_; first | (refine zK (hK _ ?_); clear hK K) | (refine zT rfl ⟨_, evl, fun nb' => ?_⟩))
   refine zBr ⟨260, 0, [(1, true, .raw (.int .i64 rate)), (2, true, .raw (.int .i64 w.now)), (3, true, lA 6 Six.av x), (8, true, .box 0 0), (11, true, .box 1 0), (13, true, .box 2 0), (14, true, .row 2 (vI c).length), (16, true, .box 3 0), (17, true, .box 4 0), (18, true, .raw (.int .i64 w.count)), (19, true, .raw (.int .i64 i))], [[.raw (.slice none 0 0), .raw (.slice none 0 0), .raw (.int .i64 0), .raw (.slice none 0 0), .raw (.slice none 0 0), .raw (.slice none 0 0)], b.av, [.row 0 kT.length, .row 1 vK.length, .raw (.int .i64 2), .raw (.slice none 0 0)], [.raw (.int .i64 7), .raw (.int .i64 rate), .row 3 (w.sent ++ [w.count]).length, .row 4 (w.got ++ [[w.count + (C1.lo + (x.getD i default).a5.tmod (C1.hi - C1.lo + 1))]]).length], [.raw (.int .i64 7), .row 5 (w.rounds ++ [(⟨[sg.1]⟩ : yP)]).length], r.stamp.av, r.av, sg.1.av, C1.av], [zV5 kT, zV6 vK, zV4 (vI c), zY2 (w.sent ++ [w.count]), zY3 (w.got ++ [[w.count + (C1.lo + (x.getD i default).a5.tmod (C1.hi - C1.lo + 1))]]), zY1 (w.rounds ++ [(⟨[sg.1]⟩ : yP)])], ((0, []), [], true)⟩ ?_ ?_
   ·refine xW true (by kernel_rfl) (by kernel_rfl) (fun K hK => ?_)
    refine stG ?_
    refine zG ?_
    iterate 4 (refine stG ?_)
    refine zG ?_
    repeat (refine stG ?_)
    refine zC0 ⟨_, evl, _, evl, by decide +kernel, ?_⟩
    refine qV (rem := [1, 4, 6, 12, 14, 16]) (m := 5) (cs := [1, 6]) rfl (by decide +kernel) ?_
    refine yKi.2 ⟨fun o ho => ?_, yKi.2 ⟨fun o ho => ?_, fun _ h => by cases h⟩⟩
    ·cases yMg ho
     refine kH (d := 202) (ent := (true, .row 3 w.sent.length)) rfl (zBc _ _) rfl evl (fun nb' K hk => ?_) ?_
     ·refine stR ?_
      exact zF hk
     ·refine qV (rem := [4, 6, 12, 14, 16]) (m := 4) (cs := [4, 6]) rfl (by decide +kernel) ?_
      refine yKi.2 ⟨fun o ho => ?_, yKi.2 ⟨fun o ho => ?_, fun _ h => by cases h⟩⟩
      ·cases yMg ho
       refine zRa (d := 205) rfl rfl rfl evl (fun nb' => ?_)
       refine stR ?_
       refine zF ⟨_, _, rfl, ?_⟩
       refine yM (rem := [6, 12, 14, 16]) (by decide +kernel) ?_
       rw [yN]
       dsimp only [vM]
       try (first | refine wkN hK trivial ?_ | refine wkR trivial ?_)
       try clear hK K
       try refine sM fun K hK => ?_
       refine wkn ?_ ?_ ?_
       all_goals first | exact wk0 | refine wkS ?_ | skip
       all_goals (try trivial)
       all_goals ((repeat' apply And.intro) <;> first | exact wkL | skip)
       ·exact vW (z8.refl _)
       ·exact vW ⟨(Sim.one (enc := iC) (jX.refl _) rfl).s, trivial⟩
       ·exact vW ⟨(Sim.one (enc := zM.av) (jX.refl _) rfl).s, trivial⟩
      ·cases yMg ho
       refine kH (d := 207) (ent := (true, .row 4 w.got.length)) rfl (zBc _ _) rfl evl (fun nb' K hk => ?_) ?_
       ·refine stR ?_
        exact zF hk
       ·refine yM (rem := [4, 12, 14, 16]) (by decide +kernel) ?_
        rw [yN]
        dsimp only [vM]
        try (first | refine wkN hK trivial ?_ | refine wkR trivial ?_)
        try clear hK K
        try refine sM fun K hK => ?_
        refine wkn ?_ ?_ ?_
        all_goals first | exact wk0 | refine wkS ?_ | skip
        all_goals (try trivial)
        all_goals ((repeat' apply And.intro) <;> first | exact wkL | skip)
        ·exact vW (z8.refl _)
        ·exact vW ⟨(Sim.one (enc := iC) (jX.refl _) rfl).s, trivial⟩
        ·exact vW ⟨(Sim.one (enc := zM.av) (jX.refl _) rfl).s, trivial⟩
    ·cases yMg ho
     refine kH (d := 207) (ent := (true, .row 4 w.got.length)) rfl (zBc _ _) rfl evl (fun nb' K hk => ?_) ?_
     ·refine stR ?_
      exact zF hk
     ·refine yM (rem := [1, 4, 12, 14, 16]) (by decide +kernel) ?_
      rw [yN]
      dsimp only [vM]
      try (first | refine wkN hK trivial ?_ | refine wkR trivial ?_)
      try clear hK K
      try refine sM fun K hK => ?_
      refine wkn ?_ ?_ ?_
      all_goals first | exact wk0 | refine wkS ?_ | skip
      all_goals (try trivial)
      all_goals ((repeat' apply And.intro) <;> first | exact wkL | skip)
      ·exact vW (z8.refl _)
      ·exact vW ⟨(Sim.one (enc := iC) (jX.refl _) rfl).s, trivial⟩
      ·exact vW ⟨(Sim.one (enc := zM.av) (jX.refl _) rfl).s, trivial⟩
   try (refine wkg hc2 ?_; try refine sM fun K hK => ?_)
   refine ⟨i + 1, by omega, by omega, ?_⟩
   rw [hs]
   exact wkZ
  ·obtain rfl : i = x.length := by omega
   try (refine wg ?_; try refine sM fun K hK => ?_)
   refine zA ⟨_, evl, fun hb => absurd (yLv hb) (by omega), fun _ => ?_⟩
   repeat (refine stG ?_)
   clear hwo hno hrf hsu hok
   generalize W x.length = w at *
   have f1 : (lA 7 zH.av kT).free := zE (fun y => zH.free y) _
   have f2 : (lA 4 q9.av vK).free := zE (fun y => q9.free y) _
   have f3 : (lA 3 wY.av (vI c)).free := zE (fun y => wY.free y) _
   have f4 : (liA w.sent).free := jH _
   have f5 : (lA 1 (fun l => [liA l]) w.got).free := zE (fun l => show AV.freeL [liA l] from ⟨jH _, trivial⟩) _
   have f6 : (lA 1 yP.av w.rounds).free := zE (fun y => yP.free y) _
   refine yI (st' := ⟨260, 0, [(2, true, .raw (.int .i64 w.now)), (8, true, .box 0 0), (13, true, .box 2 0), (14, true, lA 3 wY.av (vI c)), (16, true, .box 3 0), (17, true, .box 4 0)], [[.raw (.slice none 0 0), .raw (.slice none 0 0), .raw (.int .i64 0), .raw (.slice none 0 0), .raw (.slice none 0 0), .raw (.slice none 0 0)], b.av, [lA 7 zH.av kT, lA 4 q9.av vK, .raw (.int .i64 2), .raw (.slice none 0 0)], [.raw (.int .i64 7), .raw (.int .i64 rate), liA w.sent, lA 1 (fun l => [liA l]) w.got], [.raw (.int .i64 7), lA 1 yP.av w.rounds]], [], ((0, []), [], true)⟩) ?_ ?_
   ·exact wkZ
   ·try (refine wg ?_; try refine sM fun K hK => ?_)
    refine rt ?_
    exact z6.tup (show z8 _ _ [_, _] [_, _] from ⟨(show Sim (.agg [_, _, _, _, _, _]) (.agg [_, _, _, _, _, _]) from Sim.agg ⟨Sim.refl _, Sim.refl _, Sim.refl _, Sim.one (sz := 2) (enc := xS.av) (x := ⟨7, w.rounds⟩) (cs := xS.av ⟨7, w.rounds⟩) (jX.refl _) rfl, Sim.one (sz := 4) (enc := qM.av) (x := ⟨7, rate, w.sent, w.got⟩) (cs := qM.av ⟨7, rate, w.sent, w.got⟩) (jX.refl _) rfl, Sim.refl _, trivial⟩).s, z6.refl _, trivial⟩)
theorem zP2 (c : List Change) (hcl : c.length ≤ 30) (rate at_ : Int) (x : List Six) (hxl : x.length ≤ 4611686018427387904) (h : ¬ (Lk.ValidP c ∧ x.length ≤ 6)) :
  FnA Tryz.prog 28 [lA 5 Change.av c, .raw (.int .i64 rate), .raw (.int .i64 at_), lA 6 Six.av x] (.tup [.agg (⟨⟨[], [], 0, []⟩, [], []⟩ : zQ).av, .raw (.bool false)]) := by
 have hva := zJq c (by omega)
 have hfc : (lA 5 Change.av c).free := zE (fun y => Change.free y) _
 have hfx : (lA 6 Six.av x).free := zE (fun y => Six.free y) _
 refine en Tryz.func28 Tryz.ntmps28 [.cell 8 30, .tmp 9] rfl ?_
 try (refine wkg hva ?_; try refine sM fun K hK => ?_)
 refine zA ⟨_, evl, fun _ => ?_, fun hb => absurd hb ?_⟩
 ·try (refine wg ?_; try refine sM fun K hK => ?_)
  refine rt ?_
  exact z6.tup (show z8 _ _ [_, _] [_, _] from ⟨(show Sim (.agg [_, _, _, _, _, _]) (.agg [_, _, _, _, _, _]) from Sim.agg ⟨Sim.nil rfl, Sim.nil rfl, Sim.refl _, Sim.nil rfl, Sim.nil rfl, Sim.nil rfl, trivial⟩).s, z6.refl _, trivial⟩)
 ·simp only [yKw, yKs, yKu, yJm]
  rintro ⟨h1, h2⟩
  exact h ⟨h1, by omega⟩
end Go.Proofs.YtchpbdecipcelaaGreatDoor
