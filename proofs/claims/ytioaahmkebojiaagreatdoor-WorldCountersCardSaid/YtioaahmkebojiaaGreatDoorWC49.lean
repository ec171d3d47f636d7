import Derived.Test.YtioaahmkebojiaaGreatDoorWC48
namespace Go.Proofs.YtioaahmkebojiaaGreatDoor
open Tryz
set_option linter.unusedVariables false
set_option linter.unusedSimpArgs false
set_option maxHeartbeats 4000000
set_option maxRecDepth 100000
open Go.RowKit
theorem zMb (hh : FnA Tryz.prog 4 [] (.raw (.bool true))) (n : Net) (hf : ∀ t ∈ n.tables, t.fits) (id base count part err0 : Int) (u v : Bool) (i1 i2 i3 i4 i5 i6 i7 i8 i9 : Int) (n1 n2 n3 n4 n5 n6 : Nat) (rate e t0 t1 t2 : Int) (k1 : inK .i64 base ∧ inK .i64 err0 ∧ inK .i64 rate ∧ inK .i64 e ∧ inK .i64 t0 ∧ inK .i64 t1 ∧ inK .i64 t2) :
  FnA Tryz.prog 3 [.agg n.av, .agg (zHs id base count part err0 u v i1 i2 i3 i4 i5 i6 i7 i8 i9 n1 n2 n3 n4 n5 n6), .raw (.int .i64 rate), .raw (.int .i64 e), .agg [.raw (.int .i64 t0), .raw (.int .i64 t1), .raw (.int .i64 t2)]] (.raw (.bool true)) := by
 obtain ⟨f1, f2, f3, f4⟩ := yG n
 have hfa := zSk id base count part err0 u v i1 i2 i3 i4 i5 i6 i7 i8 i9 n1 n2 n3 n4 n5 n6
 have hfew := zYr n
 simp only [inK] at k1
 refine en func3 ntmps3 [.tmp 10] rfl ?_
 try (first | refine wkM hK (And.intro hh hfew) ?_ | refine wkg (And.intro hh hfew) ?_)
 try clear hK K
 try refine sM fun K hK => ?_
 refine vR zW rfl rfl ⟨_, evl, _, _, _, evl, fun hg => ⟨fun c hc => ?_, ?_⟩, ?_⟩
 ·rw [yO1.1 hc]
  exact hg
 ·simp only [yNl, yOq, yOm, yNk, yOo] at hg
  exact yV (by simp only [inK]; omega)
 try (first | refine wkM hK trivial ?_ | refine wkg trivial ?_)
 try clear hK K
 try refine sM fun K hK => ?_
 refine vR zW rfl rfl ⟨_, evl, _, _, _, evl, fun hg => ⟨fun c hc => ?_, ?_⟩, ?_⟩
 ·rw [yO1.1 hc]
  exact hg
 ·simp only [yNl, yOq, yOm, yNk, yOo] at hg
  exact yV (by simp only [inK]; omega)
 try (first | refine wkM hK trivial ?_ | refine wkg trivial ?_)
 try clear hK K
 try refine sM fun K hK => ?_
 refine zB ⟨_, evl, fun _ => ?_, fun hb => ?_⟩
 ·try (refine wg ?_; try refine sM fun K hK => ?_)
  all_goals exact fA
 have hc : zZv n ∧ (0 ≤ rate ∧ rate ≤ 1000000) ∧ (-rate ≤ e ∧ e ≤ rate) ∧ (-rate ≤ err0 ∧ err0 ≤ rate) := by
  simp only [yOq, yOm, yNk, yOo] at hb
  obtain ⟨⟨⟨⟨⟨⟨g1, g2⟩, g3⟩, g4⟩, g5⟩, g6⟩, g7⟩ := hb
  exact ⟨g1, by omega, by omega, by omega⟩
 clear hb hfew
 obtain ⟨c1, c2, c3, c4⟩ := hc
 try (refine wg ?_; try refine sM fun K hK => ?_)
 refine zP (fun k : Nat => ⟨317,0,[(2,true,.raw (.int .i64 rate)),(3,true,.raw (.int .i64 e)),(5,true,.box 0 0),(6,true,.box 1 0),(9,true,.box 2 0),(10,true,.raw (.bool false)),(11,true,.raw (.bool true)),(70,true,.agg [.raw (.int .i64 t0),.raw (.int .i64 t1),.raw (.int .i64 t2)]),(71,true,.raw (.int .i64 k))],[n.av,zHs id base count part err0 u v i1 i2 i3 i4 i5 i6 i7 i8 i9 n1 n2 n3 n4 n5 n6,[.raw (.int .i64 t0),.raw (.int .i64 t1),.raw (.int .i64 t2)]],[],((0,[]),[],true)⟩)
  (fun k => k ≤ 3 ∧ (0 < k → base ≤ t0 ∧ t0 ≤ 900000000000000) ∧ (1 < k → t0 ≤ t1 ∧ t1 ≤ 900000000000000) ∧ (2 < k → t1 ≤ t2 ∧ t2 ≤ 900000000000000)) (fun k => 3 - k) 0 ?_ ⟨by omega, fun h => by omega, fun h => by omega, fun h => by omega⟩ ?_
 ·exact wkZ
 rintro k ⟨hk, p0, p1, p2⟩
 by_cases hk3 : k = 3
 ·subst hk3
  obtain ⟨p3, p4⟩ := p0 oq
  obtain ⟨p5, p6⟩ := p1 oq
  obtain ⟨p7, p8⟩ := p2 oq
  clear p0 p1 p2
  try (refine wg ?_; try refine sM fun K hK => ?_)
  refine zB ⟨_, evl, fun hb => absurd (yPn hb) dq, fun _ => ?_⟩
  have hsv := zUh n (by have := c1.1; omega) (by have := c1.1; omega) (by have := c1.1; omega) (by have := c1.1; omega) (fun w hw => by obtain ⟨k, hk, rfl⟩ := List.getElem_of_mem hw; have := c1.2.2 k hk; rw [yB hk] at this; omega) hf
  by_cases hv : zY5 n
  ·rw [yPm hv] at hsv
   have hpos : 0 < n.hosts.length ∧ n.hosts.length ≤ 64 := ⟨hv.2.1.1.1, by have := c1.1; omega⟩
   have hmk := yBe hsv hpos 0 ⟨Int.le_refl _, by decide⟩
   try (first | refine wkM hK trivial ?_ | refine wkg trivial ?_)
   try clear hK K
   try refine sM fun K hK => ?_
   refine zWo [] [] (hmk) rfl rfl rfl ⟨_, evl, _, evl, _, evl, obl, by decide, by decide, hlT, hlT, yKt, ?_, ?_⟩
   ·rintro r sub' rsub' ⟨rfl, zs, c, rfl, rfl, q⟩
    simp
   rintro r sub' rsub' ⟨rfl, zs, c, rfl, rfl, q1, q2, q3, q4⟩
   haveI := q4
   haveI : StillZ ((yF n 0).flatMap (Liv.av zX)) := qD stillN _
   obtain ⟨N, hN⟩ : ∃ N, N = (yF n 0).length := ⟨_, rfl⟩
   have hNh : N = n.hosts.length := by rw [hN]; simp [yF]
   refine ⟨_, (show _ = AV.tup [.agg (wav n 0 (.bsl 22 6 0 N c)), .raw (.int .i64 0)] by rw [hN]; rfl), [n.av, zHs id base count part err0 u v i1 i2 i3 i4 i5 i6 i7 i8 i9 n1 n2 n3 n4 n5 n6, [.raw (.int .i64 t0), .raw (.int .i64 t1), .raw (.int .i64 t2)], n.av, wav n 0 (.bsl 22 6 0 N c), wav n 0 (.bsl 22 6 0 N c), (yF n 0).flatMap (Liv.av zX) ++ zs], ?_, _, evl, ?_⟩
   ·rw [hN]
    exact congrArg (fun z => [n.av, zHs id base count part err0 u v i1 i2 i3 i4 i5 i6 i7 i8 i9 n1 n2 n3 n4 n5 n6, [.raw (.int .i64 t0), .raw (.int .i64 t1), .raw (.int .i64 t2)], n.av, wav n 0 (.bsl 22 6 0 (yF n 0).length c), wav n 0 (.bsl 22 6 0 (yF n 0).length c), z]) (jN _ _ _)
   rw [← hN] at q1
   repeat
    first
     | (refine zG (hK _ ?_); clear hK K)
     | refine stG ?_
     | (refine z5 1 rfl ?_; refine zE ?_)
     | (refine yH ?_; first | (refine zN (hK _ ?_); clear hK K) | (refine zT rfl ⟨_, evl, fun nb' => ?_⟩))
   refine y6 (xT.sel (sl' := [(2,true,.raw (.int .i64 rate)),(3,true,.raw (.int .i64 e)),(6,true,.box 3 0),(9,true,.box 2 0),(10,true,.raw (.bool false)),(11,true,.raw (.bool true)),(14,true,.box 0 0),(15,true,.raw (.int .i64 0))]) (bx' := [wav n 0 (.bsl 22 1 0 N c),(yF n 0).flatMap (Liv.av zX) ++ zs,[.raw (.int .i64 t0),.raw (.int .i64 t1),.raw (.int .i64 t2)],zHs id base count part err0 u v i1 i2 i3 i4 i5 i6 i7 i8 i9 n1 n2 n3 n4 n5 n6]) [7,6,2,1] dq (fun k hk => absurd hk sq)
    ⟨⟨_, rfl, kO (b := 6) (b' := 1) rfl dq n 0 N c⟩, ⟨_, rfl, zI (yR (xS (fun x => Liv.free (ch := zX) trivial x) _) q4.free)⟩, ⟨_, rfl, zI ⟨trivial, trivial, trivial, trivial⟩⟩, ⟨_, rfl, zI hfa⟩, trivial⟩
    ⟨⟨_,rfl,.inl ⟨trivial,rfl⟩⟩,⟨_,rfl,.inl ⟨trivial,rfl⟩⟩,⟨_,rfl,.inr ⟨rfl,by simp [AV.sub]⟩⟩,⟨_,rfl,.inr ⟨rfl,by simp [AV.sub]⟩⟩,⟨_,rfl,.inl ⟨trivial,rfl⟩⟩,⟨_,rfl,.inl ⟨trivial,rfl⟩⟩,⟨_,rfl,.inr ⟨rfl,by simp [AV.sub]⟩⟩,⟨_,rfl,.inl ⟨trivial,rfl⟩⟩,trivial⟩) ?_
   refine y6 (show xT _ ⟨317,0,[(2,true,.raw (.int .i64 rate)),(3,true,.raw (.int .i64 e)),(6,true,.elt (zHs id base count part err0 u v i1 i2 i3 i4 i5 i6 i7 i8 i9 n1 n2 n3 n4 n5 n6) 0),(9,true,.elt [.raw (.int .i64 t0),.raw (.int .i64 t1),.raw (.int .i64 t2)] 0),(10,true,.raw (.bool false)),(11,true,.raw (.bool true)),(14,true,.box 0 0),(15,true,.raw (.int .i64 0))],[wav n 0 (.bsl 22 1 0 N c),(yF n 0).flatMap (Liv.av zX) ++ zs],[],((0,[]),[],true)⟩ from xT.freeze 2 dq ⟨zAk n 0 dq N c,belL_free _ (yR (xS (fun x => Liv.free (ch := zX) trivial x) _) q4.free),trivial⟩ (fun r hr => by cases hr)
    ⟨trivial, trivial, .inr ⟨by simp, belL_free _ hfa⟩, .inr ⟨by simp, ⟨trivial, trivial, trivial, trivial⟩⟩, trivial, trivial, .inl dq, trivial, trivial⟩) ?_
   repeat
    first
     | (refine zG (hK _ ?_); clear hK K)
     | refine stB ?_
     | (refine yO 2 rfl ?_; refine yM zW rfl rfl rfl ⟨_, _, _, _, _, _, _, evl, obq, _, _, _, _, _, evl, _, evl, obq, obq, obs, _, evl, fun c hc1 hc2 => ⟨_, evl, ?_⟩⟩)
     | (refine z5 1 rfl ?_; refine zE ?_)
     | (refine yH ?_; first | (refine zN (hK _ ?_); clear hK K) | (refine zT rfl ⟨_, evl, fun nb' => ?_⟩))
     | refine zH (fun K hK => ?_)
     | (refine wY ?_; first | (refine zD false rfl kq kq (fun K hK => ?_)) | (refine zD true rfl kq kq (fun K hK => ?_)))
   refine zB ⟨_, evl, fun hb => ?_, fun _ => ?_⟩
   ·simp at hb
    omega
   repeat
    first
     | (refine zG (hK _ ?_); clear hK K)
     | refine stB ?_
     | (refine yO 2 rfl ?_; refine yM zW rfl rfl rfl ⟨_, _, _, _, _, _, _, evl, obq, _, _, _, _, _, evl, _, evl, obq, obq, obs, _, evl, fun c hc1 hc2 => ⟨_, evl, ?_⟩⟩)
     | (refine z5 1 rfl ?_; refine zE ?_)
     | (refine yH ?_; first | (refine zN (hK _ ?_); clear hK K) | (refine zT rfl ⟨_, evl, fun nb' => ?_⟩))
     | refine zH (fun K hK => ?_)
     | (refine wY ?_; first | (refine zD false rfl kq kq (fun K hK => ?_)) | (refine zD true rfl kq kq (fun K hK => ?_)))
   have hmix : ∀ k, (zPe n t0 k).length = N := fun k => by rw [zV4, hN]
   refine zP (fun k : Nat => ⟨317,0,[(2,true,.raw (.int .i64 rate)),(3,true,.raw (.int .i64 e)),(6,true,.elt (zHs id base count part err0 u v i1 i2 i3 i4 i5 i6 i7 i8 i9 n1 n2 n3 n4 n5 n6) 0),(9,true,.elt [.raw (.int .i64 t0),.raw (.int .i64 t1),.raw (.int .i64 t2)] 0),(10,true,.raw (.bool false)),(11,true,.raw (.bool true)),(14,true,.box 0 0),(119,true,.bsl 22 1 0 N c),(120,true,.raw (.int .i64 N)),(121,true,.raw (.int .i64 k))],[wav n t0 (.bsl 22 1 0 N c),(zPe n t0 k).flatMap (Liv.av zX) ++ zs],[],((0,[]),[],true)⟩)
    (fun k => k ≤ N) (fun k => N - k) 0 ?_ (yMh _) ?_
   ·rw [zS5]
    exact wkZ
   intro k hk
   rcases yMn k N with hlt | hge
   ·repeat
     first
      | (refine zG (hK _ ?_); clear hK K)
      | refine stB ?_
      | (refine yO 2 rfl ?_; refine yM zW rfl rfl rfl ⟨_, _, _, _, _, _, _, evl, obq, _, _, _, _, _, evl, _, evl, obq, obq, obs, _, evl, fun c hc1 hc2 => ⟨_, evl, ?_⟩⟩)
      | (refine z5 1 rfl ?_; refine zE ?_)
      | (refine yH ?_; first | (refine zN (hK _ ?_); clear hK K) | (refine zT rfl ⟨_, evl, fun nb' => ?_⟩))
      | refine zH (fun K hK => ?_)
      | (refine wY ?_; first | (refine zD false rfl kq kq (fun K hK => ?_)) | (refine zD true rfl kq kq (fun K hK => ?_)))
    refine zB ⟨_, evl, fun _ => ?_, fun hb => absurd (yPo hb) oq⟩
    repeat
     first
      | (refine zG (hK _ ?_); clear hK K)
      | refine stB ?_
      | (refine yO 2 rfl ?_; refine yM zW rfl rfl rfl ⟨_, _, _, _, _, _, _, evl, obq, _, _, _, _, _, evl, _, evl, obq, obq, obs, _, evl, fun c hc1 hc2 => ⟨_, evl, ?_⟩⟩)
      | (refine z5 1 rfl ?_; refine zE ?_)
      | (refine yH ?_; first | (refine zN (hK _ ?_); clear hK K) | (refine zT rfl ⟨_, evl, fun nb' => ?_⟩))
      | refine zH (fun K hK => ?_)
      | (refine wY ?_; first | (refine zD false rfl kq kq (fun K hK => ?_)) | (refine zD true rfl kq kq (fun K hK => ?_)))
    refine zD1 zW rfl rfl rfl ⟨1, _, evl, _, rfl, _, evl, _, evl, ⟨?_, rfl, ?_⟩, [wav n t0 (.bsl 22 1 0 N c), (zPe n t0 (k + 1)).flatMap (Liv.av zX) ++ zs], ?_, ?_⟩
    ·exact ⟨rfl, trivial⟩
    ·rw [yN1, k9 (sz := 22) (fun _ => rfl), hmix]
     show _ + 1 ≤ _
     omega
    ·rw [← zY8 n t0 (by rw [← hN]; exact hlt) zs]
     rfl
    try (first | refine wkM hK trivial ?_ | refine wkg trivial ?_)
    try clear hK K
    try refine sM fun K hK => ?_
    refine ⟨k + 1, by omega, by omega, ?_⟩
    haveI : StillZ ((zPe n t0 (k + 1)).flatMap (Liv.av zX)) := qD stillN _
    refine wkn ?_ ?_ ?_
    all_goals first | exact wk0 | refine wkS ?_ | skip
    all_goals (try trivial)
    all_goals ((repeat' apply And.intro) <;> first | exact wkL | skip)
    all_goals exact zIn _ _ _
   ·obtain rfl : k = N := by omega
    try (refine wg ?_; try refine sM fun K hK => ?_)
    refine zB ⟨_, evl, fun hb => absurd (yPn hb) oq, fun _ => ?_⟩
    rw [zV5 n t0 oq]
    obtain ⟨x, xs, hx⟩ : ∃ x xs, n.hosts = x :: xs := by
     cases hh : n.hosts with
     | nil => rw [hh] at hpos; exact absurd hpos.1 (Nat.lt_irrefl 0)
     | cons x xs => exact ⟨x, xs, rfl⟩
    obtain ⟨gl, hgl⟩ : ∃ gl, gl = xs.map fun h : xY => (⟨h.id, t0, 0, 0, 0⟩ : Liv) := ⟨_, rfl⟩
    have hmd : yF n t0 = ⟨x.id, t0, 0, 0, 0⟩ :: gl := by rw [yF, hx, hgl]; rfl
    rw [hmd, yP3, yOs]
    haveI : StillZ (gl.flatMap (Liv.av zX)) := qD stillN _
    haveI hZ : StillZ (gl.flatMap (Liv.av zX) ++ zs) := inferInstance
    obtain ⟨h1, hh1⟩ : ∃ h1 : Liv, h1 = ⟨x.id, base, count, part, err0⟩ := ⟨_, rfl⟩
    have hlen : 0 + k * 22 ≤ (h1.av zX ++ (gl.flatMap (Liv.av zX) ++ zs)).length := by
     rw [yN1, yN1, k9 (sz := 22) (fun _ => rfl)]
     have : gl.length + 1 = k := by rw [hNh, hx, hgl]; simp
     show _ ≤ 22 + _
     omega
    have hgk : gl.length + 1 = k := by rw [hNh, hx, hgl]; simp
    have hch : ∀ i, i < k → zU 22 (h1.av zX ++ (gl.flatMap (Liv.av zX) ++ zs)) i = els (Liv.av zX) (h1 :: gl) i := fun i hi => by
     rw [← yOs, ← yP3]
     exact zH1 (sz := 22) (enc := Liv.av zX) (l := h1 :: gl) (r := zs) (i := i) (fun _ => rfl) (by rw [yMy]; omega)
    generalize gl.flatMap (Liv.av zX) ++ zs = Z at *
    have hfz := yR (Liv.free (ch := zX) trivial h1) hZ.free
    repeat
     first
      | (refine zG (hK _ ?_); clear hK K)
      | refine stB ?_
      | (refine yO 2 rfl ?_; refine yM zW rfl rfl rfl ⟨_, _, _, _, _, _, _, evl, obq, _, _, _, _, _, evl, _, evl, obq, obq, obs, _, evl, fun c hc1 hc2 => ⟨_, evl, ?_⟩⟩)
      | (refine z5 1 rfl ?_; refine zE ?_)
      | (refine yH ?_; first | (refine zN (hK _ ?_); clear hK K) | (refine zT rfl ⟨_, evl, fun nb' => ?_⟩))
      | refine zH (fun K hK => ?_)
      | (refine wY ?_; first | (refine zD false rfl kq kq (fun K hK => ?_)) | (refine zD true rfl kq kq (fun K hK => ?_)))
    refine zE5 (st' := ⟨317,0,[(153,true,.agg (wav n t0 (.bsl 22 1 0 k c))),(159,true,.agg [.raw (.int .i64 1),.raw (.int .i64 t1),.raw (.int .i64 x.id),.raw (.int .i64 e),.raw (.int .i64 0),zX]),(2,true,.raw (.int .i64 rate)),(3,true,.raw (.int .i64 e)),(9,true,.elt [.raw (.int .i64 t0),.raw (.int .i64 t1),.raw (.int .i64 t2)] 0),(10,true,.raw (.bool false)),(11,true,.raw (.bool true)),(17,true,.box 2 0)],[wav n t0 (.bsl 22 1 0 k c),h1.av zX ++ Z,h1.av zX],[],((0,[]),[],true)⟩) ?_ ?_
    ·rw [hh1]
     refine xT.sl ?_
     simp only [zB6, zL, ↓reduceIte, Nat.reduceEqDiff, yOi, yMv, yMc, yMu]
     all_goals ((repeat' apply And.intro) <;> first | rfl | omega)
    refine zE5 (show xT _ ⟨317,0,[(153,true,.agg (wav n t0 (.lst 22 k (zU 22 (h1.av zX ++ Z))))),(159,true,.agg [.raw (.int .i64 1),.raw (.int .i64 t1),.raw (.int .i64 x.id),.raw (.int .i64 e),.raw (.int .i64 0),zX]),(2,true,.raw (.int .i64 rate)),(3,true,.raw (.int .i64 e)),(9,true,.elt [.raw (.int .i64 t0),.raw (.int .i64 t1),.raw (.int .i64 t2)] 0),(10,true,.raw (.bool false)),(11,true,.raw (.bool true)),(17,true,.elt (h1.av zX) 0)],[],[],((0,[]),[],true)⟩ from xT.freeze 0 dq trivial (fun r hr => by cases hr)
     ⟨zQa n t0 (bx := [wav n t0 (.bsl 22 1 0 k c), h1.av zX ++ Z, h1.av zX]) (b := 1) sq (belL_free (m := 0) (h1.av zX ++ Z) hfz) hlen c, by simp [AV.okF, AV.okFL], trivial, trivial, by simp [AV.okF, AV.okFL], trivial, trivial, .inr ⟨by simp, belL_free (m := 0) (h1.av zX) (Liv.free (ch := zX) trivial h1)⟩, trivial⟩) ?_
    have hfl2 : (AV.lst 22 k (zU 22 (h1.av zX ++ Z))).free := fun i _ => qL hfz
    have hsim : Sim (.lst 22 k (zU 22 (h1.av zX ++ Z))) (lA 22 (Liv.av zX) (h1 :: gl)) := Sim.lstE (by rw [yMy]; omega) hch
    generalize zU 22 (h1.av zX ++ Z) = el at *
    have hid : h1.id = x.id := by rw [hh1]
    have hm : zFi n (h1 :: gl) := by rw [hgl]; exact zTj hv hsv hpos.2 hx hid t0
    have hgm : ∀ y ∈ gl, ∃ id, y = ⟨id, t0, 0, 0, 0⟩ := fun y hy => by
     rw [hgl] at hy
     obtain ⟨z, _, rfl⟩ := yO6.1 hy
     exact ⟨_, rfl⟩
    have hbase : h1.base ≤ t0 := by rw [hh1]; exact p3
    have herr : -rate ≤ h1.err ∧ h1.err ≤ rate := by rw [hh1]; exact c4
    have hsimA : zB8 [.agg (wav n t0 (.lst 22 k el)), .agg [.raw (.int .i64 1), .raw (.int .i64 t1), .raw (.int .i64 x.id), .raw (.int .i64 e), .raw (.int .i64 0), zX]] [.agg (wav n t0 (lA 22 (Liv.av zX) (h1 :: gl))), zAq t1 h1.id e] := by
     rw [hid]
     exact ⟨Sim.agg (show zB8 (wav n t0 (.lst 22 k el)) (wav n t0 (lA 22 (Liv.av zX) (h1 :: gl))) from ⟨Sim.refl _, Sim.refl _, Sim.refl _, Sim.refl _, Sim.refl _, Sim.refl _, Sim.refl _, Sim.refl _, hsim, trivial⟩), Sim.refl _, trivial⟩
    have hc0 := zDh h1 zX zZo t0 hbase p4
    rcases zOw hm t0 t1 e hgm p5 p6 k1.2.2.2.2.2.1.1 ⟨by omega, by omega⟩ with ⟨cc, hcc, hS⟩ | ⟨hok, ht0, hS1, hS⟩
    ·have hS' := FnA.sim hS hsimA
     generalize (zKl h1 t0).1 = a0 at *
     generalize (zKl h1 t0).2 = g0 at *
     clear hS hsimA hm hgm hsim hfl2 hfz hlen hsv hmk hmd hx hgl hmix
     rcases hcc with rfl | rfl
     ·try (first | refine wkM hK (And.intro hS' hc0) ?_ | refine wkg (And.intro hS' hc0) ?_)
      try clear hK K
      try refine sM fun K hK => ?_
      refine zB ⟨_, evl, fun _ => ?_, fun hb => ?_⟩
      ·try (refine wg ?_; try refine sM fun K hK => ?_)
       all_goals exact fA
      ·simp at hb
     ·try (first | refine wkM hK (And.intro hS' hc0) ?_ | refine wkg (And.intro hS' hc0) ?_)
      try clear hK K
      try refine sM fun K hK => ?_
      refine zB ⟨_, evl, fun _ => ?_, fun hb => ?_⟩
      ·try (refine wg ?_; try refine sM fun K hK => ?_)
       all_goals exact fA
      ·simp at hb
    ·have hS' := FnA.sim hS hsimA
     have e0 : zKl h1 t0 = (h1.sum t0 / 1000000000, 0) := by rw [zKl, if_pos hok.1, if_pos hok.2.2]
     have hc1 := zDh h1 zX zZo t1 oq p6
     have e1 : zKl h1 t1 = (h1.sum t1 / 1000000000, 0) := by rw [zKl, if_pos hok.1, if_pos hS1]
     have hr' := zOp hok.1 (t := t1) (e := e) oq p6 hS1 ⟨by omega, by omega⟩
     have hc2 := zDh (h1.turn t1 e) mtA (Sim.refl _) t2 p7 p8
     have hc3 := zDh (h1.turn t1 e) mtA (Sim.refl _) t1 (Int.le_refl _) p6
     have e3 : zKl (h1.turn t1 e) t1 = (h1.sum t1 / 1000000000, 0) := by
      rw [zKl, if_pos hr', zMu, Int.sub_self, Int.zero_mul, Int.add_zero, if_pos hS1]
     obtain ⟨w1, w2, w3, w4, w5, w6, w7⟩ := zG2 c2 herr c3 p5 p7 oq (a := h1.sum t0 / 1000000000) (b := h1.sum t1 / 1000000000) (c := (h1.turn t1 e).sum t2 / 1000000000) rfl rfl rfl
     have wa : 0 ≤ h1.sum t0 / 1000000000 := Int.ediv_nonneg (zQl hok.1 hbase) dq
     rw [e0] at hc0
     rw [e1] at hc1
     rw [e3] at hc3
     have hch0 : (h1.turn t1 e :: gl).getD 0 default = h1.turn t1 e := rfl
     by_cases hS2 : (h1.turn t1 e).sum t2 / 1000000000 ≤ 3000000000000000
     ·rw [zKl, if_pos hr', if_pos hS2] at hc2
      have hcn := zT8 rate (t2 - t0) c2 ⟨by omega, by omega⟩
      have hel := zT2 rate ((h1.turn t1 e).sum t2 / 1000000000 - h1.sum t0 / 1000000000)
      rw [w5] at hcn
      rw [w6] at hel
      clear hS hsimA hm hgm hsim hfl2 hfz hlen hsv hmk hmd hx hgl hmix e0 e1 e3 hok hr' w2 w5 w6
      generalize (qP rate (t2 - t0)).1 = P at *
      generalize (wC rate ((h1.turn t1 e).sum t2 / 1000000000 - h1.sum t0 / 1000000000)).1 = Q at *
      generalize h1.sum t0 / 1000000000 = A at *
      generalize h1.sum t1 / 1000000000 = B at *
      generalize (h1.turn t1 e).sum t2 / 1000000000 = C at *
      try (first | refine wkM hK (And.intro hS' (And.intro hc0 (And.intro hc1 (And.intro hc2 (And.intro hc3 (And.intro hcn hel)))))) ?_ | refine wkg (And.intro hS' (And.intro hc0 (And.intro hc1 (And.intro hc2 (And.intro hc3 (And.intro hcn hel)))))) ?_)
      try clear hK K
      try refine sM fun K hK => ?_
      refine zB ⟨_, evl, fun hb => ?_, fun _ => ?_⟩
      ·simp at hb
      try (first | refine wkM hK (And.intro hS' (And.intro hc0 (And.intro hc1 (And.intro hc2 (And.intro hc3 (And.intro hcn hel)))))) ?_ | refine wkg (And.intro hS' (And.intro hc0 (And.intro hc1 (And.intro hc2 (And.intro hc3 (And.intro hcn hel)))))) ?_)
      try clear hK K
      try refine sM fun K hK => ?_
      refine zB ⟨_, evl, fun hb => ?_, fun _ => ?_⟩
      ·have := yPn hb
       omega
      try (first | refine wkM hK (And.intro hS' (And.intro hc0 (And.intro hc1 (And.intro hc2 (And.intro hc3 (And.intro hcn hel)))))) ?_ | refine wkg (And.intro hS' (And.intro hc0 (And.intro hc1 (And.intro hc2 (And.intro hc3 (And.intro hcn hel)))))) ?_)
      try clear hK K
      try refine sM fun K hK => ?_
      refine zB ⟨_, evl, fun hb => ?_, fun _ => ?_⟩
      ·simp at hb
      try (first | refine wkM hK (And.intro hS' (And.intro hc0 (And.intro hc1 (And.intro hc2 (And.intro hc3 (And.intro hcn hel)))))) ?_ | refine wkg (And.intro hS' (And.intro hc0 (And.intro hc1 (And.intro hc2 (And.intro hc3 (And.intro hcn hel)))))) ?_)
      try clear hK K
      try refine sM fun K hK => ?_
      refine zB ⟨_, evl, fun hb => ?_, fun _ => ?_⟩
      ·simp at hb
      try (first | refine wkM hK (And.intro hS' (And.intro hc0 (And.intro hc1 (And.intro hc2 (And.intro hc3 (And.intro hcn hel)))))) ?_ | refine wkg (And.intro hS' (And.intro hc0 (And.intro hc1 (And.intro hc2 (And.intro hc3 (And.intro hcn hel)))))) ?_)
      try clear hK K
      try refine sM fun K hK => ?_
      all_goals exact fA
     ·rw [zKl, if_pos hr', if_neg hS2] at hc2
      clear hS hsimA hm hgm hsim hfl2 hfz hlen hsv hmk hmd hx hgl hmix e0 e1 e3 hok hr' w1 w2 w3 w4 w5 w6 w7
      generalize h1.sum t0 / 1000000000 = A at *
      generalize h1.sum t1 / 1000000000 = B at *
      try (first | refine wkM hK (And.intro hS' (And.intro hc0 (And.intro hc1 (And.intro hc2 hc3)))) ?_ | refine wkg (And.intro hS' (And.intro hc0 (And.intro hc1 (And.intro hc2 hc3)))) ?_)
      try clear hK K
      try refine sM fun K hK => ?_
      refine zB ⟨_, evl, fun hb => ?_, fun _ => ?_⟩
      ·simp at hb
      try (first | refine wkM hK (And.intro hS' (And.intro hc0 (And.intro hc1 (And.intro hc2 hc3)))) ?_ | refine wkg (And.intro hS' (And.intro hc0 (And.intro hc1 (And.intro hc2 hc3)))) ?_)
      try clear hK K
      try refine sM fun K hK => ?_
      refine zB ⟨_, evl, fun hb => ?_, fun _ => ?_⟩
      ·have := yPn hb
       omega
      try (first | refine wkM hK (And.intro hS' (And.intro hc0 (And.intro hc1 (And.intro hc2 hc3)))) ?_ | refine wkg (And.intro hS' (And.intro hc0 (And.intro hc1 (And.intro hc2 hc3)))) ?_)
      try clear hK K
      try refine sM fun K hK => ?_
      refine zB ⟨_, evl, fun _ => ?_, fun hb => ?_⟩
      ·try (first | refine wkM hK hc0 ?_ | refine wkg hc0 ?_)
       try clear hK K
       try refine sM fun K hK => ?_
       all_goals exact fA
      ·simp at hb
  ·rw [yPl hv] at hsv
   have hmk := zSb hsv 0
   try (refine wkg hmk ?_; try refine sM fun K hK => ?_)
   refine zB ⟨_, evl, fun _ => ?_, fun hb => ?_⟩
   ·try (refine wg ?_; try refine sM fun K hK => ?_)
    all_goals exact fA
   ·simp at hb
 ·obtain rfl | rfl | rfl : k = 0 ∨ k = 1 ∨ k = 2 := by omega
  ·try (refine wg ?_; try refine sM fun K hK => ?_)
   refine zB ⟨_, evl, fun _ => ?_, fun hb => absurd (yPo hb) dq⟩
   try (refine wg ?_; try refine sM fun K hK => ?_)
   refine zB ⟨_, evl, fun _ => ?_, fun hb => ?_⟩
   ·try (refine wg ?_; try refine sM fun K hK => ?_)
    all_goals exact fA
   ·simp at hb
    try (refine wg ?_; try refine sM fun K hK => ?_)
    refine ⟨1, ⟨by omega, fun _ => ⟨by omega, by omega⟩, fun h => by omega, fun h => by omega⟩, by omega, ?_⟩
    exact wkZ
  ·try (refine wg ?_; try refine sM fun K hK => ?_)
   refine zB ⟨_, evl, fun _ => ?_, fun hb => absurd (yPo hb) dq⟩
   try (refine wg ?_; try refine sM fun K hK => ?_)
   refine zB ⟨_, evl, fun _ => ?_, fun hb => ?_⟩
   ·try (refine wg ?_; try refine sM fun K hK => ?_)
    all_goals exact fA
   ·simp at hb
    try (refine wg ?_; try refine sM fun K hK => ?_)
    refine ⟨2, ⟨by omega, fun _ => p0 oq, fun _ => ⟨by omega, by omega⟩, fun h => by omega⟩, by omega, ?_⟩
    exact wkZ
  ·try (refine wg ?_; try refine sM fun K hK => ?_)
   refine zB ⟨_, evl, fun _ => ?_, fun hb => absurd (yPo hb) dq⟩
   try (refine wg ?_; try refine sM fun K hK => ?_)
   refine zB ⟨_, evl, fun _ => ?_, fun hb => ?_⟩
   ·try (refine wg ?_; try refine sM fun K hK => ?_)
    all_goals exact fA
   ·simp at hb
    try (refine wg ?_; try refine sM fun K hK => ?_)
    refine ⟨3, ⟨by omega, fun _ => p0 oq, fun _ => p1 oq, fun _ => ⟨by omega, by omega⟩⟩, by omega, ?_⟩
    exact wkZ
end Go.Proofs.YtioaahmkebojiaaGreatDoor
