import Derived.Test.YtioaahmkebojiaaGreatDoorWC46
namespace Go.Proofs.YtioaahmkebojiaaGreatDoor
open Tryz
set_option linter.unusedVariables false
set_option linter.unusedSimpArgs false
set_option maxHeartbeats 4000000
set_option maxRecDepth 100000
open Go.RowKit
abbrev ev1 : List AV := [.raw (.int .i64 0), .raw (.int .i64 0), .raw (.int .i64 0), .raw (.int .i64 0), .raw (.int .i64 0), .raw (.int .i64 0), .raw (.bool false), .raw (.int .i64 0), .lst 2 0 fun _ => []]
theorem zXb (n : Net) (t : Int) {b m : Nat} (hb : b < m) (k c : Nat) : AV.subL m 0 (wav n t (.bsl 22 b 0 k c)) := by
 obtain ⟨f1, f2, f3, f4⟩ := yG n
 exact ⟨AV.sub_free _ f1, AV.sub_free _ f2, AV.sub_free _ f3, AV.sub_free _ f4, trivial, trivial, trivial, trivial, hb, trivial⟩
theorem zQa (n : Net) (t : Int) {bx : List (List AV)} {b m k : Nat} (hb : b < bx.length) (hbel : AV.belL m ((bx[b]?).getD [])) (hl : 0 + k * 22 ≤ ((bx[b]?).getD []).length) (c : Nat) : AV.okFL m bx (wav n t (.bsl 22 b 0 k c)) := by
 obtain ⟨f1, f2, f3, f4⟩ := yG n
 exact ⟨fun i hi => belL_free _ (f1 i hi), fun i hi => belL_free _ (f2 i hi), fun i hi => belL_free _ (f3 i hi), fun i hi => belL_free _ (f4 i hi), trivial, trivial, trivial, trivial, .inr ⟨hb, hbel, hl⟩, trivial⟩
theorem zQp (n : Net) (l : List Liv) (now t host e : Int) (hs : FnA Tryz.prog 20 [zAq t host e] (.raw (.bool false))) : FnA Tryz.prog 7 [.agg (wav n now (lA 22 (Liv.av zX) l)), zAq t host e] (.tup [.agg jH, .agg ev0, .raw (.int .i64 1)]) := by
 obtain ⟨f1, f2, f3, f4⟩ := yG n
 have f5 := wQ (ch := zX) trivial l
 unfold zAq at *
 refine en func7 ntmps7 [.cell 4 49, .cell 5 54, .tmp 6] rfl ?_
 repeat' first
  | refine wkg hs ?_
  | (refine cS (fun hb => ?_) fun hb => ?_ <;> try (cases hb; done))
  | refine sM fun K hK => ?_
  | fail
 all_goals exact fA
theorem zIo (n : Net) (l : List Liv) (now t host e c : Int) (hs : FnA Tryz.prog 20 [zAq t host e] (.raw (.bool true))) (hc : c ≠ 0) (ha : FnA Tryz.prog 14 [.agg (wav n now (lA 22 (Liv.av zX) l)), .raw (.int .i64 t)] (.tup [.agg jH, .raw (.int .i64 c)])) :
  FnA Tryz.prog 7 [.agg (wav n now (lA 22 (Liv.av zX) l)), zAq t host e] (.tup [.agg jH, .agg ev0, .raw (.int .i64 c)]) := by
 obtain ⟨f1, f2, f3, f4⟩ := yG n
 have f5 := wQ (ch := zX) trivial l
 unfold zAq at *
 refine en func7 ntmps7 [.cell 4 49, .cell 5 54, .tmp 6] rfl ?_
 try (refine wkg hs ?_; try refine sM fun K hK => ?_)
 refine zB ⟨_, evl, fun hb => ?_, fun _ => ?_⟩
 ·simp at hb
 try (refine wkg ha ?_; try refine sM fun K hK => ?_)
 refine zB ⟨_, evl, fun _ => ?_, fun hb => ?_⟩
 ·try (refine wg ?_; try refine sM fun K hK => ?_)
  all_goals exact fA
 ·simp [hc] at hb
theorem yB4 {n : Net} {h0 : Liv} {l : List Liv} (hm : zFi n (h0 :: l)) (now t e : Int) (hn : now ≤ t) (ht : t ≤ 900000000000000) (h : zLh (h0 :: l) now) (hok : ∀ i, i < (h0 :: l).length → ((h0 :: l).getD i default).sum t / 1000000000 ≤ 3000000000000000)
  (hs : FnA Tryz.prog 20 [zAq t h0.id e] (.raw (.bool true))) :
  FnA Tryz.prog 7 [.agg (wav n now (lA 22 (Liv.av zX) (h0 :: l))), zAq t h0.id e] (.tup [.agg (wav n t (lA 22 (Liv.av mtA) (h0.turn t e :: l))), .agg ev1, .raw (.int .i64 0)]) := by
 obtain ⟨f1, f2, f3, f4⟩ := yG n
 have f5 := wQ (ch := zX) trivial (h0 :: l)
 have hadv := zTu hm now t hn ht h hok
 have hk := h.2 0 hm.pos.1
 have hr : h0.right := hk.1
 have hb0 : h0.base ≤ t := Int.le_trans hk.2.1 hn
 have hact := zKe
 generalize hL : (h0 :: l).length = L at *
 have hL1 : 0 < L ∧ L ≤ 64 := by have := hm.pos; omega
 clear hok h hk hm
 unfold zAq at *
 refine en func7 ntmps7 [.cell 4 49, .cell 5 54, .tmp 6] rfl ?_
 try (refine wkg hs ?_; try refine sM fun K hK => ?_)
 refine zB ⟨_, evl, fun hb => ?_, fun _ => ?_⟩
 ·simp at hb
 repeat (refine stG ?_)
 refine zH (fun K hK => ?_)
 iterate 3 (refine stG ?_)
 refine zWo [] [] (hadv) rfl rfl rfl ⟨_, evl, _, evl, _, evl, obl, by decide, by decide, hlT, hlT, yKt, ?_, ?_⟩
 ·rintro r sub' rsub' ⟨rfl, zs, c, rfl, rfl, q⟩
  simp
 rintro r sub' rsub' ⟨rfl, zs, c, rfl, rfl, q1, q2, q3, q4⟩
 haveI := q4
 haveI : StillZ ((h0 :: l).flatMap (Liv.av mtA)) := qD stillM _
 refine ⟨_, (show _ = AV.tup [.agg (wav n t (.bsl 22 7 0 L c)), .raw (.int .i64 0)] by rw [← hL]; rfl), [wav n now (lA 22 (Liv.av zX) (h0 :: l)), [.raw (.int .i64 1), .raw (.int .i64 t), .raw (.int .i64 h0.id), .raw (.int .i64 e), .raw (.int .i64 0), zX], jH, ev0, wav n now (lA 22 (Liv.av zX) (h0 :: l)), wav n t (.bsl 22 7 0 L c), wav n t (.bsl 22 7 0 L c), (h0 :: l).flatMap (Liv.av mtA) ++ zs], ?_, _, evl, ?_⟩
 ·rw [← hL]
  exact congrArg (fun z => [wav n now (lA 22 (Liv.av zX) (h0 :: l)), [.raw (.int .i64 1), .raw (.int .i64 t), .raw (.int .i64 h0.id), .raw (.int .i64 e), .raw (.int .i64 0), zX], jH, ev0, wav n now (lA 22 (Liv.av zX) (h0 :: l)), wav n t (.bsl 22 7 0 (h0 :: l).length c), wav n t (.bsl 22 7 0 (h0 :: l).length c), z]) (jN _ _ _)
 repeat
  first
   | (refine zG (hK _ ?_); clear hK K)
   | refine stG ?_
   | (refine z5 1 rfl ?_; refine zE ?_)
   | (refine yH ?_; first | (refine zN (hK _ ?_); clear hK K) | (refine zT rfl ⟨_, evl, fun nb' => ?_⟩))
 have hfl : (h0 :: l).flatMap (Liv.av mtA) ++ zs = h0.av mtA ++ (l.flatMap (Liv.av mtA) ++ zs) := by rw [yP3, yOs]
 rw [hfl]
 haveI : StillZ (l.flatMap (Liv.av mtA)) := qD stillM _
 haveI hZ : StillZ (l.flatMap (Liv.av mtA) ++ zs) := inferInstance
 have hlen : L * 22 ≤ (h0.av mtA ++ (l.flatMap (Liv.av mtA) ++ zs)).length := by rw [← hfl]; exact yMk (yNe _ oq) q3
 have hch : ∀ i, i < L → zU 22 ((h0.turn t e).av mtA ++ (l.flatMap (Liv.av mtA) ++ zs)) i = els (Liv.av mtA) (h0.turn t e :: l) i := fun i hi => by
  rw [← yOs, ← yP3]
  exact zH1 (sz := 22) (enc := Liv.av mtA) (l := h0.turn t e :: l) (r := zs) (i := i) (fun _ => rfl) (by rw [yMy] at hL ⊢; omega)
 have hlen2 : 0 + L * 22 ≤ ((h0.turn t e).av mtA ++ (l.flatMap (Liv.av mtA) ++ zs)).length := by rw [yN9]; exact hlen
 generalize l.flatMap (Liv.av mtA) ++ zs = Z at *
 refine y6 (xT.sel (sl' := [(3, true, .box 2 0), (4, true, .box 0 0), (5, true, .box 1 0), (6, true, .raw (.int .i64 0)), (7, true, .box 3 0), (8, true, .raw (.int .i64 0))]) (bx' := [jH, ev0, [.raw (.int .i64 1), .raw (.int .i64 t), .raw (.int .i64 h0.id), .raw (.int .i64 e), .raw (.int .i64 0), zX], wav n t (.bsl 22 4 0 L c), h0.av mtA ++ Z]) [2, 3, 1, 8, 7] dq (fun k hk => absurd hk sq)
  ⟨⟨_, rfl, zI (by simp [AV.freeL, AV.free])⟩, ⟨_, rfl, zI (by simp [AV.freeL, AV.free])⟩, ⟨_, rfl, zI (by simp [AV.freeL, AV.free])⟩, ⟨_, rfl, kO (b := 7) (b' := 4) rfl dq n t L c⟩, ⟨_, rfl, zI (yR (Liv.free yU h0) hZ.free)⟩, trivial⟩
  ⟨⟨_, rfl, .inr ⟨rfl, by simp [AV.sub]⟩⟩, ⟨_, rfl, .inr ⟨rfl, by simp [AV.sub]⟩⟩, ⟨_, rfl, .inr ⟨rfl, by simp [AV.sub]⟩⟩, ⟨_, rfl, .inl ⟨trivial, rfl⟩⟩, ⟨_, rfl, .inr ⟨rfl, by simp [AV.sub]⟩⟩, ⟨_, rfl, .inl ⟨trivial, rfl⟩⟩, trivial⟩) ?_
 clear hadv q1 q2 q3 q4
 try (refine wg ?_; try refine sM fun K hK => ?_)
 refine zB ⟨_, evl, fun hb => ?_, fun _ => ?_⟩
 ·simp at hb
 have hfind := yBv n t h0 Z L c hL1.1 oq
 repeat (refine stG ?_)
 refine zH (fun K hK => ?_)
 iterate 3 (refine stG ?_)
 refine zE3 [4] [] hfind rfl rfl rfl ⟨_,evl,_,evl,_,evl,obl,by decide,by decide,⟨?_,trivial⟩,trivial,⟨fun cs hc => ?_,fun r hr => (by cases hr),⟨?_,trivial,trivial⟩,yMj _,yMj _⟩,_,evl,[jH,ev0,[.raw (.int .i64 1),.raw (.int .i64 t),.raw (.int .i64 h0.id),.raw (.int .i64 e),.raw (.int .i64 0),zX],wav n t (.bsl 22 4 0 L c),h0.av mtA ++ Z],?_,_,evl,?_⟩
 ·rw [jN]
  rfl
 ·obtain rfl := yO1.1 hc
  exact zIn _ _ _
 ·exact zXb n t dq L c
 ·exact congrArg (fun z => [jH, ev0, [.raw (.int .i64 1), .raw (.int .i64 t), .raw (.int .i64 h0.id), .raw (.int .i64 e), .raw (.int .i64 0), zX], wav n t (.bsl 22 4 0 L c), z]) (jN _ _ _)
 try (first | refine wkM hK trivial ?_ | refine wkg trivial ?_)
 try clear hK K
 try refine sM fun K hK => ?_
 refine zB ⟨_, evl, fun hb => ?_, fun _ => ?_⟩
 ·simp at hb
 refine y6 (xT.sl (sl' := [(3, true, .box 2 0), (4, true, .box 0 0), (5, true, .box 1 0), (6, true, .raw (.int .i64 0)), (7, true, .box 3 0), (9, true, .raw (.int .i64 0))]) ?_) ?_
 ·simp only [zB6, zL, ↓reduceIte, Nat.reduceEqDiff, yOi, yMv, yMc, yMu]
  all_goals ((repeat' apply And.intro) <;> first | rfl | omega)
 have hrate := zXv n h0 t t h0.id e L hr hb0 ht
 repeat (refine stG ?_)
 refine zUb ⟨73,0,[(4,true,.box 0 0),(5,true,.box 1 0),(6,true,.raw (.int .i64 0)),(7,true,.box 3 0),(9,true,.raw (.int .i64 0)),(10,true,.box 5 0),(11,true,.box 6 0)],[jH,ev0,[.raw (.int .i64 1),.raw (.int .i64 t),.raw (.int .i64 h0.id),.raw (.int .i64 e),.raw (.int .i64 0),zX],wav n t (.bsl 22 4 0 L c),h0.av mtA ++ Z] ++ [(h0.turn t e).av mtA,ev0],[],((0,[]),[],true)⟩ ?_ ?_
 rotate_left
 ·simp only [yMz, yN8]
  try (refine wg ?_; try refine sM fun K hK => ?_)
  refine zB ⟨_, evl, fun _ => ?_, fun hb => ?_⟩
  rotate_left
  ·simp at hb
  try (first | refine wkM hK trivial ?_ | refine wkg trivial ?_)
  try clear hK K
  try refine sM fun K hK => ?_
  refine zGf (e := 74) 2 rfl rfl rfl rfl kq kq ⟨evl, _, evl, ?_⟩
  try (first | refine wkM hK trivial ?_ | refine wkg trivial ?_)
  try clear hK K
  try refine sM fun K hK => ?_
  refine zP2 (e := 74) rfl rfl rfl rfl kq kq kq ⟨evl, evl, ?_⟩
  repeat
   first
    | (refine zG (hK _ ?_); clear hK K)
    | refine stG ?_
    | (refine z5 1 rfl ?_; refine zE ?_)
    | (refine yH ?_; first | (refine zN (hK _ ?_); clear hK K) | (refine zT rfl ⟨_, evl, fun nb' => ?_⟩))
  repeat (refine stG ?_)
  refine zH (fun K hK => ?_)
  iterate 6 (refine stB ?_)
  refine zG (hK _ ?_); clear hK K
  refine y6 (xT.sel (sl' := [(4, true, .box 0 0), (5, true, .box 1 0), (6, true, .raw (.int .i64 0)), (7, true, .box 2 0), (11, true, .box 3 0)]) (bx' := [jH, ev0, wav n t (.bsl 22 4 0 L c), ev1, (h0.turn t e).av mtA ++ Z]) [0, 1, 3, 6, 4] dq (fun k hk => absurd hk sq)
   ⟨⟨_, rfl, zI (by simp [AV.freeL, AV.free])⟩, ⟨_, rfl, zI (by simp [AV.freeL, AV.free])⟩, ⟨_, rfl, kO (b := 4) (b' := 4) rfl dq n t L c⟩, ⟨_, rfl, zI (by simp [AV.freeL, AV.free])⟩, ⟨_, rfl, zI (yR (Liv.free yU (h0.turn t e)) hZ.free)⟩, trivial⟩
   ⟨⟨_, rfl, .inr ⟨rfl, by simp [AV.sub]⟩⟩, ⟨_, rfl, .inr ⟨rfl, by simp [AV.sub]⟩⟩, ⟨_, rfl, .inl ⟨trivial, rfl⟩⟩, ⟨_, rfl, .inr ⟨rfl, by simp [AV.sub]⟩⟩, ⟨_, rfl, .inr ⟨rfl, by simp [AV.sub]⟩⟩, trivial⟩) ?_
  have hfz := yR (Liv.free yU (h0.turn t e)) hZ.free
  refine y6 (show xT _ ⟨73, 0, [(4, true, .box 0 0), (5, true, .box 1 0), (6, true, .raw (.int .i64 0)), (7, true, .box 2 0), (11, true, .box 3 0)], [jH, ev0, wav n t (.lst 22 L (zU 22 ((h0.turn t e).av mtA ++ Z))), ev1], [], ((0, []), [], true)⟩ from xT.freezeM 4 dq
   ⟨by simp [AV.okFL, AV.okF], by simp [AV.okFL, AV.okF], zQa n t (bx := [jH, ev0, wav n t (.bsl 22 4 0 L c), ev1, (h0.turn t e).av mtA ++ Z]) (b := 4) sq (belL_free (m := 4) ((h0.turn t e).av mtA ++ Z) hfz) hlen2 c, by simp [AV.okFL, AV.okF], trivial⟩ (by simp [zUy, AV.okF])) ?_
  have hfl2 : (AV.lst 22 L (zU 22 ((h0.turn t e).av mtA ++ Z))).free := fun i _ => qL hfz
  have hsim : Sim (.lst 22 L (zU 22 ((h0.turn t e).av mtA ++ Z))) (lA 22 (Liv.av mtA) (h0.turn t e :: l)) := Sim.lstE hL.symm hch
  generalize zU 22 ((h0.turn t e).av mtA ++ Z) = el at *
  refine zA0 2 obf ⟨_, evl, _, evl, ?_⟩
  try (refine wg ?_; try refine sM fun K hK => ?_)
  refine rt ?_
  exact xD.tup (show xF _ _ [_, _, _] [_, _, _] from ⟨(Sim.agg (show zB8 (wav n t (.lst 22 L el)) (wav n t (lA 22 (Liv.av mtA) (h0.turn t e :: l))) from ⟨Sim.refl _, Sim.refl _, Sim.refl _, Sim.refl _, Sim.refl _, Sim.refl _, Sim.refl _, Sim.refl _, hsim, trivial⟩)).s, xD.refl _, xD.refl _, trivial⟩)
 refine zB9 false kq kq (fun K hK => ?_)
 refine zE ?_
 iterate 2 (refine stG ?_)
 refine zE ?_
 iterate 8 (refine stB ?_)
 iterate 8 (refine zE ?_)
 refine zE7 ⟨_, evl, _, evl, by decide +kernel, ?_⟩
 obtain ⟨M, hM⟩ : ∃ M, M = wav n t (.bsl 22 4 0 L c) ++ ([.raw (.int .i64 1), .raw (.int .i64 t), .raw (.int .i64 h0.id), .raw (.int .i64 e), .raw (.int .i64 0), zX] ++ h0.av mtA) := ⟨_, rfl⟩
 refine zN3 (fun rem st => rem.Nodup ∧ (∀ i ∈ rem, i ∈ [0, 3, 12, 13, 14, 15, 16, 17, 18, 19]) ∧ ∃ sl ext rw, st = ⟨73, 0, sl, [jH, ev0, [.raw (.int .i64 1), .raw (.int .i64 t), .raw (.int .i64 h0.id), .raw (.int .i64 e), .raw (.int .i64 0), zX], wav n t (.bsl 22 4 0 L c), h0.av mtA ++ Z] ++ ext, rw, ((0, []), [], true)⟩ ∧
  In9 [(4, .box 0 0), (5, .box 1 0), (6, .raw (.int .i64 0)), (7, .box 3 0), (9, .raw (.int .i64 0)), (40, .raw (.int .i64 1)), (49, .agg M)] [(3, 41, .raw (.func (.func 58) #[] #[])), (12, 50, .tup [.agg ((h0.turn t e).av mtA), .agg ev0]), (13, 37, .tup [.agg ((h0.turn t e).av mtA), .agg ev0]), (14, 51, .agg ((h0.turn t e).av mtA)), (15, 52, .agg ev0)] zVb ((h0.turn t e).av mtA) ev0 (fun j => j ∉ rem) sl ext rw) (fun s hs => ?_) (fun rem st hI i hi hc o ho => ?_) _ _ _ rfl ?_
 ·obtain ⟨_, _, sl, ext, rw, rfl, H⟩ := hs
  simp only [yOe, yOl] at H
  have b4 := H.base (4, .box 0 0) sq
  have b5 := H.base (5, .box 1 0) sq
  have b6 := H.base (6, .raw (.int .i64 0)) sq
  have b7 := H.base (7, .box 3 0) sq
  have b9 := H.base (9, .raw (.int .i64 0)) sq
  refine hK _ ?_
  obtain ⟨rfl, ⟨rfl, k10, k11⟩ | ⟨rfl, k10, k11⟩⟩ := H.all
  ·exact xT.selR (sl' := [(4,true,.box 0 0),(5,true,.box 1 0),(6,true,.raw (.int .i64 0)),(7,true,.box 3 0),(9,true,.raw (.int .i64 0)),(10,true,.box 5 0),(11,true,.box 6 0)]) (bx' := [jH,ev0,[.raw (.int .i64 1),.raw (.int .i64 t),.raw (.int .i64 h0.id),.raw (.int .i64 e),.raw (.int .i64 0),zX],wav n t (.bsl 22 4 0 L c),h0.av mtA ++ Z] ++ [(h0.turn t e).av mtA,ev0]) dq [0,1,2,3,4,5,6] dq (fun k hk => absurd hk sq)
    ⟨⟨_, rfl, zI (by simp [AV.freeL, AV.free])⟩, ⟨_, rfl, zI (by simp [AV.freeL, AV.free])⟩, ⟨_, rfl, zI (by simp [AV.freeL, AV.free])⟩, ⟨_, rfl, kO (b := 4) (b' := 4) rfl dq n t L c⟩, ⟨_, rfl, zI (yR (Liv.free yU h0) hZ.free)⟩, ⟨_, rfl, zI (Liv.free yU (h0.turn t e))⟩, ⟨_, rfl, zI (by simp [AV.freeL, AV.free])⟩, trivial⟩
    ⟨⟨_, b4, .inr ⟨rfl, by simp [AV.sub]⟩⟩, ⟨_, b5, .inr ⟨rfl, by simp [AV.sub]⟩⟩, ⟨_, b6, .inl ⟨trivial, rfl⟩⟩, ⟨_, b7, .inr ⟨rfl, by simp [AV.sub]⟩⟩, ⟨_, b9, .inl ⟨trivial, rfl⟩⟩, ⟨_, k10, .inr ⟨rfl, by simp [AV.sub]⟩⟩, ⟨_, k11, .inr ⟨rfl, by simp [AV.sub]⟩⟩, trivial⟩
  ·exact xT.selR (sl' := [(4,true,.box 0 0),(5,true,.box 1 0),(6,true,.raw (.int .i64 0)),(7,true,.box 3 0),(9,true,.raw (.int .i64 0)),(10,true,.box 5 0),(11,true,.box 6 0)]) (bx' := [jH,ev0,[.raw (.int .i64 1),.raw (.int .i64 t),.raw (.int .i64 h0.id),.raw (.int .i64 e),.raw (.int .i64 0),zX],wav n t (.bsl 22 4 0 L c),h0.av mtA ++ Z] ++ [(h0.turn t e).av mtA,ev0]) dq [0,1,2,3,4,6,5] dq (fun k hk => absurd hk sq)
    ⟨⟨_, rfl, zI (by simp [AV.freeL, AV.free])⟩, ⟨_, rfl, zI (by simp [AV.freeL, AV.free])⟩, ⟨_, rfl, zI (by simp [AV.freeL, AV.free])⟩, ⟨_, rfl, kO (b := 4) (b' := 4) rfl dq n t L c⟩, ⟨_, rfl, zI (yR (Liv.free yU h0) hZ.free)⟩, ⟨_, rfl, zI (Liv.free yU (h0.turn t e))⟩, ⟨_, rfl, zI (by simp [AV.freeL, AV.free])⟩, trivial⟩
    ⟨⟨_, b4, .inr ⟨rfl, by simp [AV.sub]⟩⟩, ⟨_, b5, .inr ⟨rfl, by simp [AV.sub]⟩⟩, ⟨_, b6, .inl ⟨trivial, rfl⟩⟩, ⟨_, b7, .inr ⟨rfl, by simp [AV.sub]⟩⟩, ⟨_, b9, .inl ⟨trivial, rfl⟩⟩, ⟨_, k10, .inr ⟨rfl, by simp [AV.sub]⟩⟩, ⟨_, k11, .inr ⟨rfl, by simp [AV.sub]⟩⟩, trivial⟩
 ·obtain ⟨hnd, hsub, sl, ext, rw, rfl, H⟩ := hI
  have hD : (fun j => j ∉ rem.erase i) = fun j => j = i ∨ j ∉ rem := funext fun j => propext (by rw [hnd.mem_erase_iff]; constructor <;> (intro h; by_cases hj : j = i <;> simp_all))
  rw [hD]
  have hsub' : ∀ j ∈ rem.erase i, j ∈ [0, 3, 12, 13, 14, 15, 16, 17, 18, 19] := fun j hj => hsub j (List.mem_of_mem_erase hj)
  have hnd' := hnd.erase i
  have hw := yP7.1 hc
  have h64 : Nat.blt ([jH, ev0, [.raw (.int .i64 1), .raw (.int .i64 t), .raw (.int .i64 h0.id), .raw (.int .i64 e), .raw (.int .i64 0), zX], wav n t (.bsl 22 4 0 L c), h0.av mtA ++ Z] ++ ext).length 64 = true := by
   have := H.len
   rw [yNz, yN1]
   simp only [yMy, yO4]
   omega
  have hi' := hsub i hi
  simp only [yNa, yOe, or_false] at hi'
  rcases hi' with rfl | rfl | rfl | rfl | rfl | rfl | rfl | rfl | rfl | rfl
  ·cases yPc ho
   obtain ⟨_, rfl⟩ := H.map.resolve_right fun h => h.1 hi
   refine qV h64 evl (fun nb' => ?_)
   refine zE3 [] [] zKe rfl rfl rfl ⟨_,rfl,_,rfl,_,evl,obl,by decide,by decide,trivial,trivial,⟨fun cs hc => (by cases hc),fun r hr => (by cases hr),trivial,yMh _,yMh _⟩,.row 0 0,rfl,[jH,ev0,[.raw (.int .i64 1),.raw (.int .i64 t),.raw (.int .i64 h0.id),.raw (.int .i64 e),.raw (.int .i64 0),zX],wav n t (.bsl 22 4 0 L c),h0.av mtA ++ Z] ++ ext,by simp [y8],[jK zDb],congrArg (fun r => [r]) (zV6 _ _ _),?_⟩
   refine zG ⟨(true, .row 0 0), [jH, ev0, [.raw (.int .i64 1), .raw (.int .i64 t), .raw (.int .i64 h0.id), .raw (.int .i64 e), .raw (.int .i64 0), zX], wav n t (.bsl 22 4 0 L c), h0.av mtA ++ Z] ++ ext, [jK zDb], rfl, jL ext rfl, (fun h => by cases h), ?_⟩
   exact ⟨hnd', hsub', _, ext, _, rfl, H.maps sq sq⟩
  ·cases yPc ho
   have d0 : 0 ∉ rem := fun h => absurd (hw 0 h) (by decide +kernel)
   obtain ⟨_, rfl, k38⟩ := H.map.resolve_left fun h => h.1 d0
   have k40 := H.base (40, .raw (.int .i64 1)) sq
   obtain ⟨z, hz⟩ := Option.isSome_iff_exists.1 (show ((Tryz.prog.info? 92).bind (·.zero)).isSome = true by kernel_rfl)
   refine zQo (d := 41) (ent := (true, .raw (.func (.func 58) #[] #[]))) rfl (jL ext rfl) h64 evl (fun nb' K' hk' => ?_) ?_
   ·refine zE6 (kt := 3) (xC kq 1 zDb) (x9 kq 1) hz rfl kq rfl rfl rfl ⟨0, vP k38 rfl, jK zDb, rfl, ⟨rfl, rfl⟩, rfl, _, vP k40 rfl, AV.is_raw _, ?_⟩
    exact zG hk'
   ·exact ⟨hnd', hsub', _, ext, _, rfl, H.val sq sq sq dq dq dq dq⟩
  ·cases yPc ho
   have d3 : 3 ∉ rem := fun h => absurd (hw 3 h) (by decide +kernel)
   have k41 := H.spec (3, 41, .raw (.func (.func 58) #[] #[])) sq d3
   have k49 := H.base (49, .agg M) sq
   refine zQo (d := 50) (ent := (true, .tup [.agg ((h0.turn t e).av mtA), .agg ev0])) rfl (jL ext rfl) h64 evl (fun nb' K' hk' => ?_) ?_
   ·refine zXp [] [] rfl hrate.toG rfl rfl ⟨_,rfl,_,rfl,[true,true],[.agg M],?_,⟨?_,trivial⟩,by simp,by decide,by decide,trivial,trivial,⟨fun cs hc => (by cases hc),fun r hr => (by cases hr),?_,yMh _,yMh _⟩,.tup [.agg ((h0.turn t e).av mtA),.agg ev0],rfl,[jH,ev0,[.raw (.int .i64 1),.raw (.int .i64 t),.raw (.int .i64 h0.id),.raw (.int .i64 e),.raw (.int .i64 0),zX],wav n t (.bsl 22 4 0 L c),h0.av mtA ++ Z] ++ ext,by simp [y8],rw,by simp [y8],?_⟩
    ·have k41 : yL 41 sl = _ := k41
     have k49 : yL 49 sl = _ := k49
     simp [kL, ASt.evL, ASt.ev, ASt.look, jV, inN, k41, k49, zF8]
    ·rw [hM]
     exact Sim.agg ⟨Sim.refl _,Sim.refl _,Sim.refl _,Sim.refl _,Sim.refl _,Sim.refl _,Sim.refl _,Sim.refl _,Sim.lenB,Sim.refl _,Sim.refl _,Sim.refl _,Sim.refl _,Sim.refl _,Sim.refl _,Sim.refl _,Sim.refl _,Sim.refl _,Sim.refl _,Sim.refl _,Sim.refl _,Sim.refl _,Sim.refl _,Sim.refl _,Sim.refl _,Sim.refl _,Sim.refl _,Sim.refl _,Sim.refl _,Sim.refl _,Sim.refl _,Sim.refl _,Sim.refl _,Sim.refl _,Sim.refl _,Sim.refl _,Sim.refl _,trivial⟩
    ·exact AV.subL_free _ ⟨yR (zBa n t (hs := .lst 0 L fun _ => []) fun i _ => trivial) ⟨trivial, trivial, trivial, trivial, trivial, trivial, Liv.free yU h0⟩, trivial⟩
    ·exact zG hk'
   ·exact ⟨hnd', hsub', _, ext, _, rfl, H.val sq sq sq dq dq dq dq⟩
  ·cases yPc ho
   have d1 : 12 ∉ rem := fun h => absurd (hw 12 h) (by decide +kernel)
   have k1 := H.spec (12, 50, .tup [.agg ((h0.turn t e).av mtA), .agg ev0]) sq d1
   refine zQo (d := 37) (ent := (true, .tup [.agg ((h0.turn t e).av mtA), .agg ev0])) rfl (jL ext rfl) h64 evl (fun nb' K' hk' => ?_) ?_
   ·exact qI rfl (vU.slots (sl' := [(50, (true, .tup [.agg ((h0.turn t e).av mtA), .agg ev0]))]) (vI zW (g := true) evl evl wW) (zHk k1 rfl)) rfl (zG hk')
   ·exact ⟨hnd', hsub', _, ext, _, rfl, H.val sq sq sq dq dq dq dq⟩
  ·cases yPc ho
   have d1 : 13 ∉ rem := fun h => absurd (hw 13 h) (by decide +kernel)
   have k1 := H.spec (13, 37, .tup [.agg ((h0.turn t e).av mtA), .agg ev0]) sq d1
   refine zQo (d := 51) (ent := (true, .agg ((h0.turn t e).av mtA))) rfl (jL ext rfl) h64 evl (fun nb' K' hk' => ?_) ?_
   ·exact qI rfl (vU.slots (sl' := [(37, (true, .tup [.agg ((h0.turn t e).av mtA), .agg ev0]))]) (vI zW (g := true) evl evl wW) (zHk k1 rfl)) rfl (zG hk')
   ·exact ⟨hnd', hsub', _, ext, _, rfl, H.val sq sq sq dq dq dq dq⟩
  ·cases yPc ho
   have d1 : 13 ∉ rem := fun h => absurd (hw 13 h) (by decide +kernel)
   have k1 := H.spec (13, 37, .tup [.agg ((h0.turn t e).av mtA), .agg ev0]) sq d1
   refine zQo (d := 52) (ent := (true, .agg ev0)) rfl (jL ext rfl) h64 evl (fun nb' K' hk' => ?_) ?_
   ·exact qI rfl (vU.slots (sl' := [(37, (true, .tup [.agg ((h0.turn t e).av mtA), .agg ev0]))]) (vI zW (g := true) evl evl wW) (zHk k1 rfl)) rfl (zG hk')
   ·exact ⟨hnd', hsub', _, ext, _, rfl, H.val sq sq sq dq dq dq dq⟩
  ·cases yPc ho
   refine qV h64 evl (fun nb' => ?_)
   refine zIv zW rfl rfl rfl rfl ⟨_, evl, 5 + ext.length, by rw [yN1]; rfl, [jH, ev0, [.raw (.int .i64 1), .raw (.int .i64 t), .raw (.int .i64 h0.id), .raw (.int .i64 e), .raw (.int .i64 0), zX], wav n t (.bsl 22 4 0 L c), h0.av mtA ++ Z] ++ (ext ++ [zVb]), by rw [yOs]; rfl, ?_⟩
   refine zG ⟨(true, .box (5 + ext.length) 0), [jH, ev0, [.raw (.int .i64 1), .raw (.int .i64 t), .raw (.int .i64 h0.id), .raw (.int .i64 e), .raw (.int .i64 0), zX], wav n t (.bsl 22 4 0 L c), h0.av mtA ++ Z] ++ (ext ++ [zVb]), rw, rfl, jL (ext ++ [zVb]) rfl, fun _ => ⟨rfl, [zVb], by rw [yOs]⟩, ?_⟩
   exact ⟨hnd', hsub', _, _, _, rfl, H.a16 (fun h => h hi) sq sq⟩
  ·cases yPc ho
   refine qV h64 evl (fun nb' => ?_)
   refine zIv zW rfl rfl rfl rfl ⟨_, evl, 5 + ext.length, by rw [yN1]; rfl, [jH, ev0, [.raw (.int .i64 1), .raw (.int .i64 t), .raw (.int .i64 h0.id), .raw (.int .i64 e), .raw (.int .i64 0), zX], wav n t (.bsl 22 4 0 L c), h0.av mtA ++ Z] ++ (ext ++ [ev0]), by rw [yOs]; rfl, ?_⟩
   refine zG ⟨(true, .box (5 + ext.length) 0), [jH, ev0, [.raw (.int .i64 1), .raw (.int .i64 t), .raw (.int .i64 h0.id), .raw (.int .i64 e), .raw (.int .i64 0), zX], wav n t (.bsl 22 4 0 L c), h0.av mtA ++ Z] ++ (ext ++ [ev0]), rw, rfl, jL (ext ++ [ev0]) rfl, fun _ => ⟨rfl, [ev0], by rw [yOs]⟩, ?_⟩
   exact ⟨hnd', hsub', _, _, _, rfl, H.a17 (fun h => h hi) sq sq⟩
  ·cases yPc ho
   have d14 : 14 ∉ rem := fun h => absurd (hw 14 h) (by decide +kernel)
   have d16 : 16 ∉ rem := fun h => absurd (hw 16 h) (by decide +kernel)
   have d17 : 17 ∉ rem := fun h => absurd (hw 17 h) (by decide +kernel)
   have k1 := H.spec (14, 51, .agg ((h0.turn t e).av mtA)) sq d14
   rcases H.s18 d16 d17 (fun h => h hi) sq with ⟨rfl, kb, H'⟩ | ⟨rfl, kb, H'⟩
   ·refine qV h64 evl (fun nb' => ?_)
    refine zD1 zW rfl rfl rfl ⟨5, 0, vP kb rfl, _, rfl, _, evl, _, vP k1 rfl, ⟨encM.one _ _, rfl, by decide⟩, [jH, ev0, [.raw (.int .i64 1), .raw (.int .i64 t), .raw (.int .i64 h0.id), .raw (.int .i64 e), .raw (.int .i64 0), zX], wav n t (.bsl 22 4 0 L c), h0.av mtA ++ Z] ++ [(h0.turn t e).av mtA, ev0], rfl, ?_⟩
    exact zG ⟨(true, .raw undef), [jH, ev0, [.raw (.int .i64 1), .raw (.int .i64 t), .raw (.int .i64 h0.id), .raw (.int .i64 e), .raw (.int .i64 0), zX], wav n t (.bsl 22 4 0 L c), h0.av mtA ++ Z] ++ [(h0.turn t e).av mtA, ev0], rw, rfl, jL [(h0.turn t e).av mtA, ev0] rfl, (fun h => by cases h), hnd', hsub', sl, _, rw, rfl, H'⟩
   ·refine qV h64 evl (fun nb' => ?_)
    refine zD1 zW rfl rfl rfl ⟨6, 0, vP kb rfl, _, rfl, _, evl, _, vP k1 rfl, ⟨encM.one _ _, rfl, by decide⟩, [jH, ev0, [.raw (.int .i64 1), .raw (.int .i64 t), .raw (.int .i64 h0.id), .raw (.int .i64 e), .raw (.int .i64 0), zX], wav n t (.bsl 22 4 0 L c), h0.av mtA ++ Z] ++ [ev0, (h0.turn t e).av mtA], rfl, ?_⟩
    exact zG ⟨(true, .raw undef), [jH, ev0, [.raw (.int .i64 1), .raw (.int .i64 t), .raw (.int .i64 h0.id), .raw (.int .i64 e), .raw (.int .i64 0), zX], wav n t (.bsl 22 4 0 L c), h0.av mtA ++ Z] ++ [ev0, (h0.turn t e).av mtA], rw, rfl, jL [ev0, (h0.turn t e).av mtA] rfl, (fun h => by cases h), hnd', hsub', sl, _, rw, rfl, H'⟩
  ·cases yPc ho
   have d15 : 15 ∉ rem := fun h => absurd (hw 15 h) (by decide +kernel)
   have d18 : 18 ∉ rem := fun h => absurd (hw 18 h) (by decide +kernel)
   have k1 := H.spec (15, 52, .agg ev0) sq d15
   obtain ⟨⟨rfl, kb⟩ | ⟨rfl, kb⟩, H'⟩ := H.s19 d18 sq
   ·refine qV h64 evl (fun nb' => ?_)
    refine zD1 zW rfl rfl rfl ⟨6,0,vP kb rfl,_,rfl,_,evl,_,vP k1 rfl,⟨⟨rfl,rfl,rfl,rfl,rfl,rfl,rfl,rfl,rfl,trivial⟩,rfl,by decide⟩,[jH,ev0,[.raw (.int .i64 1),.raw (.int .i64 t),.raw (.int .i64 h0.id),.raw (.int .i64 e),.raw (.int .i64 0),zX],wav n t (.bsl 22 4 0 L c),h0.av mtA ++ Z] ++ [(h0.turn t e).av mtA,ev0],rfl,?_⟩
    exact zG ⟨(true, .raw undef), [jH, ev0, [.raw (.int .i64 1), .raw (.int .i64 t), .raw (.int .i64 h0.id), .raw (.int .i64 e), .raw (.int .i64 0), zX], wav n t (.bsl 22 4 0 L c), h0.av mtA ++ Z] ++ [(h0.turn t e).av mtA, ev0], rw, rfl, jL [(h0.turn t e).av mtA, ev0] rfl, (fun h => by cases h), hnd', hsub', sl, _, rw, rfl, H'⟩
   ·refine qV h64 evl (fun nb' => ?_)
    refine zD1 zW rfl rfl rfl ⟨5,0,vP kb rfl,_,rfl,_,evl,_,vP k1 rfl,⟨⟨rfl,rfl,rfl,rfl,rfl,rfl,rfl,rfl,rfl,trivial⟩,rfl,by decide⟩,[jH,ev0,[.raw (.int .i64 1),.raw (.int .i64 t),.raw (.int .i64 h0.id),.raw (.int .i64 e),.raw (.int .i64 0),zX],wav n t (.bsl 22 4 0 L c),h0.av mtA ++ Z] ++ [ev0,(h0.turn t e).av mtA],rfl,?_⟩
    exact zG ⟨(true, .raw undef), [jH, ev0, [.raw (.int .i64 1), .raw (.int .i64 t), .raw (.int .i64 h0.id), .raw (.int .i64 e), .raw (.int .i64 0), zX], wav n t (.bsl 22 4 0 L c), h0.av mtA ++ Z] ++ [ev0, (h0.turn t e).av mtA], rw, rfl, jL [ev0, (h0.turn t e).av mtA] rfl, (fun h => by cases h), hnd', hsub', sl, _, rw, rfl, H'⟩
 ·refine ⟨by decide, fun i h => h, _, [], [], rfl, ⟨?_, fun p hp h => ?_, .inl ⟨by simp, rfl⟩, fun h => by simp at h, .inl ⟨by simp, by simp, rfl⟩⟩⟩
  ·rw [hM]
   simp only [yOd, yOe, yOf, yOg, yOi]
   exact ⟨rfl, rfl, rfl, rfl, rfl, rfl, rfl⟩
  ·simp only [yNa, yOe, or_false] at hp
   rcases hp with rfl | rfl | rfl | rfl | rfl <;> simp at h
end Go.Proofs.YtioaahmkebojiaaGreatDoor
