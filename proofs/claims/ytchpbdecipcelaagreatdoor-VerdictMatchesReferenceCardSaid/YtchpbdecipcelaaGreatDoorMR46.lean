import Derived.Test.YtchpbdecipcelaaGreatDoorMR01
import Derived.Test.YtchpbdecipcelaaGreatDoorMR45
namespace Go.Proofs.YtchpbdecipcelaaGreatDoor
set_option linter.unusedVariables false
set_option linter.unusedSimpArgs false
set_option maxHeartbeats 4000000
set_option maxRecDepth 100000
open Go.RowKit
theorem yA0 (a : List zH) (hl : a.length ≤ 4611686018427387904) (hw : ∀ b ∈ a, b.who.length ≤ 4611686018427387904) : FnA Tryz.prog 14 [lA 4 zH.av a, lA 4 zH.av a] (.raw (.bool true)) := by
 have hfa : (lA 4 zH.av a).free := zC (fun z => zH.free z) _
 refine en Tryz.func14 Tryz.ntmps14 [.tmp 4] rfl ?_
 try (refine wg ?_; try refine sM fun K hK => ?_)
 refine zA ⟨_, evl, fun hb => absurd hb (by simp), fun _ => ?_⟩
 try (refine wg ?_; try refine sM fun K hK => ?_)
 refine zF (fun k : Nat => ⟨70, 0, [(0, true, lA 4 zH.av a), (1, true, lA 4 zH.av a), (5, true, .raw (.int .i64 k))], [], [], ((0, []), [], true)⟩) (fun k => k ≤ a.length) (fun k => a.length - k) 0 ?_ (by omega) ?_
 ·exact wkZ
 intro k hk
 rcases yKt k a.length with hlt | hge
 ·have hs := zMf (a.getD k default).who (a.getD k default).who (hw _ (w9 hlt))
  rw [yO3 rfl] at hs
  have f1 : (lA 2 zB.av (a.getD k default).who).free := zC (fun z => zB.free z) _
  try (refine wg ?_; try refine sM fun K hK => ?_)
  refine zA ⟨_, evl, fun _ => ?_, fun hb => absurd (yOc hb) (by omega)⟩
  try (refine wkg hs ?_; try refine sM fun K hK => ?_)
  refine zA ⟨_, evl, fun hb => absurd hb (by simp), fun _ => ?_⟩
  try (refine wg ?_; try refine sM fun K hK => ?_)
  refine ⟨k + 1, by omega, by omega, ?_⟩
  exact wkZ
 ·obtain rfl : k = a.length := by omega
  try (refine wg ?_; try refine sM fun K hK => ?_)
  refine zA ⟨_, evl, fun hb => absurd (yNw hb) (by omega), fun _ => ?_⟩
  try (refine wg ?_; try refine sM fun K hK => ?_)
  all_goals exact fA
theorem zH4 {ok : List zB → Bool} {O : List (List zB)} {s : List zB} (h : (ok s && !(O.any fun t => Vd.part t s)) = false) : Vd.stepS ok O s = O := by
 unfold Vd.stepS
 rw [h]
 rfl
theorem zSq {ok : List zB → Bool} {O : List (List zB)} {s : List zB} (h : (ok s && !(O.any fun t => Vd.part t s)) = true) : Vd.stepS ok O s = O ++ [s] := by
 unfold Vd.stepS
 rw [if_pos h]
theorem zYu {α : Type} [Inhabited α] (O : List α) (f : α → Bool) {k : Nat} (h : k < O.length) : (O.take (k + 1)).any f = ((O.take k).any f || f (O.getD k default)) := by
 rw [yNs h, List.any_append, zU h]
 simp
set_option maxHeartbeats 8000000 in
theorem zZx (m : zL) (hB : BOk m) (hb : FnA Tryz.prog 13 [.agg m.av] (.tup [lA 4 zH.av (zT m).1, .raw (.int .i64 (zT m).2.1), .raw (.int .i64 (zT m).2.2)])) (most : Int) :
  FnA Tryz.prog 18 [.agg m.av, .raw (.int .i64 most)] (.tup [lA 1 sC2 (qA m most).1, .raw (.int .i64 (qA m most).2)]) := by
 have hm := zL.free m
 unfold qA
 unfold BOk at hB
 generalize hE : zT m = E at *
 obtain ⟨l, n, e⟩ := E
 simp only at hb hB ⊢
 have hfl : (lA 4 zH.av l).free := zC (fun y => zH.free y) _
 refine en Tryz.func18 Tryz.ntmps18 [.tmp 4, .tmp 5] rfl ?_
 repeat
  first
   | (refine zG (hK _ ?_); clear hK K)
   | refine stG ?_
   | (refine yJ 1 rfl ?_; refine zR rfl rfl ⟨_, evl, _, _, _, evl, yR, ?_⟩; apply Exists.intro; refine ⟨fun hg => ?_, ?_⟩; · first | exact FnA.at_ (hb) rfl rfl | exact FnA.at_s (hb) rfl yV | exact FnA.at_s (hb) rfl yW)
   | (refine zW 1 rfl ?_; refine zS rfl ⟨_, evl, _, _, _, (fun _ _ => vH), yR, ?_⟩; apply Exists.intro; refine ⟨fun hg => ?_, ?_⟩; · first | exact FnA.at_ (hb) rfl rfl | exact FnA.at_s (hb) rfl yV | exact FnA.at_s (hb) rfl yW)
   | (refine zW 1 rfl ?_; refine zJ ?_)
   | (refine yB ?_; first | (refine zP (hK _ ?_); clear hK K) | (refine zX rfl ⟨_, evl, fun nb' => ?_⟩))
   | refine zE (fun K hK => ?_)
   | (refine yZ ?_; first | (refine zD false rfl (by kernel_rfl) (by kernel_rfl) (fun K hK => ?_)) | (refine zD true rfl (by kernel_rfl) (by kernel_rfl) (fun K hK => ?_)))
 refine zA ⟨_, evl, fun he => ?_, fun he => ?_⟩
 ·simp only [yLs, yMz] at he
  rw [if_pos he]
  try (refine wg ?_; try refine sM fun K hK => ?_)
  exact zM (by simp) ⟨_, _, _, evl, ob0, zDh _ _⟩
 simp only [yMx, yLr] at he
 subst he
 simp only [ne_eq, yLg, if_false]
 obtain ⟨hlen, hn, hbs⟩ := hB rfl
 clear hB hE
 try (refine wg ?_; try refine sM fun K hK => ?_)
 refine zA ⟨_, evl, fun he => ?_, fun he => ?_⟩
 ·rw [if_pos (by simp at he; omega)]
  try (refine wg ?_; try refine sM fun K hK => ?_)
  exact zM (by simp) ⟨_, _, _, evl, ob0, zDh _ _⟩
 have hmost : 0 ≤ most ∧ most ≤ 3 := by simp at he; omega
 rw [if_neg (not_not_intro hmost)]
 clear he
 obtain ⟨mo, rfl⟩ : ∃ mo : Nat, most = mo := ⟨most.toNat, by omega⟩
 obtain ⟨N, rfl⟩ : ∃ N : Nat, n = N := ⟨n.toNat, by omega⟩
 simp only [yLx]
 have hcr : ∀ b ∈ l, wJ b.who := fun b hb => (hbs b hb).2.2.2
 have hall := yEb l hlen hcr
 have hL := zPx hcr
 generalize zGo l = L at *
 have hfL : (lA 2 zB.av L).free := zC (fun y => zB.free y) _
 have hT : ∀ s : List zB, s.length ≤ 1000 → FnA Tryz.prog 23 [lA 4 zH.av l, .raw (.int .i64 N), lA 2 zB.av s] (zT8 (zBz l N s)) := fun s hs => zO8 l hlen N (by omega) hbs s (by omega)
 have hI : ∀ s, (zBz l N s).isSome = zBe l N s := fun s => zJj (by omega) hbs s
 try (refine wkg hall ?_; try refine sM fun K hK => ?_)
 refine yP (xE.nilRow 10 32 1 rfl) ?_
 clear hall hbs hcr
 have hok : ∀ s, okS m.evidence.f l N s = (decide ((wK s : Int) ≤ m.evidence.f) && zBe l N s) := fun s => rfl
 generalize okS m.evidence.f l N = ok at *
 have hO0 : Vd.pick ok ((List.range 0).flatMap (Vd.choose L)) [] = [] := rfl
 have hset : Vd.setsOf ok L mo = Vd.pick ok ((List.range (mo + 1)).flatMap (Vd.choose L)) [] := rfl
 rw [hset]
 clear hset
 have hOS : ∀ i, Vd.pick ok ((List.range (i + 1)).flatMap (Vd.choose L)) [] = Vd.pick ok (Vd.choose L i) (Vd.pick ok ((List.range i).flatMap (Vd.choose L)) []) := fun i => by
  rw [yNf, yNg, Vd.pick_app]
  simp
 have hOl : ∀ i, i ≤ 4 → (Vd.pick ok ((List.range i).flatMap (Vd.choose L)) []).length ≤ 3000000 := fun i hi => by
  have h1 := zEi (ok := ok) ((List.range i).flatMap (Vd.choose L)) []
  have h2 := zO5 hL i hi
  simp only [yMc] at h1
  omega
 have hO3 : ∀ i, i ≤ 4 → ∀ s ∈ Vd.pick ok ((List.range i).flatMap (Vd.choose L)) [], s.length ≤ 3 := fun i hi s hs => by
  rcases zEn _ _ s hs with h1 | h1
  ·cases h1
  ·obtain ⟨j, hj, h⟩ := yOb.1 h1
   have := ((Vd.choose_mem _ _ _).1 h).2
   have := yN5.1 hj
   omega
 generalize hOg : (fun i => Vd.pick ok ((List.range i).flatMap (Vd.choose L)) []) = OO
 have hOg' : ∀ i, Vd.pick ok ((List.range i).flatMap (Vd.choose L)) [] = OO i := fun i => by rw [← hOg]
 simp only [hOg'] at *
 clear hOg hOg'
 refine zF (fun i : Nat => ⟨103, 0, [(1, true, .raw (.int .i64 mo)), (2, true, .box 0 0), (6, true, lA 4 zH.av l), (7, true, .raw (.int .i64 N)), (9, true, lA 2 zB.av L), (10, true, .row 0 (OO i).length), (11, true, .raw (.int .i64 i))], [m.av], [zIi (OO i)], ((0, []), [], true)⟩)
  (fun i => i ≤ mo + 1) (fun i => mo + 1 - i) 0 ?_ (by omega) ?_
 ·rw [hO0]
  exact wkZ
 intro i hi
 rcases yKt i (mo + 1) with hlt | hge
 ·have hch := zLl i L hL (by omega)
  have hCl : (Vd.choose L i).length ≤ 571787 := by
   have h2 := qH L i
   have h3 : L.length ^ i ≤ 83 ^ i := Nat.pow_le_pow_left hL i
   have h4 : 83 ^ i ≤ 83 ^ 3 := Nat.pow_le_pow_right (by decide) (by omega)
   have h5 : 83 ^ 3 = 571787 := by decide
   omega
  have hC3 : ∀ s ∈ Vd.choose L i, s.length ≤ 3 := fun s hs => by have := ((Vd.choose_mem _ _ _).1 hs).2; omega
  have hS := hOS i
  have hl1 := hOl i (by omega)
  have hl3 := hO3 i (by omega)
  generalize OO i = O1 at *
  generalize Vd.choose L i = C at *
  have hfC : (lA 1 sC2 C).free := zC (fun y => show AV.freeL (sC2 y) from ⟨zC (fun z => zB.free z) _, trivial⟩) _
  try (refine wg ?_; try refine sM fun K hK => ?_)
  refine zA ⟨_, evl, fun _ => ?_, fun hb => absurd (yOc hb) (by omega)⟩
  try (refine wkg hch ?_; try refine sM fun K hK => ?_)
  refine zF (fun j : Nat => ⟨103, 0, [(1, true, .raw (.int .i64 mo)), (2, true, .box 0 0), (6, true, lA 4 zH.av l), (7, true, .raw (.int .i64 N)), (9, true, lA 2 zB.av L), (10, true, .row 0 (Vd.pick ok (C.take j) O1).length), (11, true, .raw (.int .i64 i)), (12, true, lA 1 sC2 C), (13, true, .raw (.int .i64 j))], [m.av], [zIi (Vd.pick ok (C.take j) O1)], ((0, []), [], true)⟩)
   (fun j => j ≤ C.length) (fun j => C.length - j) 0 ?_ (by omega) ?_
  ·rw [yMi, show Vd.pick ok [] O1 = O1 from rfl]
   exact wkZ
  clear hch hOS hO3 hOl
  intro j hj
  rcases yKt j C.length with hjl | hjg
  ·have hst : Vd.pick ok (C.take (j + 1)) O1 = Vd.stepS ok (Vd.pick ok (C.take j) O1) (C.getD j default) := by
    rw [yNs hjl, Vd.pick_snoc, zU hjl]
   have hs3 := hC3 _ (w9 hjl)
   have hx3 : ∀ s ∈ Vd.pick ok (C.take j) O1, s.length ≤ 3 := fun s hs => by
    rcases zEn _ _ s hs with h1 | h1
    ·exact hl3 s h1
    ·exact hC3 s (yMh h1)
   have hxl : (Vd.pick ok (C.take j) O1).length ≤ 4000000 := by
    have h1 := zEi (ok := ok) (C.take j) O1
    rw [yN3] at h1
    omega
   generalize Vd.pick ok (C.take j) O1 = X at *
   have hau := zYq (C.getD j default) (by omega)
   have hTs := hT (C.getD j default) (by omega)
   have hIs := hI (C.getD j default)
   have hoks := hok (C.getD j default)
   have hfs : (lA 2 zB.av (C.getD j default)).free := zC (fun z => zB.free z) _
   have hal : wK (C.getD j default) ≤ 3 := yKr List.countP_le_length hs3
   generalize hsj : C.getD j default = s at *
   generalize wK s = au at *
   clear hT hI hok hC3 hl3
   try (refine wg ?_; try refine sM fun K hK => ?_)
   refine zA ⟨_, evl, fun _ => ?_, fun hb => absurd (yOc hb) (by omega)⟩
   rw [← hsj] at hau
   try (refine wkg hau ?_; try refine sM fun K hK => ?_)
   refine zF (fun k : Nat => ⟨103, 0, [(1, true, .raw (.int .i64 mo)), (2, true, .box 0 0), (6, true, lA 4 zH.av l), (7, true, .raw (.int .i64 N)), (9, true, lA 2 zB.av L), (10, true, .row 0 X.length), (11, true, .raw (.int .i64 i)), (12, true, lA 1 sC2 C), (13, true, .raw (.int .i64 j)), (14, true, .raw (.bool (decide ((au : Int) ≤ m.evidence.f) && !((X.take k).any fun t => Vd.part t s)))), (15, true, .raw (.int .i64 k))], [m.av], [zIi X], ((0, []), [], true)⟩)
    (fun k => k ≤ X.length) (fun k => X.length - k) 0 ?_ (by omega) ?_
   ·simp only [yMi, List.any_nil, yMm, Bool.and_true]
    exact wkZ
   intro k hk
   rcases yKt k X.length with hkl | hkg
   ·have hp := yAg (X.getD k default) s (by have := hx3 _ (w9 hkl); omega) (by omega)
    have hat := zYu X (fun t => Vd.part t s) hkl
    have hfx : (lA 2 zB.av (X.getD k default)).free := zC (fun z => zB.free z) _
    generalize Vd.part (X.getD k default) s = pt at *
    generalize hA1 : (X.take (k + 1)).any (fun t => Vd.part t s) = A1 at *
    generalize (X.take k).any (fun t => Vd.part t s) = A0 at *
    rw [← hsj] at hp
    try (refine wg ?_; try refine sM fun K hK => ?_)
    refine zA ⟨_, evl, fun _ => ?_, fun hb => absurd (yOc hb) (by omega)⟩
    try (refine wkg hp ?_; try refine sM fun K hK => ?_)
    refine ⟨k + 1, by omega, by omega, ?_⟩
    rw [hA1, hat, show (decide ((au : Int) ≤ m.evidence.f) && !(A0 || pt)) = (decide ((au : Int) ≤ m.evidence.f) && !A0 && !pt) by cases A0 <;> simp]
    exact wkZ
   ·obtain rfl : k = X.length := by omega
    rw [yNt]
    try (refine wg ?_; try refine sM fun K hK => ?_)
    refine zA ⟨_, evl, fun hb => absurd (yNw hb) (by omega), fun _ => ?_⟩
    generalize hAn : X.any (fun t => Vd.part t s) = An at *
    generalize hau2 : decide ((au : Int) ≤ m.evidence.f) = da at *
    try (refine wg ?_; try refine sM fun K hK => ?_)
    refine zA ⟨_, evl, fun hc => ?_, fun hc => ?_⟩
    ·have hno : (ok s && !(X.any fun t => Vd.part t s)) = false := by
      rw [hoks, hAn]
      revert hc
      cases da <;> cases An <;> simp
     rw [zH4 hno] at hst
     clear hoks hIs hTs hau
     try (refine wg ?_; try refine sM fun K hK => ?_)
     refine ⟨j + 1, by omega, by omega, ?_⟩
     rw [hst]
     exact wkZ
    ·have hda : da = true ∧ An = false := by
      revert hc
      cases da <;> cases An <;> simp
     obtain ⟨rfl, rfl⟩ := hda
     rw [← hsj] at hTs
     rw [← hIs] at hoks
     rw [show zBz l N s = zBz l N (C.getD j default) by rw [hsj]] at hoks
     clear hIs hau
     generalize zBz l N (C.getD j default) = T at *
     cases T with
     | none =>
      have hno : (ok s && !(X.any fun t => Vd.part t s)) = false := by rw [hoks]; rfl
      rw [zH4 hno] at hst
      simp only [zT8] at hTs
      clear hoks hno
      try (refine wkg hTs ?_; try refine sM fun K hK => ?_)
      refine zA ⟨_, evl, fun hb => absurd hb (by simp), fun _ => ?_⟩
      try (refine wg ?_; try refine sM fun K hK => ?_)
      refine ⟨j + 1, by omega, by omega, ?_⟩
      rw [hst]
      exact wkZ
     | some t =>
      have hno : (ok s && !(X.any fun t => Vd.part t s)) = true := by rw [hoks, hAn]; rfl
      rw [zSq hno, ← hsj] at hst
      simp only [zT8] at hTs
      have hft : (liA t).free := qY t
      clear hoks hno
      try (refine wkg hTs ?_; try refine sM fun K hK => ?_)
      refine zA ⟨_, evl, fun _ => ?_, fun hb => absurd hb (by simp)⟩
      try (refine wkR trivial ?_; try refine sM fun K hK => ?_)
      refine ⟨j + 1, by omega, by omega, ?_⟩
      rw [hst, yL5]
      refine wkn ?_ ?_ ?_
      all_goals first | exact wk0 | refine wkS ?_ | skip
      all_goals (try trivial)
      all_goals ((repeat' apply And.intro) <;> first | exact wkL | skip)
      intro q hq
      refine zEw (enc := sC2) (L := X) (x := C.getD j default) ?_ q (by simpa using hq)
      exact ⟨z5.refl _, trivial⟩
  ·obtain rfl : j = C.length := by omega
   rw [yNt, ← hS]
   try (refine wg ?_; try refine sM fun K hK => ?_)
   refine zA ⟨_, evl, fun hb => absurd (yNw hb) (by omega), fun _ => ?_⟩
   try (refine wg ?_; try refine sM fun K hK => ?_)
   refine ⟨i + 1, by omega, by omega, ?_⟩
   exact wkZ
 ·obtain rfl : i = mo + 1 := by omega
  generalize OO (mo + 1) = O at *
  have hfO : (lA 1 sC2 O).free := zC (fun y => show AV.freeL (sC2 y) from ⟨zC (fun z => zB.free z) _, trivial⟩) _
  try (refine wg ?_; try refine sM fun K hK => ?_)
  refine zA ⟨_, evl, fun hb => absurd (yNw hb) (by omega), fun _ => ?_⟩
  try (refine wg ?_; try refine sM fun K hK => ?_)
  refine zA ⟨_, evl, fun hb => ?_, fun hb => ?_⟩
  ·rw [if_pos (by simp at hb; omega)]
   try (refine wg ?_; try refine sM fun K hK => ?_)
   exact zM (by simp) ⟨_, _, _, evl, ob0, zDh _ _⟩
  ·rw [if_neg (by simp at hb; omega)]
   try (refine wg ?_; try refine sM fun K hK => ?_)
   refine zM (by simp) ⟨_, _, _, evl, ob0, zV.sims ?_ ?_⟩
   ·exact z5.tup ⟨z5.row rfl rfl rfl rfl fun i hi => rfl, z5.refl _, trivial⟩
   ·exact ⟨hfO, trivial, trivial⟩
theorem zZu (m : zL) (hB : BOk m) (most : Int) (hs : FnA Tryz.prog 18 [.agg m.av, .raw (.int .i64 most)] (.tup [lA 1 sC2 (qA m most).1, .raw (.int .i64 (qA m most).2)])) :
  FnA Tryz.prog 21 [.agg m.av, .raw (.int .i64 most)] (.tup [lA 2 zB.av (zC0 m most).1, .raw (.int .i64 (zC0 m most).2)]) := by
 have hm := zL.free m
 have hsh := zD9 (most := most) hB
 unfold zC0
 generalize qA m most = E at *
 obtain ⟨S, e⟩ := E
 simp only at hs hsh ⊢
 have hfS : (lA 1 sC2 S).free := zC (fun y => show AV.freeL (sC2 y) from ⟨zC (fun z => zB.free z) _, trivial⟩) _
 refine en Tryz.func21 Tryz.ntmps21 [.tmp 4, .tmp 5] rfl ?_
 try (refine wkg hs ?_; try refine sM fun K hK => ?_)
 refine zA ⟨_, evl, fun he => ?_, fun he => ?_⟩
 ·simp only [yLs, yMz] at he
  rw [if_pos he]
  try (refine wg ?_; try refine sM fun K hK => ?_)
  exact zM (by simp) ⟨_, _, _, evl, ob0, zIm _ _⟩
 simp only [yMx, yLr] at he
 subst he
 simp only [ne_eq, yLg, if_false]
 try (refine wg ?_; try refine sM fun K hK => ?_)
 refine zA ⟨_, evl, fun he => ?_, fun he => ?_⟩
 ·simp only [yLr] at he
  rw [if_pos (yO9.1 (by omega))]
  try (refine wg ?_; try refine sM fun K hK => ?_)
  exact zM (by simp) ⟨_, _, _, evl, ob0, zIm _ _⟩
 simp only [yMz] at he
 have hne : S ≠ [] := fun e => he (by rw [e]; rfl)
 rw [if_neg hne]
 have h0 : 0 < S.length := by omega
 have hS0 : S.headD [] = S.getD 0 default := by cases S <;> simp_all
 have hl0 : (S.getD 0 default).length ≤ 3 := hsh.2 _ (by rw [zU h0]; exact yNe _)
 have hsu : Vd.sureOf S = (S.getD 0 default).filter fun p => S.all fun s => decide (p ∈ s) := by
  unfold Vd.sureOf
  rw [hS0]
 rw [hsu]
 clear hsu hS0
 try (refine wg ?_; try refine sM fun K hK => ?_)
 refine yP (xE.nilRow 8 57 2 rfl) ?_
 have hf0 : (lA 2 zB.av (S.getD 0 default)).free := zC (fun z => zB.free z) _
 refine zF (fun k : Nat => ⟨65, 0, [(6, true, lA 1 sC2 S), (8, true, .row 0 (((S.getD 0 default).take k).filter fun p => S.all fun s => decide (p ∈ s)).length), (9, true, .raw (.int .i64 k))], [m.av], [yJj (((S.getD 0 default).take k).filter fun p => S.all fun s => decide (p ∈ s))], ((0, []), [], true)⟩)
  (fun k => k ≤ (S.getD 0 default).length) (fun k => (S.getD 0 default).length - k) 0 ?_ (by omega) ?_
 ·simp only [yMi, List.filter_nil, yMc]
  exact wkZ
 intro k hk
 rcases yKt k (S.getD 0 default).length with hlt | hge
 ·have hst : ∀ i2, i2 = k + 1 → ((S.getD 0 default).take i2).filter (fun p => S.all fun s => decide (p ∈ s)) = ((S.getD 0 default).take k).filter (fun p => S.all fun s => decide (p ∈ s)) ++ if (S.all fun s => decide ((S.getD 0 default).getD k default ∈ s)) then [(S.getD 0 default).getD k default] else [] := fun i2 e => by
   subst e
   rw [yNs hlt, yNx, zU hlt]
   congr 1
   rw [List.filter_cons]
   rfl
  have hlR : (((S.getD 0 default).take k).filter fun p => S.all fun s => decide (p ∈ s)).length ≤ 3 := yKr (List.length_filter_le _ _) (by rw [yN3]; omega)
  have hall0 : ∀ j, (S.take (j + 1)).all (fun s => decide ((S.getD 0 default).getD k default ∈ s)) = ((S.take j).all (fun s => decide ((S.getD 0 default).getD k default ∈ s)) && (if j < S.length then decide ((S.getD 0 default).getD k default ∈ S.getD j default) else true)) := fun j => by
   by_cases hj : j < S.length
   ·rw [if_pos hj, yNs hj, List.all_append, zU hj]; simp
   ·rw [if_neg hj, yO1 (by omega), yO1 (by omega), Bool.and_true]
  generalize hR : ((S.getD 0 default).take k).filter (fun p => S.all fun s => decide (p ∈ s)) = R at *
  clear hR
  try (refine wg ?_; try refine sM fun K hK => ?_)
  refine zA ⟨_, evl, fun _ => ?_, fun hb => absurd (yOc hb) (by omega)⟩
  try (refine wg ?_; try refine sM fun K hK => ?_)
  refine zF (fun j : Nat => ⟨65, 0, [(6, true, lA 1 sC2 S), (8, true, .row 0 R.length), (9, true, .raw (.int .i64 k)), (10, true, .raw (.bool ((S.take j).all fun s => decide ((S.getD 0 default).getD k default ∈ s)))), (11, true, .raw (.int .i64 j))], [m.av], [yJj R], ((0, []), [], true)⟩)
   (fun j => j ≤ S.length) (fun j => S.length - j) 0 ?_ (by omega) ?_
  ·simp only [yMi, List.all_nil]
   exact wkZ
  intro j hj
  rcases yKt j S.length with hjl | hjg
  ·have hh := zUt (S.getD j default) (by have := hsh.2 _ (w9 hjl); omega) ((S.getD 0 default).getD k default)
   have ha := hall0 j
   rw [if_pos hjl] at ha
   have hfj : (lA 2 zB.av (S.getD j default)).free := zC (fun z => zB.free z) _
   clear hst hall0
   generalize decide ((S.getD 0 default).getD k default ∈ S.getD j default) = z at *
   try (refine wg ?_; try refine sM fun K hK => ?_)
   refine zA ⟨_, evl, fun _ => ?_, fun hb => absurd (yOc hb) (by omega)⟩
   try (refine wkg hh ?_; try refine sM fun K hK => ?_)
   refine ⟨j + 1, by omega, by omega, ?_⟩
   rw [ha]
   exact wkZ
  ·obtain rfl : j = S.length := by omega
   rw [yNt]
   have hst := hst (k + 1) rfl
   clear hall0
   generalize hq : (S.all fun s => decide ((S.getD 0 default).getD k default ∈ s)) = q at *
   clear hq
   try (refine wg ?_; try refine sM fun K hK => ?_)
   refine zA ⟨_, evl, fun hb => absurd (yNw hb) (by omega), fun _ => ?_⟩
   try (refine wg ?_; try refine sM fun K hK => ?_)
   refine zA ⟨_, evl, fun hb => ?_, fun hb => ?_⟩
   ·subst hb
    rw [if_pos rfl] at hst
    try (refine wkR trivial ?_; try refine sM fun K hK => ?_)
    refine ⟨k + 1, by omega, by omega, ?_⟩
    rw [hst, yL5]
    refine wkn ?_ ?_ ?_
    all_goals first | exact wk0 | refine wkS ?_ | skip
    all_goals (try trivial)
    all_goals ((repeat' apply And.intro) <;> first | exact wkL | skip)
    exact fun q hq => z8.of_eq (kA rfl (by simpa using hq) rfl)
   ·subst hb
    rw [if_neg (by simp), yMj] at hst
    try (refine wg ?_; try refine sM fun K hK => ?_)
    refine ⟨k + 1, by omega, by omega, ?_⟩
    rw [hst]
    exact wkZ
 ·obtain rfl : k = (S.getD 0 default).length := by omega
  rw [yNt]
  generalize (S.getD 0 default).filter (fun p => S.all fun s => decide (p ∈ s)) = R at *
  try (refine wg ?_; try refine sM fun K hK => ?_)
  refine zA ⟨_, evl, fun hb => absurd (yNw hb) (by omega), fun _ => ?_⟩
  try (refine wg ?_; try refine sM fun K hK => ?_)
  refine zM (by simp) ⟨_, _, _, evl, ob0, zV.sims ?_ ?_⟩
  ·exact z5.tup ⟨z5.row rfl rfl rfl rfl fun i hi => rfl, z5.refl _, trivial⟩
  ·exact ⟨zC (fun z => zB.free z) _, trivial, trivial⟩
end Go.Proofs.YtchpbdecipcelaaGreatDoor
