import Derived.Test.YtchpbdecipcelaaGreatDoorMR01
import Derived.Test.YtchpbdecipcelaaGreatDoorMR31
namespace Go.Proofs.YtchpbdecipcelaaGreatDoor
set_option linter.unusedVariables false
set_option linter.unusedSimpArgs false
set_option maxHeartbeats 4000000
set_option maxRecDepth 100000
open Go.RowKit
def xC (n : Nat) : List zH := (List.range n).flatMap fun t : Nat => zQ 0 ((t : Int) + 1) ⟨0, 3000000000000000⟩ []
def ev0 : yN := ⟨0, 0, 0, []⟩
def xZ (m : zL) (es : List yN) (p : List zH × yN) : List zH × yN := es.foldl (fun p e => (p.1 ++ roundL m e p.2, e)) p
theorem vP (m : zL) (es : List yN) (e : yN) (p : List zH × yN) : xZ m (es ++ [e]) p = ((xZ m es p).1 ++ roundL m e (xZ m es p).2, e) := by simp [xZ]
def yKd (m : zL) : List zH := (xZ m (evL m) (xC (evN m - 1).toNat, ev0)).1
def zT (m : zL) : List zH × Int × Int :=
 if ¬ vW m then ([], 0, 1) else if 1000 < evN m then ([], 0, 2) else if wE m (evL m) ≠ 0 then ([], 0, wE m (evL m)) else (yKd m, evN m, 0)
theorem zAu (n : Nat) : (xC n).length = 2 * n := by
 induction n with
 | zero => rfl
 | succ n ih =>
  rw [xC, yNf, yNg, yL5]
  rw [xC] at ih
  rw [ih]
  simp [zQ]
  omega
theorem vO {m : zL} (h : vW m) (ho : OkM m) : zPy m.evidence.chains := by
 obtain ⟨_, _, _, _, h8, _, hc⟩ := h
 refine ⟨h8, fun c hcm => ?_⟩
 obtain ⟨i, hi, rfl⟩ := yNb.1 hcm
 have h1 := (hc i hi).2.1.2.1
 rw [zU hi] at h1
 exact ⟨h1, fun r hr => ((ho.ch _ hcm).2.2 r hr).1⟩
theorem yBe {m : zL} (ho : OkM m) {e : yN} (he : e ∈ evL m) : ∀ x ∈ e.replies, x.fits := by
 obtain ⟨i, k, h1, h2, rfl⟩ := zDm (yKq _) he
 exact ((ho.ch _ (w9 h1)).2.2 _ (w9 h2)).2
theorem zGi (k : Nat) : xC (k + 1) = xC k ++ zQ 0 ((k : Int) + 1) ⟨0, 3000000000000000⟩ [] := by
 rw [xC, yNf, yNg]
 simp [xC]
theorem zT4 (m : zL) (e b : yN) : (roundL m e b).length ≤ 2 + b.replies.length + 9 * e.replies.length := by
 unfold roundL
 rw [yL5]
 have := zIc m e e.replies.length
 split
 ·rw [yL5, yMg, yO6]
  have : (zRd m e b).length = 2 := rfl
  omega
 ·simp only [yMc]; omega
theorem zHr (m : zL) (p : List zH × yN) (es : List yN) : (xZ m es p).2 = p.2 ∨ (xZ m es p).2 ∈ es := by
 induction es using Vd.rev_rec with
 | h0 => exact .inl rfl
 | h1 es e _ => rw [vP]; exact .inr (by simp)
theorem zG2 (m : zL) (p : List zH × yN) (hp : p.2.replies.length ≤ 1000) (es : List yN) (h : ∀ e ∈ es, e.replies.length ≤ 1000) : (xZ m es p).1.length ≤ p.1.length + 20000 * es.length := by
 induction es using Vd.rev_rec with
 | h0 => simp [xZ]
 | h1 es e ih =>
  have h1 := ih fun e he => h e (by simp [he])
  have h2 := zT4 m e (xZ m es p).2
  have h3 := h e (by simp)
  have h4 : (xZ m es p).2.replies.length ≤ 1000 := by
   rcases zHr m p es with e | e
   ·rw [e]; exact hp
   ·exact h _ (by simp [e])
  rw [vP]
  simp only [yL5, yL2, yMc]
  omega
theorem zDi (st : ASt) (a b : Int) : zV st (.tup [.raw (.slice none 0 0), .raw (.int .i64 a), .raw (.int .i64 b)]) (.tup [lA 4 zH.av [], .raw (.int .i64 a), .raw (.int .i64 b)]) :=
 zV.sims (z5.tup (show z8 _ _ [_, _, _] [_, _, _] from ⟨(Sim.nil rfl).s, z5.refl _, z5.refl _, trivial⟩)) ⟨zC (fun y => zH.free y) _, trivial, trivial, trivial⟩
theorem zDq (m : zL) (h : OkM m) : FnA Tryz.prog 12 [.agg m.av] (.tup [lA 4 zH.av (zT m).1, .raw (.int .i64 (zT m).2.1), .raw (.int .i64 (zT m).2.2)]) := by
 have hform := zRg m h
 obtain ⟨f1, f2, f3, f4, f5⟩ := zDl m
 have hev := zY6 m
 have hmf := zL.free m
 by_cases hf : vW m
 ·rw [yO3 hf] at hform
  have hS := zY5 m (vO hf h)
  have hrp : ∀ e ∈ evL m, ∀ x ∈ e.replies, x.fits := fun e he => yBe h he
  have hnn := yK5 m
  unfold zT
  rw [if_neg (not_not_intro hf)]
  refine en Tryz.func12 Tryz.ntmps12 [.tmp 2, .tmp 3, .tmp 4] rfl ?_
  try (refine wkg hform ?_; try refine sM fun K hK => ?_)
  refine zA ⟨_, evl, fun hb => absurd hb (by decide), fun _ => ?_⟩
  try (refine wkg hev ?_; try refine sM fun K hK => ?_)
  have hes : AV.sub 5 1 (zG5 m) := ⟨trivial, AV.subL_free _ hmf, trivial⟩
  refine yP (xE.nilRowV 1 6 36 4 rfl rfl) ?_
  refine yP (st' := ⟨72, 0, [(1, true, .box 0 0), (5, true, .box 2 0), (6, true, .box 3 0), (7, true, .box 4 0), (21, true, zG5 m)], [m.av, yF m 0, [.box 1 0], [.raw (.int .i64 (nE []))], [.raw (.int .i64 (wE m []))]], [vL []], ((0, []), [], true)⟩) ?_ ?_
  ·exact wkZ
  refine v8 (fun h j bx rw ys => j = none ∧ rw = [vL []] ∧ ys = ((0, []), [], true) ∧ ∃ pre, pre <+: evL m ∧ h = pre.map itE ∧ bx = [m.av, yF m 0, [.box 1 0], [.raw (.int .i64 (nE pre))], [.raw (.int .i64 (wE m pre))]])
   rfl rfl ⟨hmf, trivial⟩ hS ⟨by simp, by simp⟩ (by simp) ⟨rfl, rfl, rfl, [], by simp, rfl, rfl⟩ ?_ ?_ ?_
  ·rintro hh item bx rw' ys ⟨_, rfl, rfl, pre, hp, he, rfl⟩ hpr _
   obtain ⟨e, rfl, hpe⟩ := zVf hp he hpr
   have hem : e ∈ evL m := hpe.subset (by simp)
   refine ⟨rfl, ?_⟩
   simp only [zBv, itE, yL3, yLc]
   have hat := zY7 hem
   have hfx := hrp e hem
   have hn2 := zU3 pre e
   have hw2 := zSd m pre e
   have hfe : (lA 10 zN.av e.replies).free := zC (fun y => zN.free y) _
   have hev0 : evN m ≤ 2000000000 := by have := (zHv (vO hf h) _ (yKq _)).2; have := (vO hf h).n; unfold evN; omega
   generalize wE m pre = w0 at *
   generalize nE pre = n0 at *
   try (refine wg ?_; try refine sM fun K hK => ?_)
   refine ⟨rfl, ?_⟩
   try (refine wg ?_; try refine sM fun K hK => ?_)
   refine zF (fun k : Nat => ⟨72, 69, [(5, true, .box 2 0), (7, true, .box 4 0), (32, true, lA 10 zN.av e.replies), (33, true, .raw (.int .i64 e.replies.length)), (34, true, .raw (.int .i64 k))], [m.av, yF m 0, [.box 1 0], [.raw (.int .i64 (e.at_ + 1 + 2 * (e.replies.length : Int)))], [.raw (.int .i64 (wF m w0 (e.replies.take k)))]], [vL []], ((0, []), [], true)⟩)
    (fun k => k ≤ e.replies.length) (fun k => e.replies.length - k) 0 ?_ (by omega) ?_
   ·rw [yMi, show wF m w0 [] = w0 from rfl]
    exact wkZ
   ·intro k hk
    rcases yKt k e.replies.length with hlt | hge
    ·have hck := yBo m h [] (e.replies.getD k default) (hfx _ (w9 hlt))
     have hor := yJo (wF m w0 (e.replies.take k)) (v7 m (e.replies.getD k default))
     have hst := zM0 m w0 e.replies hlt
     rw [orC] at hst
     generalize wF m w0 (e.replies.take k) = wk at *
     generalize v7 m (e.replies.getD k default) = ck at *
     try (refine wg ?_; try refine sM fun K hK => ?_)
     refine zA ⟨_, evl, fun _ => ?_, fun hb => absurd (yOc hb) (by omega)⟩
     repeat (refine stG ?_)
     refine zE (fun K hK => ?_)
     iterate 4 (refine stG ?_)
     refine z0 5 obf ⟨_, evl, _, evl, ?_⟩
     refine zG (hK _ ?_); clear hK K
     repeat (refine stG ?_)
     refine kJ true (by kernel_rfl) (by kernel_rfl) (fun K hK => ?_)
     refine zJ ?_
     repeat
      first
       | (refine zG (hK _ ?_); clear hK K)
       | refine stG ?_
       | (refine zW 1 rfl ?_; refine zJ ?_)
       | (refine yB ?_; first | (refine zP (hK _ ?_); clear hK K) | (refine zX rfl ⟨_, evl, fun nb' => ?_⟩))
       | refine zE (fun K hK => ?_)
       | (refine yZ ?_; first | (refine zD false rfl (by kernel_rfl) (by kernel_rfl) (fun K hK => ?_)) | (refine zD true rfl (by kernel_rfl) (by kernel_rfl) (fun K hK => ?_)))
     refine zFf ⟨_, evl, _, evl, by decide +kernel, ?_⟩
     refine zFa (rem := [0, 3, 4, 5, 6]) (m := 4) (cs := [0, 3]) rfl (by decide +kernel) ?_
     refine yMn.2 ⟨fun o ho => ?_, yMn.2 ⟨fun o ho => ?_, fun _ h => by cases h⟩⟩
     ·cases yOi ho
      refine zI9 rfl evl (fun nb' => ?_)
      refine stG ?_
      refine zG ⟨(true, .raw (.int .i64 wk)), _, _, rfl, zFx _ _, fun _ => ⟨rfl, [], (yMj _).symm⟩, ?_⟩
      refine xN (rem := [3, 4, 5, 6]) (by decide +kernel) ?_
      rw [xO]
      dsimp only [dl, List.cons_append, List.nil_append]
      repeat
       first
        | (refine zG (hK _ ?_); clear hK K)
        | refine stG ?_
        | (refine zW 1 rfl ?_; refine zJ ?_)
        | (refine yB ?_; first | (refine zP (hK _ ?_); clear hK K) | (refine zX rfl ⟨_, evl, fun nb' => ?_⟩))
        | refine zE (fun K hK => ?_)
        | (refine yZ ?_; first | (refine zD false rfl (by kernel_rfl) (by kernel_rfl) (fun K hK => ?_)) | (refine zD true rfl (by kernel_rfl) (by kernel_rfl) (fun K hK => ?_)))
      refine jY 1 (bx1 := [m.av, yF m 0, [.box 1 0], [.raw (.int .i64 (e.at_ + 1 + 2 * (e.replies.length : Int)))], [.raw (.int .i64 wk)]]) hck rfl rfl rfl ⟨yOh, AV.subL_free _ (zN.free _), trivial⟩ ⟨_, rfl, _, evl, obl, rfl, rfl, rfl, ?_⟩
      refine zAm rfl (zFx _ _) (fun h => by cases h) ?_
      repeat
       first
        | (refine zG (hK _ ?_); clear hK K)
        | refine stG ?_
        | (refine yJ 1 rfl ?_; refine zR rfl rfl ⟨_, evl, _, _, _, evl, yR, ?_⟩; apply Exists.intro; refine ⟨fun hg => ?_, ?_⟩; · first | exact FnA.sim hor ⟨Sim.lstE rfl fun i hi => yA (enc := iC) (l := [wk, ck]) (fun _ => rfl) rfl hi, trivial⟩ )
        | (refine zW 1 rfl ?_; refine zS rfl ⟨_, evl, _, _, _, (fun _ _ => vH), yR, ?_⟩; apply Exists.intro; refine ⟨fun hg => ?_, ?_⟩; · first | exact FnA.sim hor ⟨Sim.lstE rfl fun i hi => yA (enc := iC) (l := [wk, ck]) (fun _ => rfl) rfl hi, trivial⟩ )
        | (refine zW 1 rfl ?_; refine zJ ?_)
        | (refine yB ?_; first | (refine zP (hK _ ?_); clear hK K) | (refine zX rfl ⟨_, evl, fun nb' => ?_⟩))
        | refine zE (fun K hK => ?_)
        | (refine yZ ?_; first | (refine zD false rfl (by kernel_rfl) (by kernel_rfl) (fun K hK => ?_)) | (refine zD true rfl (by kernel_rfl) (by kernel_rfl) (fun K hK => ?_)))
      refine ⟨k + 1, by omega, by omega, ?_⟩
      rw [hst]
      exact wkZ
     ·cases yOi ho
      refine zI9 rfl evl (fun nb' => ?_)
      refine jY 1 (bx1 := [m.av, yF m 0, [.box 1 0], [.raw (.int .i64 (e.at_ + 1 + 2 * (e.replies.length : Int)))], [.raw (.int .i64 wk)]]) hck rfl rfl rfl ⟨yOh, AV.subL_free _ (zN.free _), trivial⟩ ⟨_, rfl, _, evl, obl, rfl, rfl, rfl, ?_⟩
      refine zG ⟨(true, .raw (.int .i64 ck)), _, _, rfl, zFx _ _, (fun h => by cases h), ?_⟩
      refine xN (rem := [0, 4, 5, 6]) (by decide +kernel) ?_
      rw [xO]
      dsimp only [dl, List.cons_append, List.nil_append]
      repeat
       first
        | (refine zG (hK _ ?_); clear hK K)
        | refine stG ?_
        | (refine yJ 1 rfl ?_; refine zR rfl rfl ⟨_, evl, _, _, _, evl, yR, ?_⟩; apply Exists.intro; refine ⟨fun hg => ?_, ?_⟩; · first | exact FnA.sim hor ⟨Sim.lstE rfl fun i hi => yA (enc := iC) (l := [wk, ck]) (fun _ => rfl) rfl hi, trivial⟩ )
        | (refine zW 1 rfl ?_; refine zS rfl ⟨_, evl, _, _, _, (fun _ _ => vH), yR, ?_⟩; apply Exists.intro; refine ⟨fun hg => ?_, ?_⟩; · first | exact FnA.sim hor ⟨Sim.lstE rfl fun i hi => yA (enc := iC) (l := [wk, ck]) (fun _ => rfl) rfl hi, trivial⟩ )
        | (refine zW 1 rfl ?_; refine zJ ?_)
        | (refine yB ?_; first | (refine zP (hK _ ?_); clear hK K) | (refine zX rfl ⟨_, evl, fun nb' => ?_⟩))
        | refine zE (fun K hK => ?_)
        | (refine yZ ?_; first | (refine zD false rfl (by kernel_rfl) (by kernel_rfl) (fun K hK => ?_)) | (refine zD true rfl (by kernel_rfl) (by kernel_rfl) (fun K hK => ?_)))
      refine ⟨k + 1, by omega, by omega, ?_⟩
      rw [hst]
      exact wkZ
    ·obtain rfl : k = e.replies.length := by omega
     rw [yNt]
     try (refine wg ?_; try refine sM fun K hK => ?_)
     refine zA ⟨_, evl, fun hb => absurd (yNw hb) (by omega), fun _ => ?_⟩
     try (refine wg ?_; try refine sM fun K hK => ?_)
     refine ⟨72, 69, [], [m.av, yF m 0, [.box 1 0], [.raw (.int .i64 (nE (pre ++ [e])))], [.raw (.int .i64 (wE m (pre ++ [e])))]], [vL []], _, ?_, rfl, rfl, rfl, rfl, pre ++ [e], hpe, by rw [he, yNk]; rfl, rfl⟩
     rw [hn2, hw2]
     exact wkZ
  ·rintro bx rw' ys ⟨_, rfl, rfl, pre, hp, he, rfl⟩
   obtain rfl := zZd hp he
   rw [hnn]
   clear hp he
   try (refine wg ?_; try refine sM fun K hK => ?_)
   refine zA ⟨_, evl, fun hb => ?_, fun hb => ?_⟩
   ·simp only [yLr] at hb
    rw [if_pos hb]
    try (refine wg ?_; try refine sM fun K hK => ?_)
    refine zM (by simp) ⟨_, _, _, evl, ob0, zDi _ _ _⟩
   ·simp only [yMz] at hb
    rw [if_neg hb]
    try (refine wg ?_; try refine sM fun K hK => ?_)
    refine zA ⟨_, evl, fun hb2 => ?_, fun hb2 => ?_⟩
    ·have hb3 : wE m (evL m) ≠ 0 := by simpa using hb2
     rw [if_pos hb3]
     try (refine wg ?_; try refine sM fun K hK => ?_)
     refine zM (by simp) ⟨_, _, _, evl, ob0, zDi _ _ _⟩
    ·have hb3 : ¬ wE m (evL m) ≠ 0 := by simpa using hb2
     rw [if_neg hb3]
     clear hb2 hb3
     have hN1 : 1 ≤ evN m := (zHv (vO hf h) _ (yKq _)).1
     obtain ⟨n0, hn0⟩ : ∃ n0, n0 = (evN m - 1).toNat := ⟨_, rfl⟩
     have hal : yKd m = (xZ m (evL m) (xC n0, ev0)).1 := by rw [hn0]; rfl
     have hok := fun e he => zEu hf (show evN m ≤ 1000 by omega) (e := e) he
     have hcnt := zJ0 m.evidence.chains m.evidence.chains.length
     have hcnt2 : (evL m).length ≤ 1000 := by
      have : ((evL m).length : Int) + 1 ≤ evN m := hcnt
      omega
     clear hcnt hnn
     generalize wE m (evL m) = w at *
     generalize evN m = N at *
     try (refine wg ?_; try refine sM fun K hK => ?_)
     refine zF (fun k : Nat => ⟨72, 0, [(1, true, .box 0 0), (5, true, .box 2 0), (6, true, .box 3 0), (11, true, .raw (.int .i64 ((k : Int) + 1)))], [m.av, yF m (xC k).length, [.box 1 0], [.raw (.int .i64 N)], [.raw (.int .i64 w)]], [vL (xC k)], ((0, []), [], true)⟩)
      (fun k => k ≤ n0) (fun k => n0 - k) 0 ?_ (by omega) ?_
     ·exact wkZ
     ·intro k hk
      rcases yKt k n0 with hlt | hge
      ·have hbl := zAu k
       have hbt := zRt m (xC k) (by omega) 0 ((k : Int) + 1) ⟨0, 3000000000000000⟩ (by decide)
       rw [← zGi] at hbt
       have hsb := zGi k
       generalize hB2 : xC (k + 1) = B2 at *
       generalize xC k = B1 at *
       try (refine wg ?_; try refine sM fun K hK => ?_)
       refine zA ⟨_, evl, fun _ => ?_, fun hb => absurd (yOc hb) (by omega)⟩
       try (first | refine wkM hK trivial ?_ | refine wkg trivial ?_)
       try clear hK K
       try refine sM fun K hK => ?_
       refine jY 1 (bx1 := [m.av, yF m _, [.box 1 0], [.raw (.int .i64 N)], [.raw (.int .i64 w)]]) hbt rfl rfl rfl ⟨yOh, trivial, trivial, ⟨trivial, trivial, trivial⟩, trivial, trivial⟩ ⟨_, rfl, _, evl, obl, rfl, rfl, rfl, ?_⟩

       try (first | refine wkM hK trivial ?_ | refine wkg trivial ?_)
       try clear hK K
       try refine sM fun K hK => ?_
       refine ⟨k + 1, by omega, by omega, ?_⟩
       rw [hB2]
       exact wkZ
      ·obtain rfl : k = n0 := by omega
       have hbl := zAu k
       have hfl := fun pre hpr => zG2 m (xC k, ev0) (by simp [ev0]) pre hpr
       have hfla := zHr m (xC k, ev0)
       have hsn := fun pre e => vP m pre e (xC k, ev0)
       have hst : xZ m [] (xC k, ev0) = (xC k, ev0) := rfl
       rw [hal]
       simp only at hfl hfla
       try (refine wg ?_; try refine sM fun K hK => ?_)
       refine zA ⟨_, evl, fun hb => absurd (yNw hb) (by omega), fun _ => ?_⟩
       try (refine wkg hev ?_; try refine sM fun K hK => ?_)
       have hes : AV.sub 6 1 (zG5 m) := ⟨trivial, AV.subL_free _ hmf, trivial⟩
       refine yP (st' := ⟨72, 0, [(1, true, .box 0 0), (5, true, .box 2 0), (6, true, .box 3 0), (12, true, .box 5 0), (60, true, zG5 m)], [m.av, yF m (xC k).length, [.box 1 0], [.raw (.int .i64 N)], [.raw (.int .i64 w)], ev0.av], [vL (xC k)], ((0, []), [], true)⟩) ?_ ?_
       ·refine wkn ?_ ?_ ?_
        all_goals first | exact wk0 | refine wkS ?_ | skip
        all_goals (try trivial)
        all_goals ((repeat' apply And.intro) <;> first | exact wkL | skip)
        all_goals skip
       refine v8 (fun h j bx rw ys => j = none ∧ ys = ((0, []), [], true) ∧ ∃ pre, pre <+: evL m ∧ h = pre.map itE ∧ rw = [vL (xZ m pre (xC k, ev0)).1] ∧ bx = [m.av, yF m (xZ m pre (xC k, ev0)).1.length, [.box 1 0], [.raw (.int .i64 N)], [.raw (.int .i64 w)], (xZ m pre (xC k, ev0)).2.av])
        rfl rfl ⟨hmf, trivial⟩ hS ⟨by simp, by simp⟩ (by simp) ⟨rfl, rfl, [], by simp, rfl, rfl, rfl⟩ ?_ ?_ ?_
       ·rintro hh item bx rw' ys ⟨_, rfl, pre, hp, he, rfl, rfl⟩ hpr _
        obtain ⟨e, rfl, hpe⟩ := zVf hp he hpr
        have hem : e ∈ evL m := hpe.subset (by simp)
        have hpm : ∀ x ∈ pre, x ∈ evL m := fun x hx => hp.subset hx
        refine ⟨rfl, ?_⟩
        simp only [zBv, itE, yL3, yLc]
        have hl1 := hfl pre fun x hx => (hok x (hpm x hx)).l
        have hl2 : ((0 : Int) ≤ (xZ m pre (xC k, ev0)).2.at_ ∧ (xZ m pre (xC k, ev0)).2.at_ ≤ 2000) ∧ (xZ m pre (xC k, ev0)).2.replies.length ≤ 1000 := by
         rcases hfla pre with e | e
         ·rw [e]; exact ⟨⟨by decide, by decide⟩, by simp [ev0]⟩
         ·exact ⟨(hok _ (hpm _ e)).a, (hok _ (hpm _ e)).l⟩
        have hpl := hp.length_le
        have hrg := yA2 m h hf.2.1 (xZ m pre (xC k, ev0)).1 (by omega) e (xZ m pre (xC k, ev0)).2 (hok e hem) hl2
        have hs2 := hsn pre e
        have hfe := yN.free e
        have hfb := yN.free (xZ m pre (xC k, ev0)).2
        clear hfl hfla hsn
        generalize (xZ m pre (xC k, ev0)).1 = L at *
        generalize (xZ m pre (xC k, ev0)).2 = B at *
        try (refine wg ?_; try refine sM fun K hK => ?_)
        refine ⟨rfl, ?_⟩
        try (first | refine wkM hK trivial ?_ | refine wkg trivial ?_)
        try clear hK K
        try refine sM fun K hK => ?_
        refine jY 1 (bx1 := [m.av, yF m _, [.box 1 0], [.raw (.int .i64 N)], [.raw (.int .i64 w)], B.av, e.av]) hrg rfl rfl rfl ⟨yOh, AV.subL_free _ hfe, AV.subL_free _ hfb, trivial⟩ ⟨_, rfl, _, evl, obl, rfl, rfl, rfl, ?_⟩

        try (first | refine wkM hK trivial ?_ | refine wkg trivial ?_)
        try clear hK K
        try refine sM fun K hK => ?_
        refine ⟨72, 70, [], [m.av, yF m (xZ m (pre ++ [e]) (xC k, ev0)).1.length, [.box 1 0], [.raw (.int .i64 N)], [.raw (.int .i64 w)], (xZ m (pre ++ [e]) (xC k, ev0)).2.av], [vL (xZ m (pre ++ [e]) (xC k, ev0)).1], _, ?_, rfl, rfl, rfl, pre ++ [e], hpe, by rw [he, yNk]; rfl, rfl, rfl⟩
        rw [hs2]
        clear hs2
        generalize L ++ roundL m e B = L2 at *
        exact wkZ
       ·rintro bx rw' ys ⟨_, rfl, pre, hp, he, rfl, rfl⟩
        obtain rfl := zZd hp he
        clear hfl hfla hsn hp he hst
        have hfr := zC (sz := 4) (fun y => zH.free y) (xZ m (evL m) (xC k, ev0)).1
        have hfb := yN.free (xZ m (evL m) (xC k, ev0)).2
        generalize (xZ m (evL m) (xC k, ev0)).1 = L at *
        generalize (xZ m (evL m) (xC k, ev0)).2 = B at *
        try (refine wg ?_; try refine sM fun K hK => ?_)
        refine zM (by simp) ⟨_, _, _, evl, ob0, zV.sims ?_ ?_⟩
        ·exact z5.tup (show z8 _ _ [_, _, _] [_, _, _] from ⟨z5.row rfl rfl rfl rfl (fun _ _ => rfl), z5.refl _, z5.refl _, trivial⟩)
        ·exact ⟨hfr, trivial, trivial, trivial⟩
       ·rintro hh j bx rw' ys _ ⟨hj, _⟩
        cases hj
  ·rintro hh j bx rw' ys _ ⟨hj, _⟩
   cases hj
 ·rw [yO4 hf] at hform
  unfold zT
  rw [if_pos hf]
  refine en Tryz.func12 Tryz.ntmps12 [.tmp 2, .tmp 3, .tmp 4] rfl ?_
  try (refine wkg hform ?_; try refine sM fun K hK => ?_)
  refine zA ⟨_, evl, fun _ => ?_, fun hb => absurd hb (by decide)⟩
  try (refine wg ?_; try refine sM fun K hK => ?_)
  refine zM (by simp) ⟨_, _, _, evl, ob0, zDi _ _ _⟩
end Go.Proofs.YtchpbdecipcelaaGreatDoor
