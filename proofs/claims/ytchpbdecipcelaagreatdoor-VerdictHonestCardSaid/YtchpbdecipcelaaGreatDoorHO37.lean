import Derived.Test.YtchpbdecipcelaaGreatDoorHO01
import Derived.Test.YtchpbdecipcelaaGreatDoorHO35
import Derived.Test.YtchpbdecipcelaaGreatDoorHO36
namespace Go.Proofs.YtchpbdecipcelaaGreatDoor
set_option linter.unusedVariables false
set_option linter.unusedSimpArgs false
set_option maxHeartbeats 4000000
set_option maxRecDepth 100000
open Go.RowKit
def xH (n : Nat) : List zO := (List.range n).flatMap fun t : Nat => zZ 0 ((t : Int) + 1) ⟨0, 3000000000000000⟩ []
def ev0 : y7 := ⟨0, 0, 0, []⟩
def xU (m : zQ) (es : List y7) (p : List zO × y7) : List zO × y7 := es.foldl (fun p e => (p.1 ++ kP m e p.2, e)) p
theorem kV (m : zQ) (es : List y7) (e : y7) (p : List zO × y7) : xU m (es ++ [e]) p = ((xU m es p).1 ++ kP m e (xU m es p).2, e) := by simp [xU]
def yC3 (m : zQ) : List zO := (xU m (evL m) (xH (evN m - 1).toNat, ev0)).1
def z4 (m : zQ) : List zO × Int × Int :=
 if ¬ zBf m then ([], 0, 1) else if 1000 < evN m then ([], 0, 2) else if wE m (evL m) ≠ 0 then ([], 0, wE m (evL m)) else (yC3 m, evN m, 0)
theorem zIe (n : Nat) : (xH n).length = 2 * n := by
 induction n with
 | zero => rfl
 | succ n ih =>
  rw [xH, yLc, yLd, yJ2]
  rw [xH] at ih
  rw [ih]
  simp [zZ]
  omega
theorem zAg {m : zQ} (h : zBf m) (ho : OkM m) : zUp m.evidence.chains := by
 obtain ⟨_, _, _, _, h8, _, hc⟩ := h
 refine ⟨h8, fun c hcm => ?_⟩
 obtain ⟨i, hi, rfl⟩ := yL8.1 hcm
 have h1 := (hc i hi).2.1.2.1
 rw [z5 hi] at h1
 exact ⟨h1, fun r hr => ((ho.ch _ hcm).2.2 r hr).1⟩
theorem zZc {m : zQ} (ho : OkM m) {e : y7} (he : e ∈ evL m) : ∀ x ∈ e.replies, x.fits := by
 obtain ⟨i, k, h1, h2, rfl⟩ := zFk (yIn _) he
 exact ((ho.ch _ (zAn h1)).2.2 _ (zAn h2)).2
theorem zKx (k : Nat) : xH (k + 1) = xH k ++ zZ 0 ((k : Int) + 1) ⟨0, 3000000000000000⟩ [] := by
 rw [xH, yLc, yLd]
 simp [xH]
theorem zRp (m : zQ) (e b : y7) : (kP m e b).length ≤ 2 + b.replies.length + 9 * e.replies.length := by
 unfold kP
 rw [yJ2]
 have := zN8 m e e.replies.length
 split
 ·rw [yJ2, yKc, yM4]
  have : (zXb m e b).length = 2 := rfl
  omega
 ·simp only [yK8]; omega
theorem zH4 (m : zQ) (p : List zO × y7) (es : List y7) : (xU m es p).2 = p.2 ∨ (xU m es p).2 ∈ es := by
 induction es using Vd.rev_rec with
 | h0 => exact .inl rfl
 | h1 es e _ => rw [kV]; exact .inr (by simp)
theorem zK8 (m : zQ) (p : List zO × y7) (hp : p.2.replies.length ≤ 1000) (es : List y7) (h : ∀ e ∈ es, e.replies.length ≤ 1000) : (xU m es p).1.length ≤ p.1.length + 20000 * es.length := by
 induction es using Vd.rev_rec with
 | h0 => simp [xU]
 | h1 es e ih =>
  have h1 := ih fun e he => h e (by simp [he])
  have h2 := zRp m e (xU m es p).2
  have h3 := h e (by simp)
  have h4 : (xU m es p).2.replies.length ≤ 1000 := by
   rcases zH4 m p es with e | e
   ·rw [e]; exact hp
   ·exact h _ (by simp [e])
  rw [kV]
  simp only [yJ2, yIz, yK8]
  omega
theorem zLu (st : ASt) (a b : Int) : zV st (.tup [.raw (.slice none 0 0), .raw (.int .i64 a), .raw (.int .i64 b)]) (.tup [lA 4 zO.av [], .raw (.int .i64 a), .raw (.int .i64 b)]) :=
 zV.sims (z6.tup (show z8 _ _ [_, _, _] [_, _, _] from ⟨(Sim.nil rfl).s, z6.refl _, z6.refl _, trivial⟩)) ⟨zE (fun y => zO.free y) _, trivial, trivial, trivial⟩
theorem zHc (m : zQ) (h : OkM m) : FnA Tryz.prog 12 [.agg m.av] (.tup [lA 4 zO.av (z4 m).1, .raw (.int .i64 (z4 m).2.1), .raw (.int .i64 (z4 m).2.2)]) := by
 have hform := zQ7 m h
 obtain ⟨f1, f2, f3, f4, f5⟩ := zG6 m
 have hev := zWc m
 have hmf := zQ.free m
 by_cases hf : zBf m
 ·rw [yM1 hf] at hform
  have hS := zWb m (zAg hf h)
  have hrp : ∀ e ∈ evL m, ∀ x ∈ e.replies, x.fits := fun e he => zZc h he
  have hnn := yI5 m
  unfold z4
  rw [if_neg (not_not_intro hf)]
  refine en Tryz.func12 Tryz.ntmps12 [.tmp 2, .tmp 3, .tmp 4] rfl ?_
  try (refine wkg hform ?_; try refine sM fun K hK => ?_)
  refine zA ⟨_, evl, fun hb => absurd hb (by decide), fun _ => ?_⟩
  try (refine wkg hev ?_; try refine sM fun K hK => ?_)
  have hes : AV.sub 5 1 (zFj m) := ⟨trivial, AV.subL_free _ hmf, trivial⟩
  refine yI (xJ.nilRowV 1 6 36 4 rfl rfl) ?_
  refine yI (st' := ⟨72, 0, [(1, true, .box 0 0), (5, true, .box 2 0), (6, true, .box 3 0), (7, true, .box 4 0), (21, true, zFj m)], [m.av, yD m 0, [.box 1 0], [.raw (.int .i64 (nE []))], [.raw (.int .i64 (wE m []))]], [qL []], ((0, []), [], true)⟩) ?_ ?_
  ·exact wkZ
  refine vP (fun h j bx rw ys => j = none ∧ rw = [qL []] ∧ ys = ((0, []), [], true) ∧ ∃ pre, pre <+: evL m ∧ h = pre.map itE ∧ bx = [m.av, yD m 0, [.box 1 0], [.raw (.int .i64 (nE pre))], [.raw (.int .i64 (wE m pre))]])
   rfl rfl ⟨hmf, trivial⟩ hS ⟨by simp, by simp⟩ (by simp) ⟨rfl, rfl, rfl, [], by simp, rfl, rfl⟩ ?_ ?_ ?_
  ·rintro hh item bx rw' ys ⟨_, rfl, rfl, pre, hp, he, rfl⟩ hpr _
   obtain ⟨e, rfl, hpe⟩ := zTq hp he hpr
   have hem : e ∈ evL m := hpe.subset (by simp)
   refine ⟨rfl, ?_⟩
   simp only [zBp, itE, yJ0, yJ9]
   have hat := zZd hem
   have hfx := hrp e hem
   have hn2 := zSm pre e
   have hw2 := zR0 m pre e
   have hfe : (lA 10 zM.av e.replies).free := zE (fun y => zM.free y) _
   have hev0 : evN m ≤ 2000000000 := by have := (zOe (zAg hf h) _ (yIn _)).2; have := (zAg hf h).n; unfold evN; omega
   generalize wE m pre = w0 at *
   generalize nE pre = n0 at *
   try (refine wg ?_; try refine sM fun K hK => ?_)
   refine ⟨rfl, ?_⟩
   try (refine wg ?_; try refine sM fun K hK => ?_)
   refine zJ (fun k : Nat => ⟨72, 69, [(5, true, .box 2 0), (7, true, .box 4 0), (32, true, lA 10 zM.av e.replies), (33, true, .raw (.int .i64 e.replies.length)), (34, true, .raw (.int .i64 k))], [m.av, yD m 0, [.box 1 0], [.raw (.int .i64 (e.at_ + 1 + 2 * (e.replies.length : Int)))], [.raw (.int .i64 (wF m w0 (e.replies.take k)))]], [qL []], ((0, []), [], true)⟩)
    (fun k => k ≤ e.replies.length) (fun k => e.replies.length - k) 0 ?_ (by omega) ?_
   ·rw [List.take_zero, show wF m w0 [] = w0 from rfl]
    exact wkZ
   ·intro k hk
    rcases yIq k e.replies.length with hlt | hge
    ·have hck := zZq m h [] (e.replies.getD k default) (hfx _ (zAn hlt))
     have hor := yHn (wF m w0 (e.replies.take k)) (zCs m (e.replies.getD k default))
     have hst := zXn m w0 e.replies hlt
     rw [orC] at hst
     generalize wF m w0 (e.replies.take k) = wk at *
     generalize zCs m (e.replies.getD k default) = ck at *
     try (refine wg ?_; try refine sM fun K hK => ?_)
     refine zA ⟨_, evl, fun _ => ?_, fun hb => absurd (yMa hb) (by omega)⟩
     repeat (refine stG ?_)
     refine zD (fun K hK => ?_)
     iterate 4 (refine stG ?_)
     refine zX 5 obf ⟨_, evl, _, evl, ?_⟩
     refine zF (hK _ ?_); clear hK K
     repeat (refine stG ?_)
     refine xW true (by kernel_rfl) (by kernel_rfl) (fun K hK => ?_)
     refine zG ?_
     repeat
      first
       | (refine zF (hK _ ?_); clear hK K)
       | refine stG ?_
       | (refine zS 1 rfl ?_; refine zG ?_)
       | (refine z7 ?_; first | (refine zK (hK _ ?_); clear hK K) | (refine zT rfl ⟨_, evl, fun nb' => ?_⟩))
       | refine zD (fun K hK => ?_)
       | (refine xD ?_; first | (refine zC false rfl (by kernel_rfl) (by kernel_rfl) (fun K hK => ?_)) | (refine zC true rfl (by kernel_rfl) (by kernel_rfl) (fun K hK => ?_)))
     refine zC0 ⟨_, evl, _, evl, by decide +kernel, ?_⟩
     refine qV (rem := [0, 3, 4, 5, 6]) (m := 4) (cs := [0, 3]) rfl (by decide +kernel) ?_
     refine yKi.2 ⟨fun o ho => ?_, yKi.2 ⟨fun o ho => ?_, fun _ h => by cases h⟩⟩
     ·cases yMg ho
      refine zBw rfl evl (fun nb' => ?_)
      refine stG ?_
      refine zF ⟨(true, .raw (.int .i64 wk)), _, _, rfl, zBc _ _, fun _ => ⟨rfl, [], (yKe _).symm⟩, ?_⟩
      refine yM (rem := [3, 4, 5, 6]) (by decide +kernel) ?_
      rw [yN]
      dsimp only [dl, List.cons_append, List.nil_append]
      repeat
       first
        | (refine zF (hK _ ?_); clear hK K)
        | refine stG ?_
        | (refine zS 1 rfl ?_; refine zG ?_)
        | (refine z7 ?_; first | (refine zK (hK _ ?_); clear hK K) | (refine zT rfl ⟨_, evl, fun nb' => ?_⟩))
        | refine zD (fun K hK => ?_)
        | (refine xD ?_; first | (refine zC false rfl (by kernel_rfl) (by kernel_rfl) (fun K hK => ?_)) | (refine zC true rfl (by kernel_rfl) (by kernel_rfl) (fun K hK => ?_)))
      refine jT 1 (bx1 := [m.av, yD m 0, [.box 1 0], [.raw (.int .i64 (e.at_ + 1 + 2 * (e.replies.length : Int)))], [.raw (.int .i64 wk)]]) hck rfl rfl rfl ⟨yMf, AV.subL_free _ (zM.free _), trivial⟩ ⟨_, rfl, _, evl, obl, rfl, rfl, rfl, ?_⟩
      refine zAa rfl (zBc _ _) (fun h => by cases h) ?_
      repeat
       first
        | (refine zF (hK _ ?_); clear hK K)
        | refine stG ?_
        | (refine yH 1 rfl ?_; refine zN rfl rfl ⟨_, evl, _, _, _, evl, yR, ?_⟩; apply Exists.intro; refine ⟨fun hg => ?_, ?_⟩; · first | exact FnA.sim hor ⟨Sim.lstE rfl fun i hi => yB (enc := iC) (l := [wk, ck]) (fun _ => rfl) rfl hi, trivial⟩ )
        | (refine zS 1 rfl ?_; refine zP rfl ⟨_, evl, _, _, _, (fun _ _ => w7), yR, ?_⟩; apply Exists.intro; refine ⟨fun hg => ?_, ?_⟩; · first | exact FnA.sim hor ⟨Sim.lstE rfl fun i hi => yB (enc := iC) (l := [wk, ck]) (fun _ => rfl) rfl hi, trivial⟩ )
        | (refine zS 1 rfl ?_; refine zG ?_)
        | (refine z7 ?_; first | (refine zK (hK _ ?_); clear hK K) | (refine zT rfl ⟨_, evl, fun nb' => ?_⟩))
        | refine zD (fun K hK => ?_)
        | (refine xD ?_; first | (refine zC false rfl (by kernel_rfl) (by kernel_rfl) (fun K hK => ?_)) | (refine zC true rfl (by kernel_rfl) (by kernel_rfl) (fun K hK => ?_)))
      refine ⟨k + 1, by omega, by omega, ?_⟩
      rw [hst]
      exact wkZ
     ·cases yMg ho
      refine zBw rfl evl (fun nb' => ?_)
      refine jT 1 (bx1 := [m.av, yD m 0, [.box 1 0], [.raw (.int .i64 (e.at_ + 1 + 2 * (e.replies.length : Int)))], [.raw (.int .i64 wk)]]) hck rfl rfl rfl ⟨yMf, AV.subL_free _ (zM.free _), trivial⟩ ⟨_, rfl, _, evl, obl, rfl, rfl, rfl, ?_⟩
      refine zF ⟨(true, .raw (.int .i64 ck)), _, _, rfl, zBc _ _, (fun h => by cases h), ?_⟩
      refine yM (rem := [0, 4, 5, 6]) (by decide +kernel) ?_
      rw [yN]
      dsimp only [dl, List.cons_append, List.nil_append]
      repeat
       first
        | (refine zF (hK _ ?_); clear hK K)
        | refine stG ?_
        | (refine yH 1 rfl ?_; refine zN rfl rfl ⟨_, evl, _, _, _, evl, yR, ?_⟩; apply Exists.intro; refine ⟨fun hg => ?_, ?_⟩; · first | exact FnA.sim hor ⟨Sim.lstE rfl fun i hi => yB (enc := iC) (l := [wk, ck]) (fun _ => rfl) rfl hi, trivial⟩ )
        | (refine zS 1 rfl ?_; refine zP rfl ⟨_, evl, _, _, _, (fun _ _ => w7), yR, ?_⟩; apply Exists.intro; refine ⟨fun hg => ?_, ?_⟩; · first | exact FnA.sim hor ⟨Sim.lstE rfl fun i hi => yB (enc := iC) (l := [wk, ck]) (fun _ => rfl) rfl hi, trivial⟩ )
        | (refine zS 1 rfl ?_; refine zG ?_)
        | (refine z7 ?_; first | (refine zK (hK _ ?_); clear hK K) | (refine zT rfl ⟨_, evl, fun nb' => ?_⟩))
        | refine zD (fun K hK => ?_)
        | (refine xD ?_; first | (refine zC false rfl (by kernel_rfl) (by kernel_rfl) (fun K hK => ?_)) | (refine zC true rfl (by kernel_rfl) (by kernel_rfl) (fun K hK => ?_)))
      refine ⟨k + 1, by omega, by omega, ?_⟩
      rw [hst]
      exact wkZ
    ·obtain rfl : k = e.replies.length := by omega
     rw [yLr]
     try (refine wg ?_; try refine sM fun K hK => ?_)
     refine zA ⟨_, evl, fun hb => absurd (yLv hb) (by omega), fun _ => ?_⟩
     try (refine wg ?_; try refine sM fun K hK => ?_)
     refine ⟨72, 69, [], [m.av, yD m 0, [.box 1 0], [.raw (.int .i64 (nE (pre ++ [e])))], [.raw (.int .i64 (wE m (pre ++ [e])))]], [qL []], _, ?_, rfl, rfl, rfl, rfl, pre ++ [e], hpe, by rw [he, yLh]; rfl, rfl⟩
     rw [hn2, hw2]
     exact wkZ
  ·rintro bx rw' ys ⟨_, rfl, rfl, pre, hp, he, rfl⟩
   obtain rfl := zXf hp he
   rw [hnn]
   clear hp he
   try (refine wg ?_; try refine sM fun K hK => ?_)
   refine zA ⟨_, evl, fun hb => ?_, fun hb => ?_⟩
   ·simp only [yJm] at hb
    rw [if_pos hb]
    try (refine wg ?_; try refine sM fun K hK => ?_)
    refine zR (by simp) ⟨_, _, _, evl, ob0, zLu _ _ _⟩
   ·simp only [yKu] at hb
    rw [if_neg hb]
    try (refine wg ?_; try refine sM fun K hK => ?_)
    refine zA ⟨_, evl, fun hb2 => ?_, fun hb2 => ?_⟩
    ·have hb3 : wE m (evL m) ≠ 0 := by simpa using hb2
     rw [if_pos hb3]
     try (refine wg ?_; try refine sM fun K hK => ?_)
     refine zR (by simp) ⟨_, _, _, evl, ob0, zLu _ _ _⟩
    ·have hb3 : ¬ wE m (evL m) ≠ 0 := by simpa using hb2
     rw [if_neg hb3]
     clear hb2 hb3
     have hN1 : 1 ≤ evN m := (zOe (zAg hf h) _ (yIn _)).1
     obtain ⟨n0, hn0⟩ : ∃ n0, n0 = (evN m - 1).toNat := ⟨_, rfl⟩
     have hal : yC3 m = (xU m (evL m) (xH n0, ev0)).1 := by rw [hn0]; rfl
     have hok := fun e he => zOc hf (show evN m ≤ 1000 by omega) (e := e) he
     have hcnt := zMb m.evidence.chains m.evidence.chains.length
     have hcnt2 : (evL m).length ≤ 1000 := by
      have : ((evL m).length : Int) + 1 ≤ evN m := hcnt
      omega
     clear hcnt hnn
     generalize wE m (evL m) = w at *
     generalize evN m = N at *
     try (refine wg ?_; try refine sM fun K hK => ?_)
     refine zJ (fun k : Nat => ⟨72, 0, [(1, true, .box 0 0), (5, true, .box 2 0), (6, true, .box 3 0), (11, true, .raw (.int .i64 ((k : Int) + 1)))], [m.av, yD m (xH k).length, [.box 1 0], [.raw (.int .i64 N)], [.raw (.int .i64 w)]], [qL (xH k)], ((0, []), [], true)⟩)
      (fun k => k ≤ n0) (fun k => n0 - k) 0 ?_ (by omega) ?_
     ·exact wkZ
     ·intro k hk
      rcases yIq k n0 with hlt | hge
      ·have hbl := zIe k
       have hbt := zQj m (xH k) (by omega) 0 ((k : Int) + 1) ⟨0, 3000000000000000⟩ (by decide)
       rw [← zKx] at hbt
       have hsb := zKx k
       generalize hB2 : xH (k + 1) = B2 at *
       generalize xH k = B1 at *
       try (refine wg ?_; try refine sM fun K hK => ?_)
       refine zA ⟨_, evl, fun _ => ?_, fun hb => absurd (yMa hb) (by omega)⟩
       try (first | refine wkM hK trivial ?_ | refine wkg trivial ?_)
       try clear hK K
       try refine sM fun K hK => ?_
       refine jT 1 (bx1 := [m.av, yD m _, [.box 1 0], [.raw (.int .i64 N)], [.raw (.int .i64 w)]]) hbt rfl rfl rfl ⟨yMf, trivial, trivial, ⟨trivial, trivial, trivial⟩, trivial, trivial⟩ ⟨_, rfl, _, evl, obl, rfl, rfl, rfl, ?_⟩

       try (first | refine wkM hK trivial ?_ | refine wkg trivial ?_)
       try clear hK K
       try refine sM fun K hK => ?_
       refine ⟨k + 1, by omega, by omega, ?_⟩
       rw [hB2]
       exact wkZ
      ·obtain rfl : k = n0 := by omega
       have hbl := zIe k
       have hfl := fun pre hpr => zK8 m (xH k, ev0) (by simp [ev0]) pre hpr
       have hfla := zH4 m (xH k, ev0)
       have hsn := fun pre e => kV m pre e (xH k, ev0)
       have hst : xU m [] (xH k, ev0) = (xH k, ev0) := rfl
       rw [hal]
       simp only at hfl hfla
       try (refine wg ?_; try refine sM fun K hK => ?_)
       refine zA ⟨_, evl, fun hb => absurd (yLv hb) (by omega), fun _ => ?_⟩
       try (refine wkg hev ?_; try refine sM fun K hK => ?_)
       have hes : AV.sub 6 1 (zFj m) := ⟨trivial, AV.subL_free _ hmf, trivial⟩
       refine yI (st' := ⟨72, 0, [(1, true, .box 0 0), (5, true, .box 2 0), (6, true, .box 3 0), (12, true, .box 5 0), (60, true, zFj m)], [m.av, yD m (xH k).length, [.box 1 0], [.raw (.int .i64 N)], [.raw (.int .i64 w)], ev0.av], [qL (xH k)], ((0, []), [], true)⟩) ?_ ?_
       ·refine wkn ?_ ?_ ?_
        all_goals first | exact wk0 | refine wkS ?_ | skip
        all_goals (try trivial)
        all_goals ((repeat' apply And.intro) <;> first | exact wkL | skip)
        all_goals skip
       refine vP (fun h j bx rw ys => j = none ∧ ys = ((0, []), [], true) ∧ ∃ pre, pre <+: evL m ∧ h = pre.map itE ∧ rw = [qL (xU m pre (xH k, ev0)).1] ∧ bx = [m.av, yD m (xU m pre (xH k, ev0)).1.length, [.box 1 0], [.raw (.int .i64 N)], [.raw (.int .i64 w)], (xU m pre (xH k, ev0)).2.av])
        rfl rfl ⟨hmf, trivial⟩ hS ⟨by simp, by simp⟩ (by simp) ⟨rfl, rfl, [], by simp, rfl, rfl, rfl⟩ ?_ ?_ ?_
       ·rintro hh item bx rw' ys ⟨_, rfl, pre, hp, he, rfl, rfl⟩ hpr _
        obtain ⟨e, rfl, hpe⟩ := zTq hp he hpr
        have hem : e ∈ evL m := hpe.subset (by simp)
        have hpm : ∀ x ∈ pre, x ∈ evL m := fun x hx => hp.subset hx
        refine ⟨rfl, ?_⟩
        simp only [zBp, itE, yJ0, yJ9]
        have hl1 := hfl pre fun x hx => (hok x (hpm x hx)).l
        have hl2 : ((0 : Int) ≤ (xU m pre (xH k, ev0)).2.at_ ∧ (xU m pre (xH k, ev0)).2.at_ ≤ 2000) ∧ (xU m pre (xH k, ev0)).2.replies.length ≤ 1000 := by
         rcases hfla pre with e | e
         ·rw [e]; exact ⟨⟨by decide, by decide⟩, by simp [ev0]⟩
         ·exact ⟨(hok _ (hpm _ e)).a, (hok _ (hpm _ e)).l⟩
        have hpl := hp.length_le
        have hrg := zY4 m h hf.2.1 (xU m pre (xH k, ev0)).1 (by omega) e (xU m pre (xH k, ev0)).2 (hok e hem) hl2
        have hs2 := hsn pre e
        have hfe := y7.free e
        have hfb := y7.free (xU m pre (xH k, ev0)).2
        clear hfl hfla hsn
        generalize (xU m pre (xH k, ev0)).1 = L at *
        generalize (xU m pre (xH k, ev0)).2 = B at *
        try (refine wg ?_; try refine sM fun K hK => ?_)
        refine ⟨rfl, ?_⟩
        try (first | refine wkM hK trivial ?_ | refine wkg trivial ?_)
        try clear hK K
        try refine sM fun K hK => ?_
        refine jT 1 (bx1 := [m.av, yD m _, [.box 1 0], [.raw (.int .i64 N)], [.raw (.int .i64 w)], B.av, e.av]) hrg rfl rfl rfl ⟨yMf, AV.subL_free _ hfe, AV.subL_free _ hfb, trivial⟩ ⟨_, rfl, _, evl, obl, rfl, rfl, rfl, ?_⟩

        try (first | refine wkM hK trivial ?_ | refine wkg trivial ?_)
        try clear hK K
        try refine sM fun K hK => ?_
        refine ⟨72, 70, [], [m.av, yD m (xU m (pre ++ [e]) (xH k, ev0)).1.length, [.box 1 0], [.raw (.int .i64 N)], [.raw (.int .i64 w)], (xU m (pre ++ [e]) (xH k, ev0)).2.av], [qL (xU m (pre ++ [e]) (xH k, ev0)).1], _, ?_, rfl, rfl, rfl, pre ++ [e], hpe, by rw [he, yLh]; rfl, rfl, rfl⟩
        rw [hs2]
        clear hs2
        generalize L ++ kP m e B = L2 at *
        exact wkZ
       ·rintro bx rw' ys ⟨_, rfl, pre, hp, he, rfl, rfl⟩
        obtain rfl := zXf hp he
        clear hfl hfla hsn hp he hst
        have hfr := zE (sz := 4) (fun y => zO.free y) (xU m (evL m) (xH k, ev0)).1
        have hfb := y7.free (xU m (evL m) (xH k, ev0)).2
        generalize (xU m (evL m) (xH k, ev0)).1 = L at *
        generalize (xU m (evL m) (xH k, ev0)).2 = B at *
        try (refine wg ?_; try refine sM fun K hK => ?_)
        refine zR (by simp) ⟨_, _, _, evl, ob0, zV.sims ?_ ?_⟩
        ·exact z6.tup (show z8 _ _ [_, _, _] [_, _, _] from ⟨z6.row rfl rfl rfl rfl (fun _ _ => rfl), z6.refl _, z6.refl _, trivial⟩)
        ·exact ⟨hfr, trivial, trivial, trivial⟩
       ·rintro hh j bx rw' ys _ ⟨hj, _⟩
        cases hj
  ·rintro hh j bx rw' ys _ ⟨hj, _⟩
   cases hj
 ·rw [yM2 hf] at hform
  unfold z4
  rw [if_pos hf]
  refine en Tryz.func12 Tryz.ntmps12 [.tmp 2, .tmp 3, .tmp 4] rfl ?_
  try (refine wkg hform ?_; try refine sM fun K hK => ?_)
  refine zA ⟨_, evl, fun _ => ?_, fun hb => absurd hb (by decide)⟩
  try (refine wg ?_; try refine sM fun K hK => ?_)
  refine zR (by simp) ⟨_, _, _, evl, ob0, zLu _ _ _⟩
end Go.Proofs.YtchpbdecipcelaaGreatDoor
