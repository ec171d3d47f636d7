import Derived.Test.YtchpbdecipcelaaGreatDoorMR01
import Derived.Test.YtchpbdecipcelaaGreatDoorMR40
namespace Go.Proofs.YtchpbdecipcelaaGreatDoor
set_option linter.unusedVariables false
set_option linter.unusedSimpArgs false
set_option maxHeartbeats 4000000
set_option maxRecDepth 100000
open Go.RowKit
def zZ2 (l : List zH) (blamed : List zB) : List Bf.Sk := l.map fun b => (!zCf blamed b, toE b)
def zBz (l : List zH) (n : Nat) (blamed : List zB) : Option (List Int) := Bf.timesL ((n : Int) * 3000000000000000) (zZ2 l blamed) (n + 1) (List.replicate n 0)
def zT8 : Option (List Int) → AV
 | none => .tup [liA [], .raw (.bool false)]
 | some t => .tup [liA t, .raw (.bool true)]
theorem zM6 (st : ASt) : zV st (.tup [.raw (.slice none 0 0), .raw (.bool false)]) (zT8 none) :=
 zV.sims (z5.tup (show z8 _ _ [_, _] [_, _] from ⟨(Sim.nil rfl).s, z5.refl _, trivial⟩)) ⟨fun i h => absurd h (Nat.not_lt_zero _), trivial, trivial⟩
theorem zRo {t : List Int} {i : Nat} (h : i < t.length) : z7 1 (zA5 t) i = els iC t i := by
 unfold z7 els zA5
 rw [yLv, ← List.map_drop, List.drop_eq_getElem_cons h, yLt, List.take_succ_cons, yMi, zU h]
 rfl
theorem InT.put {n : Nat} {t : List Int} (h : InT n t) {e : Bf.E} (hb : e.b < n) (hlt : t.getD e.a 0 + e.m < t.getD e.b 0) (hl : ¬ (t.set e.b (t.getD e.a 0 + e.m)).getD e.b 0 < -((n : Int) * 3000000000000000)) : InT n (t.set e.b (t.getD e.a 0 + e.m)) := by
 have hb2 : e.b < t.length := by rw [h.len]; exact hb
 rw [Bf.fn_set hb2 hlt] at hl ⊢
 exact h.relax hb hl
theorem zO8 (l : List zH) (hl : l.length ≤ 1000000) (n : Nat) (hn : 1 ≤ n ∧ n ≤ 1000) (hb : ∀ b ∈ l, xQ n b) (blamed : List zB) (hbl : blamed.length ≤ 4611686018427387904) :
  FnA Tryz.prog 23 [lA 4 zH.av l, .raw (.int .i64 n), lA 2 zB.av blamed] (zT8 (zBz l n blamed)) := by
 have hfl : (lA 4 zH.av l).free := zC (fun y => zH.free y) _
 have hfb : (lA 2 zB.av blamed).free := zC (fun y => zB.free y) _
 unfold zBz
 refine en Tryz.func23 Tryz.ntmps23 [.tmp 6, .tmp 7] rfl ?_
 try (refine wkB trivial ?_; try refine sM fun K hK => ?_)
 refine zFb n (by omega) rfl rfl rfl rfl ⟨evl, _, evl, _, evl, ?_⟩
 refine stB ?_
 refine zG (hK _ ?_); clear hK K
 try (refine wkB trivial ?_; try refine sM fun K hK => ?_)
 generalize hC : (n : Int) * 3000000000000000 = C
 generalize hX : Bf.timesL C (zZ2 l blamed) (n + 1) (List.replicate n 0) = X
 refine zF (fun p : Nat × List Int => ⟨76, 0, [(0, true, lA 4 zH.av l), (1, true, .raw (.int .i64 n)), (2, true, lA 2 zB.av blamed), (8, true, .bsl 1 0 0 n n), (9, true, .raw (.int .i64 p.1))], [zA5 p.2], [], ((0, []), [], true)⟩)
  (fun p => p.1 ≤ n + 1 ∧ InT n p.2 ∧ X = Bf.timesL C (zZ2 l blamed) (n + 1 - p.1) p.2) (fun p => n + 1 - p.1) (0, List.replicate n 0) ?_ ⟨by simp, InT.zero n, hX.symm⟩ ?_
 ·exact wkZ
 rintro ⟨k, t⟩ ⟨hk, ht, he⟩
 simp only at hk ht he ⊢
 clear hX
 rcases yKt k (n + 1) with hlt | hge
 ·obtain ⟨f, hf⟩ : ∃ f, n + 1 - k = f + 1 := ⟨n - k, by omega⟩
  rw [hf, Bf.timesL] at he
  generalize hR : Bf.roundL C (zZ2 l blamed) (t, false) = R at he
  try (refine wkB trivial ?_; try refine sM fun K hK => ?_)
  refine zA ⟨_, evl, fun _ => ?_, fun hb => absurd (yOc hb) (by omega)⟩
  try (refine wkB trivial ?_; try refine sM fun K hK => ?_)
  refine zF (fun p : Nat × List Int × Bool => ⟨76, 0, [(0, true, lA 4 zH.av l), (1, true, .raw (.int .i64 n)), (2, true, lA 2 zB.av blamed), (8, true, .bsl 1 0 0 n n), (9, true, .raw (.int .i64 k)), (10, true, .raw (.bool p.2.2)), (11, true, .raw (.int .i64 p.1))], [zA5 p.2.1], [], ((0, []), [], true)⟩)
   (fun p => p.1 ≤ l.length ∧ InT n p.2.1 ∧ R = Bf.roundL C ((l.drop p.1).map fun b => (!zCf blamed b, toE b)) p.2) (fun p => l.length - p.1) (0, t, false) ?_ ⟨by simp, ht, by rw [List.drop_zero]; exact hR.symm⟩ ?_
  ·exact wkZ
  clear hR ht
  rintro ⟨i, t, ch⟩ ⟨hi, ht, hr⟩
  simp only at hi ht hr ⊢
  rcases yKt i l.length with hli | hgi
  ·have hbi := hb _ (w9 hli)
   have hre := zX1 (l.getD i default) (by have := hbi.2.2.2.1; omega) blamed hbl
   obtain ⟨hb1, hb2, hb3, -⟩ := hbi
   rw [zLb hli, yLt, Bf.roundL] at hr
   have hsk : Bf.stepSk (t, ch) (!zCf blamed (l.getD i default), toE (l.getD i default)) = if zCf blamed (l.getD i default) && decide (t.getD (l.getD i default).from_.toNat 0 + (l.getD i default).most < t.getD (l.getD i default).to_.toNat 0) then (t.set (l.getD i default).to_.toNat (t.getD (l.getD i default).from_.toNat 0 + (l.getD i default).most), true) else (t, ch) := by
    unfold Bf.stepSk
    simp only [Bool.not_not]
    rfl
   rw [hsk] at hr
   clear hsk
   have hl1 := ht.lim ((l.getD i default).to_.toNat * 1)
   have hl2 := ht.lim ((l.getD i default).from_.toNat * 1)
   have hput := fun hlt hl => ht.put (e := toE (l.getD i default)) (show (l.getD i default).to_.toNat < n by omega) hlt hl
   simp only [toE] at hr hput
   have hlen : (zA5 t).length = n := by rw [jN, ht.len]
   haveI : InB t ((l.getD i default).to_.toNat * 1) := ⟨by rw [ht.len]; omega⟩
   haveI : InB t ((l.getD i default).from_.toNat * 1) := ⟨by rw [ht.len]; omega⟩
   have f1 : IntKind.i64.wrap (-(n : Int)) = -(n : Int) := yX (k := .i64) (by simp only [inK]; omega)
   generalize zCf blamed (l.getD i default) = z at *
   try (refine wkB trivial ?_; try refine sM fun K hK => ?_)
   refine zA ⟨_, evl, fun _ => ?_, fun hb => absurd (yOc hb) (by omega)⟩
   repeat (refine stG ?_)
   refine zE (fun K hK => ?_)
   iterate 6 (refine stG ?_)
   refine z0 1 obf ⟨_, evl, _, evl, ?_⟩
   refine zG (hK _ ?_); clear hK K
   repeat
    first
     | (refine zG (hK _ ?_); clear hK K)
     | refine stB ?_
     | (refine yJ 2 rfl ?_; refine jH yH rfl rfl rfl ⟨_, _, _, _, _, _, _, evl, obq, _, _, _, _, _, evl, _, evl, obq, obq, obs, _, evl, fun c hc1 hc2 => ⟨_, evl, ?_⟩⟩)
     | (refine yJ 1 rfl ?_; first | (refine zR rfl rfl ⟨_, evl, _, _, _, evl, yR, ?_⟩; apply Exists.intro; refine ⟨fun hg => ?_, ?_⟩; · first | exact FnA.at_ (hre) rfl rfl | exact FnA.at_s (hre) rfl yV | exact FnA.at_s (hre) rfl yW) | (refine xB rfl rfl ⟨_, evl, _, _, _, evl, _, _, evl, yR, ?_⟩; apply Exists.intro; refine ⟨fun hg => ?_, ?_⟩; · first | exact FnA.at_ (hre) rfl rfl | exact FnA.at_s (hre) rfl yV | exact FnA.at_s (hre) rfl yW))
     | (refine zW 1 rfl ?_; refine zS rfl ⟨_, evl, _, _, _, (fun _ _ => vH), yR, ?_⟩; apply Exists.intro; refine ⟨fun hg => ?_, ?_⟩; · first | exact FnA.at_ (hre) rfl rfl | exact FnA.at_s (hre) rfl yV | exact FnA.at_s (hre) rfl yW)
     | (refine zW 1 rfl ?_; refine zJ ?_)
     | (refine yB ?_; first | (refine zP (hK _ ?_); clear hK K) | (refine zX rfl ⟨_, evl, fun nb' => ?_⟩))
     | refine zE (fun K hK => ?_)
     | (refine yZ ?_; first | (refine zD false rfl (by kernel_rfl) (by kernel_rfl) (fun K hK => ?_)) | (refine zD true rfl (by kernel_rfl) (by kernel_rfl) (fun K hK => ?_)))
   refine zA ⟨_, evl, fun hb => ?_, fun hb => ?_⟩
   ·simp only [yLv, Bool.not_not, yLq, yLr] at hb
    obtain ⟨hz, hlt2⟩ := hb
    rw [hz, yO3 hlt2] at hr
    repeat
     first
      | (refine zG (hK _ ?_); clear hK K)
      | refine stB ?_
      | (refine yJ 2 rfl ?_; refine jH yH rfl rfl rfl ⟨_, _, _, _, _, _, _, evl, obq, _, _, _, _, _, evl, _, evl, obq, obq, obs, _, evl, fun c hc1 hc2 => ⟨_, evl, ?_⟩⟩)
      | (refine zW 1 rfl ?_; refine zJ ?_)
      | (refine yB ?_; first | (refine zP (hK _ ?_); clear hK K) | (refine zX rfl ⟨_, evl, fun nb' => ?_⟩))
      | refine zE (fun K hK => ?_)
      | (refine yZ ?_; first | (refine zD false rfl (by kernel_rfl) (by kernel_rfl) (fun K hK => ?_)) | (refine zD true rfl (by kernel_rfl) (by kernel_rfl) (fun K hK => ?_)))
    have hin : (l.getD i default).to_.toNat * 1 + 1 ≤ (zA5 t).length := by omega
    refine zH6 yH rfl rfl rfl ⟨_, _, evl, _, evl, _, evl, _, evl, ⟨(by simp [yQ, AV.oneL, AV.one, Value.oneCell']), rfl, hin⟩, _, evl, ?_⟩
    repeat (refine stB ?_)
    refine zP (hK _ ?_); clear hK K
    have hT : t.set ((l.getD i default).to_.toNat * 1) (t.getD ((l.getD i default).from_.toNat * 1) 0 + (l.getD i default).most) = t.set (l.getD i default).to_.toNat (t.getD (l.getD i default).from_.toNat 0 + (l.getD i default).most) := by simp only [yLv]
    rw [hT]
    replace hput := hput hlt2
    have hTl : (t.set (l.getD i default).to_.toNat (t.getD (l.getD i default).from_.toNat 0 + (l.getD i default).most)).length = n := by rw [List.length_set, ht.len]
    clear hT
    simp only [Bool.and_self, if_true] at hr
    generalize t.set (l.getD i default).to_.toNat (t.getD (l.getD i default).from_.toNat 0 + (l.getD i default).most) = T at *
    haveI : InB T ((l.getD i default).to_.toNat * 1) := ⟨by rw [hTl]; omega⟩
    have hlen2 : (zA5 T).length = n := by rw [jN, hTl]
    try (refine wkB trivial ?_; try refine sM fun K hK => ?_)
    refine zA ⟨_, evl, fun hbad => ?_, fun hgo => ?_⟩
    ·rw [yLv] at hbad
     have hbad := yNw hbad
     rw [if_pos (by omega)] at hr
     rw [hr] at he
     try (refine wkB trivial ?_; try refine sM fun K hK => ?_)
     exact zM (by simp) ⟨_, _, _, evl, ob0, show zV _ _ (zT8 X) by rw [show X = none from he]; exact zM6 _⟩
    ·rw [yLv] at hgo
     have hgo := yOc hgo
     rw [if_neg (by omega)] at hr
     try (refine wkB trivial ?_; try refine sM fun K hK => ?_)
     refine ⟨(i + 1, T, true), ⟨by simp only; omega, hput (by omega), hr⟩, by simp only; omega, ?_⟩
     exact wkZ
   ·simp only [yLv, Bool.not_not] at hb
    rw [hb] at hr
    simp only [yM7, if_false] at hr
    try (refine wkB trivial ?_; try refine sM fun K hK => ?_)
    refine zA ⟨_, evl, fun hbad => ?_, fun hgo => ?_⟩
    ·rw [yLv] at hbad
     have hbad := yNw hbad
     rw [if_pos (by omega)] at hr
     rw [hr] at he
     try (refine wkB trivial ?_; try refine sM fun K hK => ?_)
     exact zM (by simp) ⟨_, _, _, evl, ob0, show zV _ _ (zT8 X) by rw [show X = none from he]; exact zM6 _⟩
    ·rw [yLv] at hgo
     have hgo := yOc hgo
     rw [if_neg (by omega)] at hr
     try (refine wkB trivial ?_; try refine sM fun K hK => ?_)
     refine ⟨(i + 1, t, ch), ⟨by simp only; omega, ht, hr⟩, by simp only; omega, ?_⟩
     exact wkZ
  ·obtain rfl : i = l.length := by omega
   rw [List.drop_length] at hr
   have hr : R = some (t, ch) := hr
   rw [hr] at he
   try (refine wkB trivial ?_; try refine sM fun K hK => ?_)
   refine zA ⟨_, evl, fun hb => absurd (yNw hb) (by omega), fun _ => ?_⟩
   try (refine wkB trivial ?_; try refine sM fun K hK => ?_)
   refine zA ⟨_, evl, fun hb => ?_, fun hb => ?_⟩
   ·rw [yLs] at hb
    subst hb
    have he : X = some t := he
    subst he
    have hlen : n * 1 ≤ (zA5 t).length := by rw [jN, ht.len]; omega
    repeat (refine stB ?_)
    refine yP (st' := ⟨76, 0, [(8, true, .bsl 1 0 0 n n)], [zA5 t], [], ((0, []), [], true)⟩) ?_ ?_
    ·exact wkZ
    refine zAh 0 ⟨by simp, trivial, (fun r hr => by cases hr), ⟨.inr ⟨by simp, zXo _ _, by simpa using hlen⟩, trivial⟩⟩ ⟨_, evl, _, evl, ?_⟩
    refine yP (xE.slot (y := liA t) 8 rfl (Sim.lstE ht.len.symm fun i hi => zRo (by rw [ht.len]; exact hi)).s) ?_
    have hft := qY t
    try (refine wg ?_; try refine sM fun K hK => ?_)
    exact zM (by simp) ⟨_, _, _, evl, ob0, zV.free (show (zT8 (some t)).free from ⟨hft, trivial, trivial⟩)⟩
   ·rw [yMx] at hb
    subst hb
    have he : X = Bf.timesL C (zZ2 l blamed) f t := he
    try (refine wkB trivial ?_; try refine sM fun K hK => ?_)
    refine ⟨(k + 1, t), ⟨by simp only; omega, ht, by rw [show n + 1 - (k + 1) = f by omega]; exact he⟩, by simp only; omega, ?_⟩
    exact wkZ
 ·obtain rfl : k = n + 1 := by omega
  rw [yM9] at he
  have he : X = none := he
  try (refine wkB trivial ?_; try refine sM fun K hK => ?_)
  refine zA ⟨_, evl, fun hb => absurd (yNw hb) (by omega), fun _ => ?_⟩
  try (refine wkB trivial ?_; try refine sM fun K hK => ?_)
  exact zM (by simp) ⟨_, _, _, evl, ob0, show zV _ _ (zT8 X) by rw [show X = none from he]; exact zM6 _⟩
theorem zSh (l : List zH) (blamed : List zB) : Bf.used (zZ2 l blamed) = (zB7 l blamed).map toE := by
 unfold zZ2 zB7
 induction l with
 | nil => rfl
 | cons b l ih =>
  rw [yLt, Bf.used_cons, ih, List.filter_cons]
  cases zCf blamed b <;> rfl
theorem zTw {l : List zH} {n : Nat} (hn : 1 ≤ n) (hb : ∀ b ∈ l, xQ n b) (blamed : List zB) : Bf.Ok ((zB7 l blamed).map toE) n 3000000000000000 := by
 refine ⟨by omega, fun e he => ?_, by decide, fun e he => ?_⟩
 ·obtain ⟨b, hb2, rfl⟩ := yMf.1 he
  obtain ⟨h1, h2, h3, h4⟩ := hb b (yNl.1 hb2).1
  simp only [toE]
  omega
 ·obtain ⟨b, hb2, rfl⟩ := yMf.1 he
  exact (hb b (yNl.1 hb2).1).2.2.1.1
theorem zX6 {l : List zH} {n : Nat} (hn : 1 ≤ n) (hb : ∀ b ∈ l, xQ n b) (blamed : List zB) : zBe l n blamed = true ↔ ∃ x, Bf.keepsAll ((zB7 l blamed).map toE) x := Bf.possL_iff (zTw hn hb blamed)
theorem yD1 {l : List zH} {n : Nat} (hb : ∀ b ∈ l, xQ n b) (blamed : List zB) : ∀ s ∈ zZ2 l blamed, s.2.a < n ∧ s.2.b < n := by
 intro s hs
 obtain ⟨b, hb2, rfl⟩ := yMf.1 hs
 obtain ⟨h1, h2, h3, h4⟩ := hb b hb2
 simp only [toE]
 omega
theorem zJj {l : List zH} {n : Nat} (hn : 1 ≤ n) (hb : ∀ b ∈ l, xQ n b) (blamed : List zB) : (zBz l n blamed).isSome = zBe l n blamed := by
 rw [yLb, zX6 hn hb, ← zSh]
 exact Bf.timesL_iff (by rw [zSh]; exact zTw hn hb blamed) (yD1 hb blamed)
end Go.Proofs.YtchpbdecipcelaaGreatDoor
