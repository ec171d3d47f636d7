import Derived.Test.YtchpbdecipcelaaGreatDoorHO01
import Derived.Test.YtchpbdecipcelaaGreatDoorHO22
import Derived.Test.YtchpbdecipcelaaGreatDoorHO23
import Derived.Test.YtchpbdecipcelaaGreatDoorHO28
import Derived.Test.YtchpbdecipcelaaGreatDoorHO43
namespace Go.Proofs.YtchpbdecipcelaaGreatDoor
set_option linter.unusedVariables false
set_option linter.unusedSimpArgs false
set_option maxHeartbeats 4000000
set_option maxRecDepth 100000
open Go.RowKit
theorem zQx (p : zB) (set : List zB) (hl : set.length ≤ 4611686018427387904) : FnA Tryz.prog 62 [lA 2 zB.av set, .elt p.av 0] (.raw (.bool (!decide (p ∈ set)))) := by
 have h := zT9 set hl p
 have hfr : (lA 2 zB.av set).free := zE (fun y => zB.free y) _
 generalize lA 2 zB.av set = L at *
 generalize decide (p ∈ set) = z at *
 refine en Tryz.func62 Tryz.ntmps62 [.tmp 3] rfl ?_
 repeat' first
  | refine wkg h ?_
  | (refine cS (fun hb => ?_) fun hb => ?_ <;> try (cases hb; done))
  | refine sM fun K hK => ?_
  | fail
 all_goals exact fA
def zLa (m : zQ) (most : Int) : List zB × Int :=
 if (zAl m most).2 ≠ 0 then ([], (zAl m most).2) else if (zAl m most).1 = [] then ([], 4) else (Vd.sureOf (zAl m most).1, 0)
theorem zS9 (st : ASt) (a : Int) : zV st (.tup [.raw (.slice none 0 0), .raw (.int .i64 a)]) (.tup [lA 2 zB.av [], .raw (.int .i64 a)]) :=
 zV.sims (z6.tup (show z8 _ _ [_, _] [_, _] from ⟨(Sim.nil rfl).s, z6.refl _, trivial⟩)) ⟨fun i h => absurd h (Nat.not_lt_zero _), trivial, trivial⟩
theorem zPf {m : zQ} {most : Int} (hB : BOk m) : (zAl m most).1.length ≤ 200 ∧ ∀ s ∈ (zAl m most).1, s.length ≤ 3 := by
 unfold zAl
 split
 ·exact ⟨by simp, fun s hs => by simp at hs⟩
 ·split
  ·exact ⟨by simp, fun s hs => by simp at hs⟩
  ·split
   ·exact ⟨by simp, fun s hs => by simp at hs⟩
   ·rename_i h1 h2 h3
    refine ⟨by simp only; omega, fun s hs => ?_⟩
    have := (Vd.setsOf_ok hs).2.1
    omega
abbrev rowP (l : List zB) : z9 := ⟨57, 2, l.length, els zB.av l⟩
theorem zUo (m : zQ) (h : OkM m) (hB : BOk m) (most : Int) : FnA Tryz.prog 20 [.agg m.av, .raw (.int .i64 most)] (.tup [lA 2 zB.av (zLa m most).1, .raw (.int .i64 (zLa m most).2)]) := by
 have hs := zOy m h hB most
 have hm := zQ.free m
 have hsh := zPf (most := most) hB
 unfold zLa
 generalize zAl m most = E at *
 obtain ⟨S, e⟩ := E
 simp only at hs hsh ⊢
 have hfS : (lA 1 sC2 S).free := zE (fun y => show AV.freeL (sC2 y) from ⟨zE (fun z => zB.free z) _, trivial⟩) _
 refine en Tryz.func20 Tryz.ntmps20 [.tmp 4, .tmp 5] rfl ?_
 try (refine wkg hs ?_; try refine sM fun K hK => ?_)
 refine zA ⟨_, evl, fun he => ?_, fun he => ?_⟩
 ·simp only [yJn, yKu] at he
  rw [if_pos he]
  try (refine wg ?_; try refine sM fun K hK => ?_)
  exact zR (by simp) ⟨_, _, _, evl, ob0, zS9 _ _⟩
 ·simp only [yKs, yJm] at he
  subst he
  simp only [ne_eq, not_true_eq_false, if_false]
  try (refine wg ?_; try refine sM fun K hK => ?_)
  refine zA ⟨_, evl, fun he => ?_, fun he => ?_⟩
  ·simp only [yJm] at he
   rw [if_pos (yM7.1 (by omega))]
   try (refine wg ?_; try refine sM fun K hK => ?_)
   exact zR (by simp) ⟨_, _, _, evl, ob0, zS9 _ _⟩
  ·simp only [yKu] at he
   have hne : S ≠ [] := fun e => he (by rw [e]; rfl)
   rw [if_neg hne]
   have h0 : 0 < S.length := by omega
   have hS0 : S.headD [] = S.getD 0 default := by cases S <;> simp_all
   have hl0 : (S.getD 0 default).length ≤ 3 := hsh.2 _ (by rw [z5 h0]; exact yLb _)
   have hsu : Vd.sureOf S = (S.getD 0 default).filter fun p => !(S.any fun s => !decide (p ∈ s)) := by
    unfold Vd.sureOf
    rw [hS0]
    congr 1
    funext p
    rw [List.any_eq_not_all_not]
    simp
   rw [hsu]
   clear hsu hS0
   try (refine wg ?_; try refine sM fun K hK => ?_)
   refine yI (xJ.nilRow 8 57 2 rfl) ?_
   generalize hS0 : S.getD 0 default = S0 at *
   have hf0 : (lA 2 zB.av S0).free := zE (fun z => zB.free z) _
   refine zJ (fun k : Nat => ⟨43, 0, [(6, true, lA 1 sC2 S), (8, true, .row 0 ((S0.take k).filter fun p => !(S.any fun s => !decide (p ∈ s))).length), (26, true, lA 2 zB.av S0), (27, true, .raw (.int .i64 S0.length)), (28, true, .raw (.int .i64 k))], [m.av], [rowP ((S0.take k).filter fun p => !(S.any fun s => !decide (p ∈ s)))], ((0, []), [], true)⟩)
    (fun k => k ≤ S0.length) (fun k => S0.length - k) 0 ?_ (by omega) ?_
   ·simp only [List.take_zero, List.filter_nil, yK8]
    exact wkZ
   ·intro k hk
    rcases yIq k S0.length with hlt | hge
    ·have hst : ∀ i2, i2 = k + 1 → (S0.take i2).filter (fun p => !(S.any fun s => !decide (p ∈ s))) = (S0.take k).filter (fun p => !(S.any fun s => !decide (p ∈ s))) ++ if (S.any fun s => !decide (S0.getD k default ∈ s)) then [] else [S0.getD k default] := fun i2 e => by
      subst e
      rw [yLq hlt, List.filter_append, z5 hlt]
      congr 1
      by_cases hq : (S.any fun s => !decide (S0[k] ∈ s)) = true <;> simp [hq]
     have hlR : ((S0.take k).filter fun p => !(S.any fun s => !decide (p ∈ s))).length ≤ 3 := yIo (List.length_filter_le _ _) (by rw [yKy]; omega)
     have hc : FnA Tryz.prog 59 [lA 1 sC2 S, .fn (.func 62) [] [.elt (S0.getD k default).av 0]] (.raw (.bool (S.any fun s => !decide (S0.getD k default ∈ s)))) :=
      j7 S (by omega) 62 [.elt (S0.getD k default).av 0] ⟨zB.free _, trivial⟩ (fun s => !decide (S0.getD k default ∈ s)) fun s hs => zQx (S0.getD k default) s (by have := hsh.2 s hs; omega)
     generalize (S.any fun s => !decide (S0.getD k default ∈ s)) = q at *
     generalize (S0.take k).filter (fun p => !(S.any fun s => !decide (p ∈ s))) = R at *
     try (refine wg ?_; try refine sM fun K hK => ?_)
     refine zA ⟨_, evl, fun _ => ?_, fun hb => absurd (yMa hb) (by omega)⟩
     repeat (refine stG ?_)
     refine zD (fun K hK => ?_)
     iterate 4 (refine stG ?_)
     refine zX 1 obf ⟨_, evl, _, evl, ?_⟩
     refine zF (hK _ ?_); clear hK K
     try (first | refine wkM hK hc ?_ | refine wkg hc ?_)
     try clear hK K
     try refine sM fun K hK => ?_
     refine zA ⟨_, evl, fun hb => ?_, fun hb => ?_⟩
     ·rw [yJn] at hb
      subst hb
      simp only [yK3, if_false] at hst
      try (refine wg ?_; try refine sM fun K hK => ?_)
      refine ⟨k + 1, by omega, by omega, ?_⟩
      rw [hst (k + 1) rfl, yJ2]
      refine wkn ?_ ?_ ?_
      all_goals first | exact wk0 | refine wkS ?_ | skip
      all_goals (try trivial)
      all_goals ((repeat' apply And.intro) <;> first | exact wkL | skip)
      exact fun q hq => z8.of_eq (jM rfl (by simpa using hq) rfl)
     ·rw [yKs] at hb
      subst hb
      simp only [if_true, yKe] at hst
      try (refine wg ?_; try refine sM fun K hK => ?_)
      refine ⟨k + 1, by omega, by omega, ?_⟩
      rw [hst (k + 1) rfl]
      exact wkZ
    ·obtain rfl : k = S0.length := by omega
     rw [yLr]
     generalize S0.filter (fun p => !(S.any fun s => !decide (p ∈ s))) = R at *
     try (refine wg ?_; try refine sM fun K hK => ?_)
     refine zA ⟨_, evl, fun hb => absurd (yLv hb) (by omega), fun _ => ?_⟩
     try (refine wg ?_; try refine sM fun K hK => ?_)
     refine zR (by simp) ⟨_, _, _, evl, ob0, zV.sims ?_ ?_⟩
     ·exact z6.tup ⟨z6.row rfl rfl rfl rfl fun i hi => rfl, z6.refl _, trivial⟩
     ·exact ⟨zE (fun z => zB.free z) _, trivial, trivial⟩
abbrev yCd (l : List UInt8) : z9 := ⟨5, 1, l.length, els u8C l⟩
theorem yI8 {m : Nat} (l : List UInt8) : zMp m [yCd l] := by
 intro r hr q _
 simp only [yJb, yKj, yKq] at hr
 subst hr
 exact ⟨trivial, trivial⟩
theorem zSh (d : Int) (k : Nat) : (List.range (k + 1)).map (fun q => UInt8.ofNat (oct d q).toNat) = (List.range k).map (fun q => UInt8.ofNat (oct d q).toNat) ++ [UInt8.ofNat (oct d k).toNat] := by
 rw [yLc, yLh]; rfl
theorem zZg (d : Int) : FnG Tryz.prog 161 [.raw (.int .u64 d)] [] [] (.row 0 (zJm d).length) [] [yCd (zJm d)] := by
 refine enG Tryz.func161 Tryz.ntmps161 [.tmp 2] 0 rfl ?_
 try (refine wkR trivial ?_; try refine sM fun K hK => ?_)
 refine yI (xJ.nilRow 3 5 1 rfl) ?_
 try (refine wkR trivial ?_; try refine sM fun K hK => ?_)
 refine zJ (fun k : Nat => ⟨17, 0, [(0, true, .raw (.int .u64 d)), (3, true, .row 0 ((List.range k).map fun q => UInt8.ofNat (oct d q).toNat).length), (4, true, .raw (.int .i64 (56 - 8 * k)))], [], [yCd ((List.range k).map fun q => UInt8.ofNat (oct d q).toNat)], ((0, []), [], true)⟩)
  (fun k => k ≤ 8) (fun k => 8 - k) 0 ?_ (by omega) ?_
 ·exact wkZ
 ·intro k hk
  rcases yIq k 8 with hlt | hge
  ·have hs : ∀ i2, i2 = k + 1 → (List.range i2).map (fun q => UInt8.ofNat (oct d q).toNat) = (List.range k).map (fun q => UInt8.ofNat (oct d q).toNat) ++ [UInt8.ofNat (oct d k).toNat] := fun i2 e => e ▸ zSh d k
   have hlen : ((List.range k).map (fun q => UInt8.ofNat (oct d q).toNat)).length ≤ 8 := by simp; omega
   have ho : u8C (UInt8.ofNat (oct d k).toNat) = [.raw (.int .u8 (oct d k))] := by
    have := zJn d k
    unfold u8C
    congr 3
    simp
    omega
   unfold oct at ho
   generalize (List.range k).map (fun q => UInt8.ofNat (oct d q).toNat) = R at *
   try (refine wg ?_; try refine sM fun K hK => ?_)
   refine zA ⟨_, evl, fun _ => ?_, fun hb => absurd (yMa hb) (by omega)⟩
   try (refine wg ?_; try refine sM fun K hK => ?_)
   refine ⟨k + 1, by omega, by omega, ?_⟩
   rw [hs (k + 1) rfl, yJ2]
   refine wkn ?_ ?_ ?_
   all_goals first | exact wk0 | refine wkS ?_ | skip
   all_goals (try trivial)
   all_goals ((repeat' apply And.intro) <;> first | exact wkL | skip)
   exact fun q hq => z8.of_eq (jM rfl (by simpa using hq) ho.symm)
  ·obtain rfl : k = 8 := by omega
   rw [show (List.range 8).map (fun q => UInt8.ofNat (oct d q).toNat) = zJm d from rfl]
   generalize zJm d = R at *
   try (refine wg ?_; try refine sM fun K hK => ?_)
   refine zA ⟨_, evl, fun hb => absurd (yLv hb) (by omega), fun _ => ?_⟩
   try (refine wg ?_; try refine sM fun K hK => ?_)
   refine yE (by simp) ⟨_, _, _, evl, obq, jB.bel rfl obb, by simp, rfl, rfl, obb, yI8 _⟩
theorem zN1 (l : List Int) : txt (fun q => l.getD q 0) l.length = zEp l := by
 have := zHj l l.length (yIn _)
 rw [this, yLr]
theorem zSk (d : Int) (l : List Int) (h : okI l) (hn : l.length ≤ 1000000) : FnA Tryz.prog 111 [.raw (.int .u64 d), liA l] (.raw (.int .u64 (zG3 d l))) := by
 have hl := jC h
 have h8 : (zJm d).length = 8 := qD d
 have he := zZg d
 have ht := zAz l h hn
 have hs := zEr (zJm d ++ zEp l) (by rw [yJ2]; omega)
 unfold zG3
 rw [zN1]
 have hfl : (liA l).free := jH l
 generalize zJm d = O at *
 generalize zEp l = T at *
 refine en Tryz.func111 Tryz.ntmps111 [.tmp 4] rfl ?_
 try (first | refine wkN hK trivial ?_ | refine wkR trivial ?_)
 try clear hK K
 try refine sM fun K hK => ?_
 refine xV [] [] he rfl rfl rfl ⟨_, rfl, _, rfl, _, evl, obl, by decide, by decide, trivial, trivial, ⟨(fun _ h => by cases h), (fun _ h => by cases h), ⟨trivial, trivial⟩, yIn _, yIl _⟩, .row 0 O.length, rfl, [], rfl, [yCd O], rfl, ?_⟩
 refine stG ?_
 refine zF (hK _ ?_); clear hK K
 repeat
  first
   | (refine zF (hK _ ?_); clear hK K)
   | refine stR ?_
   | (refine yH 1 rfl ?_; first | (refine zN rfl rfl ⟨_, evl, _, _, _, evl, yR, ?_⟩; apply Exists.intro; refine ⟨fun hg => ?_, ?_⟩; · first | exact FnA.at_ (ht) rfl rfl | exact FnA.sim hs ⟨Sim.lstE (yJ2).symm fun i hi => xE rfl, trivial⟩ | exact FnA.at_s (ht) rfl xB | exact FnA.at_s (ht) rfl xC) | (refine xN rfl rfl ⟨_, evl, _, _, _, evl, _, _, evl, yR, ?_⟩; apply Exists.intro; refine ⟨fun hg => ?_, ?_⟩; · first | exact FnA.at_ (ht) rfl rfl | exact FnA.sim hs ⟨Sim.lstE (yJ2).symm fun i hi => xE rfl, trivial⟩ | exact FnA.at_s (ht) rfl xB | exact FnA.at_s (ht) rfl xC))
   | (refine zS 1 rfl ?_; refine zP rfl ⟨_, evl, _, _, _, (fun _ _ => w7), yR, ?_⟩; apply Exists.intro; refine ⟨fun hg => ?_, ?_⟩; · first | exact FnA.at_ (ht) rfl rfl | exact FnA.sim hs ⟨Sim.lstE (yJ2).symm fun i hi => xE rfl, trivial⟩ | exact FnA.at_s (ht) rfl xB | exact FnA.at_s (ht) rfl xC)
   | (refine zS 1 rfl ?_; refine zG ?_)
   | (refine z7 ?_; first | (refine zK (hK _ ?_); clear hK K) | (refine zT rfl ⟨_, evl, fun nb' => ?_⟩))
   | refine zD (fun K hK => ?_)
   | (refine xD ?_; first | (refine zC false rfl (by kernel_rfl) (by kernel_rfl) (fun K hK => ?_)) | (refine zC true rfl (by kernel_rfl) (by kernel_rfl) (fun K hK => ?_)))
 all_goals exact fA
theorem zNx (h host round auth : Int) (h1 : inK .i64 host) (h2 : inK .i64 round) (h3 : inK .i64 auth) : FnA Tryz.prog 68 [.raw (.int .u64 h), .raw (.int .i64 host), .raw (.int .i64 round), .raw (.int .i64 auth)] (.raw (.int .u64 (kS h host round auth))) := by
 have hx := zSk h [host, round, auth] (by intro x hx; simp only [yJb, yKj, yKq] at hx; rcases hx with rfl | rfl | rfl <;> assumption) (by simp)
 unfold kS
 refine en Tryz.func68 Tryz.ntmps68 [.tmp 8] rfl ?_
 repeat
  first
   | (refine zF (hK _ ?_); clear hK K)
   | refine stG ?_
   | (refine yH 1 rfl ?_; refine zN rfl rfl ⟨_, evl, _, _, _, evl, yR, ?_⟩; apply Exists.intro; refine ⟨fun hg => ?_, ?_⟩; · first | exact FnA.sim hx ⟨Sim.refl _, Sim.lstE rfl fun i hi => yB (enc := iC) (l := [host, round, auth]) (fun _ => rfl) rfl hi, trivial⟩ )
   | (refine zS 1 rfl ?_; refine zP rfl ⟨_, evl, _, _, _, (fun _ _ => w7), yR, ?_⟩; apply Exists.intro; refine ⟨fun hg => ?_, ?_⟩; · first | exact FnA.sim hx ⟨Sim.refl _, Sim.lstE rfl fun i hi => yB (enc := iC) (l := [host, round, auth]) (fun _ => rfl) rfl hi, trivial⟩ )
   | (refine zS 1 rfl ?_; refine zG ?_)
   | (refine z7 ?_; first | (refine zK (hK _ ?_); clear hK K) | (refine zT rfl ⟨_, evl, fun nb' => ?_⟩))
   | refine zD (fun K hK => ?_)
   | (refine xD ?_; first | (refine zC false rfl (by kernel_rfl) (by kernel_rfl) (fun K hK => ?_)) | (refine zC true rfl (by kernel_rfl) (by kernel_rfl) (fun K hK => ?_)))
 all_goals exact fA
theorem yAx {x y : zB} (h1 : x.kind = y.kind) (h2 : x.id = y.id) : x = y := by
 obtain ⟨_, _⟩ := x
 obtain ⟨_, _⟩ := y
 simp only at h1 h2
 rw [h1, h2]
theorem zN9 {α : Type} [Inhabited α] {a b : List α} (h : a.length = b.length) (hall : ∀ i, i < a.length → a.getD i default = b.getD i default) : a = b :=
 List.ext_getElem h fun i h1 h2 => by have := hall i h1; rwa [z5 h1, z5 h2] at this
theorem zXz (a b : List zB) (hl : a.length ≤ 4611686018427387904) : FnA Tryz.prog 22 [lA 2 zB.av a, lA 2 zB.av b] (.raw (.bool (decide (a = b)))) := by
 refine en Tryz.func22 Tryz.ntmps22 [.tmp 4] rfl ?_
 repeat' first
  | refine wkg trivial ?_
  | (refine cS (fun hb => ?_) fun hb => ?_ <;> try (cases hb; done))
  | refine sM fun K hK => ?_
  | fail
 ·refine zR (by simp) ⟨_, _, _, evl, ob0, zV.eq ?_ (by simp [AV.free])⟩
  simp only [AV.raw.injEq, Value.bool.injEq]
  rw [eq_comm, yKu]
  intro h
  have := congrArg List.length h
  omega
 refine zJ (fun k : Nat => ⟨26, 0, [(0, true, lA 2 zB.av a), (1, true, lA 2 zB.av b), (5, true, .raw (.int .i64 k))], [], [], ((0, []), [], true)⟩)
  (fun k => k ≤ a.length ∧ ∀ i, i < k → a.getD i default = b.getD i default) (fun k => a.length - k) 0 ?_ ⟨by omega, fun i h => by omega⟩ ?_
 ·exact wkZ
 ·rintro k ⟨hk, hall⟩
  repeat' first
   | refine wkg trivial ?_
   | (refine cS (fun hb => ?_) fun hb => ?_ <;> try (cases hb; done))
   | refine sM fun K hK => ?_
   | fail
  ·refine zR (by simp) ⟨_, _, _, evl, ob0, zV.eq ?_ (by simp [AV.free])⟩
   simp only [AV.raw.injEq, Value.bool.injEq]
   rw [eq_comm, yKu]
   rintro rfl
   simp at hb
  ·refine ⟨k + 1, ⟨by omega, fun i hi => ?_⟩, by omega, ?_⟩
   ·rcases yLu.1 hi with h | rfl
    ·exact hall i h
    ·simp at hb
     exact yAx (by simp_all) (by simp_all)
   ·exact wkZ
  ·refine zR (by simp) ⟨_, _, _, evl, ob0, zV.eq ?_ (by simp [AV.free])⟩
   simp only [AV.raw.injEq, Value.bool.injEq]
   rw [eq_comm, yJm]
   exact zN9 (by omega) fun i hi => hall i (by omega)
theorem zLh (a b : List (List zB)) (hl : a.length ≤ 4611686018427387904) (ha : ∀ s ∈ a, s.length ≤ 4611686018427387904) : FnA Tryz.prog 19 [lA 1 sC2 a, lA 1 sC2 b] (.raw (.bool (decide (a = b)))) := by
 refine en Tryz.func19 Tryz.ntmps19 [.tmp 4] rfl ?_
 repeat' first
  | refine wkg trivial ?_
  | (refine cS (fun hb => ?_) fun hb => ?_ <;> try (cases hb; done))
  | refine sM fun K hK => ?_
  | fail
 ·refine zR (by simp) ⟨_, _, _, evl, ob0, zV.eq ?_ (by simp [AV.free])⟩
  simp only [AV.raw.injEq, Value.bool.injEq]
  rw [eq_comm, yKu]
  intro h
  have := congrArg List.length h
  omega
 refine zJ (fun k : Nat => ⟨29, 0, [(0, true, lA 1 sC2 a), (1, true, lA 1 sC2 b), (5, true, .raw (.int .i64 k))], [], [], ((0, []), [], true)⟩)
  (fun k => k ≤ a.length ∧ ∀ i, i < k → a.getD i default = b.getD i default) (fun k => a.length - k) 0 ?_ ⟨by omega, fun i h => by omega⟩ ?_
 ·exact wkZ
 ·rintro k ⟨hk, hall⟩
  rcases yIq k a.length with hlt | hge
  ·have hs := zXz (a.getD k default) (b.getD k default) (ha _ (zAn hlt))
   have f1 : (lA 2 zB.av (a.getD k default)).free := zE (fun z => zB.free z) _
   have f2 : (lA 2 zB.av (b.getD k default)).free := zE (fun z => zB.free z) _
   have hgen : ∀ z : Bool, z = decide (a.getD k default = b.getD k default) → (z = true ↔ a.getD k default = b.getD k default) := fun z e => by rw [e, yM3]
   generalize hz : decide (a.getD k default = b.getD k default) = z at *
   have hz2 := hgen z rfl
   clear hz hgen ha
   repeat' first
    | refine wkg hs ?_
    | (refine cS (fun hb => ?_) fun hb => ?_ <;> try (cases hb; done))
    | refine sM fun K hK => ?_
    | fail
   ·refine zR (by simp) ⟨_, _, _, evl, ob0, zV.eq ?_ (by simp [AV.free])⟩
    simp only [AV.raw.injEq, Value.bool.injEq]
    rw [eq_comm, yKu]
    rintro rfl
    simp_all
   ·refine ⟨k + 1, ⟨by omega, fun i hi => ?_⟩, by omega, ?_⟩
    ·rcases yLu.1 hi with h | rfl
     ·exact hall i h
     ·exact hz2.1 (by assumption)
    ·exact wkZ
   ·omega
  ·repeat' first
    | refine wkg trivial ?_
    | (refine cS (fun hb => ?_) fun hb => ?_ <;> try (cases hb; done))
    | refine sM fun K hK => ?_
    | fail
   ·omega
   ·refine zR (by simp) ⟨_, _, _, evl, ob0, zV.eq ?_ (by simp [AV.free])⟩
    simp only [AV.raw.injEq, Value.bool.injEq]
    rw [eq_comm, yJm]
    exact zN9 (by omega) fun i hi => hall i (by omega)
end Go.Proofs.YtchpbdecipcelaaGreatDoor
