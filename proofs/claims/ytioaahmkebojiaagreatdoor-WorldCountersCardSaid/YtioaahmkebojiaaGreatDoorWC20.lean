import Derived.Test.YtioaahmkebojiaaGreatDoorWC01
import Derived.Test.YtioaahmkebojiaaGreatDoorWC19
namespace Go.Proofs.YtioaahmkebojiaaGreatDoor
open Tryz
set_option linter.unusedVariables false
set_option linter.unusedSimpArgs false
set_option maxHeartbeats 4000000
set_option maxRecDepth 100000
open Go.RowKit

theorem zLs (l : List yS) (hl : l.length ≤ 4611686018427387904) (g : FuncId) (cap : List AV) (hcap : AV.freeL cap) (p : yS → Bool) (hp : ∀ x ∈ l, FnA Tryz.prog g (.agg x.av :: cap) (.raw (.bool (p x)))) :
  FnA Tryz.prog 99 [lA 3 yS.av l, .fn (.func g) [] cap] (.raw (.int .i64 (zNr p l))) := by
 refine en func99 ntmps99 [.tmp 4] rfl ?_
 try (refine wg ?_; try refine sM fun K hK => ?_)
 refine zP (fun k : Nat => ⟨19, 0, [(0, true, lA 3 yS.av l), (1, true, .fn (.func g) [] cap), (7, true, .raw (.int .i64 l.length)), (8, true, .raw (.int .i64 k))], [], [], ((0, []), [], true)⟩)
  (fun k => k ≤ l.length ∧ ∀ i, i < k → p (l.getD i default) = false) (fun k => l.length - k) 0 ?_ ⟨by omega, fun i h => by omega⟩ ?_
 ·exact wkZ
 ·rintro k ⟨hk, hall⟩
  try (refine wg ?_; try refine sM fun K hK => ?_)
  refine zB ⟨_, evl, ?_, ?_⟩
  ·intro hlt
   simp only [yNk] at hlt
   have hmem : l.getD k default ∈ l := by rw [yNh, yNf (show k < l.length by omega)]; exact yP5 _
   have hpk := hp _ hmem
   have hfe : AV.freeL (yS.av (l.getD k default)) := by first | exact yS.free _ | (simp [AV.free, AV.freeL, iC, u8C, kC]; done)
   try (refine wkg hpk ?_; try refine sM fun K hK => ?_)
   refine zB ⟨_, evl, ?_, ?_⟩
   ·intro hb
    try (refine wg ?_; try refine sM fun K hK => ?_)
    refine rq ?_ ?_
    ·rw [zDo (show k < l.length by omega) hall hb]
    ·simp [AV.free]
   ·intro hb
    try (refine wg ?_; try refine sM fun K hK => ?_)
    refine ⟨k + 1, ⟨by omega, fun i hi => ?_⟩, by omega, ?_⟩
    ·rcases yPh.1 hi with h | rfl
     ·exact hall i h
     ·exact hb
    ·exact wkZ
  ·intro hge
   simp only [yOo] at hge
   try (refine wg ?_; try refine sM fun K hK => ?_)
   refine rq ?_ ?_
   ·rw [zBh (fun i hi => hall i oq)]
   ·simp [AV.free]
theorem zG4 (l : List yS) (hl : l.length ≤ 4611686018427387904) (g : FuncId) (cap : List AV) (hcap : AV.freeL cap) (p : yS → Bool) (hp : ∀ x ∈ l, FnA Tryz.prog g (.agg x.av :: cap) (.raw (.bool (p x)))) :
  FnA Tryz.prog 44 [lA 3 yS.av l, .fn (.func g) [] cap] (.raw (.bool (l.any p))) := by
 have hi := zLs l hl g cap hcap p hp
 have hany := zDp p l
 have hfr : (lA 3 yS.av l).free := zO (fun y => yS.free y) _
 generalize lA 3 yS.av l = L at hi hfr
 generalize zNr p l = i at hi hany
 refine en func44 ntmps44 [.tmp 4] rfl ?_
 repeat' first
  | refine wkg hi ?_
  | (refine cS (fun hb => ?_) fun hb => ?_ <;> try (cases hb; done))
  | refine sM fun K hK => ?_
  | fail
 all_goals (try (refine yA sq ⟨_, _, _, evl, ob0, yP.sims ?_ fre⟩))
 all_goals first | exact xD.refl _ | exact yBw | exact x7 | (refine xD.tup ?_; simp only [xF, yOi]; (repeat' apply And.intro) <;> first | exact x7 | skip) | (exfalso; first | omega | (simp_all; done) | (simp_all; omega)) | skip
 all_goals (rw [hany])

theorem zLt (l : List xY) (hl : l.length ≤ 4611686018427387904) (g : FuncId) (cap : List AV) (hcap : AV.freeL cap) (p : xY → Bool) (hp : ∀ x ∈ l, FnA Tryz.prog g (.agg x.av :: cap) (.raw (.bool (p x)))) :
  FnA Tryz.prog 100 [lA 6 xY.av l, .fn (.func g) [] cap] (.raw (.int .i64 (zNr p l))) := by
 refine en func100 ntmps100 [.tmp 4] rfl ?_
 try (refine wg ?_; try refine sM fun K hK => ?_)
 refine zP (fun k : Nat => ⟨19, 0, [(0, true, lA 6 xY.av l), (1, true, .fn (.func g) [] cap), (7, true, .raw (.int .i64 l.length)), (8, true, .raw (.int .i64 k))], [], [], ((0, []), [], true)⟩)
  (fun k => k ≤ l.length ∧ ∀ i, i < k → p (l.getD i default) = false) (fun k => l.length - k) 0 ?_ ⟨by omega, fun i h => by omega⟩ ?_
 ·exact wkZ
 ·rintro k ⟨hk, hall⟩
  try (refine wg ?_; try refine sM fun K hK => ?_)
  refine zB ⟨_, evl, ?_, ?_⟩
  ·intro hlt
   simp only [yNk] at hlt
   have hmem : l.getD k default ∈ l := by rw [yNh, yNf (show k < l.length by omega)]; exact yP5 _
   have hpk := hp _ hmem
   have hfe : AV.freeL (xY.av (l.getD k default)) := by first | exact xY.free _ | (simp [AV.free, AV.freeL, iC, u8C, kC]; done)
   try (refine wkg hpk ?_; try refine sM fun K hK => ?_)
   refine zB ⟨_, evl, ?_, ?_⟩
   ·intro hb
    try (refine wg ?_; try refine sM fun K hK => ?_)
    refine rq ?_ ?_
    ·rw [zDo (show k < l.length by omega) hall hb]
    ·simp [AV.free]
   ·intro hb
    try (refine wg ?_; try refine sM fun K hK => ?_)
    refine ⟨k + 1, ⟨by omega, fun i hi => ?_⟩, by omega, ?_⟩
    ·rcases yPh.1 hi with h | rfl
     ·exact hall i h
     ·exact hb
    ·exact wkZ
  ·intro hge
   simp only [yOo] at hge
   try (refine wg ?_; try refine sM fun K hK => ?_)
   refine rq ?_ ?_
   ·rw [zBh (fun i hi => hall i oq)]
   ·simp [AV.free]
theorem zG5 (l : List xY) (hl : l.length ≤ 4611686018427387904) (g : FuncId) (cap : List AV) (hcap : AV.freeL cap) (p : xY → Bool) (hp : ∀ x ∈ l, FnA Tryz.prog g (.agg x.av :: cap) (.raw (.bool (p x)))) :
  FnA Tryz.prog 48 [lA 6 xY.av l, .fn (.func g) [] cap] (.raw (.bool (l.any p))) := by
 have hi := zLt l hl g cap hcap p hp
 have hany := zDp p l
 have hfr : (lA 6 xY.av l).free := zO (fun y => xY.free y) _
 generalize lA 6 xY.av l = L at hi hfr
 generalize zNr p l = i at hi hany
 refine en func48 ntmps48 [.tmp 4] rfl ?_
 repeat' first
  | refine wkg hi ?_
  | (refine cS (fun hb => ?_) fun hb => ?_ <;> try (cases hb; done))
  | refine sM fun K hK => ?_
  | fail
 all_goals (try (refine yA sq ⟨_, _, _, evl, ob0, yP.sims ?_ fre⟩))
 all_goals first | exact xD.refl _ | exact yBw | exact x7 | (refine xD.tup ?_; simp only [xF, yOi]; (repeat' apply And.intro) <;> first | exact x7 | skip) | (exfalso; first | omega | (simp_all; done) | (simp_all; omega)) | skip
 all_goals (rw [hany])

theorem zLr (l : List vA) (hl : l.length ≤ 4611686018427387904) (g : FuncId) (cap : List AV) (hcap : AV.freeL cap) (p : vA → Bool) (hp : ∀ x ∈ l, FnA Tryz.prog g (.agg x.av :: cap) (.raw (.bool (p x)))) :
  FnA Tryz.prog 101 [lA 4 vA.av l, .fn (.func g) [] cap] (.raw (.int .i64 (zNr p l))) := by
 refine en func101 ntmps101 [.tmp 4] rfl ?_
 try (refine wg ?_; try refine sM fun K hK => ?_)
 refine zP (fun k : Nat => ⟨19, 0, [(0, true, lA 4 vA.av l), (1, true, .fn (.func g) [] cap), (7, true, .raw (.int .i64 l.length)), (8, true, .raw (.int .i64 k))], [], [], ((0, []), [], true)⟩)
  (fun k => k ≤ l.length ∧ ∀ i, i < k → p (l.getD i default) = false) (fun k => l.length - k) 0 ?_ ⟨by omega, fun i h => by omega⟩ ?_
 ·exact wkZ
 ·rintro k ⟨hk, hall⟩
  try (refine wg ?_; try refine sM fun K hK => ?_)
  refine zB ⟨_, evl, ?_, ?_⟩
  ·intro hlt
   simp only [yNk] at hlt
   have hmem : l.getD k default ∈ l := by rw [yNh, yNf (show k < l.length by omega)]; exact yP5 _
   have hpk := hp _ hmem
   have hfe : AV.freeL (vA.av (l.getD k default)) := by first | exact vA.free _ | (simp [AV.free, AV.freeL, iC, u8C, kC]; done)
   try (refine wkg hpk ?_; try refine sM fun K hK => ?_)
   refine zB ⟨_, evl, ?_, ?_⟩
   ·intro hb
    try (refine wg ?_; try refine sM fun K hK => ?_)
    refine rq ?_ ?_
    ·rw [zDo (show k < l.length by omega) hall hb]
    ·simp [AV.free]
   ·intro hb
    try (refine wg ?_; try refine sM fun K hK => ?_)
    refine ⟨k + 1, ⟨by omega, fun i hi => ?_⟩, by omega, ?_⟩
    ·rcases yPh.1 hi with h | rfl
     ·exact hall i h
     ·exact hb
    ·exact wkZ
  ·intro hge
   simp only [yOo] at hge
   try (refine wg ?_; try refine sM fun K hK => ?_)
   refine rq ?_ ?_
   ·rw [zBh (fun i hi => hall i oq)]
   ·simp [AV.free]
theorem zG3 (l : List vA) (hl : l.length ≤ 4611686018427387904) (g : FuncId) (cap : List AV) (hcap : AV.freeL cap) (p : vA → Bool) (hp : ∀ x ∈ l, FnA Tryz.prog g (.agg x.av :: cap) (.raw (.bool (p x)))) :
  FnA Tryz.prog 52 [lA 4 vA.av l, .fn (.func g) [] cap] (.raw (.bool (l.any p))) := by
 have hi := zLr l hl g cap hcap p hp
 have hany := zDp p l
 have hfr : (lA 4 vA.av l).free := zO (fun y => vA.free y) _
 generalize lA 4 vA.av l = L at hi hfr
 generalize zNr p l = i at hi hany
 refine en func52 ntmps52 [.tmp 4] rfl ?_
 repeat' first
  | refine wkg hi ?_
  | (refine cS (fun hb => ?_) fun hb => ?_ <;> try (cases hb; done))
  | refine sM fun K hK => ?_
  | fail
 all_goals (try (refine yA sq ⟨_, _, _, evl, ob0, yP.sims ?_ fre⟩))
 all_goals first | exact xD.refl _ | exact yBw | exact x7 | (refine xD.tup ?_; simp only [xF, yOi]; (repeat' apply And.intro) <;> first | exact x7 | skip) | (exfalso; first | omega | (simp_all; done) | (simp_all; omega)) | skip
 all_goals (rw [hany])
theorem yCd (t : yS) (ht : t.fits) : FnA Tryz.prog 38 [.agg t.av] (.raw (.bool (!decide (zKy t)))) := by
 have h := zMt t ht
 have hf1 := xP t.temps
 have hf2 := xP t.ages
 have hf3 : (lA 1 liC t.rates).free := zO (fun y => show AV.freeL (liC y) from ⟨xP y, trivial⟩) _
 generalize decide (zKy t) = v at *
 refine en func38 ntmps38 [.tmp 2] rfl ?_
 repeat' first
  | refine wkg h ?_
  | (refine cS (fun hb => ?_) fun hb => ?_ <;> try (cases hb; done))
  | refine sM fun K hK => ?_
  | fail
 all_goals exact fA
theorem yCc (a : vA) : FnA Tryz.prog 42 [.agg a.av] (.raw (.bool (!decide (zCy a)))) := by
 have h := zSq a
 generalize decide (zCy a) = v at *
 refine en func42 ntmps42 [.tmp 2] rfl ?_
 repeat' first
  | refine wkg h ?_
  | (refine cS (fun hb => ?_) fun hb => ?_ <;> try (cases hb; done))
  | refine sM fun K hK => ?_
  | fail
 all_goals exact fA
theorem yCe (n : Net) (hl : n.tables.length ≤ 1000) (hf : ∀ t ∈ n.tables, t.fits) (h : xY) : FnA Tryz.prog 40 [.agg h.av, .elt n.av 0] (.raw (.bool (!decide ((zAi n h).2 = 0)))) := by
 have hb := zZ8 n hl hf h
 have f1 : (lA 3 yS.av n.tables).free := zO (fun y => yS.free y) _
 have f2 : (lA 6 xY.av n.hosts).free := zO (fun y => xY.free y) _
 have f3 : (lA 4 vA.av n.auths).free := zO (fun y => vA.free y) _
 have f4 : (lA 3 zFl.av n.wires).free := zO (fun y => zFl.free y) _
 generalize zAi n h = w at *
 refine en func40 ntmps40 [.tmp 3] rfl ?_
 repeat'
  first
   | first
    | (refine zG (hK _ ?_); clear hK K)
    | refine stG ?_
    | (refine yO 1 rfl ?_; refine yD rfl rfl ⟨_, evl, _, _, _, evl, wW, ?_⟩; apply Exists.intro; refine ⟨fun hg => ?_, ?_⟩; · first | exact FnA.at_ (hb) rfl rfl | exact FnA.at_s (hb) rfl vV | exact FnA.at_s (hb) rfl vW)
    | (refine z5 1 rfl ?_; refine yJ rfl ⟨_, evl, _, _, _, (fun _ _ => zBl), wW, ?_⟩; apply Exists.intro; refine ⟨fun hg => ?_, ?_⟩; · first | exact FnA.at_ (hb) rfl rfl | exact FnA.at_s (hb) rfl vV | exact FnA.at_s (hb) rfl vW)
    | (refine z5 1 rfl ?_; refine zE ?_)
    | (refine yH ?_; first | (refine zN (hK _ ?_); clear hK K) | (refine zT rfl ⟨_, evl, fun nb' => ?_⟩))
    | refine zH (fun K hK => ?_)
    | (refine wY ?_; first | (refine zD false rfl kq kq (fun K hK => ?_)) | (refine zD true rfl kq kq (fun K hK => ?_)))
    | (refine zB ⟨_, evl, fun hb => ?_, fun hb => ?_⟩ <;> (try simp only [yOn, yNj, yOq, yOp, yNl, yOm, yNb, yP9, yNk, yOo, yPa, yO0, ne_eq, yPb, Int.not_lt, Int.not_le, yOb, yOc] at hb))
   | fail
 all_goals exact fA
def zY5 (n : Net) : Prop := (n.tables.length ≤ 16 ∧ ∀ t ∈ n.tables, zKy t) ∧ (kF (fun h : xY => h.id) n.hosts 64 ∧ ∀ h ∈ n.hosts, (zAi n h).2 = 0) ∧ (kF (fun a : vA => a.id) n.auths 16 ∧ ∀ a ∈ n.auths, zCy a) ∧ zD0 n ∧ (0 ≤ n.f ∧ n.f ≤ 5) ∧ (0 ≤ n.lost ∧ n.lost ≤ 5) ∧ 1 ≤ n.timeout ∧ n.timeout ≤ 1000000000
instance (n : Net) : Decidable (zY5 n) := by unfold zY5; infer_instance
theorem zY4 (n : Net) : decide (zY5 n) = (decide ((n.tables.length : Int) ≤ 16) && !(n.tables.any fun t => !decide (zKy t)) && decide (kF (fun h : xY => h.id) n.hosts 64) && !(n.hosts.any fun h => !decide ((zAi n h).2 = 0)) && decide (kF (fun a : vA => a.id) n.auths 16) && !(n.auths.any fun a => !decide (zCy a)) && decide (zD0 n) && (decide (0 ≤ n.f) && decide (n.f ≤ 5)) && (decide (0 ≤ n.lost) && decide (n.lost ≤ 5)) && (decide (1 ≤ n.timeout) && decide (n.timeout ≤ 1000000000))) := by
 rw [yN7, yPk]
 simp only [zY5, yNj, yNk, yNl, List.any_eq_false, yOm, and_assoc, yNb, yOo, yPb]
 constructor
 ·rintro ⟨h1, h2, h3, h4, h5, h6, h7⟩
  exact ⟨by omega, h2, h3, h4, h5, h6, h7⟩
 ·rintro ⟨h1, h2, h3, h4, h5, h6, h7⟩
  exact ⟨by omega, h2, h3, h4, h5, h6, h7⟩
theorem zUh (n : Net) (h1 : n.tables.length ≤ 1000) (h2 : n.hosts.length ≤ 1000) (h3 : n.auths.length ≤ 1000) (h4 : n.wires.length ≤ 1000) (hc : ∀ w ∈ n.wires, w.changes.length ≤ 1000) (hf : ∀ t ∈ n.tables, t.fits) : FnA Tryz.prog 17 [.agg n.av] (.raw (.bool (decide (zY5 n)))) := by
 have f1 : (lA 3 yS.av n.tables).free := zO (fun y => yS.free y) _
 have f2 : (lA 6 xY.av n.hosts).free := zO (fun y => xY.free y) _
 have f3 : (lA 4 vA.av n.auths).free := zO (fun y => vA.free y) _
 have f4 : (lA 3 zFl.av n.wires).free := zO (fun y => zFl.free y) _
 have a1 := zG4 n.tables oq _ [] trivial (fun t => !decide (zKy t)) (fun t ht => yCd t (hf t ht))
 have a2 := zYl n h2
 have a3 := zR8 n.hosts oq 64
 have a4 := zG5 n.hosts oq _ [.elt n.av 0] ⟨⟨f1, f2, f3, f4, trivial, trivial, trivial, trivial⟩, trivial⟩ (fun h => !decide ((zAi n h).2 = 0)) (fun h _ => yCe n h1 hf h)
 have a5 := zZd n h3
 have a6 := zR7 n.auths oq 16
 have a7 := zG3 n.auths oq _ [] trivial (fun a => !decide (zCy a)) (fun a _ => yCc a)
 have a8 := zXa n h2 h3 h4 hc
 have b1 := qE n.f 0 5
 have b2 := qE n.lost 0 5
 have b3 := qE n.timeout 1 1000000000
 rw [zY4]
 generalize (n.tables.any fun t => !decide (zKy t)) = v1 at *
 generalize decide (kF (fun h : xY => h.id) n.hosts 64) = v2 at *
 generalize (n.hosts.any fun h => !decide ((zAi n h).2 = 0)) = v3 at *
 generalize decide (kF (fun a : vA => a.id) n.auths 16) = v4 at *
 generalize (n.auths.any fun a => !decide (zCy a)) = v5 at *
 generalize decide (zD0 n) = v6 at *
 clear h1 h2 h3 h4 hc hf
 refine en func17 ntmps17 [.tmp 2] rfl ?_
 try (first | refine wkM hK trivial ?_ | refine wkg trivial ?_)
 try clear hK K
 try refine sM fun K hK => ?_
 refine zAn 0 obf ⟨_, evl, _, evl, ?_⟩
 try (first | refine wkM hK (And.intro a1 (And.intro a2 (And.intro a3 (And.intro a4 (And.intro a5 (And.intro a6 (And.intro a7 (And.intro a8 (And.intro b1 (And.intro b2 b3)))))))))) ?_ | refine wkg (And.intro a1 (And.intro a2 (And.intro a3 (And.intro a4 (And.intro a5 (And.intro a6 (And.intro a7 (And.intro a8 (And.intro b1 (And.intro b2 b3)))))))))) ?_)
 try clear hK K
 try refine sM fun K hK => ?_
 refine rq ?_ ?_
 ·first | rfl | (simp [Bool.and_assoc]; done)
 ·simp [AV.free]
end Go.Proofs.YtioaahmkebojiaaGreatDoor
