import Derived.Test.YtioaahmkebojiaaGreatDoorWC01
import Derived.Test.YtioaahmkebojiaaGreatDoorWC16
import Derived.Test.YtioaahmkebojiaaGreatDoorWC17
namespace Go.Proofs.YtioaahmkebojiaaGreatDoor
open Tryz
set_option linter.unusedVariables false
set_option linter.unusedSimpArgs false
set_option maxHeartbeats 4000000
set_option maxRecDepth 100000
open Go.RowKit
structure xY where
 id : Int
 table : Int
 temp : Rg
 age : Rg
 deriving Inhabited, DecidableEq
@[go_sem] def xY.av (x : xY) : List AV := [.raw (.int .i64 x.id), .raw (.int .i64 x.table), .raw (.int .i64 x.temp.lo), .raw (.int .i64 x.temp.hi), .raw (.int .i64 x.age.lo), .raw (.int .i64 x.age.hi)]
@[simp] theorem xY.free (x : xY) : AV.freeL x.av := ⟨trivial, trivial, trivial, trivial, trivial, trivial, trivial⟩
structure vA where
 id : Int
 err : Int
 cost : Int
 key : Int
 deriving Inhabited, DecidableEq
@[go_sem] def vA.av (x : vA) : List AV := [.raw (.int .i64 x.id), .raw (.int .i64 x.err), .raw (.int .i64 x.cost), .raw (.int .i64 x.key)]
@[simp] theorem vA.free (x : vA) : AV.freeL x.av := ⟨trivial, trivial, trivial, trivial, trivial⟩
structure zFl where
 host : Int
 auth : Int
 changes : List Change
 deriving Inhabited, DecidableEq
@[go_sem] def zFl.av (x : zFl) : List AV := [.raw (.int .i64 x.host), .raw (.int .i64 x.auth), lA 5 Change.av x.changes]
@[simp] theorem zFl.free (x : zFl) : AV.freeL x.av := ⟨trivial, trivial, zO (fun y => Change.free y) _, trivial⟩

theorem yL8 (x : xY) : FnA Tryz.prog 47 [.agg x.av] (.raw (.int .i64 x.id)) := by
 refine en func47 ntmps47 [.tmp 2] rfl ?_
 repeat' first
  | refine wkg trivial ?_
  | (refine cS (fun hb => ?_) fun hb => ?_ <;> try (cases hb; done))
  | refine sM fun K hK => ?_
  | fail
 all_goals exact fA
abbrev idHF : AV := .raw (.func (.func 47) #[] #[])
theorem yL7 (x : vA) : FnA Tryz.prog 51 [.agg x.av] (.raw (.int .i64 x.id)) := by
 refine en func51 ntmps51 [.tmp 2] rfl ?_
 repeat' first
  | refine wkg trivial ?_
  | (refine cS (fun hb => ?_) fun hb => ?_ <;> try (cases hb; done))
  | refine sM fun K hK => ?_
  | fail
 all_goals exact fA
abbrev idUF : AV := .raw (.func (.func 51) #[] #[])
theorem qE (n lo hi : Int) : FnA Tryz.prog 54 [.raw (.int .i64 n), .raw (.int .i64 lo), .raw (.int .i64 hi)] (.raw (.bool (decide (lo ≤ n) && decide (n ≤ hi)))) := by
 refine en func54 ntmps54 [.tmp 6] rfl ?_
 repeat' first
  | refine wkg trivial ?_
  | (refine cS (fun hb => ?_) fun hb => ?_ <;> try (cases hb; done))
  | refine sM fun K hK => ?_
  | fail
 all_goals exact fA
def zCy (a : vA) : Prop := (0 ≤ a.err ∧ a.err ≤ 1000000) ∧ (0 ≤ a.cost ∧ a.cost ≤ 1000000) ∧ 1 ≤ a.key ∧ a.key ≤ 1073741788
instance (a : vA) : Decidable (zCy a) := by unfold zCy; infer_instance
theorem zSq (a : vA) : FnA Tryz.prog 43 [.agg a.av] (.raw (.bool (decide (zCy a)))) := by
 refine en func43 ntmps43 [.tmp 2] rfl ?_
 repeat' first
  | (refine wkM hK qE ?_)
  | refine wkg qE ?_
  | (refine cS (fun hb => ?_) fun hb => ?_ <;> try (cases hb; done))
  | refine sM fun K hK => ?_
  | fail
 all_goals (try (refine yA sq ⟨_, _, _, evl, ob0, yP.sims ?_ fre⟩))
 all_goals first | exact xD.refl _ | (refine xD.of_eq ?_; first | rfl | (simp [zCy]; done) | (simp_all [zCy]; done) | (simp_all [zCy]; omega) | (simp [zCy]; grind) | (split <;> simp_all)) | exact x7 | (refine xD.tup ?_; simp only [xF, yOi]; (repeat' apply And.intro) <;> first | exact x7 | skip) | (exfalso; first | omega | (simp_all; done) | (simp_all; omega)) | skip
def jW {α : Type} [Inhabited α] (f : α → Int) (l : List α) : Nat → Int
 | 0 => 0
 | k + 1 => f (l.getD k default)
def zBd {α : Type} [Inhabited α] (f : α → Int) (l : List α) (most : Int) (i : Nat) : Prop := jW f l i < f (l.getD i default) ∧ f (l.getD i default) ≤ most
instance {α : Type} [Inhabited α] (f : α → Int) (l : List α) (most : Int) (i : Nat) : Decidable (zBd f l most i) := by unfold zBd; infer_instance
def kF {α : Type} [Inhabited α] (f : α → Int) (l : List α) (most : Int) : Prop := 0 < l.length ∧ ∀ i, i < l.length → zBd f l most i
instance {α : Type} [Inhabited α] (f : α → Int) (l : List α) (most : Int) : Decidable (kF f l most) := by unfold kF; infer_instance

theorem zR8 (l : List xY) (hl : l.length ≤ 9223372036854775807) (most : Int) : FnA Tryz.prog 45 [lA 6 xY.av l, idHF, .raw (.int .i64 most)] (.raw (.bool (decide (kF (fun x : xY => x.id) l most)))) := by
 refine en func45 ntmps45 [.tmp 6] rfl ?_
 try (refine wg ?_; try refine sM fun K hK => ?_)
 refine zP (fun k : Nat => ⟨33, 0, [(0, true, lA 6 xY.av l), (1, true, idHF), (2, true, .raw (.int .i64 most)), (7, true, .raw (.int .i64 (jW (fun x : xY => x.id) l k))), (11, true, lA 6 xY.av l), (12, true, .raw (.int .i64 l.length)), (13, true, .raw (.int .i64 k))], [], [], ((0, []), [], true)⟩)
  (fun k => k ≤ l.length ∧ ∀ i, i < k → zBd (fun x : xY => x.id) l most i) (fun k => l.length - k) 0 ?_ ⟨by omega, fun i h => by omega⟩ ?_
 ·exact wkZ
 ·rintro k ⟨hk, hall⟩
  have hid := yL8 (l.getD k default)
  have hno : kF (fun x : xY => x.id) l most → k < l.length → zBd (fun x : xY => x.id) l most k := fun h hk => h.2 k hk
  have hs : jW (fun x : xY => x.id) l (k + 1) = (l.getD k default).id := rfl
  have ho : zBd (fun x : xY => x.id) l most k ↔ jW (fun x : xY => x.id) l k < (l.getD k default).id ∧ (l.getD k default).id ≤ most := Iff.rfl
  generalize jW (fun x : xY => x.id) l k = la at *
  repeat' first
   | refine wkg hid ?_
   | (refine cS (fun hb => ?_) fun hb => ?_ <;> try (cases hb; done))
   | refine sM fun K hK => ?_
   | fail
  ·refine yA sq ⟨_, _, _, evl, ob0, yP.eq ?_ (by simp [AV.free])⟩
   simp only [AV.raw.injEq, Value.bool.injEq]
   rw [eq_comm, yOo]
   intro h
   have := ho.1 (hno h oq)
   omega
  ·refine ⟨k + 1, ⟨by omega, fun i hi => ?_⟩, by omega, ?_⟩
   ·rcases yPh.1 hi with h | rfl
    ·exact hall i h
    ·exact ho.2 ⟨by omega, by omega⟩
   ·rw [hs]
    exact wkZ
  ·obtain rfl : k = l.length := by omega
   refine rq ?_ ?_
   ·congr 2
    rw [decide_eq_decide]
    exact ⟨fun h => ⟨by omega, hall⟩, fun h => by have := h.1; omega⟩
   ·simp [AV.free]

theorem zR7 (l : List vA) (hl : l.length ≤ 9223372036854775807) (most : Int) : FnA Tryz.prog 49 [lA 4 vA.av l, idUF, .raw (.int .i64 most)] (.raw (.bool (decide (kF (fun x : vA => x.id) l most)))) := by
 refine en func49 ntmps49 [.tmp 6] rfl ?_
 try (refine wg ?_; try refine sM fun K hK => ?_)
 refine zP (fun k : Nat => ⟨33, 0, [(0, true, lA 4 vA.av l), (1, true, idUF), (2, true, .raw (.int .i64 most)), (7, true, .raw (.int .i64 (jW (fun x : vA => x.id) l k))), (11, true, lA 4 vA.av l), (12, true, .raw (.int .i64 l.length)), (13, true, .raw (.int .i64 k))], [], [], ((0, []), [], true)⟩)
  (fun k => k ≤ l.length ∧ ∀ i, i < k → zBd (fun x : vA => x.id) l most i) (fun k => l.length - k) 0 ?_ ⟨by omega, fun i h => by omega⟩ ?_
 ·exact wkZ
 ·rintro k ⟨hk, hall⟩
  have hid := yL7 (l.getD k default)
  have hno : kF (fun x : vA => x.id) l most → k < l.length → zBd (fun x : vA => x.id) l most k := fun h hk => h.2 k hk
  have hs : jW (fun x : vA => x.id) l (k + 1) = (l.getD k default).id := rfl
  have ho : zBd (fun x : vA => x.id) l most k ↔ jW (fun x : vA => x.id) l k < (l.getD k default).id ∧ (l.getD k default).id ≤ most := Iff.rfl
  generalize jW (fun x : vA => x.id) l k = la at *
  repeat' first
   | refine wkg hid ?_
   | (refine cS (fun hb => ?_) fun hb => ?_ <;> try (cases hb; done))
   | refine sM fun K hK => ?_
   | fail
  ·refine yA sq ⟨_, _, _, evl, ob0, yP.eq ?_ (by simp [AV.free])⟩
   simp only [AV.raw.injEq, Value.bool.injEq]
   rw [eq_comm, yOo]
   intro h
   have := ho.1 (hno h oq)
   omega
  ·refine ⟨k + 1, ⟨by omega, fun i hi => ?_⟩, by omega, ?_⟩
   ·rcases yPh.1 hi with h | rfl
    ·exact hall i h
    ·exact ho.2 ⟨by omega, by omega⟩
   ·rw [hs]
    exact wkZ
  ·obtain rfl : k = l.length := by omega
   refine rq ?_ ?_
   ·congr 2
    rw [decide_eq_decide]
    exact ⟨fun h => ⟨by omega, hall⟩, fun h => by have := h.1; omega⟩
   ·simp [AV.free]
structure Net where
 tables : List yS
 hosts : List xY
 auths : List vA
 wires : List zFl
 f : Int
 lost : Int
 timeout : Int
 deriving Inhabited, DecidableEq
@[go_sem] def Net.av (x : Net) : List AV := [lA 3 yS.av x.tables, lA 6 xY.av x.hosts, lA 4 vA.av x.auths, lA 3 zFl.av x.wires, .raw (.int .i64 x.f), .raw (.int .i64 x.lost), .raw (.int .i64 x.timeout)]
@[simp] theorem Net.free (x : Net) : AV.freeL x.av := ⟨zO (fun y => yS.free y) _, zO (fun y => xY.free y) _, zO (fun y => vA.free y) _, zO (fun y => zFl.free y) _, trivial, trivial, trivial, trivial⟩

theorem zYl (n : Net) (hl : n.hosts.length ≤ 1000) : FnA Tryz.prog 46 [.agg n.av] (lA 6 xY.av n.hosts) := by
 have hfr := zO (sz := 6) (fun y => xY.free y) n.hosts
 refine en func46 ntmps46 [.tmp 2] rfl ?_
 try (refine wg ?_; try refine sM fun K hK => ?_)
 refine y6 (xT.nilRow 3 117 6 rfl) ?_
 refine zP (fun k : Nat => ⟨19, 0, [(1, true, .box 0 0), (3, true, .row 0 (n.hosts.take k).length), (7, true, lA 6 xY.av n.hosts), (8, true, .raw (.int .i64 n.hosts.length)), (9, true, .raw (.int .i64 k))], [n.av], [⟨117, 6, (n.hosts.take k).length, els xY.av (n.hosts.take k)⟩], ((0, []), [], true)⟩)
  (fun k => k ≤ n.hosts.length) (fun k => n.hosts.length - k) 0 ?_ oq ?_
 ·simp only [List.take_zero, yO4]
  exact wkZ
 ·intro k hk
  have hlen : (n.hosts.take k).length = k := by rw [yOt]; omega
  rcases yMn k n.hosts.length with hlt | hge
  ·have hs : n.hosts.take (k + 1) = n.hosts.take k ++ [n.hosts.getD k default] := by rw [yPe hlt, yB hlt]
   try (refine wkR trivial ?_; try refine sM fun K hK => ?_)
   refine zB ⟨_, evl, fun _ => ?_, fun hb => absurd (yPo hb) oq⟩
   try (refine wkR trivial ?_; try refine sM fun K hK => ?_)
   refine ⟨k + 1, by omega, by omega, ?_⟩
   rw [hs, yN1]
   generalize n.hosts.take k = R at *
   exact wkZ
  ·obtain rfl : k = n.hosts.length := by omega
   rw [List.take_length]
   try (refine wkR trivial ?_; try refine sM fun K hK => ?_)
   refine zB ⟨_, evl, fun hb => absurd (yPn hb) oq, fun _ => ?_⟩
   try (refine wkR trivial ?_; try refine sM fun K hK => ?_)
   refine yA sq ⟨_, _, _, evl, ob0, ?_⟩
   exact yP.sims (xD.row rfl rfl rfl rfl (fun i hi => rfl)) hfr

theorem zZd (n : Net) (hl : n.auths.length ≤ 1000) : FnA Tryz.prog 50 [.agg n.av] (lA 4 vA.av n.auths) := by
 have hfr := zO (sz := 4) (fun y => vA.free y) n.auths
 refine en func50 ntmps50 [.tmp 2] rfl ?_
 try (refine wg ?_; try refine sM fun K hK => ?_)
 refine y6 (xT.nilRow 3 120 4 rfl) ?_
 refine zP (fun k : Nat => ⟨19, 0, [(1, true, .box 0 0), (3, true, .row 0 (n.auths.take k).length), (7, true, lA 4 vA.av n.auths), (8, true, .raw (.int .i64 n.auths.length)), (9, true, .raw (.int .i64 k))], [n.av], [⟨120, 4, (n.auths.take k).length, els vA.av (n.auths.take k)⟩], ((0, []), [], true)⟩)
  (fun k => k ≤ n.auths.length) (fun k => n.auths.length - k) 0 ?_ oq ?_
 ·simp only [List.take_zero, yO4]
  exact wkZ
 ·intro k hk
  have hlen : (n.auths.take k).length = k := by rw [yOt]; omega
  rcases yMn k n.auths.length with hlt | hge
  ·have hs : n.auths.take (k + 1) = n.auths.take k ++ [n.auths.getD k default] := by rw [yPe hlt, yB hlt]
   try (refine wkR trivial ?_; try refine sM fun K hK => ?_)
   refine zB ⟨_, evl, fun _ => ?_, fun hb => absurd (yPo hb) oq⟩
   try (refine wkR trivial ?_; try refine sM fun K hK => ?_)
   refine ⟨k + 1, by omega, by omega, ?_⟩
   rw [hs, yN1]
   generalize n.auths.take k = R at *
   exact wkZ
  ·obtain rfl : k = n.auths.length := by omega
   rw [List.take_length]
   try (refine wkR trivial ?_; try refine sM fun K hK => ?_)
   refine zB ⟨_, evl, fun hb => absurd (yPn hb) oq, fun _ => ?_⟩
   try (refine wkR trivial ?_; try refine sM fun K hK => ?_)
   refine yA sq ⟨_, _, _, evl, ob0, ?_⟩
   exact yP.sims (xD.row rfl rfl rfl rfl (fun i hi => rfl)) hfr
end Go.Proofs.YtioaahmkebojiaaGreatDoor
