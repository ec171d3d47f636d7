import Derived.Test.YtioaahmkebojiaaGreatDoorWC01
import Derived.Test.YtioaahmkebojiaaGreatDoorWC16
import Derived.Test.YtioaahmkebojiaaGreatDoorWC18
namespace Go.Proofs.YtioaahmkebojiaaGreatDoor
open Tryz
set_option linter.unusedVariables false
set_option linter.unusedSimpArgs false
set_option maxHeartbeats 4000000
set_option maxRecDepth 100000
open Go.RowKit
def yBi (ps : List (Int × Int)) (h : Int) (al : List vA) : Nat → List (Int × Int)
 | 0 => ps
 | j + 1 => yG0 (yBi ps h al j) (h, (al.getD j default).id)
def zLp (hs : List xY) (al : List vA) : Nat → List (Int × Int)
 | 0 => []
 | i + 1 => yBi (zLp hs al i) (hs.getD i default).id al al.length
def zPi (a b : zFl) : Prop := a.host < b.host ∨ a.host = b.host ∧ a.auth < b.auth
instance (a b : zFl) : Decidable (zPi a b) := by unfold zPi; infer_instance
def zDx (n : Net) (k : Nat) : Prop := ((n.wires.getD k default).host, (n.wires.getD k default).auth) ∈ zLp n.hosts n.auths n.hosts.length ∧ Lk.ValidP (n.wires.getD k default).changes ∧ (0 < k → zPi (n.wires.getD (k - 1) default) (n.wires.getD k default))
instance (n : Net) (k : Nat) : Decidable (zDx n k) := by unfold zDx; infer_instance
def zD0 (n : Net) : Prop := ∀ k, k < n.wires.length → zDx n k
instance (n : Net) : Decidable (zD0 n) := by unfold zD0; infer_instance
abbrev yL3 (ps : List (Int × Int)) : zV := ⟨194, 0, 0, vS (ps.map fun q => (jJ q, Value.bool true))⟩
theorem zZ4 (a b : zFl) : 0 ≤ (if zT9 a.host b.host = 0 then zT9 a.auth b.auth else zT9 a.host b.host) ↔ ¬ zPi a b := by
 unfold zPi zT9
 by_cases h1 : a.host < b.host
 ·rw [if_pos h1, if_neg dq]
  omega
 ·rw [if_neg h1]
  by_cases h2 : b.host < a.host
  ·rw [if_pos h2, if_neg dq]
   omega
  ·rw [if_neg h2, if_pos rfl]
   by_cases h3 : a.auth < b.auth
   ·rw [if_pos h3]
    omega
   ·rw [if_neg h3]
    by_cases h4 : b.auth < a.auth
    ·rw [if_pos h4]
     omega
    ·rw [if_neg h4]
     omega
theorem zXa (n : Net) (h1 : n.hosts.length ≤ 1000) (h2 : n.auths.length ≤ 1000) (h3 : n.wires.length ≤ 1000) (hc : ∀ w ∈ n.wires, w.changes.length ≤ 1000) : FnA Tryz.prog 53 [.agg n.av] (.raw (.bool (decide (zD0 n)))) := by
 refine en func53 ntmps53 [.tmp 2] rfl ?_
 try (first | refine wkM hK trivial ?_ | refine wkg trivial ?_)
 try clear hK K
 try refine sM fun K hK => ?_
 refine zD2 rfl rfl rfl rfl ⟨_, rfl, _, rfl, ?_⟩
 try (first | refine wkM hK trivial ?_ | refine wkg trivial ?_)
 try clear hK K
 try refine sM fun K hK => ?_
 refine zP (fun i : Nat => ⟨83, 0, [(1, true, .box 0 0), (3, true, .row 0 0), (12, true, lA 6 xY.av n.hosts), (13, true, .raw (.int .i64 n.hosts.length)), (14, true, .raw (.int .i64 i))], [n.av], [yL3 (zLp n.hosts n.auths i)], ((0, []), [], true)⟩)
  (fun i => i ≤ n.hosts.length) (fun i => n.hosts.length - i) 0 ?_ oq ?_
 ·refine wkn ?_ ?_ ?_
  all_goals first | exact wk0 | refine wkS ?_ | skip
  all_goals (try trivial)
  all_goals ((repeat' apply And.intro) <;> first | exact wkL | skip)
  all_goals (intro _; rfl)
 ·intro i hi
  try (refine wg ?_; try refine sM fun K hK => ?_)
  refine zB ⟨_, evl, fun hb => ?_, fun hb => ?_⟩
  ·simp only [yNk] at hb
   try (refine wg ?_; try refine sM fun K hK => ?_)
   refine zP (fun j : Nat => ⟨83,0,[(1,true,.box 0 0),(3,true,.row 0 0),(5,true,.box 1 0),(12,true,lA 6 xY.av n.hosts),(13,true,.raw (.int .i64 n.hosts.length)),(14,true,.raw (.int .i64 i)),(19,true,lA 4 vA.av n.auths),(20,true,.raw (.int .i64 n.auths.length)),(21,true,.raw (.int .i64 j))],[n.av,xY.av (n.hosts.getD i default)],[yL3 (yBi (zLp n.hosts n.auths i) (n.hosts.getD i default).id n.auths j)],((0,[]),[],true)⟩)
    (fun j => j ≤ n.auths.length) (fun j => n.auths.length - j) 0 ?_ oq ?_
   ·refine wkn ?_ ?_ ?_
    all_goals first | exact wk0 | refine wkS ?_ | skip
    all_goals (try trivial)
    all_goals ((repeat' apply And.intro) <;> first | exact wkL | skip)
    all_goals (intro _; rfl)
   ·intro j hj
    generalize hps : yBi (zLp n.hosts n.auths i) (n.hosts.getD i default).id n.auths j = ps
    try (refine wg ?_; try refine sM fun K hK => ?_)
    refine zB ⟨_, evl, fun hb2 => ?_, fun hb2 => ?_⟩
    ·simp only [yNk] at hb2
     try (first | refine wkM hK trivial ?_ | refine wkg trivial ?_)
     try clear hK K
     try refine sM fun K hK => ?_
     refine yC (et := 4) (zEu (kt := 195) kq kq kq (.bool true) ((n.hosts.getD i default).id, (n.auths.getD j default).id) ps) (zCo (e := 3) kq kq kq _) (zGk _) zYq (.inl rfl) kq rfl rfl ⟨_, evl, _, rfl, ⟨rfl, rfl⟩, rfl, _, evl, zNd _ _, _, evl, AV.is_raw _, _, rfl, ?_⟩
     rw [zQc]

     try (first | refine wkM hK trivial ?_ | refine wkg trivial ?_)
     try clear hK K
     try refine sM fun K hK => ?_
     refine ⟨j + 1, by omega, by omega, ?_⟩
     simp only [yBi, hps]
     generalize yG0 ps _ = ps2
     refine wkn ?_ ?_ ?_
     all_goals first | exact wk0 | refine wkS ?_ | skip
     all_goals (try trivial)
     all_goals ((repeat' apply And.intro) <;> first | exact wkL | skip)
     all_goals (intro _; rfl)
    ·simp only [yOo] at hb2
     obtain rfl : j = n.auths.length := by omega
     try (refine wg ?_; try refine sM fun K hK => ?_)
     refine ⟨i + 1, by omega, by omega, ?_⟩
     simp only [zLp, hps]
     refine wkn ?_ ?_ ?_
     all_goals first | exact wk0 | refine wkS ?_ | skip
     all_goals (try trivial)
     all_goals ((repeat' apply And.intro) <;> first | exact wkL | skip)
     all_goals (intro _; rfl)
  ·simp only [yOo] at hb
   obtain rfl : i = n.hosts.length := by omega
   generalize hps : zLp n.hosts n.auths n.hosts.length = ps
   try (refine wg ?_; try refine sM fun K hK => ?_)
   refine zP (fun k : Nat => ⟨83, 0, [(1, true, .box 0 0), (3, true, .row 0 0), (34, true, lA 3 zFl.av n.wires), (35, true, .raw (.int .i64 n.wires.length)), (36, true, .raw (.int .i64 k))], [n.av], [yL3 ps], ((0, []), [], true)⟩)
    (fun k => k ≤ n.wires.length ∧ ∀ i, i < k → zDx n i) (fun k => n.wires.length - k) 0 ?_ ⟨by omega, fun i h => by omega⟩ ?_
   ·refine wkn ?_ ?_ ?_
    all_goals first | exact wk0 | refine wkS ?_ | skip
    all_goals (try trivial)
    all_goals ((repeat' apply And.intro) <;> first | exact wkL | skip)
    all_goals (intro _; rfl)
   ·rintro k ⟨hk, hall⟩
    try (refine wg ?_; try refine sM fun K hK => ?_)
    refine zB ⟨_, evl, fun hb3 => ?_, fun hb3 => ?_⟩
    ·simp only [yNk] at hb3
     have hmem : n.wires.getD k default ∈ n.wires := by rw [yB (show k < n.wires.length by omega)]; exact yP5 _
     have hv := Lk.valid_A _ (yMk (hc _ hmem) dq)
     have hno : zD0 n → zDx n k := fun h => h k oq
     have hok : zDx n k ↔ ((n.wires.getD k default).host, (n.wires.getD k default).auth) ∈ ps ∧ Lk.ValidP (n.wires.getD k default).changes ∧ (0 < k → zPi (n.wires.getD (k - 1) default) (n.wires.getD k default)) := by rw [zDx, hps]
     have hlx := zZ4 (n.wires.getD (k - 1) default) (n.wires.getD k default)
     have o1 := zH0 (n.wires.getD (k - 1) default).host (n.wires.getD k default).host
     have o2 := zH0 (n.wires.getD (k - 1) default).auth (n.wires.getD k default).auth
     have o3 := yKz (zT9 (n.wires.getD (k - 1) default).host (n.wires.getD k default).host) (zT9 (n.wires.getD (k - 1) default).auth (n.wires.getD k default).auth)
     have e1 : ((k : Int) - 1).toNat = k - 1 := by omega
     rw [← e1] at o1 o2 o3
     try (first | refine wkM hK trivial ?_ | refine wkg trivial ?_)
     try clear hK K
     try refine sM fun K hK => ?_
     refine zE6 (et := 4) (zEu (kt := 195) kq kq kq (.bool true) ((n.wires.getD k default).host, (n.wires.getD k default).auth) ps) (zCo (e := 3) kq kq kq _) (z := .bool false) kq rfl kq rfl rfl rfl ⟨_, evl, _, rfl, ⟨rfl, rfl⟩, rfl, _, evl, zNd _ _, ?_⟩
     rw [zSz]
     simp only [yN5, zZc]

     try (first | refine wkM hK hv ?_ | refine wkg hv ?_)
     try clear hK K
     try refine sM fun K hK => ?_
     refine zB ⟨_, evl, fun hb4 => ?_, fun hb4 => ?_⟩
     ·try (refine wg ?_; try refine sM fun K hK => ?_)
      refine yA sq ⟨_, _, _, evl, ob0, yP.eq ?_ (by simp [AV.free])⟩
      simp only [AV.raw.injEq, Value.bool.injEq]
      rw [eq_comm, yOo]
      intro h
      obtain ⟨a1, a2, _⟩ := hok.1 (hno h)
      rw [yPm a1, Lk.validM, yPm a2] at hb4
      cases hb4
     ·simp only [Lk.validM, yOq, yOm, yNk] at hb4
      try (first | refine wkM hK (And.intro o1 (And.intro o2 o3)) ?_ | refine wkg (And.intro o1 (And.intro o2 o3)) ?_)
      try clear hK K
      try refine sM fun K hK => ?_
      refine zB ⟨_, evl, fun hb5 => ?_, fun hb5 => ?_⟩
      ·try (refine wg ?_; try refine sM fun K hK => ?_)
       refine yA sq ⟨_, _, _, evl, ob0, yP.eq ?_ (by simp [AV.free])⟩
       simp only [AV.raw.injEq, Value.bool.injEq]
       rw [eq_comm, yOo]
       intro h
       obtain ⟨_, _, a3⟩ := hok.1 (hno h)
       simp only [e1, yNj, yNk] at hb5
       exact hlx.1 hb5.2 (a3 oq)
      ·try (refine wg ?_; try refine sM fun K hK => ?_)
       refine ⟨k + 1, ⟨by omega, fun i hi => ?_⟩, by omega, ?_⟩
       ·rcases yPh.1 hi with h | rfl
        ·exact hall i h
        ·refine hok.2 ⟨hb4.1, hb4.2, fun h0 => ?_⟩
         simp only [e1, yOp, yOo] at hb5
         rcases hb5 with hb5 | hb5
         ·omega
         ·exact Classical.byContradiction fun hc => hb5 (hlx.2 hc)
       ·refine wkn ?_ ?_ ?_
        all_goals first | exact wk0 | refine wkS ?_ | skip
        all_goals (try trivial)
        all_goals ((repeat' apply And.intro) <;> first | exact wkL | skip)
        all_goals (intro _; rfl)
    ·simp only [yOo] at hb3
     obtain rfl : k = n.wires.length := by omega
     try (refine wg ?_; try refine sM fun K hK => ?_)
     rw [yPm (show zD0 n from hall)]
     refine rq ?_ ?_
     ·rfl
     ·simp [AV.free]
def zAi (n : Net) (h : xY) : Int × Int := if 0 ≤ h.table ∧ h.table ≤ n.tables.length - 1 then zGb (n.tables.getD h.table.toNat default) h.temp h.age else (0, 1)
theorem zZ8 (n : Net) (hl : n.tables.length ≤ 1000) (hf : ∀ t ∈ n.tables, t.fits) (h : xY) : FnA Tryz.prog 41 [.agg n.av, .agg h.av] (.tup [.raw (.int .i64 (zAi n h).1), .raw (.int .i64 (zAi n h).2)]) := by
 have hb := qE h.table 0 (n.tables.length - 1)
 by_cases hc : 0 ≤ h.table ∧ h.table ≤ n.tables.length - 1
 ·rw [zAi, if_pos hc]
  rw [yPm hc.1, yPm hc.2] at hb
  have hmem : n.tables.getD h.table.toNat default ∈ n.tables := by rw [yB oq]; exact yP5 _
  have hw := zX9 _ (hf _ hmem) h.temp h.age
  have hf1 := xP (n.tables.getD h.table.toNat default).temps
  have hf2 := xP (n.tables.getD h.table.toNat default).ages
  have hf3 : (lA 1 liC (n.tables.getD h.table.toNat default).rates).free := zO (fun y => show AV.freeL (liC y) from ⟨xP y, trivial⟩) _
  generalize zGb (n.tables.getD h.table.toNat default) h.temp h.age = w at *
  refine en func41 ntmps41 [.tmp 4, .tmp 5] rfl ?_
  repeat'
   first
    | first
     | (refine zG (hK _ ?_); clear hK K)
     | refine stG ?_
     | (refine yO 1 rfl ?_; refine yD rfl rfl ⟨_, evl, _, _, _, evl, wW, ?_⟩; apply Exists.intro; refine ⟨fun hg => ?_, ?_⟩; · first | exact FnA.at_ (hb) rfl rfl | exact FnA.at_ (hw) rfl rfl | exact FnA.at_s (hb) rfl vV | exact FnA.at_s (hb) rfl vW | exact FnA.at_s (hw) rfl vV | exact FnA.at_s (hw) rfl vW)
     | (refine z5 1 rfl ?_; refine yJ rfl ⟨_, evl, _, _, _, (fun _ _ => zBl), wW, ?_⟩; apply Exists.intro; refine ⟨fun hg => ?_, ?_⟩; · first | exact FnA.at_ (hb) rfl rfl | exact FnA.at_ (hw) rfl rfl | exact FnA.at_s (hb) rfl vV | exact FnA.at_s (hb) rfl vW | exact FnA.at_s (hw) rfl vV | exact FnA.at_s (hw) rfl vW)
     | (refine z5 1 rfl ?_; refine zE ?_)
     | (refine yH ?_; first | (refine zN (hK _ ?_); clear hK K) | (refine zT rfl ⟨_, evl, fun nb' => ?_⟩))
     | refine zH (fun K hK => ?_)
     | (refine wY ?_; first | (refine zD false rfl kq kq (fun K hK => ?_)) | (refine zD true rfl kq kq (fun K hK => ?_)))
     | (refine zB ⟨_, evl, fun hb => ?_, fun hb => ?_⟩ <;> (try simp only [yOn, yNj, yOq, yOp, yNl, yOm, yNb, yP9, yNk, yOo, yPa, yO0, ne_eq, yPb, Int.not_lt, Int.not_le, yOb, yOc] at hb))
    | fail
  refine rq ?_ ?_
  ·rfl
  ·simp [AV.free, AV.freeL]
 ·rw [zAi, if_neg hc]
  have hno : (decide (0 ≤ h.table) && decide (h.table ≤ n.tables.length - 1)) = false := by
   rw [yOp, yOo, yOo]; omega
  rw [hno] at hb
  refine en func41 ntmps41 [.tmp 4, .tmp 5] rfl ?_
  repeat'
   first
    | first
     | (refine zG (hK _ ?_); clear hK K)
     | refine stG ?_
     | (refine yO 1 rfl ?_; refine yD rfl rfl ⟨_, evl, _, _, _, evl, wW, ?_⟩; apply Exists.intro; refine ⟨fun hg => ?_, ?_⟩; · first | exact FnA.at_ (hb) rfl rfl | exact FnA.at_s (hb) rfl vV | exact FnA.at_s (hb) rfl vW)
     | (refine z5 1 rfl ?_; refine yJ rfl ⟨_, evl, _, _, _, (fun _ _ => zBl), wW, ?_⟩; apply Exists.intro; refine ⟨fun hg => ?_, ?_⟩; · first | exact FnA.at_ (hb) rfl rfl | exact FnA.at_s (hb) rfl vV | exact FnA.at_s (hb) rfl vW)
     | (refine z5 1 rfl ?_; refine zE ?_)
     | (refine yH ?_; first | (refine zN (hK _ ?_); clear hK K) | (refine zT rfl ⟨_, evl, fun nb' => ?_⟩))
     | refine zH (fun K hK => ?_)
     | (refine wY ?_; first | (refine zD false rfl kq kq (fun K hK => ?_)) | (refine zD true rfl kq kq (fun K hK => ?_)))
     | (refine zB ⟨_, evl, fun hb => ?_, fun hb => ?_⟩ <;> (try simp only [yOn, yNj, yOq, yOp, yNl, yOm, yNb, yP9, yNk, yOo, yPa, yO0, ne_eq, yPb, Int.not_lt, Int.not_le, yOb, yOc] at hb))
    | fail
  refine rq ?_ ?_
  ·rfl
  ·simp [AV.free, AV.freeL]
end Go.Proofs.YtioaahmkebojiaaGreatDoor
