import Derived.Test.YtioaahmkebojiaaGreatDoorWC01
import Derived.Test.YtioaahmkebojiaaGreatDoorWC16
import Derived.Test.YtioaahmkebojiaaGreatDoorWC20
import Derived.Test.YtioaahmkebojiaaGreatDoorWC21
namespace Go.Proofs.YtioaahmkebojiaaGreatDoor
open Tryz
set_option linter.unusedVariables false
set_option linter.unusedSimpArgs false
set_option maxHeartbeats 4000000
set_option maxRecDepth 100000
open Go.RowKit
theorem zO5 (n : Int) : FnA Tryz.prog 25 [.raw (.int .i64 n)] (.raw (.bool (decide (0 ≤ n) && decide (n ≤ 1000000)))) := by
 refine en func25 ntmps25 [.tmp 2] rfl ?_
 repeat' first
  | refine wkg trivial ?_
  | (refine cS (fun hb => ?_) fun hb => ?_ <;> try (cases hb; done))
  | refine sM fun K hK => ?_
  | fail
 all_goals exact fA
theorem zGz (n : Int) : FnA Tryz.prog 26 [.raw (.int .i64 n)] (.raw (.bool (decide (0 ≤ n) && decide (n ≤ 1000000000000000)))) := by
 refine en func26 ntmps26 [.tmp 2] rfl ?_
 repeat' first
  | refine wkg trivial ?_
  | (refine cS (fun hb => ?_) fun hb => ?_ <;> try (cases hb; done))
  | refine sM fun K hK => ?_
  | fail
 all_goals exact fA
def wC (rate count : Int) : Rg × Int := if (0 ≤ rate ∧ rate ≤ 1000000) ∧ 0 ≤ count ∧ count ≤ 1000000000000000 then
 (⟨if 0 < count then (count - 1) * 1000000000 / (1000000000 + rate) + 1 else 0, zAd ((count + 1) * 1000000000) (1000000000 - rate) - 1⟩, 0) else (⟨0, 0⟩, 1)
theorem zMg {p d : Int} (hp : 0 ≤ p) (hd : 0 < d) : 0 ≤ zAd p d ∧ zAd p d ≤ p / d + 1 := by
 have := Int.ediv_nonneg hp (by omega : 0 ≤ d)
 unfold zAd
 split <;> omega
theorem zT2 (rate count : Int) : FnA Tryz.prog 10 [.raw (.int .i64 rate), .raw (.int .i64 count)] (.tup [.agg (wC rate count).1.av, .raw (.int .i64 (wC rate count).2)]) := by
 have h1 := zO5 rate
 have h2 := zGz count
 by_cases hc : (0 ≤ rate ∧ rate ≤ 1000000) ∧ 0 ≤ count ∧ count ≤ 1000000000000000
 ·rw [wC, if_pos hc]
  rw [yPm hc.1.1, yPm hc.1.2] at h1
  rw [yPm hc.2.1, yPm hc.2.2] at h2
  obtain ⟨⟨r1, r2⟩, r3, r4⟩ := hc
  have d1 : max (count - 1) (-(count - 1)) * 1000000000 / (1000000000 + rate) < 3000000000000000 := by
   refine yPq oq ?_
   have : 3000000000000000 * (1000000000 + rate) ≥ 3000000000000000 * 1000000000 := yPp oq dq
   omega
  have d2 : (count + 1) * 1000000000 / (1000000000 - rate) < 2000000000000000 := by
   refine yPq oq ?_
   have : 2000000000000000 * (1000000000 - rate) ≥ 2000000000000000 * 999000000 := yPp oq dq
   omega
  have f1 := zHu (count - 1) 1000000000 (1000000000 + rate) oq dq oq d1
  have f2 := zTb (count + 1) 1000000000 (1000000000 - rate) oq dq oq oq
  have c2 := zMg (p := (count + 1) * 1000000000) (d := 1000000000 - rate) oq oq
  have hlo : max ((count - 1) * 1000000000 / (1000000000 + rate) + 1) 0 = (if 0 < count then (count - 1) * 1000000000 / (1000000000 + rate) + 1 else 0) := by
   split
   ·have := Int.ediv_nonneg (a := (count - 1) * 1000000000) (b := 1000000000 + rate) oq oq
    omega
   ·obtain rfl : count = 0 := by omega
    have : (0 - 1) * 1000000000 / (1000000000 + rate) = -1 := by
     refine ((Int.ediv_emod_unique (r := rate) (q := -1) oq).2 ⟨?_, by omega, by omega⟩).1
     omega
    omega
  have hb : -3000000000000000 ≤ (count - 1) * 1000000000 / (1000000000 + rate) ∧ (count - 1) * 1000000000 / (1000000000 + rate) ≤ 3000000000000000 := by
   refine ⟨Int.le_ediv_of_mul_le oq ?_, Int.le_of_lt (yPq oq ?_)⟩
   ·have : 3000000000000000 * (1000000000 + rate) ≥ 3000000000000000 * 1000000000 := yPp oq dq
    omega
   ·have : 3000000000000000 * (1000000000 + rate) ≥ 3000000000000000 * 1000000000 := yPp oq dq
    omega
  rw [← hlo]
  clear d1 hlo
  generalize (count - 1) * 1000000000 / (1000000000 + rate) = X at *
  generalize zAd ((count + 1) * 1000000000) (1000000000 - rate) = Y at *
  generalize (count + 1) * 1000000000 / (1000000000 - rate) = Z at *
  refine en func10 ntmps10 [.cell 4 61, .tmp 5] rfl ?_
  repeat' first
   | refine wkg (And.intro h1 (And.intro h2 (And.intro f1 f2))) ?_
   | (refine cS (fun hb => ?_) fun hb => ?_ <;> try (cases hb; done))
   | refine sM fun K hK => ?_
   | fail
  refine rq ?_ ?_
  ·rfl
  ·simp [AV.free, AV.freeL, go_sem]
 ·rw [wC, if_neg hc]
  refine en func10 ntmps10 [.cell 4 61, .tmp 5] rfl ?_
  repeat' first
   | refine wkg (And.intro h1 h2) ?_
   | (refine cS (fun hb => ?_) fun hb => ?_ <;> try (cases hb; done))
   | refine sM fun K hK => ?_
   | fail
  ·refine rq ?_ ?_
   ·rfl
   ·simp [AV.free, AV.freeL, go_sem]
  ·exact absurd ⟨hb.1, hb.2⟩ hc
theorem zT8 (rate e : Int) (hr : 0 ≤ rate ∧ rate ≤ 1000000) (he : 0 ≤ e ∧ e ≤ 900000000000000) : FnA Tryz.prog 9 [.raw (.int .i64 rate), .raw (.int .i64 e)] (.tup [.agg (qP rate e).1.av, .raw (.int .i64 (qP rate e).2)]) := by
 have h1 := zO5 rate
 have h2 := zGz e
 rw [yPm hr.1, yPm hr.2] at h1
 rw [yPm he.1, yPm (by omega : e ≤ 1000000000000000)] at h2
 rw [qP, if_pos ⟨hr, he.1, by omega⟩]
 have m1 : e * (1000000000 - rate) ≤ e * 1000000000 := yPp oq he.1
 have m2 : e * (1000000000 + rate) ≤ e * 1001000000 := yPp oq he.1
 have f1 := zHu e (1000000000 - rate) 1000000000 oq oq dq (by
  rw [show max e (-e) = e by omega]
  exact yPq dq oq)
 have f2 := zTb e (1000000000 + rate) 1000000000 oq oq dq (yPq dq oq)
 clear m1 m2
 generalize zAd (e * (1000000000 + rate)) 1000000000 = Y at *
 generalize e * (1000000000 - rate) / 1000000000 = X at *
 refine en func9 ntmps9 [.cell 4 61, .tmp 5] rfl ?_
 repeat' first
  | refine wkg (And.intro h1 (And.intro h2 (And.intro f1 f2))) ?_
  | (refine cS (fun hb => ?_) fun hb => ?_ <;> try (cases hb; done))
  | refine sM fun K hK => ?_
  | fail
 refine rq ?_ ?_
 ·rfl
 ·simp [AV.free, AV.freeL, go_sem]
theorem zV0 (n : Net) : (lA 3 yS.av n.tables).free ∧ (lA 6 xY.av n.hosts).free ∧ (lA 4 vA.av n.auths).free ∧ (lA 3 zFl.av n.wires).free := ⟨zO (fun y => yS.free y) _, zO (fun y => xY.free y) _, zO (fun y => vA.free y) _, zO (fun y => zFl.free y) _⟩
def zZv (n : Net) : Prop := (n.tables.length ≤ 20 ∧ n.hosts.length ≤ 20 ∧ n.auths.length ≤ 20 ∧ n.wires.length ≤ 60) ∧ (∀ i, i < n.tables.length → ((n.tables.getD i default).temps.length ≤ 10 ∧ (n.tables.getD i default).ages.length ≤ 10 ∧ (n.tables.getD i default).rates.length ≤ 10) ∧ ∀ j, j < (n.tables.getD i default).rates.length → ((n.tables.getD i default).rates.getD j default).length ≤ 10) ∧ ∀ i, i < n.wires.length → (n.wires.getD i default).changes.length ≤ 30
instance (n : Net) : Decidable (zZv n) := by unfold zZv; infer_instance
theorem zYr (n : Net) : FnA Tryz.prog 5 [.agg n.av] (.raw (.bool (decide (zZv n)))) := by
 obtain ⟨f1, f2, f3, f4⟩ := zV0 n
 refine en func5 ntmps5 [.tmp 2] rfl ?_
 try (refine wg ?_; try refine sM fun K hK => ?_)
 refine yLs ⟨_, evl, ⟨cb, cb⟩, fun hb => ?_, fun hb => ?_⟩
 ·try (refine wg ?_; try refine sM fun K hK => ?_)
  refine yA sq ⟨_, _, _, evl, ob0, yP.eq ?_ (by simp [AV.free])⟩
  simp only [AV.raw.injEq, Value.bool.injEq]
  rw [eq_comm, yOo]
  intro h
  have := h.1
  omega
 ·try (refine wg ?_; try refine sM fun K hK => ?_)
  refine zP (fun k : Nat => ⟨88, 0, [(1, true, .box 0 0), (3, true, .raw (.int .i64 k))], [n.av], [], ((0, []), [], true)⟩)
   (fun k => k ≤ n.tables.length ∧ ∀ i, i < k → ((n.tables.getD i default).temps.length ≤ 10 ∧ (n.tables.getD i default).ages.length ≤ 10 ∧ (n.tables.getD i default).rates.length ≤ 10) ∧ ∀ j, j < (n.tables.getD i default).rates.length → ((n.tables.getD i default).rates.getD j default).length ≤ 10) (fun k => n.tables.length - k) 0 ?_ ⟨by omega, fun i h => by omega⟩ ?_
  ·exact wkZ
  ·rintro k ⟨hk, hall⟩
   have hno : zZv n → k < n.tables.length → ((n.tables.getD k default).temps.length ≤ 10 ∧ (n.tables.getD k default).ages.length ≤ 10 ∧ (n.tables.getD k default).rates.length ≤ 10) ∧ ∀ j, j < (n.tables.getD k default).rates.length → ((n.tables.getD k default).rates.getD j default).length ≤ 10 := fun h => h.2.1 k
   try (refine wg ?_; try refine sM fun K hK => ?_)
   refine zB ⟨_, evl, fun hb2 => ?_, fun hb2 => ?_⟩
   ·simp only [yNk] at hb2
    try (refine wg ?_; try refine sM fun K hK => ?_)
    refine yLs ⟨_, evl, ⟨cb, cb⟩, fun hb3 => ?_, fun hb3 => ?_⟩
    ·try (refine wg ?_; try refine sM fun K hK => ?_)
     refine yA sq ⟨_, _, _, evl, ob0, yP.eq ?_ (by simp [AV.free])⟩
     simp only [AV.raw.injEq, Value.bool.injEq]
     rw [eq_comm, yOo]
     intro h
     have := (hno h oq).1
     omega
    ·try (refine wg ?_; try refine sM fun K hK => ?_)
     refine zP (fun j : Nat => ⟨88, 0, [(1, true, .box 0 0), (3, true, .raw (.int .i64 k)), (4, true, .box 1 0), (5, true, .raw (.int .i64 j))], [n.av, yS.av (n.tables.getD k default)], [], ((0, []), [], true)⟩)
      (fun j => j ≤ (n.tables.getD k default).rates.length ∧ ∀ q, q < j → ((n.tables.getD k default).rates.getD q default).length ≤ 10) (fun j => (n.tables.getD k default).rates.length - j) 0 ?_ ⟨by omega, fun i h => by omega⟩ ?_
     ·exact wkZ
     ·rintro j ⟨hj, hjall⟩
      try (refine wg ?_; try refine sM fun K hK => ?_)
      refine zB ⟨_, evl, fun hb4 => ?_, fun hb4 => ?_⟩
      ·simp only [yNk] at hb4
       try (refine wg ?_; try refine sM fun K hK => ?_)
       refine zB ⟨_, evl, fun hb5 => ?_, fun hb5 => ?_⟩
       ·simp only [yNk] at hb5
        try (refine wg ?_; try refine sM fun K hK => ?_)
        refine yA sq ⟨_, _, _, evl, ob0, yP.eq ?_ (by simp [AV.free])⟩
        simp only [AV.raw.injEq, Value.bool.injEq]
        rw [eq_comm, yOo]
        intro h
        have := (hno h oq).2 j oq
        simp at this hb5
        omega
       ·simp only [yOo] at hb5
        try (refine wg ?_; try refine sM fun K hK => ?_)
        refine ⟨j + 1, ⟨by omega, fun i hi => ?_⟩, by omega, ?_⟩
        ·rcases yPh.1 hi with h | rfl
         ·exact hjall i h
         ·simp at hb5 ⊢; omega
        ·exact wkZ
      ·simp only [yOo] at hb4
       try (refine wg ?_; try refine sM fun K hK => ?_)
       refine ⟨k + 1, ⟨by omega, fun i hi => ?_⟩, by omega, ?_⟩
       ·rcases yPh.1 hi with h | rfl
        ·exact hall i h
        ·exact ⟨by omega, fun q hq => hjall q oq⟩
       ·exact wkZ
   ·simp only [yOo] at hb2
    try (refine wg ?_; try refine sM fun K hK => ?_)
    refine zP (fun k : Nat => ⟨88, 0, [(1, true, .box 0 0), (6, true, .raw (.int .i64 k))], [n.av], [], ((0, []), [], true)⟩)
     (fun k => k ≤ n.wires.length ∧ ∀ i, i < k → (n.wires.getD i default).changes.length ≤ 30) (fun k => n.wires.length - k) 0 ?_ ⟨by omega, fun i h => by omega⟩ ?_
    ·exact wkZ
    ·rintro q ⟨hq, hqall⟩
     have hfe := Lk.few_A (n.wires.getD q default).changes
     have hnq : zZv n → q < n.wires.length → (n.wires.getD q default).changes.length ≤ 30 := fun h => h.2.2 q
     have hf5 : (lA 5 Change.av (n.wires.getD q default).changes).free := zO (fun y => Change.free y) _
     try (refine wg ?_; try refine sM fun K hK => ?_)
     refine zB ⟨_, evl, fun hb4 => ?_, fun hb4 => ?_⟩
     ·simp only [yNk] at hb4
      try (refine wkg hfe ?_; try refine sM fun K hK => ?_)
      refine zB ⟨_, evl, fun hb5 => ?_, fun hb5 => ?_⟩
      ·try (refine wg ?_; try refine sM fun K hK => ?_)
       refine yA sq ⟨_, _, _, evl, ob0, yP.eq ?_ (by simp [AV.free])⟩
       simp only [AV.raw.injEq, Value.bool.injEq]
       rw [eq_comm, yOo]
       intro h
       rw [yPm (hnq h oq)] at hb5
       cases hb5
      ·try (refine wg ?_; try refine sM fun K hK => ?_)
       refine ⟨q + 1, ⟨by omega, fun i hi => ?_⟩, by omega, ?_⟩
       ·rcases yPh.1 hi with h | rfl
        ·exact hqall i h
        ·simpa using hb5
       ·exact wkZ
     ·simp only [yOo] at hb4
      try (refine wg ?_; try refine sM fun K hK => ?_)
      refine yA sq ⟨_, _, _, evl, ob0, yP.eq ?_ (by simp [AV.free])⟩
      simp only [AV.raw.injEq, Value.bool.injEq]
      rw [eq_comm, yNk]
      exact ⟨by omega, fun i hi => hall i oq, fun i hi => hqall i oq⟩
end Go.Proofs.YtioaahmkebojiaaGreatDoor
