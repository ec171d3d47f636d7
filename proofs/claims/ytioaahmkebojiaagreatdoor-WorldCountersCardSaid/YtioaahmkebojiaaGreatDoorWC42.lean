import Derived.Test.YtioaahmkebojiaaGreatDoorWC01
import Derived.Test.YtioaahmkebojiaaGreatDoorWC11
import Derived.Test.YtioaahmkebojiaaGreatDoorWC23
import Derived.Test.YtioaahmkebojiaaGreatDoorWC41
namespace Go.Proofs.YtioaahmkebojiaaGreatDoor
open Tryz
set_option linter.unusedVariables false
set_option linter.unusedSimpArgs false
set_option maxHeartbeats 4000000
set_option maxRecDepth 100000
open Go.RowKit
theorem zQx {P : Program} {ops : Array Oper} {r : List Oper} {k : ASt → Prop} {nt nb : Nat} {sl : List (Nat × (Bool × AV))} {bx : List (List AV)} {rw : List zV} {ys : (Nat × List (List AV)) × List (List AV) × Bool} {o : Oper} {d : Nat} (hd : o.dst = some d) (hn : Nat.blt d nt = true)
  (h : y9 ops ⟨nt, nb, sl, bx, rw, ys⟩ o = some false ∧ yZ P ops r k ⟨nt, nb, (d, (false, .raw (.bool false))) :: sl, bx, rw, ys⟩) : yZ P ops (o :: r) k ⟨nt, nb, sl, bx, rw, ys⟩ := qI hd (zCn h.1) hn h.2
@[go_sem] def wav (n : Net) (now : Int) (hs : AV) : List AV := [lA 3 yS.av n.tables, lA 6 xY.av n.hosts, lA 4 vA.av n.auths, lA 3 zFl.av n.wires, .raw (.int .i64 n.f), .raw (.int .i64 n.lost), .raw (.int .i64 n.timeout), .raw (.int .i64 now), hs]
theorem yG (n : Net) : (lA 3 yS.av n.tables).free ∧ (lA 6 xY.av n.hosts).free ∧ (lA 4 vA.av n.auths).free ∧ (lA 3 zFl.av n.wires).free := ⟨zO (fun y => yS.free y) _, zO (fun y => xY.free y) _, zO (fun y => vA.free y) _, zO (fun y => zFl.free y) _⟩
theorem zBa (n : Net) (now : Int) {hs : AV} (h : hs.free) : AV.freeL (wav n now hs) := by
 obtain ⟨f1, f2, f3, f4⟩ := yG n
 exact ⟨f1, f2, f3, f4, trivial, trivial, trivial, trivial, h, trivial⟩
theorem wQ {ch : AV} (hc : ch.free) (l : List Liv) : (lA 22 (Liv.av ch) l).free := zO (fun y => Liv.free hc y) _
def okH (now : Int) (h : Liv) : Prop := h.right ∧ h.base ≤ now ∧ h.sum now / 1000000000 ≤ 3000000000000000
instance (now : Int) (h : Liv) : Decidable (okH now h) := by unfold okH; infer_instance
theorem zQl {h : Liv} (hr : h.right) {t : Int} (h0 : h.base ≤ t) : 0 ≤ h.sum t := by
 obtain ⟨⟨b1, b2⟩, ⟨c1, c2⟩, ⟨p1, p2⟩, e1, e2⟩ := hr
 have : 0 ≤ (t - h.base) * (1000000000 + h.err) := yPg oq oq
 unfold Liv.sum
 omega
def zKl (h : Liv) (t : Int) : Int × Int := if h.right then (if h.sum t / 1000000000 ≤ 3000000000000000 then (h.sum t / 1000000000, 0) else (0, 3)) else (0, 1)
theorem zQb (h : Liv) (t : Int) (h0 : h.base ≤ t) (ht : t ≤ 900000000000000) : FnA Tryz.prog 8 [.agg (h.av mtA), .raw (.int .i64 t)] (.tup [.raw (.int .i64 (zKl h t).1), .raw (.int .i64 (zKl h t).2)]) := by
 have h1 := zIh h
 have h2 := wU t
 by_cases hr : h.right
 ·have h3 := zCv h hr t h0 ht
  have hb : 0 ≤ h.base := hr.1.1
  unfold zKl
  rw [if_pos hr]
  rw [yPm hr] at h1
  rw [yPm (by omega : 0 ≤ t), yPm (by omega : t ≤ 3000000000000000)] at h2
  generalize h.sum t / 1000000000 = S at *
  generalize h.sum t % 1000000000 = R at *
  by_cases hS : S ≤ 3000000000000000
  ·rw [if_pos hS]
   rw [yPm hS] at h3
   clear hr hb
   refine en func8 ntmps8 [.tmp 4, .tmp 5] rfl ?_
   repeat' first
    | refine wkg (And.intro h1 (And.intro h2 h3)) ?_
    | (refine cS (fun hb => ?_) fun hb => ?_ <;> try (cases hb; done))
    | refine sM fun K hK => ?_
    | fail
   all_goals exact fA
  ·rw [if_neg hS]
   rw [yPl hS] at h3
   clear hr hb
   refine en func8 ntmps8 [.tmp 4, .tmp 5] rfl ?_
   repeat' first
    | refine wkg (And.intro h1 (And.intro h2 h3)) ?_
    | (refine cS (fun hb => ?_) fun hb => ?_ <;> try (cases hb; done))
    | refine sM fun K hK => ?_
    | fail
   all_goals exact fA
 ·unfold zKl
  rw [if_neg hr]
  rw [yPl hr] at h1
  clear hr
  refine en func8 ntmps8 [.tmp 4, .tmp 5] rfl ?_
  repeat' first
   | refine wkg (And.intro h1 h2) ?_
   | (refine cS (fun hb => ?_) fun hb => ?_ <;> try (cases hb; done))
   | refine sM fun K hK => ?_
   | fail
  all_goals exact fA
theorem zDh (h : Liv) (ch : AV) (hc : Sim ch mtA) (t : Int) (h0 : h.base ≤ t) (ht : t ≤ 900000000000000) : FnA Tryz.prog 8 [.agg (h.av ch), .raw (.int .i64 t)] (.tup [.raw (.int .i64 (zKl h t).1), .raw (.int .i64 (zKl h t).2)]) := FnA.sim (zQb h t h0 ht) ⟨zQt hc h, Sim.refl _, trivial⟩
theorem zOl (n : Net) (h : Liv) (now : Int) (l : List Liv) (hid : 1 ≤ h.id ∧ h.id ≤ 64) (hn : now ≤ 900000000000000) : FnA Tryz.prog 79 [.agg (h.av zX), .agg (wav n now (lA 22 (Liv.av zX) l))] (.raw (.bool (decide (okH now h)))) := by
 obtain ⟨f1, f2, f3, f4⟩ := yG n
 have f5 := wQ (ch := zX) trivial l
 have h1 := zUa h zX zZo
 have h2 := zPs hid.1 hid.2
 have h3 := zMd
 have h4 := zS8
 have h5 := zQu
 by_cases hr : h.right
 ·by_cases hb : h.base ≤ now
  ·have h6 := zF1 h hr zX zZo now hb hn
   have hc := zQl hr hb
   have e : decide (okH now h) = decide (h.sum now / 1000000000 ≤ 3000000000000000) := by rw [yN7]; simp [okH, hr, hb]
   rw [e]
   rw [yPm hr] at h1
   have hc2 : 0 ≤ h.sum now / 1000000000 := by omega
   generalize h.sum now / 1000000000 = S at *
   generalize h.sum now % 1000000000 = R at *
   clear e hr hc
   by_cases hS : S ≤ 3000000000000000
   ·rw [yPm hS] at h6 ⊢
    refine en func79 ntmps79 [.tmp 4] rfl ?_
    repeat' first
     | refine wkg (And.intro h1 (And.intro h2 (And.intro h3 (And.intro h4 (And.intro h5 h6))))) ?_
     | (refine cS (fun hb => ?_) fun hb => ?_ <;> try (cases hb; done))
     | refine sM fun K hK => ?_
     | fail
    all_goals try (refine zQx rfl rfl ⟨evl, ?_⟩; repeat (refine stG ?_); try (refine zG (hK _ ?_); clear hK K; refine wg ?_))
    all_goals exact fA
   ·rw [yPl hS] at h6 ⊢
    refine en func79 ntmps79 [.tmp 4] rfl ?_
    repeat' first
     | refine wkg (And.intro h1 (And.intro h2 (And.intro h3 (And.intro h4 (And.intro h5 h6))))) ?_
     | (refine cS (fun hb => ?_) fun hb => ?_ <;> try (cases hb; done))
     | refine sM fun K hK => ?_
     | fail
    all_goals exact fA
  ·have e : decide (okH now h) = false := by simp [okH, hb]
   rw [e]
   rw [yPm hr] at h1
   clear e hr
   refine en func79 ntmps79 [.tmp 4] rfl ?_
   repeat' first
    | refine wkg (And.intro h1 (And.intro h2 h3)) ?_
    | (refine cS (fun hb => ?_) fun hb => ?_ <;> try (cases hb; done))
    | refine sM fun K hK => ?_
    | fail
   all_goals exact fA
 ·have e : decide (okH now h) = false := by simp [okH, hr]
  rw [e]
  rw [yPl hr] at h1
  clear e hr
  refine en func79 ntmps79 [.tmp 4] rfl ?_
  repeat' first
   | refine wkg (And.intro h1 (And.intro h2 h3)) ?_
   | (refine cS (fun hb => ?_) fun hb => ?_ <;> try (cases hb; done))
   | refine sM fun K hK => ?_
   | fail
  all_goals exact fA
theorem zDy (n : Net) (l : List Liv) (now : Int) (hv : FnA Tryz.prog 17 [.agg n.av] (.raw (.bool true))) (hl : l.length = n.hosts.length) (hlm : l.length ≤ 64) (hid : ∀ i, i < l.length → (l.getD i default).id = (n.hosts.getD i default).id ∧ 1 ≤ (l.getD i default).id ∧ (l.getD i default).id ≤ 64) (hn : now ≤ 900000000000000) :
  FnA Tryz.prog 34 [.agg (wav n now (lA 22 (Liv.av zX) l))] (.raw (.bool (decide (0 ≤ now ∧ ∀ i, i < l.length → okH now (l.getD i default))))) := by
 obtain ⟨f1, f2, f3, f4⟩ := yG n
 have f5 := wQ (ch := zX) trivial l
 have h2 := wU now
 rw [yPm (by omega : now ≤ 3000000000000000), Bool.and_true] at h2
 by_cases h0 : 0 ≤ now
 ·rw [yPm h0] at h2
  refine en func34 ntmps34 [.tmp 2] rfl ?_
  try (refine wkg (And.intro hv h2) ?_; try refine sM fun K hK => ?_)
  refine zB ⟨_, evl, fun hb => ?_, fun _ => ?_⟩
  ·exfalso
   simp [hl] at hb
  try (refine wg ?_; try refine sM fun K hK => ?_)
  refine zP (fun k : Nat => ⟨51, 0, [(1, true, .box 0 0), (26, true, lA 22 (Liv.av zX) l), (27, true, .raw (.int .i64 l.length)), (28, true, .raw (.int .i64 k))], [wav n now (lA 22 (Liv.av zX) l)], [], ((0, []), [], true)⟩)
   (fun k => k ≤ l.length ∧ ∀ i, i < k → okH now (l.getD i default)) (fun k => l.length - k) 0 ?_ ⟨by omega, fun i h => by omega⟩ ?_
  ·exact wkZ
  rintro k ⟨hk, hall⟩
  try (refine wg ?_; try refine sM fun K hK => ?_)
  refine zB ⟨_, evl, fun hb => ?_, fun hb => ?_⟩
  ·simp only [yNk] at hb
   obtain ⟨e1, e2, e3⟩ := hid k oq
   have h6 := zOl n (l.getD k default) now l ⟨e2, e3⟩ hn
   have e4 : decide ((l.getD k default).id = (n.hosts.getD k default).id) = true := yPm e1
   have hlk : k < n.hosts.length := by omega
   generalize hok : decide (okH now (l.getD k default)) = ok at *
   try (refine wkg h6 ?_; try refine sM fun K hK => ?_)
   refine zB ⟨_, evl, fun hb2 => ?_, fun hb2 => ?_⟩
   ·simp only [e4, yOb, yNi, yNl, yN5, yMq] at hb2
    have hno : ok = false := by simpa using hb2
    rw [hno, yOo] at hok
    try (refine wg ?_; try refine sM fun K hK => ?_)
    refine yA sq ⟨_, _, _, evl, ob0, yP.eq ?_ (by simp [AV.free])⟩
    simp only [AV.raw.injEq, Value.bool.injEq]
    rw [eq_comm, yOo]
    exact fun h => hok (h.2 k oq)
   ·simp only [e4, yOb, yNi, yOm, yN5, yMq] at hb2
    have hyes : ok = true := by simpa using hb2
    rw [hyes, yPk] at hok
    try (refine wg ?_; try refine sM fun K hK => ?_)
    refine ⟨k + 1, ⟨by omega, fun i hi => ?_⟩, by omega, ?_⟩
    ·rcases yPh.1 hi with h | rfl
     ·exact hall i h
     ·exact hok
    ·exact wkZ
  ·simp only [yOo] at hb
   try (refine wg ?_; try refine sM fun K hK => ?_)
   refine yA sq ⟨_, _, _, evl, ob0, yP.eq ?_ (by simp [AV.free])⟩
   simp only [AV.raw.injEq, Value.bool.injEq]
   rw [eq_comm, yNk]
   exact ⟨h0, fun i hi => hall i oq⟩
 ·rw [yPl h0] at h2
  rw [yPl (fun h => h0 h.1)]
  refine en func34 ntmps34 [.tmp 2] rfl ?_
  try (refine wkg (And.intro hv h2) ?_; try refine sM fun K hK => ?_)
  refine zB ⟨_, evl, fun _ => ?_, fun hb => ?_⟩
  ·try (refine wg ?_; try refine sM fun K hK => ?_)
   all_goals exact fA
  ·simp at hb
theorem zW6 : FnA Tryz.prog 81 [zX] zX := zHy (r := .raw (.slice none 0 0)) (args := [.raw (.slice none 0 0)]) kq rfl ⟨_, _, rfl, rfl, rfl⟩
theorem zWa : FnA Tryz.prog 82 [zX] zX := zHy (r := .raw (.slice none 0 0)) (args := [.raw (.slice none 0 0)]) kq rfl ⟨_, _, rfl, rfl, rfl⟩
theorem zW9 : FnA Tryz.prog 83 [zX] zX := zHy (r := .raw (.slice none 0 0)) (args := [.raw (.slice none 0 0)]) kq rfl ⟨_, _, rfl, rfl, rfl⟩
theorem zW7 : FnA Tryz.prog 84 [zX] zX := zHy (r := .raw (.slice none 0 0)) (args := [.raw (.slice none 0 0)]) kq rfl ⟨_, _, rfl, rfl, rfl⟩
theorem zW8 : FnA Tryz.prog 85 [zX] zX := zHy (r := .raw (.slice none 0 0)) (args := [.raw (.slice none 0 0)]) kq rfl ⟨_, _, rfl, rfl, rfl⟩
abbrev zVb : List AV := [.raw (.int .i64 0), .raw (.int .i64 0), .raw (.int .i64 0), .raw (.int .i64 0), .raw (.int .i64 0), .raw (.bool false), .raw (.bool false), .raw (.int .i64 0), .raw (.int .i64 0), .raw (.int .i64 0), .raw (.int .i64 0), .raw (.int .i64 0), .raw (.int .i64 0), zX, .raw (.int .i64 0), .raw (.int .i64 0), zX, zX, .raw (.int .i64 0), zX, zX, zX]
theorem zW5 (h : Liv) : FnA Tryz.prog 35 [.agg (h.av zX)] (.agg (h.av mtA)) := by
 have c1 := zW6
 have c2 := zWa
 have c3 := zW9
 have c4 := zW7
 have c5 := zW8
 obtain ⟨id, base, count, part, err⟩ := h
 refine en func35 ntmps35 [.cell 2 43] rfl ?_
 try (first | refine wkM hK trivial ?_ | refine wkg trivial ?_)
 try clear hK K
 try refine sM fun K hK => ?_
 refine zGf (e := 77) 1 rfl rfl rfl rfl kq kq ⟨evl, _, evl, ?_⟩
 try (first | refine wkM hK trivial ?_ | refine wkg trivial ?_)
 try clear hK K
 try refine sM fun K hK => ?_
 refine y6 (xT.sel (sl' := [(1, true, .box 2 0), (2, true, .box 0 0), (3, true, .box 1 0), (18, true, zX), (19, true, .raw (.int .i64 0)), (20, true, .raw (.int .i64 0))]) (bx' := [zVb, Liv.av mtA ⟨id, base, count, part, err⟩, Liv.av zX ⟨id, base, count, part, err⟩]) [1, 2, 0] dq (fun k hk => absurd hk sq)
  ⟨⟨_, rfl, zI (by simp [AV.freeL, AV.free])⟩, ⟨_, rfl, zI (Liv.free yU ⟨id, base, count, part, err⟩)⟩, ⟨_, rfl, zI (Liv.free (ch := zX) trivial ⟨id, base, count, part, err⟩)⟩, trivial⟩
  ⟨⟨_, rfl, .inr ⟨rfl, by simp [AV.sub]⟩⟩, ⟨_, rfl, .inr ⟨rfl, by simp [AV.sub]⟩⟩, ⟨_, rfl, .inr ⟨rfl, by simp [AV.sub]⟩⟩, ⟨_, rfl, .inl ⟨trivial, rfl⟩⟩, ⟨_, rfl, .inl ⟨trivial, rfl⟩⟩, ⟨_, rfl, .inl ⟨trivial, rfl⟩⟩, trivial⟩) ?_
 refine zA0 2 obf ⟨_, evl, _, evl, ?_⟩
 refine zP (fun _ : Unit => ⟨92,0,[(1,true,.elt (Liv.av zX ⟨id,base,count,part,err⟩) 0),(2,true,.box 0 0),(3,true,.box 1 0),(18,true,zX),(19,true,.raw (.int .i64 0)),(20,true,.raw (.int .i64 0))],[zVb,Liv.av mtA ⟨id,base,count,part,err⟩],[],((0,[]),[],true)⟩) (fun _ => True) (fun _ => 0) () ?_ trivial ?_
 ·exact wkZ
 rintro _ -
 try (refine wg ?_; try refine sM fun K hK => ?_)
 refine zB ⟨_, evl, fun hb => ?_, fun _ => ?_⟩
 ·simp at hb
 try (refine wkg (And.intro c1 (And.intro c2 (And.intro c3 (And.intro c4 c5)))) ?_; try refine sM fun K hK => ?_)
 refine zP (fun _ : Unit => ⟨92, 0, [(2, true, .box 0 0), (3, true, .box 1 0), (65, true, zX), (66, true, .raw (.int .i64 0)), (67, true, .raw (.int .i64 0))], [zVb, Liv.av mtA ⟨id, base, count, part, err⟩], [], ((0, []), [], true)⟩) (fun _ => True) (fun _ => 0) () ?_ trivial ?_
 ·exact wkZ
 rintro _ -
 try (refine wg ?_; try refine sM fun K hK => ?_)
 refine zB ⟨_, evl, fun hb => ?_, fun _ => ?_⟩
 ·simp at hb
 try (refine wg ?_; try refine sM fun K hK => ?_)
 refine rq ?_ ?_
 ·rfl
 ·exact Liv.free yU ⟨id, base, count, part, err⟩
end Go.Proofs.YtioaahmkebojiaaGreatDoor
