import Derived.Test.YtchpbdecipcelaaGreatDoorHO01
import Derived.Test.YtchpbdecipcelaaGreatDoorHO17
import Derived.Test.YtchpbdecipcelaaGreatDoorHO28
namespace Go.Proofs.YtchpbdecipcelaaGreatDoor
set_option linter.unusedVariables false
set_option linter.unusedSimpArgs false
set_option maxHeartbeats 4000000
set_option maxRecDepth 100000
open Go.RowKit
def zS0 : Option zM → AV
 | none => .raw (.pointer none)
 | some y => .elt y.av 0
def zL3 (l : List zM) (i : Nat) : Option zM := if i = 0 then none else some (l.getD (i - 1) default)
theorem zU6 (l : List zM) (hl : l.length ≤ 4611686018427387904) (g : FuncId) (cap : List AV) (hcap : AV.freeL cap) (p : Nat → Bool) (hp : ∀ i, i < l.length → FnA Tryz.prog g (zS0 (zL3 l i) :: .agg (l.getD i default).av :: cap) (.raw (.bool (p i)))) :
  FnA Tryz.prog 185 [lA 10 zM.av l, .fn (.func g) [] cap] (.raw (.bool (decide (∀ i, i < l.length → p i = true)))) := by
 have hfr : (lA 10 zM.av l).free := zE (fun y => zM.free y) _
 refine en Tryz.func185 Tryz.ntmps185 [.tmp 4] rfl ?_
 try (refine wg ?_; try refine sM fun K hK => ?_)
 refine zJ (fun k : Nat => ⟨24, 0, [(0, true, lA 10 zM.av l), (1, true, .fn (.func g) [] cap), (5, true, zS0 (zL3 l k)), (7, true, lA 10 zM.av l), (8, true, .raw (.int .i64 l.length)), (9, true, .raw (.int .i64 k))], [], [], ((0, []), [], true)⟩)
  (fun k => k ≤ l.length ∧ ∀ i, i < k → p i = true) (fun k => l.length - k) 0 ?_ ⟨by omega, fun i h => by omega⟩ ?_
 ·rw [show zS0 (zL3 l 0) = .raw (.pointer none) from rfl]
  exact wkZ
 ·rintro k ⟨hk, hall⟩
  have hpf : (zS0 (zL3 l k)).free := by
   unfold zL3
   split
   ·trivial
   ·exact zM.free _
  have hnx : zS0 (zL3 l (k + 1)) = .elt (l.getD k default).av 0 := rfl
  rcases yIq k l.length with hlt | hge
  ·have hpk := hp k hlt
   have hpv : FnA Tryz.prog g (zS0 (zL3 l k) :: .agg (l.getD k default).av :: cap) (.raw (.bool (p k))) := hpk
   generalize zS0 (zL3 l k) = V at *
   generalize hb : p k = b at *
   try (refine wg ?_; try refine sM fun K hK => ?_)
   refine zA ⟨_, evl, fun _ => ?_, fun hb => absurd (yMa hb) (by omega)⟩
   try (refine wkg hpv ?_; try refine sM fun K hK => ?_)
   cases b with
   | false =>
    refine zA ⟨_, evl, fun _ => ?_, fun hb => absurd hb (by decide)⟩
    try (refine wg ?_; try refine sM fun K hK => ?_)
    refine zR (by simp) ⟨_, _, _, evl, ob0, zV.eq ?_ (by simp [AV.free])⟩
    simp only [AV.raw.injEq, Value.bool.injEq]
    rw [eq_comm, yKu]
    intro h
    rw [h k hlt] at hb
    cases hb
   | true =>
    refine zA ⟨_, evl, fun hb => absurd hb (by decide), fun _ => ?_⟩
    try (refine wg ?_; try refine sM fun K hK => ?_)
    refine ⟨k + 1, ⟨by omega, fun i hi => ?_⟩, by omega, ?_⟩
    ·rcases yLu.1 hi with h | rfl
     ·exact hall i h
     ·exact hb
    ·rw [hnx]
     exact wkZ
  ·obtain rfl : k = l.length := by omega
   generalize zS0 (zL3 l l.length) = V at *
   try (refine wg ?_; try refine sM fun K hK => ?_)
   refine zA ⟨_, evl, fun hb => absurd (yLv hb) (by omega), fun _ => ?_⟩
   try (refine wg ?_; try refine sM fun K hK => ?_)
   refine zR (by simp) ⟨_, _, _, evl, ob0, zV.eq ?_ (by simp [AV.free])⟩
   simp only [AV.raw.injEq, Value.bool.injEq]
   rw [eq_comm, yJm]
   exact hall
def zXe (l : List zM) (host number head : Int) (i : Nat) : Prop :=
 (∀ y, zL3 l i = some y → y.auth < (l.getD i default).auth) ∧ yJ (l.getD i default) ∧ (l.getD i default).host = host ∧ (l.getD i default).round = number ∧ (l.getD i default).nonce = kS head host number (l.getD i default).auth
instance (l : List zM) (host number head : Int) (i : Nat) : Decidable (zXe l host number head i) := by
 unfold zXe
 cases zL3 l i with
 | none => exact decidable_of_iff (yJ (l.getD i default) ∧ (l.getD i default).host = host ∧ (l.getD i default).round = number ∧ (l.getD i default).nonce = kS head host number (l.getD i default).auth) ⟨fun h => ⟨fun y e => (by cases e), h⟩, fun h => h.2⟩
 | some y => exact decidable_of_iff (y.auth < (l.getD i default).auth ∧ yJ (l.getD i default) ∧ (l.getD i default).host = host ∧ (l.getD i default).round = number ∧ (l.getD i default).nonce = kS head host number (l.getD i default).auth) ⟨fun h => ⟨fun z e => (by cases e; exact h.1), h.2⟩, fun h => ⟨h.1 y rfl, h.2⟩⟩
theorem zZ8 (l : List zM) (i : Nat) (x : zM) (hx : l.getD i default = x) (hf : x.fits) (host number head : Int) (h1 : inK .i64 host) (h2 : inK .i64 number) (h3 : inK .u64 head) :
  FnA Tryz.prog 186 [zS0 (zL3 l i), .agg x.av, .elt [.raw (.int .i64 host)] 0, .elt [.raw (.int .i64 number)] 0, .elt [.raw (.int .u64 head)] 0] (.raw (.bool (decide (zXe l host number head i)))) := by
 have hw := zIn x
 have hn := zYm head host number x.auth h3 h1 h2 hf.1
 have e : decide (zXe l host number head i) = ((match zL3 l i with | none => true | some y => decide (y.auth < x.auth)) && (decide (yJ x) && decide (x.host = host) && decide (x.round = number) && decide (x.nonce = kS head host number x.auth))) := by
  rw [yJ8, yM3]
  unfold zXe
  rw [hx]
  cases zL3 l i with
  | none => simp [and_assoc]
  | some y => simp [and_assoc]
 rw [e]
 clear e hx
 generalize decide (yJ x) = b at *
 generalize kS head host number x.auth = N at *
 cases zL3 l i with
 | none =>
  simp only [zS0, Bool.true_and]
  refine en Tryz.func186 Tryz.ntmps186 [.tmp 7] rfl ?_
  repeat' first
   | refine wkg (And.intro hw hn) ?_
   | (refine cS (fun hb => ?_) fun hb => ?_ <;> try (cases hb; done))
   | refine sM fun K hK => ?_
   | fail
  all_goals exact fA
 | some y =>
  simp only [zS0]
  refine en Tryz.func186 Tryz.ntmps186 [.tmp 7] rfl ?_
  repeat' first
   | refine wkg (And.intro hw hn) ?_
   | (refine cS (fun hb => ?_) fun hb => ?_ <;> try (cases hb; done))
   | refine sM fun K hK => ?_
   | fail
  all_goals exact fA
def zFf (r : yP) (host number head : Int) : Prop := ∀ i, i < r.replies.length → zXe r.replies host number head i
instance (r : yP) (host number head : Int) : Decidable (zFf r host number head) := by unfold zFf; infer_instance
theorem yBh (r : yP) (hl : r.replies.length ≤ 4611686018427387904) (hf : ∀ x ∈ r.replies, x.fits) (host number head : Int) (h1 : inK .i64 host) (h2 : inK .i64 number) (h3 : inK .u64 head) :
  FnA Tryz.prog 123 [.agg r.av, .raw (.int .i64 host), .raw (.int .i64 number), .raw (.int .u64 head)] (.raw (.bool (decide (zFf r host number head)))) := by
 obtain ⟨rs⟩ := r
 simp only at hl hf
 have hfr : (lA 10 zM.av rs).free := zE (fun y => zM.free y) _
 have hc := zU6 rs hl 186 [.elt [.raw (.int .i64 host)] 0, .elt [.raw (.int .i64 number)] 0, .elt [.raw (.int .u64 head)] 0] ⟨⟨trivial, trivial⟩, ⟨trivial, trivial⟩, ⟨trivial, trivial⟩, trivial⟩ (fun i => decide (zXe rs host number head i)) fun i hi => zZ8 rs i _ rfl (hf _ (zAn hi)) host number head h1 h2 h3
 have e : decide (∀ i, i < rs.length → decide (zXe rs host number head i) = true) = decide (zFf ⟨rs⟩ host number head) := by
  rw [decide_eq_decide]
  exact ⟨fun h i hi => yLv (h i hi), fun h i hi => yM1 (h i hi)⟩
 rw [e] at hc
 generalize decide (zFf ⟨rs⟩ host number head) = b at *
 clear e
 refine en Tryz.func123 Tryz.ntmps123 [.tmp 8] rfl ?_
 try (first | refine wkM hK trivial ?_ | refine wkg trivial ?_)
 try clear hK K
 try refine sM fun K hK => ?_
 refine zX 0 obf ⟨_, evl, _, evl, ?_⟩
 try (first | refine wkM hK hc ?_ | refine wkg hc ?_)
 try clear hK K
 try refine sM fun K hK => ?_
 all_goals exact fA
def j9 (c : xS) : Prop := (1 ≤ c.host ∧ c.host ≤ 64) ∧ c.rounds.length ≤ 200 ∧ ∀ k, k < c.rounds.length → zFf (c.rounds.getD k default) c.host ((k : Int) + 1) (wT c.rounds k)
instance (c : xS) : Decidable (j9 c) := by unfold j9; infer_instance
theorem zAe (l : List yP) (n : Nat) : (qG l n).length = n := by simp [qG]
theorem zM4 {l : List yP} {k : Nat} {item : List AV} (h : (qG l k ++ [item]) <+: qG l l.length) : k < l.length ∧ item = zQ4 l k := by
 have h1 := h.length_le
 rw [yJ2, zAe, zAe] at h1
 simp only [yIz, yK8] at h1
 refine ⟨by omega, ?_⟩
 have h2 := zGy l (k := k + 1) (n := l.length) (by omega)
 rw [qF] at h2
 have h3 := List.prefix_of_prefix_length_le h h2 (by simp)
 have h4 := h3.eq_of_length (by simp)
 have h5 := List.append_cancel_left h4
 simpa using h5
theorem zWl (c : xS) (hl : c.rounds.length ≤ 4611686018427387904) (hh : inK .i64 c.host) (hr : ∀ r ∈ c.rounds, r.replies.length ≤ 400000 ∧ ∀ x ∈ r.replies, x.fits) : FnA Tryz.prog 75 [.agg c.av] (.raw (.bool (decide (j9 c)))) := by
 have hw := zFp c.host 1 64
 have hfr : (lA 1 yP.av c.rounds).free := zE (fun y => yP.free y) _
 by_cases hc : (1 ≤ c.host ∧ c.host ≤ 64) ∧ c.rounds.length ≤ 200
 ·rw [yM1 hc.1.1, yM1 hc.1.2] at hw
  have hlen := hc.2
  have hds := zZ4 c.rounds
  have hS := zZ3 c.rounds (by omega) hr
  have hno : ∀ k, k < c.rounds.length → ¬ zFf (c.rounds.getD k default) c.host ((k : Int) + 1) (wT c.rounds k) → ¬ j9 c := fun k hk hn h => hn (h.2.2 k hk)
  have hyes : (∀ k, k < c.rounds.length → zFf (c.rounds.getD k default) c.host ((k : Int) + 1) (wT c.rounds k)) → j9 c := fun h => ⟨hc.1, hc.2, h⟩
  refine en Tryz.func75 Tryz.ntmps75 [.cell 2 4] rfl ?_
  try (refine wkg hw ?_; try refine sM fun K hK => ?_)
  refine zA ⟨_, evl, fun hb => absurd hb (by simp; omega), fun _ => ?_⟩
  try (refine wkg hds ?_; try refine sM fun K hK => ?_)
  refine vP (fun h j bx rw ys => rw = [] ∧ ys = ((0, []), [], true) ∧ ∃ k, k ≤ c.rounds.length ∧ h = qG c.rounds k ∧ bx = [c.av, [.raw (.bool false)], [.raw (.int .i64 k)]] ∧ ((j = none ∧ ∀ i, i < k → zFf (c.rounds.getD i default) c.host ((i : Int) + 1) (wT c.rounds i)) ∨ (j = some none ∧ ¬ j9 c)))
   rfl rfl ⟨⟨hfr, trivial⟩, trivial⟩ hS ⟨by simp, by simp⟩ (by simp) ⟨rfl, rfl, 0, yIl _, rfl, rfl, .inl ⟨rfl, fun i hi => by omega⟩⟩ ?_ ?_ ?_
  ·rintro h item bx rw ys ⟨rfl, rfl, k, hk, rfl, rfl, hj⟩ hpr _
   obtain ⟨hlt, rfl⟩ := zM4 hpr
   obtain ⟨_, hall⟩ := hj.resolve_right (fun h => by cases h.1)
   refine ⟨rfl, ?_⟩
   simp only [zBp, zQ4, yJ0, yJ9]
   obtain ⟨g1, g2⟩ := hr _ (zAn hlt)
   have hfk : (lA 10 zM.av (c.rounds.getD k default).replies).free := zE (fun y => zM.free y) _
   have hft := yBh (c.rounds.getD k default) (by omega) g2 c.host ((k : Int) + 1) (wT c.rounds k) hh (by simp only [inK]; omega) (zFa _ _)
   have hs : qG c.rounds k ++ [zQ4 c.rounds k] = qG c.rounds (k + 1) := (qF _ _).symm
   have hnk := hno k hlt
   simp only [zQ4] at hs
   generalize hH : wT c.rounds k = H at *
   generalize hR : c.rounds.getD k default = R at *
   by_cases hfp : zFf R c.host ((k : Int) + 1) H
   ·rw [yM1 hfp] at hft
    try (refine wg ?_; try refine sM fun K hK => ?_)
    refine ⟨rfl, ?_⟩
    try (refine wkg hft ?_; try refine sM fun K hK => ?_)
    refine zA ⟨_, evl, fun hb => absurd hb (by decide), fun _ => ?_⟩
    try (refine wg ?_; try refine sM fun K hK => ?_)
    refine Lk.roundEnd_n (bx' := [c.av, [.raw (.bool false)], [.raw (.int .i64 ((k + 1 : Nat) : Int))]]) rfl (by simp [jY, AV.bel, AV.belL, go_sem, xS.av, AV.bel_free _ hfr]) rfl ⟨rfl, rfl, k + 1, by omega, hs, rfl, .inl ⟨rfl, fun i hi => ?_⟩⟩
    rcases yLu.1 hi with h | rfl
    ·exact hall i h
    ·rw [hH, hR]; exact hfp
   ·rw [yM2 hfp] at hft
    try (refine wg ?_; try refine sM fun K hK => ?_)
    refine ⟨rfl, ?_⟩
    try (refine wkg hft ?_; try refine sM fun K hK => ?_)
    refine zA ⟨_, evl, fun _ => ?_, fun hb => absurd hb (by decide)⟩
    try (refine wg ?_; try refine sM fun K hK => ?_)
    exact ⟨_, _, [], [c.av, [.raw (.bool false)], [.raw (.int .i64 ((k + 1 : Nat) : Int))]], [], _, xJ.mk (ex := [_]) rfl trivial ⟨by simp, trivial, by simp [jY, AV.bel, AV.belL, go_sem, xS.av, AV.bel_free _ hfr]⟩, rfl, rfl, rfl, k + 1, by omega, hs, rfl, .inr ⟨rfl, hnk hfp⟩⟩
  ·rintro bx rw ys ⟨rfl, rfl, k, hk, he, rfl, hj⟩
   obtain rfl : k = c.rounds.length := by
    have := congrArg List.length he
    rw [zAe, zAe] at this
    exact this.symm
   obtain ⟨_, hall⟩ := hj.resolve_right (fun h => by cases h.1)
   rw [yM1 (hyes hall)]
   try (refine wg ?_; try refine sM fun K hK => ?_)
   refine rq ?_ ?_
   ·rfl
   ·simp [AV.free]
  ·rintro h j bx rw ys hpr ⟨rfl, rfl, k, hk, rfl, rfl, hj⟩
   obtain ⟨hj, hno⟩ := hj.resolve_left (fun h => by cases h.1)
   obtain rfl : j = none := by simpa using hj
   rw [yM2 hno]
   try (refine wg ?_; try refine sM fun K hK => ?_)
   refine rq ?_ ?_
   ·rfl
   ·simp [AV.free]
 ·rw [yM2 fun h : j9 c => hc ⟨h.1, h.2.1⟩]
  refine en Tryz.func75 Tryz.ntmps75 [.cell 2 4] rfl ?_
  repeat' first
   | refine wkg hw ?_
   | (refine cS (fun hb => ?_) fun hb => ?_ <;> try (cases hb; done))
   | refine sM fun K hK => ?_
   | fail
  ·refine rq ?_ ?_
   ·rfl
   ·simp [AV.free]
  ·exact absurd ⟨⟨by omega, by omega⟩, by omega⟩ hc
end Go.Proofs.YtchpbdecipcelaaGreatDoor
