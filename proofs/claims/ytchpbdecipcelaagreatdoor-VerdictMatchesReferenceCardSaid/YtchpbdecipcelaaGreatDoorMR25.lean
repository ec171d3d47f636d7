import Derived.Test.YtchpbdecipcelaaGreatDoorMR01
import Derived.Test.YtchpbdecipcelaaGreatDoorMR15
import Derived.Test.YtchpbdecipcelaaGreatDoorMR24
namespace Go.Proofs.YtchpbdecipcelaaGreatDoor
set_option linter.unusedVariables false
set_option linter.unusedSimpArgs false
set_option maxHeartbeats 4000000
set_option maxRecDepth 100000
open Go.RowKit
def zTk : Option zN → AV
 | none => .raw (.pointer none)
 | some y => .elt y.av 0
def zK4 (l : List zN) (i : Nat) : Option zN := if i = 0 then none else some (l.getD (i - 1) default)
theorem zVz (l : List zN) (hl : l.length ≤ 4611686018427387904) (g : FuncId) (cap : List AV) (hcap : AV.freeL cap) (p : Nat → Bool) (hp : ∀ i, i < l.length → FnA Tryz.prog g (zTk (zK4 l i) :: .agg (l.getD i default).av :: cap) (.raw (.bool (p i)))) :
  FnA Tryz.prog 185 [lA 10 zN.av l, .fn (.func g) [] cap] (.raw (.bool (decide (∀ i, i < l.length → p i = true)))) := by
 have hfr : (lA 10 zN.av l).free := zC (fun y => zN.free y) _
 refine en Tryz.func185 Tryz.ntmps185 [.tmp 4] rfl ?_
 try (refine wg ?_; try refine sM fun K hK => ?_)
 refine zF (fun k : Nat => ⟨24, 0, [(0, true, lA 10 zN.av l), (1, true, .fn (.func g) [] cap), (5, true, zTk (zK4 l k)), (7, true, lA 10 zN.av l), (8, true, .raw (.int .i64 l.length)), (9, true, .raw (.int .i64 k))], [], [], ((0, []), [], true)⟩)
  (fun k => k ≤ l.length ∧ ∀ i, i < k → p i = true) (fun k => l.length - k) 0 ?_ ⟨by omega, fun i h => by omega⟩ ?_
 ·rw [show zTk (zK4 l 0) = .raw (.pointer none) from rfl]
  exact wkZ
 ·rintro k ⟨hk, hall⟩
  have hpf : (zTk (zK4 l k)).free := by
   unfold zK4
   split
   ·trivial
   ·exact zN.free _
  have hnx : zTk (zK4 l (k + 1)) = .elt (l.getD k default).av 0 := rfl
  rcases yKt k l.length with hlt | hge
  ·have hpk := hp k hlt
   have hpv : FnA Tryz.prog g (zTk (zK4 l k) :: .agg (l.getD k default).av :: cap) (.raw (.bool (p k))) := hpk
   generalize zTk (zK4 l k) = V at *
   generalize hb : p k = b at *
   try (refine wg ?_; try refine sM fun K hK => ?_)
   refine zA ⟨_, evl, fun _ => ?_, fun hb => absurd (yOc hb) (by omega)⟩
   try (refine wkg hpv ?_; try refine sM fun K hK => ?_)
   cases b with
   | false =>
    refine zA ⟨_, evl, fun _ => ?_, fun hb => absurd hb (by decide)⟩
    try (refine wg ?_; try refine sM fun K hK => ?_)
    refine zM (by simp) ⟨_, _, _, evl, ob0, zV.eq ?_ (by simp [AV.free])⟩
    simp only [AV.raw.injEq, Value.bool.injEq]
    rw [eq_comm, yMz]
    intro h
    rw [h k hlt] at hb
    cases hb
   | true =>
    refine zA ⟨_, evl, fun hb => absurd hb (by decide), fun _ => ?_⟩
    try (refine wg ?_; try refine sM fun K hK => ?_)
    refine ⟨k + 1, ⟨by omega, fun i hi => ?_⟩, by omega, ?_⟩
    ·rcases yNv.1 hi with h | rfl
     ·exact hall i h
     ·exact hb
    ·rw [hnx]
     exact wkZ
  ·obtain rfl : k = l.length := by omega
   generalize zTk (zK4 l l.length) = V at *
   try (refine wg ?_; try refine sM fun K hK => ?_)
   refine zA ⟨_, evl, fun hb => absurd (yNw hb) (by omega), fun _ => ?_⟩
   try (refine wg ?_; try refine sM fun K hK => ?_)
   refine zM (by simp) ⟨_, _, _, evl, ob0, zV.eq ?_ (by simp [AV.free])⟩
   simp only [AV.raw.injEq, Value.bool.injEq]
   rw [eq_comm, yLr]
   exact hall
def zP9 (l : List zN) (host number head : Int) (i : Nat) : Prop :=
 (∀ y, zK4 l i = some y → y.auth < (l.getD i default).auth) ∧ z9 (l.getD i default) ∧ (l.getD i default).host = host ∧ (l.getD i default).round = number ∧ (l.getD i default).nonce = zA3 head host number (l.getD i default).auth
instance (l : List zN) (host number head : Int) (i : Nat) : Decidable (zP9 l host number head i) := by
 unfold zP9
 cases zK4 l i with
 | none => exact decidable_of_iff (z9 (l.getD i default) ∧ (l.getD i default).host = host ∧ (l.getD i default).round = number ∧ (l.getD i default).nonce = zA3 head host number (l.getD i default).auth) ⟨fun h => ⟨fun y e => (by cases e), h⟩, fun h => h.2⟩
 | some y => exact decidable_of_iff (y.auth < (l.getD i default).auth ∧ z9 (l.getD i default) ∧ (l.getD i default).host = host ∧ (l.getD i default).round = number ∧ (l.getD i default).nonce = zA3 head host number (l.getD i default).auth) ⟨fun h => ⟨fun z e => (by cases e; exact h.1), h.2⟩, fun h => ⟨h.1 y rfl, h.2⟩⟩
theorem yB9 (l : List zN) (i : Nat) (x : zN) (hx : l.getD i default = x) (hf : x.fits) (host number head : Int) (h1 : inK .i64 host) (h2 : inK .i64 number) (h3 : inK .u64 head) :
  FnA Tryz.prog 186 [zTk (zK4 l i), .agg x.av, .elt [.raw (.int .i64 host)] 0, .elt [.raw (.int .i64 number)] 0, .elt [.raw (.int .u64 head)] 0] (.raw (.bool (decide (zP9 l host number head i)))) := by
 have hw := zJd x
 have hn := yAl head host number x.auth h3 h1 h2 hf.1
 have e : decide (zP9 l host number head i) = ((match zK4 l i with | none => true | some y => decide (y.auth < x.auth)) && (decide (z9 x) && decide (x.host = host) && decide (x.round = number) && decide (x.nonce = zA3 head host number x.auth))) := by
  rw [yLb, yO5]
  unfold zP9
  rw [hx]
  cases zK4 l i with
  | none => simp [and_assoc]
  | some y => simp [and_assoc]
 rw [e]
 clear e hx
 generalize decide (z9 x) = b at *
 generalize zA3 head host number x.auth = N at *
 cases zK4 l i with
 | none =>
  simp only [zTk, Bool.true_and]
  refine en Tryz.func186 Tryz.ntmps186 [.tmp 7] rfl ?_
  repeat' first
   | refine wkg (And.intro hw hn) ?_
   | (refine cS (fun hb => ?_) fun hb => ?_ <;> try (cases hb; done))
   | refine sM fun K hK => ?_
   | fail
  all_goals exact fA
 | some y =>
  simp only [zTk]
  refine en Tryz.func186 Tryz.ntmps186 [.tmp 7] rfl ?_
  repeat' first
   | refine wkg (And.intro hw hn) ?_
   | (refine cS (fun hb => ?_) fun hb => ?_ <;> try (cases hb; done))
   | refine sM fun K hK => ?_
   | fail
  all_goals exact fA
def jQ (r : yK) (host number head : Int) : Prop := ∀ i, i < r.replies.length → zP9 r.replies host number head i
instance (r : yK) (host number head : Int) : Decidable (jQ r host number head) := by unfold jQ; infer_instance
theorem yDu (r : yK) (hl : r.replies.length ≤ 4611686018427387904) (hf : ∀ x ∈ r.replies, x.fits) (host number head : Int) (h1 : inK .i64 host) (h2 : inK .i64 number) (h3 : inK .u64 head) :
  FnA Tryz.prog 123 [.agg r.av, .raw (.int .i64 host), .raw (.int .i64 number), .raw (.int .u64 head)] (.raw (.bool (decide (jQ r host number head)))) := by
 obtain ⟨rs⟩ := r
 simp only at hl hf
 have hfr : (lA 10 zN.av rs).free := zC (fun y => zN.free y) _
 have hc := zVz rs hl 186 [.elt [.raw (.int .i64 host)] 0, .elt [.raw (.int .i64 number)] 0, .elt [.raw (.int .u64 head)] 0] ⟨⟨trivial, trivial⟩, ⟨trivial, trivial⟩, ⟨trivial, trivial⟩, trivial⟩ (fun i => decide (zP9 rs host number head i)) fun i hi => yB9 rs i _ rfl (hf _ (w9 hi)) host number head h1 h2 h3
 have e : decide (∀ i, i < rs.length → decide (zP9 rs host number head i) = true) = decide (jQ ⟨rs⟩ host number head) := by
  rw [decide_eq_decide]
  exact ⟨fun h i hi => yNw (h i hi), fun h i hi => yO3 (h i hi)⟩
 rw [e] at hc
 generalize decide (jQ ⟨rs⟩ host number head) = b at *
 clear e
 refine en Tryz.func123 Tryz.ntmps123 [.tmp 8] rfl ?_
 try (first | refine wkM hK trivial ?_ | refine wkg trivial ?_)
 try clear hK K
 try refine sM fun K hK => ?_
 refine z0 0 obf ⟨_, evl, _, evl, ?_⟩
 try (first | refine wkM hK hc ?_ | refine wkg hc ?_)
 try clear hK K
 try refine sM fun K hK => ?_
 all_goals exact fA
def vE (c : xA) : Prop := (1 ≤ c.host ∧ c.host ≤ 64) ∧ c.rounds.length ≤ 200 ∧ ∀ k, k < c.rounds.length → jQ (c.rounds.getD k default) c.host ((k : Int) + 1) (qP c.rounds k)
instance (c : xA) : Decidable (vE c) := by unfold vE; infer_instance
theorem zAq (l : List yK) (n : Nat) : (qN l n).length = n := by simp [qN]
theorem zN7 {l : List yK} {k : Nat} {item : List AV} (h : (qN l k ++ [item]) <+: qN l l.length) : k < l.length ∧ item = zR9 l k := by
 have h1 := h.length_le
 rw [yL5, zAq, zAq] at h1
 simp only [yL2, yMc] at h1
 refine ⟨by omega, ?_⟩
 have h2 := zHl l (k := k + 1) (n := l.length) (by omega)
 rw [qM] at h2
 have h3 := List.prefix_of_prefix_length_le h h2 (by simp)
 have h4 := h3.eq_of_length (by simp)
 have h5 := List.append_cancel_left h4
 simpa using h5
theorem zYg (c : xA) (hl : c.rounds.length ≤ 4611686018427387904) (hh : inK .i64 c.host) (hr : ∀ r ∈ c.rounds, r.replies.length ≤ 400000 ∧ ∀ x ∈ r.replies, x.fits) : FnA Tryz.prog 75 [.agg c.av] (.raw (.bool (decide (vE c)))) := by
 have hw := zGb c.host 1 64
 have hfr : (lA 1 yK.av c.rounds).free := zC (fun y => yK.free y) _
 by_cases hc : (1 ≤ c.host ∧ c.host ≤ 64) ∧ c.rounds.length ≤ 200
 ·rw [yO3 hc.1.1, yO3 hc.1.2] at hw
  have hlen := hc.2
  have hds := yB3 c.rounds
  have hS := yB2 c.rounds (by omega) hr
  have hno : ∀ k, k < c.rounds.length → ¬ jQ (c.rounds.getD k default) c.host ((k : Int) + 1) (qP c.rounds k) → ¬ vE c := fun k hk hn h => hn (h.2.2 k hk)
  have hyes : (∀ k, k < c.rounds.length → jQ (c.rounds.getD k default) c.host ((k : Int) + 1) (qP c.rounds k)) → vE c := fun h => ⟨hc.1, hc.2, h⟩
  refine en Tryz.func75 Tryz.ntmps75 [.cell 2 4] rfl ?_
  try (refine wkg hw ?_; try refine sM fun K hK => ?_)
  refine zA ⟨_, evl, fun hb => absurd hb (by simp; omega), fun _ => ?_⟩
  try (refine wkg hds ?_; try refine sM fun K hK => ?_)
  refine v8 (fun h j bx rw ys => rw = [] ∧ ys = ((0, []), [], true) ∧ ∃ k, k ≤ c.rounds.length ∧ h = qN c.rounds k ∧ bx = [c.av, [.raw (.bool false)], [.raw (.int .i64 k)]] ∧ ((j = none ∧ ∀ i, i < k → jQ (c.rounds.getD i default) c.host ((i : Int) + 1) (qP c.rounds i)) ∨ (j = some none ∧ ¬ vE c)))
   rfl rfl ⟨⟨hfr, trivial⟩, trivial⟩ hS ⟨by simp, by simp⟩ (by simp) ⟨rfl, rfl, 0, yKo _, rfl, rfl, .inl ⟨rfl, fun i hi => by omega⟩⟩ ?_ ?_ ?_
  ·rintro h item bx rw ys ⟨rfl, rfl, k, hk, rfl, rfl, hj⟩ hpr _
   obtain ⟨hlt, rfl⟩ := zN7 hpr
   obtain ⟨_, hall⟩ := hj.resolve_right (fun h => by cases h.1)
   refine ⟨rfl, ?_⟩
   simp only [zBv, zR9, yL3, yLc]
   obtain ⟨g1, g2⟩ := hr _ (w9 hlt)
   have hfk : (lA 10 zN.av (c.rounds.getD k default).replies).free := zC (fun y => zN.free y) _
   have hft := yDu (c.rounds.getD k default) (by omega) g2 c.host ((k : Int) + 1) (qP c.rounds k) hh (by simp only [inK]; omega) (zFz _ _)
   have hs : qN c.rounds k ++ [zR9 c.rounds k] = qN c.rounds (k + 1) := (qM _ _).symm
   have hnk := hno k hlt
   simp only [zR9] at hs
   generalize hH : qP c.rounds k = H at *
   generalize hR : c.rounds.getD k default = R at *
   by_cases hfp : jQ R c.host ((k : Int) + 1) H
   ·rw [yO3 hfp] at hft
    try (refine wg ?_; try refine sM fun K hK => ?_)
    refine ⟨rfl, ?_⟩
    try (refine wkg hft ?_; try refine sM fun K hK => ?_)
    refine zA ⟨_, evl, fun hb => absurd hb (by decide), fun _ => ?_⟩
    try (refine wg ?_; try refine sM fun K hK => ?_)
    refine Lk.roundEnd_n (bx' := [c.av, [.raw (.bool false)], [.raw (.int .i64 ((k + 1 : Nat) : Int))]]) rfl (by simp [j6, AV.bel, AV.belL, go_sem, xA.av, AV.bel_free _ hfr]) rfl ⟨rfl, rfl, k + 1, by omega, hs, rfl, .inl ⟨rfl, fun i hi => ?_⟩⟩
    rcases yNv.1 hi with h | rfl
    ·exact hall i h
    ·rw [hH, hR]; exact hfp
   ·rw [yO4 hfp] at hft
    try (refine wg ?_; try refine sM fun K hK => ?_)
    refine ⟨rfl, ?_⟩
    try (refine wkg hft ?_; try refine sM fun K hK => ?_)
    refine zA ⟨_, evl, fun _ => ?_, fun hb => absurd hb (by decide)⟩
    try (refine wg ?_; try refine sM fun K hK => ?_)
    exact ⟨_, _, [], [c.av, [.raw (.bool false)], [.raw (.int .i64 ((k + 1 : Nat) : Int))]], [], _, xE.mk (ex := [_]) rfl trivial ⟨by simp, trivial, by simp [j6, AV.bel, AV.belL, go_sem, xA.av, AV.bel_free _ hfr]⟩, rfl, rfl, rfl, k + 1, by omega, hs, rfl, .inr ⟨rfl, hnk hfp⟩⟩
  ·rintro bx rw ys ⟨rfl, rfl, k, hk, he, rfl, hj⟩
   obtain rfl : k = c.rounds.length := by
    have := congrArg List.length he
    rw [zAq, zAq] at this
    exact this.symm
   obtain ⟨_, hall⟩ := hj.resolve_right (fun h => by cases h.1)
   rw [yO3 (hyes hall)]
   try (refine wg ?_; try refine sM fun K hK => ?_)
   refine rq ?_ ?_
   ·rfl
   ·simp [AV.free]
  ·rintro h j bx rw ys hpr ⟨rfl, rfl, k, hk, rfl, rfl, hj⟩
   obtain ⟨hj, hno⟩ := hj.resolve_left (fun h => by cases h.1)
   obtain rfl : j = none := by simpa using hj
   rw [yO4 hno]
   try (refine wg ?_; try refine sM fun K hK => ?_)
   refine rq ?_ ?_
   ·rfl
   ·simp [AV.free]
 ·rw [yO4 fun h : vE c => hc ⟨h.1, h.2.1⟩]
  refine en Tryz.func75 Tryz.ntmps75 [.cell 2 4] rfl ?_
  repeat' first
   | refine wkg hw ?_
   | (refine cS (fun hb => ?_) fun hb => ?_ <;> try (cases hb; done))
   | refine sM fun K hK => ?_
   | fail
  ·refine rq ?_ ?_
   ·rfl
   ·simp [AV.free]
  ·exact absurd ⟨⟨by omega, by omega⟩, by omega⟩ hc
end Go.Proofs.YtchpbdecipcelaaGreatDoor
