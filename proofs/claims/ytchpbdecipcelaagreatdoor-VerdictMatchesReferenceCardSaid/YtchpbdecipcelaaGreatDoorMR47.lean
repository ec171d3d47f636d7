import Derived.Test.YtchpbdecipcelaaGreatDoorMR01
import Derived.Test.YtchpbdecipcelaaGreatDoorMR45
namespace Go.Proofs.YtchpbdecipcelaaGreatDoor
set_option linter.unusedVariables false
set_option linter.unusedSimpArgs false
set_option maxHeartbeats 4000000
set_option maxRecDepth 100000
open Go.RowKit
theorem zPb (l : List qV) (hl : l.length ≤ 4611686018427387904) (id : Int) : FnA Tryz.prog 88 [lA 4 qV.av l, .raw (.int .i64 id)] (.raw (.int .i64 (vA (isA id) l))) := by
 refine en Tryz.func88 Tryz.ntmps88 [.tmp 4] rfl ?_
 repeat' first
  | refine wkg trivial ?_
  | (refine cS (fun hb => ?_) fun hb => ?_ <;> try (cases hb; done))
  | refine sM fun K hK => ?_
  | fail
 refine zF (fun k : Nat => ⟨20, 0, [(0, true, lA 4 qV.av l), (1, true, .raw (.int .i64 id)), (5, true, .raw (.int .i64 k))], [], [], ((0, []), [], true)⟩)
  (fun k => k ≤ l.length ∧ ∀ i, i < k → isA id (l.getD i default) = false) (fun k => l.length - k) 0 ?_ ⟨by omega, fun i h => by omega⟩ ?_
 ·exact wkZ
 ·rintro k ⟨hk, hall⟩
  repeat' first
   | refine wkg trivial ?_
   | (refine cS (fun hb => ?_) fun hb => ?_ <;> try (cases hb; done))
   | refine sM fun K hK => ?_
   | fail
  ·refine rq ?_ ?_
   ·rw [wQ (show k < l.length by omega) hall (by rw [isA, yO3 hb])]
   ·simp [AV.free]
  ·refine ⟨k + 1, ⟨by omega, fun i hi => ?_⟩, by omega, ?_⟩
   ·rcases yNv.1 hi with h | rfl
    ·exact hall i h
    ·simp only [isA, yMz]; omega
   ·exact wkZ
  ·refine rq ?_ ?_
   ·rw [xI (fun i hi => hall i (by omega))]
   ·simp [AV.free]
theorem zCt (a b lo hi : Int) (hr : IntKind.i64.wrap (-lo) = -lo) (who : List zB) : FnA Tryz.prog 39 [.raw (.int .i64 a), .raw (.int .i64 b), .raw (.int .i64 lo), .raw (.int .i64 hi), lA 2 zB.av who] (lA 4 zH.av (zQ a b ⟨lo, hi⟩ who)) := by
 have hfw : (lA 2 zB.av who).free := zC (fun z => zB.free z) _
 refine en Tryz.func39 Tryz.ntmps39 [.tmp 10] rfl ?_
 try (refine wg ?_; try refine sM fun K hK => ?_)
 refine zM (by simp) ⟨_, _, _, evl, ob0, zV.sims ?_ (zC (fun y => zH.free y) _)⟩
 exact (Sim.lstE rfl fun q hq => yA (enc := zH.av) (l := zQ a b ⟨lo, hi⟩ who) (fun _ => rfl) rfl hq).s
theorem zFm (n : Int) : FnA Tryz.prog 143 [.raw (.int .i64 n)] (.raw (.bool (decide (inD n)))) := by
 refine en Tryz.func143 Tryz.ntmps143 [.tmp 2] rfl ?_
 repeat' first
  | refine wkg trivial ?_
  | (refine cS (fun hb => ?_) fun hb => ?_ <;> try (cases hb; done))
  | refine sM fun K hK => ?_
  | fail
 all_goals (try (refine zM (by simp) ⟨_, _, _, evl, ob0, zV.sims ?_ fre⟩))
 all_goals first | exact z5.refl _ | (refine z5.of_eq ?_; first | rfl | (simp [inD]; done) | (simp_all [inD]; done) | (simp_all [inD]; omega) | (simp [inD]; grind) | (split <;> simp_all)) | exact yM | (refine z5.tup ?_; simp only [z8, yMs]; (repeat' apply And.intro) <;> first | exact yM | skip) | (exfalso; first | omega | (simp_all; done) | (simp_all; omega)) | skip
theorem zSn (m : zL) (hs : zPy m.evidence.chains) : FnA Tryz.prog 37 [.agg m.av] (.raw (.int .i64 (evN m))) := by
 have hfm := zL.free m
 refine en Tryz.func37 Tryz.ntmps37 [.tmp 2] rfl ?_
 try (refine wg ?_; try refine sM fun K hK => ?_)
 refine zF (fun i : Nat => ⟨43, 0, [(1, true, .box 0 0), (3, true, .raw (.int .i64 (evM m.evidence.chains i).2)), (4, true, .raw (.int .i64 i))], [m.av], [], ((0, []), [], true)⟩)
  (fun i => i ≤ m.evidence.chains.length) (fun i => m.evidence.chains.length - i) 0 ?_ (by omega) ?_
 ·exact wkZ
 intro i hi
 have h8 := hs.n
 have hle := zHv hs i hi
 rcases yKt i m.evidence.chains.length with hlt | hge
 ·obtain ⟨hr1, hr2⟩ := hs.r _ (w9 hlt)
  have hin := zG7 i (m.evidence.chains.getD i default).rounds (evM m.evidence.chains i).2 hr2
  have hsu : (evM m.evidence.chains (i + 1)).2 = (xM i (m.evidence.chains.getD i default).rounds (evM m.evidence.chains i).2 (m.evidence.chains.getD i default).rounds.length).2 := rfl
  have h0 : (xM i (m.evidence.chains.getD i default).rounds (evM m.evidence.chains i).2 0).2 = (evM m.evidence.chains i).2 := rfl
  have hst : ∀ k, (xM i (m.evidence.chains.getD i default).rounds (evM m.evidence.chains i).2 (k + 1)).2 = (xM i (m.evidence.chains.getD i default).rounds (evM m.evidence.chains i).2 k).2 + (1 + 2 * (((m.evidence.chains.getD i default).rounds.getD k default).replies.length : Int)) := fun k => rfl
  generalize (evM m.evidence.chains i).2 = A at *
  try (refine wg ?_; try refine sM fun K hK => ?_)
  refine zA ⟨_, evl, fun _ => ?_, fun hb => absurd (yOc hb) (by omega)⟩
  try (refine wg ?_; try refine sM fun K hK => ?_)
  refine zF (fun k : Nat => ⟨43, 0, [(1, true, .box 0 0), (3, true, .raw (.int .i64 (xM i (m.evidence.chains.getD i default).rounds A k).2)), (4, true, .raw (.int .i64 i)), (5, true, .raw (.int .i64 k))], [m.av], [], ((0, []), [], true)⟩)
   (fun k => k ≤ (m.evidence.chains.getD i default).rounds.length) (fun k => (m.evidence.chains.getD i default).rounds.length - k) 0 ?_ (by omega) ?_
  ·rw [h0]
   exact wkZ
  intro k hk
  have hik := hin k hk
  rcases yKt k (m.evidence.chains.getD i default).rounds.length with hkl | hkg
  ·have hrk := hr2 _ (w9 hkl)
   have hst := hst k
   clear hr2 hin hs
   generalize (xM i (m.evidence.chains.getD i default).rounds A k).2 = B at *
   try (refine wg ?_; try refine sM fun K hK => ?_)
   refine zA ⟨_, evl, fun _ => ?_, fun hb => absurd (yOc hb) (by omega)⟩
   try (refine wg ?_; try refine sM fun K hK => ?_)
   refine ⟨k + 1, by omega, by omega, ?_⟩
   rw [hst]
   exact wkZ
  ·obtain rfl : k = (m.evidence.chains.getD i default).rounds.length := by omega
   rw [← hsu]
   clear hr2 hin hs hst
   try (refine wg ?_; try refine sM fun K hK => ?_)
   refine zA ⟨_, evl, fun hb => absurd (yNw hb) (by omega), fun _ => ?_⟩
   try (refine wg ?_; try refine sM fun K hK => ?_)
   refine ⟨i + 1, by omega, by omega, ?_⟩
   exact wkZ
 ·obtain rfl : i = m.evidence.chains.length := by omega
  rw [show evN m = (evM m.evidence.chains m.evidence.chains.length).2 from rfl]
  try (refine wg ?_; try refine sM fun K hK => ?_)
  refine zA ⟨_, evl, fun hb => absurd (yNw hb) (by omega), fun _ => ?_⟩
  try (refine wg ?_; try refine sM fun K hK => ?_)
  all_goals exact fA
theorem zVp (c : xA) (d : vS) (hl : d.sent.length ≤ 4611686018427387904) (hg : ∀ g ∈ d.got, g.length ≤ 4611686018427387904) : FnA Tryz.prog 87 [.agg c.av, .agg d.av] (.raw (.bool (decide (v6 c d)))) := by
 obtain ⟨host, rs⟩ := c
 obtain ⟨dhost, rate, sent, got⟩ := d
 simp only at hl hg
 have hfc := xA.free ⟨host, rs⟩
 have hfd := vS.free ⟨dhost, rate, sent, got⟩
 have hP : v6 ⟨host, rs⟩ ⟨dhost, rate, sent, got⟩ ↔ dhost = host ∧ (0 ≤ rate ∧ rate ≤ 1000000) ∧ sent.length = rs.length ∧ got.length = rs.length ∧ zF7 sent ∧ ∀ i, i < rs.length → zVs ⟨host, rs⟩ ⟨dhost, rate, sent, got⟩ i := Iff.rfl
 have hno : ¬ v6 ⟨host, rs⟩ ⟨dhost, rate, sent, got⟩ → decide (v6 ⟨host, rs⟩ ⟨dhost, rate, sent, got⟩) = false := yO4
 have hyes : v6 ⟨host, rs⟩ ⟨dhost, rate, sent, got⟩ → decide (v6 ⟨host, rs⟩ ⟨dhost, rate, sent, got⟩) = true := yO3
 have hD : ∀ i, zVs ⟨host, rs⟩ ⟨dhost, rate, sent, got⟩ i ↔ inD (sent.getD i default) ∧ (got.getD i default).length = (rs.getD i default).replies.length ∧ ∀ u ∈ got.getD i default, sent.getD i default ≤ u ∧ u ≤ 1000000000000000 := fun i => Iff.rfl
 generalize decide (v6 ⟨host, rs⟩ ⟨dhost, rate, sent, got⟩) = res at *
 refine en Tryz.func87 Tryz.ntmps87 [.tmp 4] rfl ?_
 try (refine wg ?_; try refine sM fun K hK => ?_)
 refine zA ⟨_, evl, fun hc => ?_, fun hc => ?_⟩
 ·have e : res = false := hno fun h => by
   obtain ⟨a, ⟨b1, b2⟩, c, d, _⟩ := hP.1 h
   simp only [yMy, yLs, yMz, yLr] at hc
   omega
  rw [e]
  clear hno hyes hP hD
  try (refine wg ?_; try refine sM fun K hK => ?_)
  all_goals exact fA
 simp only [yN1, yMx, yLr, yMz] at hc
 obtain ⟨⟨⟨⟨c1, c2⟩, c3⟩, c4⟩, c5⟩ := hc
 have hk := hP.2
 try (refine wg ?_; try refine sM fun K hK => ?_)
 refine zF (fun k : Nat => ⟨128, 0, [(2, true, .box 0 0), (3, true, .box 1 0), (5, true, .raw (.int .i64 k))], [[.raw (.int .i64 host), lA 1 yK.av rs], [.raw (.int .i64 dhost), .raw (.int .i64 rate), liA sent, lA 1 (fun l => [liA l]) got]], [], ((0, []), [], true)⟩)
  (fun k => k ≤ rs.length ∧ ∀ i, i < k → zVs ⟨host, rs⟩ ⟨dhost, rate, sent, got⟩ i ∧ (0 < i → sent.getD (i - 1) default ≤ sent.getD i default)) (fun k => rs.length - k) 0 ?_ ⟨by omega, fun i h => by omega⟩ ?_
 ·exact wkZ
 rintro k ⟨hkl, hall⟩
 rcases yKt k rs.length with hlt | hge
 ·have hrd := zFm (sent.getD k default)
  have hgk := hg (got.getD k default) (w9 (by omega))
  have hnok := fun h : ¬ zVs ⟨host, rs⟩ ⟨dhost, rate, sent, got⟩ k => hno fun hd => h ((hP.1 hd).2.2.2.2.2 k hlt)
  have hnos := fun (h0 : 0 < k) (h : ¬ sent.getD (k - 1) default ≤ sent.getD k default) => hno fun hd => h (by
   have := (hP.1 hd).2.2.2.2.1 (k - 1) (by omega)
   rwa [show k - 1 + 1 = k by omega] at this)
  clear hno hyes hP hk
  have hs0 : ∀ i, sent.getD i 0 = sent.getD i default := fun _ => rfl
  have hq0 : ∀ i, (got.getD k default).getD i 0 = (got.getD k default).getD i default := fun _ => rfl
  generalize hz : decide (inD (sent.getD k default)) = z at *
  have hix : 0 < k → (((k : Int) - 1).toNat) = k - 1 := fun h => by omega
  try (refine wg ?_; try refine sM fun K hK => ?_)
  refine zA ⟨_, evl, fun _ => ?_, fun hb => absurd (yOc hb) (by omega)⟩
  try (refine wkg hrd ?_; try refine sM fun K hK => ?_)
  refine zA ⟨_, evl, fun hc => ?_, fun hc => ?_⟩
  ·have e : res = false := by
    simp only [hs0, yMy, yLq, yLs, yMz, yLr] at hc
    rcases hc with (hc | ⟨h0, hc⟩) | hc
    ·exact hnok fun hd => (yOc (hz.trans hc)) ((hD k).1 hd).1
    ·rw [hix (by omega)] at hc
     exact hnos (by omega) (by omega)
    ·exact hnok fun hd => by have := ((hD k).1 hd).2.1; omega
   rw [e]
   clear hnok hnos hD hall
   try (refine wg ?_; try refine sM fun K hK => ?_)
   all_goals exact fA
  simp only [hs0, yN1, yN0, yMx, yLr, yMz] at hc
  obtain ⟨⟨rfl, hc2⟩, hc3⟩ := hc
  have hz := yNw hz
  have hsk : 0 < k → sent.getD (k - 1) default ≤ sent.getD k default := fun h => by
   rw [hix h] at hc2
   omega
  have hyk := (hD k).2
  clear hD hc2 hnos
  try (refine wg ?_; try refine sM fun K hK => ?_)
  refine zF (fun q : Nat => ⟨128, 0, [(2, true, .box 0 0), (3, true, .box 1 0), (5, true, .raw (.int .i64 k)), (7, true, .raw (.int .i64 q))], [[.raw (.int .i64 host), lA 1 yK.av rs], [.raw (.int .i64 dhost), .raw (.int .i64 rate), liA sent, lA 1 (fun l => [liA l]) got]], [], ((0, []), [], true)⟩)
   (fun q => q ≤ (got.getD k default).length ∧ ∀ j, j < q → sent.getD k default ≤ (got.getD k default).getD j default ∧ (got.getD k default).getD j default ≤ 1000000000000000) (fun q => (got.getD k default).length - q) 0 ?_ ⟨by omega, fun i h => by omega⟩ ?_
  ·exact wkZ
  rintro q ⟨hq, hallq⟩
  rcases yKt q (got.getD k default).length with hql | hqg
  ·have hru := zFm ((got.getD k default).getD q default)
   generalize hz2 : decide (inD ((got.getD k default).getD q default)) = z2 at *
   have hz0 := hz.1
   clear hall hyk
   try (refine wg ?_; try refine sM fun K hK => ?_)
   refine zA ⟨_, evl, fun _ => ?_, fun hb => absurd (yOc hb) (by omega)⟩
   try (refine wkg hru ?_; try refine sM fun K hK => ?_)
   refine zA ⟨_, evl, fun hc => ?_, fun hc => ?_⟩
   ·have e : res = false := by
     simp only [hs0, hq0, yMy, yLs, yLr] at hc
     refine hnok fun hd => ?_
     obtain ⟨_, _, hd⟩ := hd
     have hd := hd _ (w9 hql)
     simp only at hd
     rcases hc with hc | hc
     ·exact (yOc (hz2.trans hc)) ⟨by omega, by omega⟩
     ·omega
    rw [e]
    clear hnok
    try (refine wg ?_; try refine sM fun K hK => ?_)
    all_goals exact fA
   ·simp only [hs0, hq0, yN1, yMx, yMz] at hc
    obtain ⟨rfl, hc2⟩ := hc
    have hz2 := (yNw hz2).2
    try (refine wg ?_; try refine sM fun K hK => ?_)
    refine ⟨q + 1, ⟨by omega, fun j hj => ?_⟩, by omega, ?_⟩
    ·rcases yNv.1 hj with h | rfl
     ·exact hallq j h
     ·exact ⟨by omega, by omega⟩
    ·exact wkZ
  ·obtain rfl : q = (got.getD k default).length := by omega
   have hday := hyk ⟨hz, by omega, fun u hu => by
    obtain ⟨j, hj, rfl⟩ := vN hu
    exact hallq j hj⟩
   clear hyk hnok hallq
   try (refine wg ?_; try refine sM fun K hK => ?_)
   refine zA ⟨_, evl, fun hb => absurd (yNw hb) (by omega), fun _ => ?_⟩
   try (refine wg ?_; try refine sM fun K hK => ?_)
   refine ⟨k + 1, ⟨by omega, fun i hi => ?_⟩, by omega, ?_⟩
   ·rcases yNv.1 hi with h | rfl
    ·exact hall i h
    ·exact ⟨hday, hsk⟩
   ·exact wkZ
 ·obtain rfl : k = rs.length := by omega
  have e : res = true := hyes (hk ⟨c1, by omega, by omega, by omega, fun i hi => by
   have := (hall (i + 1) (by omega)).2 (by omega)
   simpa using this, fun i hi => (hall i hi).1⟩)
  rw [e]
  clear hno hyes hP hk hD hall
  try (refine wg ?_; try refine sM fun K hK => ?_)
  refine zA ⟨_, evl, fun hb => absurd (yNw hb) (by omega), fun _ => ?_⟩
  try (refine wg ?_; try refine sM fun K hK => ?_)
  all_goals exact fA
end Go.Proofs.YtchpbdecipcelaaGreatDoor
