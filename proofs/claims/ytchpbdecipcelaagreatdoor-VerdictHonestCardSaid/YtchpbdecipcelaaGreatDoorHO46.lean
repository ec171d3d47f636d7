import Derived.Test.YtchpbdecipcelaaGreatDoorHO01
import Derived.Test.YtchpbdecipcelaaGreatDoorHO45
namespace Go.Proofs.YtchpbdecipcelaaGreatDoor
set_option linter.unusedVariables false
set_option linter.unusedSimpArgs false
set_option maxHeartbeats 4000000
set_option maxRecDepth 100000
open Go.RowKit
theorem yA4 (n lo hi : Int) : FnA Tryz.prog 141 [.raw (.int .i64 n), .raw (.int .i64 lo), .raw (.int .i64 hi)] (.raw (.bool (decide (lo ≤ n) && decide (n ≤ hi)))) := by
 refine en Tryz.func141 Tryz.ntmps141 [.tmp 6] rfl ?_
 repeat' first
  | refine wkg trivial ?_
  | (refine cS (fun hb => ?_) fun hb => ?_ <;> try (cases hb; done))
  | refine sM fun K hK => ?_
  | fail
 all_goals exact fA
theorem zH0 (n : Int) (hn : inK .u64 n) : FnA Tryz.prog 164 [.raw (.int .u64 n)] (liA (yG n)) := by
 simp only [inK] at hn
 have e2 := zVp (n := n) (by simp only [inK]; exact hn)
 have h1 : inK .i64 (n.fdiv (2 ^ min (Int.toNat 32) 64)) := by rw [zG5]; simp only [inK]; omega
 have h3 : inK .i64 (zFv .and .u64 n 4294967295) := by rw [e2]; simp only [inK]; omega
 refine en Tryz.func164 Tryz.ntmps164 [.tmp 2] rfl ?_
 repeat' first
  | refine wkg trivial ?_
  | (refine cS (fun hb => ?_) fun hb => ?_ <;> try (cases hb; done))
  | refine sM fun K hK => ?_
  | fail
 refine rt ?_
 rw [zG5, e2]
 exact (Sim.lstE rfl fun i hi => yB (enc := iC) (l := yG n) (fun _ => rfl) rfl hi).s
theorem vE {α : Type} [Inhabited α] {enc : α → List AV} {l l' : List α} {n : Nat} {f g : Nat → List AV} (hn : n = l.length) (hf : ∀ i, i < n → f i = els enc l i) (hg : ∀ i, i < l'.length → g i = els enc l' i) : ∀ i, i < n + l'.length → vL n f g i = els enc (l ++ l') i := by
 intro i hi
 subst hn
 rw [← xE (l := l) (n := l.length) rfl]
 rcases yIq i l.length with h | h
 ·rw [xL h, xL h, hf i h]
 ·rw [yV h, yV h, hg _ (by omega)]
theorem zQd (r : zM) (hf : r.fits) : FnA Tryz.prog 165 [.agg r.av] (.raw (.int .u64 (yS r))) := by
 have hn : inK .u64 r.nonce := by obtain ⟨h1, h2, h3, h4, ⟨h5, h6⟩, h7, h8, h9, h10⟩ := hf; exact h4
 have hh := zH0 r.nonce hn
 have hI := zT0 (jJ r) (fun x hx => by
  obtain ⟨h1, h2, h3, h4, ⟨h5, h6⟩, h7, h8, h9, h10⟩ := hf
  have := zFd hn
  simp only [yG, yKi, yKj, yKk, yKl, yKn] at this
  simp only [jJ, yJb, yKj, yKq] at hx
  rcases hx with rfl | rfl | rfl | rfl | rfl | rfl | rfl | rfl | rfl | rfl | rfl
  all_goals first | assumption | exact this.1 | exact this.2) (by simp [jJ])
 have e : yS r = dI (jJ r) := by unfold yS dI; rw [show (11 : Nat) = (jJ r).length from rfl, zN1]
 rw [e]
 have hfh : (liA (yG r.nonce)).free := jH _
 have hlh : (yG r.nonce).length = 2 := rfl
 have hap : jJ r = [r.auth, r.host, r.round] ++ yG r.nonce ++ [r.stamp.lo, r.stamp.hi, r.key, r.table, r.sig.c, r.sig.s] := rfl
 generalize yG r.nonce = H at *
 generalize dI (jJ r) = D at *
 rw [hap] at hI
 refine en Tryz.func165 Tryz.ntmps165 [.tmp 2] rfl ?_
 repeat
  first
   | (refine zF (hK _ ?_); clear hK K)
   | refine stR ?_
   | (refine yH 1 rfl ?_; first | (refine zN rfl rfl ⟨_, evl, _, _, _, evl, yR, ?_⟩; apply Exists.intro; refine ⟨fun hg => ?_, ?_⟩; · first | exact FnA.at_ (hh) rfl rfl | exact FnA.sim hI ⟨Sim.lstE (by simp; omega) (vE (by simp; omega) (vE rfl (fun i hi => yB (enc := iC) (l := [r.auth, r.host, r.round]) (fun _ => rfl) rfl hi) fun i hi => rfl) (fun i hi => yB (enc := iC) (l := [r.stamp.lo, r.stamp.hi, r.key, r.table, r.sig.c, r.sig.s]) (fun _ => rfl) rfl hi)), trivial⟩ | exact FnA.at_s (hh) rfl xB | exact FnA.at_s (hh) rfl xC) | (refine xN rfl rfl ⟨_, evl, _, _, _, evl, _, _, evl, yR, ?_⟩; apply Exists.intro; refine ⟨fun hg => ?_, ?_⟩; · first | exact FnA.at_ (hh) rfl rfl | exact FnA.sim hI ⟨Sim.lstE (by simp; omega) (vE (by simp; omega) (vE rfl (fun i hi => yB (enc := iC) (l := [r.auth, r.host, r.round]) (fun _ => rfl) rfl hi) fun i hi => rfl) (fun i hi => yB (enc := iC) (l := [r.stamp.lo, r.stamp.hi, r.key, r.table, r.sig.c, r.sig.s]) (fun _ => rfl) rfl hi)), trivial⟩ | exact FnA.at_s (hh) rfl xB | exact FnA.at_s (hh) rfl xC))
   | (refine zS 1 rfl ?_; refine zP rfl ⟨_, evl, _, _, _, (fun _ _ => w7), yR, ?_⟩; apply Exists.intro; refine ⟨fun hg => ?_, ?_⟩; · first | exact FnA.at_ (hh) rfl rfl | exact FnA.sim hI ⟨Sim.lstE (by simp; omega) (vE (by simp; omega) (vE rfl (fun i hi => yB (enc := iC) (l := [r.auth, r.host, r.round]) (fun _ => rfl) rfl hi) fun i hi => rfl) (fun i hi => yB (enc := iC) (l := [r.stamp.lo, r.stamp.hi, r.key, r.table, r.sig.c, r.sig.s]) (fun _ => rfl) rfl hi)), trivial⟩ | exact FnA.at_s (hh) rfl xB | exact FnA.at_s (hh) rfl xC)
   | (refine zS 1 rfl ?_; refine zG ?_)
   | (refine z7 ?_; first | (refine zK (hK _ ?_); clear hK K) | (refine zT rfl ⟨_, evl, fun nb' => ?_⟩))
   | refine zD (fun K hK => ?_)
   | (refine xD ?_; first | (refine zC false rfl (by kernel_rfl) (by kernel_rfl) (fun K hK => ?_)) | (refine zC true rfl (by kernel_rfl) (by kernel_rfl) (fun K hK => ?_)))
 all_goals exact fA
theorem zZu {rs : List zM} (h : rs.length ≤ 400000) : okI (xZ rs) := fun x hx => by
 simp only [xZ, yJb, yM9] at hx
 rcases hx with rfl | ⟨r, _, hx⟩
 ·simp only [inK]; omega
 ·exact zFd (vU r) x hx
theorem zQl (h : Int) (r : yP) (hl : r.replies.length ≤ 400000) (hf : ∀ x ∈ r.replies, x.fits) : FnA Tryz.prog 112 [.raw (.int .u64 h), .agg r.av] (.raw (.int .u64 (zA2 h r))) := by
 obtain ⟨rs⟩ := r
 simp only at hl hf
 have hn := zSk h (xZ rs) (zZu hl) (by rw [xZ, yIz, zCi]; omega)
 have hd := fun k (hk : k < rs.length) => zQd (rs.getD k default) (hf _ (zAn hk))
 have hv := fun k => zH0 (yS (rs.getD k default)) (vU _)
 have hfr : (lA 10 zM.av rs).free := zE (fun y => zM.free y) _
 refine en Tryz.func112 Tryz.ntmps112 [.tmp 4] rfl ?_
 try (refine wkR trivial ?_; try refine sM fun K hK => ?_)
 refine zJ (fun k : Nat => ⟨30, 0, [(0, true, .raw (.int .u64 h)), (3, true, .box 0 0), (5, true, .row 0 ((rs.length : Int) :: (rs.take k).flatMap fun x => yG (yS x)).length), (6, true, .raw (.int .i64 k))], [[lA 10 zM.av rs]], [⟨3, 1, ((rs.length : Int) :: (rs.take k).flatMap fun x => yG (yS x)).length, els iC ((rs.length : Int) :: (rs.take k).flatMap fun x => yG (yS x))⟩], ((0, []), [], true)⟩)
  (fun k => k ≤ rs.length) (fun k => rs.length - k) 0 ?_ (by omega) ?_
 ·refine wkn ?_ ?_ ?_
  all_goals first | exact wk0 | refine wkS ?_ | skip
  all_goals (try trivial)
  all_goals ((repeat' apply And.intro) <;> first | exact wkL | skip)
  intro q hq
  obtain rfl : q = 0 := by simpa using hq
  exact z8.of_eq rfl
 ·intro k hk
  rcases yIq k rs.length with hlt | hge
  ·have hdk := hd k hlt
   have hvk := hv k
   have hs : (rs.length : Int) :: (rs.take (k + 1)).flatMap (fun x => yG (yS x)) = ((rs.length : Int) :: (rs.take k).flatMap fun x => yG (yS x)) ++ yG (yS (rs.getD k default)) := by
    rw [yLq hlt, yLd, z5 hlt]
    simp
   have hL : ((rs.length : Int) :: (rs.take k).flatMap fun x => yG (yS x)).length ≤ 1000000 := by
    rw [yIz, zCi, yKy]; omega
   clear hn hd hv
   generalize ((rs.length : Int) :: (rs.take k).flatMap fun x => yG (yS x)) = R at *
   generalize yS (rs.getD k default) = D at *
   have hfh : (liA (yG D)).free := jH _
   have hlh : (yG D).length = 2 := rfl
   try (refine wkR trivial ?_; try refine sM fun K hK => ?_)
   refine zA ⟨_, evl, fun _ => ?_, fun hb => absurd (yMa hb) (by omega)⟩
   try (refine wkR (And.intro hdk hvk) ?_; try refine sM fun K hK => ?_)
   refine ⟨k + 1, by omega, by omega, ?_⟩
   rw [hs, yJ2]
   refine wkn ?_ ?_ ?_
   all_goals first | exact wk0 | refine wkS ?_ | skip
   all_goals (try trivial)
   all_goals ((repeat' apply And.intro) <;> first | exact wkL | skip)
   exact fun q hq => z8.of_eq (vE rfl (fun i hi => rfl) (fun i hi => rfl) q (by simpa using hq))
  ·obtain rfl : k = rs.length := by omega
   rw [yLr]
   rw [show ((rs.length : Int) :: rs.flatMap fun x => yG (yS x)) = xZ rs from rfl]
   have e : zA2 h ⟨rs⟩ = zG3 h (xZ rs) := rfl
   rw [e]
   clear hd hv e
   generalize zG3 h (xZ rs) = M at *
   generalize xZ rs = R at *
   have hR := jH R
   try (refine wkR trivial ?_; try refine sM fun K hK => ?_)
   refine zA ⟨_, evl, fun hb => absurd (yLv hb) (by omega), fun _ => ?_⟩
   try (refine wkR hn ?_; try refine sM fun K hK => ?_)
   refine rq ?_ ?_
   ·rfl
   ·simp [AV.free]
theorem zW2 (l : List yP) (hmax : l.length ≤ 4611686018427387904) (hr : ∀ r ∈ l, r.replies.length ≤ 400000 ∧ ∀ x ∈ r.replies, x.fits) : FnA Tryz.prog 69 [lA 1 yP.av l] (.raw (.int .u64 (wT l l.length))) := by
 have hfl : (lA 1 yP.av l).free := zE (fun y => yP.free y) _
 refine en Tryz.func69 Tryz.ntmps69 [.tmp 2] rfl ?_
 try (refine wg ?_; try refine sM fun K hK => ?_)
 refine zJ (fun k : Nat => ⟨18, 0, [(0, true, lA 1 yP.av l), (3, true, .raw (.int .u64 (wT l k))), (4, true, .raw (.int .i64 k))], [], [], ((0, []), [], true)⟩)
  (fun k => k ≤ l.length) (fun k => l.length - k) 0 ?_ (by omega) ?_
 ·exact wkZ
 intro k hk
 rcases yIq k l.length with hlt | hge
 ·have hb := zQl (wT l k) (l.getD k default) (hr _ (zAn hlt)).1 (hr _ (zAn hlt)).2
  try (refine wg ?_; try refine sM fun K hK => ?_)
  refine zA ⟨_, evl, fun _ => ?_, fun hb => absurd (yMa hb) (by omega)⟩
  repeat
   first
    | (refine zF (hK _ ?_); clear hK K)
    | refine stG ?_
    | (refine yH 1 rfl ?_; refine zN rfl rfl ⟨_, evl, _, _, _, evl, yR, ?_⟩; apply Exists.intro; refine ⟨fun hg => ?_, ?_⟩; · first | exact FnA.at_ (hb) rfl rfl | exact FnA.at_s (hb) rfl xB | exact FnA.at_s (hb) rfl xC)
    | (refine zS 1 rfl ?_; refine zP rfl ⟨_, evl, _, _, _, (fun _ _ => w7), yR, ?_⟩; apply Exists.intro; refine ⟨fun hg => ?_, ?_⟩; · first | exact FnA.at_ (hb) rfl rfl | exact FnA.at_s (hb) rfl xB | exact FnA.at_s (hb) rfl xC)
    | (refine zS 1 rfl ?_; refine zG ?_)
    | (refine z7 ?_; first | (refine zK (hK _ ?_); clear hK K) | (refine zT rfl ⟨_, evl, fun nb' => ?_⟩))
    | refine zD (fun K hK => ?_)
    | (refine xD ?_; first | (refine zC false rfl (by kernel_rfl) (by kernel_rfl) (fun K hK => ?_)) | (refine zC true rfl (by kernel_rfl) (by kernel_rfl) (fun K hK => ?_)))
  refine ⟨k + 1, by omega, by omega, ?_⟩
  rw [show wT l (k + 1) = zA2 (wT l k) (l.getD k default) from rfl]
  exact wkZ
 ·obtain rfl : k = l.length := by omega
  try (refine wg ?_; try refine sM fun K hK => ?_)
  refine zA ⟨_, evl, fun hb => absurd (yLv hb) (by omega), fun _ => ?_⟩
  try (refine wg ?_; try refine sM fun K hK => ?_)
  all_goals exact fA
end Go.Proofs.YtchpbdecipcelaaGreatDoor
