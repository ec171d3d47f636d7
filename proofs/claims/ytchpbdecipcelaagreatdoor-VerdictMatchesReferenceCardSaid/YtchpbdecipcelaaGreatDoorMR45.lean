import Derived.Test.YtchpbdecipcelaaGreatDoorMR01
import Derived.Test.YtchpbdecipcelaaGreatDoorMR41
import Derived.Test.YtchpbdecipcelaaGreatDoorMR44
namespace Go.Proofs.YtchpbdecipcelaaGreatDoor
set_option linter.unusedVariables false
set_option linter.unusedSimpArgs false
set_option maxHeartbeats 4000000
set_option maxRecDepth 100000
open Go.RowKit
theorem zD2 (n lo hi : Int) : FnA Tryz.prog 141 [.raw (.int .i64 n), .raw (.int .i64 lo), .raw (.int .i64 hi)] (.raw (.bool (decide (lo ≤ n) && decide (n ≤ hi)))) := by
 refine en Tryz.func141 Tryz.ntmps141 [.tmp 6] rfl ?_
 repeat' first
  | refine wkg trivial ?_
  | (refine cS (fun hb => ?_) fun hb => ?_ <;> try (cases hb; done))
  | refine sM fun K hK => ?_
  | fail
 all_goals exact fA
theorem zTa (r : zN) : FnA Tryz.prog 209 [.agg r.av] (.raw (.bool (decide (z9 r)))) := by
 refine en Tryz.func209 Tryz.ntmps209 [.tmp 2] rfl ?_
 repeat' first
  | (refine wkM hK zD2 ?_)
  | refine wkg zD2 ?_
  | (refine cS (fun hb => ?_) fun hb => ?_ <;> try (cases hb; done))
  | refine sM fun K hK => ?_
  | fail
 all_goals (try (refine zM (by simp) ⟨_, _, _, evl, ob0, zV.sims ?_ fre⟩))
 all_goals first | exact z5.refl _ | (refine z5.of_eq ?_; first | rfl | (simp [z9, zGq]; done) | (simp_all [z9, zGq]; done) | (simp_all [z9, zGq]; omega) | (simp [z9, zGq]; grind) | (split <;> simp_all)) | exact yM | (refine z5.tup ?_; simp only [z8, yMs]; (repeat' apply And.intro) <;> first | exact yM | skip) | (exfalso; first | omega | (simp_all; done) | (simp_all; omega)) | skip
theorem zHn (n : Int) (hn : inK .u64 n) : FnA Tryz.prog 164 [.raw (.int .u64 n)] (liA (yI n)) := by
 simp only [inK] at hn
 have e2 := zXh (n := n) (by simp only [inK]; exact hn)
 have h1 : inK .i64 (n.fdiv (2 ^ min (Int.toNat 32) 64)) := by rw [zGt]; simp only [inK]; omega
 have h3 : inK .i64 (zGg .and .u64 n 4294967295) := by rw [e2]; simp only [inK]; omega
 refine en Tryz.func164 Tryz.ntmps164 [.tmp 2] rfl ?_
 repeat' first
  | refine wkg trivial ?_
  | (refine cS (fun hb => ?_) fun hb => ?_ <;> try (cases hb; done))
  | refine sM fun K hK => ?_
  | fail
 refine rt ?_
 rw [zGt, e2]
 exact (Sim.lstE rfl fun i hi => yA (enc := iC) (l := yI n) (fun _ => rfl) rfl hi).s
theorem xR {α : Type} [Inhabited α] {enc : α → List AV} {l l' : List α} {n : Nat} {f g : Nat → List AV} (hn : n = l.length) (hf : ∀ i, i < n → f i = els enc l i) (hg : ∀ i, i < l'.length → g i = els enc l' i) : ∀ i, i < n + l'.length → vX n f g i = els enc (l ++ l') i := by
 intro i hi
 subst hn
 rw [← yT (l := l) (n := l.length) rfl]
 rcases yKt i l.length with h | h
 ·rw [xJ h, xJ h, hf i h]
 ·rw [y6 h, y6 h, hg _ (by omega)]
theorem zRl (r : zN) (hf : r.fits) : FnA Tryz.prog 165 [.agg r.av] (.raw (.int .u64 (yS r))) := by
 have hn : inK .u64 r.nonce := by obtain ⟨h1, h2, h3, h4, ⟨h5, h6⟩, h7, h8, h9, h10⟩ := hf; exact h4
 have hh := zHn r.nonce hn
 have hI := zUk (jO r) (fun x hx => by
  obtain ⟨h1, h2, h3, h4, ⟨h5, h6⟩, h7, h8, h9, h10⟩ := hf
  have := zG1 hn
  simp only [yI, yMn, yMo, yMp, yMq, yMs] at this
  simp only [jO, yLf, yMo, yMv] at hx
  rcases hx with rfl | rfl | rfl | rfl | rfl | rfl | rfl | rfl | rfl | rfl | rfl
  all_goals first | assumption | exact this.1 | exact this.2) (by simp [jO])
 have e : yS r = dI (jO r) := by unfold yS dI; rw [show (11 : Nat) = (jO r).length from rfl, zO6]
 rw [e]
 have hfh : (liA (yI r.nonce)).free := qY _
 have hlh : (yI r.nonce).length = 2 := rfl
 have hap : jO r = [r.auth, r.host, r.round] ++ yI r.nonce ++ [r.stamp.lo, r.stamp.hi, r.key, r.table, r.sig.c, r.sig.s] := rfl
 generalize yI r.nonce = H at *
 generalize dI (jO r) = D at *
 rw [hap] at hI
 refine en Tryz.func165 Tryz.ntmps165 [.tmp 2] rfl ?_
 repeat
  first
   | (refine zG (hK _ ?_); clear hK K)
   | refine stR ?_
   | (refine yJ 1 rfl ?_; first | (refine zR rfl rfl ⟨_, evl, _, _, _, evl, yR, ?_⟩; apply Exists.intro; refine ⟨fun hg => ?_, ?_⟩; · first | exact FnA.at_ (hh) rfl rfl | exact FnA.sim hI ⟨Sim.lstE (by simp; omega) (xR (by simp; omega) (xR rfl (fun i hi => yA (enc := iC) (l := [r.auth, r.host, r.round]) (fun _ => rfl) rfl hi) fun i hi => rfl) (fun i hi => yA (enc := iC) (l := [r.stamp.lo, r.stamp.hi, r.key, r.table, r.sig.c, r.sig.s]) (fun _ => rfl) rfl hi)), trivial⟩ | exact FnA.at_s (hh) rfl yV | exact FnA.at_s (hh) rfl yW) | (refine xB rfl rfl ⟨_, evl, _, _, _, evl, _, _, evl, yR, ?_⟩; apply Exists.intro; refine ⟨fun hg => ?_, ?_⟩; · first | exact FnA.at_ (hh) rfl rfl | exact FnA.sim hI ⟨Sim.lstE (by simp; omega) (xR (by simp; omega) (xR rfl (fun i hi => yA (enc := iC) (l := [r.auth, r.host, r.round]) (fun _ => rfl) rfl hi) fun i hi => rfl) (fun i hi => yA (enc := iC) (l := [r.stamp.lo, r.stamp.hi, r.key, r.table, r.sig.c, r.sig.s]) (fun _ => rfl) rfl hi)), trivial⟩ | exact FnA.at_s (hh) rfl yV | exact FnA.at_s (hh) rfl yW))
   | (refine zW 1 rfl ?_; refine zS rfl ⟨_, evl, _, _, _, (fun _ _ => vH), yR, ?_⟩; apply Exists.intro; refine ⟨fun hg => ?_, ?_⟩; · first | exact FnA.at_ (hh) rfl rfl | exact FnA.sim hI ⟨Sim.lstE (by simp; omega) (xR (by simp; omega) (xR rfl (fun i hi => yA (enc := iC) (l := [r.auth, r.host, r.round]) (fun _ => rfl) rfl hi) fun i hi => rfl) (fun i hi => yA (enc := iC) (l := [r.stamp.lo, r.stamp.hi, r.key, r.table, r.sig.c, r.sig.s]) (fun _ => rfl) rfl hi)), trivial⟩ | exact FnA.at_s (hh) rfl yV | exact FnA.at_s (hh) rfl yW)
   | (refine zW 1 rfl ?_; refine zJ ?_)
   | (refine yB ?_; first | (refine zP (hK _ ?_); clear hK K) | (refine zX rfl ⟨_, evl, fun nb' => ?_⟩))
   | refine zE (fun K hK => ?_)
   | (refine yZ ?_; first | (refine zD false rfl (by kernel_rfl) (by kernel_rfl) (fun K hK => ?_)) | (refine zD true rfl (by kernel_rfl) (by kernel_rfl) (fun K hK => ?_)))
 all_goals exact fA
theorem yBs {rs : List zN} (h : rs.length ≤ 400000) : okI (x9 rs) := fun x hx => by
 simp only [x9, yLf, yOb] at hx
 rcases hx with rfl | ⟨r, _, hx⟩
 ·simp only [inK]; omega
 ·exact zG1 (qC r) x hx
theorem zRv (h : Int) (r : yK) (hl : r.replies.length ≤ 400000) (hf : ∀ x ∈ r.replies, x.fits) : FnA Tryz.prog 112 [.raw (.int .u64 h), .agg r.av] (.raw (.int .u64 (zAd h r))) := by
 obtain ⟨rs⟩ := r
 simp only at hl hf
 have hn := zU1 h (x9 rs) (yBs hl) (by rw [x9, yL2, zCi]; omega)
 have hd := fun k (hk : k < rs.length) => zRl (rs.getD k default) (hf _ (w9 hk))
 have hv := fun k => zHn (yS (rs.getD k default)) (qC _)
 have hfr : (lA 10 zN.av rs).free := zC (fun y => zN.free y) _
 refine en Tryz.func112 Tryz.ntmps112 [.tmp 4] rfl ?_
 try (refine wkR trivial ?_; try refine sM fun K hK => ?_)
 refine zF (fun k : Nat => ⟨30, 0, [(0, true, .raw (.int .u64 h)), (3, true, .box 0 0), (5, true, .row 0 ((rs.length : Int) :: (rs.take k).flatMap fun x => yI (yS x)).length), (6, true, .raw (.int .i64 k))], [[lA 10 zN.av rs]], [⟨3, 1, ((rs.length : Int) :: (rs.take k).flatMap fun x => yI (yS x)).length, els iC ((rs.length : Int) :: (rs.take k).flatMap fun x => yI (yS x))⟩], ((0, []), [], true)⟩)
  (fun k => k ≤ rs.length) (fun k => rs.length - k) 0 ?_ (by omega) ?_
 ·refine wkn ?_ ?_ ?_
  all_goals first | exact wk0 | refine wkS ?_ | skip
  all_goals (try trivial)
  all_goals ((repeat' apply And.intro) <;> first | exact wkL | skip)
  intro q hq
  obtain rfl : q = 0 := by simpa using hq
  exact z8.of_eq rfl
 ·intro k hk
  rcases yKt k rs.length with hlt | hge
  ·have hdk := hd k hlt
   have hvk := hv k
   have hs : (rs.length : Int) :: (rs.take (k + 1)).flatMap (fun x => yI (yS x)) = ((rs.length : Int) :: (rs.take k).flatMap fun x => yI (yS x)) ++ yI (yS (rs.getD k default)) := by
    rw [yNs hlt, yNg, zU hlt]
    simp
   have hL : ((rs.length : Int) :: (rs.take k).flatMap fun x => yI (yS x)).length ≤ 1000000 := by
    rw [yL2, zCi, yN3]; omega
   clear hn hd hv
   generalize ((rs.length : Int) :: (rs.take k).flatMap fun x => yI (yS x)) = R at *
   generalize yS (rs.getD k default) = D at *
   have hfh : (liA (yI D)).free := qY _
   have hlh : (yI D).length = 2 := rfl
   try (refine wkR trivial ?_; try refine sM fun K hK => ?_)
   refine zA ⟨_, evl, fun _ => ?_, fun hb => absurd (yOc hb) (by omega)⟩
   try (refine wkR (And.intro hdk hvk) ?_; try refine sM fun K hK => ?_)
   refine ⟨k + 1, by omega, by omega, ?_⟩
   rw [hs, yL5]
   refine wkn ?_ ?_ ?_
   all_goals first | exact wk0 | refine wkS ?_ | skip
   all_goals (try trivial)
   all_goals ((repeat' apply And.intro) <;> first | exact wkL | skip)
   exact fun q hq => z8.of_eq (xR rfl (fun i hi => rfl) (fun i hi => rfl) q (by simpa using hq))
  ·obtain rfl : k = rs.length := by omega
   rw [yNt]
   rw [show ((rs.length : Int) :: rs.flatMap fun x => yI (yS x)) = x9 rs from rfl]
   have e : zAd h ⟨rs⟩ = zGr h (x9 rs) := rfl
   rw [e]
   clear hd hv e
   generalize zGr h (x9 rs) = M at *
   generalize x9 rs = R at *
   have hR := qY R
   try (refine wkR trivial ?_; try refine sM fun K hK => ?_)
   refine zA ⟨_, evl, fun hb => absurd (yNw hb) (by omega), fun _ => ?_⟩
   try (refine wkR hn ?_; try refine sM fun K hK => ?_)
   refine rq ?_ ?_
   ·rfl
   ·simp [AV.free]
theorem zT7 (r : yK) (hl : r.replies.length ≤ 4611686018427387904) (hf : ∀ x ∈ r.replies, x.fits) (host number head : Int) (h1 : inK .i64 host) (h2 : inK .i64 number) :
  FnA Tryz.prog 142 [.agg r.av, .raw (.int .i64 host), .raw (.int .i64 number), .raw (.int .u64 head)] (.raw (.bool (decide (jQ r host number head)))) := by
 obtain ⟨rs⟩ := r
 simp only at hl hf
 have hfr : (lA 10 zN.av rs).free := zC (fun y => zN.free y) _
 have hno : ∀ k, k < rs.length → ¬ zP9 rs host number head k → decide (jQ ⟨rs⟩ host number head) = false := fun k hk h => yO4 fun h' => h (h' k hk)
 have hyes : (∀ i, i < rs.length → zP9 rs host number head i) → decide (jQ ⟨rs⟩ host number head) = true := fun h => yO3 h
 generalize decide (jQ ⟨rs⟩ host number head) = res at *
 refine en Tryz.func142 Tryz.ntmps142 [.tmp 8] rfl ?_
 try (refine wg ?_; try refine sM fun K hK => ?_)
 refine zF (fun k : Nat => ⟨63, 0, [(1, true, .raw (.int .i64 host)), (2, true, .raw (.int .i64 number)), (3, true, .raw (.int .u64 head)), (4, true, .box 0 0), (9, true, .raw (.int .i64 k))], [[lA 10 zN.av rs]], [], ((0, []), [], true)⟩) (fun k => k ≤ rs.length ∧ ∀ i, i < k → zP9 rs host number head i) (fun k => rs.length - k) 0 ?_ ⟨by omega, fun i h => by omega⟩ ?_
 ·exact wkZ
 rintro k ⟨hk, hall⟩
 rcases yKt k rs.length with hlt | hge
 ·have hr := zTa (rs.getD k default)
  have hfk := hf _ (w9 hlt)
  have hn := zOw head host number (rs.getD k default).auth h1 h2 hfk.1
  have hb := hno k hlt
  have hfit : zP9 rs host number head k ↔ ((∀ y, zK4 rs k = some y → y.auth < (rs.getD k default).auth) ∧ z9 (rs.getD k default) ∧ (rs.getD k default).host = host ∧ (rs.getD k default).round = number ∧ (rs.getD k default).nonce = zA3 head host number (rs.getD k default).auth) := Iff.rfl
  generalize hrp : decide (z9 (rs.getD k default)) = rp at *
  generalize zA3 head host number (rs.getD k default).auth = nn at *
  clear hfk hf hno hyes
  try (refine wg ?_; try refine sM fun K hK => ?_)
  refine zA ⟨_, evl, fun _ => ?_, fun hb => absurd (yOc hb) (by omega)⟩
  try (refine wkg (And.intro hr hn) ?_; try refine sM fun K hK => ?_)
  refine zA ⟨_, evl, fun hc => ?_, fun hc => ?_⟩
  ·rw [hb fun h => by
    obtain ⟨_, a, b, c, d⟩ := hfit.1 h
    rw [yO3 a] at hrp
    subst hrp
    simp only [b, c, d, decide_true, yMl, Bool.or_false, yM7] at hc]
   clear hb hfit hall
   try (refine wg ?_; try refine sM fun K hK => ?_)
   all_goals exact fA
  simp only [yN1, yMx, yLr] at hc
  obtain ⟨⟨⟨rfl, c1⟩, c2⟩, c3⟩ := hc
  have hrp := yNw hrp
  rcases yLj k with rfl | hp
  ·have hk0 : zP9 rs host number head 0 := hfit.2 ⟨fun y e => (by cases e), hrp, c1, c2, c3⟩
   clear hb hfit
   try (refine wg ?_; try refine sM fun K hK => ?_)
   refine zA ⟨_, evl, fun hb => absurd hb (by simp), fun _ => ?_⟩
   try (refine wg ?_; try refine sM fun K hK => ?_)
   refine ⟨1, ⟨by omega, fun i hi => ?_⟩, by omega, ?_⟩
   ·obtain rfl : i = 0 := by omega
    exact hk0
   ·exact wkZ
  ·obtain ⟨j, rfl⟩ : ∃ j, k = j + 1 := ⟨k - 1, by omega⟩
   have hpj : zK4 rs (j + 1) = some (rs.getD j default) := rfl
   have ej : (((j + 1 : Nat) : Int) - 1).toNat = j := by omega
   try (refine wg ?_; try refine sM fun K hK => ?_)
   refine zA ⟨_, evl, fun hc => ?_, fun hc => ?_⟩
   ·rw [ej] at hc
    simp only [yLq, yLr] at hc
    rw [hb fun h => by have := (hfit.1 h).1 _ hpj; omega]
    clear hb hfit hall
    try (refine wg ?_; try refine sM fun K hK => ?_)
    all_goals exact fA
   ·rw [ej] at hc
    simp only [yN0, yMz] at hc
    have hkf : zP9 rs host number head (j + 1) := hfit.2 ⟨fun y e => by rw [hpj] at e; cases e; omega, hrp, c1, c2, c3⟩
    clear hb hfit
    try (refine wg ?_; try refine sM fun K hK => ?_)
    refine ⟨j + 1 + 1, ⟨by omega, fun i hi => ?_⟩, by omega, ?_⟩
    ·rcases yNv.1 hi with h | rfl
     ·exact hall i h
     ·exact hkf
    ·exact wkZ
 ·obtain rfl : k = rs.length := by omega
  rw [hyes hall]
  clear hno hyes
  try (refine wg ?_; try refine sM fun K hK => ?_)
  refine zA ⟨_, evl, fun hb => absurd (yNw hb) (by omega), fun _ => ?_⟩
  try (refine wg ?_; try refine sM fun K hK => ?_)
  all_goals exact fA
theorem zSf (c : xA) (hl : c.rounds.length ≤ 4611686018427387904) (hh : inK .i64 c.host) (hr : ∀ r ∈ c.rounds, r.replies.length ≤ 400000 ∧ ∀ x ∈ r.replies, x.fits) :
  FnA Tryz.prog 86 [.agg c.av] (.raw (.bool (decide (vE c)))) := by
 obtain ⟨host, l⟩ := c
 simp only at hl hh hr
 have hfl : (lA 1 yK.av l).free := zC (fun y => yK.free y) _
 have hw := zD2 host 1 64
 have hno1 : ¬ (1 ≤ host ∧ host ≤ 64) → decide (vE ⟨host, l⟩) = false := fun h => yO4 fun h' => h h'.1
 have hno2 : ¬ l.length ≤ 200 → decide (vE ⟨host, l⟩) = false := fun h => yO4 fun h' => h h'.2.1
 have hno3 : ∀ k, k < l.length → decide (jQ (l.getD k default) host ((k : Int) + 1) (qP l k)) = false → decide (vE ⟨host, l⟩) = false := fun k hk h => yO4 fun h' => absurd (h'.2.2 k hk) (yOc h)
 have hyes : (1 ≤ host ∧ host ≤ 64) → l.length ≤ 200 → (∀ k, k < l.length → jQ (l.getD k default) host ((k : Int) + 1) (qP l k)) → decide (vE ⟨host, l⟩) = true := fun a b c => yO3 ⟨a, b, c⟩
 generalize decide (vE ⟨host, l⟩) = res at *
 refine en Tryz.func86 Tryz.ntmps86 [.tmp 2] rfl ?_
 try (refine wkg hw ?_; try refine sM fun K hK => ?_)
 refine zA ⟨_, evl, fun hc => ?_, fun hc => ?_⟩
 ·have e : res = false := by
   simp only [yMy, yLs, yN0, yMz, yLr] at hc
   rcases hc with hc | hc
   ·exact hno1 (by omega)
   ·exact hno2 (by omega)
  rw [e]
  clear hno1 hno2 hno3 hyes
  try (refine wg ?_; try refine sM fun K hK => ?_)
  all_goals exact fA
 simp only [yN1, yMx, yLq, yLr, yMz] at hc
 obtain ⟨c1, c2⟩ := hc
 have hyes := hyes c1 (by omega)
 clear hno1 hno2
 try (refine wg ?_; try refine sM fun K hK => ?_)
 refine zF (fun k : Nat => ⟨41, 0, [(1, true, .box 0 0), (3, true, .raw (.int .u64 (qP l k))), (4, true, .raw (.int .i64 k))], [[.raw (.int .i64 host), lA 1 yK.av l]], [], ((0, []), [], true)⟩)
  (fun k => k ≤ l.length ∧ ∀ i, i < k → jQ (l.getD i default) host ((i : Int) + 1) (qP l i)) (fun k => l.length - k) 0 ?_ ⟨by omega, fun i h => by omega⟩ ?_
 ·exact wkZ
 rintro k ⟨hk, hall⟩
 rcases yKt k l.length with hlt | hge
 ·obtain ⟨q1, q2⟩ := hr _ (w9 hlt)
  have hb := zRv (qP l k) (l.getD k default) q1 q2
  have hri := zT7 (l.getD k default) (by omega) q2 host ((k : Int) + 1) (qP l k) hh (by simp only [inK]; omega)
  have hn := hno3 k hlt
  have hb2 : qP l (k + 1) = zAd (qP l k) (l.getD k default) := rfl
  clear hno3 hyes hr
  generalize hz : decide (jQ (l.getD k default) host ((k : Int) + 1) (qP l k)) = z at *
  try (refine wg ?_; try refine sM fun K hK => ?_)
  refine zA ⟨_, evl, fun _ => ?_, fun hb => absurd (yOc hb) (by omega)⟩
  try (refine wkg hri ?_; try refine sM fun K hK => ?_)
  refine zA ⟨_, evl, fun hc => ?_, fun hc => ?_⟩
  ·rw [yLs] at hc
   rw [hn hc]
   try (refine wg ?_; try refine sM fun K hK => ?_)
   all_goals exact fA
  ·rw [yMx] at hc
   subst hc
   have hz := yNw hz
   repeat
    first
     | (refine zG (hK _ ?_); clear hK K)
     | refine stG ?_
     | (refine yJ 1 rfl ?_; refine zR rfl rfl ⟨_, evl, _, _, _, evl, yR, ?_⟩; apply Exists.intro; refine ⟨fun hg => ?_, ?_⟩; · first | exact FnA.at_ (hb) rfl rfl | exact FnA.at_s (hb) rfl yV | exact FnA.at_s (hb) rfl yW)
     | (refine zW 1 rfl ?_; refine zS rfl ⟨_, evl, _, _, _, (fun _ _ => vH), yR, ?_⟩; apply Exists.intro; refine ⟨fun hg => ?_, ?_⟩; · first | exact FnA.at_ (hb) rfl rfl | exact FnA.at_s (hb) rfl yV | exact FnA.at_s (hb) rfl yW)
     | (refine zW 1 rfl ?_; refine zJ ?_)
     | (refine yB ?_; first | (refine zP (hK _ ?_); clear hK K) | (refine zX rfl ⟨_, evl, fun nb' => ?_⟩))
     | refine zE (fun K hK => ?_)
     | (refine yZ ?_; first | (refine zD false rfl (by kernel_rfl) (by kernel_rfl) (fun K hK => ?_)) | (refine zD true rfl (by kernel_rfl) (by kernel_rfl) (fun K hK => ?_)))
   refine ⟨k + 1, ⟨by omega, fun i hi => ?_⟩, by omega, ?_⟩
   ·rcases yNv.1 hi with h | rfl
    ·exact hall i h
    ·exact hz
   ·rw [hb2]
    exact wkZ
 ·obtain rfl : k = l.length := by omega
  rw [hyes hall]
  clear hno3 hyes
  try (refine wg ?_; try refine sM fun K hK => ?_)
  refine zA ⟨_, evl, fun hb => absurd (yNw hb) (by omega), fun _ => ?_⟩
  try (refine wg ?_; try refine sM fun K hK => ?_)
  all_goals exact fA
theorem zLl : ∀ (n : Nat) (L : List zB), L.length ≤ 83 → n ≤ 3 → FnA Tryz.prog 60 [lA 2 zB.av L, .raw (.int .i64 n)] (lA 1 sC2 (Vd.choose L n))
 | 0, L, hL, _ => by
  have e : Vd.choose L 0 = [[]] := by cases L <;> rfl
  rw [e]
  refine en Tryz.func60 Tryz.ntmps60 [.tmp 4] rfl ?_
  try (refine wg ?_; try refine sM fun K hK => ?_)
  refine zA ⟨_, evl, fun _ => ?_, fun hb => absurd hb (by simp)⟩
  try (refine wg ?_; try refine sM fun K hK => ?_)
  refine zM (by simp) ⟨_, _, _, evl, ob0, zV.sims (Sim.lst rfl fun i hi => ?_).s (zC (fun y => show AV.freeL (sC2 y) from ⟨zC (fun z => zB.free z) _, trivial⟩) _)⟩
  obtain rfl : i = 0 := by have : i < 1 := hi; omega
  exact ⟨Sim.nil rfl, trivial⟩
 | n + 1, L, hL, hn => by
  have hfL : (lA 2 zB.av L).free := zC (fun y => zB.free y) _
  rw [jV]
  refine en Tryz.func60 Tryz.ntmps60 [.tmp 4] rfl ?_
  try (refine wg ?_; try refine sM fun K hK => ?_)
  refine zA ⟨_, evl, fun hb => absurd (yNw hb) (by omega), fun _ => ?_⟩
  try (refine wg ?_; try refine sM fun K hK => ?_)
  refine yP (xE.nilRow 5 32 1 rfl) ?_
  refine zF (fun i : Nat => ⟨45, 0, [(0, true, lA 2 zB.av L), (1, true, .raw (.int .i64 ((n : Int) + 1))), (5, true, .row 0 (upI L n i).length), (6, true, .raw (.int .i64 i))], [], [zIi (upI L n i)], ((0, []), [], true)⟩)
   (fun i => i ≤ L.length) (fun i => L.length - i) 0 ?_ (by omega) ?_
  ·exact wkZ
  intro i hi
  rcases yKt i L.length with hlt | hge
  ·have ih := zLl n (L.drop (i + 1)) (by rw [yN4]; omega) (by omega)
   have hcl := qH (L.drop (i + 1)) n
   have hs := zEf L n i
   try (refine wg ?_; try refine sM fun K hK => ?_)
   refine zA ⟨_, evl, fun _ => ?_, fun hb => absurd (yOc hb) (by omega)⟩
   replace ih := FnA.sim ih (args := [.lst 2 (L.length - ((i : Int) + 1).toNat) fun j => els zB.av L (((i : Int) + 1).toNat + j), .raw (.int .i64 ((n : Int) + 1 - 1))]) ⟨Sim.lstE (show L.length - ((i : Int) + 1).toNat = (L.drop (i + 1)).length by rw [yN4]; omega) fun j hj => zZf L i j, Sim.of_eq (show AV.raw (.int .i64 ((n : Int) + 1 - 1)) = .raw (.int .i64 n) by congr 2; omega), trivial⟩
   try (refine wkg ih ?_; try refine sM fun K hK => ?_)
   clear ih
   have hCl : (Vd.choose (L.drop (i + 1)) n).length ≤ 571787 := by
    have h3 : (L.drop (i + 1)).length ^ n ≤ 83 ^ n := Nat.pow_le_pow_left (by rw [yN4]; omega) n
    have h4 : 83 ^ n ≤ 83 ^ 3 := Nat.pow_le_pow_right (by decide) (by omega)
    have h5 : 83 ^ 3 = 571787 := by decide
    omega
   have hOl : (upI L n i).length ≤ 571787 := by
    have h1 := zYy L n (show i ≤ L.length by omega)
    have h0 : (upI L n L.length).length = (Vd.choose L (n + 1)).length := by rw [jV]; rfl
    have h2 := qH L (n + 1)
    have h3 : L.length ^ (n + 1) ≤ 83 ^ (n + 1) := Nat.pow_le_pow_left hL _
    have h4 : 83 ^ (n + 1) ≤ 83 ^ 3 := Nat.pow_le_pow_right (by decide) (by omega)
    have h5 : 83 ^ 3 = 571787 := by decide
    omega
   clear hcl
   have hcn : ∀ s ∈ Vd.choose (L.drop (i + 1)) n, s.length = n := fun s hs => ((Vd.choose_mem _ _ _).1 hs).2
   have hmp : ∀ k, k < (Vd.choose (L.drop (i + 1)) n).length → ((Vd.choose (L.drop (i + 1)) n).take (k + 1)).map (L.getD i default :: ·) = ((Vd.choose (L.drop (i + 1)) n).take k).map (L.getD i default :: ·) ++ [L.getD i default :: (Vd.choose (L.drop (i + 1)) n).getD k default] := fun k hk => by
    rw [yNs hk, yNk, zU hk]
    rfl
   generalize Vd.choose (L.drop (i + 1)) n = C at *
   generalize upI L n i = O at *
   refine zF (fun k : Nat => ⟨45, 0, [(0, true, lA 2 zB.av L), (1, true, .raw (.int .i64 ((n : Int) + 1))), (5, true, .row 0 (O ++ (C.take k).map (L.getD i default :: ·)).length), (6, true, .raw (.int .i64 i)), (7, true, lA 1 sC2 C), (8, true, .raw (.int .i64 k))], [], [zIi (O ++ (C.take k).map (L.getD i default :: ·))], ((0, []), [], true)⟩)
    (fun k => k ≤ C.length) (fun k => C.length - k) 0 ?_ (by omega) ?_
   ·simp only [yMi, yMk, yMj]
    exact wkZ
   intro k hk
   rcases yKt k C.length with hkl | hkg
   ·have hm := hmp k hkl
    have hck := hcn _ (w9 hkl)
    have hRl : (O ++ (C.take k).map (L.getD i default :: ·)).length ≤ 2000000 := by
     rw [yL5, yMg, yN3]; omega
    have hst : O ++ (C.take (k + 1)).map (L.getD i default :: ·) = (O ++ (C.take k).map (L.getD i default :: ·)) ++ [L.getD i default :: C.getD k default] := by rw [hm, yN2]
    generalize O ++ (C.take k).map (L.getD i default :: ·) = R at *
    try (refine wg ?_; try refine sM fun K hK => ?_)
    refine zA ⟨_, evl, fun _ => ?_, fun hb => absurd (yOc hb) (by omega)⟩
    repeat (refine stG ?_)
    refine kJ true (by kernel_rfl) (by kernel_rfl) (fun K hK => ?_)
    iterate 5 (refine stG ?_)
    refine zJ ?_
    repeat (refine stG ?_)
    refine zX rfl ⟨_, evl, fun nb' => ?_⟩
    refine zQj yH rfl rfl ⟨_, evl, _, _, _, evl, yR, ?_⟩
    repeat
     first
      | (refine zG (hK _ ?_); clear hK K)
      | refine stG ?_
      | (refine zW 1 rfl ?_; refine zJ ?_)
      | (refine yB ?_; first | (refine zP (hK _ ?_); clear hK K) | (refine zX rfl ⟨_, evl, fun nb' => ?_⟩))
      | refine zE (fun K hK => ?_)
      | (refine yZ ?_; first | (refine zD false rfl (by kernel_rfl) (by kernel_rfl) (fun K hK => ?_)) | (refine zD true rfl (by kernel_rfl) (by kernel_rfl) (fun K hK => ?_)))
    rcases yLj (C.getD k default).length with h0 | h0
    ·rw [h0]
     refine zT1 yH rfl rfl rfl rfl evl evl zUz rfl rfl (by exact ⟨by decide, rfl⟩) ?_
     repeat
      first
       | (refine zG (hK _ ?_); clear hK K)
       | refine stG ?_
       | (refine zW 1 rfl ?_; refine zJ ?_)
       | (refine yB ?_; first | (refine zP (hK _ ?_); clear hK K) | (refine zX rfl ⟨_, evl, fun nb' => ?_⟩))
       | refine zE (fun K hK => ?_)
       | (refine yZ ?_; first | (refine zD false rfl (by kernel_rfl) (by kernel_rfl) (fun K hK => ?_)) | (refine zD true rfl (by kernel_rfl) (by kernel_rfl) (fun K hK => ?_)))
     refine ⟨k + 1, by omega, by omega, ?_⟩
     rw [hst, yL5]
     refine wkn ?_ ?_ ?_
     all_goals first | exact wk0 | refine wkS ?_ | skip
     all_goals (try trivial)
     all_goals ((repeat' apply And.intro) <;> first | exact wkL | skip)
     intro q hq
     refine zEw (enc := sC2) (L := R) (x := L.getD i default :: C.getD k default) ?_ q (by simpa using hq)
     refine ⟨((Sim.ful _).trans (Sim.lstE (by rw [yL2, h0]) fun q hq => ?_)).s, trivial⟩
     obtain rfl : q = 0 := by omega
     rfl
    ·refine qK yH rfl rfl ⟨_, evl, _, _, _, evl, (by exact fun _ => ⟨by simp, ⟨trivial, h0⟩, ⟨rfl, rfl, Nat.zero_lt_two, rfl⟩, by simp only [maxLen]; omega, (show (1 + (C.getD k default).length) * 16 ≤ 140737488355328 by omega)⟩), ?_⟩
     repeat
      first
       | (refine zG (hK _ ?_); clear hK K)
       | refine stG ?_
       | (refine zW 1 rfl ?_; refine zJ ?_)
       | (refine yB ?_; first | (refine zP (hK _ ?_); clear hK K) | (refine zX rfl ⟨_, evl, fun nb' => ?_⟩))
       | refine zE (fun K hK => ?_)
       | (refine yZ ?_; first | (refine zD false rfl (by kernel_rfl) (by kernel_rfl) (fun K hK => ?_)) | (refine zD true rfl (by kernel_rfl) (by kernel_rfl) (fun K hK => ?_)))
     refine ⟨k + 1, by omega, by omega, ?_⟩
     rw [hst, yL5]
     refine wkn ?_ ?_ ?_
     all_goals first | exact wk0 | refine wkS ?_ | skip
     all_goals (try trivial)
     all_goals ((repeat' apply And.intro) <;> first | exact wkL | skip)
     intro q hq
     refine zEw (enc := sC2) (L := R) (x := L.getD i default :: C.getD k default) ?_ q (by simpa using hq)
     refine ⟨(Sim.lstE (by rw [yL2, Nat.add_comm]) fun q hq => ?_).s, trivial⟩
     have h1 : ∀ q, q < 1 → z7 2 (L.getD i default).av q = els zB.av [L.getD i default] q := fun q hq => by
      obtain rfl : q = 0 := by omega
      rfl
     exact xR (l := [L.getD i default]) (l' := C.getD k default) rfl h1 (fun q hq => rfl) q hq
   ·obtain rfl : k = C.length := by omega
    rw [yNt, ← hs]
    try (refine wg ?_; try refine sM fun K hK => ?_)
    refine zA ⟨_, evl, fun hb => absurd (yNw hb) (by omega), fun _ => ?_⟩
    try (refine wg ?_; try refine sM fun K hK => ?_)
    refine ⟨i + 1, by omega, by omega, ?_⟩
    exact wkZ
  ·obtain rfl : i = L.length := by omega
   try (refine wg ?_; try refine sM fun K hK => ?_)
   refine zA ⟨_, evl, fun hb => absurd (yNw hb) (by omega), fun _ => ?_⟩
   try (refine wg ?_; try refine sM fun K hK => ?_)
   refine zM (by simp) ⟨_, _, _, evl, ob0, zV.sims ?_ ?_⟩
   ·exact z5.row (el := els sC2 (upI L n L.length)) (m := (upI L n L.length).length) rfl rfl rfl rfl fun i hi => rfl
   ·exact zC (fun y => show AV.freeL (sC2 y) from ⟨zC (fun z => zB.free z) _, trivial⟩) _
end Go.Proofs.YtchpbdecipcelaaGreatDoor
