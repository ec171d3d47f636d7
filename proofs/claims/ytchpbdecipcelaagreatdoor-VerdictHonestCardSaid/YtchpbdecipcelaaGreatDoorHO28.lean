import Derived.Test.YtchpbdecipcelaaGreatDoorHO01
import Derived.Test.YtchpbdecipcelaaGreatDoorHO19
import Derived.Test.YtchpbdecipcelaaGreatDoorHO27
namespace Go.Proofs.YtchpbdecipcelaaGreatDoor
set_option linter.unusedVariables false
set_option linter.unusedSimpArgs false
set_option maxHeartbeats 4000000
set_option maxRecDepth 100000
open Go.RowKit
structure yP where
 replies : List zM
 deriving Inhabited, DecidableEq
@[go_sem] def yP.av (x : yP) : List AV := [lA 10 zM.av x.replies]
@[simp] theorem yP.free (x : yP) : AV.freeL x.av := ⟨zE (fun y => zM.free y) _, trivial⟩
structure xS where
 host : Int
 rounds : List yP
 deriving Inhabited, DecidableEq
@[go_sem] def xS.av (x : xS) : List AV := [.raw (.int .i64 x.host), lA 1 yP.av x.rounds]
@[simp] theorem xS.free (x : xS) : AV.freeL x.av := ⟨trivial, zE (fun y => yP.free y) _, trivial⟩
theorem zFp (n lo hi : Int) : FnA Tryz.prog 121 [.raw (.int .i64 n), .raw (.int .i64 lo), .raw (.int .i64 hi)] (.raw (.bool (decide (lo ≤ n) && decide (n ≤ hi)))) := by
 refine en Tryz.func121 Tryz.ntmps121 [.tmp 6] rfl ?_
 repeat' first
  | refine wkg trivial ?_
  | (refine cS (fun hb => ?_) fun hb => ?_ <;> try (cases hb; done))
  | refine sM fun K hK => ?_
  | fail
 all_goals exact fA
theorem zIn (r : zM) : FnA Tryz.prog 187 [.agg r.av] (.raw (.bool (decide (yJ r)))) := by
 refine en Tryz.func187 Tryz.ntmps187 [.tmp 2] rfl ?_
 repeat' first
  | (refine wkM hK zFp ?_)
  | refine wkg zFp ?_
  | (refine cS (fun hb => ?_) fun hb => ?_ <;> try (cases hb; done))
  | refine sM fun K hK => ?_
  | fail
 all_goals (try (refine zR (by simp) ⟨_, _, _, evl, ob0, zV.sims ?_ fre⟩))
 all_goals first | exact z6.refl _ | (refine z6.of_eq ?_; first | rfl | (simp [yJ, zJ4]; done) | (simp_all [yJ, zJ4]; done) | (simp_all [yJ, zJ4]; omega) | (simp [yJ, zJ4]; grind) | (split <;> simp_all)) | exact yU | (refine z6.tup ?_; simp only [z8, yKn]; (repeat' apply And.intro) <;> first | exact yU | skip) | (exfalso; first | omega | (simp_all; done) | (simp_all; omega)) | skip
theorem zKr (n : Int) (hn : inK .u64 n) : FnA Tryz.prog 228 [.raw (.int .u64 n)] (.agg [.raw (.int .i64 (n / 4294967296)), .raw (.int .i64 (n % 4294967296))]) := by
 have h2 : IntKind.u32.wrap n = n % 4294967296 := rfl
 simp only [inK] at hn
 have h1 : inK .i64 (n.fdiv (2 ^ min (Int.toNat 32) 64)) := by rw [zG5]; simp only [inK]; omega
 have h3 : inK .i64 (IntKind.u32.wrap n) := by rw [h2]; simp only [inK]; omega
 refine en Tryz.func228 Tryz.ntmps228 [.cell 2 260] rfl ?_
 repeat' first
  | refine wkg trivial ?_
  | (refine cS (fun hb => ?_) fun hb => ?_ <;> try (cases hb; done))
  | refine sM fun K hK => ?_
  | fail
 refine rq ?_ ?_
 ·rw [zG5, h2]
 ·simp [AV.free, AV.freeL]
def zG3 (d : Int) (l : List Int) : Int := zUs (zJm d ++ txt (fun q => l.getD q 0) l.length)
def isL (l : List Int) : Prop := zO3 l.length fun q => l.getD q 0
theorem jH (l : List Int) : (liA l).free := zE (fun x => show AV.freeL (iC x) from ⟨trivial, trivial⟩) _
theorem zVq (l : List Int) : liA l = zT1 l.length fun q => l.getD q 0 := by
 show AV.lst 1 l.length (els iC l) = AV.lst 1 l.length _
 congr 1
theorem zSy {l : List Int} (h : ∀ x ∈ l, inK .i64 x) : isL l := fun q hq => by
 have := h _ (yLb hq)
 simp only [yJk, yJh hq, yJ7]
 exact this
theorem zSl (d : Int) (hd : inK .u64 d) (l : List Int) (h : isL l) (h0 : 0 < l.length) (hn : l.length ≤ 1000000) : FnA Tryz.prog 230 [.raw (.int .u64 d), liA l] (.raw (.int .u64 (zG3 d l))) := by
 rw [zVq]
 exact yB2 d hd l.length _ h h0 hn
def yS (r : zM) : Int := zUs (txt (fun q => (jJ r).getD q 0) 11)
theorem zTy (r : zM) (hf : r.fits) : FnA Tryz.prog 229 [.agg r.av] (.raw (.int .u64 (yS r))) := by
 obtain ⟨h1, h2, h3, h4, ⟨h5, h6⟩, h7, h8, h9, h10⟩ := hf
 have hh := zKr r.nonce h4
 have hi : zO3 11 fun q => (jJ r).getD q 0 := by
  refine zSy (l := jJ r) fun x hx => ?_
  simp only [jJ, yJb, yKj, yKq] at hx
  simp only [inK] at *
  rcases hx with rfl | rfl | rfl | rfl | rfl | rfl | rfl | rfl | rfl | rfl | rfl <;> omega
 have hs := zX9 11 _ hi (by decide) (by decide)
 refine en Tryz.func229 Tryz.ntmps229 [.tmp 2] rfl ?_
 repeat'
  first
   | first
    | (refine zF (hK _ ?_); clear hK K)
    | refine stG ?_
    | (refine yH 1 rfl ?_; refine zN rfl rfl ⟨_, evl, _, _, _, evl, yR, ?_⟩; apply Exists.intro; refine ⟨fun hg => ?_, ?_⟩; · first | exact FnA.at_ (hh) rfl rfl | exact FnA.sim hs ⟨Sim.lstE rfl fun i hi => yB (enc := iC) (l := jJ r) (fun _ => rfl) rfl hi, trivial⟩ | exact FnA.at_s (hh) rfl xB | exact FnA.at_s (hh) rfl xC)
    | (refine zS 1 rfl ?_; refine zP rfl ⟨_, evl, _, _, _, (fun _ _ => w7), yR, ?_⟩; apply Exists.intro; refine ⟨fun hg => ?_, ?_⟩; · first | exact FnA.at_ (hh) rfl rfl | exact FnA.sim hs ⟨Sim.lstE rfl fun i hi => yB (enc := iC) (l := jJ r) (fun _ => rfl) rfl hi, trivial⟩ | exact FnA.at_s (hh) rfl xB | exact FnA.at_s (hh) rfl xC)
    | (refine zS 1 rfl ?_; refine zG ?_)
    | (refine z7 ?_; first | (refine zK (hK _ ?_); clear hK K) | (refine zT rfl ⟨_, evl, fun nb' => ?_⟩))
    | refine zD (fun K hK => ?_)
    | (refine xD ?_; first | (refine zC false rfl (by kernel_rfl) (by kernel_rfl) (fun K hK => ?_)) | (refine zC true rfl (by kernel_rfl) (by kernel_rfl) (fun K hK => ?_)))
    | (refine zA ⟨_, evl, fun hb => ?_, fun hb => ?_⟩ <;> (try simp only [yKt, yJl, yKw, yKv, yJn, yKs, yJd, yLj, yJm, yKu, yLk, yK3, ne_eq, yLl, yJc, yLm, yKg, yKh] at hb))
   | fail
 refine rq ?_ ?_
 ·rfl
 ·simp [AV.free]
theorem wrap_u64 (n : Int) : inK .u64 (IntKind.u64.wrap n) := by
 have : IntKind.u64.wrap n = n % 18446744073709551616 := rfl
 rw [this]
 simp only [inK]
 omega
theorem zH5 (l : List UInt8) : inK .u64 (zUs l) := by
 unfold zUs
 cases l.length with
 | zero => simp [fnv, inK]
 | succ n => exact wrap_u64 _
theorem vU (r : zM) : inK .u64 (yS r) := zH5 _
theorem zF5 (d : Int) (l : List Int) : inK .u64 (zG3 d l) := zH5 _
def yG (n : Int) : List Int := [n / 4294967296, n % 4294967296]
theorem zAn {α : Type} [Inhabited α] {l : List α} {k : Nat} (h : k < l.length) : l.getD k default ∈ l := by rw [z5 h]; exact yLb h
def xZ (rs : List zM) : List Int := (rs.length : Int) :: rs.flatMap fun x => yG (yS x)
def zA2 (h : Int) (r : yP) : Int := zG3 h (xZ r.replies)
theorem zFd {n : Int} (h : inK .u64 n) : ∀ x ∈ yG n, inK .i64 x := by
 intro x hx
 simp only [yG, yJb, yKj, yKq] at hx
 simp only [inK] at *
 rcases hx with rfl | rfl <;> omega
theorem zCi (rs : List zM) : (rs.flatMap fun x => yG (yS x)).length = 2 * rs.length := by
 induction rs with
 | nil => rfl
 | cons x rs ih => rw [yL7, yJ2, ih]; simp [yG]; omega
theorem zQk {rs : List zM} (h : rs.length ≤ 400000) : isL (xZ rs) := by
 refine zSy fun x hx => ?_
 rcases yJb.1 hx with rfl | hx
 ·simp only [inK]; omega
 ·obtain ⟨r, hr, hx⟩ := yM9.1 hx
  exact zFd (vU r) x hx
theorem zWq (h : Int) (hh : inK .u64 h) (r : yP) (hl : r.replies.length ≤ 400000) (hf : ∀ x ∈ r.replies, x.fits) : FnA Tryz.prog 184 [.raw (.int .u64 h), .agg r.av] (.raw (.int .u64 (zA2 h r))) := by
 obtain ⟨rs⟩ := r
 simp only at hl hf
 have hn := zSl h hh (xZ rs) (zQk hl) (by simp [xZ]) (by rw [xZ, yIz, zCi]; omega)
 have hd := fun k (hk : k < rs.length) => zTy (rs.getD k default) (hf _ (zAn hk))
 have hv := fun k => zKr (yS (rs.getD k default)) (vU _)
 have hfr : (lA 10 zM.av rs).free := zE (fun y => zM.free y) _
 refine en Tryz.func184 Tryz.ntmps184 [.tmp 4] rfl ?_
 try (refine wkR trivial ?_; try refine sM fun K hK => ?_)
 refine zJ (fun k : Nat => ⟨30, 0, [(0, true, .raw (.int .u64 h)), (5, true, .row 0 ((rs.length : Int) :: (rs.take k).flatMap fun x => yG (yS x)).length), (14, true, lA 10 zM.av rs), (15, true, .raw (.int .i64 rs.length)), (16, true, .raw (.int .i64 k))], [[lA 10 zM.av rs]], [⟨3, 1, ((rs.length : Int) :: (rs.take k).flatMap fun x => yG (yS x)).length, els iC ((rs.length : Int) :: (rs.take k).flatMap fun x => yG (yS x))⟩], ((0, []), [], true)⟩)
  (fun k => k ≤ rs.length) (fun k => rs.length - k) 0 ?_ (by omega) ?_
 ·refine wkn ?_ ?_ ?_
  all_goals first | exact wk0 | refine wkS ?_ | skip
  all_goals (try trivial)
  all_goals ((repeat' apply And.intro) <;> first | exact wkL | skip)
  intro q hq
  obtain rfl : q = 0 := by simpa using hq
  exact z8.of_eq rfl
 ·intro k hk
  rcases yIq k rs.length with hlt | hge
  ·have hdk := hd k hlt
   have hvk := hv k
   have hs : (rs.length : Int) :: (rs.take (k + 1)).flatMap (fun x => yG (yS x)) = ((rs.length : Int) :: (rs.take k).flatMap fun x => yG (yS x)) ++ yG (yS (rs.getD k default)) := by
    rw [yLq hlt, yLd, z5 hlt]
    simp
   have hL : ((rs.length : Int) :: (rs.take k).flatMap fun x => yG (yS x)).length ≤ 1000000 := by
    rw [yIz, zCi, yKy]; omega
   clear hn hd hv
   generalize ((rs.length : Int) :: (rs.take k).flatMap fun x => yG (yS x)) = R at *
   generalize yS (rs.getD k default) = D at *
   try (refine wkR trivial ?_; try refine sM fun K hK => ?_)
   refine zA ⟨_, evl, fun _ => ?_, fun hb => absurd (yMa hb) (by omega)⟩
   try (first | refine wkN hK (And.intro hdk hvk) ?_ | refine wkR (And.intro hdk hvk) ?_)
   try clear hK K
   try refine sM fun K hK => ?_
   refine zNb yQ rfl rfl ⟨_, evl, _, _, _, evl, yR, ?_⟩
   refine zX 1 obf ⟨_, evl, _, evl, ?_⟩
   try (first | refine wkN hK trivial ?_ | refine wkR trivial ?_)
   try clear hK K
   try refine sM fun K hK => ?_
   refine ⟨k + 1, by omega, by omega, ?_⟩
   rw [hs, yJ2]
   refine wkn ?_ ?_ ?_
   all_goals first | exact wk0 | refine wkS ?_ | skip
   all_goals (try trivial)
   all_goals ((repeat' apply And.intro) <;> first | exact wkL | skip)
   intro q hq
   refine z8.of_eq ?_
   rcases yIq q R.length with h1 | h1
   ·rw [xL h1]
    simp [els, yJk, yJw h1]
   ·rw [yV h1, ← xE (l := R) (n := R.length) rfl, yV h1]
    have hq2 : q - R.length < 2 := by simp [yG] at hq; omega
    exact yB (enc := iC) (l := yG D) (fun _ => rfl) rfl hq2
  ·obtain rfl : k = rs.length := by omega
   rw [yLr]
   rw [show ((rs.length : Int) :: rs.flatMap fun x => yG (yS x)) = xZ rs from rfl]
   have e : zA2 h ⟨rs⟩ = zG3 h (xZ rs) := rfl
   rw [e]
   clear hd hv e
   generalize zG3 h (xZ rs) = M at *
   generalize xZ rs = R at *
   have hR := jH R
   try (refine wkR trivial ?_; try refine sM fun K hK => ?_)
   refine zA ⟨_, evl, fun hb => absurd (yLv hb) (by omega), fun _ => ?_⟩
   try (refine wkR hn ?_; try refine sM fun K hK => ?_)
   refine rq ?_ ?_
   ·rfl
   ·simp [AV.free]
theorem zId (h : Int) (r : yP) : inK .u64 (zA2 h r) := zF5 _ _
def wT (l : List yP) : Nat → Int
 | 0 => 0
 | k + 1 => zA2 (wT l k) (l.getD k default)
theorem zFa (l : List yP) : ∀ k, inK .u64 (wT l k)
 | 0 => by simp [wT, inK]
 | _ + 1 => zId _ _
def kS (h host round auth : Int) : Int := zG3 h [host, round, auth]
theorem zYm (h host round auth : Int) (hh : inK .u64 h) (h1 : inK .i64 host) (h2 : inK .i64 round) (h3 : inK .i64 auth) : FnA Tryz.prog 188 [.raw (.int .u64 h), .raw (.int .i64 host), .raw (.int .i64 round), .raw (.int .i64 auth)] (.raw (.int .u64 (kS h host round auth))) := by
 have hn := zSl h hh [host, round, auth] (zSy fun x hx => by
  simp only [yJb, yKj, yKq] at hx
  rcases hx with rfl | rfl | rfl <;> assumption) (by simp) (by simp)
 refine en Tryz.func188 Tryz.ntmps188 [.tmp 8] rfl ?_
 repeat'
  first
   | first
    | (refine zF (hK _ ?_); clear hK K)
    | refine stG ?_
    | (refine yH 1 rfl ?_; refine zN rfl rfl ⟨_, evl, _, _, _, evl, yR, ?_⟩; apply Exists.intro; refine ⟨fun hg => ?_, ?_⟩; · first | exact FnA.sim hn ⟨Sim.refl _, Sim.lstE rfl fun i hi => yB (enc := iC) (l := [host, round, auth]) (fun _ => rfl) rfl hi, trivial⟩ )
    | (refine zS 1 rfl ?_; refine zP rfl ⟨_, evl, _, _, _, (fun _ _ => w7), yR, ?_⟩; apply Exists.intro; refine ⟨fun hg => ?_, ?_⟩; · first | exact FnA.sim hn ⟨Sim.refl _, Sim.lstE rfl fun i hi => yB (enc := iC) (l := [host, round, auth]) (fun _ => rfl) rfl hi, trivial⟩ )
    | (refine zS 1 rfl ?_; refine zG ?_)
    | (refine z7 ?_; first | (refine zK (hK _ ?_); clear hK K) | (refine zT rfl ⟨_, evl, fun nb' => ?_⟩))
    | refine zD (fun K hK => ?_)
    | (refine xD ?_; first | (refine zC false rfl (by kernel_rfl) (by kernel_rfl) (fun K hK => ?_)) | (refine zC true rfl (by kernel_rfl) (by kernel_rfl) (fun K hK => ?_)))
    | (refine zA ⟨_, evl, fun hb => ?_, fun hb => ?_⟩ <;> (try simp only [yKt, yJl, yKw, yKv, yJn, yKs, yJd, yLj, yJm, yKu, yLk, yK3, ne_eq, yLl, yJc, yLm, yKg, yKh] at hb))
   | fail
 refine rq ?_ ?_
 ·rfl
 ·simp [AV.free]
def yBb (l : List yP) : AV := .fn (.func 183) [] [.elt [lA 1 yP.av l] 0]
theorem zZ4 (l : List yP) : FnA Tryz.prog 122 [lA 1 yP.av l] (yBb l) := by
 have hfr : (lA 1 yP.av l).free := zE (fun y => yP.free y) _
 refine en Tryz.func122 Tryz.ntmps122 [.tmp 2] rfl ?_
 try (refine wg ?_; try refine sM fun K hK => ?_)
 refine zR (by simp) ⟨_, _, _, evl, ob0, ?_⟩
 exact zV.fn rfl ⟨_, _, rfl, zV.box rfl ⟨_, _, rfl, zV.free hfr, rfl⟩, rfl⟩
def zQ4 (l : List yP) (k : Nat) : List AV := [.raw (.int .u64 (wT l k)), .agg (l.getD k default).av]
def qG (l : List yP) (n : Nat) : List (List AV) := (List.range n).map (zQ4 l)
theorem qF (l : List yP) (k : Nat) : qG l (k + 1) = qG l k ++ [zQ4 l k] := by simp [qG, yLc]
theorem zGy (l : List yP) {k n : Nat} (h : k ≤ n) : qG l k <+: qG l n := by
 obtain ⟨j, rfl⟩ := yMb h
 induction j with
 | zero => exact yLw _
 | succ j ih => exact (ih (by omega)).trans (by rw [← yJi, qF]; exact List.prefix_append _ _)
theorem zZ3 (l : List yP) (hmax : l.length ≤ 1000000) (hr : ∀ r ∈ l, r.replies.length ≤ 400000 ∧ ∀ x ∈ r.replies, x.fits) : yAa Tryz.prog 183 [.elt [lA 1 yP.av l] 0] (qG l l.length) := by
 have hfr : (lA 1 yP.av l).free := zE (fun y => yP.free y) _
 refine zLg Tryz.func183 rfl (by kernel_rfl) 21 Tryz.ntmps183 yHr rfl (fun y => ?_)
 simp only [zBk, yJa, Nat.reduceAdd, yJ0, yJ9]
 try (refine wg ?_; try refine sM fun K hK => ?_)
 refine zJ (fun k : Nat => ⟨21, 0, [(0, true, .raw (.func (.yield y) #[] #[])), (1, true, .elt [lA 1 yP.av l] 0), (3, true, .raw (.int .u64 (wT l k))), (6, true, lA 1 yP.av l), (7, true, .raw (.int .i64 l.length)), (8, true, .raw (.int .i64 k))], [], [], ((y, qG l l.length), qG l k, false)⟩)
  (fun k => k ≤ l.length) (fun k => l.length - k) 0 ?_ (by omega) ?_
 ·exact wkZ
 ·intro k hk
  try (refine wg ?_; try refine sM fun K hK => ?_)
  refine zA ⟨_, evl, fun hb => ?_, fun hb => ?_⟩
  ·simp only [yJm] at hb
   have hlt : k < l.length := by omega
   obtain ⟨h1, h2⟩ := hr _ (zAn hlt)
   have hbe := zWq (wT l k) (zFa l k) (l.getD k default) h1 h2
   have hpre := zGy l (k := k + 1) (n := l.length) (by omega)
   have hs : wT l (k + 1) = zA2 (wT l k) (l.getD k default) := rfl
   rw [qF] at hpre
   have hfk : (lA 10 zM.av (l.getD k default).replies).free := zE (fun y => zM.free y) _
   try (first | refine wkM hK trivial ?_ | refine wkg trivial ?_)
   try clear hK K
   try refine sM fun K hK => ?_
   refine kK rfl rfl ⟨_, evl, _, _, evl, ?_, ?_, ?_⟩
   ·intro _
    exact ⟨fun c hc => by simp at hc; simp [hc], ⟨trivial, ⟨hfk, trivial⟩, trivial⟩, hpre⟩
   ·intro hg
    simp at hg
   ·intro _ b
    try (first | refine wkM hK trivial ?_ | refine wkg trivial ?_)
    try clear hK K
    try refine sM fun K hK => ?_
    refine zA ⟨_, evl, fun hb2 => ?_, fun hb2 => ?_⟩
    ·obtain rfl : b = false := by simpa using hb2
     try (refine wg ?_; try refine sM fun K hK => ?_)
     exact ⟨.inr rfl, hpre, fun h => by simp at h⟩
    ·obtain rfl : b = true := by simpa using hb2
     try (refine wkg hbe ?_; try refine sM fun K hK => ?_)
     refine ⟨k + 1, by omega, by omega, ?_⟩
     rw [qF, hs]
     exact wkZ
  ·simp only [yKu] at hb
   obtain rfl : k = l.length := by omega
   try (refine wg ?_; try refine sM fun K hK => ?_)
   exact ⟨.inl rfl, yLw _, fun _ => rfl⟩
end Go.Proofs.YtchpbdecipcelaaGreatDoor
