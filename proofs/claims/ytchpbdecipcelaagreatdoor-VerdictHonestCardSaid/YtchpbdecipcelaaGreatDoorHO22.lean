import Derived.Test.YtchpbdecipcelaaGreatDoorHO01
import Derived.Test.YtchpbdecipcelaaGreatDoorHO19
import Derived.Test.YtchpbdecipcelaaGreatDoorHO21
namespace Go.Proofs.YtchpbdecipcelaaGreatDoor
set_option linter.unusedVariables false
set_option linter.unusedSimpArgs false
set_option maxHeartbeats 4000000
set_option maxRecDepth 100000
open Go.RowKit
theorem formR_A (k : zH) : FnA Tryz.prog 138 [.agg k.av] (.raw (.bool (decide (xI k)))) := by
 have h1 := zF7 k.pub
 have h2 := vD k.sig.c
 have h3 := vD k.sig.s
 refine en Tryz.func138 Tryz.ntmps138 [.tmp 2] rfl ?_
 repeat' first
  | refine wkg (And.intro h1 (And.intro h2 h3)) ?_
  | (refine cS (fun hb => ?_) fun hb => ?_ <;> try (cases hb; done))
  | refine sM fun K hK => ?_
  | fail
 all_goals (try (refine zR (by simp) ⟨_, _, _, evl, ob0, zV.sims ?_ fre⟩))
 all_goals first | exact z6.refl _ | (refine z6.of_eq ?_; first | rfl | (simp [xI]; done) | (simp_all [xI]; done) | (simp_all [xI]; omega) | (simp [xI]; grind) | (simp [xI]; grind) | (split <;> simp_all)) | exact yU | (refine z6.tup ?_; simp only [z8, yKn]; (repeat' apply And.intro) <;> first | exact yU | skip) | (exfalso; first | omega | (simp_all; done) | (simp_all; omega)) | skip
theorem zPy (k : zH) : FnA Tryz.prog 208 [.agg k.av] (liA (zF6 k)) := by
 refine en Tryz.func208 Tryz.ntmps208 [.tmp 2] rfl ?_
 repeat' first
  | refine wkg trivial ?_
  | (refine cS (fun hb => ?_) fun hb => ?_ <;> try (cases hb; done))
  | refine sM fun K hK => ?_
  | fail
 refine rt ?_
 exact (Sim.lstE rfl fun i hi => yB (enc := iC) (l := zF6 k) (fun _ => rfl) rfl hi).s
theorem zQ8 (a b : zH) (h : a.id ≤ 1000 ∧ 1 ≤ a.id) : FnA Tryz.prog 139 [.agg a.av, .agg b.av] (.raw (.bool (decide (y9 a b)))) := by
 refine en Tryz.func139 Tryz.ntmps139 [.tmp 4] rfl ?_
 repeat' first
  | refine wkg trivial ?_
  | (refine cS (fun hb => ?_) fun hb => ?_ <;> try (cases hb; done))
  | refine sM fun K hK => ?_
  | fail
 all_goals (try (refine zR (by simp) ⟨_, _, _, evl, ob0, zV.sims ?_ fre⟩))
 all_goals first | exact z6.refl _ | (refine z6.of_eq ?_; first | rfl | (simp [y9]; done) | (simp_all [y9]; done) | (simp_all [y9]; omega) | (simp [y9]; grind) | (simp [y9]; grind) | (split <;> simp_all)) | exact yU | (refine z6.tup ?_; simp only [z8, yKn]; (repeat' apply And.intro) <;> first | exact yU | skip) | (exfalso; first | omega | (simp_all; done) | (simp_all; omega)) | skip
theorem zRg (a b : zH) (ha : a.fits) (hb : b.fits) : FnA Tryz.prog 140 [.agg a.av, .agg b.av] (.raw (.bool (vA a b))) := by
 have hm := zPy b
 have hv := zR1 a.pub b.sig (zF6 b) (zSg hb) ha.2.2.1 (by simp [zF6])
 have e : ((yW a.pub b.sig (zF6 b)).1 && decide ((yW a.pub b.sig (zF6 b)).2 = 0)) = vA a b := by
  unfold vA yW; split <;> simp
 have hfr : (liA (zF6 b)).free := zE (fun _ => by simp [AV.free, AV.freeL, iC]) (zF6 b)
 generalize vA a b = s at *
 generalize yW a.pub b.sig (zF6 b) = v at *
 generalize liA (zF6 b) = L at *
 refine en Tryz.func140 Tryz.ntmps140 [.tmp 4] rfl ?_
 repeat' first
  | refine wkg (And.intro hm hv) ?_
  | (refine cS (fun hb => ?_) fun hb => ?_ <;> try (cases hb; done))
  | refine sM fun K hK => ?_
  | fail
 all_goals exact fA
theorem validR_A (l : List zH) (hf : ∀ k ∈ l, k.fits) : FnA Tryz.prog 83 [lA 7 zH.av l] (.raw (.bool (decide (ValidP l)))) := by
 refine en Tryz.func83 Tryz.ntmps83 [.tmp 2] rfl ?_
 repeat' first
  | refine wkg trivial ?_
  | (refine cS (fun hb => ?_) fun hb => ?_ <;> try (cases hb; done))
  | refine sM fun K hK => ?_
  | fail
 ·refine zR (by simp) ⟨_, _, _, evl, ob0, zV.eq ?_ (by simp [AV.free])⟩
  simp only [AV.raw.injEq, Value.bool.injEq]
  rw [eq_comm, yKu]
  rintro ⟨h1, _⟩
  omega
 refine zJ (fun k : Nat => ⟨89, 0, [(0, true, lA 7 zH.av l), (3, true, .raw (.int .i64 k))], [], [], ((0, []), [], true)⟩)
  (fun k => k ≤ l.length ∧ ∀ i, i < k → xI (l.getD i default) ∧ wI l i) (fun k => l.length - k) 0 ?_ ⟨by omega, fun i h => by omega⟩ ?_
 ·exact wkZ
 ·rintro k ⟨hk, hr2⟩
  rcases yIq k l.length with hlt | hge
  ·have m1 : l.getD k default ∈ l := by rw [z5 hlt]; exact yLb _
   have next : xI (l.getD k default) → wI l k → ∀ i, i < k + 1 → xI (l.getD i default) ∧ wI l i := fun h1 h2 i hi => by
    rcases yLu.1 hi with h | rfl
    ·exact hr2 i h
    ·exact ⟨h1, h2⟩
   have f0 := formR_A (l.getD k default)
   have v1 : ValidP l → xI (l.getD k default) := fun h => h.2.1 _ m1
   have v2 : ValidP l → wI l k := fun h => h.2.2 k hlt
   rcases yJe k with rfl | h0
   ·have er : wI l 0 ↔ (l.getD 0 default).id = 1 ∧ (l.getD 0 default).sig.c = 0 ∧ (l.getD 0 default).sig.s = 0 := by simp [wI]
    repeat' first
     | refine wkg f0 ?_
     | (refine cS (fun hb => ?_) fun hb => ?_ <;> try (cases hb; done))
     | refine sM fun K hK => ?_
     | fail
    ·refine zR (by simp) ⟨_, _, _, evl, ob0, zV.eq ?_ (by simp [AV.free])⟩
     simp only [AV.raw.injEq, Value.bool.injEq]
     rw [eq_comm, yKu]
     exact fun h => hb (v1 h)
    ·refine zR (by simp) ⟨_, _, _, evl, ob0, zV.eq ?_ (by simp [AV.free])⟩
     simp only [AV.raw.injEq, Value.bool.injEq]
     rw [eq_comm, yKu]
     intro h
     have := er.1 (v2 h)
     omega
    ·refine ⟨0 + 1, ⟨by omega, next (by assumption) (er.2 (by omega))⟩, by omega, ?_⟩
     ·exact wkZ
    ·exfalso; omega
    ·exfalso; omega
   ·have e1 : ((k : Int) - 1).toNat = k - 1 := by omega
    have m2 : l.getD ((k : Int) - 1).toNat default ∈ l := by rw [e1, z5 (by omega)]; exact yLb _
    have h2 := (hr2 (k - 1) (by omega)).1
    rw [← e1] at h2
    have f1 := zQ8 (l.getD ((k : Int) - 1).toNat default) (l.getD k default) ⟨h2.2.2.2.1, h2.2.2.1⟩
    have f2 := zRg (l.getD ((k : Int) - 1).toNat default) (l.getD k default) (hf _ m2) (hf _ m1)
    have er : wI l k ↔ (if (l.getD ((k : Int) - 1).toNat default).auth < (l.getD k default).auth then (l.getD k default).id = 1 ∧ (l.getD k default).sig.c = 0 ∧ (l.getD k default).sig.s = 0
     else y9 (l.getD ((k : Int) - 1).toNat default) (l.getD k default) ∧ vA (l.getD ((k : Int) - 1).toNat default) (l.getD k default) = true) := by
     rw [wI, e1]; simp only [show ¬ k = 0 from by omega, false_or]
    repeat' first
     | refine wkg (And.intro f0 (And.intro f1 f2)) ?_
     | (refine cS (fun hb => ?_) fun hb => ?_ <;> try (cases hb; done))
     | refine sM fun K hK => ?_
     | fail
    ·refine zR (by simp) ⟨_, _, _, evl, ob0, zV.eq ?_ (by simp [AV.free])⟩
     simp only [AV.raw.injEq, Value.bool.injEq]
     rw [eq_comm, yKu]
     exact fun h => hb (v1 h)
    ·refine zR (by simp) ⟨_, _, _, evl, ob0, zV.eq ?_ (by simp [AV.free])⟩
     simp only [AV.raw.injEq, Value.bool.injEq]
     rw [eq_comm, yKu]
     intro h
     have := er.1 (v2 h)
     rw [if_pos (by omega)] at this
     omega
    ·refine ⟨k + 1, ⟨by omega, next (by assumption) (er.2 (by rw [if_pos (by omega)]; omega))⟩, by omega, ?_⟩
     ·exact wkZ
    ·refine zR (by simp) ⟨_, _, _, evl, ob0, zV.eq ?_ (by simp [AV.free])⟩
     simp only [AV.raw.injEq, Value.bool.injEq]
     rw [eq_comm, yKu]
     intro h
     have := er.1 (v2 h)
     rw [if_neg (by omega)] at this
     simp_all
    ·refine ⟨k + 1, ⟨by omega, next (by assumption) (er.2 (by rw [if_neg (by omega)]; exact hb))⟩, by omega, ?_⟩
     ·exact wkZ
    ·exfalso; omega
  ·repeat' first
    | refine wkg trivial ?_
    | (refine cS (fun hb => ?_) fun hb => ?_ <;> try (cases hb; done))
    | refine sM fun K hK => ?_
    | fail
   ·exfalso; omega
   refine zR (by simp) ⟨_, _, _, evl, ob0, zV.eq ?_ (by simp [AV.free])⟩
   simp only [AV.raw.injEq, Value.bool.injEq]
   rw [eq_comm, yJm]
   exact ⟨by omega, fun x hx => by obtain ⟨i, hi, rfl⟩ := yL8.1 hx; have := (hr2 i (by omega)).1; rwa [z5 hi] at this, fun i hi => (hr2 i (by omega)).2⟩
theorem validIR_A (i : Iv) : FnA Tryz.prog 107 [.agg i.av] (.raw (.bool (decide (0 ≤ i.lo) && decide (i.lo ≤ i.hi) && decide (i.hi ≤ 3000000000000000)))) := by
 refine en Tryz.func107 Tryz.ntmps107 [.tmp 2] rfl ?_
 repeat' first
  | refine wkg trivial ?_
  | (refine cS (fun hb => ?_) fun hb => ?_ <;> try (cases hb; done))
  | refine sM fun K hK => ?_
  | fail
 all_goals exact fA
abbrev ka : zH := ⟨2, 1, 1024, 0, 100, ⟨0, 0⟩⟩
abbrev kb : zH := ⟨2, 1, 1024, 0, 70, ⟨0, 0⟩⟩
abbrev wr : wY := ⟨1, 2, [⟨0, 2, 4, 0, 0⟩]⟩
theorem yHt : ∀ k ∈ [ka], k.fits := by
 intro k hk
 simp only [yJb, yKj, yKq] at hk
 subst hk
 simp [zH.fits, Sig.fits, inK]
theorem zO5 (n lo hi : Int) : FnA Tryz.prog 167 [.raw (.int .i64 n), .raw (.int .i64 lo), .raw (.int .i64 hi)] (.raw (.bool (decide (lo ≤ n) && decide (n ≤ hi)))) := by
 refine en Tryz.func167 Tryz.ntmps167 [.tmp 6] rfl ?_
 repeat' first
  | refine wkg trivial ?_
  | (refine cS (fun hb => ?_) fun hb => ?_ <;> try (cases hb; done))
  | refine sM fun K hK => ?_
  | fail
 all_goals exact fA
theorem zLn (r : zDg) : FnA Tryz.prog 166 [.agg r.av] (.raw (.bool (decide (zJ4 r.host r.auth r.round)))) := by
 refine en Tryz.func166 Tryz.ntmps166 [.tmp 2] rfl ?_
 repeat' first
  | (refine wkM hK zO5 ?_)
  | refine wkg zO5 ?_
  | (refine cS (fun hb => ?_) fun hb => ?_ <;> try (cases hb; done))
  | refine sM fun K hK => ?_
  | fail
 all_goals (try (refine zR (by simp) ⟨_, _, _, evl, ob0, zV.sims ?_ fre⟩))
 all_goals first | exact z6.refl _ | (refine z6.of_eq ?_; first | rfl | (simp [zJ4]; done) | (simp_all [zJ4]; done) | (simp_all [zJ4]; omega) | (simp [zJ4]; grind) | (split <;> simp_all)) | exact yU | (refine z6.tup ?_; simp only [z8, yKn]; (repeat' apply And.intro) <;> first | exact yU | skip) | (exfalso; first | omega | (simp_all; done) | (simp_all; omega)) | skip
theorem zRt (r : zM) : FnA Tryz.prog 113 [.agg r.av] (.raw (.bool (decide (yJ r)))) := by
 have hr := zLn ⟨r.host, r.auth, r.round, 0⟩
 have hi := validIR_A r.stamp
 simp only at hr
 refine en Tryz.func113 Tryz.ntmps113 [.tmp 2] rfl ?_
 repeat' first
  | (refine wkM hK (And.intro hr (And.intro zO5 hi)) ?_)
  | refine wkg (And.intro hr (And.intro zO5 hi)) ?_
  | (refine cS (fun hb => ?_) fun hb => ?_ <;> try (cases hb; done))
  | refine sM fun K hK => ?_
  | fail
 all_goals (try (refine zR (by simp) ⟨_, _, _, evl, ob0, zV.sims ?_ fre⟩))
 all_goals first | exact z6.refl _ | (refine z6.of_eq ?_; first | rfl | (simp [yJ]; done) | (simp_all [yJ]; done) | (simp_all [yJ]; omega) | (simp [yJ]; grind) | (split <;> simp_all)) | exact yU | (refine z6.tup ?_; simp only [z8, yKn]; (repeat' apply And.intro) <;> first | exact yU | skip) | (exfalso; first | omega | (simp_all; done) | (simp_all; omega)) | skip
theorem zUy (n : Int) (hn : inK .u64 n) : FnA Tryz.prog 169 [.raw (.int .u64 n)] (.raw (.int .i64 (n / 4294967296))) := by
 simp only [inK] at hn
 have h1 : inK .i64 (n.fdiv (2 ^ min (Int.toNat 32) 64)) := by rw [zG5]; simp only [inK]; omega
 refine en Tryz.func169 Tryz.ntmps169 [.tmp 2] rfl ?_
 repeat' first
  | refine wkg trivial ?_
  | (refine cS (fun hb => ?_) fun hb => ?_ <;> try (cases hb; done))
  | refine sM fun K hK => ?_
  | fail
 refine rq ?_ ?_
 ·rw [zG5]
 ·simp [AV.free, AV.freeL]
theorem zVl (n : Int) (hn : inK .u64 n) : FnA Tryz.prog 170 [.raw (.int .u64 n)] (.raw (.int .i64 (n % 4294967296))) := by
 have h2 := zVp hn
 simp only [inK] at hn
 have h3 : inK .i64 (zFv .and .u64 n 4294967295) := by rw [h2]; simp only [inK]; omega
 refine en Tryz.func170 Tryz.ntmps170 [.tmp 2] rfl ?_
 repeat' first
  | refine wkg trivial ?_
  | (refine cS (fun hb => ?_) fun hb => ?_ <;> try (cases hb; done))
  | refine sM fun K hK => ?_
  | fail
 refine rq ?_ ?_
 ·rw [h2]
 ·simp [AV.free, AV.freeL]
theorem zLm (r : zM) (hn : inK .u64 r.nonce) : FnA Tryz.prog 116 [.agg r.av] (liA (zBo r)) := by
 have h1 := zUy r.nonce hn
 have h2 := zVl r.nonce hn
 refine en Tryz.func116 Tryz.ntmps116 [.tmp 2] rfl ?_
 repeat' first
  | refine wkg (And.intro h1 h2) ?_
  | (refine cS (fun hb => ?_) fun hb => ?_ <;> try (cases hb; done))
  | refine sM fun K hK => ?_
  | fail
 refine rt ?_
 exact (Sim.lstE rfl fun i hi => yB (enc := iC) (l := zBo r) (fun _ => rfl) rfl hi).s
theorem zV2 {key once : Int} {m : List Int} (hk : zU key 1 = true) (ho : zU once 1 = true) : (qB key once m).2 = 0 := by
 unfold qB; rw [hk, ho]; rfl
theorem zNc (key once : Int) (r : zM) (hf : r.fits) : FnA Tryz.prog 70 [.raw (.int .i64 key), .raw (.int .i64 once), .agg r.av] (.tup [.agg (zC1 key once r).1.av, .raw (.int .i64 (zC1 key once r).2)]) := by
 have hb : (zOu r).fits := ⟨hf.1, hf.2.1, hf.2.2.1, hf.2.2.2.1, hf.2.2.2.2.1, hf.2.2.2.2.2.1, hf.2.2.2.2.2.2.1, by simp [Sig.fits, inK]⟩
 have hv := zRt (zOu r)
 have hm := zLm (zOu r) hf.2.2.2.1
 have hs := zXv key once (zBo (zOu r)) (zNu hb) (by simp [zBo])
 have k1 := zGx key
 have k2 := zGx once
 have hfm : (liA (zBo (zOu r))).free := zE (fun _ => by simp [AV.free, AV.freeL, iC]) _
 have e0 : ¬ (zU key 1 = true ∧ zU once 1 = true) → qB key once (zBo (zOu r)) = (⟨0, 0⟩, 1) := fun h => by
  rw [qB, if_neg (by simpa using h)]
 have e1 : zU key 1 = true ∧ zU once 1 = true → (qB key once (zBo (zOu r))).2 = 0 := fun h => by
  exact zV2 h.1 h.2
 unfold zC1
 rw [show zBo r = zBo (zOu r) from rfl]
 by_cases h1 : yJ (zOu r)
 ·rw [if_pos h1]
  rw [yM1 h1] at hv
  by_cases h2 : zU key 1 = true ∧ zU once 1 = true
  ·rw [if_pos (e1 h2)]
   rw [e1 h2] at hs
   rw [h2.1] at k1
   rw [h2.2] at k2
   clear e0 e1 h1 hb
   generalize qB key once (zBo (zOu r)) = s at *
   generalize liA (zBo (zOu r)) = M at *
   refine en Tryz.func70 Tryz.ntmps70 [.cell 6 94, .tmp 7] rfl ?_
   repeat' first
    | refine wkg (And.intro hv (And.intro k1 (And.intro k2 (And.intro hm hs)))) ?_
    | (refine cS (fun hb => ?_) fun hb => ?_ <;> try (cases hb; done))
    | refine sM fun K hK => ?_
    | fail
   refine rq ?_ ?_
   ·rfl
   ·simp [AV.free, AV.freeL, go_sem]
  ·rw [e0 h2, if_neg (by decide)]
   clear hs hm e0 e1 hb h1
   generalize zU key 1 = b1 at *
   generalize zU once 1 = b2 at *
   refine en Tryz.func70 Tryz.ntmps70 [.cell 6 94, .tmp 7] rfl ?_
   repeat' first
    | refine wkg (And.intro hv (And.intro k1 k2)) ?_
    | (refine cS (fun hb => ?_) fun hb => ?_ <;> try (cases hb; done))
    | refine sM fun K hK => ?_
    | fail
   ·refine rq ?_ ?_
    ·rfl
    ·simp [AV.free, AV.freeL, go_sem]
   ·exact absurd hb h2
 ·rw [if_neg h1]
  rw [yM2 h1] at hv
  refine en Tryz.func70 Tryz.ntmps70 [.cell 6 94, .tmp 7] rfl ?_
  repeat' first
   | refine wkg (And.intro hv (And.intro k1 k2)) ?_
   | (refine cS (fun hb => ?_) fun hb => ?_ <;> try (cases hb; done))
   | refine sM fun K hK => ?_
   | fail
  refine rq ?_ ?_
  ·rfl
  ·simp [AV.free, AV.freeL, go_sem]
end Go.Proofs.YtchpbdecipcelaaGreatDoor
