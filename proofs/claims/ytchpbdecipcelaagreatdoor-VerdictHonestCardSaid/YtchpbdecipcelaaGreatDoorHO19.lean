import Derived.Test.YtchpbdecipcelaaGreatDoorHO01
import Derived.Test.YtchpbdecipcelaaGreatDoorHO16
import Derived.Test.YtchpbdecipcelaaGreatDoorHO18
namespace Go.Proofs.YtchpbdecipcelaaGreatDoor
set_option linter.unusedVariables false
set_option linter.unusedSimpArgs false
set_option maxHeartbeats 4000000
set_option maxRecDepth 100000
open Go.RowKit
structure zDg where
 host : Int
 auth : Int
 round : Int
 nonce : Int
 deriving Inhabited, DecidableEq
@[go_sem] def zDg.av (x : zDg) : List AV := [.raw (.int .i64 x.host), .raw (.int .i64 x.auth), .raw (.int .i64 x.round), .raw (.int .u64 x.nonce)]
@[simp] theorem zDg.free (x : zDg) : AV.freeL x.av := ⟨trivial, trivial, trivial, trivial, trivial⟩
structure zM where
 auth : Int
 host : Int
 round : Int
 nonce : Int
 stamp : Iv
 key : Int
 table : Int
 sig : Sig
 deriving Inhabited, DecidableEq
@[go_sem] def zM.av (x : zM) : List AV := [.raw (.int .i64 x.auth), .raw (.int .i64 x.host), .raw (.int .i64 x.round), .raw (.int .u64 x.nonce), .raw (.int .i64 x.stamp.lo), .raw (.int .i64 x.stamp.hi), .raw (.int .i64 x.key), .raw (.int .i64 x.table), .raw (.int .i64 x.sig.c), .raw (.int .i64 x.sig.s)]
def zM.fits (x : zM) : Prop := (inK .i64 x.auth) ∧ (inK .i64 x.host) ∧ (inK .i64 x.round) ∧ (inK .u64 x.nonce) ∧ (x.stamp.fits) ∧ (inK .i64 x.key) ∧ (inK .i64 x.table) ∧ (x.sig.fits)
@[simp] theorem zM.free (x : zM) : AV.freeL x.av := ⟨trivial, trivial, trivial, trivial, trivial, trivial, trivial, trivial, trivial, trivial, trivial⟩
def zJ4 (h a r : Int) : Prop := (1 ≤ h ∧ h ≤ 64) ∧ (1 ≤ a ∧ a ≤ 16) ∧ 1 ≤ r ∧ r ≤ 200
instance (h a r : Int) : Decidable (zJ4 h a r) := by unfold zJ4; infer_instance
theorem zRs (r : zDg) : FnA Tryz.prog 250 [.agg r.av] (.raw (.bool (decide (zJ4 r.host r.auth r.round)))) := by
 refine en Tryz.func250 Tryz.ntmps250 [.tmp 2] rfl ?_
 repeat' first
  | (refine wkM hK zC4 ?_)
  | refine wkg zC4 ?_
  | (refine cS (fun hb => ?_) fun hb => ?_ <;> try (cases hb; done))
  | refine sM fun K hK => ?_
  | fail
 all_goals (try (refine zR (by simp) ⟨_, _, _, evl, ob0, zV.sims ?_ fre⟩))
 all_goals first | exact z6.refl _ | (refine z6.of_eq ?_; first | rfl | (simp [zJ4]; done) | (simp_all [zJ4]; done) | (simp_all [zJ4]; omega) | (simp [zJ4]; grind) | (split <;> simp_all)) | exact yU | (refine z6.tup ?_; simp only [z8, yKn]; (repeat' apply And.intro) <;> first | exact yU | skip) | (exfalso; first | omega | (simp_all; done) | (simp_all; omega)) | skip
def yJ (r : zM) : Prop := zJ4 r.host r.auth r.round ∧ (0 ≤ r.stamp.lo ∧ r.stamp.lo ≤ r.stamp.hi ∧ r.stamp.hi ≤ 3000000000000000) ∧ (0 ≤ r.key ∧ r.key ≤ 1000) ∧ (0 ≤ r.table ∧ r.table ≤ 1000) ∧ (0 ≤ r.sig.c ∧ r.sig.c ≤ 1073741788) ∧ 0 ≤ r.sig.s ∧ r.sig.s ≤ 1073741788
instance (r : zM) : Decidable (yJ r) := by unfold yJ; infer_instance
theorem zY9 (r : zM) : FnA Tryz.prog 232 [.agg r.av] (.raw (.bool (decide (yJ r)))) := by
 have hr := zRs ⟨r.host, r.auth, r.round, 0⟩
 simp only at hr
 refine en Tryz.func232 Tryz.ntmps232 [.tmp 2] rfl ?_
 repeat' first
  | (refine wkM hK (And.intro hr (And.intro zC4 zBt)) ?_)
  | refine wkg (And.intro hr (And.intro zC4 zBt)) ?_
  | (refine cS (fun hb => ?_) fun hb => ?_ <;> try (cases hb; done))
  | refine sM fun K hK => ?_
  | fail
 all_goals (try (refine zR (by simp) ⟨_, _, _, evl, ob0, zV.sims ?_ fre⟩))
 all_goals first | exact z6.refl _ | (refine z6.of_eq ?_; first | rfl | (simp [yJ]; done) | (simp_all [yJ]; done) | (simp_all [yJ]; omega) | (simp [yJ]; grind) | (split <;> simp_all)) | exact yU | (refine z6.tup ?_; simp only [z8, yKn]; (repeat' apply And.intro) <;> first | exact yU | skip) | (exfalso; first | omega | (simp_all; done) | (simp_all; omega)) | skip
theorem zG5 {n : Int} : n.fdiv (2 ^ min (Int.toNat 32) 64) = n / 4294967296 := by
 rw [yLo _ (by decide)]
 rfl
theorem zVp {n : Int} (h : inK .u64 n) : zFv .and .u64 n 4294967295 = n % 4294967296 := by
 simp only [inK] at h
 obtain ⟨x, rfl⟩ := yM0 h.1
 have e : ((BitVec.ofInt 64 (x : Int) &&& BitVec.ofInt 64 4294967295).toNat : Int) = (x % 4294967296 : Nat) := by
  rw [BitVec.toNat_and, BitVec.toNat_ofInt, BitVec.toNat_ofInt]
  have e1 : ((x : Int) % ((2 ^ 64 : Nat) : Int)).toNat = x := by omega
  have e2 : ((4294967295 : Int) % ((2 ^ 64 : Nat) : Int)).toNat = 2 ^ 32 - 1 := by decide
  rw [e1, e2, Nat.and_two_pow_sub_one_eq_mod]
 show IntKind.u64.wrap _ = _
 rw [show IntKind.u64.bits = 64 from rfl, e]
 rw [y8 (k := .u64) (by simp only [inK]; omega)]
 omega
theorem zW4 (n : Int) (hn : inK .u64 n) : FnA Tryz.prog 233 [.raw (.int .u64 n)] (.agg [.raw (.int .i64 (n / 4294967296)), .raw (.int .i64 (n % 4294967296))]) := by
 have h2 := zVp hn
 simp only [inK] at hn
 have h1 : inK .i64 (n.fdiv (2 ^ min (Int.toNat 32) 64)) := by rw [zG5]; simp only [inK]; omega
 have h3 : inK .i64 (zFv .and .u64 n 4294967295) := by rw [h2]; simp only [inK]; omega
 refine en Tryz.func233 Tryz.ntmps233 [.cell 2 264] rfl ?_
 repeat' first
  | refine wkg trivial ?_
  | (refine cS (fun hb => ?_) fun hb => ?_ <;> try (cases hb; done))
  | refine sM fun K hK => ?_
  | fail
 refine rq ?_ ?_
 ·rw [zG5, h2]
 ·simp [AV.free, AV.freeL]
theorem zM0 (k : IntKind) (l : List Int) : (lA 1 (kC k) l).free := zE (fun x => show AV.freeL (kC k x) from ⟨trivial, trivial⟩) _
theorem yAv (k : Int) (l : List Int) (h : l.length ≤ 1000) : FnA Tryz.prog 234 [.raw (.int .u8 k), liA l] (.tup [lA 1 (kC .u8) (k :: jW l l.length), .raw (.int .i64 0)]) := by
 have hp := yHk l h
 have hl := zF1 l l.length
 refine en Tryz.func234 Tryz.ntmps234 [.tmp 4, .tmp 5] rfl ?_
 repeat' first
  | refine wkR hp ?_
  | (refine cS (fun hb => ?_) fun hb => ?_ <;> try (cases hb; done))
  | refine sM fun K hK => ?_
  | fail
 refine zR (by simp) ⟨_, _, _, evl, ob0, ?_⟩
 refine zV.sims (z6.tup (show z8 _ _ [_, _] [_, _] from ⟨z6.row rfl rfl rfl ?_ (fun i hi => ?_), z6.refl _, trivial⟩)) ⟨zM0 _ _, trivial, trivial⟩
 ·simp only [yIz]; omega
 ·cases i with
  | zero => rfl
  | succ i =>
   dsimp only
   rw [yV (Nat.le_add_left 1 i), Nat.add_sub_cancel]
   simp [els]
def jJ (r : zM) : List Int := [r.auth, r.host, r.round, r.nonce / 4294967296, r.nonce % 4294967296, r.stamp.lo, r.stamp.hi, r.key, r.table, r.sig.c, r.sig.s]
theorem zPt (r : zM) (hf : r.fits) : FnA Tryz.prog 198 [.agg r.av] (if yJ r then .tup [lA 1 (kC .u8) (2 :: jW (jJ r) 11), .raw (.int .i64 0)] else .tup [.raw (.slice none 0 0), .raw (.int .i64 1)]) := by
 have h1 := zY9 r
 have h2 := zW4 r.nonce hf.2.2.2.1
 have h3 := yAv 2 (jJ r) (by simp [jJ])
 by_cases hr : yJ r
 ·rw [if_pos hr]
  rw [yM1 hr] at h1
  refine en Tryz.func198 Tryz.ntmps198 [.tmp 2, .tmp 3] rfl ?_
  repeat' first
   | refine wkg (And.intro h1 (And.intro h2 h3)) ?_
   | (refine cS (fun hb => ?_) fun hb => ?_ <;> try (cases hb; done))
   | refine sM fun K hK => ?_
   | fail
  refine rq ?_ ?_
  ·rfl
  ·exact ⟨zM0 .u8 (2 :: jW (jJ r) 11), trivial, trivial⟩
 ·rw [if_neg hr]
  rw [yM2 hr] at h1
  refine en Tryz.func198 Tryz.ntmps198 [.tmp 2, .tmp 3] rfl ?_
  repeat' first
   | refine wkg h1 ?_
   | (refine cS (fun hb => ?_) fun hb => ?_ <;> try (cases hb; done))
   | refine sM fun K hK => ?_
   | fail
  refine rq ?_ ?_
  ·rfl
  ·simp [AV.free, AV.freeL]
theorem zNa (r : zM) (hf : r.fits) : FnA Tryz.prog 132 [.agg r.av] (.raw (.bool (decide (yJ r)))) := by
 have h := zPt r hf
 by_cases hr : yJ r
 ·rw [if_pos hr] at h
  rw [yM1 hr]
  have hl : (lA 1 (kC .u8) (2 :: jW (jJ r) 11)).free := zM0 _ _
  generalize lA 1 (kC .u8) (2 :: jW (jJ r) 11) = L at *
  refine en Tryz.func132 Tryz.ntmps132 [.tmp 2] rfl ?_
  repeat' first
   | refine wkg h ?_
   | (refine cS (fun hb => ?_) fun hb => ?_ <;> try (cases hb; done))
   | refine sM fun K hK => ?_
   | fail
  all_goals exact fA
 ·rw [if_neg hr] at h
  rw [yM2 hr]
  refine en Tryz.func132 Tryz.ntmps132 [.tmp 2] rfl ?_
  repeat' first
   | refine wkg h ?_
   | (refine cS (fun hb => ?_) fun hb => ?_ <;> try (cases hb; done))
   | refine sM fun K hK => ?_
   | fail
  all_goals exact fA
def zBo (r : zM) : List Int := [r.auth, r.host, r.round, r.nonce / 4294967296, r.nonce % 4294967296, r.stamp.lo, r.stamp.hi, r.key, r.table]
theorem zPq (r : zM) (hn : inK .u64 r.nonce) : FnA Tryz.prog 201 [.agg r.av] (liA (zBo r)) := by
 have h2 := zVp hn
 simp only [inK] at hn
 have h1 : inK .i64 (r.nonce.fdiv (2 ^ min (Int.toNat 32) 64)) := by rw [zG5]; simp only [inK]; omega
 have h3 : inK .i64 (zFv .and .u64 r.nonce 4294967295) := by rw [h2]; simp only [inK]; omega
 refine en Tryz.func201 Tryz.ntmps201 [.tmp 2] rfl ?_
 repeat' first
  | refine wkg trivial ?_
  | (refine cS (fun hb => ?_) fun hb => ?_ <;> try (cases hb; done))
  | refine sM fun K hK => ?_
  | fail
 rw [zG5, h2]
 refine rt ?_
 exact (Sim.lstE rfl fun i hi => yB (enc := iC) (l := zBo r) (fun _ => rfl) rfl hi).s
theorem zP5 {l : List zH} (h : ValidP l) {i : Nat} (h0 : 0 < i) (hi : i < l.length) : (l.getD (i - 1) default).auth < (l.getD i default).auth ∨ (l.getD i default).auth = (l.getD (i - 1) default).auth ∧ (l.getD i default).id = (l.getD (i - 1) default).id + 1 := by
 have h1 := h.2.2 i hi
 unfold wI at h1
 split at h1
 ·rename_i h2
  rcases h2 with h2 | h2
  ·omega
  ·exact .inl h2
 ·exact .inr ⟨h1.1.1, h1.1.2.1⟩
theorem zIo {l : List zH} (h : ValidP l) : ∀ (j i : Nat), i < j → j < l.length → (l.getD i default).auth < (l.getD j default).auth ∨ (l.getD i default).auth = (l.getD j default).auth ∧ (l.getD i default).id < (l.getD j default).id
 | 0, i, hi, _ => by omega
 | j + 1, i, hi, hj => by
  have h1 := zP5 h (i := j + 1) (by omega) hj
  rw [Nat.add_sub_cancel] at h1
  rcases yLu.1 hi with h2 | rfl
  ·have h3 := zIo h j i h2 (by omega)
   omega
  ·omega
theorem zZn (k : zH) (auth id : Int) : zU4 k auth id < 0 ↔ k.auth < auth ∨ k.auth = auth ∧ k.id < id := by
 unfold zU4 zEi; grind
theorem zL7 {l : List zH} (h : ValidP l) (auth id : Int) : zX2 l fun k => zU4 k auth id := by
 intro i j hij hj hc
 rcases Nat.lt_or_eq_of_le hij with h1 | rfl
 ·have := zIo h j i h1 hj
  rw [zZn] at hc ⊢
  omega
 ·exact hc
def zG9 (l : List zH) (auth id : Int) : Nat := zQq l fun k => zU4 k auth id
def zCe (l : List zH) (auth id : Int) : Bool := decide (zG9 l auth id < l.length) && decide (zU4 (l.getD (zG9 l auth id) default) auth id = 0)
theorem zH6 (l : List zH) (h : ValidP l) (auth id : Int) : FnA Tryz.prog 235 [lA 7 zH.av l, .raw (.int .i64 auth), .raw (.int .i64 id)] (.tup [.raw (.int .i64 (zG9 l auth id)), .raw (.bool (zCe l auth id))]) := by
 have hl : l.length ≤ 4611686018427387904 := by have := h.1; omega
 have hb := zU8 l hl (liA [auth, id]) (zE (fun _ => by simp) _) _ _ (fun k => zZa k auth id) (zL7 h auth id)
 have hi := zSz [auth, id]
 have hfr : (lA 7 zH.av l).free := zE (fun y => zH.free y) _
 have e1 : zCe l auth id = (decide (zQq l (fun k => zU4 k auth id) < l.length) && decide (zU4 (l.getD (zQq l fun k => zU4 k auth id) default) auth id = 0)) := rfl
 rw [← e1] at hb
 have e2 : zG9 l auth id = zQq l (fun k => zU4 k auth id) := rfl
 rw [← e2] at hb
 clear e1 e2
 generalize lA 7 zH.av l = L at *
 generalize zCe l auth id = f at *
 refine en Tryz.func235 Tryz.ntmps235 [.tmp 6, .tmp 7] rfl ?_
 repeat'
  first
   | first
    | (refine zF (hK _ ?_); clear hK K)
    | refine stG ?_
    | (refine yH 1 rfl ?_; refine zN rfl rfl ⟨_, evl, _, _, _, evl, yR, ?_⟩; apply Exists.intro; refine ⟨fun hg => ?_, ?_⟩; · first | exact FnA.at_ (hb) rfl rfl | exact FnA.at_ (hi) rfl rfl | exact FnA.at_s (hb) rfl xB | exact FnA.at_s (hb) rfl xC | exact FnA.at_s (hi) rfl xB | exact FnA.at_s (hi) rfl xC)
    | (refine zS 1 rfl ?_; refine zP rfl ⟨_, evl, _, _, _, (fun _ _ => w7), yR, ?_⟩; apply Exists.intro; refine ⟨fun hg => ?_, ?_⟩; · first | exact FnA.at_ (hb) rfl rfl | exact FnA.at_ (hi) rfl rfl | exact FnA.at_s (hb) rfl xB | exact FnA.at_s (hb) rfl xC | exact FnA.at_s (hi) rfl xB | exact FnA.at_s (hi) rfl xC)
    | (refine zS 1 rfl ?_; refine zG ?_)
    | (refine z7 ?_; first | (refine zK (hK _ ?_); clear hK K) | (refine zT rfl ⟨_, evl, fun nb' => ?_⟩))
    | refine zD (fun K hK => ?_)
    | (refine xD ?_; first | (refine zC false rfl (by kernel_rfl) (by kernel_rfl) (fun K hK => ?_)) | (refine zC true rfl (by kernel_rfl) (by kernel_rfl) (fun K hK => ?_)))
    | (refine zA ⟨_, evl, fun hb => ?_, fun hb => ?_⟩ <;> (try simp only [yKt, yJl, yKw, yKv, yJn, yKs, yJd, yLj, yJm, yKu, yLk, yK3, ne_eq, yLl, yJc, yLm, yKg, yKh] at hb))
   | fail
 all_goals exact fA
def zLp (l : List zH) (auth id : Int) (i : Iv) : Int × Int :=
 if ValidP l ∧ (0 ≤ i.lo ∧ i.lo ≤ i.hi ∧ i.hi ≤ 3000000000000000) then
  if zCe l auth id then
   if i.lo < (l.getD (zG9 l auth id) default).from_ ∨ (l.getD (zG9 l auth id) default).until_ ≤ i.hi then (0, 31) else ((l.getD (zG9 l auth id) default).pub, 0)
  else (0, 4)
 else (0, 1)
theorem yHl (l : List zH) (hl : l.length ≤ 4611686018427387904) (hf : ∀ k ∈ l, k.fits) (auth id : Int) (i : Iv) : FnA Tryz.prog 199 [lA 7 zH.av l, .raw (.int .i64 auth), .raw (.int .i64 id), .agg i.av] (.tup [.raw (.int .i64 (zLp l auth id i).1), .raw (.int .i64 (zLp l auth id i).2)]) := by
 have hv := valid_A l hl hf
 have hi := zBt i.lo i.hi
 have hn : zCe l auth id = true → zG9 l auth id < l.length := by
  unfold zCe; simp; intro h _; exact h
 refine en Tryz.func199 Tryz.ntmps199 [.tmp 8, .tmp 9] rfl ?_
 repeat'
  first
   | first
    | (refine zF (hK _ ?_); clear hK K)
    | refine stG ?_
    | (refine yH 1 rfl ?_; refine zN rfl rfl ⟨_, evl, _, _, _, evl, yR, ?_⟩; apply Exists.intro; refine ⟨fun hg => ?_, ?_⟩; · first | exact FnA.at_ (hv) rfl rfl | exact FnA.at_ (hi) rfl rfl | exact FnA.at_ (zH6 l (by simp_all) auth id) rfl rfl | exact FnA.at_s (hv) rfl xB | exact FnA.at_s (hv) rfl xC | exact FnA.at_s (hi) rfl xB | exact FnA.at_s (hi) rfl xC | exact FnA.at_s (zH6 l (by simp_all) auth id) rfl xB | exact FnA.at_s (zH6 l (by simp_all) auth id) rfl xC)
    | (refine zS 1 rfl ?_; refine zP rfl ⟨_, evl, _, _, _, (fun _ _ => w7), yR, ?_⟩; apply Exists.intro; refine ⟨fun hg => ?_, ?_⟩; · first | exact FnA.at_ (hv) rfl rfl | exact FnA.at_ (hi) rfl rfl | exact FnA.at_ (zH6 l (by simp_all) auth id) rfl rfl | exact FnA.at_s (hv) rfl xB | exact FnA.at_s (hv) rfl xC | exact FnA.at_s (hi) rfl xB | exact FnA.at_s (hi) rfl xC | exact FnA.at_s (zH6 l (by simp_all) auth id) rfl xB | exact FnA.at_s (zH6 l (by simp_all) auth id) rfl xC)
    | (refine zS 1 rfl ?_; refine zG ?_)
    | (refine z7 ?_; first | (refine zK (hK _ ?_); clear hK K) | (refine zT rfl ⟨_, evl, fun nb' => ?_⟩))
    | refine zD (fun K hK => ?_)
    | (refine xD ?_; first | (refine zC false rfl (by kernel_rfl) (by kernel_rfl) (fun K hK => ?_)) | (refine zC true rfl (by kernel_rfl) (by kernel_rfl) (fun K hK => ?_)))
    | (refine zA ⟨_, evl, fun hb => ?_, fun hb => ?_⟩ <;> (try simp only [yKt, yJl, yKw, yKv, yJn, yKs, yJd, yLj, yJm, yKu, yLk, yK3, ne_eq, yLl, yJc, yLm, yKg, yKh] at hb))
   | fail
 all_goals (try (refine zR (by simp) ⟨_, _, _, evl, ob0, zV.sims ?_ fre⟩))
 all_goals first | exact z6.refl _ | (refine z6.of_eq ?_; first | rfl | (simp [zLp]; done) | (simp_all [zLp]; done) | (simp_all [zLp]; omega) | (simp [zLp]; grind) | (split <;> simp_all)) | exact yU | (refine z6.tup ?_; simp only [z8, yKn]; (repeat' apply And.intro) <;> first | exact yU | skip) | (exfalso; first | omega | (simp_all; done) | (simp_all; omega)) | skip
structure q9 where
 id : Int
 err : Int
 cost : Int
 key : Int
 deriving Inhabited, DecidableEq
@[go_sem] def q9.av (x : q9) : List AV := [.raw (.int .i64 x.id), .raw (.int .i64 x.err), .raw (.int .i64 x.cost), .raw (.int .i64 x.key)]
@[simp] theorem q9.free (x : q9) : AV.freeL x.av := ⟨trivial, trivial, trivial, trivial, trivial⟩
abbrev zL4 : zM := ⟨0, 0, 0, 0, ⟨0, 0⟩, 0, 0, ⟨0, 0⟩⟩
abbrev zOu (r : zM) : zM := { r with sig := ⟨0, 0⟩ }
theorem zNu {r : zM} (h : r.fits) : okI (zBo r) := by
 obtain ⟨h1, h2, h3, h4, h5, h6, h7, h8⟩ := h
 intro n hn
 simp only [zBo, yJb, yKj, yKq] at hn
 simp only [inK] at h4
 rcases hn with rfl | rfl | rfl | rfl | rfl | rfl | rfl | rfl | rfl
 ·exact h1
 ·exact h2
 ·exact h3
 ·simp only [inK]; omega
 ·simp only [inK]; omega
 ·exact h5.1
 ·exact h5.2
 ·exact h6
 ·exact h7
def zC1 (key once : Int) (r : zM) : zM × Int := if yJ (zOu r) then (if (qB key once (zBo r)).2 = 0 then ({ r with sig := (qB key once (zBo r)).1 }, 0) else (zL4, (qB key once (zBo r)).2)) else (zL4, 1)
theorem zRz {l : List zH} (hf : ∀ k ∈ l, k.fits) (auth id : Int) (i : Iv) : inK .i64 (zLp l auth id i).1 := by
 have h0 : inK .i64 0 := by simp [inK]
 unfold zLp
 split
 ·split
  ·rename_i h
   split
   ·exact h0
   ·simp only [zCe, yJl, yJm] at h
    exact (hf _ (by rw [z5 h.1]; exact yLb _)).2.2.1
  ·exact h0
 ·exact h0
def zAr (l : List zH) (r : zM) : Bool := decide ((zLp l r.auth r.key r.stamp).2 = 0) && (yW (zLp l r.auth r.key r.stamp).1 r.sig (zBo r)).1
theorem zNd (l : List zH) (hl : l.length ≤ 4611686018427387904) (hf : ∀ k ∈ l, k.fits) (r : zM) (hr : r.fits) : FnA Tryz.prog 133 [lA 7 zH.av l, .agg r.av] (.raw (.bool (zAr l r))) := by
 have hp := yHl l hl hf r.auth r.key r.stamp
 have hpf := zRz hf r.auth r.key r.stamp
 have hm := zPq r hr.2.2.2.1
 have hv := zMy (zLp l r.auth r.key r.stamp).1 r.sig (zBo r) (zNu hr) hpf (by simp [zBo])
 have hfm : (liA (zBo r)).free := zE (fun _ => by simp [AV.free, AV.freeL, iC]) _
 have hfr : (lA 7 zH.av l).free := zE (fun y => zH.free y) _
 unfold zAr
 generalize yW (zLp l r.auth r.key r.stamp).1 r.sig (zBo r) = v at *
 generalize zLp l r.auth r.key r.stamp = p at *
 generalize liA (zBo r) = M at *
 clear hpf hf hl
 by_cases h2 : p.2 = 0
 ·rw [h2] at hp
  rw [h2]
  refine en Tryz.func133 Tryz.ntmps133 [.tmp 4] rfl ?_
  repeat' first
   | refine wkg (And.intro hp (And.intro hm hv)) ?_
   | (refine cS (fun hb => ?_) fun hb => ?_ <;> try (cases hb; done))
   | refine sM fun K hK => ?_
   | fail
  refine rq ?_ ?_
  ·simp
  ·simp [AV.free]
 ·rw [yM2 h2]
  refine en Tryz.func133 Tryz.ntmps133 [.tmp 4] rfl ?_
  repeat' first
   | refine wkg (And.intro hp (And.intro hm hv)) ?_
   | (refine cS (fun hb => ?_) fun hb => ?_ <;> try (cases hb; done))
   | refine sM fun K hK => ?_
   | fail
  ·refine rq ?_ ?_
   ·simp
   ·simp [AV.free]
  ·exact absurd hb h2
theorem zVb (l : List zH) (hl : l.length ≤ 4611686018427387904) (hf : ∀ k ∈ l, k.fits) (r : zM) (hr : r.fits) : FnA Tryz.prog 80 [lA 7 zH.av l, .agg r.av] (.tup [.raw (.bool (decide (ValidP l) && decide (yJ r) && zAr l r)), .raw (.int .i64 (if ValidP l ∧ yJ r then 0 else 1))]) := by
 have h1 := valid_A l hl hf
 have h2 := zNa r hr
 have h3 := zNd l hl hf r hr
 have hfr : (lA 7 zH.av l).free := zE (fun y => zH.free y) _
 rw [show (if ValidP l ∧ yJ r then (0 : Int) else 1) = if (decide (ValidP l) && decide (yJ r)) = true then 0 else 1 from by simp]
 generalize zAr l r = b at *
 generalize decide (ValidP l) = v at *
 generalize decide (yJ r) = w at *
 clear hl hf
 refine en Tryz.func80 Tryz.ntmps80 [.tmp 4, .tmp 5] rfl ?_
 repeat' first
  | refine wkg (And.intro h1 (And.intro h2 h3)) ?_
  | (refine cS (fun hb => ?_) fun hb => ?_ <;> try (cases hb; done))
  | refine sM fun K hK => ?_
  | fail
 ·refine rq ?_ ?_
  ·rcases hb with rfl | rfl <;> simp
  ·simp [AV.free, AV.freeL]
 ·refine rq ?_ ?_
  ·obtain ⟨rfl, rfl⟩ := hb; simp
  ·simp [AV.free, AV.freeL]
def yBz (a : q9) : Prop := (1 ≤ a.id ∧ a.id ≤ 16) ∧ 0 ≤ a.err ∧ a.err ≤ 1000000
instance (a : q9) : Decidable (yBz a) := by unfold yBz; infer_instance
def zT8 (a : q9) (r : zM) (at_ : Int) : Prop := r.auth = a.id ∧ r.stamp.lo ≤ at_ ∧ at_ ≤ r.stamp.hi ∧ r.stamp.hi - r.stamp.lo ≤ 2 * a.err
instance (a : q9) (r : zM) (at_ : Int) : Decidable (zT8 a r at_) := by unfold zT8; infer_instance
end Go.Proofs.YtchpbdecipcelaaGreatDoor
