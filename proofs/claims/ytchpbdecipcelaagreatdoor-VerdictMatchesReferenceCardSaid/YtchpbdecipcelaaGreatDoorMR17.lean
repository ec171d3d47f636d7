import Derived.Test.YtchpbdecipcelaaGreatDoorMR01
import Derived.Test.YtchpbdecipcelaaGreatDoorMR14
import Derived.Test.YtchpbdecipcelaaGreatDoorMR16
namespace Go.Proofs.YtchpbdecipcelaaGreatDoor
set_option linter.unusedVariables false
set_option linter.unusedSimpArgs false
set_option maxHeartbeats 4000000
set_option maxRecDepth 100000
open Go.RowKit
structure zDr where
 host : Int
 auth : Int
 round : Int
 nonce : Int
 deriving Inhabited, DecidableEq
@[go_sem] def zDr.av (x : zDr) : List AV := [.raw (.int .i64 x.host), .raw (.int .i64 x.auth), .raw (.int .i64 x.round), .raw (.int .u64 x.nonce)]
@[simp] theorem zDr.free (x : zDr) : AV.freeL x.av := ⟨trivial, trivial, trivial, trivial, trivial⟩
structure zN where
 auth : Int
 host : Int
 round : Int
 nonce : Int
 stamp : Iv
 key : Int
 table : Int
 sig : Sig
 deriving Inhabited, DecidableEq
@[go_sem] def zN.av (x : zN) : List AV := [.raw (.int .i64 x.auth), .raw (.int .i64 x.host), .raw (.int .i64 x.round), .raw (.int .u64 x.nonce), .raw (.int .i64 x.stamp.lo), .raw (.int .i64 x.stamp.hi), .raw (.int .i64 x.key), .raw (.int .i64 x.table), .raw (.int .i64 x.sig.c), .raw (.int .i64 x.sig.s)]
def zN.fits (x : zN) : Prop := (inK .i64 x.auth) ∧ (inK .i64 x.host) ∧ (inK .i64 x.round) ∧ (inK .u64 x.nonce) ∧ (x.stamp.fits) ∧ (inK .i64 x.key) ∧ (inK .i64 x.table) ∧ (x.sig.fits)
@[simp] theorem zN.free (x : zN) : AV.freeL x.av := ⟨trivial, trivial, trivial, trivial, trivial, trivial, trivial, trivial, trivial, trivial, trivial⟩
def zGq (h a r : Int) : Prop := (1 ≤ h ∧ h ≤ 64) ∧ (1 ≤ a ∧ a ≤ 16) ∧ 1 ≤ r ∧ r ≤ 200
instance (h a r : Int) : Decidable (zGq h a r) := by unfold zGq; infer_instance
theorem zT9 (r : zDr) : FnA Tryz.prog 250 [.agg r.av] (.raw (.bool (decide (zGq r.host r.auth r.round)))) := by
 refine en Tryz.func250 Tryz.ntmps250 [.tmp 2] rfl ?_
 repeat' first
  | (refine wkM hK zC6 ?_)
  | refine wkg zC6 ?_
  | (refine cS (fun hb => ?_) fun hb => ?_ <;> try (cases hb; done))
  | refine sM fun K hK => ?_
  | fail
 all_goals (try (refine zM (by simp) ⟨_, _, _, evl, ob0, zV.sims ?_ fre⟩))
 all_goals first | exact z5.refl _ | (refine z5.of_eq ?_; first | rfl | (simp [zGq]; done) | (simp_all [zGq]; done) | (simp_all [zGq]; omega) | (simp [zGq]; grind) | (split <;> simp_all)) | exact yM | (refine z5.tup ?_; simp only [z8, yMs]; (repeat' apply And.intro) <;> first | exact yM | skip) | (exfalso; first | omega | (simp_all; done) | (simp_all; omega)) | skip
def z9 (r : zN) : Prop := zGq r.host r.auth r.round ∧ (0 ≤ r.stamp.lo ∧ r.stamp.lo ≤ r.stamp.hi ∧ r.stamp.hi ≤ 3000000000000000) ∧ (0 ≤ r.key ∧ r.key ≤ 1000) ∧ (0 ≤ r.table ∧ r.table ≤ 1000) ∧ (0 ≤ r.sig.c ∧ r.sig.c ≤ 1073741788) ∧ 0 ≤ r.sig.s ∧ r.sig.s ≤ 1073741788
instance (r : zN) : Decidable (z9 r) := by unfold z9; infer_instance
theorem yA7 (r : zN) : FnA Tryz.prog 232 [.agg r.av] (.raw (.bool (decide (z9 r)))) := by
 have hr := zT9 ⟨r.host, r.auth, r.round, 0⟩
 simp only at hr
 refine en Tryz.func232 Tryz.ntmps232 [.tmp 2] rfl ?_
 repeat' first
  | (refine wkM hK (And.intro hr (And.intro zC6 zBx)) ?_)
  | refine wkg (And.intro hr (And.intro zC6 zBx)) ?_
  | (refine cS (fun hb => ?_) fun hb => ?_ <;> try (cases hb; done))
  | refine sM fun K hK => ?_
  | fail
 all_goals (try (refine zM (by simp) ⟨_, _, _, evl, ob0, zV.sims ?_ fre⟩))
 all_goals first | exact z5.refl _ | (refine z5.of_eq ?_; first | rfl | (simp [z9]; done) | (simp_all [z9]; done) | (simp_all [z9]; omega) | (simp [z9]; grind) | (split <;> simp_all)) | exact yM | (refine z5.tup ?_; simp only [z8, yMs]; (repeat' apply And.intro) <;> first | exact yM | skip) | (exfalso; first | omega | (simp_all; done) | (simp_all; omega)) | skip
theorem zGt {n : Int} : n.fdiv (2 ^ min (Int.toNat 32) 64) = n / 4294967296 := by
 rw [yNq _ (by decide)]
 rfl
theorem zXh {n : Int} (h : inK .u64 n) : zGg .and .u64 n 4294967295 = n % 4294967296 := by
 simp only [inK] at h
 obtain ⟨x, rfl⟩ := yO2 h.1
 have e : ((BitVec.ofInt 64 (x : Int) &&& BitVec.ofInt 64 4294967295).toNat : Int) = (x % 4294967296 : Nat) := by
  rw [BitVec.toNat_and, BitVec.toNat_ofInt, BitVec.toNat_ofInt]
  have e1 : ((x : Int) % ((2 ^ 64 : Nat) : Int)).toNat = x := by omega
  have e2 : ((4294967295 : Int) % ((2 ^ 64 : Nat) : Int)).toNat = 2 ^ 32 - 1 := by decide
  rw [e1, e2, Nat.and_two_pow_sub_one_eq_mod]
 show IntKind.u64.wrap _ = _
 rw [show IntKind.u64.bits = 64 from rfl, e]
 rw [yX (k := .u64) (by simp only [inK]; omega)]
 omega
theorem zXv (n : Int) (hn : inK .u64 n) : FnA Tryz.prog 233 [.raw (.int .u64 n)] (.agg [.raw (.int .i64 (n / 4294967296)), .raw (.int .i64 (n % 4294967296))]) := by
 have h2 := zXh hn
 simp only [inK] at hn
 have h1 : inK .i64 (n.fdiv (2 ^ min (Int.toNat 32) 64)) := by rw [zGt]; simp only [inK]; omega
 have h3 : inK .i64 (zGg .and .u64 n 4294967295) := by rw [h2]; simp only [inK]; omega
 refine en Tryz.func233 Tryz.ntmps233 [.cell 2 264] rfl ?_
 repeat' first
  | refine wkg trivial ?_
  | (refine cS (fun hb => ?_) fun hb => ?_ <;> try (cases hb; done))
  | refine sM fun K hK => ?_
  | fail
 refine rq ?_ ?_
 ·rw [zGt, h2]
 ·simp [AV.free, AV.freeL]
theorem zN2 (k : IntKind) (l : List Int) : (lA 1 (kC k) l).free := zC (fun x => show AV.freeL (kC k x) from ⟨trivial, trivial⟩) _
theorem yD7 (k : Int) (l : List Int) (h : l.length ≤ 1000) : FnA Tryz.prog 234 [.raw (.int .u8 k), liA l] (.tup [lA 1 (kC .u8) (k :: j5 l l.length), .raw (.int .i64 0)]) := by
 have hp := yJm l h
 have hl := zFn l l.length
 refine en Tryz.func234 Tryz.ntmps234 [.tmp 4, .tmp 5] rfl ?_
 repeat' first
  | refine wkR hp ?_
  | (refine cS (fun hb => ?_) fun hb => ?_ <;> try (cases hb; done))
  | refine sM fun K hK => ?_
  | fail
 refine zM (by simp) ⟨_, _, _, evl, ob0, ?_⟩
 refine zV.sims (z5.tup (show z8 _ _ [_, _] [_, _] from ⟨z5.row rfl rfl rfl ?_ (fun i hi => ?_), z5.refl _, trivial⟩)) ⟨zN2 _ _, trivial, trivial⟩
 ·simp only [yL2]; omega
 ·cases i with
  | zero => rfl
  | succ i =>
   dsimp only
   rw [y6 (Nat.le_add_left 1 i), Nat.add_sub_cancel]
   simp [els]
def jO (r : zN) : List Int := [r.auth, r.host, r.round, r.nonce / 4294967296, r.nonce % 4294967296, r.stamp.lo, r.stamp.hi, r.key, r.table, r.sig.c, r.sig.s]
theorem zQs (r : zN) (hf : r.fits) : FnA Tryz.prog 198 [.agg r.av] (if z9 r then .tup [lA 1 (kC .u8) (2 :: j5 (jO r) 11), .raw (.int .i64 0)] else .tup [.raw (.slice none 0 0), .raw (.int .i64 1)]) := by
 have h1 := yA7 r
 have h2 := zXv r.nonce hf.2.2.2.1
 have h3 := yD7 2 (jO r) (by simp [jO])
 by_cases hr : z9 r
 ·rw [if_pos hr]
  rw [yO3 hr] at h1
  refine en Tryz.func198 Tryz.ntmps198 [.tmp 2, .tmp 3] rfl ?_
  repeat' first
   | refine wkg (And.intro h1 (And.intro h2 h3)) ?_
   | (refine cS (fun hb => ?_) fun hb => ?_ <;> try (cases hb; done))
   | refine sM fun K hK => ?_
   | fail
  refine rq ?_ ?_
  ·rfl
  ·exact ⟨zN2 .u8 (2 :: j5 (jO r) 11), trivial, trivial⟩
 ·rw [if_neg hr]
  rw [yO4 hr] at h1
  refine en Tryz.func198 Tryz.ntmps198 [.tmp 2, .tmp 3] rfl ?_
  repeat' first
   | refine wkg h1 ?_
   | (refine cS (fun hb => ?_) fun hb => ?_ <;> try (cases hb; done))
   | refine sM fun K hK => ?_
   | fail
  refine rq ?_ ?_
  ·rfl
  ·simp [AV.free, AV.freeL]
theorem zOe (r : zN) (hf : r.fits) : FnA Tryz.prog 132 [.agg r.av] (.raw (.bool (decide (z9 r)))) := by
 have h := zQs r hf
 by_cases hr : z9 r
 ·rw [if_pos hr] at h
  rw [yO3 hr]
  have hl : (lA 1 (kC .u8) (2 :: j5 (jO r) 11)).free := zN2 _ _
  generalize lA 1 (kC .u8) (2 :: j5 (jO r) 11) = L at *
  refine en Tryz.func132 Tryz.ntmps132 [.tmp 2] rfl ?_
  repeat' first
   | refine wkg h ?_
   | (refine cS (fun hb => ?_) fun hb => ?_ <;> try (cases hb; done))
   | refine sM fun K hK => ?_
   | fail
  all_goals exact fA
 ·rw [if_neg hr] at h
  rw [yO4 hr]
  refine en Tryz.func132 Tryz.ntmps132 [.tmp 2] rfl ?_
  repeat' first
   | refine wkg h ?_
   | (refine cS (fun hb => ?_) fun hb => ?_ <;> try (cases hb; done))
   | refine sM fun K hK => ?_
   | fail
  all_goals exact fA
def zBu (r : zN) : List Int := [r.auth, r.host, r.round, r.nonce / 4294967296, r.nonce % 4294967296, r.stamp.lo, r.stamp.hi, r.key, r.table]
theorem zQp (r : zN) (hn : inK .u64 r.nonce) : FnA Tryz.prog 201 [.agg r.av] (liA (zBu r)) := by
 have h2 := zXh hn
 simp only [inK] at hn
 have h1 : inK .i64 (r.nonce.fdiv (2 ^ min (Int.toNat 32) 64)) := by rw [zGt]; simp only [inK]; omega
 have h3 : inK .i64 (zGg .and .u64 r.nonce 4294967295) := by rw [h2]; simp only [inK]; omega
 refine en Tryz.func201 Tryz.ntmps201 [.tmp 2] rfl ?_
 repeat' first
  | refine wkg trivial ?_
  | (refine cS (fun hb => ?_) fun hb => ?_ <;> try (cases hb; done))
  | refine sM fun K hK => ?_
  | fail
 rw [zGt, h2]
 refine rt ?_
 exact (Sim.lstE rfl fun i hi => yA (enc := iC) (l := zBu r) (fun _ => rfl) rfl hi).s
theorem zQ6 {l : List zI} (h : ValidP l) {i : Nat} (h0 : 0 < i) (hi : i < l.length) : (l.getD (i - 1) default).auth < (l.getD i default).auth ∨ (l.getD i default).auth = (l.getD (i - 1) default).auth ∧ (l.getD i default).id = (l.getD (i - 1) default).id + 1 := by
 have h1 := h.2.2 i hi
 unfold wN at h1
 split at h1
 ·rename_i h2
  rcases h2 with h2 | h2
  ·omega
  ·exact .inl h2
 ·exact .inr ⟨h1.1.1, h1.1.2.1⟩
theorem zEz {l : List zI} (h : ValidP l) : ∀ (j i : Nat), i < j → j < l.length → (l.getD i default).auth < (l.getD j default).auth ∨ (l.getD i default).auth = (l.getD j default).auth ∧ (l.getD i default).id < (l.getD j default).id
 | 0, i, hi, _ => by omega
 | j + 1, i, hi, hj => by
  have h1 := zQ6 h (i := j + 1) (by omega) hj
  rw [Nat.add_sub_cancel] at h1
  rcases yNv.1 hi with h2 | rfl
  ·have h3 := zEz h j i h2 (by omega)
   omega
  ·omega
theorem zVw (k : zI) (auth id : Int) : zLk k auth id < 0 ↔ k.auth < auth ∨ k.auth = auth ∧ k.id < id := by
 unfold zLk zEa; grind
theorem zNm (k : zI) (auth id : Int) : zLk k auth id = 0 ↔ k.auth = auth ∧ k.id = id := by
 unfold zLk zEa; grind
theorem zM3 {l : List zI} (h : ValidP l) (auth id : Int) : zZ3 l fun k => zLk k auth id := by
 intro i j hij hj hc
 rcases Nat.lt_or_eq_of_le hij with h1 | rfl
 ·have := zEz h j i h1 hj
  rw [zVw] at hc ⊢
  omega
 ·exact hc
def zE9 (l : List zI) (auth id : Int) : Nat := zP0 l fun k => zLk k auth id
def zA6 (l : List zI) (auth id : Int) : Bool := decide (zE9 l auth id < l.length) && decide (zLk (l.getD (zE9 l auth id) default) auth id = 0)
theorem zHu (l : List zI) (h : ValidP l) (auth id : Int) : FnA Tryz.prog 235 [lA 7 zI.av l, .raw (.int .i64 auth), .raw (.int .i64 id)] (.tup [.raw (.int .i64 (zE9 l auth id)), .raw (.bool (zA6 l auth id))]) := by
 have hl : l.length ≤ 4611686018427387904 := by have := h.1; omega
 have hb := zW1 l hl (liA [auth, id]) (zC (fun _ => by simp) _) _ _ (fun k => yBb k auth id) (zM3 h auth id)
 have hi := zUj [auth, id]
 have hfr : (lA 7 zI.av l).free := zC (fun y => zI.free y) _
 have e1 : zA6 l auth id = (decide (zP0 l (fun k => zLk k auth id) < l.length) && decide (zLk (l.getD (zP0 l fun k => zLk k auth id) default) auth id = 0)) := rfl
 rw [← e1] at hb
 have e2 : zE9 l auth id = zP0 l (fun k => zLk k auth id) := rfl
 rw [← e2] at hb
 clear e1 e2
 generalize lA 7 zI.av l = L at *
 generalize zA6 l auth id = f at *
 refine en Tryz.func235 Tryz.ntmps235 [.tmp 6, .tmp 7] rfl ?_
 repeat'
  first
   | first
    | (refine zG (hK _ ?_); clear hK K)
    | refine stG ?_
    | (refine yJ 1 rfl ?_; refine zR rfl rfl ⟨_, evl, _, _, _, evl, yR, ?_⟩; apply Exists.intro; refine ⟨fun hg => ?_, ?_⟩; · first | exact FnA.at_ (hb) rfl rfl | exact FnA.at_ (hi) rfl rfl | exact FnA.at_s (hb) rfl yV | exact FnA.at_s (hb) rfl yW | exact FnA.at_s (hi) rfl yV | exact FnA.at_s (hi) rfl yW)
    | (refine zW 1 rfl ?_; refine zS rfl ⟨_, evl, _, _, _, (fun _ _ => vH), yR, ?_⟩; apply Exists.intro; refine ⟨fun hg => ?_, ?_⟩; · first | exact FnA.at_ (hb) rfl rfl | exact FnA.at_ (hi) rfl rfl | exact FnA.at_s (hb) rfl yV | exact FnA.at_s (hb) rfl yW | exact FnA.at_s (hi) rfl yV | exact FnA.at_s (hi) rfl yW)
    | (refine zW 1 rfl ?_; refine zJ ?_)
    | (refine yB ?_; first | (refine zP (hK _ ?_); clear hK K) | (refine zX rfl ⟨_, evl, fun nb' => ?_⟩))
    | refine zE (fun K hK => ?_)
    | (refine yZ ?_; first | (refine zD false rfl (by kernel_rfl) (by kernel_rfl) (fun K hK => ?_)) | (refine zD true rfl (by kernel_rfl) (by kernel_rfl) (fun K hK => ?_)))
    | (refine zA ⟨_, evl, fun hb => ?_, fun hb => ?_⟩ <;> (try simp only [yMy, yLq, yN1, yN0, yLs, yMx, yLi, yNm, yLr, yMz, yNn, yM7, ne_eq, yNo, yLh, yNp, yMl, yMm] at hb))
   | fail
 all_goals exact fA
def zDd (l : List zI) (auth id : Int) (i : Iv) : Int × Int :=
 if ValidP l ∧ (0 ≤ i.lo ∧ i.lo ≤ i.hi ∧ i.hi ≤ 3000000000000000) then
  if zA6 l auth id then
   if i.lo < (l.getD (zE9 l auth id) default).from_ ∨ (l.getD (zE9 l auth id) default).until_ ≤ i.hi then (0, 31) else ((l.getD (zE9 l auth id) default).pub, 0)
  else (0, 4)
 else (0, 1)
theorem yJn (l : List zI) (hl : l.length ≤ 4611686018427387904) (hf : ∀ k ∈ l, k.fits) (auth id : Int) (i : Iv) : FnA Tryz.prog 199 [lA 7 zI.av l, .raw (.int .i64 auth), .raw (.int .i64 id), .agg i.av] (.tup [.raw (.int .i64 (zDd l auth id i).1), .raw (.int .i64 (zDd l auth id i).2)]) := by
 have hv := valid_A l hl hf
 have hi := zBx i.lo i.hi
 have hn : zA6 l auth id = true → zE9 l auth id < l.length := by
  unfold zA6; simp; intro h _; exact h
 refine en Tryz.func199 Tryz.ntmps199 [.tmp 8, .tmp 9] rfl ?_
 repeat'
  first
   | first
    | (refine zG (hK _ ?_); clear hK K)
    | refine stG ?_
    | (refine yJ 1 rfl ?_; refine zR rfl rfl ⟨_, evl, _, _, _, evl, yR, ?_⟩; apply Exists.intro; refine ⟨fun hg => ?_, ?_⟩; · first | exact FnA.at_ (hv) rfl rfl | exact FnA.at_ (hi) rfl rfl | exact FnA.at_ (zHu l (by simp_all) auth id) rfl rfl | exact FnA.at_s (hv) rfl yV | exact FnA.at_s (hv) rfl yW | exact FnA.at_s (hi) rfl yV | exact FnA.at_s (hi) rfl yW | exact FnA.at_s (zHu l (by simp_all) auth id) rfl yV | exact FnA.at_s (zHu l (by simp_all) auth id) rfl yW)
    | (refine zW 1 rfl ?_; refine zS rfl ⟨_, evl, _, _, _, (fun _ _ => vH), yR, ?_⟩; apply Exists.intro; refine ⟨fun hg => ?_, ?_⟩; · first | exact FnA.at_ (hv) rfl rfl | exact FnA.at_ (hi) rfl rfl | exact FnA.at_ (zHu l (by simp_all) auth id) rfl rfl | exact FnA.at_s (hv) rfl yV | exact FnA.at_s (hv) rfl yW | exact FnA.at_s (hi) rfl yV | exact FnA.at_s (hi) rfl yW | exact FnA.at_s (zHu l (by simp_all) auth id) rfl yV | exact FnA.at_s (zHu l (by simp_all) auth id) rfl yW)
    | (refine zW 1 rfl ?_; refine zJ ?_)
    | (refine yB ?_; first | (refine zP (hK _ ?_); clear hK K) | (refine zX rfl ⟨_, evl, fun nb' => ?_⟩))
    | refine zE (fun K hK => ?_)
    | (refine yZ ?_; first | (refine zD false rfl (by kernel_rfl) (by kernel_rfl) (fun K hK => ?_)) | (refine zD true rfl (by kernel_rfl) (by kernel_rfl) (fun K hK => ?_)))
    | (refine zA ⟨_, evl, fun hb => ?_, fun hb => ?_⟩ <;> (try simp only [yMy, yLq, yN1, yN0, yLs, yMx, yLi, yNm, yLr, yMz, yNn, yM7, ne_eq, yNo, yLh, yNp, yMl, yMm] at hb))
   | fail
 all_goals (try (refine zM (by simp) ⟨_, _, _, evl, ob0, zV.sims ?_ fre⟩))
 all_goals first | exact z5.refl _ | (refine z5.of_eq ?_; first | rfl | (simp [zDd]; done) | (simp_all [zDd]; done) | (simp_all [zDd]; omega) | (simp [zDd]; grind) | (split <;> simp_all)) | exact yM | (refine z5.tup ?_; simp only [z8, yMs]; (repeat' apply And.intro) <;> first | exact yM | skip) | (exfalso; first | omega | (simp_all; done) | (simp_all; omega)) | skip
structure qV where
 id : Int
 err : Int
 cost : Int
 key : Int
 deriving Inhabited, DecidableEq
@[go_sem] def qV.av (x : qV) : List AV := [.raw (.int .i64 x.id), .raw (.int .i64 x.err), .raw (.int .i64 x.cost), .raw (.int .i64 x.key)]
@[simp] theorem qV.free (x : qV) : AV.freeL x.av := ⟨trivial, trivial, trivial, trivial, trivial⟩
abbrev yC5 : zN := ⟨0, 0, 0, 0, ⟨0, 0⟩, 0, 0, ⟨0, 0⟩⟩
abbrev zS3 (r : zN) : zN := { r with sig := ⟨0, 0⟩ }
theorem zIp {r : zN} (h : r.fits) : okI (zBu r) := by
 obtain ⟨h1, h2, h3, h4, h5, h6, h7, h8⟩ := h
 intro n hn
 simp only [zBu, yLf, yMo, yMv] at hn
 simp only [inK] at h4
 rcases hn with rfl | rfl | rfl | rfl | rfl | rfl | rfl | rfl | rfl
 ·exact h1
 ·exact h2
 ·exact h3
 ·simp only [inK]; omega
 ·simp only [inK]; omega
 ·exact h5.1
 ·exact h5.2
 ·exact h6
 ·exact h7
def zOg (key once : Int) (r : zN) : zN × Int := if z9 (zS3 r) then (if (zBb key once (zBu r)).2 = 0 then ({ r with sig := (zBb key once (zBu r)).1 }, 0) else (yC5, (zBb key once (zBu r)).2)) else (yC5, 1)
theorem zK3 {l : List zI} (hf : ∀ k ∈ l, k.fits) (auth id : Int) (i : Iv) : inK .i64 (zDd l auth id i).1 := by
 have h0 : inK .i64 0 := by simp [inK]
 unfold zDd
 split
 ·split
  ·rename_i h
   split
   ·exact h0
   ·simp only [zA6, yLq, yLr] at h
    exact (hf _ (by rw [zU h.1]; exact yNe _)).2.2.1
  ·exact h0
 ·exact h0
def qW (l : List zI) (r : zN) : Bool := decide ((zDd l r.auth r.key r.stamp).2 = 0) && (yY (zDd l r.auth r.key r.stamp).1 r.sig (zBu r)).1
theorem zOh (l : List zI) (hl : l.length ≤ 4611686018427387904) (hf : ∀ k ∈ l, k.fits) (r : zN) (hr : r.fits) : FnA Tryz.prog 133 [lA 7 zI.av l, .agg r.av] (.raw (.bool (qW l r))) := by
 have hp := yJn l hl hf r.auth r.key r.stamp
 have hpf := zK3 hf r.auth r.key r.stamp
 have hm := zQp r hr.2.2.2.1
 have hv := zO3 (zDd l r.auth r.key r.stamp).1 r.sig (zBu r) (zIp hr) hpf (by simp [zBu])
 have hfm : (liA (zBu r)).free := zC (fun _ => by simp [AV.free, AV.freeL, iC]) _
 have hfr : (lA 7 zI.av l).free := zC (fun y => zI.free y) _
 unfold qW
 generalize yY (zDd l r.auth r.key r.stamp).1 r.sig (zBu r) = v at *
 generalize zDd l r.auth r.key r.stamp = p at *
 generalize liA (zBu r) = M at *
 clear hpf hf hl
 by_cases h2 : p.2 = 0
 ·rw [h2] at hp
  rw [h2]
  refine en Tryz.func133 Tryz.ntmps133 [.tmp 4] rfl ?_
  repeat' first
   | refine wkg (And.intro hp (And.intro hm hv)) ?_
   | (refine cS (fun hb => ?_) fun hb => ?_ <;> try (cases hb; done))
   | refine sM fun K hK => ?_
   | fail
  refine rq ?_ ?_
  ·simp
  ·simp [AV.free]
 ·rw [yO4 h2]
  refine en Tryz.func133 Tryz.ntmps133 [.tmp 4] rfl ?_
  repeat' first
   | refine wkg (And.intro hp (And.intro hm hv)) ?_
   | (refine cS (fun hb => ?_) fun hb => ?_ <;> try (cases hb; done))
   | refine sM fun K hK => ?_
   | fail
  ·refine rq ?_ ?_
   ·simp
   ·simp [AV.free]
  ·exact absurd hb h2
theorem zX4 (l : List zI) (hl : l.length ≤ 4611686018427387904) (hf : ∀ k ∈ l, k.fits) (r : zN) (hr : r.fits) : FnA Tryz.prog 80 [lA 7 zI.av l, .agg r.av] (.tup [.raw (.bool (decide (ValidP l) && decide (z9 r) && qW l r)), .raw (.int .i64 (if ValidP l ∧ z9 r then 0 else 1))]) := by
 have h1 := valid_A l hl hf
 have h2 := zOe r hr
 have h3 := zOh l hl hf r hr
 have hfr : (lA 7 zI.av l).free := zC (fun y => zI.free y) _
 rw [show (if ValidP l ∧ z9 r then (0 : Int) else 1) = if (decide (ValidP l) && decide (z9 r)) = true then 0 else 1 from by simp]
 generalize qW l r = b at *
 generalize decide (ValidP l) = v at *
 generalize decide (z9 r) = w at *
 clear hl hf
 refine en Tryz.func80 Tryz.ntmps80 [.tmp 4, .tmp 5] rfl ?_
 repeat' first
  | refine wkg (And.intro h1 (And.intro h2 h3)) ?_
  | (refine cS (fun hb => ?_) fun hb => ?_ <;> try (cases hb; done))
  | refine sM fun K hK => ?_
  | fail
 ·refine rq ?_ ?_
  ·rcases hb with rfl | rfl <;> simp
  ·simp [AV.free, AV.freeL]
 ·refine rq ?_ ?_
  ·obtain ⟨rfl, rfl⟩ := hb; simp
  ·simp [AV.free, AV.freeL]
def zJ6 (a : qV) : Prop := (1 ≤ a.id ∧ a.id ≤ 16) ∧ 0 ≤ a.err ∧ a.err ≤ 1000000
instance (a : qV) : Decidable (zJ6 a) := by unfold zJ6; infer_instance
def zUs (a : qV) (r : zN) (at_ : Int) : Prop := r.auth = a.id ∧ r.stamp.lo ≤ at_ ∧ at_ ≤ r.stamp.hi ∧ r.stamp.hi - r.stamp.lo ≤ 2 * a.err
instance (a : qV) (r : zN) (at_ : Int) : Decidable (zUs a r at_) := by unfold zUs; infer_instance
end Go.Proofs.YtchpbdecipcelaaGreatDoor
