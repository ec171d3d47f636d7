/- package packet: what is a reply, its bytes; package reply: valid, Message. -/
import Derived.Test.YtihnjbnlbedpaaaGreatDoorCdC
import Derived.Test.YtihnjbnlbedpaaaGreatDoorKeyC
namespace Go.Proofs.YtihnjbnlbedpaaaGreatDoor
set_option linter.unusedVariables false
set_option linter.unusedSimpArgs false
set_option maxHeartbeats 4000000
set_option maxRecDepth 100000
open Go.RowKit
structure Request where
  host : Int
  auth : Int
  round : Int
  nonce : Int
  deriving Inhabited, DecidableEq
@[go_sem] def Request.av (x : Request) : List AV := [.raw (.int .i64 x.host), .raw (.int .i64 x.auth), .raw (.int .i64 x.round), .raw (.int .u64 x.nonce)]
def Request.fits (x : Request) : Prop := (inK .i64 x.host) ∧ (inK .i64 x.auth) ∧ (inK .i64 x.round) ∧ (inK .u64 x.nonce)
@[simp] theorem Request.free (x : Request) : AV.freeL x.av := ⟨trivial, trivial, trivial, trivial, trivial⟩
structure Reply where
  auth : Int
  host : Int
  round : Int
  nonce : Int
  stamp : Iv
  key : Int
  table : Int
  sig : Sig
  deriving Inhabited, DecidableEq
@[go_sem] def Reply.av (x : Reply) : List AV := [.raw (.int .i64 x.auth), .raw (.int .i64 x.host), .raw (.int .i64 x.round), .raw (.int .u64 x.nonce), .raw (.int .i64 x.stamp.lo), .raw (.int .i64 x.stamp.hi), .raw (.int .i64 x.key), .raw (.int .i64 x.table), .raw (.int .i64 x.sig.c), .raw (.int .i64 x.sig.s)]
def Reply.fits (x : Reply) : Prop := (inK .i64 x.auth) ∧ (inK .i64 x.host) ∧ (inK .i64 x.round) ∧ (inK .u64 x.nonce) ∧ (x.stamp.fits) ∧ (inK .i64 x.key) ∧ (inK .i64 x.table) ∧ (x.sig.fits)
@[simp] theorem Reply.free (x : Reply) : AV.freeL x.av := ⟨trivial, trivial, trivial, trivial, trivial, trivial, trivial, trivial, trivial, trivial, trivial⟩
def reqP (h a r : Int) : Prop := (1 ≤ h ∧ h ≤ 64) ∧ (1 ≤ a ∧ a ≤ 16) ∧ 1 ≤ r ∧ r ≤ 200
instance (h a r : Int) : Decidable (reqP h a r) := by unfold reqP; infer_instance
theorem request_A (r : Request) : FnA Tryz.prog 205 [.agg r.av] (.raw (.bool (decide (reqP r.host r.auth r.round)))) := by
  refine fnA_of tblOk Tryz.func205 rfl (by kernel_rfl) 16 Tryz.ntmps205 (by simp only [List.length_cons, List.length_nil]; omega) [.tmp 2] rfl ?_
  simp only [entrySt, argSl, Nat.zero_add, Nat.reduceAdd]
  repeat'
    first
      | first
        | (refine runS_nil (hK _ ?_); clear hK K)
        | refine stG ?_
        | (refine gateS 1 rfl ?_; refine runS_call rfl rfl ⟨_, evl, _, _, _, evl, oblF, ?_⟩; apply Exists.intro; refine ⟨fun hg => ?_, ?_⟩; · first | exact FnA.at_ (pwithin_A _ _ _) rfl rfl | exact FnA.at_s (pwithin_A _ _ _) rfl simT | exact FnA.at_s (pwithin_A _ _ _) rfl simF)
        | (refine gateA 1 rfl ?_; refine runA_call rfl ⟨_, evl, _, _, _, (fun _ _ => evlA), oblF, ?_⟩; apply Exists.intro; refine ⟨fun hg => ?_, ?_⟩; · first | exact FnA.at_ (pwithin_A _ _ _) rfl rfl | exact FnA.at_s (pwithin_A _ _ _) rfl simT | exact FnA.at_s (pwithin_A _ _ _) rfl simF)
        | (refine gateA 1 rfl ?_; refine runA_put ?_)
        | (refine gateBc ?_; first | (refine runB_nil (hK _ ?_); clear hK K) | (refine runB_op rfl ⟨_, evl, fun nb' => ?_⟩))
        | refine wpA_region (fun K hK => ?_)
        | (refine gateD ?_; first | (refine wpA_drawG false rfl (by kernel_rfl) (by kernel_rfl) (fun K hK => ?_)) | (refine wpA_drawG true rfl (by kernel_rfl) (by kernel_rfl) (fun K hK => ?_)))
        | (refine wpA_cond' ⟨_, evl, fun hb => ?_, fun hb => ?_⟩ <;> (try simp only [Bool.or_eq_true, Bool.and_eq_true, Bool.or_eq_false_iff, Bool.and_eq_false_iff, Bool.not_eq_true', Bool.not_eq_false', Bool.not_eq_true, Bool.not_eq_false, decide_eq_true_eq, decide_eq_false_iff_not, Bool.true_eq_false, Bool.false_eq_true, ne_eq, Classical.not_not, Int.not_lt, Int.not_le, Bool.not_true, Bool.not_false] at hb))
      | fail
  all_goals (try (refine ret_of (by simp) ⟨_, _, _, evl, ob0, OutOk.sims ?_ (by first | (simp [AV.free, AV.freeL, go_sem]; done) | exact lA_free (fun _ => by simp [AV.free, AV.freeL, u8C, iC]) _ | (simp_all [AV.free, AV.freeL, sA, u8C, iC]; done))⟩))
  all_goals first | exact Sims.refl _ | (refine Sims.of_eq ?_; first | rfl | (simp [reqP]; done) | (simp_all [reqP]; done) | (simp_all [reqP]; omega) | (simp [reqP]; grind) | (split <;> simp_all)) | exact simsF | (refine Sims.tup ?_; simp only [SimsL, and_true]; (repeat' apply And.intro) <;> first | exact simsF | skip) | (exfalso; first | omega | (simp_all; done) | (simp_all; omega)) | skip
def replyP (r : Reply) : Prop := reqP r.host r.auth r.round ∧ (0 ≤ r.stamp.lo ∧ r.stamp.lo ≤ r.stamp.hi ∧ r.stamp.hi ≤ 3000000000000000) ∧ (0 ≤ r.key ∧ r.key ≤ 1000) ∧ (0 ≤ r.table ∧ r.table ≤ 1000) ∧ (0 ≤ r.sig.c ∧ r.sig.c ≤ 1073741788) ∧ 0 ≤ r.sig.s ∧ r.sig.s ≤ 1073741788
instance (r : Reply) : Decidable (replyP r) := by unfold replyP; infer_instance
theorem reply_A (r : Reply) : FnA Tryz.prog 183 [.agg r.av] (.raw (.bool (decide (replyP r)))) := by
  have hr := request_A ⟨r.host, r.auth, r.round, 0⟩
  simp only at hr
  refine fnA_of tblOk Tryz.func183 rfl (by kernel_rfl) 38 Tryz.ntmps183 (by simp only [List.length_cons, List.length_nil]; omega) [.tmp 2] rfl ?_
  simp only [entrySt, argSl, Nat.zero_add, Nat.reduceAdd]
  repeat'
    first
      | first
        | (refine runS_nil (hK _ ?_); clear hK K)
        | refine stG ?_
        | (refine gateS 1 rfl ?_; refine runS_call rfl rfl ⟨_, evl, _, _, _, evl, oblF, ?_⟩; apply Exists.intro; refine ⟨fun hg => ?_, ?_⟩; · first | exact FnA.at_ (hr) rfl rfl | exact FnA.at_ (pwithin_A _ _ _) rfl rfl | exact FnA.at_ (validI_A' _ _) rfl rfl | exact FnA.at_s (hr) rfl simT | exact FnA.at_s (hr) rfl simF | exact FnA.at_s (pwithin_A _ _ _) rfl simT | exact FnA.at_s (pwithin_A _ _ _) rfl simF | exact FnA.at_s (validI_A' _ _) rfl simT | exact FnA.at_s (validI_A' _ _) rfl simF)
        | (refine gateA 1 rfl ?_; refine runA_call rfl ⟨_, evl, _, _, _, (fun _ _ => evlA), oblF, ?_⟩; apply Exists.intro; refine ⟨fun hg => ?_, ?_⟩; · first | exact FnA.at_ (hr) rfl rfl | exact FnA.at_ (pwithin_A _ _ _) rfl rfl | exact FnA.at_ (validI_A' _ _) rfl rfl | exact FnA.at_s (hr) rfl simT | exact FnA.at_s (hr) rfl simF | exact FnA.at_s (pwithin_A _ _ _) rfl simT | exact FnA.at_s (pwithin_A _ _ _) rfl simF | exact FnA.at_s (validI_A' _ _) rfl simT | exact FnA.at_s (validI_A' _ _) rfl simF)
        | (refine gateA 1 rfl ?_; refine runA_put ?_)
        | (refine gateBc ?_; first | (refine runB_nil (hK _ ?_); clear hK K) | (refine runB_op rfl ⟨_, evl, fun nb' => ?_⟩))
        | refine wpA_region (fun K hK => ?_)
        | (refine gateD ?_; first | (refine wpA_drawG false rfl (by kernel_rfl) (by kernel_rfl) (fun K hK => ?_)) | (refine wpA_drawG true rfl (by kernel_rfl) (by kernel_rfl) (fun K hK => ?_)))
        | (refine wpA_cond' ⟨_, evl, fun hb => ?_, fun hb => ?_⟩ <;> (try simp only [Bool.or_eq_true, Bool.and_eq_true, Bool.or_eq_false_iff, Bool.and_eq_false_iff, Bool.not_eq_true', Bool.not_eq_false', Bool.not_eq_true, Bool.not_eq_false, decide_eq_true_eq, decide_eq_false_iff_not, Bool.true_eq_false, Bool.false_eq_true, ne_eq, Classical.not_not, Int.not_lt, Int.not_le, Bool.not_true, Bool.not_false] at hb))
      | fail
  all_goals (try (refine ret_of (by simp) ⟨_, _, _, evl, ob0, OutOk.sims ?_ (by first | (simp [AV.free, AV.freeL, go_sem]; done) | exact lA_free (fun _ => by simp [AV.free, AV.freeL, u8C, iC]) _ | (simp_all [AV.free, AV.freeL, sA, u8C, iC]; done))⟩))
  all_goals first | exact Sims.refl _ | (refine Sims.of_eq ?_; first | rfl | (simp [replyP]; done) | (simp_all [replyP]; done) | (simp_all [replyP]; omega) | (simp [replyP]; grind) | (split <;> simp_all)) | exact simsF | (refine Sims.tup ?_; simp only [SimsL, and_true]; (repeat' apply And.intro) <;> first | exact simsF | skip) | (exfalso; first | omega | (simp_all; done) | (simp_all; omega)) | skip
theorem hi_eq {n : Int} : n.fdiv (2 ^ min (Int.toNat 32) 64) = n / 4294967296 := by
  rw [Int.fdiv_eq_ediv_of_nonneg _ (by decide)]
  rfl
theorem lo_eq {n : Int} (h : inK .u64 n) : bitI .and .u64 n 4294967295 = n % 4294967296 := by
  simp only [inK] at h
  obtain ⟨x, rfl⟩ := Int.eq_ofNat_of_zero_le h.1
  have e : ((BitVec.ofInt 64 (x : Int) &&& BitVec.ofInt 64 4294967295).toNat : Int) = (x % 4294967296 : Nat) := by
    rw [BitVec.toNat_and, BitVec.toNat_ofInt, BitVec.toNat_ofInt]
    have e1 : ((x : Int) % ((2 ^ 64 : Nat) : Int)).toNat = x := by omega
    have e2 : ((4294967295 : Int) % ((2 ^ 64 : Nat) : Int)).toNat = 2 ^ 32 - 1 := by decide
    rw [e1, e2, Nat.and_two_pow_sub_one_eq_mod]
  show IntKind.u64.wrap _ = _
  rw [show IntKind.u64.bits = 64 from rfl, e]
  rw [inK_wrap (k := .u64) (by simp only [inK]; omega)]
  omega
theorem halves_A (n : Int) (hn : inK .u64 n) : FnA Tryz.prog 184 [.raw (.int .u64 n)] (.agg [.raw (.int .i64 (n / 4294967296)), .raw (.int .i64 (n % 4294967296))]) := by
  have h2 := lo_eq hn
  simp only [inK] at hn
  have h1 : inK .i64 (n.fdiv (2 ^ min (Int.toNat 32) 64)) := by rw [hi_eq]; simp only [inK]; omega
  have h3 : inK .i64 (bitI .and .u64 n 4294967295) := by rw [h2]; simp only [inK]; omega
  refine fnA_of tblOk Tryz.func184 rfl (by kernel_rfl) 10 Tryz.ntmps184 (by simp only [List.length_cons, List.length_nil]; omega) [.cell 2 211] rfl ?_
  simp only [entrySt, argSl, Nat.zero_add, Nat.reduceAdd]
  repeat'
    first
      | first
        | (refine runS_nil (hK _ ?_); clear hK K)
        | refine stG ?_
        | (refine gateA 1 rfl ?_; refine runA_put ?_)
        | (refine gateBc ?_; first | (refine runB_nil (hK _ ?_); clear hK K) | (refine runB_op rfl ⟨_, evl, fun nb' => ?_⟩))
        | refine wpA_region (fun K hK => ?_)
        | (refine gateD ?_; first | (refine wpA_drawG false rfl (by kernel_rfl) (by kernel_rfl) (fun K hK => ?_)) | (refine wpA_drawG true rfl (by kernel_rfl) (by kernel_rfl) (fun K hK => ?_)))
        | (refine wpA_cond' ⟨_, evl, fun hb => ?_, fun hb => ?_⟩ <;> (try simp only [Bool.or_eq_true, Bool.and_eq_true, Bool.or_eq_false_iff, Bool.and_eq_false_iff, Bool.not_eq_true', Bool.not_eq_false', Bool.not_eq_true, Bool.not_eq_false, decide_eq_true_eq, decide_eq_false_iff_not, Bool.true_eq_false, Bool.false_eq_true, ne_eq, Classical.not_not, Int.not_lt, Int.not_le, Bool.not_true, Bool.not_false] at hb))
      | fail
  refine ret_of (by simp) ⟨_, _, _, evl, ob0, OutOk.eq ?_ ?_⟩
  · rw [hi_eq, h2]
  · simp [AV.free, AV.freeL]
theorem kL_free (k : IntKind) (l : List Int) : (lA 1 (kC k) l).free := lA_free (fun x => show AV.freeL (kC k x) from ⟨trivial, trivial⟩) _
theorem pput_A (k : Int) (l : List Int) (h : l.length ≤ 1000) : FnA Tryz.prog 185 [.raw (.int .u8 k), liA l] (.tup [lA 1 (kC .u8) (k :: putsB l l.length), .raw (.int .i64 0)]) := by
  have hp := put_A l h
  have hl := putsB_len l l.length
  refine fnA_of tblOk Tryz.func185 rfl (by kernel_rfl) 20 Tryz.ntmps185 (by simp only [List.length_cons, List.length_nil]; omega) [.tmp 4, .tmp 5] rfl ?_
  simp only [entrySt, argSl, Nat.zero_add, Nat.reduceAdd]
  repeat'
    first
      | first
        | (refine runS_nil (hK _ ?_); clear hK K)
        | refine stR ?_
        | (refine gateS 1 rfl ?_; first | (refine runS_call rfl rfl ⟨_, evl, _, _, _, evl, oblF, ?_⟩; apply Exists.intro; refine ⟨fun hg => ?_, ?_⟩; · first | exact FnA.at_ (hp) rfl rfl | exact FnA.at_s (hp) rfl simT | exact FnA.at_s (hp) rfl simF) | (refine runS_callR rfl rfl ⟨_, evl, _, _, _, evl, _, _, evl, oblF, ?_⟩; apply Exists.intro; refine ⟨fun hg => ?_, ?_⟩; · first | exact FnA.at_ (hp) rfl rfl | exact FnA.at_s (hp) rfl simT | exact FnA.at_s (hp) rfl simF))
        | (refine gateA 1 rfl ?_; refine runA_call rfl ⟨_, evl, _, _, _, (fun _ _ => evlA), oblF, ?_⟩; apply Exists.intro; refine ⟨fun hg => ?_, ?_⟩; · first | exact FnA.at_ (hp) rfl rfl | exact FnA.at_s (hp) rfl simT | exact FnA.at_s (hp) rfl simF)
        | (refine gateA 1 rfl ?_; refine runA_put ?_)
        | (refine gateBc ?_; first | (refine runB_nil (hK _ ?_); clear hK K) | (refine runB_op rfl ⟨_, evl, fun nb' => ?_⟩))
        | refine wpA_region (fun K hK => ?_)
        | (refine gateD ?_; first | (refine wpA_drawG false rfl (by kernel_rfl) (by kernel_rfl) (fun K hK => ?_)) | (refine wpA_drawG true rfl (by kernel_rfl) (by kernel_rfl) (fun K hK => ?_)))
        | (refine wpA_cond' ⟨_, evl, fun hb => ?_, fun hb => ?_⟩ <;> (try simp only [Bool.or_eq_true, Bool.and_eq_true, Bool.or_eq_false_iff, Bool.and_eq_false_iff, Bool.not_eq_true', Bool.not_eq_false', Bool.not_eq_true, Bool.not_eq_false, decide_eq_true_eq, decide_eq_false_iff_not, Bool.true_eq_false, Bool.false_eq_true, ne_eq, Classical.not_not, Int.not_lt, Int.not_le, Bool.not_true, Bool.not_false] at hb))
      | fail
  refine ret_of (by simp) ⟨_, _, _, evl, ob0, ?_⟩
  refine OutOk.sims (Sims.tup (show SimsL _ _ [_, _] [_, _] from ⟨Sims.row rfl rfl rfl ?_ (fun i hi => ?_), Sims.refl _, trivial⟩)) ⟨kL_free _ _, trivial, trivial⟩
  · simp only [List.length_cons]; omega
  · cases i with
    | zero => rfl
    | succ i =>
      dsimp only
      rw [appEl_ge (Nat.le_add_left 1 i), Nat.add_sub_cancel]
      simp [els]
/-- The numbers of a reply. -/
def intsR (r : Reply) : List Int := [r.auth, r.host, r.round, r.nonce / 4294967296, r.nonce % 4294967296, r.stamp.lo, r.stamp.hi, r.key, r.table, r.sig.c, r.sig.s]
theorem putReply_A (r : Reply) (hf : r.fits) : FnA Tryz.prog 130 [.agg r.av] (if replyP r then .tup [lA 1 (kC .u8) (2 :: putsB (intsR r) 11), .raw (.int .i64 0)] else .tup [.raw (.slice none 0 0), .raw (.int .i64 1)]) := by
  have h1 := reply_A r
  have h2 := halves_A r.nonce hf.2.2.2.1
  have h3 := pput_A 2 (intsR r) (by simp [intsR])
  by_cases hr : replyP r
  · rw [if_pos hr]
    rw [decide_eq_true hr] at h1
    refine fnA_of tblOk Tryz.func130 rfl (by kernel_rfl) 41 Tryz.ntmps130 (by simp only [List.length_cons, List.length_nil]; omega) [.tmp 2, .tmp 3] rfl ?_
    simp only [entrySt, argSl, Nat.zero_add, Nat.reduceAdd]
    repeat'
      first
        | first
          | (refine runS_nil (hK _ ?_); clear hK K)
          | refine stG ?_
          | (refine gateS 1 rfl ?_; refine runS_call rfl rfl ⟨_, evl, _, _, _, evl, oblF, ?_⟩; apply Exists.intro; refine ⟨fun hg => ?_, ?_⟩; · first | exact FnA.at_ (h1) rfl rfl | exact FnA.at_ (h2) rfl rfl | exact FnA.at_ (h3) rfl rfl | exact FnA.at_s (h1) rfl simT | exact FnA.at_s (h1) rfl simF | exact FnA.at_s (h2) rfl simT | exact FnA.at_s (h2) rfl simF | exact FnA.at_s (h3) rfl simT | exact FnA.at_s (h3) rfl simF)
          | (refine gateA 1 rfl ?_; refine runA_call rfl ⟨_, evl, _, _, _, (fun _ _ => evlA), oblF, ?_⟩; apply Exists.intro; refine ⟨fun hg => ?_, ?_⟩; · first | exact FnA.at_ (h1) rfl rfl | exact FnA.at_ (h2) rfl rfl | exact FnA.at_ (h3) rfl rfl | exact FnA.at_s (h1) rfl simT | exact FnA.at_s (h1) rfl simF | exact FnA.at_s (h2) rfl simT | exact FnA.at_s (h2) rfl simF | exact FnA.at_s (h3) rfl simT | exact FnA.at_s (h3) rfl simF)
          | (refine gateA 1 rfl ?_; refine runA_put ?_)
          | (refine gateBc ?_; first | (refine runB_nil (hK _ ?_); clear hK K) | (refine runB_op rfl ⟨_, evl, fun nb' => ?_⟩))
          | refine wpA_region (fun K hK => ?_)
          | (refine gateD ?_; first | (refine wpA_drawG false rfl (by kernel_rfl) (by kernel_rfl) (fun K hK => ?_)) | (refine wpA_drawG true rfl (by kernel_rfl) (by kernel_rfl) (fun K hK => ?_)))
          | (refine wpA_cond' ⟨_, evl, fun hb => ?_, fun hb => ?_⟩ <;> (try simp only [Bool.or_eq_true, Bool.and_eq_true, Bool.or_eq_false_iff, Bool.and_eq_false_iff, Bool.not_eq_true', Bool.not_eq_false', Bool.not_eq_true, Bool.not_eq_false, decide_eq_true_eq, decide_eq_false_iff_not, Bool.true_eq_false, Bool.false_eq_true, ne_eq, Classical.not_not, Int.not_lt, Int.not_le, Bool.not_true, Bool.not_false] at hb))
        | fail
    refine ret_of (by simp) ⟨_, _, _, evl, ob0, OutOk.eq ?_ ?_⟩
    · rfl
    · exact ⟨kL_free .u8 (2 :: putsB (intsR r) 11), trivial, trivial⟩
  · rw [if_neg hr]
    rw [decide_eq_false hr] at h1
    refine fnA_of tblOk Tryz.func130 rfl (by kernel_rfl) 41 Tryz.ntmps130 (by simp only [List.length_cons, List.length_nil]; omega) [.tmp 2, .tmp 3] rfl ?_
    simp only [entrySt, argSl, Nat.zero_add, Nat.reduceAdd]
    repeat'
      first
        | first
          | (refine runS_nil (hK _ ?_); clear hK K)
          | refine stG ?_
          | (refine gateS 1 rfl ?_; refine runS_call rfl rfl ⟨_, evl, _, _, _, evl, oblF, ?_⟩; apply Exists.intro; refine ⟨fun hg => ?_, ?_⟩; · first | exact FnA.at_ (h1) rfl rfl | exact FnA.at_s (h1) rfl simT | exact FnA.at_s (h1) rfl simF)
          | (refine gateA 1 rfl ?_; refine runA_call rfl ⟨_, evl, _, _, _, (fun _ _ => evlA), oblF, ?_⟩; apply Exists.intro; refine ⟨fun hg => ?_, ?_⟩; · first | exact FnA.at_ (h1) rfl rfl | exact FnA.at_s (h1) rfl simT | exact FnA.at_s (h1) rfl simF)
          | (refine gateA 1 rfl ?_; refine runA_put ?_)
          | (refine gateBc ?_; first | (refine runB_nil (hK _ ?_); clear hK K) | (refine runB_op rfl ⟨_, evl, fun nb' => ?_⟩))
          | refine wpA_region (fun K hK => ?_)
          | (refine gateD ?_; first | (refine wpA_drawG false rfl (by kernel_rfl) (by kernel_rfl) (fun K hK => ?_)) | (refine wpA_drawG true rfl (by kernel_rfl) (by kernel_rfl) (fun K hK => ?_)))
          | (refine wpA_cond' ⟨_, evl, fun hb => ?_, fun hb => ?_⟩ <;> (try simp only [Bool.or_eq_true, Bool.and_eq_true, Bool.or_eq_false_iff, Bool.and_eq_false_iff, Bool.not_eq_true', Bool.not_eq_false', Bool.not_eq_true, Bool.not_eq_false, decide_eq_true_eq, decide_eq_false_iff_not, Bool.true_eq_false, Bool.false_eq_true, ne_eq, Classical.not_not, Int.not_lt, Int.not_le, Bool.not_true, Bool.not_false] at hb))
        | fail
    refine ret_of (by simp) ⟨_, _, _, evl, ob0, OutOk.eq ?_ ?_⟩
    · rfl
    · simp [AV.free, AV.freeL]
theorem rvalid_A (r : Reply) (hf : r.fits) : FnA Tryz.prog 59 [.agg r.av] (.raw (.bool (decide (replyP r)))) := by
  have h := putReply_A r hf
  by_cases hr : replyP r
  · rw [if_pos hr] at h
    rw [decide_eq_true hr]
    have hl : (lA 1 (kC .u8) (2 :: putsB (intsR r) 11)).free := kL_free _ _
    generalize lA 1 (kC .u8) (2 :: putsB (intsR r) 11) = L at *
    refine fnA_of tblOk Tryz.func59 rfl (by kernel_rfl) 12 Tryz.ntmps59 (by simp only [List.length_cons, List.length_nil]; omega) [.tmp 2] rfl ?_
    simp only [entrySt, argSl, Nat.zero_add, Nat.reduceAdd]
    repeat'
      first
        | first
          | (refine runS_nil (hK _ ?_); clear hK K)
          | refine stG ?_
          | (refine gateS 1 rfl ?_; refine runS_call rfl rfl ⟨_, evl, _, _, _, evl, oblF, ?_⟩; apply Exists.intro; refine ⟨fun hg => ?_, ?_⟩; · first | exact FnA.at_ (h) rfl rfl | exact FnA.at_s (h) rfl simT | exact FnA.at_s (h) rfl simF)
          | (refine gateA 1 rfl ?_; refine runA_call rfl ⟨_, evl, _, _, _, (fun _ _ => evlA), oblF, ?_⟩; apply Exists.intro; refine ⟨fun hg => ?_, ?_⟩; · first | exact FnA.at_ (h) rfl rfl | exact FnA.at_s (h) rfl simT | exact FnA.at_s (h) rfl simF)
          | (refine gateA 1 rfl ?_; refine runA_put ?_)
          | (refine gateBc ?_; first | (refine runB_nil (hK _ ?_); clear hK K) | (refine runB_op rfl ⟨_, evl, fun nb' => ?_⟩))
          | refine wpA_region (fun K hK => ?_)
          | (refine gateD ?_; first | (refine wpA_drawG false rfl (by kernel_rfl) (by kernel_rfl) (fun K hK => ?_)) | (refine wpA_drawG true rfl (by kernel_rfl) (by kernel_rfl) (fun K hK => ?_)))
          | (refine wpA_cond' ⟨_, evl, fun hb => ?_, fun hb => ?_⟩ <;> (try simp only [Bool.or_eq_true, Bool.and_eq_true, Bool.or_eq_false_iff, Bool.and_eq_false_iff, Bool.not_eq_true', Bool.not_eq_false', Bool.not_eq_true, Bool.not_eq_false, decide_eq_true_eq, decide_eq_false_iff_not, Bool.true_eq_false, Bool.false_eq_true, ne_eq, Classical.not_not, Int.not_lt, Int.not_le, Bool.not_true, Bool.not_false] at hb))
        | fail
    all_goals (try (refine ret_of (by simp) ⟨_, _, _, evl, ob0, OutOk.sims ?_ (by first | (simp [AV.free, AV.freeL, go_sem]; done) | exact lA_free (fun _ => by simp [AV.free, AV.freeL, u8C, iC]) _ | (simp_all [AV.free, AV.freeL, sA, u8C, iC]; done))⟩))
    all_goals first | exact Sims.refl _ | (refine Sims.of_eq ?_; first | rfl | (simp []; done) | (simp_all []; done) | (simp_all []; omega) | (simp []; grind) | (split <;> simp_all)) | exact simsF | (refine Sims.tup ?_; simp only [SimsL, and_true]; (repeat' apply And.intro) <;> first | exact simsF | skip) | (exfalso; first | omega | (simp_all; done) | (simp_all; omega)) | skip
  · rw [if_neg hr] at h
    rw [decide_eq_false hr]
    refine fnA_of tblOk Tryz.func59 rfl (by kernel_rfl) 12 Tryz.ntmps59 (by simp only [List.length_cons, List.length_nil]; omega) [.tmp 2] rfl ?_
    simp only [entrySt, argSl, Nat.zero_add, Nat.reduceAdd]
    repeat'
      first
        | first
          | (refine runS_nil (hK _ ?_); clear hK K)
          | refine stG ?_
          | (refine gateS 1 rfl ?_; refine runS_call rfl rfl ⟨_, evl, _, _, _, evl, oblF, ?_⟩; apply Exists.intro; refine ⟨fun hg => ?_, ?_⟩; · first | exact FnA.at_ (h) rfl rfl | exact FnA.at_s (h) rfl simT | exact FnA.at_s (h) rfl simF)
          | (refine gateA 1 rfl ?_; refine runA_call rfl ⟨_, evl, _, _, _, (fun _ _ => evlA), oblF, ?_⟩; apply Exists.intro; refine ⟨fun hg => ?_, ?_⟩; · first | exact FnA.at_ (h) rfl rfl | exact FnA.at_s (h) rfl simT | exact FnA.at_s (h) rfl simF)
          | (refine gateA 1 rfl ?_; refine runA_put ?_)
          | (refine gateBc ?_; first | (refine runB_nil (hK _ ?_); clear hK K) | (refine runB_op rfl ⟨_, evl, fun nb' => ?_⟩))
          | refine wpA_region (fun K hK => ?_)
          | (refine gateD ?_; first | (refine wpA_drawG false rfl (by kernel_rfl) (by kernel_rfl) (fun K hK => ?_)) | (refine wpA_drawG true rfl (by kernel_rfl) (by kernel_rfl) (fun K hK => ?_)))
          | (refine wpA_cond' ⟨_, evl, fun hb => ?_, fun hb => ?_⟩ <;> (try simp only [Bool.or_eq_true, Bool.and_eq_true, Bool.or_eq_false_iff, Bool.and_eq_false_iff, Bool.not_eq_true', Bool.not_eq_false', Bool.not_eq_true, Bool.not_eq_false, decide_eq_true_eq, decide_eq_false_iff_not, Bool.true_eq_false, Bool.false_eq_true, ne_eq, Classical.not_not, Int.not_lt, Int.not_le, Bool.not_true, Bool.not_false] at hb))
        | fail
    all_goals (try (refine ret_of (by simp) ⟨_, _, _, evl, ob0, OutOk.sims ?_ (by first | (simp [AV.free, AV.freeL, go_sem]; done) | exact lA_free (fun _ => by simp [AV.free, AV.freeL, u8C, iC]) _ | (simp_all [AV.free, AV.freeL, sA, u8C, iC]; done))⟩))
    all_goals first | exact Sims.refl _ | (refine Sims.of_eq ?_; first | rfl | (simp []; done) | (simp_all []; done) | (simp_all []; omega) | (simp []; grind) | (split <;> simp_all)) | exact simsF | (refine Sims.tup ?_; simp only [SimsL, and_true]; (repeat' apply And.intro) <;> first | exact simsF | skip) | (exfalso; first | omega | (simp_all; done) | (simp_all; omega)) | skip
def msgR (r : Reply) : List Int := [r.auth, r.host, r.round, r.nonce / 4294967296, r.nonce % 4294967296, r.stamp.lo, r.stamp.hi, r.key, r.table]
theorem rmessage_A (r : Reply) (hn : inK .u64 r.nonce) : FnA Tryz.prog 16 [.agg r.av] (liA (msgR r)) := by
  have h2 := lo_eq hn
  simp only [inK] at hn
  have h1 : inK .i64 (r.nonce.fdiv (2 ^ min (Int.toNat 32) 64)) := by rw [hi_eq]; simp only [inK]; omega
  have h3 : inK .i64 (bitI .and .u64 r.nonce 4294967295) := by rw [h2]; simp only [inK]; omega
  refine fnA_of tblOk Tryz.func16 rfl (by kernel_rfl) 28 Tryz.ntmps16 (by simp only [List.length_cons, List.length_nil]; omega) [.tmp 2] rfl ?_
  simp only [entrySt, argSl, Nat.zero_add, Nat.reduceAdd]
  repeat'
    first
      | first
        | (refine runS_nil (hK _ ?_); clear hK K)
        | refine stG ?_
        | (refine gateA 1 rfl ?_; refine runA_put ?_)
        | (refine gateBc ?_; first | (refine runB_nil (hK _ ?_); clear hK K) | (refine runB_op rfl ⟨_, evl, fun nb' => ?_⟩))
        | refine wpA_region (fun K hK => ?_)
        | (refine gateD ?_; first | (refine wpA_drawG false rfl (by kernel_rfl) (by kernel_rfl) (fun K hK => ?_)) | (refine wpA_drawG true rfl (by kernel_rfl) (by kernel_rfl) (fun K hK => ?_)))
        | (refine wpA_cond' ⟨_, evl, fun hb => ?_, fun hb => ?_⟩ <;> (try simp only [Bool.or_eq_true, Bool.and_eq_true, Bool.or_eq_false_iff, Bool.and_eq_false_iff, Bool.not_eq_true', Bool.not_eq_false', Bool.not_eq_true, Bool.not_eq_false, decide_eq_true_eq, decide_eq_false_iff_not, Bool.true_eq_false, Bool.false_eq_true, ne_eq, Classical.not_not, Int.not_lt, Int.not_le, Bool.not_true, Bool.not_false] at hb))
      | fail
  rw [hi_eq, h2]
  refine ret_of (by simp) ⟨_, _, _, evl, ob0, OutOk.sims ?_ (by first | (simp [AV.free, AV.freeL, go_sem]; done) | exact lA_free (fun _ => by simp [AV.free, AV.freeL, u8C, iC]) _ | (simp_all [AV.free, AV.freeL, sA, u8C, iC]; done))⟩
  exact (Sim.lstE rfl fun i hi => chunk_lit (enc := iC) (l := msgR r) (fun _ => rfl) rfl hi).s
end Go.Proofs.YtihnjbnlbedpaaaGreatDoor
