/- package reply: find, wired, round. -/
import Derived.Test.YtihnjbnlbedpaaaGreatDoorLkA
import Derived.Test.YtihnjbnlbedpaaaGreatDoorRp
namespace Go.Proofs.YtihnjbnlbedpaaaGreatDoor
set_option linter.unusedVariables false
set_option linter.unusedSimpArgs false
set_option maxHeartbeats 4000000
set_option maxRecDepth 100000
open Go.RowKit
structure Wire where
  host : Int
  auth : Int
  changes : List Change
  deriving Inhabited, DecidableEq
@[go_sem] def Wire.av (x : Wire) : List AV := [.raw (.int .i64 x.host), .raw (.int .i64 x.auth), lA 5 Change.av x.changes]
def Wire.fits (x : Wire) : Prop := (inK .i64 x.host) ∧ (inK .i64 x.auth) ∧ (x.changes.length ≤ maxLen ∧ ∀ y ∈ x.changes, y.fits)
@[simp] theorem Wire.free (x : Wire) : AV.freeL x.av := ⟨trivial, trivial, lA_free (fun y => Change.free y) _, trivial⟩
def isW (h a : Int) (w : Wire) : Bool := decide (w.host = h) && decide (w.auth = a)
theorem endsOf_A (w : Wire) : FnA Tryz.prog 70 [.agg w.av] (.agg [.raw (.int .i64 w.host), .raw (.int .i64 w.auth)]) := by
  refine fnA_of tblOk Tryz.func70 rfl (by kernel_rfl) 8 Tryz.ntmps70 (by simp only [List.length_cons, List.length_nil]; omega) [.cell 2 124] rfl ?_
  simp only [entrySt, argSl, Nat.zero_add, Nat.reduceAdd]
  repeat'
    first
      | first
        | (refine runS_nil (hK _ ?_); clear hK K)
        | refine stG ?_
        | (refine gateA 1 rfl ?_; refine runA_put ?_)
        | (refine gateBc ?_; first | (refine runB_nil (hK _ ?_); clear hK K) | (refine runB_op rfl ⟨_, evl, fun nb' => ?_⟩))
        | refine wpA_region (fun K hK => ?_)
        | (refine gateD ?_; first | (refine wpA_drawG false rfl (by kernel_rfl) (by kernel_rfl) (fun K hK => ?_)) | (refine wpA_drawG true rfl (by kernel_rfl) (by kernel_rfl) (fun K hK => ?_)))
        | (refine wpA_cond' ⟨_, evl, fun hb => ?_, fun hb => ?_⟩ <;> (try simp only [Bool.or_eq_true, Bool.and_eq_true, Bool.or_eq_false_iff, Bool.and_eq_false_iff, Bool.not_eq_true', Bool.not_eq_false', Bool.not_eq_true, Bool.not_eq_false, decide_eq_true_eq, decide_eq_false_iff_not, Bool.true_eq_false, Bool.false_eq_true, ne_eq, Classical.not_not, Int.not_lt, Int.not_le, Bool.not_true, Bool.not_false] at hb))
      | fail
  refine ret_of (by simp) ⟨_, _, _, evl, ob0, OutOk.eq ?_ ?_⟩
  · rfl
  · simp [AV.free, AV.freeL]
abbrev endsF : AV := .raw (.func (.func 70) #[] #[])
theorem find1_G (w : Wire) (h a : Int) : FnG Tryz.prog 140 [.agg w.av, .box 0 0, .box 1 0] [[endsF], [.raw (.int .i64 h), .raw (.int .i64 a)]] [] (.raw (.bool (isW h a w))) [[endsF], [.raw (.int .i64 h), .raw (.int .i64 a)]] [] := by
  have he := endsOf_A w
  refine fnG_of tblOk Tryz.func140 rfl (by kernel_rfl) 10 Tryz.ntmps140 (by simp only [List.length_cons, List.length_nil]; omega) [.tmp 4] rfl 2 (by simp) ?_
  simp only [entryG, argSl, Nat.zero_add, Nat.reduceAdd, List.length_cons, List.length_nil]
  repeat'
    first
      | first
        | (refine runS_nil (hK _ ?_); clear hK K)
        | refine stG ?_
        | (refine gateS 1 rfl ?_; refine runS_call rfl rfl ⟨_, evl, _, _, _, evl, oblF, ?_⟩; apply Exists.intro; refine ⟨fun hg => ?_, ?_⟩; · first | exact FnA.at_ (he) rfl rfl | exact FnA.at_s (he) rfl simT | exact FnA.at_s (he) rfl simF)
        | (refine gateA 1 rfl ?_; refine runA_call rfl ⟨_, evl, _, _, _, (fun _ _ => evlA), oblF, ?_⟩; apply Exists.intro; refine ⟨fun hg => ?_, ?_⟩; · first | exact FnA.at_ (he) rfl rfl | exact FnA.at_s (he) rfl simT | exact FnA.at_s (he) rfl simF)
        | (refine gateA 1 rfl ?_; refine runA_put ?_)
        | (refine gateBc ?_; first | (refine runB_nil (hK _ ?_); clear hK K) | (refine runB_op rfl ⟨_, evl, fun nb' => ?_⟩))
        | refine wpA_region (fun K hK => ?_)
        | (refine gateD ?_; first | (refine wpA_drawG false rfl (by kernel_rfl) (by kernel_rfl) (fun K hK => ?_)) | (refine wpA_drawG true rfl (by kernel_rfl) (by kernel_rfl) (fun K hK => ?_)))
        | (refine wpA_cond' ⟨_, evl, fun hb => ?_, fun hb => ?_⟩ <;> (try simp only [Bool.or_eq_true, Bool.and_eq_true, Bool.or_eq_false_iff, Bool.and_eq_false_iff, Bool.not_eq_true', Bool.not_eq_false', Bool.not_eq_true, Bool.not_eq_false, decide_eq_true_eq, decide_eq_false_iff_not, Bool.true_eq_false, Bool.false_eq_true, ne_eq, Classical.not_not, Int.not_lt, Int.not_le, Bool.not_true, Bool.not_false] at hb))
      | fail
  all_goals (refine retG_of (by simp) ⟨_, _, _, evl, obq, OutG.bel ?_ obb, by simp, ?_, rfl, obb, obb⟩)
  all_goals first | rfl | (simp [isW]; done) | (simp_all [isW]; done) | (simp_all [isW]; omega) | (simp [isW]; grind) | (split <;> simp_all) | skip
theorem indexW_G (l : List Wire) (hl : l.length ≤ 4611686018427387904) (h a : Int) : FnG Tryz.prog 139 [lA 3 Wire.av l, .fn (.func 140) [] [.box 0 0, .box 1 0]] [[endsF], [.raw (.int .i64 h), .raw (.int .i64 a)]] [] (.raw (.int .i64 (idxM (isW h a) l))) [[endsF], [.raw (.int .i64 h), .raw (.int .i64 a)]] [] := by
  refine fnG_of tblOk Tryz.func139 rfl (by kernel_rfl) 19 Tryz.ntmps139 (by simp only [List.length_cons, List.length_nil]; omega) [.tmp 4] rfl 2 (by simp) ?_
  simp only [entryG, argSl, Nat.zero_add, Nat.reduceAdd, List.length_cons, List.length_nil]
  repeat
    first
      | (refine runS_nil (hK _ ?_); clear hK K)
      | refine stG ?_
      | (refine gateA 1 rfl ?_; refine runA_put ?_)
      | (refine gateBc ?_; first | (refine runB_nil (hK _ ?_); clear hK K) | (refine runB_op rfl ⟨_, evl, fun nb' => ?_⟩))
      | refine wpA_region (fun K hK => ?_)
      | (refine gateD ?_; first | (refine wpA_drawG false rfl (by kernel_rfl) (by kernel_rfl) (fun K hK => ?_)) | (refine wpA_drawG true rfl (by kernel_rfl) (by kernel_rfl) (fun K hK => ?_)))
  refine wpA_loop (fun k : Nat => ⟨19, 2, [(0, true, lA 3 Wire.av l), (1, true, .fn (.func 140) [] [.box 0 0, .box 1 0]), (7, true, .raw (.int .i64 l.length)), (8, true, .raw (.int .i64 k))], [[endsF], [.raw (.int .i64 h), .raw (.int .i64 a)]], [], ((0, []), [], true)⟩)
    (fun k => k ≤ l.length ∧ ∀ i, i < k → isW h a (l.getD i default) = false) (fun k => l.length - k) 0 ?_ ⟨by omega, fun i h => by omega⟩ ?_
  · refine Weak.gen ?_ ?_ ?_ (by simp) ?_
    rotate_left 3
    · first | (simp [subSl, subB, subR, AV.sub, AV.subL, go_sem]; done) | (simp [subSl, subB, subR, AV.sub, AV.subL, go_sem, AV.subL_free, AV.sub_free, *]; done) | (simp_all [subSl, subB, subR, AV.sub, AV.subL, go_sem]; done)
    all_goals (try simp only [SlSim, BxSim, RwSim, SimsL, lookN_cons, ↓reduceIte, Nat.reduceEqDiff, Option.some.injEq, Prod.mk.injEq, true_and, and_true, exists_eq_left', and_self])
    all_goals (try trivial)
    all_goals ((repeat' apply And.intro) <;> first | exact simsT | (intro _ _; exact simsT) | omega | (simp; done) | (simp; omega) | (intro _ _; refine SimsL.of_eq (els_snoc ?_ (by assumption) rfl) <;> first | rfl | omega | (simp; done) | (simp; omega)) | skip)
  · rintro k ⟨hk, hall⟩
    have hpk := find1_G (l.getD k default) h a
    repeat
      first
        | (refine runS_nil (hK _ ?_); clear hK K)
        | refine stG ?_
        | (refine gateA 1 rfl ?_; refine runA_put ?_)
        | (refine gateBc ?_; first | (refine runB_nil (hK _ ?_); clear hK K) | (refine runB_op rfl ⟨_, evl, fun nb' => ?_⟩))
        | refine wpA_region (fun K hK => ?_)
        | (refine gateD ?_; first | (refine wpA_drawG false rfl (by kernel_rfl) (by kernel_rfl) (fun K hK => ?_)) | (refine wpA_drawG true rfl (by kernel_rfl) (by kernel_rfl) (fun K hK => ?_)))
    refine wpA_cond' ⟨_, evl, fun hlt => ?_, fun hge => ?_⟩
    · simp only [decide_eq_true_eq] at hlt
      repeat
        first
          | (refine runS_nil (hK _ ?_); clear hK K)
          | refine stG ?_
          | (refine gateA 1 rfl ?_; refine runA_put ?_)
          | (refine gateBc ?_; first | (refine runB_nil (hK _ ?_); clear hK K) | (refine runB_op rfl ⟨_, evl, fun nb' => ?_⟩))
          | refine wpA_region (fun K hK => ?_)
          | (refine gateD ?_; first | (refine wpA_drawG false rfl (by kernel_rfl) (by kernel_rfl) (fun K hK => ?_)) | (refine wpA_drawG true rfl (by kernel_rfl) (by kernel_rfl) (fun K hK => ?_)))
      refine sCallG [0, 1] [] (hpk) rfl rfl rfl ⟨_, evl, _, evl, _, evl, obl, by decide, by decide, by first | trivial | exact ⟨rfl, trivial⟩ | exact ⟨rfl, rfl, trivial⟩ | exact ⟨rfl, rfl, rfl, trivial⟩ | simp [handL, AV.renL, AV.ren, ARow.ren], by first | trivial | exact ⟨rfl, trivial⟩ | exact ⟨rfl, rfl, trivial⟩ | exact ⟨rfl, rfl, rfl, trivial⟩ | simp [handL, AV.renL, AV.ren, ARow.ren], (by first | (simp [AV.subL, AV.sub]; done) | (simp only [List.forall_mem_cons, List.not_mem_nil, false_implies, implies_true, and_true, true_and, AV.subL, AV.sub, List.length_cons, List.length_nil, Nat.zero_add, Nat.reduceAdd]; (repeat' apply And.intro) <;> first | trivial | omega | (simp; done) | (refine AV.sub_free _ ?_; exact lA_free (fun _ => by simp) _) | (refine AV.subL_free _ ?_; simp; done) | (intro r hr; cases hr; done))), _, evl, _, evl, _, evl, ?_⟩
      repeat
        first
          | (refine runS_nil (hK _ ?_); clear hK K)
          | refine stG ?_
          | (refine gateA 1 rfl ?_; refine runA_put ?_)
          | (refine gateBc ?_; first | (refine runB_nil (hK _ ?_); clear hK K) | (refine runB_op rfl ⟨_, evl, fun nb' => ?_⟩))
          | refine wpA_region (fun K hK => ?_)
          | (refine gateD ?_; first | (refine wpA_drawG false rfl (by kernel_rfl) (by kernel_rfl) (fun K hK => ?_)) | (refine wpA_drawG true rfl (by kernel_rfl) (by kernel_rfl) (fun K hK => ?_)))
      refine wpA_cond' ⟨_, evl, fun hb => ?_, fun hb => ?_⟩
      · repeat
          first
            | (refine runS_nil (hK _ ?_); clear hK K)
            | refine stG ?_
            | (refine gateA 1 rfl ?_; refine runA_put ?_)
            | (refine gateBc ?_; first | (refine runB_nil (hK _ ?_); clear hK K) | (refine runB_op rfl ⟨_, evl, fun nb' => ?_⟩))
            | refine wpA_region (fun K hK => ?_)
            | (refine gateD ?_; first | (refine wpA_drawG false rfl (by kernel_rfl) (by kernel_rfl) (fun K hK => ?_)) | (refine wpA_drawG true rfl (by kernel_rfl) (by kernel_rfl) (fun K hK => ?_)))
        rw [idxM_hit (show k < l.length by omega) hall hb]
        all_goals (refine retG_of (by simp) ⟨_, _, _, evl, obq, OutG.bel ?_ obb, by simp, ?_, rfl, obb, obb⟩)
        all_goals first | rfl | (simp []; done) | (simp_all []; done) | (simp_all []; omega) | (simp []; grind) | (split <;> simp_all) | skip
      · repeat
          first
            | (refine runS_nil (hK _ ?_); clear hK K)
            | refine stG ?_
            | (refine gateA 1 rfl ?_; refine runA_put ?_)
            | (refine gateBc ?_; first | (refine runB_nil (hK _ ?_); clear hK K) | (refine runB_op rfl ⟨_, evl, fun nb' => ?_⟩))
            | refine wpA_region (fun K hK => ?_)
            | (refine gateD ?_; first | (refine wpA_drawG false rfl (by kernel_rfl) (by kernel_rfl) (fun K hK => ?_)) | (refine wpA_drawG true rfl (by kernel_rfl) (by kernel_rfl) (fun K hK => ?_)))
        refine ⟨k + 1, ⟨by omega, fun i hi => ?_⟩, by omega, ?_⟩
        · rcases Nat.lt_succ_iff_lt_or_eq.1 hi with h | rfl
          · exact hall i h
          · exact hb
        · refine Weak.gen ?_ ?_ ?_ (by simp) ?_
          rotate_left 3
          · first | (simp [subSl, subB, subR, AV.sub, AV.subL, go_sem]; done) | (simp [subSl, subB, subR, AV.sub, AV.subL, go_sem, AV.subL_free, AV.sub_free, *]; done) | (simp_all [subSl, subB, subR, AV.sub, AV.subL, go_sem]; done)
          all_goals (try simp only [SlSim, BxSim, RwSim, SimsL, lookN_cons, ↓reduceIte, Nat.reduceEqDiff, Option.some.injEq, Prod.mk.injEq, true_and, and_true, exists_eq_left', and_self])
          all_goals (try trivial)
          all_goals ((repeat' apply And.intro) <;> first | exact simsT | (intro _ _; exact simsT) | omega | (simp; done) | (simp; omega) | (intro _ _; refine SimsL.of_eq (els_snoc ?_ (by assumption) rfl) <;> first | rfl | omega | (simp; done) | (simp; omega)) | skip)
    · simp only [decide_eq_false_iff_not] at hge
      repeat
        first
          | (refine runS_nil (hK _ ?_); clear hK K)
          | refine stG ?_
          | (refine gateA 1 rfl ?_; refine runA_put ?_)
          | (refine gateBc ?_; first | (refine runB_nil (hK _ ?_); clear hK K) | (refine runB_op rfl ⟨_, evl, fun nb' => ?_⟩))
          | refine wpA_region (fun K hK => ?_)
          | (refine gateD ?_; first | (refine wpA_drawG false rfl (by kernel_rfl) (by kernel_rfl) (fun K hK => ?_)) | (refine wpA_drawG true rfl (by kernel_rfl) (by kernel_rfl) (fun K hK => ?_)))
      rw [idxM_none (fun i hi => hall i (by omega))]
      all_goals (refine retG_of (by simp) ⟨_, _, _, evl, obq, OutG.bel ?_ obb, by simp, ?_, rfl, obb, obb⟩)
      all_goals first | rfl | (simp []; done) | (simp_all []; done) | (simp_all []; omega) | (simp []; grind) | (split <;> simp_all) | skip
/-- The wire of a host to an authority. -/
def findW (l : List Wire) (h a : Int) : Wire × Bool := if idxM (isW h a) l < 0 then (⟨0, 0, []⟩, false) else (l.getD (idxM (isW h a) l).toNat default, true)
theorem idxM_range {α : Type} (p : α → Bool) (l : List α) : -1 ≤ idxM p l ∧ idxM p l < l.length := by
  unfold idxM
  split
  · rename_i i h
    have := (List.findIdx?_eq_some_iff_findIdx_eq.1 h).1
    omega
  · omega
theorem findW_A (l : List Wire) (hl : l.length ≤ 4611686018427387904) (h a : Int) : FnA Tryz.prog 69 [lA 3 Wire.av l, endsF, .agg [.raw (.int .i64 h), .raw (.int .i64 a)]] (.tup [.agg (findW l h a).1.av, .raw (.bool (findW l h a).2)]) := by
  have hi := indexW_G l hl h a
  have hr := idxM_range (isW h a) l
  unfold findW
  generalize idxM (isW h a) l = q at *
  refine fnA_of tblOk Tryz.func69 rfl (by kernel_rfl) 20 Tryz.ntmps69 (by simp only [List.length_cons, List.length_nil]; omega) [.cell 6 71, .tmp 7] rfl ?_
  simp only [entrySt, argSl, Nat.zero_add, Nat.reduceAdd]
  repeat
    first
      | (refine runS_nil (hK _ ?_); clear hK K)
      | refine stG ?_
      | (refine gateA 1 rfl ?_; refine runA_put ?_)
      | (refine gateBc ?_; first | (refine runB_nil (hK _ ?_); clear hK K) | (refine runB_op rfl ⟨_, evl, fun nb' => ?_⟩))
      | refine wpA_region (fun K hK => ?_)
      | (refine gateD ?_; first | (refine wpA_drawG false rfl (by kernel_rfl) (by kernel_rfl) (fun K hK => ?_)) | (refine wpA_drawG true rfl (by kernel_rfl) (by kernel_rfl) (fun K hK => ?_)))
  refine sCallG [0, 1] [] (hi) rfl rfl rfl ⟨_, evl, _, evl, _, evl, obl, by decide, by decide, by first | trivial | exact ⟨rfl, trivial⟩ | exact ⟨rfl, rfl, trivial⟩ | exact ⟨rfl, rfl, rfl, trivial⟩ | simp [handL, AV.renL, AV.ren, ARow.ren], by first | trivial | exact ⟨rfl, trivial⟩ | exact ⟨rfl, rfl, trivial⟩ | exact ⟨rfl, rfl, rfl, trivial⟩ | simp [handL, AV.renL, AV.ren, ARow.ren], (by first | (simp [AV.subL, AV.sub]; done) | (simp only [List.forall_mem_cons, List.not_mem_nil, false_implies, implies_true, and_true, true_and, AV.subL, AV.sub, List.length_cons, List.length_nil, Nat.zero_add, Nat.reduceAdd]; (repeat' apply And.intro) <;> first | trivial | omega | (simp; done) | (refine AV.sub_free _ ?_; exact lA_free (fun _ => by simp) _) | (refine AV.subL_free _ ?_; simp; done) | (intro r hr; cases hr; done))), _, evl, _, evl, _, evl, ?_⟩
  repeat
    first
      | (refine runS_nil (hK _ ?_); clear hK K)
      | refine stG ?_
      | (refine gateA 1 rfl ?_; refine runA_put ?_)
      | (refine gateBc ?_; first | (refine runB_nil (hK _ ?_); clear hK K) | (refine runB_op rfl ⟨_, evl, fun nb' => ?_⟩))
      | refine wpA_region (fun K hK => ?_)
      | (refine gateD ?_; first | (refine wpA_drawG false rfl (by kernel_rfl) (by kernel_rfl) (fun K hK => ?_)) | (refine wpA_drawG true rfl (by kernel_rfl) (by kernel_rfl) (fun K hK => ?_)))
  refine wpA_cond' ⟨_, evl, fun hb => ?_, fun hb => ?_⟩
  · simp only [decide_eq_true_eq] at hb
    rw [if_pos hb]
    repeat
      first
        | (refine runS_nil (hK _ ?_); clear hK K)
        | refine stG ?_
        | (refine gateA 1 rfl ?_; refine runA_put ?_)
        | (refine gateBc ?_; first | (refine runB_nil (hK _ ?_); clear hK K) | (refine runB_op rfl ⟨_, evl, fun nb' => ?_⟩))
        | refine wpA_region (fun K hK => ?_)
        | (refine gateD ?_; first | (refine wpA_drawG false rfl (by kernel_rfl) (by kernel_rfl) (fun K hK => ?_)) | (refine wpA_drawG true rfl (by kernel_rfl) (by kernel_rfl) (fun K hK => ?_)))
    refine ret_of (by simp) ⟨_, _, _, evl, ob0, OutOk.sims ?_ (by first | (simp [AV.free, AV.freeL, go_sem]; done) | exact lA_free (fun _ => by simp [AV.free, AV.freeL, u8C, iC]) _ | (simp_all [AV.free, AV.freeL, sA, u8C, iC]; done))⟩
    exact Sims.tup (show SimsL _ _ [_, _] [_, _] from ⟨Sims.agg (show SimsL _ _ [_, _, _] [_, _, _] from ⟨Sims.refl _, Sims.refl _, (Sim.nil rfl).s, trivial⟩), Sims.refl _, trivial⟩)
  · simp only [decide_eq_false_iff_not] at hb
    rw [if_neg hb]
    repeat
      first
        | (refine runS_nil (hK _ ?_); clear hK K)
        | refine stG ?_
        | (refine gateA 1 rfl ?_; refine runA_put ?_)
        | (refine gateBc ?_; first | (refine runB_nil (hK _ ?_); clear hK K) | (refine runB_op rfl ⟨_, evl, fun nb' => ?_⟩))
        | refine wpA_region (fun K hK => ?_)
        | (refine gateD ?_; first | (refine wpA_drawG false rfl (by kernel_rfl) (by kernel_rfl) (fun K hK => ?_)) | (refine wpA_drawG true rfl (by kernel_rfl) (by kernel_rfl) (fun K hK => ?_)))
    refine ret_of (by simp) ⟨_, _, _, evl, ob0, OutOk.eq ?_ ?_⟩
    · rfl
    · exact ⟨Wire.free _, trivial, trivial⟩
def wOkP (l : List Wire) (i : Nat) : Prop := (findW (l.take i) (l.getD i default).host (l.getD i default).auth).2 = false ∧ (1 ≤ (l.getD i default).host ∧ (l.getD i default).host ≤ 64) ∧ (1 ≤ (l.getD i default).auth ∧ (l.getD i default).auth ≤ 16) ∧ Lk.ValidP (l.getD i default).changes
instance (l : List Wire) (i : Nat) : Decidable (wOkP l i) := by unfold wOkP; infer_instance
def wiredP (l : List Wire) : Prop := (∀ i, i < l.length → wOkP l i) ∧ l.length ≤ 1024
instance (l : List Wire) : Decidable (wiredP l) := by unfold wiredP; infer_instance
theorem lvalid_A (l : List Change) (hmax : l.length ≤ 1000) : FnA Tryz.prog 84 [lA 5 Change.av l] (.raw (.bool (decide (Lk.ValidP l)))) := Lk.valid_A l hmax
theorem wired_A (l : List Wire) (hl : l.length ≤ 4611686018427387904) (hc : ∀ w ∈ l, w.changes.length ≤ 1000) : FnA Tryz.prog 67 [lA 3 Wire.av l] (.raw (.bool (decide (wiredP l)))) := by
  refine fnA_of tblOk Tryz.func67 rfl (by kernel_rfl) 54 Tryz.ntmps67 (by simp only [List.length_cons, List.length_nil]; omega) [.tmp 2] rfl ?_
  simp only [entrySt, argSl, Nat.zero_add, Nat.reduceAdd]
  repeat'
    first
      | first
        | (refine runS_nil (hK _ ?_); clear hK K)
        | refine stG ?_
        | (refine gateA 1 rfl ?_; refine runA_put ?_)
        | (refine gateBc ?_; first | (refine runB_nil (hK _ ?_); clear hK K) | (refine runB_op rfl ⟨_, evl, fun nb' => ?_⟩))
        | refine wpA_region (fun K hK => ?_)
        | (refine gateD ?_; first | (refine wpA_drawG false rfl (by kernel_rfl) (by kernel_rfl) (fun K hK => ?_)) | (refine wpA_drawG true rfl (by kernel_rfl) (by kernel_rfl) (fun K hK => ?_)))
        | (refine wpA_cond' ⟨_, evl, fun hb => ?_, fun hb => ?_⟩ <;> (try simp only [Bool.or_eq_true, Bool.and_eq_true, Bool.or_eq_false_iff, Bool.and_eq_false_iff, Bool.not_eq_true', Bool.not_eq_false', Bool.not_eq_true, Bool.not_eq_false, decide_eq_true_eq, decide_eq_false_iff_not, Bool.true_eq_false, Bool.false_eq_true, ne_eq, Classical.not_not, Int.not_lt, Int.not_le, Bool.not_true, Bool.not_false] at hb))
      | fail
  refine wpA_loop (fun k : Nat => ⟨54, 0, [(0, true, lA 3 Wire.av l), (7, true, lA 3 Wire.av l), (8, true, .raw (.int .i64 l.length)), (9, true, .raw (.int .i64 k))], [], [], ((0, []), [], true)⟩)
    (fun k => k ≤ l.length ∧ ∀ i, i < k → wOkP l i) (fun k => l.length - k) 0 ?_ ⟨by omega, fun i h => by omega⟩ ?_
  · refine Weak.gen ?_ ?_ ?_ (by simp) ?_
    rotate_left 3
    · first | (simp [subSl, subB, subR, AV.sub, AV.subL, go_sem]; done) | (simp [subSl, subB, subR, AV.sub, AV.subL, go_sem, AV.subL_free, AV.sub_free, *]; done) | (simp_all [subSl, subB, subR, AV.sub, AV.subL, go_sem]; done)
    all_goals (try simp only [SlSim, BxSim, RwSim, SimsL, lookN_cons, ↓reduceIte, Nat.reduceEqDiff, Option.some.injEq, Prod.mk.injEq, true_and, and_true, exists_eq_left', and_self])
    all_goals (try trivial)
    all_goals ((repeat' apply And.intro) <;> first | exact simsT | (intro _ _; exact simsT) | omega | (simp; done) | (simp; omega) | (intro _ _; refine SimsL.of_eq (els_snoc ?_ (by assumption) rfl) <;> first | rfl | omega | (simp; done) | (simp; omega)) | skip)
  · rintro k ⟨hk, hall⟩
    rcases Nat.lt_or_ge k l.length with hlt | hge
    · have hmem : l.getD k default ∈ l := by rw [getD_get hlt]; exact List.getElem_mem _
      have hv := lvalid_A _ (hc _ hmem)
      have he := endsOf_A (l.getD k default)
      have hfi := findW_A (l.take k) (by rw [List.length_take]; omega) (l.getD k default).host (l.getD k default).auth
      have hfi2 := FnA.sim hfi (args := [.lst 3 k (els Wire.av l), endsF, .agg [.raw (.int .i64 (l.getD k default).host), .raw (.int .i64 (l.getD k default).auth)]]) ⟨Sim.lstE (by rw [List.length_take]; omega) (fun i hi => by simp [els, List.getElem?_take, hi]), Sim.of_eq rfl, Sim.of_eq rfl, trivial⟩
      generalize hfe : findW (l.take k) (l.getD k default).host (l.getD k default).auth = f at *
      generalize hvb : decide (Lk.ValidP (l.getD k default).changes) = v at *
      have hok : wOkP l k ↔ f.2 = false ∧ (1 ≤ (l.getD k default).host ∧ (l.getD k default).host ≤ 64) ∧ (1 ≤ (l.getD k default).auth ∧ (l.getD k default).auth ≤ 16) ∧ v = true := by
        unfold wOkP; rw [hfe, ← hvb, decide_eq_true_iff]
      clear hfi hc hfe hvb
      repeat'
        first
          | first
            | (refine runS_nil (hK _ ?_); clear hK K)
            | refine stG ?_
            | (refine gateS 1 rfl ?_; refine runS_call rfl rfl ⟨_, evl, _, _, _, evl, oblF, ?_⟩; apply Exists.intro; refine ⟨fun hg => ?_, ?_⟩; · first | exact FnA.at_ (he) rfl rfl | exact FnA.at_ (hfi2) rfl rfl | exact FnA.at_ (hv) rfl rfl | exact FnA.at_s (he) rfl simT | exact FnA.at_s (he) rfl simF | exact FnA.at_s (hfi2) rfl simT | exact FnA.at_s (hfi2) rfl simF | exact FnA.at_s (hv) rfl simT | exact FnA.at_s (hv) rfl simF)
            | (refine gateA 1 rfl ?_; refine runA_call rfl ⟨_, evl, _, _, _, (fun _ _ => evlA), oblF, ?_⟩; apply Exists.intro; refine ⟨fun hg => ?_, ?_⟩; · first | exact FnA.at_ (he) rfl rfl | exact FnA.at_ (hfi2) rfl rfl | exact FnA.at_ (hv) rfl rfl | exact FnA.at_s (he) rfl simT | exact FnA.at_s (he) rfl simF | exact FnA.at_s (hfi2) rfl simT | exact FnA.at_s (hfi2) rfl simF | exact FnA.at_s (hv) rfl simT | exact FnA.at_s (hv) rfl simF)
            | (refine gateA 1 rfl ?_; refine runA_put ?_)
            | (refine gateBc ?_; first | (refine runB_nil (hK _ ?_); clear hK K) | (refine runB_op rfl ⟨_, evl, fun nb' => ?_⟩))
            | refine wpA_region (fun K hK => ?_)
            | (refine gateD ?_; first | (refine wpA_drawG false rfl (by kernel_rfl) (by kernel_rfl) (fun K hK => ?_)) | (refine wpA_drawG true rfl (by kernel_rfl) (by kernel_rfl) (fun K hK => ?_)))
            | (refine wpA_cond' ⟨_, evl, fun hb => ?_, fun hb => ?_⟩ <;> (try simp only [Bool.or_eq_true, Bool.and_eq_true, Bool.or_eq_false_iff, Bool.and_eq_false_iff, Bool.not_eq_true', Bool.not_eq_false', Bool.not_eq_true, Bool.not_eq_false, decide_eq_true_eq, decide_eq_false_iff_not, Bool.true_eq_false, Bool.false_eq_true, ne_eq, Classical.not_not, Int.not_lt, Int.not_le, Bool.not_true, Bool.not_false] at hb))
          | fail
      · refine ret_of (by simp) ⟨_, _, _, evl, ob0, OutOk.eq ?_ (by simp [AV.free])⟩
        simp only [AV.raw.injEq, Value.bool.injEq]
        rw [eq_comm, decide_eq_false_iff_not]
        intro h
        have := hok.1 (h.1 k hlt)
        rcases hb with ((((hb | hb) | hb) | hb) | hb) | hb
        · rw [this.1] at hb; cases hb
        · omega
        · omega
        · omega
        · omega
        · rw [this.2.2.2] at hb; cases hb
      · refine ⟨k + 1, ⟨by omega, fun i hi => ?_⟩, by omega, ?_⟩
        · rcases Nat.lt_succ_iff_lt_or_eq.1 hi with h | rfl
          · exact hall i h
          · exact hok.2 ⟨hb.1.1.1.1.1, ⟨hb.1.1.1.1.2, hb.1.1.1.2⟩, ⟨hb.1.1.2, hb.1.2⟩, hb.2⟩
        · refine Weak.gen ?_ ?_ ?_ (by simp) ?_
          rotate_left 3
          · first | (simp [subSl, subB, subR, AV.sub, AV.subL, go_sem]; done) | (simp [subSl, subB, subR, AV.sub, AV.subL, go_sem, AV.subL_free, AV.sub_free, *]; done) | (simp_all [subSl, subB, subR, AV.sub, AV.subL, go_sem]; done)
          all_goals (try simp only [SlSim, BxSim, RwSim, SimsL, lookN_cons, ↓reduceIte, Nat.reduceEqDiff, Option.some.injEq, Prod.mk.injEq, true_and, and_true, exists_eq_left', and_self])
          all_goals (try trivial)
          all_goals ((repeat' apply And.intro) <;> first | exact simsT | (intro _ _; exact simsT) | omega | (simp; done) | (simp; omega) | (intro _ _; refine SimsL.of_eq (els_snoc ?_ (by assumption) rfl) <;> first | rfl | omega | (simp; done) | (simp; omega)) | skip)
      · exfalso; omega
    · repeat'
        first
          | first
            | (refine runS_nil (hK _ ?_); clear hK K)
            | refine stG ?_
            | (refine gateA 1 rfl ?_; refine runA_put ?_)
            | (refine gateBc ?_; first | (refine runB_nil (hK _ ?_); clear hK K) | (refine runB_op rfl ⟨_, evl, fun nb' => ?_⟩))
            | refine wpA_region (fun K hK => ?_)
            | (refine gateD ?_; first | (refine wpA_drawG false rfl (by kernel_rfl) (by kernel_rfl) (fun K hK => ?_)) | (refine wpA_drawG true rfl (by kernel_rfl) (by kernel_rfl) (fun K hK => ?_)))
            | (refine wpA_cond' ⟨_, evl, fun hb => ?_, fun hb => ?_⟩ <;> (try simp only [Bool.or_eq_true, Bool.and_eq_true, Bool.or_eq_false_iff, Bool.and_eq_false_iff, Bool.not_eq_true', Bool.not_eq_false', Bool.not_eq_true, Bool.not_eq_false, decide_eq_true_eq, decide_eq_false_iff_not, Bool.true_eq_false, Bool.false_eq_true, ne_eq, Classical.not_not, Int.not_lt, Int.not_le, Bool.not_true, Bool.not_false] at hb))
          | fail
      all_goals first | (exfalso; omega) | skip
      refine ret_of (by simp) ⟨_, _, _, evl, ob0, OutOk.eq ?_ ?_⟩
      · rw [show decide (wiredP l) = decide ((l.length : Int) ≤ 1024) from by
          rw [decide_eq_decide]
          exact ⟨fun h => by have := h.2; omega, fun h => ⟨fun i hi => hall i (by omega), by omega⟩⟩]
      · simp [AV.free]
end Go.Proofs.YtihnjbnlbedpaaaGreatDoor
