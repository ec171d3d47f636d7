/- package site: what networks are made of. -/
import Derived.Test.YtcdgncmkkknmlaaGreatDoorDu
import Derived.Test.YtcdgncmkkknmlaaGreatDoorLkR
import Derived.Test.YtcdgncmkkknmlaaGreatDoorMap
namespace Go.Proofs.YtcdgncmkkknmlaaGreatDoor
set_option linter.unusedVariables false
set_option linter.unusedSimpArgs false
set_option maxHeartbeats 4000000
set_option maxRecDepth 100000
open Go.RowKit
theorem idxM_range' {α : Type} (p : α → Bool) (l : List α) : -1 ≤ idxM p l ∧ idxM p l < l.length := by
  unfold idxM
  split
  · rename_i i h
    have := (List.findIdx?_eq_some_iff_findIdx_eq.1 h).1
    omega
  · omega
structure Host where
  id : Int
  table : Int
  temp : Rg
  age : Rg
  deriving Inhabited, DecidableEq
@[go_sem] def Host.av (x : Host) : List AV := [.raw (.int .i64 x.id), .raw (.int .i64 x.table), .raw (.int .i64 x.temp.lo), .raw (.int .i64 x.temp.hi), .raw (.int .i64 x.age.lo), .raw (.int .i64 x.age.hi)]
def Host.fits (x : Host) : Prop := (inK .i64 x.id) ∧ (inK .i64 x.table) ∧ (x.temp.fits) ∧ (x.age.fits)
@[simp] theorem Host.free (x : Host) : AV.freeL x.av := ⟨trivial, trivial, trivial, trivial, trivial, trivial, trivial⟩
structure Auth where
  id : Int
  err : Int
  cost : Int
  key : Int
  deriving Inhabited, DecidableEq
@[go_sem] def Auth.av (x : Auth) : List AV := [.raw (.int .i64 x.id), .raw (.int .i64 x.err), .raw (.int .i64 x.cost), .raw (.int .i64 x.key)]
def Auth.fits (x : Auth) : Prop := (inK .i64 x.id) ∧ (inK .i64 x.err) ∧ (inK .i64 x.cost) ∧ (inK .i64 x.key)
@[simp] theorem Auth.free (x : Auth) : AV.freeL x.av := ⟨trivial, trivial, trivial, trivial, trivial⟩
structure Wire where
  host : Int
  auth : Int
  changes : List Change
  deriving Inhabited, DecidableEq
@[go_sem] def Wire.av (x : Wire) : List AV := [.raw (.int .i64 x.host), .raw (.int .i64 x.auth), lA 5 Change.av x.changes]
def Wire.fits (x : Wire) : Prop := (inK .i64 x.host) ∧ (inK .i64 x.auth) ∧ (x.changes.length ≤ maxLen ∧ ∀ y ∈ x.changes, y.fits)
@[simp] theorem Wire.free (x : Wire) : AV.freeL x.av := ⟨trivial, trivial, lA_free (fun y => Change.free y) _, trivial⟩
theorem idH_A (x : Host) : FnA Tryz.prog 35 [.agg x.av] (.raw (.int .i64 x.id)) := by
  refine fnA_of tblOk Tryz.func35 rfl (by kernel_rfl) 5 Tryz.ntmps35 (by simp only [List.length_cons, List.length_nil]; omega) [.tmp 2] rfl ?_
  simp only [entrySt, argSl, Nat.zero_add, Nat.reduceAdd]
  repeat' first
    | refine wkG trivial ?_
    | (refine cndS ⟨_, evl, ⟨cb, cb⟩, fun hb => ?_, fun hb => ?_⟩ <;> try (cases hb; done))
    | (refine Stop.mk ?_; intro K hK)
    | fail
  all_goals (try (refine ret_of (by simp) ⟨_, _, _, evl, ob0, OutOk.sims ?_ fre⟩))
  all_goals first | exact Sims.refl _ | (refine Sims.of_eq ?_; first | rfl | (simp []; done) | (simp_all []; done) | (simp_all []; omega) | (simp []; grind) | (split <;> simp_all)) | exact simsF | (refine Sims.tup ?_; simp only [SimsL, and_true]; (repeat' apply And.intro) <;> first | exact simsF | skip) | (exfalso; first | omega | (simp_all; done) | (simp_all; omega)) | skip
abbrev idHF : AV := .raw (.func (.func 35) #[] #[])
def isH (a : Int) (x : Host) : Bool := decide (x.id = a)
theorem find1H_G (x : Host) (a : Int) : FnG Tryz.prog 82 [.agg x.av, .box 0 0, .box 1 0] [[idHF], [.raw (.int .i64 a)]] [] (.raw (.bool (isH a x))) [[idHF], [.raw (.int .i64 a)]] [] := by
  have he := idH_A x
  refine fnG_of tblOk Tryz.func82 rfl (by kernel_rfl) 10 Tryz.ntmps82 (by simp only [List.length_cons, List.length_nil]; omega) [.tmp 4] rfl 2 (by simp) ?_
  simp only [entryG, argSl, Nat.zero_add, Nat.reduceAdd, List.length_cons, List.length_nil]
  repeat' first
    | refine wkG he ?_
    | (refine cndS ⟨_, evl, ⟨cb, cb⟩, fun hb => ?_, fun hb => ?_⟩ <;> try (cases hb; done))
    | (refine Stop.mk ?_; intro K hK)
    | fail
  all_goals (refine retG_of (by simp) ⟨_, _, _, evl, obq, OutG.bel ?_ obb, by simp, ?_, rfl, obb, obb⟩)
  all_goals first | rfl | (simp [isH]; done) | (simp_all [isH]; done) | (simp_all [isH]; omega) | (simp [isH]; grind) | (split <;> simp_all) | skip
theorem indexH_G (l : List Host) (hl : l.length ≤ 9223372036854775807) (a : Int) : FnG Tryz.prog 81 [lA 6 Host.av l, .fn (.func 82) [] [.box 0 0, .box 1 0]] [[idHF], [.raw (.int .i64 a)]] [] (.raw (.int .i64 (idxM (isH a) l))) [[idHF], [.raw (.int .i64 a)]] [] := by
  refine fnG_of tblOk Tryz.func81 rfl (by kernel_rfl) 19 Tryz.ntmps81 (by simp only [List.length_cons, List.length_nil]; omega) [.tmp 4] rfl 2 (by simp) ?_
  simp only [entryG, argSl, Nat.zero_add, Nat.reduceAdd, List.length_cons, List.length_nil]
  try refine wkG trivial ?_
  try (refine Stop.mk ?_; intro K hK)
  refine wpA_loop (fun k : Nat => ⟨19, 2, [(0, true, lA 6 Host.av l), (1, true, .fn (.func 82) [] [.box 0 0, .box 1 0]), (7, true, .raw (.int .i64 l.length)), (8, true, .raw (.int .i64 k))], [[idHF], [.raw (.int .i64 a)]], [], ((0, []), [], true)⟩)
    (fun k => k ≤ l.length ∧ ∀ i, i < k → isH a (l.getD i default) = false) (fun k => l.length - k) 0 ?_ ⟨by omega, fun i h => by omega⟩ ?_
  · refine wkn ?_ ?_ ?_
    all_goals first | exact wk0 | refine wkS ?_ | skip
    all_goals (try trivial)
    all_goals ((repeat' apply And.intro) <;> first | exact wkL | skip)
  · rintro k ⟨hk, hall⟩
    have hpk := find1H_G (l.getD k default) a
    try refine wkG trivial ?_
    try (refine Stop.mk ?_; intro K hK)
    refine wpA_cond' ⟨_, evl, fun hlt => ?_, fun hge => ?_⟩
    · simp only [decide_eq_true_eq] at hlt
      repeat
        first
          | (refine runS_nil (hK _ ?_); clear hK K)
          | refine stG ?_
          | (refine gateA 1 rfl ?_; refine runA_put ?_)
          | (refine gateBc ?_; first | (refine runB_nil (hK _ ?_); clear hK K) | (refine runB_op rfl ⟨_, evl, fun nb' => ?_⟩))
          | refine wpA_region (fun K hK => ?_)
          | (refine gateD ?_; first | (refine wpA_drawG false rfl (by kernel_rfl) (by kernel_rfl) (fun K hK => ?_)) | (refine wpA_drawG true rfl (by kernel_rfl) (by kernel_rfl) (fun K hK => ?_)))
      refine sCallG [0, 1] [] (hpk) rfl rfl rfl ⟨_, evl, _, evl, _, evl, obl, by decide, by decide, by first | trivial | exact ⟨rfl, trivial⟩ | exact ⟨rfl, rfl, trivial⟩ | exact ⟨rfl, rfl, rfl, trivial⟩ | simp [handL, AV.renL, AV.ren, ARow.ren], by first | trivial | exact ⟨rfl, trivial⟩ | exact ⟨rfl, rfl, trivial⟩ | exact ⟨rfl, rfl, rfl, trivial⟩ | simp [handL, AV.renL, AV.ren, ARow.ren], (by first | (simp [AV.subL, AV.sub]; done) | (simp only [List.forall_mem_cons, List.not_mem_nil, false_implies, implies_true, and_true, true_and, AV.subL, AV.sub, List.length_cons, List.length_nil, Nat.zero_add, Nat.reduceAdd]; (repeat' apply And.intro) <;> first | trivial | omega | (simp; done) | (refine AV.sub_free _ ?_; exact lA_free (fun _ => by simp) _) | (refine AV.subL_free _ ?_; simp; done) | (intro r hr; cases hr; done))), _, evl, _, evl, _, evl, ?_⟩
      repeat
        first
          | (refine runS_nil (hK _ ?_); clear hK K)
          | refine stG ?_
          | (refine gateA 1 rfl ?_; refine runA_put ?_)
          | (refine gateBc ?_; first | (refine runB_nil (hK _ ?_); clear hK K) | (refine runB_op rfl ⟨_, evl, fun nb' => ?_⟩))
          | refine wpA_region (fun K hK => ?_)
          | (refine gateD ?_; first | (refine wpA_drawG false rfl (by kernel_rfl) (by kernel_rfl) (fun K hK => ?_)) | (refine wpA_drawG true rfl (by kernel_rfl) (by kernel_rfl) (fun K hK => ?_)))
      refine wpA_cond' ⟨_, evl, fun hb => ?_, fun hb => ?_⟩
      · try refine wkG trivial ?_
        try (refine Stop.mk ?_; intro K hK)
        rw [idxM_hit (show k < l.length by omega) hall hb]
        all_goals (refine retG_of (by simp) ⟨_, _, _, evl, obq, OutG.bel ?_ obb, by simp, ?_, rfl, obb, obb⟩)
        all_goals first | rfl | (simp []; done) | (simp_all []; done) | (simp_all []; omega) | (simp []; grind) | (split <;> simp_all) | skip
      · try refine wkG trivial ?_
        try (refine Stop.mk ?_; intro K hK)
        refine ⟨k + 1, ⟨by omega, fun i hi => ?_⟩, by omega, ?_⟩
        · rcases Nat.lt_succ_iff_lt_or_eq.1 hi with h | rfl
          · exact hall i h
          · exact hb
        · refine wkn ?_ ?_ ?_
          all_goals first | exact wk0 | refine wkS ?_ | skip
          all_goals (try trivial)
          all_goals ((repeat' apply And.intro) <;> first | exact wkL | skip)
    · simp only [decide_eq_false_iff_not] at hge
      try refine wkG trivial ?_
      try (refine Stop.mk ?_; intro K hK)
      rw [idxM_none (fun i hi => hall i (by omega))]
      all_goals (refine retG_of (by simp) ⟨_, _, _, evl, obq, OutG.bel ?_ obb, by simp, ?_, rfl, obb, obb⟩)
      all_goals first | rfl | (simp []; done) | (simp_all []; done) | (simp_all []; omega) | (simp []; grind) | (split <;> simp_all) | skip
def findH (l : List Host) (a : Int) : Host × Bool := if idxM (isH a) l < 0 then (⟨0, 0, ⟨0, 0⟩, ⟨0, 0⟩⟩, false) else (l.getD (idxM (isH a) l).toNat default, true)
theorem findH_A (l : List Host) (hl : l.length ≤ 9223372036854775807) (a : Int) : FnA Tryz.prog 33 [lA 6 Host.av l, idHF, .raw (.int .i64 a)] (.tup [.agg (findH l a).1.av, .raw (.bool (findH l a).2)]) := by
  have hi := indexH_G l hl a
  have hr := idxM_range' (isH a) l
  have hfr : (lA 6 Host.av l).free := lA_free (fun y => Host.free y) _
  unfold findH
  generalize idxM (isH a) l = q at *
  refine fnA_of tblOk Tryz.func33 rfl (by kernel_rfl) 20 Tryz.ntmps33 (by simp only [List.length_cons, List.length_nil]; omega) [.cell 6 86, .tmp 7] rfl ?_
  simp only [entrySt, argSl, Nat.zero_add, Nat.reduceAdd]
  repeat
    first
      | (refine runS_nil (hK _ ?_); clear hK K)
      | refine stG ?_
      | (refine gateA 1 rfl ?_; refine runA_put ?_)
      | (refine gateBc ?_; first | (refine runB_nil (hK _ ?_); clear hK K) | (refine runB_op rfl ⟨_, evl, fun nb' => ?_⟩))
      | refine wpA_region (fun K hK => ?_)
      | (refine gateD ?_; first | (refine wpA_drawG false rfl (by kernel_rfl) (by kernel_rfl) (fun K hK => ?_)) | (refine wpA_drawG true rfl (by kernel_rfl) (by kernel_rfl) (fun K hK => ?_)))
  refine sCallG [0, 1] [] (hi) rfl rfl rfl ⟨_, evl, _, evl, _, evl, obl, by decide, by decide, by first | trivial | exact ⟨rfl, trivial⟩ | exact ⟨rfl, rfl, trivial⟩ | exact ⟨rfl, rfl, rfl, trivial⟩ | simp [handL, AV.renL, AV.ren, ARow.ren], by first | trivial | exact ⟨rfl, trivial⟩ | exact ⟨rfl, rfl, trivial⟩ | exact ⟨rfl, rfl, rfl, trivial⟩ | simp [handL, AV.renL, AV.ren, ARow.ren], (by first | (simp [AV.subL, AV.sub]; done) | (simp only [List.forall_mem_cons, List.not_mem_nil, false_implies, implies_true, and_true, true_and, AV.subL, AV.sub, List.length_cons, List.length_nil, Nat.zero_add, Nat.reduceAdd]; (repeat' apply And.intro) <;> first | trivial | omega | (simp; done) | (refine AV.sub_free _ ?_; exact lA_free (fun _ => by simp) _) | (refine AV.subL_free _ ?_; simp; done) | (intro r hr; cases hr; done))), _, evl, _, evl, _, evl, ?_⟩
  repeat
    first
      | (refine runS_nil (hK _ ?_); clear hK K)
      | refine stG ?_
      | (refine gateA 1 rfl ?_; refine runA_put ?_)
      | (refine gateBc ?_; first | (refine runB_nil (hK _ ?_); clear hK K) | (refine runB_op rfl ⟨_, evl, fun nb' => ?_⟩))
      | refine wpA_region (fun K hK => ?_)
      | (refine gateD ?_; first | (refine wpA_drawG false rfl (by kernel_rfl) (by kernel_rfl) (fun K hK => ?_)) | (refine wpA_drawG true rfl (by kernel_rfl) (by kernel_rfl) (fun K hK => ?_)))
  refine wpA_cond' ⟨_, evl, fun hb => ?_, fun hb => ?_⟩
  · simp only [decide_eq_true_eq] at hb
    rw [if_pos hb]
    try refine wkG trivial ?_
    try (refine Stop.mk ?_; intro K hK)
    refine ret_of (by simp) ⟨_, _, _, evl, ob0, OutOk.eq ?_ ?_⟩
    · rfl
    · simp [AV.free, AV.freeL, go_sem]
  · simp only [decide_eq_false_iff_not] at hb
    rw [if_neg hb]
    try refine wkG trivial ?_
    try (refine Stop.mk ?_; intro K hK)
    refine ret_of (by simp) ⟨_, _, _, evl, ob0, OutOk.eq ?_ ?_⟩
    · rfl
    · exact ⟨Host.free _, trivial, trivial⟩
theorem idU_A (x : Auth) : FnA Tryz.prog 49 [.agg x.av] (.raw (.int .i64 x.id)) := by
  refine fnA_of tblOk Tryz.func49 rfl (by kernel_rfl) 5 Tryz.ntmps49 (by simp only [List.length_cons, List.length_nil]; omega) [.tmp 2] rfl ?_
  simp only [entrySt, argSl, Nat.zero_add, Nat.reduceAdd]
  repeat' first
    | refine wkG trivial ?_
    | (refine cndS ⟨_, evl, ⟨cb, cb⟩, fun hb => ?_, fun hb => ?_⟩ <;> try (cases hb; done))
    | (refine Stop.mk ?_; intro K hK)
    | fail
  all_goals (try (refine ret_of (by simp) ⟨_, _, _, evl, ob0, OutOk.sims ?_ fre⟩))
  all_goals first | exact Sims.refl _ | (refine Sims.of_eq ?_; first | rfl | (simp []; done) | (simp_all []; done) | (simp_all []; omega) | (simp []; grind) | (split <;> simp_all)) | exact simsF | (refine Sims.tup ?_; simp only [SimsL, and_true]; (repeat' apply And.intro) <;> first | exact simsF | skip) | (exfalso; first | omega | (simp_all; done) | (simp_all; omega)) | skip
abbrev idUF : AV := .raw (.func (.func 49) #[] #[])
def isU (a : Int) (x : Auth) : Bool := decide (x.id = a)
theorem find1U_G (x : Auth) (a : Int) : FnG Tryz.prog 125 [.agg x.av, .box 0 0, .box 1 0] [[idUF], [.raw (.int .i64 a)]] [] (.raw (.bool (isU a x))) [[idUF], [.raw (.int .i64 a)]] [] := by
  have he := idU_A x
  refine fnG_of tblOk Tryz.func125 rfl (by kernel_rfl) 10 Tryz.ntmps125 (by simp only [List.length_cons, List.length_nil]; omega) [.tmp 4] rfl 2 (by simp) ?_
  simp only [entryG, argSl, Nat.zero_add, Nat.reduceAdd, List.length_cons, List.length_nil]
  repeat' first
    | refine wkG he ?_
    | (refine cndS ⟨_, evl, ⟨cb, cb⟩, fun hb => ?_, fun hb => ?_⟩ <;> try (cases hb; done))
    | (refine Stop.mk ?_; intro K hK)
    | fail
  all_goals (refine retG_of (by simp) ⟨_, _, _, evl, obq, OutG.bel ?_ obb, by simp, ?_, rfl, obb, obb⟩)
  all_goals first | rfl | (simp [isU]; done) | (simp_all [isU]; done) | (simp_all [isU]; omega) | (simp [isU]; grind) | (split <;> simp_all) | skip
theorem indexU_G (l : List Auth) (hl : l.length ≤ 9223372036854775807) (a : Int) : FnG Tryz.prog 90 [lA 4 Auth.av l, .fn (.func 125) [] [.box 0 0, .box 1 0]] [[idUF], [.raw (.int .i64 a)]] [] (.raw (.int .i64 (idxM (isU a) l))) [[idUF], [.raw (.int .i64 a)]] [] := by
  refine fnG_of tblOk Tryz.func90 rfl (by kernel_rfl) 19 Tryz.ntmps90 (by simp only [List.length_cons, List.length_nil]; omega) [.tmp 4] rfl 2 (by simp) ?_
  simp only [entryG, argSl, Nat.zero_add, Nat.reduceAdd, List.length_cons, List.length_nil]
  try refine wkG trivial ?_
  try (refine Stop.mk ?_; intro K hK)
  refine wpA_loop (fun k : Nat => ⟨19, 2, [(0, true, lA 4 Auth.av l), (1, true, .fn (.func 125) [] [.box 0 0, .box 1 0]), (7, true, .raw (.int .i64 l.length)), (8, true, .raw (.int .i64 k))], [[idUF], [.raw (.int .i64 a)]], [], ((0, []), [], true)⟩)
    (fun k => k ≤ l.length ∧ ∀ i, i < k → isU a (l.getD i default) = false) (fun k => l.length - k) 0 ?_ ⟨by omega, fun i h => by omega⟩ ?_
  · refine wkn ?_ ?_ ?_
    all_goals first | exact wk0 | refine wkS ?_ | skip
    all_goals (try trivial)
    all_goals ((repeat' apply And.intro) <;> first | exact wkL | skip)
  · rintro k ⟨hk, hall⟩
    have hpk := find1U_G (l.getD k default) a
    try refine wkG trivial ?_
    try (refine Stop.mk ?_; intro K hK)
    refine wpA_cond' ⟨_, evl, fun hlt => ?_, fun hge => ?_⟩
    · simp only [decide_eq_true_eq] at hlt
      repeat
        first
          | (refine runS_nil (hK _ ?_); clear hK K)
          | refine stG ?_
          | (refine gateA 1 rfl ?_; refine runA_put ?_)
          | (refine gateBc ?_; first | (refine runB_nil (hK _ ?_); clear hK K) | (refine runB_op rfl ⟨_, evl, fun nb' => ?_⟩))
          | refine wpA_region (fun K hK => ?_)
          | (refine gateD ?_; first | (refine wpA_drawG false rfl (by kernel_rfl) (by kernel_rfl) (fun K hK => ?_)) | (refine wpA_drawG true rfl (by kernel_rfl) (by kernel_rfl) (fun K hK => ?_)))
      refine sCallG [0, 1] [] (hpk) rfl rfl rfl ⟨_, evl, _, evl, _, evl, obl, by decide, by decide, by first | trivial | exact ⟨rfl, trivial⟩ | exact ⟨rfl, rfl, trivial⟩ | exact ⟨rfl, rfl, rfl, trivial⟩ | simp [handL, AV.renL, AV.ren, ARow.ren], by first | trivial | exact ⟨rfl, trivial⟩ | exact ⟨rfl, rfl, trivial⟩ | exact ⟨rfl, rfl, rfl, trivial⟩ | simp [handL, AV.renL, AV.ren, ARow.ren], (by first | (simp [AV.subL, AV.sub]; done) | (simp only [List.forall_mem_cons, List.not_mem_nil, false_implies, implies_true, and_true, true_and, AV.subL, AV.sub, List.length_cons, List.length_nil, Nat.zero_add, Nat.reduceAdd]; (repeat' apply And.intro) <;> first | trivial | omega | (simp; done) | (refine AV.sub_free _ ?_; exact lA_free (fun _ => by simp) _) | (refine AV.subL_free _ ?_; simp; done) | (intro r hr; cases hr; done))), _, evl, _, evl, _, evl, ?_⟩
      repeat
        first
          | (refine runS_nil (hK _ ?_); clear hK K)
          | refine stG ?_
          | (refine gateA 1 rfl ?_; refine runA_put ?_)
          | (refine gateBc ?_; first | (refine runB_nil (hK _ ?_); clear hK K) | (refine runB_op rfl ⟨_, evl, fun nb' => ?_⟩))
          | refine wpA_region (fun K hK => ?_)
          | (refine gateD ?_; first | (refine wpA_drawG false rfl (by kernel_rfl) (by kernel_rfl) (fun K hK => ?_)) | (refine wpA_drawG true rfl (by kernel_rfl) (by kernel_rfl) (fun K hK => ?_)))
      refine wpA_cond' ⟨_, evl, fun hb => ?_, fun hb => ?_⟩
      · try refine wkG trivial ?_
        try (refine Stop.mk ?_; intro K hK)
        rw [idxM_hit (show k < l.length by omega) hall hb]
        all_goals (refine retG_of (by simp) ⟨_, _, _, evl, obq, OutG.bel ?_ obb, by simp, ?_, rfl, obb, obb⟩)
        all_goals first | rfl | (simp []; done) | (simp_all []; done) | (simp_all []; omega) | (simp []; grind) | (split <;> simp_all) | skip
      · try refine wkG trivial ?_
        try (refine Stop.mk ?_; intro K hK)
        refine ⟨k + 1, ⟨by omega, fun i hi => ?_⟩, by omega, ?_⟩
        · rcases Nat.lt_succ_iff_lt_or_eq.1 hi with h | rfl
          · exact hall i h
          · exact hb
        · refine wkn ?_ ?_ ?_
          all_goals first | exact wk0 | refine wkS ?_ | skip
          all_goals (try trivial)
          all_goals ((repeat' apply And.intro) <;> first | exact wkL | skip)
    · simp only [decide_eq_false_iff_not] at hge
      try refine wkG trivial ?_
      try (refine Stop.mk ?_; intro K hK)
      rw [idxM_none (fun i hi => hall i (by omega))]
      all_goals (refine retG_of (by simp) ⟨_, _, _, evl, obq, OutG.bel ?_ obb, by simp, ?_, rfl, obb, obb⟩)
      all_goals first | rfl | (simp []; done) | (simp_all []; done) | (simp_all []; omega) | (simp []; grind) | (split <;> simp_all) | skip
def findU (l : List Auth) (a : Int) : Auth × Bool := if idxM (isU a) l < 0 then (⟨0, 0, 0, 0⟩, false) else (l.getD (idxM (isU a) l).toNat default, true)
theorem findU_A (l : List Auth) (hl : l.length ≤ 9223372036854775807) (a : Int) : FnA Tryz.prog 95 [lA 4 Auth.av l, idUF, .raw (.int .i64 a)] (.tup [.agg (findU l a).1.av, .raw (.bool (findU l a).2)]) := by
  have hi := indexU_G l hl a
  have hr := idxM_range' (isU a) l
  have hfr : (lA 4 Auth.av l).free := lA_free (fun y => Auth.free y) _
  unfold findU
  generalize idxM (isU a) l = q at *
  refine fnA_of tblOk Tryz.func95 rfl (by kernel_rfl) 20 Tryz.ntmps95 (by simp only [List.length_cons, List.length_nil]; omega) [.cell 6 98, .tmp 7] rfl ?_
  simp only [entrySt, argSl, Nat.zero_add, Nat.reduceAdd]
  repeat
    first
      | (refine runS_nil (hK _ ?_); clear hK K)
      | refine stG ?_
      | (refine gateA 1 rfl ?_; refine runA_put ?_)
      | (refine gateBc ?_; first | (refine runB_nil (hK _ ?_); clear hK K) | (refine runB_op rfl ⟨_, evl, fun nb' => ?_⟩))
      | refine wpA_region (fun K hK => ?_)
      | (refine gateD ?_; first | (refine wpA_drawG false rfl (by kernel_rfl) (by kernel_rfl) (fun K hK => ?_)) | (refine wpA_drawG true rfl (by kernel_rfl) (by kernel_rfl) (fun K hK => ?_)))
  refine sCallG [0, 1] [] (hi) rfl rfl rfl ⟨_, evl, _, evl, _, evl, obl, by decide, by decide, by first | trivial | exact ⟨rfl, trivial⟩ | exact ⟨rfl, rfl, trivial⟩ | exact ⟨rfl, rfl, rfl, trivial⟩ | simp [handL, AV.renL, AV.ren, ARow.ren], by first | trivial | exact ⟨rfl, trivial⟩ | exact ⟨rfl, rfl, trivial⟩ | exact ⟨rfl, rfl, rfl, trivial⟩ | simp [handL, AV.renL, AV.ren, ARow.ren], (by first | (simp [AV.subL, AV.sub]; done) | (simp only [List.forall_mem_cons, List.not_mem_nil, false_implies, implies_true, and_true, true_and, AV.subL, AV.sub, List.length_cons, List.length_nil, Nat.zero_add, Nat.reduceAdd]; (repeat' apply And.intro) <;> first | trivial | omega | (simp; done) | (refine AV.sub_free _ ?_; exact lA_free (fun _ => by simp) _) | (refine AV.subL_free _ ?_; simp; done) | (intro r hr; cases hr; done))), _, evl, _, evl, _, evl, ?_⟩
  repeat
    first
      | (refine runS_nil (hK _ ?_); clear hK K)
      | refine stG ?_
      | (refine gateA 1 rfl ?_; refine runA_put ?_)
      | (refine gateBc ?_; first | (refine runB_nil (hK _ ?_); clear hK K) | (refine runB_op rfl ⟨_, evl, fun nb' => ?_⟩))
      | refine wpA_region (fun K hK => ?_)
      | (refine gateD ?_; first | (refine wpA_drawG false rfl (by kernel_rfl) (by kernel_rfl) (fun K hK => ?_)) | (refine wpA_drawG true rfl (by kernel_rfl) (by kernel_rfl) (fun K hK => ?_)))
  refine wpA_cond' ⟨_, evl, fun hb => ?_, fun hb => ?_⟩
  · simp only [decide_eq_true_eq] at hb
    rw [if_pos hb]
    try refine wkG trivial ?_
    try (refine Stop.mk ?_; intro K hK)
    refine ret_of (by simp) ⟨_, _, _, evl, ob0, OutOk.eq ?_ ?_⟩
    · rfl
    · simp [AV.free, AV.freeL, go_sem]
  · simp only [decide_eq_false_iff_not] at hb
    rw [if_neg hb]
    try refine wkG trivial ?_
    try (refine Stop.mk ?_; intro K hK)
    refine ret_of (by simp) ⟨_, _, _, evl, ob0, OutOk.eq ?_ ?_⟩
    · rfl
    · exact ⟨Auth.free _, trivial, trivial⟩
theorem sbetween_A (n lo hi : Int) : FnA Tryz.prog 52 [.raw (.int .i64 n), .raw (.int .i64 lo), .raw (.int .i64 hi)] (.raw (.bool (decide (lo ≤ n) && decide (n ≤ hi)))) := by
  refine fnA_of tblOk Tryz.func52 rfl (by kernel_rfl) 15 Tryz.ntmps52 (by simp only [List.length_cons, List.length_nil]; omega) [.tmp 6] rfl ?_
  simp only [entrySt, argSl, Nat.zero_add, Nat.reduceAdd]
  repeat' first
    | refine wkG trivial ?_
    | (refine cndS ⟨_, evl, ⟨cb, cb⟩, fun hb => ?_, fun hb => ?_⟩ <;> try (cases hb; done))
    | (refine Stop.mk ?_; intro K hK)
    | fail
  all_goals (try (refine ret_of (by simp) ⟨_, _, _, evl, ob0, OutOk.sims ?_ fre⟩))
  all_goals first | exact Sims.refl _ | (refine Sims.of_eq ?_; first | rfl | (simp []; done) | (simp_all []; done) | (simp_all []; omega) | (simp []; grind) | (split <;> simp_all)) | exact simsF | (refine Sims.tup ?_; simp only [SimsL, and_true]; (repeat' apply And.intro) <;> first | exact simsF | skip) | (exfalso; first | omega | (simp_all; done) | (simp_all; omega)) | skip
def authF (a : Auth) : Prop := (0 ≤ a.err ∧ a.err ≤ 1000000) ∧ (0 ≤ a.cost ∧ a.cost ≤ 1000000) ∧ 1 ≤ a.key ∧ a.key ≤ 1073741788
instance (a : Auth) : Decidable (authF a) := by unfold authF; infer_instance
theorem formedU_A (a : Auth) : FnA Tryz.prog 43 [.agg a.av] (.raw (.bool (decide (authF a)))) := by
  refine fnA_of tblOk Tryz.func43 rfl (by kernel_rfl) 16 Tryz.ntmps43 (by simp only [List.length_cons, List.length_nil]; omega) [.tmp 2] rfl ?_
  simp only [entrySt, argSl, Nat.zero_add, Nat.reduceAdd]
  repeat'
    first
      | first
        | (refine runS_nil (hK _ ?_); clear hK K)
        | refine stG ?_
        | (refine gateS 1 rfl ?_; refine runS_call rfl rfl ⟨_, evl, _, _, _, evl, oblG, ?_⟩; apply Exists.intro; refine ⟨fun hg => ?_, ?_⟩; · first | exact FnA.at_ (sbetween_A _ _ _) rfl rfl | exact FnA.at_s (sbetween_A _ _ _) rfl simT | exact FnA.at_s (sbetween_A _ _ _) rfl simF)
        | (refine gateA 1 rfl ?_; refine runA_call rfl ⟨_, evl, _, _, _, (fun _ _ => evlA), oblG, ?_⟩; apply Exists.intro; refine ⟨fun hg => ?_, ?_⟩; · first | exact FnA.at_ (sbetween_A _ _ _) rfl rfl | exact FnA.at_s (sbetween_A _ _ _) rfl simT | exact FnA.at_s (sbetween_A _ _ _) rfl simF)
        | (refine gateA 1 rfl ?_; refine runA_put ?_)
        | (refine gateBc ?_; first | (refine runB_nil (hK _ ?_); clear hK K) | (refine runB_op rfl ⟨_, evl, fun nb' => ?_⟩))
        | refine wpA_region (fun K hK => ?_)
        | (refine gateD ?_; first | (refine wpA_drawG false rfl (by kernel_rfl) (by kernel_rfl) (fun K hK => ?_)) | (refine wpA_drawG true rfl (by kernel_rfl) (by kernel_rfl) (fun K hK => ?_)))
        | (refine wpA_cond' ⟨_, evl, fun hb => ?_, fun hb => ?_⟩ <;> (try simp only [Bool.or_eq_true, Bool.and_eq_true, Bool.or_eq_false_iff, Bool.and_eq_false_iff, Bool.not_eq_true', Bool.not_eq_false', Bool.not_eq_true, Bool.not_eq_false, decide_eq_true_eq, decide_eq_false_iff_not, Bool.true_eq_false, Bool.false_eq_true, ne_eq, Classical.not_not, Int.not_lt, Int.not_le, Bool.not_true, Bool.not_false] at hb))
      | fail
  all_goals (try (refine ret_of (by simp) ⟨_, _, _, evl, ob0, OutOk.sims ?_ fre⟩))
  all_goals first | exact Sims.refl _ | (refine Sims.of_eq ?_; first | rfl | (simp [authF]; done) | (simp_all [authF]; done) | (simp_all [authF]; omega) | (simp [authF]; grind) | (split <;> simp_all)) | exact simsF | (refine Sims.tup ?_; simp only [SimsL, and_true]; (repeat' apply And.intro) <;> first | exact simsF | skip) | (exfalso; first | omega | (simp_all; done) | (simp_all; omega)) | skip
end Go.Proofs.YtcdgncmkkknmlaaGreatDoor
