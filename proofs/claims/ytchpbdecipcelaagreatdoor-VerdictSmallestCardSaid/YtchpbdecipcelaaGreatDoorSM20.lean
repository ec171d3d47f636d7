import Derived.Test.YtchpbdecipcelaaGreatDoorSM16
import Derived.Test.YtchpbdecipcelaaGreatDoorSM19
namespace Go.Proofs.YtchpbdecipcelaaGreatDoor
set_option linter.unusedVariables false
set_option linter.unusedSimpArgs false
set_option maxHeartbeats 4000000
set_option maxRecDepth 100000
open Go.RowKit
theorem valid_step {l : List KeyWin} (h : ValidP l) {i : Nat} (h0 : 0 < i) (hi : i < l.length) : (l.getD (i - 1) default).auth < (l.getD i default).auth ∨ (l.getD i default).auth = (l.getD (i - 1) default).auth ∧ (l.getD i default).id = (l.getD (i - 1) default).id + 1 := by
  have h1 := h.2.2 i hi
  unfold rightP at h1
  split at h1
  · rename_i h2
    rcases h2 with h2 | h2
    · omega
    · exact .inl h2
  · exact .inr ⟨h1.1.1, h1.1.2.1⟩
theorem valid_lex {l : List KeyWin} (h : ValidP l) : ∀ (j i : Nat), i < j → j < l.length → (l.getD i default).auth < (l.getD j default).auth ∨ (l.getD i default).auth = (l.getD j default).auth ∧ (l.getD i default).id < (l.getD j default).id
  | 0, i, hi, _ => by omega
  | j + 1, i, hi, hj => by
    have h1 := valid_step h (i := j + 1) (by omega) hj
    rw [Nat.add_sub_cancel] at h1
    rcases Nat.lt_succ_iff_lt_or_eq.1 hi with h2 | rfl
    · have h3 := valid_lex h j i h2 (by omega)
      omega
    · omega
theorem cmpK_lt (k : KeyWin) (auth id : Int) : cmpK k auth id < 0 ↔ k.auth < auth ∨ k.auth = auth ∧ k.id < id := by
  unfold cmpK cmpI; grind
theorem valid_rises {l : List KeyWin} (h : ValidP l) (auth id : Int) : risesC l fun k => cmpK k auth id := by
  intro i j hij hj hc
  rcases Nat.lt_or_eq_of_le hij with h1 | rfl
  · have := valid_lex h j i h1 hj
    rw [cmpK_lt] at hc ⊢
    omega
  · exact hc
def findN (l : List KeyWin) (auth id : Int) : Nat := lowN l fun k => cmpK k auth id
def foundM (l : List KeyWin) (auth id : Int) : Bool := decide (findN l auth id < l.length) && decide (cmpK (l.getD (findN l auth id) default) auth id = 0)
theorem find_A (l : List KeyWin) (h : ValidP l) (auth id : Int) : FnA Tryz.prog 235 [lA 7 KeyWin.av l, .raw (.int .i64 auth), .raw (.int .i64 id)] (.tup [.raw (.int .i64 (findN l auth id)), .raw (.bool (foundM l auth id))]) := by
  have hl : l.length ≤ 4611686018427387904 := by have := h.1; omega
  have hb := bsearch_A l hl (liA [auth, id]) (lA_free (fun _ => by simp) _) _ _ (fun k => find1_A k auth id) (valid_rises h auth id)
  have hi := ints_KA [auth, id]
  have hfr : (lA 7 KeyWin.av l).free := lA_free (fun y => KeyWin.free y) _
  have e1 : foundM l auth id = (decide (lowN l (fun k => cmpK k auth id) < l.length) && decide (cmpK (l.getD (lowN l fun k => cmpK k auth id) default) auth id = 0)) := rfl
  rw [← e1] at hb
  have e2 : findN l auth id = lowN l (fun k => cmpK k auth id) := rfl
  rw [← e2] at hb
  clear e1 e2
  generalize lA 7 KeyWin.av l = L at *
  generalize foundM l auth id = f at *
  refine fnA_of tblOk Tryz.func235 rfl (by kernel_rfl) 16 Tryz.ntmps235 lenT [.tmp 6, .tmp 7] rfl ?_
  simp only [entrySt, argSl, Nat.zero_add, Nat.reduceAdd]
  repeat'
    first
      | first
        | (refine runS_nil (hK _ ?_); clear hK K)
        | refine stG ?_
        | (refine gateS 1 rfl ?_; refine runS_call rfl rfl ⟨_, evl, _, _, _, evl, oblG, ?_⟩; apply Exists.intro; refine ⟨fun hg => ?_, ?_⟩; · first | exact FnA.at_ (hb) rfl rfl | exact FnA.at_ (hi) rfl rfl | exact FnA.at_s (hb) rfl simT | exact FnA.at_s (hb) rfl simF | exact FnA.at_s (hi) rfl simT | exact FnA.at_s (hi) rfl simF)
        | (refine gateA 1 rfl ?_; refine runA_call rfl ⟨_, evl, _, _, _, (fun _ _ => evlA), oblG, ?_⟩; apply Exists.intro; refine ⟨fun hg => ?_, ?_⟩; · first | exact FnA.at_ (hb) rfl rfl | exact FnA.at_ (hi) rfl rfl | exact FnA.at_s (hb) rfl simT | exact FnA.at_s (hb) rfl simF | exact FnA.at_s (hi) rfl simT | exact FnA.at_s (hi) rfl simF)
        | (refine gateA 1 rfl ?_; refine runA_put ?_)
        | (refine gateBc ?_; first | (refine runB_nil (hK _ ?_); clear hK K) | (refine runB_op rfl ⟨_, evl, fun nb' => ?_⟩))
        | refine wpA_region (fun K hK => ?_)
        | (refine gateD ?_; first | (refine wpA_drawG false rfl (by kernel_rfl) (by kernel_rfl) (fun K hK => ?_)) | (refine wpA_drawG true rfl (by kernel_rfl) (by kernel_rfl) (fun K hK => ?_)))
        | (refine wpA_cond' ⟨_, evl, fun hb => ?_, fun hb => ?_⟩ <;> (try simp only [Bool.or_eq_true, Bool.and_eq_true, Bool.or_eq_false_iff, Bool.and_eq_false_iff, Bool.not_eq_true', Bool.not_eq_false', Bool.not_eq_true, Bool.not_eq_false, decide_eq_true_eq, decide_eq_false_iff_not, Bool.true_eq_false, Bool.false_eq_true, ne_eq, Classical.not_not, Int.not_lt, Int.not_le, Bool.not_true, Bool.not_false] at hb))
      | fail
  all_goals (try (refine ret_of (by simp) ⟨_, _, _, evl, ob0, OutOk.sims ?_ fre⟩))
  all_goals first | exact Sims.refl _ | exact finT | exact simsF | (refine Sims.tup ?_; simp only [SimsL, and_true]; (repeat' apply And.intro) <;> first | exact simsF | skip) | (exfalso; first | omega | (simp_all; done) | (simp_all; omega)) | skip
def pubM (l : List KeyWin) (auth id : Int) (i : Iv) : Int × Int :=
  if ValidP l ∧ (0 ≤ i.lo ∧ i.lo ≤ i.hi ∧ i.hi ≤ 3000000000000000) then
    if foundM l auth id then
      if i.lo < (l.getD (findN l auth id) default).from_ ∨ (l.getD (findN l auth id) default).until_ ≤ i.hi then (0, 31) else ((l.getD (findN l auth id) default).pub, 0)
    else (0, 4)
  else (0, 1)
theorem pub_A (l : List KeyWin) (hl : l.length ≤ 4611686018427387904) (hf : ∀ k ∈ l, k.fits) (auth id : Int) (i : Iv) : FnA Tryz.prog 199 [lA 7 KeyWin.av l, .raw (.int .i64 auth), .raw (.int .i64 id), .agg i.av] (.tup [.raw (.int .i64 (pubM l auth id i).1), .raw (.int .i64 (pubM l auth id i).2)]) := by
  have hv := valid_A l hl hf
  have hi := validI_A' i.lo i.hi
  have hn : foundM l auth id = true → findN l auth id < l.length := by
    unfold foundM; simp; intro h _; exact h
  refine fnA_of tblOk Tryz.func199 rfl (by kernel_rfl) 54 Tryz.ntmps199 lenT [.tmp 8, .tmp 9] rfl ?_
  simp only [entrySt, argSl, Nat.zero_add, Nat.reduceAdd]
  repeat'
    first
      | first
        | (refine runS_nil (hK _ ?_); clear hK K)
        | refine stG ?_
        | (refine gateS 1 rfl ?_; refine runS_call rfl rfl ⟨_, evl, _, _, _, evl, oblG, ?_⟩; apply Exists.intro; refine ⟨fun hg => ?_, ?_⟩; · first | exact FnA.at_ (hv) rfl rfl | exact FnA.at_ (hi) rfl rfl | exact FnA.at_ (find_A l (by simp_all) auth id) rfl rfl | exact FnA.at_s (hv) rfl simT | exact FnA.at_s (hv) rfl simF | exact FnA.at_s (hi) rfl simT | exact FnA.at_s (hi) rfl simF | exact FnA.at_s (find_A l (by simp_all) auth id) rfl simT | exact FnA.at_s (find_A l (by simp_all) auth id) rfl simF)
        | (refine gateA 1 rfl ?_; refine runA_call rfl ⟨_, evl, _, _, _, (fun _ _ => evlA), oblG, ?_⟩; apply Exists.intro; refine ⟨fun hg => ?_, ?_⟩; · first | exact FnA.at_ (hv) rfl rfl | exact FnA.at_ (hi) rfl rfl | exact FnA.at_ (find_A l (by simp_all) auth id) rfl rfl | exact FnA.at_s (hv) rfl simT | exact FnA.at_s (hv) rfl simF | exact FnA.at_s (hi) rfl simT | exact FnA.at_s (hi) rfl simF | exact FnA.at_s (find_A l (by simp_all) auth id) rfl simT | exact FnA.at_s (find_A l (by simp_all) auth id) rfl simF)
        | (refine gateA 1 rfl ?_; refine runA_put ?_)
        | (refine gateBc ?_; first | (refine runB_nil (hK _ ?_); clear hK K) | (refine runB_op rfl ⟨_, evl, fun nb' => ?_⟩))
        | refine wpA_region (fun K hK => ?_)
        | (refine gateD ?_; first | (refine wpA_drawG false rfl (by kernel_rfl) (by kernel_rfl) (fun K hK => ?_)) | (refine wpA_drawG true rfl (by kernel_rfl) (by kernel_rfl) (fun K hK => ?_)))
        | (refine wpA_cond' ⟨_, evl, fun hb => ?_, fun hb => ?_⟩ <;> (try simp only [Bool.or_eq_true, Bool.and_eq_true, Bool.or_eq_false_iff, Bool.and_eq_false_iff, Bool.not_eq_true', Bool.not_eq_false', Bool.not_eq_true, Bool.not_eq_false, decide_eq_true_eq, decide_eq_false_iff_not, Bool.true_eq_false, Bool.false_eq_true, ne_eq, Classical.not_not, Int.not_lt, Int.not_le, Bool.not_true, Bool.not_false] at hb))
      | fail
  all_goals (try (refine ret_of (by simp) ⟨_, _, _, evl, ob0, OutOk.sims ?_ fre⟩))
  all_goals first | exact Sims.refl _ | (refine Sims.of_eq ?_; first | rfl | (simp [pubM]; done) | (simp_all [pubM]; done) | (simp_all [pubM]; omega) | (simp [pubM]; grind) | (split <;> simp_all)) | exact simsF | (refine Sims.tup ?_; simp only [SimsL, and_true]; (repeat' apply And.intro) <;> first | exact simsF | skip) | (exfalso; first | omega | (simp_all; done) | (simp_all; omega)) | skip
end Go.Proofs.YtchpbdecipcelaaGreatDoor
namespace Go.Proofs.YtchpbdecipcelaaGreatDoor
set_option linter.unusedVariables false
set_option linter.unusedSimpArgs false
set_option maxHeartbeats 4000000
set_option maxRecDepth 100000
open Go.RowKit
structure Auth where
  id : Int
  err : Int
  cost : Int
  key : Int
  deriving Inhabited, DecidableEq
@[go_sem] def Auth.av (x : Auth) : List AV := [.raw (.int .i64 x.id), .raw (.int .i64 x.err), .raw (.int .i64 x.cost), .raw (.int .i64 x.key)]
@[simp] theorem Auth.free (x : Auth) : AV.freeL x.av := ⟨trivial, trivial, trivial, trivial, trivial⟩
abbrev zeroR : Reply := ⟨0, 0, 0, 0, ⟨0, 0⟩, 0, 0, ⟨0, 0⟩⟩
abbrev bare (r : Reply) : Reply := { r with sig := ⟨0, 0⟩ }
theorem okI_msgR {r : Reply} (h : r.fits) : okI (msgR r) := by
  obtain ⟨h1, h2, h3, h4, h5, h6, h7, h8⟩ := h
  intro n hn
  simp only [msgR, List.mem_cons, List.not_mem_nil, or_false] at hn
  simp only [inK] at h4
  rcases hn with rfl | rfl | rfl | rfl | rfl | rfl | rfl | rfl | rfl
  · exact h1
  · exact h2
  · exact h3
  · simp only [inK]; omega
  · simp only [inK]; omega
  · exact h5.1
  · exact h5.2
  · exact h6
  · exact h7
def rsignM (key once : Int) (r : Reply) : Reply × Int := if replyP (bare r) then (if (signM key once (msgR r)).2 = 0 then ({ r with sig := (signM key once (msgR r)).1 }, 0) else (zeroR, (signM key once (msgR r)).2)) else (zeroR, 1)
theorem pubM_fits {l : List KeyWin} (hf : ∀ k ∈ l, k.fits) (auth id : Int) (i : Iv) : inK .i64 (pubM l auth id i).1 := by
  have h0 : inK .i64 0 := by simp [inK]
  unfold pubM
  split
  · split
    · rename_i h
      split
      · exact h0
      · simp only [foundM, Bool.and_eq_true, decide_eq_true_eq] at h
        exact (hf _ (by rw [getD_get h.1]; exact List.getElem_mem _)).2.2.1
    · exact h0
  · exact h0
def rightM (l : List KeyWin) (r : Reply) : Bool := decide ((pubM l r.auth r.key r.stamp).2 = 0) && (verifyM (pubM l r.auth r.key r.stamp).1 r.sig (msgR r)).1
theorem rright_A (l : List KeyWin) (hl : l.length ≤ 4611686018427387904) (hf : ∀ k ∈ l, k.fits) (r : Reply) (hr : r.fits) : FnA Tryz.prog 133 [lA 7 KeyWin.av l, .agg r.av] (.raw (.bool (rightM l r))) := by
  have hp := pub_A l hl hf r.auth r.key r.stamp
  have hpf := pubM_fits hf r.auth r.key r.stamp
  have hm := rmessage_A r hr.2.2.2.1
  have hv := verify_A (pubM l r.auth r.key r.stamp).1 r.sig (msgR r) (okI_msgR hr) hpf (by simp [msgR])
  have hfm : (liA (msgR r)).free := lA_free (fun _ => by simp [AV.free, AV.freeL, iC]) _
  have hfr : (lA 7 KeyWin.av l).free := lA_free (fun y => KeyWin.free y) _
  unfold rightM
  generalize verifyM (pubM l r.auth r.key r.stamp).1 r.sig (msgR r) = v at *
  generalize pubM l r.auth r.key r.stamp = p at *
  generalize liA (msgR r) = M at *
  clear hpf hf hl
  by_cases h2 : p.2 = 0
  · rw [h2] at hp
    rw [h2]
    refine fnA_of tblOk Tryz.func133 rfl (by kernel_rfl) 32 Tryz.ntmps133 lenT [.tmp 4] rfl ?_
    simp only [entrySt, argSl, Nat.zero_add, Nat.reduceAdd]
    repeat' first
      | refine wkG (And.intro hp (And.intro hm hv)) ?_
      | (refine cndS ⟨_, evl, ⟨cb, cb⟩, fun hb => ?_, fun hb => ?_⟩ <;> try (cases hb; done))
      | (refine Stop.mk ?_; intro K hK)
      | fail
    refine ret_of (by simp) ⟨_, _, _, evl, ob0, OutOk.eq ?_ ?_⟩
    · simp
    · simp [AV.free]
  · rw [decide_eq_false h2]
    refine fnA_of tblOk Tryz.func133 rfl (by kernel_rfl) 32 Tryz.ntmps133 lenT [.tmp 4] rfl ?_
    simp only [entrySt, argSl, Nat.zero_add, Nat.reduceAdd]
    repeat' first
      | refine wkG (And.intro hp (And.intro hm hv)) ?_
      | (refine cndS ⟨_, evl, ⟨cb, cb⟩, fun hb => ?_, fun hb => ?_⟩ <;> try (cases hb; done))
      | (refine Stop.mk ?_; intro K hK)
      | fail
    · refine ret_of (by simp) ⟨_, _, _, evl, ob0, OutOk.eq ?_ ?_⟩
      · simp
      · simp [AV.free]
    · exact absurd hb h2
theorem rRight_A (l : List KeyWin) (hl : l.length ≤ 4611686018427387904) (hf : ∀ k ∈ l, k.fits) (r : Reply) (hr : r.fits) : FnA Tryz.prog 80 [lA 7 KeyWin.av l, .agg r.av] (.tup [.raw (.bool (decide (ValidP l) && decide (replyP r) && rightM l r)), .raw (.int .i64 (if ValidP l ∧ replyP r then 0 else 1))]) := by
  have h1 := valid_A l hl hf
  have h2 := rvalid_A r hr
  have h3 := rright_A l hl hf r hr
  have hfr : (lA 7 KeyWin.av l).free := lA_free (fun y => KeyWin.free y) _
  rw [show (if ValidP l ∧ replyP r then (0 : Int) else 1) = if (decide (ValidP l) && decide (replyP r)) = true then 0 else 1 from by simp]
  generalize rightM l r = b at *
  generalize decide (ValidP l) = v at *
  generalize decide (replyP r) = w at *
  clear hl hf
  refine fnA_of tblOk Tryz.func80 rfl (by kernel_rfl) 17 Tryz.ntmps80 lenT [.tmp 4, .tmp 5] rfl ?_
  simp only [entrySt, argSl, Nat.zero_add, Nat.reduceAdd]
  repeat' first
    | refine wkG (And.intro h1 (And.intro h2 h3)) ?_
    | (refine cndS ⟨_, evl, ⟨cb, cb⟩, fun hb => ?_, fun hb => ?_⟩ <;> try (cases hb; done))
    | (refine Stop.mk ?_; intro K hK)
    | fail
  · refine ret_of (by simp) ⟨_, _, _, evl, ob0, OutOk.eq ?_ ?_⟩
    · rcases hb with rfl | rfl <;> simp
    · simp [AV.free, AV.freeL]
  · refine ret_of (by simp) ⟨_, _, _, evl, ob0, OutOk.eq ?_ ?_⟩
    · obtain ⟨rfl, rfl⟩ := hb; simp
    · simp [AV.free, AV.freeL]
def authP (a : Auth) : Prop := (1 ≤ a.id ∧ a.id ≤ 16) ∧ 0 ≤ a.err ∧ a.err ≤ 1000000
instance (a : Auth) : Decidable (authP a) := by unfold authP; infer_instance
def honestP (a : Auth) (r : Reply) (at_ : Int) : Prop := r.auth = a.id ∧ r.stamp.lo ≤ at_ ∧ at_ ≤ r.stamp.hi ∧ r.stamp.hi - r.stamp.lo ≤ 2 * a.err
instance (a : Auth) (r : Reply) (at_ : Int) : Decidable (honestP a r at_) := by unfold honestP; infer_instance
end Go.Proofs.YtchpbdecipcelaaGreatDoor
