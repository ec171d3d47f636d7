/- The statement KeysMatchesReference, walked. -/
import Derived.Test.YtihnjbnlbedpaaaDoorOp22
import Derived.Test.YtihnjbnlbedpaaaDoorAns
namespace Go.Proofs.YtihnjbnlbedpaaaDoor
set_option linter.unusedVariables false
set_option linter.unusedSimpArgs false
set_option maxHeartbeats 4000000
set_option maxRecDepth 100000
open Go.RowKit
theorem annM_len (l : List KeyWin) (key once : Int) (next : KeyWin) (h : l.length ≤ 30) : (annM l key once next).1.length ≤ 31 := by
  by_cases he : (annM l key once next).2 = 0
  · obtain ⟨h1, h2⟩ := annM_ok he
    rw [h2, insK_len _ h1.le]; omega
  · rw [annM_err he]; simp
theorem keysMR_A (l : List KeyWin) (hf : ∀ k ∈ l, k.fits) (key once : Int) (next : KeyWin) (hn : next.fits) (auth id : Int) (i : Iv) :
    FnA Tryd.prog 3 [lA 7 KeyWin.av l, .raw (.int .i64 key), .raw (.int .i64 once), .agg next.av, .raw (.int .i64 auth), .raw (.int .i64 id), .agg i.av] (.raw (.bool true)) := by
  have hfew := fewR_A l
  have hh := head_A
  by_cases hc : l.length ≤ 30
  · have hl : l.length ≤ 4611686018427387904 := by omega
    have a1 := announce_A l hl hf key once next hn
    have a2 := announceR_A l hl hf key once next hn
    have hal := annM_len l key once next hc
    have v1 := valid_A l hl hf
    have v2 := validR_A l hf
    have m1 := message_A next
    have m2 := messageR_A next
    have p1 := pub_A l hl hf auth id i
    have p2 := pubR_A l hl hf auth id i
    have s1 := sameR_A (annM l key once next).1 (annM l key once next).1 (by omega)
    have s2 := sameI_A (msgM next) (msgM next) (by simp [msgM])
    rw [decide_eq_true rfl] at s1 s2
    have f1 : (lA 7 KeyWin.av (annM l key once next).1).free := lA_free (fun y => KeyWin.free y) _
    have f2 : (liA (msgM next)).free := lA_free (fun _ => by simp [AV.free, AV.freeL, iC]) _
    rw [decide_eq_true hc] at hfew
    clear hal hf hn
    generalize liA (msgM next) = L at *
    generalize (annM l key once next).2 = e at *
    generalize lA 7 KeyWin.av (annM l key once next).1 = M at *
    generalize pubM l auth id i = q at *
    generalize decide (ValidP l) = b at *
    refine fnA_of tblOk Tryd.func3 rfl (by kernel_rfl) 95 Tryd.ntmps3 (by simp only [List.length_cons, List.length_nil]; omega) [.tmp 14] rfl ?_
    simp only [entrySt, argSl, Nat.zero_add, Nat.reduceAdd]
    repeat'
      first
        | first
          | (refine runS_nil (hK _ ?_); clear hK K)
          | refine stG ?_
          | (refine gateS 1 rfl ?_; refine runS_call rfl rfl ⟨_, evl, _, _, _, evl, oblF, ?_⟩; apply Exists.intro; refine ⟨fun hg => ?_, ?_⟩; · first | exact FnA.at_ (hh) rfl rfl | exact FnA.at_ (hfew) rfl rfl | exact FnA.at_ (a1) rfl rfl | exact FnA.at_ (a2) rfl rfl | exact FnA.at_ (v1) rfl rfl | exact FnA.at_ (v2) rfl rfl | exact FnA.at_ (m1) rfl rfl | exact FnA.at_ (m2) rfl rfl | exact FnA.at_ (p1) rfl rfl | exact FnA.at_ (p2) rfl rfl | exact FnA.at_ (s1) rfl rfl | exact FnA.at_ (s2) rfl rfl | exact FnA.at_s (hh) rfl simT | exact FnA.at_s (hh) rfl simF | exact FnA.at_s (hfew) rfl simT | exact FnA.at_s (hfew) rfl simF | exact FnA.at_s (a1) rfl simT | exact FnA.at_s (a1) rfl simF | exact FnA.at_s (a2) rfl simT | exact FnA.at_s (a2) rfl simF | exact FnA.at_s (v1) rfl simT | exact FnA.at_s (v1) rfl simF | exact FnA.at_s (v2) rfl simT | exact FnA.at_s (v2) rfl simF | exact FnA.at_s (m1) rfl simT | exact FnA.at_s (m1) rfl simF | exact FnA.at_s (m2) rfl simT | exact FnA.at_s (m2) rfl simF | exact FnA.at_s (p1) rfl simT | exact FnA.at_s (p1) rfl simF | exact FnA.at_s (p2) rfl simT | exact FnA.at_s (p2) rfl simF | exact FnA.at_s (s1) rfl simT | exact FnA.at_s (s1) rfl simF | exact FnA.at_s (s2) rfl simT | exact FnA.at_s (s2) rfl simF)
          | (refine gateA 1 rfl ?_; refine runA_call rfl ⟨_, evl, _, _, _, (fun _ _ => evlA), oblF, ?_⟩; apply Exists.intro; refine ⟨fun hg => ?_, ?_⟩; · first | exact FnA.at_ (hh) rfl rfl | exact FnA.at_ (hfew) rfl rfl | exact FnA.at_ (a1) rfl rfl | exact FnA.at_ (a2) rfl rfl | exact FnA.at_ (v1) rfl rfl | exact FnA.at_ (v2) rfl rfl | exact FnA.at_ (m1) rfl rfl | exact FnA.at_ (m2) rfl rfl | exact FnA.at_ (p1) rfl rfl | exact FnA.at_ (p2) rfl rfl | exact FnA.at_ (s1) rfl rfl | exact FnA.at_ (s2) rfl rfl | exact FnA.at_s (hh) rfl simT | exact FnA.at_s (hh) rfl simF | exact FnA.at_s (hfew) rfl simT | exact FnA.at_s (hfew) rfl simF | exact FnA.at_s (a1) rfl simT | exact FnA.at_s (a1) rfl simF | exact FnA.at_s (a2) rfl simT | exact FnA.at_s (a2) rfl simF | exact FnA.at_s (v1) rfl simT | exact FnA.at_s (v1) rfl simF | exact FnA.at_s (v2) rfl simT | exact FnA.at_s (v2) rfl simF | exact FnA.at_s (m1) rfl simT | exact FnA.at_s (m1) rfl simF | exact FnA.at_s (m2) rfl simT | exact FnA.at_s (m2) rfl simF | exact FnA.at_s (p1) rfl simT | exact FnA.at_s (p1) rfl simF | exact FnA.at_s (p2) rfl simT | exact FnA.at_s (p2) rfl simF | exact FnA.at_s (s1) rfl simT | exact FnA.at_s (s1) rfl simF | exact FnA.at_s (s2) rfl simT | exact FnA.at_s (s2) rfl simF)
          | (refine gateA 1 rfl ?_; refine runA_put ?_)
          | (refine gateBc ?_; first | (refine runB_nil (hK _ ?_); clear hK K) | (refine runB_op rfl ⟨_, evl, fun nb' => ?_⟩))
          | refine wpA_region (fun K hK => ?_)
          | (refine gateD ?_; first | (refine wpA_drawG false rfl (by kernel_rfl) (by kernel_rfl) (fun K hK => ?_)) | (refine wpA_drawG true rfl (by kernel_rfl) (by kernel_rfl) (fun K hK => ?_)))
          | (refine wpA_cond' ⟨_, evl, fun hb => ?_, fun hb => ?_⟩ <;> (try simp only [Bool.or_eq_true, Bool.and_eq_true, Bool.or_eq_false_iff, Bool.and_eq_false_iff, Bool.not_eq_true', Bool.not_eq_false', Bool.not_eq_true, Bool.not_eq_false, decide_eq_true_eq, decide_eq_false_iff_not, Bool.true_eq_false, Bool.false_eq_true, ne_eq, Classical.not_not, Int.not_lt, Int.not_le, Bool.not_true, Bool.not_false] at hb))
        | fail
    · refine ret_of (by simp) ⟨_, _, _, evl, ob0, OutOk.eq ?_ ?_⟩
      · rfl
      · simp [AV.free]
  · rw [decide_eq_false hc] at hfew
    refine fnA_of tblOk Tryd.func3 rfl (by kernel_rfl) 95 Tryd.ntmps3 (by simp only [List.length_cons, List.length_nil]; omega) [.tmp 14] rfl ?_
    simp only [entrySt, argSl, Nat.zero_add, Nat.reduceAdd]
    repeat'
      first
        | first
          | (refine runS_nil (hK _ ?_); clear hK K)
          | refine stG ?_
          | (refine gateS 1 rfl ?_; refine runS_call rfl rfl ⟨_, evl, _, _, _, evl, oblF, ?_⟩; apply Exists.intro; refine ⟨fun hg => ?_, ?_⟩; · first | exact FnA.at_ (hh) rfl rfl | exact FnA.at_ (hfew) rfl rfl | exact FnA.at_s (hh) rfl simT | exact FnA.at_s (hh) rfl simF | exact FnA.at_s (hfew) rfl simT | exact FnA.at_s (hfew) rfl simF)
          | (refine gateA 1 rfl ?_; refine runA_call rfl ⟨_, evl, _, _, _, (fun _ _ => evlA), oblF, ?_⟩; apply Exists.intro; refine ⟨fun hg => ?_, ?_⟩; · first | exact FnA.at_ (hh) rfl rfl | exact FnA.at_ (hfew) rfl rfl | exact FnA.at_s (hh) rfl simT | exact FnA.at_s (hh) rfl simF | exact FnA.at_s (hfew) rfl simT | exact FnA.at_s (hfew) rfl simF)
          | (refine gateA 1 rfl ?_; refine runA_put ?_)
          | (refine gateBc ?_; first | (refine runB_nil (hK _ ?_); clear hK K) | (refine runB_op rfl ⟨_, evl, fun nb' => ?_⟩))
          | refine wpA_region (fun K hK => ?_)
          | (refine gateD ?_; first | (refine wpA_drawG false rfl (by kernel_rfl) (by kernel_rfl) (fun K hK => ?_)) | (refine wpA_drawG true rfl (by kernel_rfl) (by kernel_rfl) (fun K hK => ?_)))
          | (refine wpA_cond' ⟨_, evl, fun hb => ?_, fun hb => ?_⟩ <;> (try simp only [Bool.or_eq_true, Bool.and_eq_true, Bool.or_eq_false_iff, Bool.and_eq_false_iff, Bool.not_eq_true', Bool.not_eq_false', Bool.not_eq_true, Bool.not_eq_false, decide_eq_true_eq, decide_eq_false_iff_not, Bool.true_eq_false, Bool.false_eq_true, ne_eq, Classical.not_not, Int.not_lt, Int.not_le, Bool.not_true, Bool.not_false] at hb))
        | fail
    · refine ret_of (by simp) ⟨_, _, _, evl, ob0, OutOk.eq ?_ ?_⟩
      · rfl
      · simp [AV.free]
theorem keysMatchesReference_B {x0 x1 x2 x3 x4 x5 x6 : List AV} (k0 : CellsOk tbl 30 22 x0) (k1 : CellsOk tbl 30 3 x1) (k2 : CellsOk tbl 30 3 x2) (k3 : CellsOk tbl 30 26 x3) (k4 : CellsOk tbl 30 3 x4) (k5 : CellsOk tbl 30 3 x5) (k6 : CellsOk tbl 30 28 x6) :
    FnA Tryd.prog 3 [valA false x0, valA false x1, valA false x2, valA true x3, valA false x4, valA false x5, valA true x6] (.raw (.bool true)) := by
  obtain ⟨l, h0, hf, _⟩ := open_KeyWins k0
  obtain ⟨c1, rfl, _⟩ := open_int k1
  obtain ⟨c2, rfl, _⟩ := open_int k2
  obtain ⟨c3, rfl, hn⟩ := open_KeyWin k3
  obtain ⟨c4, rfl, _⟩ := open_int k4
  obtain ⟨c5, rfl, _⟩ := open_int k5
  obtain ⟨c6, rfl, _⟩ := open_Iv k6
  exact FnA.sim (keysMR_A l hf c1 c2 c3 hn c4 c5 c6) ⟨h0, Sim.of_eq rfl, Sim.of_eq rfl, Sim.of_eq rfl, Sim.of_eq rfl, Sim.of_eq rfl, Sim.of_eq rfl, trivial⟩
end Go.Proofs.YtihnjbnlbedpaaaDoor
