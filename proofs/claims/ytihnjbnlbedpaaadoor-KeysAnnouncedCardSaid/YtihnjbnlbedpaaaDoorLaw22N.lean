/- The statement KeysAnnounced, walked. -/
import Derived.Test.YtihnjbnlbedpaaaDoorOp22
import Derived.Test.YtihnjbnlbedpaaaDoorAns
namespace Go.Proofs.YtihnjbnlbedpaaaDoor
set_option linter.unusedVariables false
set_option linter.unusedSimpArgs false
set_option maxHeartbeats 4000000
set_option maxRecDepth 100000
open Go.RowKit
def cntN (n k : Nat) : Nat := if k ≤ n then k else k - 1
theorem cnt_le {n k : Nat} (h : k ≤ n) : cntN n k = k := if_pos h
theorem cnt_gt {n k : Nat} (h : n < k) : cntN n k = k - 1 := if_neg (by omega)
theorem keysAnnounced_A (l : List KeyWin) (hf : ∀ k ∈ l, k.fits) (key once : Int) (next : KeyWin) (hn : next.fits) (auth id : Int) (i : Iv) :
    FnA Tryd.prog 4 [lA 7 KeyWin.av l, .raw (.int .i64 key), .raw (.int .i64 once), .agg next.av, .raw (.int .i64 auth), .raw (.int .i64 id), .agg i.av] (.raw (.bool true)) := by
  have hfew := fewR_A l
  have hh := head_A
  by_cases hc : l.length ≤ 30
  · have hl : l.length ≤ 4611686018427387904 := by omega
    have a1 := announce_A l hl hf key once next hn
    rw [decide_eq_true hc] at hfew
    by_cases he : (annM l key once next).2 = 0
    · obtain ⟨hA, hM⟩ := annM_ok he
      rw [hM, he] at a1
      have hle := hA.le
      have hlen := insK_len (newK key once next) hle
      have hNf : (newK key once next).fits := by
        have hr := signM_range (m := msgM (next0 next)) hA.hkey hA.honce
        rw [withinM_iff, withinM_iff] at hr
        exact ⟨hn.1, hn.2.1, hn.2.2.1, hn.2.2.2.1, hn.2.2.2.2.1, by simp only [Sig.fits, inK]; omega⟩
      have hMf : ∀ k ∈ insK l (findN l next.auth 1001) (newK key once next), k.fits := fun k hk => by
        rcases List.mem_append.1 hk with hk | hk
        · exact hf k (List.mem_of_mem_take hk)
        · rcases List.mem_cons.1 hk with rfl | hk
          · exact hNf
          · exact hf k (List.mem_of_mem_drop hk)
      have p1 := pub_A l hl hf auth id i
      have p2 := pub_A (insK l (findN l next.auth 1001) (newK key once next)) (by omega) hMf auth id i
      have hsame := fun hne => hA.same (auth := auth) (id := id) i hne
      have v2 := valid_A (insK l (findN l next.auth 1001) (newK key once next)) (by omega) hMf
      rw [decide_eq_true hA.valid] at v2
      have hone := fun j hj => hA.one (i := j) hj
      have hget := fun j => insK_get (x := newK key once next) hle j
      have hpub := publicR_A key (by have := (withinM_iff key 1).1 hA.hkey; omega)
      have hmg := messageR_A next
      have hmk := messageR_A (newK key once next)
      have hver := verifyR_A (powM 4 key.toNat) (newK key once next).sig (msgM next) (okI_msg hn) (powM_okI (by have := (withinM_iff key 1).1 hA.hkey; omega)) (by simp [msgM])
      rw [hA.ver] at hver
      have hsm := sameI_A (msgM next) (msgM next) (by simp [msgM])
      rw [decide_eq_true rfl] at hsm
      have hss := sameR_A l l hl
      rw [decide_eq_true rfl] at hss
      have hMn := hget (findN l next.auth 1001)
      rw [if_neg (Nat.lt_irrefl _), if_pos rfl] at hMn
      generalize insK l (findN l next.auth 1001) (newK key once next) = M at *
      generalize findN l next.auth 1001 = n at *
      rw [show msgM (newK key once next) = msgM next from rfl] at hmk
      rw [← hMn] at hver hmk
      have hq : ((decide ((pubM l auth id i).1 = (pubM M auth id i).1) && decide ((pubM l auth id i).2 = (pubM M auth id i).2)) || (decide (auth = next.auth) && decide (id = next.id))) = true := by
        by_cases hne : auth = next.auth ∧ id = next.id
        · rw [decide_eq_true hne.1, decide_eq_true hne.2]; simp
        · rw [hsame hne]; simp
      generalize pubM l auth id i = q1 at *
      generalize pubM M auth id i = q2 at *
      have hfm : (liA (msgM next)).free := lA_free (fun _ => by simp [AV.free, AV.freeL, iC]) _
      generalize liA (msgM next) = LM at *
      clear hsame hNf hMf hA hM hn hf
      refine fnA_of tblOk Tryd.func4 rfl (by kernel_rfl) 147 Tryd.ntmps4 (by simp only [List.length_cons, List.length_nil]; omega) [.tmp 14] rfl ?_
      simp only [entrySt, argSl, Nat.zero_add, Nat.reduceAdd]
      repeat'
        first
          | first
            | (refine runS_nil (hK _ ?_); clear hK K)
            | refine stR ?_
            | (refine gateS 1 rfl ?_; first | (refine runS_call rfl rfl ⟨_, evl, _, _, _, evl, oblF, ?_⟩; apply Exists.intro; refine ⟨fun hg => ?_, ?_⟩; · first | exact FnA.at_ (hh) rfl rfl | exact FnA.at_ (hfew) rfl rfl | exact FnA.at_ (a1) rfl rfl | exact FnA.at_s (hh) rfl simT | exact FnA.at_s (hh) rfl simF | exact FnA.at_s (hfew) rfl simT | exact FnA.at_s (hfew) rfl simF | exact FnA.at_s (a1) rfl simT | exact FnA.at_s (a1) rfl simF) | (refine runS_callR rfl rfl ⟨_, evl, _, _, _, evl, _, _, evl, oblF, ?_⟩; apply Exists.intro; refine ⟨fun hg => ?_, ?_⟩; · first | exact FnA.at_ (hh) rfl rfl | exact FnA.at_ (hfew) rfl rfl | exact FnA.at_ (a1) rfl rfl | exact FnA.at_s (hh) rfl simT | exact FnA.at_s (hh) rfl simF | exact FnA.at_s (hfew) rfl simT | exact FnA.at_s (hfew) rfl simF | exact FnA.at_s (a1) rfl simT | exact FnA.at_s (a1) rfl simF))
            | (refine gateA 1 rfl ?_; refine runA_call rfl ⟨_, evl, _, _, _, (fun _ _ => evlA), oblF, ?_⟩; apply Exists.intro; refine ⟨fun hg => ?_, ?_⟩; · first | exact FnA.at_ (hh) rfl rfl | exact FnA.at_ (hfew) rfl rfl | exact FnA.at_ (a1) rfl rfl | exact FnA.at_s (hh) rfl simT | exact FnA.at_s (hh) rfl simF | exact FnA.at_s (hfew) rfl simT | exact FnA.at_s (hfew) rfl simF | exact FnA.at_s (a1) rfl simT | exact FnA.at_s (a1) rfl simF)
            | (refine gateA 1 rfl ?_; refine runA_put ?_)
            | (refine gateBc ?_; first | (refine runB_nil (hK _ ?_); clear hK K) | (refine runB_op rfl ⟨_, evl, fun nb' => ?_⟩))
            | refine wpA_region (fun K hK => ?_)
            | (refine gateD ?_; first | (refine wpA_drawG false rfl (by kernel_rfl) (by kernel_rfl) (fun K hK => ?_)) | (refine wpA_drawG true rfl (by kernel_rfl) (by kernel_rfl) (fun K hK => ?_)))
            | (refine wpA_cond' ⟨_, evl, fun hb => ?_, fun hb => ?_⟩ <;> (try simp only [Bool.or_eq_true, Bool.and_eq_true, Bool.or_eq_false_iff, Bool.and_eq_false_iff, Bool.not_eq_true', Bool.not_eq_false', Bool.not_eq_true, Bool.not_eq_false, decide_eq_true_eq, decide_eq_false_iff_not, Bool.true_eq_false, Bool.false_eq_true, ne_eq, Classical.not_not, Int.not_lt, Int.not_le, Bool.not_true, Bool.not_false] at hb))
          | fail
      refine wpA_weak (Weak.nilRow 18 26 7 rfl) ?_
      refine wpA_loop (fun k : Nat => ⟨147, 0, [(0, true, lA 7 KeyWin.av l), (1, true, .raw (.int .i64 key)), (4, true, .raw (.int .i64 auth)), (5, true, .raw (.int .i64 id)), (10, true, .box 0 0), (13, true, .box 1 0), (15, true, .raw (.bool true)), (16, true, lA 7 KeyWin.av M), (18, true, .row 0 (cntN n k)), (19, true, .raw (.bool (decide (n < k)))), (50, true, lA 7 KeyWin.av M), (51, true, .raw (.int .i64 M.length)), (52, true, .raw (.int .i64 k))], [KeyWin.av next, Iv.av i], [⟨26, 7, cntN n k, els KeyWin.av l⟩], ((0, []), [], true)⟩)
        (fun k => k ≤ M.length) (fun k => M.length - k) 0 ?_ (by omega) ?_
      · rw [cnt_le (Nat.zero_le n), decide_eq_false (Nat.not_lt_zero n)]
        refine Weak.gen ?_ ?_ ?_ (by simp) ?_
        rotate_left 3
        · first | (simp [subSl, subB, subR, AV.sub, AV.subL, go_sem]; done) | (simp [subSl, subB, subR, AV.sub, AV.subL, go_sem, AV.subL_free, AV.sub_free, *]; done) | (simp_all [subSl, subB, subR, AV.sub, AV.subL, go_sem]; done)
        all_goals (try simp only [SlSim, BxSim, RwSim, SimsL, lookN_cons, ↓reduceIte, Nat.reduceEqDiff, Option.some.injEq, Prod.mk.injEq, true_and, and_true, exists_eq_left', and_self])
        all_goals (try trivial)
        all_goals ((repeat' apply And.intro) <;> first | exact simsT | (intro _ _; exact simsT) | omega | (simp; done) | (simp; omega) | (intro _ _; refine SimsL.of_eq (els_snoc ?_ (by assumption) rfl) <;> first | rfl | omega | (simp; done) | (simp; omega)) | skip)
      · rintro k hk
        rcases Nat.lt_or_ge k M.length with hlt | hge
        · by_cases hkn : k = n
          · subst hkn
            have ho := (hone k (by omega)).2 rfl
            repeat'
              first
                | first
                  | (refine runS_nil (hK _ ?_); clear hK K)
                  | refine stR ?_
                  | (refine gateS 1 rfl ?_; first | (refine runS_call rfl rfl ⟨_, evl, _, _, _, evl, oblF, ?_⟩; apply Exists.intro; refine ⟨fun hg => ?_, ?_⟩; · first | exact FnA.at_ (hpub) rfl rfl | exact FnA.at_ (hmg) rfl rfl | exact FnA.at_ (hmk) rfl rfl | exact FnA.at_ (hver) rfl rfl | exact FnA.at_ (hsm) rfl rfl | exact FnA.at_s (hpub) rfl simT | exact FnA.at_s (hpub) rfl simF | exact FnA.at_s (hmg) rfl simT | exact FnA.at_s (hmg) rfl simF | exact FnA.at_s (hmk) rfl simT | exact FnA.at_s (hmk) rfl simF | exact FnA.at_s (hver) rfl simT | exact FnA.at_s (hver) rfl simF | exact FnA.at_s (hsm) rfl simT | exact FnA.at_s (hsm) rfl simF) | (refine runS_callR rfl rfl ⟨_, evl, _, _, _, evl, _, _, evl, oblF, ?_⟩; apply Exists.intro; refine ⟨fun hg => ?_, ?_⟩; · first | exact FnA.at_ (hpub) rfl rfl | exact FnA.at_ (hmg) rfl rfl | exact FnA.at_ (hmk) rfl rfl | exact FnA.at_ (hver) rfl rfl | exact FnA.at_ (hsm) rfl rfl | exact FnA.at_s (hpub) rfl simT | exact FnA.at_s (hpub) rfl simF | exact FnA.at_s (hmg) rfl simT | exact FnA.at_s (hmg) rfl simF | exact FnA.at_s (hmk) rfl simT | exact FnA.at_s (hmk) rfl simF | exact FnA.at_s (hver) rfl simT | exact FnA.at_s (hver) rfl simF | exact FnA.at_s (hsm) rfl simT | exact FnA.at_s (hsm) rfl simF))
                  | (refine gateA 1 rfl ?_; refine runA_call rfl ⟨_, evl, _, _, _, (fun _ _ => evlA), oblF, ?_⟩; apply Exists.intro; refine ⟨fun hg => ?_, ?_⟩; · first | exact FnA.at_ (hpub) rfl rfl | exact FnA.at_ (hmg) rfl rfl | exact FnA.at_ (hmk) rfl rfl | exact FnA.at_ (hver) rfl rfl | exact FnA.at_ (hsm) rfl rfl | exact FnA.at_s (hpub) rfl simT | exact FnA.at_s (hpub) rfl simF | exact FnA.at_s (hmg) rfl simT | exact FnA.at_s (hmg) rfl simF | exact FnA.at_s (hmk) rfl simT | exact FnA.at_s (hmk) rfl simF | exact FnA.at_s (hver) rfl simT | exact FnA.at_s (hver) rfl simF | exact FnA.at_s (hsm) rfl simT | exact FnA.at_s (hsm) rfl simF)
                  | (refine gateA 1 rfl ?_; refine runA_put ?_)
                  | (refine gateBc ?_; first | (refine runB_nil (hK _ ?_); clear hK K) | (refine runB_op rfl ⟨_, evl, fun nb' => ?_⟩))
                  | refine wpA_region (fun K hK => ?_)
                  | (refine gateD ?_; first | (refine wpA_drawG false rfl (by kernel_rfl) (by kernel_rfl) (fun K hK => ?_)) | (refine wpA_drawG true rfl (by kernel_rfl) (by kernel_rfl) (fun K hK => ?_)))
                  | (refine wpA_cond' ⟨_, evl, fun hb => ?_, fun hb => ?_⟩ <;> (try simp only [Bool.or_eq_true, Bool.and_eq_true, Bool.or_eq_false_iff, Bool.and_eq_false_iff, Bool.not_eq_true', Bool.not_eq_false', Bool.not_eq_true, Bool.not_eq_false, decide_eq_true_eq, decide_eq_false_iff_not, Bool.true_eq_false, Bool.false_eq_true, ne_eq, Classical.not_not, Int.not_lt, Int.not_le, Bool.not_true, Bool.not_false] at hb))
                | fail
            all_goals first | (exfalso; omega) | (exfalso; rcases hb with hb | hb; exact hb ho.1; exact hb ho.2) | skip
            refine ⟨k + 1, by omega, by omega, ?_⟩
            rw [show cntN k (k + 1) = k from by unfold cntN; rw [if_neg (by omega)]; omega, cnt_le (Nat.le_refl k), decide_eq_true (show k < k + 1 by omega)]
            refine Weak.gen ?_ ?_ ?_ (by simp) ?_
            rotate_left 3
            · first | (simp [subSl, subB, subR, AV.sub, AV.subL, go_sem]; done) | (simp [subSl, subB, subR, AV.sub, AV.subL, go_sem, AV.subL_free, AV.sub_free, *]; done) | (simp_all [subSl, subB, subR, AV.sub, AV.subL, go_sem]; done)
            all_goals (try simp only [SlSim, BxSim, RwSim, SimsL, lookN_cons, ↓reduceIte, Nat.reduceEqDiff, Option.some.injEq, Prod.mk.injEq, true_and, and_true, exists_eq_left', and_self])
            all_goals (try trivial)
            all_goals ((repeat' apply And.intro) <;> first | exact simsT | (intro _ _; exact simsT) | omega | (simp; done) | (simp; omega) | (intro _ _; refine SimsL.of_eq (els_snoc ?_ (by assumption) rfl) <;> first | rfl | omega | (simp; done) | (simp; omega)) | skip)
          · have ho := fun h => hkn ((hone k (by omega)).1 h)
            have hcn : cntN n k ≤ 30 := by unfold cntN; split <;> omega
            have hc1 : cntN n (k + 1) = cntN n k + 1 := by unfold cntN; split <;> split <;> omega
            have hd1 : decide (n < k + 1) = decide (n < k) := by rw [decide_eq_decide]; omega
            have hmk2 : M.getD k default = l.getD (cntN n k) default := by
              rw [hget]
              unfold cntN
              rcases Nat.lt_or_ge k n with h | h
              · rw [if_pos h, if_pos (by omega)]
              · rw [if_neg (by omega), if_neg hkn, if_neg (by omega)]
            repeat'
              first
                | first
                  | (refine runS_nil (hK _ ?_); clear hK K)
                  | refine stR ?_
                  | (refine gateA 1 rfl ?_; refine runA_put ?_)
                  | (refine gateBc ?_; first | (refine runB_nil (hK _ ?_); clear hK K) | (refine runB_op rfl ⟨_, evl, fun nb' => ?_⟩))
                  | refine wpA_region (fun K hK => ?_)
                  | (refine gateD ?_; first | (refine wpA_drawG false rfl (by kernel_rfl) (by kernel_rfl) (fun K hK => ?_)) | (refine wpA_drawG true rfl (by kernel_rfl) (by kernel_rfl) (fun K hK => ?_)))
                  | (refine wpA_cond' ⟨_, evl, fun hb => ?_, fun hb => ?_⟩ <;> (try simp only [Bool.or_eq_true, Bool.and_eq_true, Bool.or_eq_false_iff, Bool.and_eq_false_iff, Bool.not_eq_true', Bool.not_eq_false', Bool.not_eq_true, Bool.not_eq_false, decide_eq_true_eq, decide_eq_false_iff_not, Bool.true_eq_false, Bool.false_eq_true, ne_eq, Classical.not_not, Int.not_lt, Int.not_le, Bool.not_true, Bool.not_false] at hb))
                | fail
            all_goals first | (exfalso; omega) | (exfalso; exact ho hb) | skip
            refine ⟨k + 1, by omega, by omega, ?_⟩
            rw [hc1, hd1]
            clear hc1 hd1
            generalize cntN n k = z at *
            refine Weak.gen ?_ ?_ ?_ (by simp) ?_
            rotate_left 3
            · first | (simp [subSl, subB, subR, AV.sub, AV.subL, go_sem]; done) | (simp [subSl, subB, subR, AV.sub, AV.subL, go_sem, AV.subL_free, AV.sub_free, *]; done) | (simp_all [subSl, subB, subR, AV.sub, AV.subL, go_sem]; done)
            all_goals (try simp only [SlSim, BxSim, RwSim, SimsL, lookN_cons, ↓reduceIte, Nat.reduceEqDiff, Option.some.injEq, Prod.mk.injEq, true_and, and_true, exists_eq_left', and_self])
            all_goals (try trivial)
            all_goals ((repeat' apply And.intro) <;> first | exact simsT | (intro _ _; exact simsT) | omega | (simp; done) | (simp; omega) | (intro _ _; refine SimsL.of_eq (els_snoc ?_ (by assumption) rfl) <;> first | rfl | omega | (simp; done) | (simp; omega)) | skip)
            intro q hq
            refine SimsL.of_eq ?_
            rcases Nat.lt_or_ge q z with h | h
            · rw [appEl_lt h]
            · obtain rfl : q = z := by omega
              rw [appEl_ge (Nat.le_refl q), Nat.sub_self]
              show KeyWin.av (M.getD k default) = KeyWin.av (l.getD q default)
              rw [hmk2]
        · have hkl : k = l.length + 1 := by omega
          rw [show cntN n k = l.length from by unfold cntN; rw [if_neg (by omega)]; omega, decide_eq_true (show n < k by omega)]
          repeat'
            first
              | first
                | (refine runS_nil (hK _ ?_); clear hK K)
                | refine stR ?_
                | (refine gateS 1 rfl ?_; first | (refine runS_call rfl rfl ⟨_, evl, _, _, _, evl, oblF, ?_⟩; apply Exists.intro; refine ⟨fun hg => ?_, ?_⟩; · first | exact FnA.at_ (p1) rfl rfl | exact FnA.at_ (p2) rfl rfl | exact FnA.at_ (v2) rfl rfl | exact FnA.at_ (hss) rfl rfl | exact FnA.at_s (p1) rfl simT | exact FnA.at_s (p1) rfl simF | exact FnA.at_s (p2) rfl simT | exact FnA.at_s (p2) rfl simF | exact FnA.at_s (v2) rfl simT | exact FnA.at_s (v2) rfl simF | exact FnA.at_s (hss) rfl simT | exact FnA.at_s (hss) rfl simF) | (refine runS_callR rfl rfl ⟨_, evl, _, _, _, evl, _, _, evl, oblF, ?_⟩; apply Exists.intro; refine ⟨fun hg => ?_, ?_⟩; · first | exact FnA.at_ (p1) rfl rfl | exact FnA.at_ (p2) rfl rfl | exact FnA.at_ (v2) rfl rfl | exact FnA.at_ (hss) rfl rfl | exact FnA.at_s (p1) rfl simT | exact FnA.at_s (p1) rfl simF | exact FnA.at_s (p2) rfl simT | exact FnA.at_s (p2) rfl simF | exact FnA.at_s (v2) rfl simT | exact FnA.at_s (v2) rfl simF | exact FnA.at_s (hss) rfl simT | exact FnA.at_s (hss) rfl simF))
                | (refine gateA 1 rfl ?_; refine runA_call rfl ⟨_, evl, _, _, _, (fun _ _ => evlA), oblF, ?_⟩; apply Exists.intro; refine ⟨fun hg => ?_, ?_⟩; · first | exact FnA.at_ (p1) rfl rfl | exact FnA.at_ (p2) rfl rfl | exact FnA.at_ (v2) rfl rfl | exact FnA.at_ (hss) rfl rfl | exact FnA.at_s (p1) rfl simT | exact FnA.at_s (p1) rfl simF | exact FnA.at_s (p2) rfl simT | exact FnA.at_s (p2) rfl simF | exact FnA.at_s (v2) rfl simT | exact FnA.at_s (v2) rfl simF | exact FnA.at_s (hss) rfl simT | exact FnA.at_s (hss) rfl simF)
                | (refine gateA 1 rfl ?_; refine runA_put ?_)
                | (refine gateBc ?_; first | (refine runB_nil (hK _ ?_); clear hK K) | (refine runB_op rfl ⟨_, evl, fun nb' => ?_⟩))
                | refine wpA_region (fun K hK => ?_)
                | (refine gateD ?_; first | (refine wpA_drawG false rfl (by kernel_rfl) (by kernel_rfl) (fun K hK => ?_)) | (refine wpA_drawG true rfl (by kernel_rfl) (by kernel_rfl) (fun K hK => ?_)))
                | (refine wpA_cond' ⟨_, evl, fun hb => ?_, fun hb => ?_⟩ <;> (try simp only [Bool.or_eq_true, Bool.and_eq_true, Bool.or_eq_false_iff, Bool.and_eq_false_iff, Bool.not_eq_true', Bool.not_eq_false', Bool.not_eq_true, Bool.not_eq_false, decide_eq_true_eq, decide_eq_false_iff_not, Bool.true_eq_false, Bool.false_eq_true, ne_eq, Classical.not_not, Int.not_lt, Int.not_le, Bool.not_true, Bool.not_false] at hb))
              | fail
          all_goals first | (exfalso; omega) | skip
          refine ret_of (by simp) ⟨_, _, _, evl, ob0, OutOk.eq ?_ ?_⟩
          · rw [hq]
          · simp [AV.free]
    · rw [annM_err he] at a1
      generalize (annM l key once next).2 = e at *
      refine fnA_of tblOk Tryd.func4 rfl (by kernel_rfl) 147 Tryd.ntmps4 (by simp only [List.length_cons, List.length_nil]; omega) [.tmp 14] rfl ?_
      simp only [entrySt, argSl, Nat.zero_add, Nat.reduceAdd]
      repeat'
        first
          | first
            | (refine runS_nil (hK _ ?_); clear hK K)
            | refine stR ?_
            | (refine gateS 1 rfl ?_; first | (refine runS_call rfl rfl ⟨_, evl, _, _, _, evl, oblF, ?_⟩; apply Exists.intro; refine ⟨fun hg => ?_, ?_⟩; · first | exact FnA.at_ (hh) rfl rfl | exact FnA.at_ (hfew) rfl rfl | exact FnA.at_ (a1) rfl rfl | exact FnA.at_s (hh) rfl simT | exact FnA.at_s (hh) rfl simF | exact FnA.at_s (hfew) rfl simT | exact FnA.at_s (hfew) rfl simF | exact FnA.at_s (a1) rfl simT | exact FnA.at_s (a1) rfl simF) | (refine runS_callR rfl rfl ⟨_, evl, _, _, _, evl, _, _, evl, oblF, ?_⟩; apply Exists.intro; refine ⟨fun hg => ?_, ?_⟩; · first | exact FnA.at_ (hh) rfl rfl | exact FnA.at_ (hfew) rfl rfl | exact FnA.at_ (a1) rfl rfl | exact FnA.at_s (hh) rfl simT | exact FnA.at_s (hh) rfl simF | exact FnA.at_s (hfew) rfl simT | exact FnA.at_s (hfew) rfl simF | exact FnA.at_s (a1) rfl simT | exact FnA.at_s (a1) rfl simF))
            | (refine gateA 1 rfl ?_; refine runA_call rfl ⟨_, evl, _, _, _, (fun _ _ => evlA), oblF, ?_⟩; apply Exists.intro; refine ⟨fun hg => ?_, ?_⟩; · first | exact FnA.at_ (hh) rfl rfl | exact FnA.at_ (hfew) rfl rfl | exact FnA.at_ (a1) rfl rfl | exact FnA.at_s (hh) rfl simT | exact FnA.at_s (hh) rfl simF | exact FnA.at_s (hfew) rfl simT | exact FnA.at_s (hfew) rfl simF | exact FnA.at_s (a1) rfl simT | exact FnA.at_s (a1) rfl simF)
            | (refine gateA 1 rfl ?_; refine runA_put ?_)
            | (refine gateBc ?_; first | (refine runB_nil (hK _ ?_); clear hK K) | (refine runB_op rfl ⟨_, evl, fun nb' => ?_⟩))
            | refine wpA_region (fun K hK => ?_)
            | (refine gateD ?_; first | (refine wpA_drawG false rfl (by kernel_rfl) (by kernel_rfl) (fun K hK => ?_)) | (refine wpA_drawG true rfl (by kernel_rfl) (by kernel_rfl) (fun K hK => ?_)))
            | (refine wpA_cond' ⟨_, evl, fun hb => ?_, fun hb => ?_⟩ <;> (try simp only [Bool.or_eq_true, Bool.and_eq_true, Bool.or_eq_false_iff, Bool.and_eq_false_iff, Bool.not_eq_true', Bool.not_eq_false', Bool.not_eq_true, Bool.not_eq_false, decide_eq_true_eq, decide_eq_false_iff_not, Bool.true_eq_false, Bool.false_eq_true, ne_eq, Classical.not_not, Int.not_lt, Int.not_le, Bool.not_true, Bool.not_false] at hb))
          | fail
      · refine ret_of (by simp) ⟨_, _, _, evl, ob0, OutOk.eq ?_ ?_⟩
        · rfl
        · simp [AV.free]
      · exact absurd hb he
  · rw [decide_eq_false hc] at hfew
    refine fnA_of tblOk Tryd.func4 rfl (by kernel_rfl) 147 Tryd.ntmps4 (by simp only [List.length_cons, List.length_nil]; omega) [.tmp 14] rfl ?_
    simp only [entrySt, argSl, Nat.zero_add, Nat.reduceAdd]
    repeat'
      first
        | first
          | (refine runS_nil (hK _ ?_); clear hK K)
          | refine stR ?_
          | (refine gateS 1 rfl ?_; first | (refine runS_call rfl rfl ⟨_, evl, _, _, _, evl, oblF, ?_⟩; apply Exists.intro; refine ⟨fun hg => ?_, ?_⟩; · first | exact FnA.at_ (hh) rfl rfl | exact FnA.at_ (hfew) rfl rfl | exact FnA.at_s (hh) rfl simT | exact FnA.at_s (hh) rfl simF | exact FnA.at_s (hfew) rfl simT | exact FnA.at_s (hfew) rfl simF) | (refine runS_callR rfl rfl ⟨_, evl, _, _, _, evl, _, _, evl, oblF, ?_⟩; apply Exists.intro; refine ⟨fun hg => ?_, ?_⟩; · first | exact FnA.at_ (hh) rfl rfl | exact FnA.at_ (hfew) rfl rfl | exact FnA.at_s (hh) rfl simT | exact FnA.at_s (hh) rfl simF | exact FnA.at_s (hfew) rfl simT | exact FnA.at_s (hfew) rfl simF))
          | (refine gateA 1 rfl ?_; refine runA_call rfl ⟨_, evl, _, _, _, (fun _ _ => evlA), oblF, ?_⟩; apply Exists.intro; refine ⟨fun hg => ?_, ?_⟩; · first | exact FnA.at_ (hh) rfl rfl | exact FnA.at_ (hfew) rfl rfl | exact FnA.at_s (hh) rfl simT | exact FnA.at_s (hh) rfl simF | exact FnA.at_s (hfew) rfl simT | exact FnA.at_s (hfew) rfl simF)
          | (refine gateA 1 rfl ?_; refine runA_put ?_)
          | (refine gateBc ?_; first | (refine runB_nil (hK _ ?_); clear hK K) | (refine runB_op rfl ⟨_, evl, fun nb' => ?_⟩))
          | refine wpA_region (fun K hK => ?_)
          | (refine gateD ?_; first | (refine wpA_drawG false rfl (by kernel_rfl) (by kernel_rfl) (fun K hK => ?_)) | (refine wpA_drawG true rfl (by kernel_rfl) (by kernel_rfl) (fun K hK => ?_)))
          | (refine wpA_cond' ⟨_, evl, fun hb => ?_, fun hb => ?_⟩ <;> (try simp only [Bool.or_eq_true, Bool.and_eq_true, Bool.or_eq_false_iff, Bool.and_eq_false_iff, Bool.not_eq_true', Bool.not_eq_false', Bool.not_eq_true, Bool.not_eq_false, decide_eq_true_eq, decide_eq_false_iff_not, Bool.true_eq_false, Bool.false_eq_true, ne_eq, Classical.not_not, Int.not_lt, Int.not_le, Bool.not_true, Bool.not_false] at hb))
        | fail
    refine ret_of (by simp) ⟨_, _, _, evl, ob0, OutOk.eq ?_ ?_⟩
    · rfl
    · simp [AV.free]
theorem keysAnnounced_B {x0 x1 x2 x3 x4 x5 x6 : List AV} (k0 : CellsOk tbl 30 22 x0) (k1 : CellsOk tbl 30 3 x1) (k2 : CellsOk tbl 30 3 x2) (k3 : CellsOk tbl 30 26 x3) (k4 : CellsOk tbl 30 3 x4) (k5 : CellsOk tbl 30 3 x5) (k6 : CellsOk tbl 30 28 x6) :
    FnA Tryd.prog 4 [valA false x0, valA false x1, valA false x2, valA true x3, valA false x4, valA false x5, valA true x6] (.raw (.bool true)) := by
  obtain ⟨l, h0, hf, _⟩ := open_KeyWins k0
  obtain ⟨c1, rfl, _⟩ := open_int k1
  obtain ⟨c2, rfl, _⟩ := open_int k2
  obtain ⟨c3, rfl, hn⟩ := open_KeyWin k3
  obtain ⟨c4, rfl, _⟩ := open_int k4
  obtain ⟨c5, rfl, _⟩ := open_int k5
  obtain ⟨c6, rfl, _⟩ := open_Iv k6
  exact FnA.sim (keysAnnounced_A l hf c1 c2 c3 hn c4 c5 c6) ⟨h0, Sim.of_eq rfl, Sim.of_eq rfl, Sim.of_eq rfl, Sim.of_eq rfl, Sim.of_eq rfl, Sim.of_eq rfl, trivial⟩
end Go.Proofs.YtihnjbnlbedpaaaDoor
