/- The statement ReplyEach, walked. -/
import Derived.Test.YtihnjbnlbedpaaaDoorOp23L
namespace Go.Proofs.YtihnjbnlbedpaaaDoor
set_option linter.unusedVariables false
set_option linter.unusedSimpArgs false
set_option maxHeartbeats 4000000
set_option maxRecDepth 100000
open Go.RowKit
theorem few23_A (l : List KeyWin) (wires : List Wire) (r : List Reply) : FnA Tryd.prog 37 [lA 7 KeyWin.av l, lA 3 Wire.av wires, lA 10 Reply.av r] (.raw (.bool (decide ((∀ i, i < wires.length → i < 40 → (wires.getD i default).changes.length ≤ 30) ∧ l.length ≤ 20 ∧ wires.length ≤ 30 ∧ r.length ≤ 20)))) := by
  refine fnA_of tblOk Tryd.func37 rfl (by kernel_rfl) 38 Tryd.ntmps37 (by simp only [List.length_cons, List.length_nil]; omega) [.tmp 6] rfl ?_
  simp only [entrySt, argSl, Nat.zero_add, Nat.reduceAdd]
  repeat
    first
      | (refine runS_nil (hK _ ?_); clear hK K)
      | refine stG ?_
      | (refine gateA 1 rfl ?_; refine runA_put ?_)
      | (refine gateBc ?_; first | (refine runB_nil (hK _ ?_); clear hK K) | (refine runB_op rfl ⟨_, evl, fun nb' => ?_⟩))
      | refine wpA_region (fun K hK => ?_)
      | (refine gateD ?_; first | (refine wpA_drawG false rfl (by kernel_rfl) (by kernel_rfl) (fun K hK => ?_)) | (refine wpA_drawG true rfl (by kernel_rfl) (by kernel_rfl) (fun K hK => ?_)))
  refine wpA_loop (fun k : Nat => ⟨38, 0, [(0, true, lA 7 KeyWin.av l), (1, true, lA 3 Wire.av wires), (2, true, lA 10 Reply.av r), (7, true, .raw (.int .i64 k))], [], [], ((0, []), [], true)⟩)
    (fun k => (k ≤ wires.length ∧ k ≤ 40) ∧ ∀ i, i < k → (wires.getD i default).changes.length ≤ 30) (fun k => 40 - k) 0 ?_ ⟨by omega, fun i h => by omega⟩ ?_
  · refine Weak.gen ?_ ?_ ?_ (by simp) ?_
    rotate_left 3
    · first | (simp [subSl, subB, subR, AV.sub, AV.subL, go_sem]; done) | (simp [subSl, subB, subR, AV.sub, AV.subL, go_sem, AV.subL_free, AV.sub_free, *]; done) | (simp_all [subSl, subB, subR, AV.sub, AV.subL, go_sem]; done)
    all_goals (try simp only [SlSim, BxSim, RwSim, SimsL, lookN_cons, ↓reduceIte, Nat.reduceEqDiff, Option.some.injEq, Prod.mk.injEq, true_and, and_true, exists_eq_left', and_self])
    all_goals (try trivial)
    all_goals ((repeat' apply And.intro) <;> first | exact simsT | (intro _ _; exact simsT) | omega | (simp; done) | (simp; omega) | (intro _ _; refine SimsL.of_eq (els_snoc ?_ (by assumption) rfl) <;> first | rfl | omega | (simp; done) | (simp; omega)) | skip)
  · rintro k ⟨hk, hall⟩
    repeat'
      first
        | first
          | (refine runS_nil (hK _ ?_); clear hK K)
          | refine stG ?_
          | (refine gateA 1 rfl ?_; refine runA_put ?_)
          | (refine gateBc ?_; first | (refine runB_nil (hK _ ?_); clear hK K) | (refine runB_op rfl ⟨_, evl, fun nb' => ?_⟩))
          | refine wpA_region (fun K hK => ?_)
          | (refine gateD ?_; first | (refine wpA_drawG false rfl (by kernel_rfl) (by kernel_rfl) (fun K hK => ?_)) | (refine wpA_drawG true rfl (by kernel_rfl) (by kernel_rfl) (fun K hK => ?_)))
          | (refine wpA_cond' ⟨_, evl, fun hb => ?_, fun hb => ?_⟩ <;> (try simp only [Bool.or_eq_true, Bool.and_eq_true, Bool.or_eq_false_iff, Bool.and_eq_false_iff, Bool.not_eq_true', Bool.not_eq_false', Bool.not_eq_true, Bool.not_eq_false, decide_eq_true_eq, decide_eq_false_iff_not, Bool.true_eq_false, Bool.false_eq_true, ne_eq, Classical.not_not, Int.not_lt, Int.not_le, Bool.not_true, Bool.not_false] at hb))
        | fail
    · refine ret_of (by simp) ⟨_, _, _, evl, ob0, OutOk.eq ?_ (by simp [AV.free])⟩
      simp only [AV.raw.injEq, Value.bool.injEq]
      rw [eq_comm, decide_eq_false_iff_not]
      intro h
      have := h.1 k (by omega) (by omega)
      omega
    · refine ⟨k + 1, ⟨by omega, fun i hi => ?_⟩, by omega, ?_⟩
      · rcases Nat.lt_succ_iff_lt_or_eq.1 hi with h | rfl
        · exact hall i h
        · omega
      · refine Weak.gen ?_ ?_ ?_ (by simp) ?_
        rotate_left 3
        · first | (simp [subSl, subB, subR, AV.sub, AV.subL, go_sem]; done) | (simp [subSl, subB, subR, AV.sub, AV.subL, go_sem, AV.subL_free, AV.sub_free, *]; done) | (simp_all [subSl, subB, subR, AV.sub, AV.subL, go_sem]; done)
        all_goals (try simp only [SlSim, BxSim, RwSim, SimsL, lookN_cons, ↓reduceIte, Nat.reduceEqDiff, Option.some.injEq, Prod.mk.injEq, true_and, and_true, exists_eq_left', and_self])
        all_goals (try trivial)
        all_goals ((repeat' apply And.intro) <;> first | exact simsT | (intro _ _; exact simsT) | omega | (simp; done) | (simp; omega) | (intro _ _; refine SimsL.of_eq (els_snoc ?_ (by assumption) rfl) <;> first | rfl | omega | (simp; done) | (simp; omega)) | skip)
    · refine ret_of (by simp) ⟨_, _, _, evl, ob0, OutOk.eq ?_ ?_⟩
      · congr 2
        rw [Bool.eq_iff_iff, decide_eq_true_iff]
        simp only [Bool.and_eq_true, decide_eq_true_eq]
        constructor
        · rintro ⟨⟨h1, h2⟩, h3⟩
          exact ⟨fun i hi hi2 => hall i (by omega), by omega, by omega, by omega⟩
        · rintro ⟨_, h1, h2, h3⟩
          exact ⟨⟨by omega, by omega⟩, by omega⟩
      · simp [AV.free]
theorem foldS_nil {f : Reply → Iv × Int} : ∀ {l : List Reply}, (foldS f l).2 ≠ 0 → (foldS f l).1 = []
  | [], h => absurd rfl h
  | x :: xs, h => by
    unfold foldS at h ⊢
    split
    · rename_i h1
      rw [if_pos h1] at h
      split
      · rename_i h2; rw [if_pos h2] at h; exact absurd rfl h
      · rfl
    · rfl
theorem foldS_all {f : Reply → Iv × Int} : ∀ {l : List Reply}, (foldS f l).2 = 0 → ∀ x ∈ l, (f x).2 = 0
  | [], _, _, hx => by cases hx
  | x :: xs, h, y, hy => by
    unfold foldS at h
    split at h
    · rename_i h1
      split at h
      · rename_i h2
        rcases List.mem_cons.1 hy with rfl | hy
        · exact h1
        · exact foldS_all h2 y hy
      · rename_i h2; exact absurd h h2
    · rename_i h1; exact absurd h h1
theorem round_drop {host : Int} {rs : List Reply} (h : roundP host rs) : roundP host rs.dropLast := by
  have hg : ∀ i, i < rs.dropLast.length → rs.dropLast.getD i default = rs.getD i default := fun i hi => by
    rw [List.length_dropLast] at hi
    simp [List.getD_eq_getElem?_getD, List.getElem?_dropLast, hi, show i < rs.length by omega]
  refine ⟨by rw [List.length_dropLast]; have := h.1; omega, fun i hi => ?_⟩
  have h1 := h.2 i (by rw [List.length_dropLast] at hi; omega)
  unfold rOkP prevA at h1 ⊢
  rw [hg i hi, hg 0 (by omega)]
  by_cases h0 : i = 0
  · rw [if_pos h0] at h1 ⊢; exact h1
  · rw [if_neg h0] at h1 ⊢
    rw [hg (i - 1) (by omega)]
    exact h1
/-- Without the last reply. -/
theorem each {l : List KeyWin} {wires : List Wire} {host : Int} {rs : List Reply} {i : Iv} (h : (sentS l wires host rs i).2 = 0) :
    (sentS l wires host rs.dropLast i).2 = 0 ∧ (sentS l wires host rs i).1.length = rs.length ∧ (sentS l wires host rs.dropLast i).1 = (sentS l wires host rs i).1.dropLast := by
  by_cases hok : sentOkP l wires host rs i
  · have hok2 : sentOkP l wires host rs.dropLast i := ⟨hok.1, hok.2.1, hok.2.2.1, hok.2.2.2.1, round_drop hok.2.2.2.2⟩
    unfold sentS at h ⊢
    rw [if_pos hok] at h
    rw [if_pos hok, if_pos hok2]
    have ha := foldS_all h
    rw [foldS_ok ha, foldS_ok fun x hx => ha x ((List.dropLast_sublist _).subset hx)]
    exact ⟨rfl, by simp, by simp [List.map_dropLast]⟩
  · unfold sentS at h
    rw [if_neg hok] at h
    cases h
theorem sentS_nil {l : List KeyWin} {wires : List Wire} {host : Int} {rs : List Reply} {i : Iv} (h : (sentS l wires host rs i).2 ≠ 0) : (sentS l wires host rs i).1 = [] := by
  unfold sentS at h ⊢
  split
  · rename_i hok; rw [if_pos hok] at h; exact foldS_nil h
  · rfl
theorem drop_els {α : Type} [Inhabited α] (enc : α → List AV) (l : List α) (i : Nat) (hi : i < l.length - 1) : els enc l i = els enc l.dropLast i := by
  simp [els, List.getElem?_dropLast, hi, show i < l.length by omega]
theorem replyEach_A (l : List KeyWin) (hf : ∀ k ∈ l, k.fits) (wires : List Wire) (host : Int) (rs : List Reply) (hrf : ∀ r ∈ rs, r.fits) (i : Iv) :
    FnA Tryd.prog 11 [lA 7 KeyWin.av l, lA 3 Wire.av wires, .raw (.int .i64 host), lA 10 Reply.av rs, .agg i.av] (.raw (.bool true)) := by
  have hh := head23_A
  have hfew := few23_A l wires rs
  have g1 : (lA 7 KeyWin.av l).free := lA_free (fun y => KeyWin.free y) _
  have g2 : (lA 3 Wire.av wires).free := lA_free (fun y => Wire.free y) _
  have g3 : (lA 10 Reply.av rs).free := lA_free (fun y => Reply.free y) _
  by_cases hc : ((∀ i, i < wires.length → i < 40 → (wires.getD i default).changes.length ≤ 30) ∧ l.length ≤ 20 ∧ wires.length ≤ 30 ∧ rs.length ≤ 20)
  · rw [decide_eq_true hc] at hfew
    obtain ⟨c1, c2, c3, c4⟩ := hc
    have hch : ∀ w ∈ wires, w.changes.length ≤ 1000 := fun w hw => by
      obtain ⟨j, hj, rfl⟩ := List.mem_iff_getElem.1 hw
      have := c1 j hj (by omega)
      rw [getD_get hj] at this
      omega
    have x1 := sentR_A l (by omega) hf wires (by omega) hch host rs (by omega) hrf i
    have x2 := sentR_A l (by omega) hf wires (by omega) hch host rs.dropLast (by rw [List.length_dropLast]; omega) (fun r hr => hrf r ((List.dropLast_sublist _).subset hr)) i
    have he := each (l := l) (wires := wires) (host := host) (rs := rs) (i := i)
    have hn := sentS_nil (l := l) (wires := wires) (host := host) (rs := rs) (i := i)
    have hx2 := fun h0 : 0 < rs.length => FnA.sim x2 (args := [lA 7 KeyWin.av l, lA 3 Wire.av wires, .raw (.int .i64 host), .agg [.lst 10 ((rs.length : Int) - 1).toNat (els Reply.av rs)], .agg i.av]) ⟨Sim.refl _, Sim.refl _, Sim.refl _, Sim.agg (show SimL [_] [_] from ⟨Sim.lstE (by rw [List.length_dropLast]; omega) (fun j hj => drop_els Reply.av rs j (by omega)), trivial⟩), Sim.refl _, trivial⟩
    clear x2 hch hf hrf c1
    generalize sentS l wires host rs i = A at *
    generalize sentS l wires host rs.dropLast i = B at *
    rcases Nat.eq_zero_or_pos rs.length with h0 | h0
    · refine fnA_of tblOk Tryd.func11 rfl (by kernel_rfl) 89 Tryd.ntmps11 (by simp only [List.length_cons, List.length_nil]; omega) [.tmp 10] rfl ?_
      simp only [entrySt, argSl, Nat.zero_add, Nat.reduceAdd]
      repeat
        first
          | (refine runS_nil (hK _ ?_); clear hK K)
          | refine stG ?_
          | (refine gateS 1 rfl ?_; refine runS_call rfl rfl ⟨_, evl, _, _, _, evl, oblF, ?_⟩; apply Exists.intro; refine ⟨fun hg => ?_, ?_⟩; · first | exact FnA.at_ (hh) rfl rfl | exact FnA.at_ (hfew) rfl rfl | exact FnA.at_s (hh) rfl simT | exact FnA.at_s (hh) rfl simF | exact FnA.at_s (hfew) rfl simT | exact FnA.at_s (hfew) rfl simF)
          | (refine gateA 1 rfl ?_; refine runA_call rfl ⟨_, evl, _, _, _, (fun _ _ => evlA), oblF, ?_⟩; apply Exists.intro; refine ⟨fun hg => ?_, ?_⟩; · first | exact FnA.at_ (hh) rfl rfl | exact FnA.at_ (hfew) rfl rfl | exact FnA.at_s (hh) rfl simT | exact FnA.at_s (hh) rfl simF | exact FnA.at_s (hfew) rfl simT | exact FnA.at_s (hfew) rfl simF)
          | (refine gateA 1 rfl ?_; refine runA_put ?_)
          | (refine gateBc ?_; first | (refine runB_nil (hK _ ?_); clear hK K) | (refine runB_op rfl ⟨_, evl, fun nb' => ?_⟩))
          | refine wpA_region (fun K hK => ?_)
          | (refine gateD ?_; first | (refine wpA_drawG false rfl (by kernel_rfl) (by kernel_rfl) (fun K hK => ?_)) | (refine wpA_drawG true rfl (by kernel_rfl) (by kernel_rfl) (fun K hK => ?_)))
      refine wpA_cond' ⟨_, evl, fun _ => ?_, fun hb => absurd (show (rs.length : Int) = 0 by omega) (of_decide_eq_false hb)⟩
      repeat
        first
          | (refine runS_nil (hK _ ?_); clear hK K)
          | refine stG ?_
          | (refine gateA 1 rfl ?_; refine runA_put ?_)
          | (refine gateBc ?_; first | (refine runB_nil (hK _ ?_); clear hK K) | (refine runB_op rfl ⟨_, evl, fun nb' => ?_⟩))
          | refine wpA_region (fun K hK => ?_)
          | (refine gateD ?_; first | (refine wpA_drawG false rfl (by kernel_rfl) (by kernel_rfl) (fun K hK => ?_)) | (refine wpA_drawG true rfl (by kernel_rfl) (by kernel_rfl) (fun K hK => ?_)))
      refine ret_of (by simp) ⟨_, _, _, evl, ob0, OutOk.eq ?_ ?_⟩
      · rfl
      · simp [AV.free]
    · have x2 := hx2 h0
      clear hx2
      by_cases he0 : A.2 = 0
      · obtain ⟨e1, e2, e3⟩ := he he0
        have v := sameV_A A.1.dropLast B.1 (by rw [List.length_dropLast]; omega)
        rw [e3, decide_eq_true rfl] at v
        have v2 := FnA.sim v (args := [.lst 2 ((A.1.length : Int) - 1).toNat (els Iv.av A.1), lA 2 Iv.av A.1.dropLast]) ⟨Sim.lstE (by rw [List.length_dropLast]; omega) (fun j hj => drop_els Iv.av A.1 j (by omega)), Sim.refl _, trivial⟩
        rw [e1, e3] at x2
        rw [he0] at x1
        have hA := lA_free (sz := 2) (fun y => Iv.free y) A.1
        have hA2 := lA_free (sz := 2) (fun y => Iv.free y) A.1.dropLast
        have e4 : A.1.dropLast.length = A.1.length - 1 := List.length_dropLast
        clear v he hn e3
        generalize A.1.dropLast = D at *
        generalize A.1 = A1 at *
        refine fnA_of tblOk Tryd.func11 rfl (by kernel_rfl) 89 Tryd.ntmps11 (by simp only [List.length_cons, List.length_nil]; omega) [.tmp 10] rfl ?_
        simp only [entrySt, argSl, Nat.zero_add, Nat.reduceAdd]
        repeat
          first
            | (refine runS_nil (hK _ ?_); clear hK K)
            | refine stG ?_
            | (refine gateS 1 rfl ?_; refine runS_call rfl rfl ⟨_, evl, _, _, _, evl, oblF, ?_⟩; apply Exists.intro; refine ⟨fun hg => ?_, ?_⟩; · first | exact FnA.at_ (hh) rfl rfl | exact FnA.at_ (hfew) rfl rfl | exact FnA.at_s (hh) rfl simT | exact FnA.at_s (hh) rfl simF | exact FnA.at_s (hfew) rfl simT | exact FnA.at_s (hfew) rfl simF)
            | (refine gateA 1 rfl ?_; refine runA_call rfl ⟨_, evl, _, _, _, (fun _ _ => evlA), oblF, ?_⟩; apply Exists.intro; refine ⟨fun hg => ?_, ?_⟩; · first | exact FnA.at_ (hh) rfl rfl | exact FnA.at_ (hfew) rfl rfl | exact FnA.at_s (hh) rfl simT | exact FnA.at_s (hh) rfl simF | exact FnA.at_s (hfew) rfl simT | exact FnA.at_s (hfew) rfl simF)
            | (refine gateA 1 rfl ?_; refine runA_put ?_)
            | (refine gateBc ?_; first | (refine runB_nil (hK _ ?_); clear hK K) | (refine runB_op rfl ⟨_, evl, fun nb' => ?_⟩))
            | refine wpA_region (fun K hK => ?_)
            | (refine gateD ?_; first | (refine wpA_drawG false rfl (by kernel_rfl) (by kernel_rfl) (fun K hK => ?_)) | (refine wpA_drawG true rfl (by kernel_rfl) (by kernel_rfl) (fun K hK => ?_)))
        refine wpA_cond' ⟨_, evl, fun hb => absurd (of_decide_eq_true hb) (show ¬ (rs.length : Int) = 0 by omega), fun _ => ?_⟩
        repeat
          first
            | (refine runS_nil (hK _ ?_); clear hK K)
            | refine stG ?_
            | (refine gateS 1 rfl ?_; refine runS_call rfl rfl ⟨_, evl, _, _, _, evl, oblF, ?_⟩; apply Exists.intro; refine ⟨fun hg => ?_, ?_⟩; · first | exact FnA.at_ (x1) rfl rfl | exact FnA.at_ (x2) rfl rfl | exact FnA.at_s (x1) rfl simT | exact FnA.at_s (x1) rfl simF | exact FnA.at_s (x2) rfl simT | exact FnA.at_s (x2) rfl simF)
            | (refine gateA 1 rfl ?_; refine runA_call rfl ⟨_, evl, _, _, _, (fun _ _ => evlA), oblF, ?_⟩; apply Exists.intro; refine ⟨fun hg => ?_, ?_⟩; · first | exact FnA.at_ (x1) rfl rfl | exact FnA.at_ (x2) rfl rfl | exact FnA.at_s (x1) rfl simT | exact FnA.at_s (x1) rfl simF | exact FnA.at_s (x2) rfl simT | exact FnA.at_s (x2) rfl simF)
            | (refine gateA 1 rfl ?_; refine runA_put ?_)
            | (refine gateBc ?_; first | (refine runB_nil (hK _ ?_); clear hK K) | (refine runB_op rfl ⟨_, evl, fun nb' => ?_⟩))
            | refine wpA_region (fun K hK => ?_)
            | (refine gateD ?_; first | (refine wpA_drawG false rfl (by kernel_rfl) (by kernel_rfl) (fun K hK => ?_)) | (refine wpA_drawG true rfl (by kernel_rfl) (by kernel_rfl) (fun K hK => ?_)))
        refine wpA_cond' ⟨_, evl, fun hb => (by simp at hb), fun _ => ?_⟩
        repeat
          first
            | (refine runS_nil (hK _ ?_); clear hK K)
            | refine stG ?_
            | (refine gateS 1 rfl ?_; refine runS_call rfl rfl ⟨_, evl, _, _, _, evl, oblF, ?_⟩; apply Exists.intro; refine ⟨fun hg => ?_, ?_⟩; · first | exact FnA.at_ (v2) rfl rfl | exact FnA.at_s (v2) rfl simT | exact FnA.at_s (v2) rfl simF)
            | (refine gateA 1 rfl ?_; refine runA_call rfl ⟨_, evl, _, _, _, (fun _ _ => evlA), oblF, ?_⟩; apply Exists.intro; refine ⟨fun hg => ?_, ?_⟩; · first | exact FnA.at_ (v2) rfl rfl | exact FnA.at_s (v2) rfl simT | exact FnA.at_s (v2) rfl simF)
            | (refine gateA 1 rfl ?_; refine runA_put ?_)
            | (refine gateBc ?_; first | (refine runB_nil (hK _ ?_); clear hK K) | (refine runB_op rfl ⟨_, evl, fun nb' => ?_⟩))
            | refine wpA_region (fun K hK => ?_)
            | (refine gateD ?_; first | (refine wpA_drawG false rfl (by kernel_rfl) (by kernel_rfl) (fun K hK => ?_)) | (refine wpA_drawG true rfl (by kernel_rfl) (by kernel_rfl) (fun K hK => ?_)))
        refine ret_of (by simp) ⟨_, _, _, evl, ob0, OutOk.eq ?_ ?_⟩
        · rw [decide_eq_true (show (A1.length : Int) = rs.length by omega), decide_eq_true (show (D.length : Int) = rs.length - 1 by omega)]
          rfl
        · simp [AV.free]
      · rw [hn he0] at x1
        have hB := lA_free (sz := 2) (fun y => Iv.free y) B.1
        generalize B.1 = B1 at *
        clear he hn
        refine fnA_of tblOk Tryd.func11 rfl (by kernel_rfl) 89 Tryd.ntmps11 (by simp only [List.length_cons, List.length_nil]; omega) [.tmp 10] rfl ?_
        simp only [entrySt, argSl, Nat.zero_add, Nat.reduceAdd]
        repeat
          first
            | (refine runS_nil (hK _ ?_); clear hK K)
            | refine stG ?_
            | (refine gateS 1 rfl ?_; refine runS_call rfl rfl ⟨_, evl, _, _, _, evl, oblF, ?_⟩; apply Exists.intro; refine ⟨fun hg => ?_, ?_⟩; · first | exact FnA.at_ (hh) rfl rfl | exact FnA.at_ (hfew) rfl rfl | exact FnA.at_s (hh) rfl simT | exact FnA.at_s (hh) rfl simF | exact FnA.at_s (hfew) rfl simT | exact FnA.at_s (hfew) rfl simF)
            | (refine gateA 1 rfl ?_; refine runA_call rfl ⟨_, evl, _, _, _, (fun _ _ => evlA), oblF, ?_⟩; apply Exists.intro; refine ⟨fun hg => ?_, ?_⟩; · first | exact FnA.at_ (hh) rfl rfl | exact FnA.at_ (hfew) rfl rfl | exact FnA.at_s (hh) rfl simT | exact FnA.at_s (hh) rfl simF | exact FnA.at_s (hfew) rfl simT | exact FnA.at_s (hfew) rfl simF)
            | (refine gateA 1 rfl ?_; refine runA_put ?_)
            | (refine gateBc ?_; first | (refine runB_nil (hK _ ?_); clear hK K) | (refine runB_op rfl ⟨_, evl, fun nb' => ?_⟩))
            | refine wpA_region (fun K hK => ?_)
            | (refine gateD ?_; first | (refine wpA_drawG false rfl (by kernel_rfl) (by kernel_rfl) (fun K hK => ?_)) | (refine wpA_drawG true rfl (by kernel_rfl) (by kernel_rfl) (fun K hK => ?_)))
        refine wpA_cond' ⟨_, evl, fun hb => absurd (of_decide_eq_true hb) (show ¬ (rs.length : Int) = 0 by omega), fun _ => ?_⟩
        repeat
          first
            | (refine runS_nil (hK _ ?_); clear hK K)
            | refine stG ?_
            | (refine gateS 1 rfl ?_; refine runS_call rfl rfl ⟨_, evl, _, _, _, evl, oblF, ?_⟩; apply Exists.intro; refine ⟨fun hg => ?_, ?_⟩; · first | exact FnA.at_ (x1) rfl rfl | exact FnA.at_ (x2) rfl rfl | exact FnA.at_s (x1) rfl simT | exact FnA.at_s (x1) rfl simF | exact FnA.at_s (x2) rfl simT | exact FnA.at_s (x2) rfl simF)
            | (refine gateA 1 rfl ?_; refine runA_call rfl ⟨_, evl, _, _, _, (fun _ _ => evlA), oblF, ?_⟩; apply Exists.intro; refine ⟨fun hg => ?_, ?_⟩; · first | exact FnA.at_ (x1) rfl rfl | exact FnA.at_ (x2) rfl rfl | exact FnA.at_s (x1) rfl simT | exact FnA.at_s (x1) rfl simF | exact FnA.at_s (x2) rfl simT | exact FnA.at_s (x2) rfl simF)
            | (refine gateA 1 rfl ?_; refine runA_put ?_)
            | (refine gateBc ?_; first | (refine runB_nil (hK _ ?_); clear hK K) | (refine runB_op rfl ⟨_, evl, fun nb' => ?_⟩))
            | refine wpA_region (fun K hK => ?_)
            | (refine gateD ?_; first | (refine wpA_drawG false rfl (by kernel_rfl) (by kernel_rfl) (fun K hK => ?_)) | (refine wpA_drawG true rfl (by kernel_rfl) (by kernel_rfl) (fun K hK => ?_)))
        refine wpA_cond' ⟨_, evl, fun _ => ?_, fun hb => absurd (by simpa using hb) he0⟩
        repeat
          first
            | (refine runS_nil (hK _ ?_); clear hK K)
            | refine stG ?_
            | (refine gateA 1 rfl ?_; refine runA_put ?_)
            | (refine gateBc ?_; first | (refine runB_nil (hK _ ?_); clear hK K) | (refine runB_op rfl ⟨_, evl, fun nb' => ?_⟩))
            | refine wpA_region (fun K hK => ?_)
            | (refine gateD ?_; first | (refine wpA_drawG false rfl (by kernel_rfl) (by kernel_rfl) (fun K hK => ?_)) | (refine wpA_drawG true rfl (by kernel_rfl) (by kernel_rfl) (fun K hK => ?_)))
        refine ret_of (by simp) ⟨_, _, _, evl, ob0, OutOk.eq ?_ ?_⟩
        · simp
        · simp [AV.free]
  · rw [decide_eq_false hc] at hfew
    clear hc
    refine fnA_of tblOk Tryd.func11 rfl (by kernel_rfl) 89 Tryd.ntmps11 (by simp only [List.length_cons, List.length_nil]; omega) [.tmp 10] rfl ?_
    simp only [entrySt, argSl, Nat.zero_add, Nat.reduceAdd]
    repeat
      first
        | (refine runS_nil (hK _ ?_); clear hK K)
        | refine stG ?_
        | (refine gateS 1 rfl ?_; refine runS_call rfl rfl ⟨_, evl, _, _, _, evl, oblF, ?_⟩; apply Exists.intro; refine ⟨fun hg => ?_, ?_⟩; · first | exact FnA.at_ (hh) rfl rfl | exact FnA.at_ (hfew) rfl rfl | exact FnA.at_s (hh) rfl simT | exact FnA.at_s (hh) rfl simF | exact FnA.at_s (hfew) rfl simT | exact FnA.at_s (hfew) rfl simF)
        | (refine gateA 1 rfl ?_; refine runA_call rfl ⟨_, evl, _, _, _, (fun _ _ => evlA), oblF, ?_⟩; apply Exists.intro; refine ⟨fun hg => ?_, ?_⟩; · first | exact FnA.at_ (hh) rfl rfl | exact FnA.at_ (hfew) rfl rfl | exact FnA.at_s (hh) rfl simT | exact FnA.at_s (hh) rfl simF | exact FnA.at_s (hfew) rfl simT | exact FnA.at_s (hfew) rfl simF)
        | (refine gateA 1 rfl ?_; refine runA_put ?_)
        | (refine gateBc ?_; first | (refine runB_nil (hK _ ?_); clear hK K) | (refine runB_op rfl ⟨_, evl, fun nb' => ?_⟩))
        | refine wpA_region (fun K hK => ?_)
        | (refine gateD ?_; first | (refine wpA_drawG false rfl (by kernel_rfl) (by kernel_rfl) (fun K hK => ?_)) | (refine wpA_drawG true rfl (by kernel_rfl) (by kernel_rfl) (fun K hK => ?_)))
    refine wpA_cond' ⟨_, evl, fun _ => ?_, fun hb => (by simp at hb)⟩
    repeat
      first
        | (refine runS_nil (hK _ ?_); clear hK K)
        | refine stG ?_
        | (refine gateA 1 rfl ?_; refine runA_put ?_)
        | (refine gateBc ?_; first | (refine runB_nil (hK _ ?_); clear hK K) | (refine runB_op rfl ⟨_, evl, fun nb' => ?_⟩))
        | refine wpA_region (fun K hK => ?_)
        | (refine gateD ?_; first | (refine wpA_drawG false rfl (by kernel_rfl) (by kernel_rfl) (fun K hK => ?_)) | (refine wpA_drawG true rfl (by kernel_rfl) (by kernel_rfl) (fun K hK => ?_)))
    refine ret_of (by simp) ⟨_, _, _, evl, ob0, OutOk.eq ?_ ?_⟩
    · rfl
    · simp [AV.free]
theorem replyEach_B {x0 x1 x2 x3 x4 : List AV} (k0 : CellsOk tbl 30 22 x0) (k1 : CellsOk tbl 30 64 x1) (k2 : CellsOk tbl 30 3 x2) (k3 : CellsOk tbl 30 65 x3) (k4 : CellsOk tbl 30 28 x4) :
    FnA Tryd.prog 11 [valA false x0, valA false x1, valA false x2, valA false x3, valA true x4] (.raw (.bool true)) := by
  obtain ⟨l, h0, hf, _⟩ := open_KeyWins k0
  obtain ⟨w, h1, _⟩ := open_Wires k1
  obtain ⟨c2, rfl, _⟩ := open_int k2
  obtain ⟨rs, h3, hrf, _⟩ := open_Replies k3
  obtain ⟨c4, rfl, _⟩ := open_Iv k4
  exact FnA.sim (replyEach_A l hf w c2 rs hrf c4) ⟨h0, h1, Sim.of_eq rfl, h3, Sim.of_eq rfl, trivial⟩
end Go.Proofs.YtihnjbnlbedpaaaDoor
