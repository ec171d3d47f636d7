/- package reply: Sent. -/
import Derived.Test.YtihnjbnlbedpaaaGreatDoorRs
namespace Go.Proofs.YtihnjbnlbedpaaaGreatDoor
set_option linter.unusedVariables false
set_option linter.unusedSimpArgs false
set_option maxHeartbeats 4000000
set_option maxRecDepth 100000
open Go.RowKit
theorem lbounds_A (l : List Change) (i : Iv) (h : l.length ≤ 1000) : FnA Tryz.prog 35 [lA 5 Change.av l, .agg i.av] (.tup [.agg (Lk.linkBoundsM l i).1.av, .raw (.int .i64 (Lk.linkBoundsM l i).2)]) := Lk.linkBounds_A l i h
theorem lsent_A (c : Change) (s : Iv) : FnA Tryz.prog 71 [.agg c.av, .agg s.av] (.tup [.agg (Lk.sentM c s).1.av, .raw (.int .i64 (Lk.sentM c s).2)]) := Lk.sent_A c s
/-- What a reply says of the time of sending. -/
def stepS (l : List KeyWin) (wires : List Wire) (host : Int) (i : Iv) (x : Reply) : Iv × Int :=
  if (findW wires host x.auth).2 = false then (⟨0, 0⟩, 4) else if rightM l x = false then (⟨0, 0⟩, 32) else Lk.sentM (Lk.linkBoundsM (findW wires host x.auth).1.changes i).1 x.stamp
def foldS (f : Reply → Iv × Int) : List Reply → List Iv × Int
  | [] => ([], 0)
  | x :: xs => if (f x).2 = 0 then (if (foldS f xs).2 = 0 then ((f x).1 :: (foldS f xs).1, 0) else ([], (foldS f xs).2)) else ([], (f x).2)
theorem foldS_ok {f : Reply → Iv × Int} : ∀ {l : List Reply}, (∀ x ∈ l, (f x).2 = 0) → foldS f l = (l.map fun x => (f x).1, 0)
  | [], _ => rfl
  | x :: xs, h => by
    have ih := foldS_ok (f := f) (l := xs) fun y hy => h y (by simp [hy])
    rw [foldS, if_pos (h x (by simp)), ih, if_pos rfl]
    rfl
theorem foldS_err {f : Reply → Iv × Int} : ∀ {l : List Reply} {k : Nat}, k < l.length → (∀ i, i < k → (f (l.getD i default)).2 = 0) → (f (l.getD k default)).2 ≠ 0 → foldS f l = ([], (f (l.getD k default)).2)
  | x :: xs, 0, _, _, he => by
    rw [foldS, if_neg (by simpa using he)]
    rfl
  | x :: xs, k + 1, hk, h, he => by
    have ih := foldS_err (f := f) (l := xs) (k := k) (by simpa using hk) (fun i hi => by simpa using h (i + 1) (by omega)) (by simpa using he)
    have h0 : (f x).2 = 0 := by simpa using h 0 (by omega)
    rw [foldS, if_pos h0, ih, if_neg (by simpa using he)]
    simp
def sentOkP (l : List KeyWin) (wires : List Wire) (host : Int) (rs : List Reply) (i : Iv) : Prop := (1 ≤ host ∧ host ≤ 64) ∧ (0 ≤ i.lo ∧ i.lo ≤ i.hi ∧ i.hi ≤ 3000000000000000) ∧ ValidP l ∧ wiredP wires ∧ roundP host rs
instance (l : List KeyWin) (wires : List Wire) (host : Int) (rs : List Reply) (i : Iv) : Decidable (sentOkP l wires host rs i) := by unfold sentOkP; infer_instance
def sentS (l : List KeyWin) (wires : List Wire) (host : Int) (rs : List Reply) (i : Iv) : List Iv × Int := if sentOkP l wires host rs i then foldS (stepS l wires host i) rs else ([], 1)
theorem findW_changes {l : List Wire} (hc : ∀ w ∈ l, w.changes.length ≤ 1000) (h a : Int) : (findW l h a).1.changes.length ≤ 1000 := by
  have hr := idxM_range (isW h a) l
  unfold findW
  split
  · simp
  · refine hc _ ?_
    rw [getD_get (by omega)]
    exact List.getElem_mem _
theorem outNil (st : ASt) (k : IntKind) (c : Int) : OutOk st (.tup [.raw (.slice none 0 0), .raw (.int k c)]) (.tup [lA 2 Iv.av [], .raw (.int k c)]) :=
  OutOk.sims (Sims.tup (show SimsL _ _ [_, _] [_, _] from ⟨(Sim.nil rfl).s, Sims.refl _, trivial⟩)) ⟨lA_free (fun y => Iv.free y) _, trivial, trivial⟩
theorem sentR_A (l : List KeyWin) (hl : l.length ≤ 4611686018427387904) (hf : ∀ k ∈ l, k.fits) (wires : List Wire) (hwl : wires.length ≤ 4611686018427387904) (hc : ∀ w ∈ wires, w.changes.length ≤ 1000) (host : Int) (rs : List Reply) (hrl : rs.length ≤ 4611686018427387904) (hrf : ∀ r ∈ rs, r.fits) (i : Iv) :
    FnA Tryz.prog 24 [lA 7 KeyWin.av l, lA 3 Wire.av wires, .raw (.int .i64 host), .agg [lA 10 Reply.av rs], .agg i.av] (.tup [lA 2 Iv.av (sentS l wires host rs i).1, .raw (.int .i64 (sentS l wires host rs i).2)]) := by
  have h1 := validI_A' i.lo i.hi
  have h2 := valid_A l hl hf
  have h3 := wired_A wires hwl hc
  have h4 := round_A host rs hrl hrf
  have g1 : (lA 7 KeyWin.av l).free := lA_free (fun y => KeyWin.free y) _
  have g2 : (lA 3 Wire.av wires).free := lA_free (fun y => Wire.free y) _
  have g3 : (lA 10 Reply.av rs).free := lA_free (fun y => Reply.free y) _
  by_cases hok : sentOkP l wires host rs i
  · obtain ⟨k1, k2, k3, k4, k5⟩ := id hok
    rw [decide_eq_true k2.1, decide_eq_true k2.2.1, decide_eq_true k2.2.2] at h1
    rw [decide_eq_true k3] at h2
    rw [decide_eq_true k4] at h3
    rw [decide_eq_true k5] at h4
    have h16 := k5.1
    rw [show sentS l wires host rs i = foldS (stepS l wires host i) rs from if_pos hok]
    have hfi := fun a => findW_A wires hwl host a
    have hch := fun a => findW_changes hc host a
    have hri := fun k hk => rright_A l hl hf (rs.getD k default) (hrf _ (by rw [getD_get (show k < rs.length from hk)]; exact List.getElem_mem _))
    clear hf hc hrf k2 k3 k4 k5 hok
    refine fnA_of tblOk Tryz.func24 rfl (by kernel_rfl) 94 Tryz.ntmps24 (by simp only [List.length_cons, List.length_nil]; omega) [.tmp 10, .tmp 11] rfl ?_
    simp only [entrySt, argSl, Nat.zero_add, Nat.reduceAdd]
    repeat
      first
        | (refine runS_nil (hK _ ?_); clear hK K)
        | refine stG ?_
        | (refine gateS 1 rfl ?_; refine runS_call rfl rfl ⟨_, evl, _, _, _, evl, oblF, ?_⟩; apply Exists.intro; refine ⟨fun hg => ?_, ?_⟩; · first | exact FnA.at_ (h1) rfl rfl | exact FnA.at_ (h2) rfl rfl | exact FnA.at_ (h3) rfl rfl | exact FnA.at_ (h4) rfl rfl | exact FnA.at_s (h1) rfl simT | exact FnA.at_s (h1) rfl simF | exact FnA.at_s (h2) rfl simT | exact FnA.at_s (h2) rfl simF | exact FnA.at_s (h3) rfl simT | exact FnA.at_s (h3) rfl simF | exact FnA.at_s (h4) rfl simT | exact FnA.at_s (h4) rfl simF)
        | (refine gateA 1 rfl ?_; refine runA_call rfl ⟨_, evl, _, _, _, (fun _ _ => evlA), oblF, ?_⟩; apply Exists.intro; refine ⟨fun hg => ?_, ?_⟩; · first | exact FnA.at_ (h1) rfl rfl | exact FnA.at_ (h2) rfl rfl | exact FnA.at_ (h3) rfl rfl | exact FnA.at_ (h4) rfl rfl | exact FnA.at_s (h1) rfl simT | exact FnA.at_s (h1) rfl simF | exact FnA.at_s (h2) rfl simT | exact FnA.at_s (h2) rfl simF | exact FnA.at_s (h3) rfl simT | exact FnA.at_s (h3) rfl simF | exact FnA.at_s (h4) rfl simT | exact FnA.at_s (h4) rfl simF)
        | (refine gateA 1 rfl ?_; refine runA_put ?_)
        | (refine gateBc ?_; first | (refine runB_nil (hK _ ?_); clear hK K) | (refine runB_op rfl ⟨_, evl, fun nb' => ?_⟩))
        | refine wpA_region (fun K hK => ?_)
        | (refine gateD ?_; first | (refine wpA_drawG false rfl (by kernel_rfl) (by kernel_rfl) (fun K hK => ?_)) | (refine wpA_drawG true rfl (by kernel_rfl) (by kernel_rfl) (fun K hK => ?_)))
    refine wpA_cond' ⟨_, evl, fun hb => ?_, fun _ => ?_⟩
    · exfalso; simp at hb; omega
    clear h1 h2 h3 h4
    repeat
      first
        | (refine runS_nil (hK _ ?_); clear hK K)
        | refine stG ?_
        | (refine gateA 1 rfl ?_; refine runA_put ?_)
        | (refine gateBc ?_; first | (refine runB_nil (hK _ ?_); clear hK K) | (refine runB_op rfl ⟨_, evl, fun nb' => ?_⟩))
        | refine wpA_region (fun K hK => ?_)
        | (refine gateD ?_; first | (refine wpA_drawG false rfl (by kernel_rfl) (by kernel_rfl) (fun K hK => ?_)) | (refine wpA_drawG true rfl (by kernel_rfl) (by kernel_rfl) (fun K hK => ?_)))
    refine wpA_weak (Weak.nilRow 12 27 2 rfl) ?_
    obtain ⟨f, hfe⟩ : ∃ f, f = stepS l wires host i := ⟨_, rfl⟩
    have hfx : ∀ x, f x = stepS l wires host i x := fun x => by rw [hfe]
    rw [← hfe]
    clear hfe
    refine wpA_loop (fun k : Nat => ⟨94, 0, [(0, true, lA 7 KeyWin.av l), (1, true, lA 3 Wire.av wires), (2, true, .raw (.int .i64 host)), (9, true, .box 1 0), (12, true, .row 0 (List.map (fun x => (f x).1) (rs.take k)).length), (50, true, lA 10 Reply.av rs), (51, true, .raw (.int .i64 rs.length)), (52, true, .raw (.int .i64 k))], [[lA 10 Reply.av rs], Iv.av i], [⟨27, 2, (List.map (fun x => (f x).1) (rs.take k)).length, els Iv.av (List.map (fun x => (f x).1) (rs.take k))⟩], ((0, []), [], true)⟩)
      (fun k => k ≤ rs.length ∧ ∀ j, j < k → (f (rs.getD j default)).2 = 0) (fun k => rs.length - k) 0 ?_ ⟨by omega, fun i h => by omega⟩ ?_
    · simp only [List.take_zero, List.map_nil, List.length_nil]
      refine Weak.gen ?_ ?_ ?_ (by simp) ?_
      rotate_left 3
      · first | (simp [subSl, subB, subR, AV.sub, AV.subL, go_sem]; done) | (simp [subSl, subB, subR, AV.sub, AV.subL, go_sem, AV.subL_free, AV.sub_free, *]; done) | (simp_all [subSl, subB, subR, AV.sub, AV.subL, go_sem]; done)
      all_goals (try simp only [SlSim, BxSim, RwSim, SimsL, lookN_cons, ↓reduceIte, Nat.reduceEqDiff, Option.some.injEq, Prod.mk.injEq, true_and, and_true, exists_eq_left', and_self])
      all_goals (try trivial)
      all_goals ((repeat' apply And.intro) <;> first | exact simsT | (intro _ _; exact simsT) | omega | (simp; done) | (simp; omega) | (intro _ _; refine SimsL.of_eq (els_snoc ?_ (by assumption) rfl) <;> first | rfl | omega | (simp; done) | (simp; omega)) | skip)
    · rintro k ⟨hk, hall⟩
      rcases Nat.lt_or_ge k rs.length with hlt | hge
      · have hx := hfx (rs.getD k default)
        have h5 := hfi (rs.getD k default).auth
        have h6 := hri k hlt
        have h7 := lbounds_A (findW wires host (rs.getD k default).auth).1.changes i (hch _)
        have h8 := lsent_A (Lk.linkBoundsM (findW wires host (rs.getD k default).auth).1.changes i).1 (rs.getD k default).stamp
        rw [stepS] at hx
        have hrow : (List.map (fun x => (f x).1) (rs.take (k + 1))) = List.map (fun x => (f x).1) (rs.take k) ++ [(f (rs.getD k default)).1] := by
          rw [List.take_succ_eq_append_getElem hlt, List.map_append, getD_get hlt]; rfl
        have hrl2 : (List.map (fun x => (f x).1) (rs.take k)).length ≤ 16 := by rw [List.length_map, List.length_take]; omega
        have herr := foldS_err (f := f) hlt hall
        clear hfi hri hch hfx
        generalize findW wires host (rs.getD k default).auth = W at *
        generalize rightM l (rs.getD k default) = rb at *
        generalize Lk.linkBoundsM W.1.changes i = B at *
        generalize Lk.sentM B.1 (rs.getD k default).stamp = S at *
        generalize List.map (fun x => (f x).1) (rs.take k) = R at *
        by_cases b1 : W.2 = false
        · rw [if_pos b1] at hx
          rw [hx] at herr
          rw [herr (by simp)]
          rw [b1] at h5
          clear hx herr hrow hall b1 h7 h8 h6
          repeat
            first
              | (refine runS_nil (hK _ ?_); clear hK K)
              | refine stG ?_
              | (refine gateA 1 rfl ?_; refine runA_put ?_)
              | (refine gateBc ?_; first | (refine runB_nil (hK _ ?_); clear hK K) | (refine runB_op rfl ⟨_, evl, fun nb' => ?_⟩))
              | refine wpA_region (fun K hK => ?_)
              | (refine gateD ?_; first | (refine wpA_drawG false rfl (by kernel_rfl) (by kernel_rfl) (fun K hK => ?_)) | (refine wpA_drawG true rfl (by kernel_rfl) (by kernel_rfl) (fun K hK => ?_)))
          refine wpA_cond' ⟨_, evl, fun _ => ?_, fun hb => (by simp at hb; omega)⟩
          repeat'
            first
              | first
                | (refine runS_nil (hK _ ?_); clear hK K)
                | refine stR ?_
                | (refine gateS 1 rfl ?_; first | (refine runS_call rfl rfl ⟨_, evl, _, _, _, evl, oblF, ?_⟩; apply Exists.intro; refine ⟨fun hg => ?_, ?_⟩; · first | exact FnA.at_ (h5) rfl rfl | exact FnA.at_s (h5) rfl simT | exact FnA.at_s (h5) rfl simF) | (refine runS_callR rfl rfl ⟨_, evl, _, _, _, evl, _, _, evl, oblF, ?_⟩; apply Exists.intro; refine ⟨fun hg => ?_, ?_⟩; · first | exact FnA.at_ (h5) rfl rfl | exact FnA.at_s (h5) rfl simT | exact FnA.at_s (h5) rfl simF))
                | (refine gateA 1 rfl ?_; refine runA_call rfl ⟨_, evl, _, _, _, (fun _ _ => evlA), oblF, ?_⟩; apply Exists.intro; refine ⟨fun hg => ?_, ?_⟩; · first | exact FnA.at_ (h5) rfl rfl | exact FnA.at_s (h5) rfl simT | exact FnA.at_s (h5) rfl simF)
                | (refine gateA 1 rfl ?_; refine runA_put ?_)
                | (refine gateBc ?_; first | (refine runB_nil (hK _ ?_); clear hK K) | (refine runB_op rfl ⟨_, evl, fun nb' => ?_⟩))
                | refine wpA_region (fun K hK => ?_)
                | (refine gateD ?_; first | (refine wpA_drawG false rfl (by kernel_rfl) (by kernel_rfl) (fun K hK => ?_)) | (refine wpA_drawG true rfl (by kernel_rfl) (by kernel_rfl) (fun K hK => ?_)))
                | (refine wpA_cond' ⟨_, evl, fun hb => ?_, fun hb => ?_⟩ <;> (try simp only [Bool.or_eq_true, Bool.and_eq_true, Bool.or_eq_false_iff, Bool.and_eq_false_iff, Bool.not_eq_true', Bool.not_eq_false', Bool.not_eq_true, Bool.not_eq_false, decide_eq_true_eq, decide_eq_false_iff_not, Bool.true_eq_false, Bool.false_eq_true, ne_eq, Classical.not_not, Int.not_lt, Int.not_le, Bool.not_true, Bool.not_false] at hb))
              | fail
          refine ret_of (by simp) ⟨_, _, _, evl, ob0, outNil _ _ _⟩
        · rw [if_neg b1] at hx
          rw [show W.2 = true from by simpa using b1] at h5
          cases rb with
          | false =>
            rw [if_pos rfl] at hx
            rw [hx] at herr
            rw [herr (by simp)]
            clear hx herr hrow hall b1 h7 h8
            repeat
              first
                | (refine runS_nil (hK _ ?_); clear hK K)
                | refine stG ?_
                | (refine gateA 1 rfl ?_; refine runA_put ?_)
                | (refine gateBc ?_; first | (refine runB_nil (hK _ ?_); clear hK K) | (refine runB_op rfl ⟨_, evl, fun nb' => ?_⟩))
                | refine wpA_region (fun K hK => ?_)
                | (refine gateD ?_; first | (refine wpA_drawG false rfl (by kernel_rfl) (by kernel_rfl) (fun K hK => ?_)) | (refine wpA_drawG true rfl (by kernel_rfl) (by kernel_rfl) (fun K hK => ?_)))
            refine wpA_cond' ⟨_, evl, fun _ => ?_, fun hb => (by simp at hb; omega)⟩
            repeat'
              first
                | first
                  | (refine runS_nil (hK _ ?_); clear hK K)
                  | refine stR ?_
                  | (refine gateS 1 rfl ?_; first | (refine runS_call rfl rfl ⟨_, evl, _, _, _, evl, oblF, ?_⟩; apply Exists.intro; refine ⟨fun hg => ?_, ?_⟩; · first | exact FnA.at_ (h5) rfl rfl | exact FnA.at_ (h6) rfl rfl | exact FnA.at_s (h5) rfl simT | exact FnA.at_s (h5) rfl simF | exact FnA.at_s (h6) rfl simT | exact FnA.at_s (h6) rfl simF) | (refine runS_callR rfl rfl ⟨_, evl, _, _, _, evl, _, _, evl, oblF, ?_⟩; apply Exists.intro; refine ⟨fun hg => ?_, ?_⟩; · first | exact FnA.at_ (h5) rfl rfl | exact FnA.at_ (h6) rfl rfl | exact FnA.at_s (h5) rfl simT | exact FnA.at_s (h5) rfl simF | exact FnA.at_s (h6) rfl simT | exact FnA.at_s (h6) rfl simF))
                  | (refine gateA 1 rfl ?_; refine runA_call rfl ⟨_, evl, _, _, _, (fun _ _ => evlA), oblF, ?_⟩; apply Exists.intro; refine ⟨fun hg => ?_, ?_⟩; · first | exact FnA.at_ (h5) rfl rfl | exact FnA.at_ (h6) rfl rfl | exact FnA.at_s (h5) rfl simT | exact FnA.at_s (h5) rfl simF | exact FnA.at_s (h6) rfl simT | exact FnA.at_s (h6) rfl simF)
                  | (refine gateA 1 rfl ?_; refine runA_put ?_)
                  | (refine gateBc ?_; first | (refine runB_nil (hK _ ?_); clear hK K) | (refine runB_op rfl ⟨_, evl, fun nb' => ?_⟩))
                  | refine wpA_region (fun K hK => ?_)
                  | (refine gateD ?_; first | (refine wpA_drawG false rfl (by kernel_rfl) (by kernel_rfl) (fun K hK => ?_)) | (refine wpA_drawG true rfl (by kernel_rfl) (by kernel_rfl) (fun K hK => ?_)))
                  | (refine wpA_cond' ⟨_, evl, fun hb => ?_, fun hb => ?_⟩ <;> (try simp only [Bool.or_eq_true, Bool.and_eq_true, Bool.or_eq_false_iff, Bool.and_eq_false_iff, Bool.not_eq_true', Bool.not_eq_false', Bool.not_eq_true, Bool.not_eq_false, decide_eq_true_eq, decide_eq_false_iff_not, Bool.true_eq_false, Bool.false_eq_true, ne_eq, Classical.not_not, Int.not_lt, Int.not_le, Bool.not_true, Bool.not_false] at hb))
                | fail
            refine ret_of (by simp) ⟨_, _, _, evl, ob0, outNil _ _ _⟩
          | true =>
            rw [if_neg (by simp)] at hx
            rw [hx] at herr hrow
            by_cases b3 : S.2 = 0
            · rw [b3] at h8
              have next : ∀ j, j < k + 1 → (f (rs.getD j default)).2 = 0 := fun j hj => by
                rcases Nat.lt_succ_iff_lt_or_eq.1 hj with h | rfl
                · exact hall j h
                · rw [hx]; exact b3
              clear hx herr hall b1
              repeat
                first
                  | (refine runS_nil (hK _ ?_); clear hK K)
                  | refine stG ?_
                  | (refine gateA 1 rfl ?_; refine runA_put ?_)
                  | (refine gateBc ?_; first | (refine runB_nil (hK _ ?_); clear hK K) | (refine runB_op rfl ⟨_, evl, fun nb' => ?_⟩))
                  | refine wpA_region (fun K hK => ?_)
                  | (refine gateD ?_; first | (refine wpA_drawG false rfl (by kernel_rfl) (by kernel_rfl) (fun K hK => ?_)) | (refine wpA_drawG true rfl (by kernel_rfl) (by kernel_rfl) (fun K hK => ?_)))
              refine wpA_cond' ⟨_, evl, fun _ => ?_, fun hb => (by simp at hb; omega)⟩
              repeat
                first
                  | (refine runS_nil (hK _ ?_); clear hK K)
                  | refine stR ?_
                  | (refine gateS 1 rfl ?_; first | (refine runS_call rfl rfl ⟨_, evl, _, _, _, evl, oblF, ?_⟩; apply Exists.intro; refine ⟨fun hg => ?_, ?_⟩; · first | exact FnA.at_ (h5) rfl rfl | exact FnA.at_ (h6) rfl rfl | exact FnA.at_ (h7) rfl rfl | exact FnA.at_ (h8) rfl rfl | exact FnA.at_s (h5) rfl simT | exact FnA.at_s (h5) rfl simF | exact FnA.at_s (h6) rfl simT | exact FnA.at_s (h6) rfl simF | exact FnA.at_s (h7) rfl simT | exact FnA.at_s (h7) rfl simF | exact FnA.at_s (h8) rfl simT | exact FnA.at_s (h8) rfl simF) | (refine runS_callR rfl rfl ⟨_, evl, _, _, _, evl, _, _, evl, oblF, ?_⟩; apply Exists.intro; refine ⟨fun hg => ?_, ?_⟩; · first | exact FnA.at_ (h5) rfl rfl | exact FnA.at_ (h6) rfl rfl | exact FnA.at_ (h7) rfl rfl | exact FnA.at_ (h8) rfl rfl | exact FnA.at_s (h5) rfl simT | exact FnA.at_s (h5) rfl simF | exact FnA.at_s (h6) rfl simT | exact FnA.at_s (h6) rfl simF | exact FnA.at_s (h7) rfl simT | exact FnA.at_s (h7) rfl simF | exact FnA.at_s (h8) rfl simT | exact FnA.at_s (h8) rfl simF))
                  | (refine gateA 1 rfl ?_; refine runA_call rfl ⟨_, evl, _, _, _, (fun _ _ => evlA), oblF, ?_⟩; apply Exists.intro; refine ⟨fun hg => ?_, ?_⟩; · first | exact FnA.at_ (h5) rfl rfl | exact FnA.at_ (h6) rfl rfl | exact FnA.at_ (h7) rfl rfl | exact FnA.at_ (h8) rfl rfl | exact FnA.at_s (h5) rfl simT | exact FnA.at_s (h5) rfl simF | exact FnA.at_s (h6) rfl simT | exact FnA.at_s (h6) rfl simF | exact FnA.at_s (h7) rfl simT | exact FnA.at_s (h7) rfl simF | exact FnA.at_s (h8) rfl simT | exact FnA.at_s (h8) rfl simF)
                  | (refine gateA 1 rfl ?_; refine runA_put ?_)
                  | (refine gateBc ?_; first | (refine runB_nil (hK _ ?_); clear hK K) | (refine runB_op rfl ⟨_, evl, fun nb' => ?_⟩))
                  | refine wpA_region (fun K hK => ?_)
                  | (refine gateD ?_; first | (refine wpA_drawG false rfl (by kernel_rfl) (by kernel_rfl) (fun K hK => ?_)) | (refine wpA_drawG true rfl (by kernel_rfl) (by kernel_rfl) (fun K hK => ?_)))
              refine wpA_cond' ⟨_, evl, fun hb => (by simp at hb), fun _ => ?_⟩
              repeat
                first
                  | (refine runS_nil (hK _ ?_); clear hK K)
                  | refine stR ?_
                  | (refine gateS 1 rfl ?_; first | (refine runS_call rfl rfl ⟨_, evl, _, _, _, evl, oblF, ?_⟩; apply Exists.intro; refine ⟨fun hg => ?_, ?_⟩; · first | exact FnA.at_ (h5) rfl rfl | exact FnA.at_ (h6) rfl rfl | exact FnA.at_ (h7) rfl rfl | exact FnA.at_ (h8) rfl rfl | exact FnA.at_s (h5) rfl simT | exact FnA.at_s (h5) rfl simF | exact FnA.at_s (h6) rfl simT | exact FnA.at_s (h6) rfl simF | exact FnA.at_s (h7) rfl simT | exact FnA.at_s (h7) rfl simF | exact FnA.at_s (h8) rfl simT | exact FnA.at_s (h8) rfl simF) | (refine runS_callR rfl rfl ⟨_, evl, _, _, _, evl, _, _, evl, oblF, ?_⟩; apply Exists.intro; refine ⟨fun hg => ?_, ?_⟩; · first | exact FnA.at_ (h5) rfl rfl | exact FnA.at_ (h6) rfl rfl | exact FnA.at_ (h7) rfl rfl | exact FnA.at_ (h8) rfl rfl | exact FnA.at_s (h5) rfl simT | exact FnA.at_s (h5) rfl simF | exact FnA.at_s (h6) rfl simT | exact FnA.at_s (h6) rfl simF | exact FnA.at_s (h7) rfl simT | exact FnA.at_s (h7) rfl simF | exact FnA.at_s (h8) rfl simT | exact FnA.at_s (h8) rfl simF))
                  | (refine gateA 1 rfl ?_; refine runA_call rfl ⟨_, evl, _, _, _, (fun _ _ => evlA), oblF, ?_⟩; apply Exists.intro; refine ⟨fun hg => ?_, ?_⟩; · first | exact FnA.at_ (h5) rfl rfl | exact FnA.at_ (h6) rfl rfl | exact FnA.at_ (h7) rfl rfl | exact FnA.at_ (h8) rfl rfl | exact FnA.at_s (h5) rfl simT | exact FnA.at_s (h5) rfl simF | exact FnA.at_s (h6) rfl simT | exact FnA.at_s (h6) rfl simF | exact FnA.at_s (h7) rfl simT | exact FnA.at_s (h7) rfl simF | exact FnA.at_s (h8) rfl simT | exact FnA.at_s (h8) rfl simF)
                  | (refine gateA 1 rfl ?_; refine runA_put ?_)
                  | (refine gateBc ?_; first | (refine runB_nil (hK _ ?_); clear hK K) | (refine runB_op rfl ⟨_, evl, fun nb' => ?_⟩))
                  | refine wpA_region (fun K hK => ?_)
                  | (refine gateD ?_; first | (refine wpA_drawG false rfl (by kernel_rfl) (by kernel_rfl) (fun K hK => ?_)) | (refine wpA_drawG true rfl (by kernel_rfl) (by kernel_rfl) (fun K hK => ?_)))
              refine wpA_cond' ⟨_, evl, fun hb => (by simp at hb), fun _ => ?_⟩
              repeat
                first
                  | (refine runS_nil (hK _ ?_); clear hK K)
                  | refine stR ?_
                  | (refine gateS 1 rfl ?_; first | (refine runS_call rfl rfl ⟨_, evl, _, _, _, evl, oblF, ?_⟩; apply Exists.intro; refine ⟨fun hg => ?_, ?_⟩; · first | exact FnA.at_ (h5) rfl rfl | exact FnA.at_ (h6) rfl rfl | exact FnA.at_ (h7) rfl rfl | exact FnA.at_ (h8) rfl rfl | exact FnA.at_s (h5) rfl simT | exact FnA.at_s (h5) rfl simF | exact FnA.at_s (h6) rfl simT | exact FnA.at_s (h6) rfl simF | exact FnA.at_s (h7) rfl simT | exact FnA.at_s (h7) rfl simF | exact FnA.at_s (h8) rfl simT | exact FnA.at_s (h8) rfl simF) | (refine runS_callR rfl rfl ⟨_, evl, _, _, _, evl, _, _, evl, oblF, ?_⟩; apply Exists.intro; refine ⟨fun hg => ?_, ?_⟩; · first | exact FnA.at_ (h5) rfl rfl | exact FnA.at_ (h6) rfl rfl | exact FnA.at_ (h7) rfl rfl | exact FnA.at_ (h8) rfl rfl | exact FnA.at_s (h5) rfl simT | exact FnA.at_s (h5) rfl simF | exact FnA.at_s (h6) rfl simT | exact FnA.at_s (h6) rfl simF | exact FnA.at_s (h7) rfl simT | exact FnA.at_s (h7) rfl simF | exact FnA.at_s (h8) rfl simT | exact FnA.at_s (h8) rfl simF))
                  | (refine gateA 1 rfl ?_; refine runA_call rfl ⟨_, evl, _, _, _, (fun _ _ => evlA), oblF, ?_⟩; apply Exists.intro; refine ⟨fun hg => ?_, ?_⟩; · first | exact FnA.at_ (h5) rfl rfl | exact FnA.at_ (h6) rfl rfl | exact FnA.at_ (h7) rfl rfl | exact FnA.at_ (h8) rfl rfl | exact FnA.at_s (h5) rfl simT | exact FnA.at_s (h5) rfl simF | exact FnA.at_s (h6) rfl simT | exact FnA.at_s (h6) rfl simF | exact FnA.at_s (h7) rfl simT | exact FnA.at_s (h7) rfl simF | exact FnA.at_s (h8) rfl simT | exact FnA.at_s (h8) rfl simF)
                  | (refine gateA 1 rfl ?_; refine runA_put ?_)
                  | (refine gateBc ?_; first | (refine runB_nil (hK _ ?_); clear hK K) | (refine runB_op rfl ⟨_, evl, fun nb' => ?_⟩))
                  | refine wpA_region (fun K hK => ?_)
                  | (refine gateD ?_; first | (refine wpA_drawG false rfl (by kernel_rfl) (by kernel_rfl) (fun K hK => ?_)) | (refine wpA_drawG true rfl (by kernel_rfl) (by kernel_rfl) (fun K hK => ?_)))
              refine wpA_cond' ⟨_, evl, fun hb => (by simp at hb), fun _ => ?_⟩
              repeat
                first
                  | (refine runS_nil (hK _ ?_); clear hK K)
                  | refine stR ?_
                  | (refine gateA 1 rfl ?_; refine runA_put ?_)
                  | (refine gateBc ?_; first | (refine runB_nil (hK _ ?_); clear hK K) | (refine runB_op rfl ⟨_, evl, fun nb' => ?_⟩))
                  | refine wpA_region (fun K hK => ?_)
                  | (refine gateD ?_; first | (refine wpA_drawG false rfl (by kernel_rfl) (by kernel_rfl) (fun K hK => ?_)) | (refine wpA_drawG true rfl (by kernel_rfl) (by kernel_rfl) (fun K hK => ?_)))
              refine ⟨k + 1, ⟨by omega, next⟩, by omega, ?_⟩
              rw [hrow, List.length_append]
              clear hrow next
              refine Weak.gen ?_ ?_ ?_ (by simp) ?_
              rotate_left 3
              · first | (simp [subSl, subB, subR, AV.sub, AV.subL, go_sem]; done) | (simp [subSl, subB, subR, AV.sub, AV.subL, go_sem, AV.subL_free, AV.sub_free, *]; done) | (simp_all [subSl, subB, subR, AV.sub, AV.subL, go_sem]; done)
              all_goals (try simp only [SlSim, BxSim, RwSim, SimsL, lookN_cons, ↓reduceIte, Nat.reduceEqDiff, Option.some.injEq, Prod.mk.injEq, true_and, and_true, exists_eq_left', and_self])
              all_goals (try trivial)
              all_goals ((repeat' apply And.intro) <;> first | exact simsT | (intro _ _; exact simsT) | omega | (simp; done) | (simp; omega) | (intro _ _; refine SimsL.of_eq (els_snoc ?_ (by assumption) rfl) <;> first | rfl | omega | (simp; done) | (simp; omega)) | skip)
            · rw [herr b3]
              clear hx herr hrow hall b1
              repeat
                first
                  | (refine runS_nil (hK _ ?_); clear hK K)
                  | refine stG ?_
                  | (refine gateA 1 rfl ?_; refine runA_put ?_)
                  | (refine gateBc ?_; first | (refine runB_nil (hK _ ?_); clear hK K) | (refine runB_op rfl ⟨_, evl, fun nb' => ?_⟩))
                  | refine wpA_region (fun K hK => ?_)
                  | (refine gateD ?_; first | (refine wpA_drawG false rfl (by kernel_rfl) (by kernel_rfl) (fun K hK => ?_)) | (refine wpA_drawG true rfl (by kernel_rfl) (by kernel_rfl) (fun K hK => ?_)))
              refine wpA_cond' ⟨_, evl, fun _ => ?_, fun hb => (by simp at hb; omega)⟩
              repeat
                first
                  | (refine runS_nil (hK _ ?_); clear hK K)
                  | refine stR ?_
                  | (refine gateS 1 rfl ?_; first | (refine runS_call rfl rfl ⟨_, evl, _, _, _, evl, oblF, ?_⟩; apply Exists.intro; refine ⟨fun hg => ?_, ?_⟩; · first | exact FnA.at_ (h5) rfl rfl | exact FnA.at_ (h6) rfl rfl | exact FnA.at_ (h7) rfl rfl | exact FnA.at_ (h8) rfl rfl | exact FnA.at_s (h5) rfl simT | exact FnA.at_s (h5) rfl simF | exact FnA.at_s (h6) rfl simT | exact FnA.at_s (h6) rfl simF | exact FnA.at_s (h7) rfl simT | exact FnA.at_s (h7) rfl simF | exact FnA.at_s (h8) rfl simT | exact FnA.at_s (h8) rfl simF) | (refine runS_callR rfl rfl ⟨_, evl, _, _, _, evl, _, _, evl, oblF, ?_⟩; apply Exists.intro; refine ⟨fun hg => ?_, ?_⟩; · first | exact FnA.at_ (h5) rfl rfl | exact FnA.at_ (h6) rfl rfl | exact FnA.at_ (h7) rfl rfl | exact FnA.at_ (h8) rfl rfl | exact FnA.at_s (h5) rfl simT | exact FnA.at_s (h5) rfl simF | exact FnA.at_s (h6) rfl simT | exact FnA.at_s (h6) rfl simF | exact FnA.at_s (h7) rfl simT | exact FnA.at_s (h7) rfl simF | exact FnA.at_s (h8) rfl simT | exact FnA.at_s (h8) rfl simF))
                  | (refine gateA 1 rfl ?_; refine runA_call rfl ⟨_, evl, _, _, _, (fun _ _ => evlA), oblF, ?_⟩; apply Exists.intro; refine ⟨fun hg => ?_, ?_⟩; · first | exact FnA.at_ (h5) rfl rfl | exact FnA.at_ (h6) rfl rfl | exact FnA.at_ (h7) rfl rfl | exact FnA.at_ (h8) rfl rfl | exact FnA.at_s (h5) rfl simT | exact FnA.at_s (h5) rfl simF | exact FnA.at_s (h6) rfl simT | exact FnA.at_s (h6) rfl simF | exact FnA.at_s (h7) rfl simT | exact FnA.at_s (h7) rfl simF | exact FnA.at_s (h8) rfl simT | exact FnA.at_s (h8) rfl simF)
                  | (refine gateA 1 rfl ?_; refine runA_put ?_)
                  | (refine gateBc ?_; first | (refine runB_nil (hK _ ?_); clear hK K) | (refine runB_op rfl ⟨_, evl, fun nb' => ?_⟩))
                  | refine wpA_region (fun K hK => ?_)
                  | (refine gateD ?_; first | (refine wpA_drawG false rfl (by kernel_rfl) (by kernel_rfl) (fun K hK => ?_)) | (refine wpA_drawG true rfl (by kernel_rfl) (by kernel_rfl) (fun K hK => ?_)))
              refine wpA_cond' ⟨_, evl, fun hb => (by simp at hb), fun _ => ?_⟩
              repeat
                first
                  | (refine runS_nil (hK _ ?_); clear hK K)
                  | refine stR ?_
                  | (refine gateS 1 rfl ?_; first | (refine runS_call rfl rfl ⟨_, evl, _, _, _, evl, oblF, ?_⟩; apply Exists.intro; refine ⟨fun hg => ?_, ?_⟩; · first | exact FnA.at_ (h5) rfl rfl | exact FnA.at_ (h6) rfl rfl | exact FnA.at_ (h7) rfl rfl | exact FnA.at_ (h8) rfl rfl | exact FnA.at_s (h5) rfl simT | exact FnA.at_s (h5) rfl simF | exact FnA.at_s (h6) rfl simT | exact FnA.at_s (h6) rfl simF | exact FnA.at_s (h7) rfl simT | exact FnA.at_s (h7) rfl simF | exact FnA.at_s (h8) rfl simT | exact FnA.at_s (h8) rfl simF) | (refine runS_callR rfl rfl ⟨_, evl, _, _, _, evl, _, _, evl, oblF, ?_⟩; apply Exists.intro; refine ⟨fun hg => ?_, ?_⟩; · first | exact FnA.at_ (h5) rfl rfl | exact FnA.at_ (h6) rfl rfl | exact FnA.at_ (h7) rfl rfl | exact FnA.at_ (h8) rfl rfl | exact FnA.at_s (h5) rfl simT | exact FnA.at_s (h5) rfl simF | exact FnA.at_s (h6) rfl simT | exact FnA.at_s (h6) rfl simF | exact FnA.at_s (h7) rfl simT | exact FnA.at_s (h7) rfl simF | exact FnA.at_s (h8) rfl simT | exact FnA.at_s (h8) rfl simF))
                  | (refine gateA 1 rfl ?_; refine runA_call rfl ⟨_, evl, _, _, _, (fun _ _ => evlA), oblF, ?_⟩; apply Exists.intro; refine ⟨fun hg => ?_, ?_⟩; · first | exact FnA.at_ (h5) rfl rfl | exact FnA.at_ (h6) rfl rfl | exact FnA.at_ (h7) rfl rfl | exact FnA.at_ (h8) rfl rfl | exact FnA.at_s (h5) rfl simT | exact FnA.at_s (h5) rfl simF | exact FnA.at_s (h6) rfl simT | exact FnA.at_s (h6) rfl simF | exact FnA.at_s (h7) rfl simT | exact FnA.at_s (h7) rfl simF | exact FnA.at_s (h8) rfl simT | exact FnA.at_s (h8) rfl simF)
                  | (refine gateA 1 rfl ?_; refine runA_put ?_)
                  | (refine gateBc ?_; first | (refine runB_nil (hK _ ?_); clear hK K) | (refine runB_op rfl ⟨_, evl, fun nb' => ?_⟩))
                  | refine wpA_region (fun K hK => ?_)
                  | (refine gateD ?_; first | (refine wpA_drawG false rfl (by kernel_rfl) (by kernel_rfl) (fun K hK => ?_)) | (refine wpA_drawG true rfl (by kernel_rfl) (by kernel_rfl) (fun K hK => ?_)))
              refine wpA_cond' ⟨_, evl, fun hb => (by simp at hb), fun _ => ?_⟩
              repeat
                first
                  | (refine runS_nil (hK _ ?_); clear hK K)
                  | refine stR ?_
                  | (refine gateS 1 rfl ?_; first | (refine runS_call rfl rfl ⟨_, evl, _, _, _, evl, oblF, ?_⟩; apply Exists.intro; refine ⟨fun hg => ?_, ?_⟩; · first | exact FnA.at_ (h5) rfl rfl | exact FnA.at_ (h6) rfl rfl | exact FnA.at_ (h7) rfl rfl | exact FnA.at_ (h8) rfl rfl | exact FnA.at_s (h5) rfl simT | exact FnA.at_s (h5) rfl simF | exact FnA.at_s (h6) rfl simT | exact FnA.at_s (h6) rfl simF | exact FnA.at_s (h7) rfl simT | exact FnA.at_s (h7) rfl simF | exact FnA.at_s (h8) rfl simT | exact FnA.at_s (h8) rfl simF) | (refine runS_callR rfl rfl ⟨_, evl, _, _, _, evl, _, _, evl, oblF, ?_⟩; apply Exists.intro; refine ⟨fun hg => ?_, ?_⟩; · first | exact FnA.at_ (h5) rfl rfl | exact FnA.at_ (h6) rfl rfl | exact FnA.at_ (h7) rfl rfl | exact FnA.at_ (h8) rfl rfl | exact FnA.at_s (h5) rfl simT | exact FnA.at_s (h5) rfl simF | exact FnA.at_s (h6) rfl simT | exact FnA.at_s (h6) rfl simF | exact FnA.at_s (h7) rfl simT | exact FnA.at_s (h7) rfl simF | exact FnA.at_s (h8) rfl simT | exact FnA.at_s (h8) rfl simF))
                  | (refine gateA 1 rfl ?_; refine runA_call rfl ⟨_, evl, _, _, _, (fun _ _ => evlA), oblF, ?_⟩; apply Exists.intro; refine ⟨fun hg => ?_, ?_⟩; · first | exact FnA.at_ (h5) rfl rfl | exact FnA.at_ (h6) rfl rfl | exact FnA.at_ (h7) rfl rfl | exact FnA.at_ (h8) rfl rfl | exact FnA.at_s (h5) rfl simT | exact FnA.at_s (h5) rfl simF | exact FnA.at_s (h6) rfl simT | exact FnA.at_s (h6) rfl simF | exact FnA.at_s (h7) rfl simT | exact FnA.at_s (h7) rfl simF | exact FnA.at_s (h8) rfl simT | exact FnA.at_s (h8) rfl simF)
                  | (refine gateA 1 rfl ?_; refine runA_put ?_)
                  | (refine gateBc ?_; first | (refine runB_nil (hK _ ?_); clear hK K) | (refine runB_op rfl ⟨_, evl, fun nb' => ?_⟩))
                  | refine wpA_region (fun K hK => ?_)
                  | (refine gateD ?_; first | (refine wpA_drawG false rfl (by kernel_rfl) (by kernel_rfl) (fun K hK => ?_)) | (refine wpA_drawG true rfl (by kernel_rfl) (by kernel_rfl) (fun K hK => ?_)))
              refine wpA_cond' ⟨_, evl, fun _ => ?_, fun hb => absurd (by simpa using hb) b3⟩
              repeat
                first
                  | (refine runS_nil (hK _ ?_); clear hK K)
                  | refine stR ?_
                  | (refine gateA 1 rfl ?_; refine runA_put ?_)
                  | (refine gateBc ?_; first | (refine runB_nil (hK _ ?_); clear hK K) | (refine runB_op rfl ⟨_, evl, fun nb' => ?_⟩))
                  | refine wpA_region (fun K hK => ?_)
                  | (refine gateD ?_; first | (refine wpA_drawG false rfl (by kernel_rfl) (by kernel_rfl) (fun K hK => ?_)) | (refine wpA_drawG true rfl (by kernel_rfl) (by kernel_rfl) (fun K hK => ?_)))
              refine ret_of (by simp) ⟨_, _, _, evl, ob0, outNil _ _ _⟩
      · obtain rfl : k = rs.length := by omega
        have hfo := foldS_ok (f := f) (l := rs) fun x hx => by
          obtain ⟨j, hj, rfl⟩ := List.mem_iff_getElem.1 hx
          rw [← getD_get hj]
          exact hall j hj
        rw [hfo]
        simp only [List.take_length]
        clear hfo hall hfi hri hch hfx
        generalize List.map (fun x => (f x).1) rs = R at *
        repeat
          first
            | (refine runS_nil (hK _ ?_); clear hK K)
            | refine stG ?_
            | (refine gateA 1 rfl ?_; refine runA_put ?_)
            | (refine gateBc ?_; first | (refine runB_nil (hK _ ?_); clear hK K) | (refine runB_op rfl ⟨_, evl, fun nb' => ?_⟩))
            | refine wpA_region (fun K hK => ?_)
            | (refine gateD ?_; first | (refine wpA_drawG false rfl (by kernel_rfl) (by kernel_rfl) (fun K hK => ?_)) | (refine wpA_drawG true rfl (by kernel_rfl) (by kernel_rfl) (fun K hK => ?_)))
        refine wpA_cond' ⟨_, evl, fun hb => (by simp at hb), fun _ => ?_⟩
        repeat
          first
            | (refine runS_nil (hK _ ?_); clear hK K)
            | refine stG ?_
            | (refine gateA 1 rfl ?_; refine runA_put ?_)
            | (refine gateBc ?_; first | (refine runB_nil (hK _ ?_); clear hK K) | (refine runB_op rfl ⟨_, evl, fun nb' => ?_⟩))
            | refine wpA_region (fun K hK => ?_)
            | (refine gateD ?_; first | (refine wpA_drawG false rfl (by kernel_rfl) (by kernel_rfl) (fun K hK => ?_)) | (refine wpA_drawG true rfl (by kernel_rfl) (by kernel_rfl) (fun K hK => ?_)))
        refine ret_of (by simp) ⟨_, _, _, evl, ob0, ?_⟩
        exact OutOk.sims (Sims.tup (show SimsL _ _ [_, _] [_, _] from ⟨Sims.row rfl rfl rfl rfl (fun i hi => rfl), Sims.refl _, trivial⟩)) ⟨lA_free (fun y => Iv.free y) _, trivial, trivial⟩
  · rw [show sentS l wires host rs i = ([], 1) from if_neg hok]
    have hno : (1 ≤ host ∧ host ≤ 64) → (decide (0 ≤ i.lo) && decide (i.lo ≤ i.hi) && decide (i.hi ≤ 3000000000000000)) = true → decide (ValidP l) = true → decide (wiredP wires) = true → decide (roundP host rs) = true → False :=
      fun a b c d e => hok ⟨a, by simpa [and_assoc] using b, of_decide_eq_true c, of_decide_eq_true d, of_decide_eq_true e⟩
    generalize (decide (0 ≤ i.lo) && decide (i.lo ≤ i.hi) && decide (i.hi ≤ 3000000000000000)) = c1 at *
    generalize decide (ValidP l) = c2 at *
    generalize decide (wiredP wires) = c3 at *
    generalize decide (roundP host rs) = c4 at *
    clear hok hf hc hrf
    refine fnA_of tblOk Tryz.func24 rfl (by kernel_rfl) 94 Tryz.ntmps24 (by simp only [List.length_cons, List.length_nil]; omega) [.tmp 10, .tmp 11] rfl ?_
    simp only [entrySt, argSl, Nat.zero_add, Nat.reduceAdd]
    repeat
      first
        | (refine runS_nil (hK _ ?_); clear hK K)
        | refine stG ?_
        | (refine gateS 1 rfl ?_; refine runS_call rfl rfl ⟨_, evl, _, _, _, evl, oblF, ?_⟩; apply Exists.intro; refine ⟨fun hg => ?_, ?_⟩; · first | exact FnA.at_ (h1) rfl rfl | exact FnA.at_ (h2) rfl rfl | exact FnA.at_ (h3) rfl rfl | exact FnA.at_ (h4) rfl rfl | exact FnA.at_s (h1) rfl simT | exact FnA.at_s (h1) rfl simF | exact FnA.at_s (h2) rfl simT | exact FnA.at_s (h2) rfl simF | exact FnA.at_s (h3) rfl simT | exact FnA.at_s (h3) rfl simF | exact FnA.at_s (h4) rfl simT | exact FnA.at_s (h4) rfl simF)
        | (refine gateA 1 rfl ?_; refine runA_call rfl ⟨_, evl, _, _, _, (fun _ _ => evlA), oblF, ?_⟩; apply Exists.intro; refine ⟨fun hg => ?_, ?_⟩; · first | exact FnA.at_ (h1) rfl rfl | exact FnA.at_ (h2) rfl rfl | exact FnA.at_ (h3) rfl rfl | exact FnA.at_ (h4) rfl rfl | exact FnA.at_s (h1) rfl simT | exact FnA.at_s (h1) rfl simF | exact FnA.at_s (h2) rfl simT | exact FnA.at_s (h2) rfl simF | exact FnA.at_s (h3) rfl simT | exact FnA.at_s (h3) rfl simF | exact FnA.at_s (h4) rfl simT | exact FnA.at_s (h4) rfl simF)
        | (refine gateA 1 rfl ?_; refine runA_put ?_)
        | (refine gateBc ?_; first | (refine runB_nil (hK _ ?_); clear hK K) | (refine runB_op rfl ⟨_, evl, fun nb' => ?_⟩))
        | refine wpA_region (fun K hK => ?_)
        | (refine gateD ?_; first | (refine wpA_drawG false rfl (by kernel_rfl) (by kernel_rfl) (fun K hK => ?_)) | (refine wpA_drawG true rfl (by kernel_rfl) (by kernel_rfl) (fun K hK => ?_)))
    refine wpA_cond' ⟨_, evl, fun _ => ?_, fun hb => ?_⟩
    · repeat
        first
          | (refine runS_nil (hK _ ?_); clear hK K)
          | refine stG ?_
          | (refine gateA 1 rfl ?_; refine runA_put ?_)
          | (refine gateBc ?_; first | (refine runB_nil (hK _ ?_); clear hK K) | (refine runB_op rfl ⟨_, evl, fun nb' => ?_⟩))
          | refine wpA_region (fun K hK => ?_)
          | (refine gateD ?_; first | (refine wpA_drawG false rfl (by kernel_rfl) (by kernel_rfl) (fun K hK => ?_)) | (refine wpA_drawG true rfl (by kernel_rfl) (by kernel_rfl) (fun K hK => ?_)))
      refine ret_of (by simp) ⟨_, _, _, evl, ob0, outNil _ _ _⟩
    · exfalso
      simp at hb
      exact hno ⟨by omega, by omega⟩ (by simp [hb]) (by simp [hb]) (by simp [hb]) (by simp [hb])
end Go.Proofs.YtihnjbnlbedpaaaGreatDoor
