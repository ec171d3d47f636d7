/- chapter 28: the example of the chapter; which networks are usable. -/
import Derived.Test.YtcdgncmkkknmlaaGreatDoorSs
namespace Go.Proofs.YtcdgncmkkknmlaaGreatDoor
set_option linter.unusedVariables false
set_option linter.unusedSimpArgs false
set_option maxHeartbeats 4000000
set_option maxRecDepth 100000
open Go.RowKit
abbrev exN : Net := ⟨[⟨[0], [0], [[50000]]⟩], [⟨1, 0, ⟨0, 0⟩, ⟨0, 0⟩⟩], [⟨1, 10, 3, 5⟩, ⟨2, 20, 1, 6⟩], [⟨1, 1, [⟨0, 100, 300, 50, 90⟩]⟩, ⟨1, 2, [⟨0, 0, 1000000, 0, 1000000⟩]⟩], 1, 0, 1000⟩
abbrev exM : Net := ⟨[⟨[0], [0], [[50000]]⟩], [⟨1, 0, ⟨0, 0⟩, ⟨0, 0⟩⟩], [⟨1, 10, 3, 5⟩, ⟨2, 20, 1, 6⟩], [⟨1, 1, [⟨0, 100, 300, 50, 90⟩]⟩, ⟨1, 2, [⟨0, 0, 1000000, 0, 1000000⟩]⟩], 1, 0, 390⟩
abbrev exS : Site := ⟨50000, 1, 0, 1000, [⟨1, 10, 3, ⟨7, 100, 300, 50, 90⟩⟩]⟩
abbrev exK : List KeyWin := [⟨1, 1, 1024, 0, 3000000000000000, ⟨0, 0⟩⟩, ⟨2, 1, 4096, 0, 3000000000000000, ⟨0, 0⟩⟩]
theorem ex1 : siteM exN 1 ⟨7, 9⟩ = (exS, 0) := by decide +kernel
theorem ex2 : rateM exN 1 = (50000, 0) := by decide +kernel
theorem ex3 : keysM exN = (exK, 0) := by decide +kernel
theorem ex4 : siteM exM 1 ⟨0, 0⟩ = (⟨50000, 1, 0, 390, []⟩, 0) := by decide +kernel
theorem ex5 : siteM exM 2 ⟨0, 0⟩ = (noSite, 4) := by decide +kernel
theorem ex6 : decide (netP exM) = true := by decide +kernel
theorem small_ex : smallN exN ∧ smallN exM := by
  have hf : ∀ t ∈ ([⟨[0], [0], [[50000]]⟩] : List Table), t.fits := by
    intro t ht
    simp only [List.mem_cons, List.not_mem_nil, or_false] at ht
    subst ht
    simp [Table.fits, inK, maxLen]
  have hc : ∀ w ∈ ([⟨1, 1, [⟨0, 100, 300, 50, 90⟩]⟩, ⟨1, 2, [⟨0, 0, 1000000, 0, 1000000⟩]⟩] : List Wire), w.changes.length ≤ 1000 := by
    intro w hw
    simp only [List.mem_cons, List.not_mem_nil, or_false] at hw
    rcases hw with rfl | rfl <;> decide
  exact ⟨⟨by decide, by decide, by decide, by decide, hc, hf⟩, ⟨by decide, by decide, by decide, by decide, hc, hf⟩⟩
theorem lit1 {α : Type} [Inhabited α] {enc : α → List AV} {x : α} {sz : Nat} {el : Nat → List AV} (h : SimL (el 0) (enc x)) : Sim (.lst sz 1 el) (lA sz enc [x]) := by
  refine Sim.lst rfl fun i hi => ?_
  obtain rfl : i = 0 := by omega
  exact h
theorem lit2 {α : Type} [Inhabited α] {enc : α → List AV} {x y : α} {sz : Nat} {el : Nat → List AV} (h : SimL (el 0) (enc x)) (h' : SimL (el 1) (enc y)) : Sim (.lst sz 2 el) (lA sz enc [x, y]) := by
  refine Sim.lst rfl fun i hi => ?_
  rcases Nat.lt_or_ge i 1 with h1 | h1
  · obtain rfl : i = 0 := by omega
    exact h
  · obtain rfl : i = 1 := by omega
    exact h'
theorem simInts (k : Int) {el : Nat → List AV} (h : el 0 = iC k) : Sim (.lst 1 1 el) (liA [k]) := lit1 (SimL.of_eq h)
theorem example_A : FnA Tryz.prog 31 [] (.agg exN.av) := by
  refine fnA_of tblOk Tryz.func31 rfl (by kernel_rfl) 24 Tryz.ntmps31 (by simp only [List.length_cons, List.length_nil]; omega) [.cell 0 27] rfl ?_
  simp only [entrySt, argSl, Nat.zero_add, Nat.reduceAdd]
  repeat' first
    | refine wkG trivial ?_
    | (refine cndS ⟨_, evl, ⟨cb, cb⟩, fun hb => ?_, fun hb => ?_⟩ <;> try (cases hb; done))
    | (refine Stop.mk ?_; intro K hK)
    | fail
  refine ret_of (by simp) ⟨_, _, _, evl, ob0, OutOk.sims ?_ (Net.free exN)⟩
  refine Sims.agg (show SimsL _ _ [_, _, _, _, _, _, _] [_, _, _, _, _, _, _] from ⟨Sim.s ?_, Sim.s ?_, Sim.s ?_, Sim.s ?_, Sims.refl _, Sims.refl _, Sims.refl _, trivial⟩)
  · exact lit1 (show SimL [_, _, _] [_, _, _] from ⟨simInts 0 rfl, simInts 0 rfl, lit1 (enc := liC) (x := [50000]) (show SimL [_] [_] from ⟨simInts 50000 rfl, trivial⟩), trivial⟩)
  · exact lit1 (SimL.of_eq rfl)
  · exact lit2 (SimL.of_eq rfl) (SimL.of_eq rfl)
  · exact lit2 (show SimL [_, _, _] [_, _, _] from ⟨Sim.refl _, Sim.refl _, lit1 (SimL.of_eq rfl), trivial⟩) (show SimL [_, _, _] [_, _, _] from ⟨Sim.refl _, Sim.refl _, lit1 (SimL.of_eq rfl), trivial⟩)
theorem head28_A : FnA Tryz.prog 9 [] (.raw (.bool true)) := by
  have h0 := example_A
  have h1 := site_A exN small_ex.1 1 ⟨7, 9⟩
  rw [ex1] at h1
  have h2 := rate28_A exN small_ex.1 1
  rw [ex2] at h2
  have h3 := keys28_A exN small_ex.1
  rw [ex3] at h3
  have h4 := site_A exM small_ex.2 1 ⟨0, 0⟩
  rw [ex4] at h4
  have h5 := site_A exM small_ex.2 2 ⟨0, 0⟩
  rw [ex5] at h5
  have h6 : FnA Tryz.prog 13 [.agg exM.av] (.raw (.bool (decide (netP exM)))) := svalid_A exM small_ex.2.1 small_ex.2.2.1 small_ex.2.2.2.1 small_ex.2.2.2.2.1 small_ex.2.2.2.2.2.1 small_ex.2.2.2.2.2.2
  rw [ex6] at h6
  have h7 := same28_A exS exS (by decide)
  rw [decide_eq_true rfl] at h7
  have h8 := sameR_A exK exK (by decide)
  rw [decide_eq_true rfl] at h8
  refine fnA_of tblOk Tryz.func9 rfl (by kernel_rfl) 92 Tryz.ntmps9 (by simp only [List.length_cons, List.length_nil]; omega) [.tmp 0] rfl ?_
  simp only [entrySt, argSl, Nat.zero_add, Nat.reduceAdd]
  repeat'
    first
      | first
        | (refine runS_nil (hK _ ?_); clear hK K)
        | refine stG ?_
        | (refine gateS 1 rfl ?_; refine runS_call rfl rfl ⟨_, evl, _, _, _, evl, oblG, ?_⟩; apply Exists.intro; refine ⟨fun hg => ?_, ?_⟩; · first | exact FnA.at_ (h0) rfl rfl | exact FnA.at_ (h1) rfl rfl | exact FnA.at_ (h2) rfl rfl | exact FnA.at_ (h3) rfl rfl | exact FnA.at_ (h4) rfl rfl | exact FnA.at_ (h5) rfl rfl | exact FnA.at_ (h6) rfl rfl | exact FnA.sim h7 ⟨Sim.refl _, Sim.agg ⟨Sim.refl _, Sim.refl _, Sim.refl _, Sim.refl _, lit1 (SimL.of_eq rfl), trivial⟩, trivial⟩ | exact FnA.sim h8 ⟨Sim.refl _, lit2 (SimL.of_eq rfl) (SimL.of_eq rfl), trivial⟩ | exact FnA.at_s (h0) rfl simT | exact FnA.at_s (h0) rfl simF | exact FnA.at_s (h1) rfl simT | exact FnA.at_s (h1) rfl simF | exact FnA.at_s (h2) rfl simT | exact FnA.at_s (h2) rfl simF | exact FnA.at_s (h3) rfl simT | exact FnA.at_s (h3) rfl simF | exact FnA.at_s (h4) rfl simT | exact FnA.at_s (h4) rfl simF | exact FnA.at_s (h5) rfl simT | exact FnA.at_s (h5) rfl simF | exact FnA.at_s (h6) rfl simT | exact FnA.at_s (h6) rfl simF)
        | (refine gateA 1 rfl ?_; refine runA_call rfl ⟨_, evl, _, _, _, (fun _ _ => evlA), oblG, ?_⟩; apply Exists.intro; refine ⟨fun hg => ?_, ?_⟩; · first | exact FnA.at_ (h0) rfl rfl | exact FnA.at_ (h1) rfl rfl | exact FnA.at_ (h2) rfl rfl | exact FnA.at_ (h3) rfl rfl | exact FnA.at_ (h4) rfl rfl | exact FnA.at_ (h5) rfl rfl | exact FnA.at_ (h6) rfl rfl | exact FnA.sim h7 ⟨Sim.refl _, Sim.agg ⟨Sim.refl _, Sim.refl _, Sim.refl _, Sim.refl _, lit1 (SimL.of_eq rfl), trivial⟩, trivial⟩ | exact FnA.sim h8 ⟨Sim.refl _, lit2 (SimL.of_eq rfl) (SimL.of_eq rfl), trivial⟩ | exact FnA.at_s (h0) rfl simT | exact FnA.at_s (h0) rfl simF | exact FnA.at_s (h1) rfl simT | exact FnA.at_s (h1) rfl simF | exact FnA.at_s (h2) rfl simT | exact FnA.at_s (h2) rfl simF | exact FnA.at_s (h3) rfl simT | exact FnA.at_s (h3) rfl simF | exact FnA.at_s (h4) rfl simT | exact FnA.at_s (h4) rfl simF | exact FnA.at_s (h5) rfl simT | exact FnA.at_s (h5) rfl simF | exact FnA.at_s (h6) rfl simT | exact FnA.at_s (h6) rfl simF)
        | (refine gateA 1 rfl ?_; refine runA_put ?_)
        | (refine gateBc ?_; first | (refine runB_nil (hK _ ?_); clear hK K) | (refine runB_op rfl ⟨_, evl, fun nb' => ?_⟩))
        | refine wpA_region (fun K hK => ?_)
        | (refine gateD ?_; first | (refine wpA_drawG false rfl (by kernel_rfl) (by kernel_rfl) (fun K hK => ?_)) | (refine wpA_drawG true rfl (by kernel_rfl) (by kernel_rfl) (fun K hK => ?_)))
        | (refine wpA_cond' ⟨_, evl, fun hb => ?_, fun hb => ?_⟩ <;> (try simp only [Bool.or_eq_true, Bool.and_eq_true, Bool.or_eq_false_iff, Bool.and_eq_false_iff, Bool.not_eq_true', Bool.not_eq_false', Bool.not_eq_true, Bool.not_eq_false, decide_eq_true_eq, decide_eq_false_iff_not, Bool.true_eq_false, Bool.false_eq_true, ne_eq, Classical.not_not, Int.not_lt, Int.not_le, Bool.not_true, Bool.not_false] at hb))
      | fail
  refine ret_of (by simp) ⟨_, _, _, evl, ob0, OutOk.eq ?_ ?_⟩
  · rfl
  · simp [AV.free]
def usableP (n : Net) (i : Iv) : Prop := fewN n ∧ netP n ∧ Lk.validI i = true
instance (n : Net) (i : Iv) : Decidable (usableP n i) := by unfold usableP; infer_instance
theorem usable_A (n : Net) (hf : ∀ t ∈ n.tables, t.fits) (i : Iv) : FnA Tryz.prog 21 [.agg n.av, .agg i.av] (.raw (.bool (decide (usableP n i)))) := by
  have hfew := few28_A n
  have hiv := Lk.validIR_A i
  obtain ⟨f1, f2, f3, f4⟩ := net_free n
  have e : decide (usableP n i) = (decide (fewN n) && decide (netP n) && Lk.validI i) := by
    rw [Bool.eq_iff_iff, decide_eq_true_iff]
    simp only [usableP, Bool.and_eq_true, decide_eq_true_eq, and_assoc]
  rw [e]
  by_cases hc : fewN n
  · obtain ⟨hs, ht⟩ := few_small hc hf
    have hv := validR28_A n hs ht
    rw [decide_eq_true hc] at hfew ⊢
    clear e hf hc hs ht
    generalize decide (netP n) = v at *
    generalize Lk.validI i = u at *
    refine fnA_of tblOk Tryz.func21 rfl (by kernel_rfl) 15 Tryz.ntmps21 (by simp only [List.length_cons, List.length_nil]; omega) [.tmp 4] rfl ?_
    simp only [entrySt, argSl, Nat.zero_add, Nat.reduceAdd]
    repeat' first
      | refine wkG (And.intro hfew (And.intro hv hiv)) ?_
      | (refine cndS ⟨_, evl, ⟨cb, cb⟩, fun hb => ?_, fun hb => ?_⟩ <;> try (cases hb; done))
      | (refine Stop.mk ?_; intro K hK)
      | fail
    all_goals (try (refine ret_of (by simp) ⟨_, _, _, evl, ob0, OutOk.sims ?_ fre⟩))
    all_goals first | exact Sims.refl _ | (refine Sims.of_eq ?_; first | rfl | (simp []; done) | (simp_all []; done) | (simp_all []; omega) | (simp []; grind) | (split <;> simp_all)) | exact simsF | (refine Sims.tup ?_; simp only [SimsL, and_true]; (repeat' apply And.intro) <;> first | exact simsF | skip) | (exfalso; first | omega | (simp_all; done) | (simp_all; omega)) | skip
  · rw [decide_eq_false hc] at hfew ⊢
    clear e hf hc
    generalize decide (netP n) = v at *
    generalize Lk.validI i = u at *
    refine fnA_of tblOk Tryz.func21 rfl (by kernel_rfl) 15 Tryz.ntmps21 (by simp only [List.length_cons, List.length_nil]; omega) [.tmp 4] rfl ?_
    simp only [entrySt, argSl, Nat.zero_add, Nat.reduceAdd]
    repeat'
      first
        | first
          | (refine runS_nil (hK _ ?_); clear hK K)
          | refine stG ?_
          | (refine gateS 1 rfl ?_; refine runS_call rfl rfl ⟨_, evl, _, _, _, evl, oblG, ?_⟩; apply Exists.intro; refine ⟨fun hg => ?_, ?_⟩; · first | exact FnA.at_ (hfew) rfl rfl | exact FnA.at_ ((absurd hg (by decide) : FnA Tryz.prog 14 [.agg n.av] (.raw (.bool true)))) rfl rfl | exact FnA.at_ (hiv) rfl rfl | exact FnA.at_s (hfew) rfl simT | exact FnA.at_s (hfew) rfl simF | exact FnA.at_s ((absurd hg (by decide) : FnA Tryz.prog 14 [.agg n.av] (.raw (.bool true)))) rfl simT | exact FnA.at_s ((absurd hg (by decide) : FnA Tryz.prog 14 [.agg n.av] (.raw (.bool true)))) rfl simF | exact FnA.at_s (hiv) rfl simT | exact FnA.at_s (hiv) rfl simF)
          | (refine gateA 1 rfl ?_; refine runA_call rfl ⟨_, evl, _, _, _, (fun _ _ => evlA), oblG, ?_⟩; apply Exists.intro; refine ⟨fun hg => ?_, ?_⟩; · first | exact FnA.at_ (hfew) rfl rfl | exact FnA.at_ ((absurd hg (by decide) : FnA Tryz.prog 14 [.agg n.av] (.raw (.bool true)))) rfl rfl | exact FnA.at_ (hiv) rfl rfl | exact FnA.at_s (hfew) rfl simT | exact FnA.at_s (hfew) rfl simF | exact FnA.at_s ((absurd hg (by decide) : FnA Tryz.prog 14 [.agg n.av] (.raw (.bool true)))) rfl simT | exact FnA.at_s ((absurd hg (by decide) : FnA Tryz.prog 14 [.agg n.av] (.raw (.bool true)))) rfl simF | exact FnA.at_s (hiv) rfl simT | exact FnA.at_s (hiv) rfl simF)
          | (refine gateA 1 rfl ?_; refine runA_put ?_)
          | (refine gateBc ?_; first | (refine runB_nil (hK _ ?_); clear hK K) | (refine runB_op rfl ⟨_, evl, fun nb' => ?_⟩))
          | refine wpA_region (fun K hK => ?_)
          | (refine gateD ?_; first | (refine wpA_drawG false rfl (by kernel_rfl) (by kernel_rfl) (fun K hK => ?_)) | (refine wpA_drawG true rfl (by kernel_rfl) (by kernel_rfl) (fun K hK => ?_)))
          | (refine wpA_cond' ⟨_, evl, fun hb => ?_, fun hb => ?_⟩ <;> (try simp only [Bool.or_eq_true, Bool.and_eq_true, Bool.or_eq_false_iff, Bool.and_eq_false_iff, Bool.not_eq_true', Bool.not_eq_false', Bool.not_eq_true, Bool.not_eq_false, decide_eq_true_eq, decide_eq_false_iff_not, Bool.true_eq_false, Bool.false_eq_true, ne_eq, Classical.not_not, Int.not_lt, Int.not_le, Bool.not_true, Bool.not_false] at hb))
        | fail
    refine ret_of (by simp) ⟨_, _, _, evl, ob0, OutOk.eq ?_ ?_⟩
    · simp
    · simp [AV.free]
theorem cut_A (x : Int) (r : Rg) : FnA Tryz.prog 27 [.raw (.int .i64 x), .agg r.av] (.raw (.int .i64 (min (max x r.lo) r.hi))) := by
  refine fnA_of tblOk Tryz.func27 rfl (by kernel_rfl) 12 Tryz.ntmps27 (by simp only [List.length_cons, List.length_nil]; omega) [.tmp 4] rfl ?_
  simp only [entrySt, argSl, Nat.zero_add, Nat.reduceAdd]
  repeat' first
    | refine wkG trivial ?_
    | (refine cndS ⟨_, evl, ⟨cb, cb⟩, fun hb => ?_, fun hb => ?_⟩ <;> try (cases hb; done))
    | (refine Stop.mk ?_; intro K hK)
    | fail
  all_goals (try (refine ret_of (by simp) ⟨_, _, _, evl, ob0, OutOk.sims ?_ fre⟩))
  all_goals first | exact Sims.refl _ | (refine Sims.of_eq ?_; first | rfl | (simp []; done) | (simp_all []; done) | (simp_all []; omega) | (simp []; grind) | (split <;> simp_all)) | exact simsF | (refine Sims.tup ?_; simp only [SimsL, and_true]; (repeat' apply And.intro) <;> first | exact simsF | skip) | (exfalso; first | omega | (simp_all; done) | (simp_all; omega)) | skip
end Go.Proofs.YtcdgncmkkknmlaaGreatDoor
