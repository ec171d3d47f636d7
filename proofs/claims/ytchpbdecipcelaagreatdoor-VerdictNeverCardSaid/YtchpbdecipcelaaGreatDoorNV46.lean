import Derived.Test.YtchpbdecipcelaaGreatDoorNV24
import Derived.Test.YtchpbdecipcelaaGreatDoorNV45
namespace Go.Proofs.YtchpbdecipcelaaGreatDoor
set_option linter.unusedVariables false
set_option linter.unusedSimpArgs false
set_option maxHeartbeats 4000000
set_option maxRecDepth 100000
open Go.RowKit
theorem partyE {x y : Party} (h1 : x.kind = y.kind) (h2 : x.id = y.id) : x = y := by
  obtain ⟨_, _⟩ := x
  obtain ⟨_, _⟩ := y
  simp only at h1 h2
  rw [h1, h2]
theorem same_all {α : Type} [Inhabited α] {a b : List α} (h : a.length = b.length) (hall : ∀ i, i < a.length → a.getD i default = b.getD i default) : a = b :=
  List.ext_getElem h fun i h1 h2 => by have := hall i h1; rwa [getD_get h1, getD_get h2] at this
theorem sameP_A (a b : List Party) (hl : a.length ≤ 4611686018427387904) : FnA Tryz.prog 22 [lA 2 Party.av a, lA 2 Party.av b] (.raw (.bool (decide (a = b)))) := by
  refine fnA_of tblOk Tryz.func22 rfl (by kernel_rfl) 26 Tryz.ntmps22 lenT [.tmp 4] rfl ?_
  simp only [entrySt, argSl, Nat.zero_add, Nat.reduceAdd]
  repeat' first
    | refine wkG trivial ?_
    | (refine cndS ⟨_, evl, ⟨cb, cb⟩, fun hb => ?_, fun hb => ?_⟩ <;> try (cases hb; done))
    | (refine Stop.mk ?_; intro K hK)
    | fail
  · refine ret_of (by simp) ⟨_, _, _, evl, ob0, OutOk.eq ?_ (by simp [AV.free])⟩
    simp only [AV.raw.injEq, Value.bool.injEq]
    rw [eq_comm, decide_eq_false_iff_not]
    intro h
    have := congrArg List.length h
    omega
  refine wpA_loop (fun k : Nat => ⟨26, 0, [(0, true, lA 2 Party.av a), (1, true, lA 2 Party.av b), (5, true, .raw (.int .i64 k))], [], [], ((0, []), [], true)⟩)
    (fun k => k ≤ a.length ∧ ∀ i, i < k → a.getD i default = b.getD i default) (fun k => a.length - k) 0 ?_ ⟨by omega, fun i h => by omega⟩ ?_
  · refine wkn ?_ ?_ ?_
    all_goals first | exact wk0 | refine wkS ?_ | skip
    all_goals (try trivial)
    all_goals ((repeat' apply And.intro) <;> first | exact wkL | skip)
  · rintro k ⟨hk, hall⟩
    repeat' first
      | refine wkG trivial ?_
      | (refine cndS ⟨_, evl, ⟨cb, cb⟩, fun hb => ?_, fun hb => ?_⟩ <;> try (cases hb; done))
      | (refine Stop.mk ?_; intro K hK)
      | fail
    · refine ret_of (by simp) ⟨_, _, _, evl, ob0, OutOk.eq ?_ (by simp [AV.free])⟩
      simp only [AV.raw.injEq, Value.bool.injEq]
      rw [eq_comm, decide_eq_false_iff_not]
      rintro rfl
      simp at hb
    · refine ⟨k + 1, ⟨by omega, fun i hi => ?_⟩, by omega, ?_⟩
      · rcases Nat.lt_succ_iff_lt_or_eq.1 hi with h | rfl
        · exact hall i h
        · simp at hb
          exact partyE (by simp_all) (by simp_all)
      · refine wkn ?_ ?_ ?_
        all_goals first | exact wk0 | refine wkS ?_ | skip
        all_goals (try trivial)
        all_goals ((repeat' apply And.intro) <;> first | exact wkL | skip)
    · refine ret_of (by simp) ⟨_, _, _, evl, ob0, OutOk.eq ?_ (by simp [AV.free])⟩
      simp only [AV.raw.injEq, Value.bool.injEq]
      rw [eq_comm, decide_eq_true_eq]
      exact same_all (by omega) fun i hi => hall i (by omega)
theorem sameS_A (a b : List (List Party)) (hl : a.length ≤ 4611686018427387904) (ha : ∀ s ∈ a, s.length ≤ 4611686018427387904) : FnA Tryz.prog 19 [lA 1 sC2 a, lA 1 sC2 b] (.raw (.bool (decide (a = b)))) := by
  refine fnA_of tblOk Tryz.func19 rfl (by kernel_rfl) 29 Tryz.ntmps19 lenT [.tmp 4] rfl ?_
  simp only [entrySt, argSl, Nat.zero_add, Nat.reduceAdd]
  repeat' first
    | refine wkG trivial ?_
    | (refine cndS ⟨_, evl, ⟨cb, cb⟩, fun hb => ?_, fun hb => ?_⟩ <;> try (cases hb; done))
    | (refine Stop.mk ?_; intro K hK)
    | fail
  · refine ret_of (by simp) ⟨_, _, _, evl, ob0, OutOk.eq ?_ (by simp [AV.free])⟩
    simp only [AV.raw.injEq, Value.bool.injEq]
    rw [eq_comm, decide_eq_false_iff_not]
    intro h
    have := congrArg List.length h
    omega
  refine wpA_loop (fun k : Nat => ⟨29, 0, [(0, true, lA 1 sC2 a), (1, true, lA 1 sC2 b), (5, true, .raw (.int .i64 k))], [], [], ((0, []), [], true)⟩)
    (fun k => k ≤ a.length ∧ ∀ i, i < k → a.getD i default = b.getD i default) (fun k => a.length - k) 0 ?_ ⟨by omega, fun i h => by omega⟩ ?_
  · refine wkn ?_ ?_ ?_
    all_goals first | exact wk0 | refine wkS ?_ | skip
    all_goals (try trivial)
    all_goals ((repeat' apply And.intro) <;> first | exact wkL | skip)
  · rintro k ⟨hk, hall⟩
    rcases Nat.lt_or_ge k a.length with hlt | hge
    · have hs := sameP_A (a.getD k default) (b.getD k default) (ha _ (memD hlt))
      have f1 : (lA 2 Party.av (a.getD k default)).free := lA_free (fun z => Party.free z) _
      have f2 : (lA 2 Party.av (b.getD k default)).free := lA_free (fun z => Party.free z) _
      have hgen : ∀ z : Bool, z = decide (a.getD k default = b.getD k default) → (z = true ↔ a.getD k default = b.getD k default) := fun z e => by rw [e, decide_eq_true_iff]
      generalize hz : decide (a.getD k default = b.getD k default) = z at *
      have hz2 := hgen z rfl
      clear hz hgen ha
      repeat' first
        | refine wkG hs ?_
        | (refine cndS ⟨_, evl, ⟨cb, cb⟩, fun hb => ?_, fun hb => ?_⟩ <;> try (cases hb; done))
        | (refine Stop.mk ?_; intro K hK)
        | fail
      · refine ret_of (by simp) ⟨_, _, _, evl, ob0, OutOk.eq ?_ (by simp [AV.free])⟩
        simp only [AV.raw.injEq, Value.bool.injEq]
        rw [eq_comm, decide_eq_false_iff_not]
        rintro rfl
        simp_all
      · refine ⟨k + 1, ⟨by omega, fun i hi => ?_⟩, by omega, ?_⟩
        · rcases Nat.lt_succ_iff_lt_or_eq.1 hi with h | rfl
          · exact hall i h
          · exact hz2.1 (by assumption)
        · refine wkn ?_ ?_ ?_
          all_goals first | exact wk0 | refine wkS ?_ | skip
          all_goals (try trivial)
          all_goals ((repeat' apply And.intro) <;> first | exact wkL | skip)
      · omega
    · repeat' first
        | refine wkG trivial ?_
        | (refine cndS ⟨_, evl, ⟨cb, cb⟩, fun hb => ?_, fun hb => ?_⟩ <;> try (cases hb; done))
        | (refine Stop.mk ?_; intro K hK)
        | fail
      · omega
      · refine ret_of (by simp) ⟨_, _, _, evl, ob0, OutOk.eq ?_ (by simp [AV.free])⟩
        simp only [AV.raw.injEq, Value.bool.injEq]
        rw [eq_comm, decide_eq_true_eq]
        exact same_all (by omega) fun i hi => hall i (by omega)
end Go.Proofs.YtchpbdecipcelaaGreatDoor
namespace Go.Proofs.YtchpbdecipcelaaGreatDoor
set_option linter.unusedVariables false
set_option linter.unusedSimpArgs false
set_option maxHeartbeats 4000000
set_option maxRecDepth 100000
open Go.RowKit
abbrev e0 : Reply := ⟨1, 2, 1, 6372198651192198359, ⟨100, 110⟩, 1, 0, ⟨0, 0⟩⟩
abbrev e1 : Reply := ⟨1, 2, 1, 6372198651192198359, ⟨100, 110⟩, 1, 0, ⟨138756445, 693782232⟩⟩
def exM (g : Int) : Matter := ⟨⟨[⟨1, 1, 1024, 0, 1000, ⟨0, 0⟩⟩], [⟨1, 5, 0, 0⟩], 0, [⟨2, [⟨[e1]⟩]⟩]⟩, [⟨2, 0, [0], [[g]]⟩], [⟨2, 1, [⟨0, 10, 20, 10, 20⟩]⟩]⟩
theorem e_nonce : nonceM 0 2 1 1 = 6372198651192198359 := by decide +kernel
theorem e_sign : rsignM 5 7 e0 = (e1, 0) := by decide +kernel
theorem e_fits : e0.fits ∧ e1.fits := by
  unfold Reply.fits Iv.fits Sig.fits
  simp only [inK]
  omega
theorem Sim.one {α : Type} [Inhabited α] {sz : Nat} {enc : α → List AV} {x : α} {cs : List AV} (h : SimL cs (enc x)) (hl : cs.length = sz) : Sim (.lst sz 1 (chunkA sz cs)) (lA sz enc [x]) := by
  refine Sim.lst rfl fun i hi => ?_
  obtain rfl : i = 0 := by omega
  subst hl
  rw [chunkA, Nat.zero_mul, List.drop_zero, List.take_length]
  exact h
theorem example_A (g : Int) : FnA Tryz.prog 29 [.raw (.int .i64 g)] (.agg (exM g).av) := by
  have hn := nonceR_A 0 2 1 1 (by simp only [inK]; omega) (by simp only [inK]; omega) (by simp only [inK]; omega)
  have hs := rsignR_A 5 7 e0 e_fits.1
  rw [e_nonce] at hn
  rw [e_sign] at hs
  refine fnA_of tblOk Tryz.func29 rfl (by kernel_rfl) 38 Tryz.ntmps29 lenT [.cell 2 30] rfl ?_
  simp only [entrySt, argSl, Nat.zero_add, Nat.reduceAdd]
  try refine wkG (And.intro hn hs) ?_
  try (refine Stop.mk ?_; intro K hK)
  refine ret_of (by simp) ⟨_, _, _, evl, ob0, OutOk.sims ?_ fre⟩
  · have r : ∀ xs : List AV, SimL xs xs := SimL.refl
    refine (Sim.agg ?_).s
    refine And.intro (Sim.one (r _) rfl) (And.intro (Sim.one (r _) rfl) (And.intro (Sim.refl _) (And.intro (Sim.one ?_ rfl) (And.intro (Sim.one ?_ rfl) (And.intro (Sim.one ?_ rfl) trivial)))))
    · exact And.intro (Sim.refl _) (And.intro (Sim.one (And.intro (Sim.one (r _) rfl) trivial) rfl) trivial)
    · exact And.intro (Sim.refl _) (And.intro (Sim.refl _) (And.intro (Sim.one (r _) rfl) (And.intro (Sim.one (And.intro (Sim.one (r _) rfl) trivial) rfl) trivial)))
    · exact And.intro (Sim.refl _) (And.intro (Sim.refl _) (And.intro (Sim.one (r _) rfl) trivial))
theorem ex_ok (g : Int) : OkM (exM g) := {
  kl := by simp [exM]
  kf := by
    intro k hk
    simp only [exM, List.mem_cons, List.not_mem_nil, or_false] at hk
    subst hk
    unfold KeyWin.fits Sig.fits
    simp only [inK]
    omega
  al := by simp [exM]
  wl := by simp [exM]
  wc := by
    intro w hw
    simp only [exM, List.mem_cons, List.not_mem_nil, or_false] at hw
    subst hw
    simp
  cl := by simp [exM]
  ch := by
    intro c hc
    simp only [exM, List.mem_cons, List.not_mem_nil, or_false] at hc
    subst hc
    refine ⟨by simp, by simp only [inK]; omega, fun r hr => ?_⟩
    simp only [List.mem_cons, List.not_mem_nil, or_false] at hr
    subst hr
    refine ⟨by simp, fun x hx => ?_⟩
    simp only [List.mem_cons, List.not_mem_nil, or_false] at hx
    subst hx
    exact e_fits.2
  dl := by simp [exM]
  di := by
    intro d hd
    simp only [exM, List.mem_cons, List.not_mem_nil, or_false] at hd
    subst hd
    exact ⟨by simp, fun g hg => by simp at hg; subst hg; simp⟩ }
theorem ex_bounds (g : Int) (h : g = 30 ∨ g = 50) : (boundsM44 (exM g)).2 = (4, 0) ∧ (boundsM44 (exM g)).1.length = 14 ∧ ∀ b ∈ (boundsM44 (exM g)).1, boundP 4 b := by
  rcases h with rfl | rfl <;> decide +kernel
theorem ex_bok {g : Int} (h : g = 30 ∨ g = 50) : BOk (exM g) := by
  obtain ⟨h1, h2, h3⟩ := ex_bounds g h
  intro _
  rw [h1, h2]
  exact ⟨by decide, by decide, h3⟩
theorem ex_sets : setsM (exM 30) 3 = ([[]], 0) ∧ setsM (exM 50) 3 = ([[⟨2, 2⟩], [⟨3, 0⟩]], 0) ∧ sureM (exM 50) 3 = ([], 0) ∧ sureM (exM 50) 0 = ([], 4) ∧ possE (boundsM44 (exM 30)).1 4 [] = (true, 0) := by decide +kernel
theorem two_S : Sim (.lst 1 2 (chunkA 1 [.lst 2 1 (chunkA 2 [.raw (.int .i64 2), .raw (.int .i64 2)]), .lst 2 1 (chunkA 2 [.raw (.int .i64 3), .raw (.int .i64 0)])])) (lA 1 sC2 [[⟨2, 2⟩], [⟨3, 0⟩]]) := by
  refine Sim.lst rfl fun i hi => ?_
  obtain rfl | rfl : i = 0 ∨ i = 1 := by omega
  · exact And.intro (Sim.one (enc := Party.av) (x := ⟨2, 2⟩) (SimL.refl _) rfl) trivial
  · exact And.intro (Sim.one (enc := Party.av) (x := ⟨3, 0⟩) (SimL.refl _) rfl) trivial
theorem head44_A : FnA Tryz.prog 10 [] (.raw (.bool true)) := by
  have x30 := example_A 30
  have x50 := example_A 50
  have f30 := Matter.free (exM 30)
  have f50 := Matter.free (exM 50)
  obtain ⟨b1, b2, b3⟩ := ex_bounds 30 (.inl rfl)
  obtain ⟨s1, s2, s3, s4, s5⟩ := ex_sets
  have B := bounds44_A (exM 30) (ex_ok 30)
  have S1 := Sets_A (exM 30) (ex_ok 30) (ex_bok (.inl rfl)) 3
  have S2 := Sets_A (exM 50) (ex_ok 50) (ex_bok (.inr rfl)) 3
  have U1 := Sure_A (exM 50) (ex_ok 50) (ex_bok (.inr rfl)) 3
  have U2 := Sure_A (exM 50) (ex_ok 50) (ex_bok (.inr rfl)) 0
  have P := Possible_A (boundsM44 (exM 30)).1 4 []
  have c1 := sameS_A [[]] [[]] (by simp) (by simp)
  have c2 := sameS_A [[⟨2, 2⟩], [⟨3, 0⟩]] [[⟨2, 2⟩], [⟨3, 0⟩]] (by simp) (by simp)
  rw [b1] at B
  rw [s1] at S1
  rw [s2] at S2
  rw [s3] at U1
  rw [s4] at U2
  rw [s5] at P
  clear b1 b3 s1 s2 s3 s4 s5
  generalize (boundsM44 (exM 30)).1 = l at *
  generalize exM 30 = m30 at *
  generalize exM 50 = m50 at *
  have hfl : (lA 4 Bound.av l).free := lA_free (fun y => Bound.free y) _
  refine fnA_of tblOk Tryz.func10 rfl (by kernel_rfl) 106 Tryz.ntmps10 lenT [.tmp 0] rfl ?_
  simp only [entrySt, argSl, Nat.zero_add, Nat.reduceAdd]
  try refine wkG (And.intro x30 (And.intro x50 (And.intro B (And.intro S1 (And.intro S2 (And.intro U1 (And.intro U2 P))))))) ?_
  try (refine Stop.mk ?_; intro K hK)
  rw [b2]
  have hf1 := fun O : List (List Party) => (lA_free (fun y => show AV.freeL (sC2 y) from ⟨lA_free (fun z => Party.free z) _, trivial⟩) O : (lA 1 sC2 O).free)
  have hf2 : (AV.lst 1 1 (els sC2 [[]])).free := hf1 [[]]
  have hf3 : (AV.lst 1 2 (els sC2 [[⟨2, 2⟩], [⟨3, 0⟩]])).free := hf1 [[⟨2, 2⟩], [⟨3, 0⟩]]
  have hf4 : (AV.lst 1 1 (chunkA 1 [.raw (.slice none 0 0)])).free := fun i hi => by
    obtain rfl : i = 0 := by omega
    exact ⟨trivial, trivial⟩
  have hf5 : (AV.lst 1 2 (chunkA 1 [.lst 2 1 (chunkA 2 [.raw (.int .i64 2), .raw (.int .i64 2)]), .lst 2 1 (chunkA 2 [.raw (.int .i64 3), .raw (.int .i64 0)])])).free := fun i hi => by
    obtain rfl | rfl : i = 0 ∨ i = 1 := by omega
    all_goals exact ⟨fun j hj => (by obtain rfl : j = 0 := by omega
                                     exact ⟨trivial, trivial, trivial⟩), trivial⟩
  clear hf1
  repeat
    first
      | (refine runS_nil (hK _ ?_); clear hK K)
      | refine stG ?_
      | (refine gateS 1 rfl ?_; refine runS_call rfl rfl ⟨_, evl, _, _, _, evl, oblG, ?_⟩; apply Exists.intro; refine ⟨fun hg => ?_, ?_⟩; · first | exact FnA.sim c1 ⟨Sim.refl _, Sim.one ⟨Sim.nil rfl, trivial⟩ rfl, trivial⟩ | exact FnA.sim c2 ⟨Sim.refl _, two_S, trivial⟩ )
      | (refine gateA 1 rfl ?_; refine runA_call rfl ⟨_, evl, _, _, _, (fun _ _ => evlA), oblG, ?_⟩; apply Exists.intro; refine ⟨fun hg => ?_, ?_⟩; · first | exact FnA.sim c1 ⟨Sim.refl _, Sim.one ⟨Sim.nil rfl, trivial⟩ rfl, trivial⟩ | exact FnA.sim c2 ⟨Sim.refl _, two_S, trivial⟩ )
      | (refine gateA 1 rfl ?_; refine runA_put ?_)
      | (refine gateBc ?_; first | (refine runB_nil (hK _ ?_); clear hK K) | (refine runB_op rfl ⟨_, evl, fun nb' => ?_⟩))
      | refine wpA_region (fun K hK => ?_)
      | (refine gateD ?_; first | (refine wpA_drawG false rfl (by kernel_rfl) (by kernel_rfl) (fun K hK => ?_)) | (refine wpA_drawG true rfl (by kernel_rfl) (by kernel_rfl) (fun K hK => ?_)))
  all_goals (try (refine ret_of (by simp) ⟨_, _, _, evl, ob0, OutOk.sims ?_ fre⟩))
  all_goals first | exact Sims.refl _ | exact finT | exact simsF | (refine Sims.tup ?_; simp only [SimsL, and_true]; (repeat' apply And.intro) <;> first | exact simsF | skip) | (exfalso; first | omega | (simp_all; done) | (simp_all; omega)) | skip
end Go.Proofs.YtchpbdecipcelaaGreatDoor
