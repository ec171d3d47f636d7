import Derived.Test.YtchpbdecipcelaaGreatDoorMO24
import Derived.Test.YtchpbdecipcelaaGreatDoorMO46
namespace Go.Proofs.YtchpbdecipcelaaGreatDoor
set_option linter.unusedVariables false
set_option linter.unusedSimpArgs false
set_option maxHeartbeats 4000000
set_option maxRecDepth 100000
open Go.RowKit
abbrev e0 : Reply := ⟨1, 2, 1, 6372198651192198359, ⟨100, 110⟩, 1, 0, ⟨0, 0⟩⟩
abbrev e1 : Reply := ⟨1, 2, 1, 6372198651192198359, ⟨100, 110⟩, 1, 0, ⟨138756445, 693782232⟩⟩
def exM (g : Int) : Matter := ⟨⟨[⟨1, 1, 1024, 0, 1000, ⟨0, 0⟩⟩], [⟨1, 5, 0, 0⟩], 0, [⟨2, [⟨[e1]⟩]⟩]⟩, [⟨2, 0, [0], [[g]]⟩], [⟨2, 1, [⟨0, 10, 20, 10, 20⟩]⟩]⟩
theorem e_nonce : nonceM 0 2 1 1 = 6372198651192198359 := by decide +kernel
theorem e_sign : rsignM 5 7 e0 = (e1, 0) := by decide +kernel
theorem e_fits : e0.fits ∧ e1.fits := by
  unfold Reply.fits Iv.fits Sig.fits
  simp only [inK]
  omega
theorem Sim.one {α : Type} [Inhabited α] {sz : Nat} {enc : α → List AV} {x : α} {cs : List AV} (h : SimL cs (enc x)) (hl : cs.length = sz) : Sim (.lst sz 1 (chunkA sz cs)) (lA sz enc [x]) := by
  refine Sim.lst rfl fun i hi => ?_
  obtain rfl : i = 0 := by omega
  subst hl
  rw [chunkA, Nat.zero_mul, List.drop_zero, List.take_length]
  exact h
theorem example_A (g : Int) : FnA Tryz.prog 29 [.raw (.int .i64 g)] (.agg (exM g).av) := by
  have hn := nonceR_A 0 2 1 1 (by simp only [inK]; omega) (by simp only [inK]; omega) (by simp only [inK]; omega)
  have hs := rsignR_A 5 7 e0 e_fits.1
  rw [e_nonce] at hn
  rw [e_sign] at hs
  refine fnA_of tblOk Tryz.func29 rfl (by kernel_rfl) 38 Tryz.ntmps29 lenT [.cell 2 30] rfl ?_
  simp only [entrySt, argSl, Nat.zero_add, Nat.reduceAdd]
  try refine wkG (And.intro hn hs) ?_
  try (refine Stop.mk ?_; intro K hK)
  refine ret_of (by simp) ⟨_, _, _, evl, ob0, OutOk.sims ?_ fre⟩
  · have r : ∀ xs : List AV, SimL xs xs := SimL.refl
    refine (Sim.agg ?_).s
    refine And.intro (Sim.one (r _) rfl) (And.intro (Sim.one (r _) rfl) (And.intro (Sim.refl _) (And.intro (Sim.one ?_ rfl) (And.intro (Sim.one ?_ rfl) (And.intro (Sim.one ?_ rfl) trivial)))))
    · exact And.intro (Sim.refl _) (And.intro (Sim.one (And.intro (Sim.one (r _) rfl) trivial) rfl) trivial)
    · exact And.intro (Sim.refl _) (And.intro (Sim.refl _) (And.intro (Sim.one (r _) rfl) (And.intro (Sim.one (And.intro (Sim.one (r _) rfl) trivial) rfl) trivial)))
    · exact And.intro (Sim.refl _) (And.intro (Sim.refl _) (And.intro (Sim.one (r _) rfl) trivial))
theorem ex_ok (g : Int) : OkM (exM g) := {
  kl := by simp [exM]
  kf := by
    intro k hk
    simp only [exM, List.mem_cons, List.not_mem_nil, or_false] at hk
    subst hk
    unfold KeyWin.fits Sig.fits
    simp only [inK]
    omega
  al := by simp [exM]
  wl := by simp [exM]
  wc := by
    intro w hw
    simp only [exM, List.mem_cons, List.not_mem_nil, or_false] at hw
    subst hw
    simp
  cl := by simp [exM]
  ch := by
    intro c hc
    simp only [exM, List.mem_cons, List.not_mem_nil, or_false] at hc
    subst hc
    refine ⟨by simp, by simp only [inK]; omega, fun r hr => ?_⟩
    simp only [List.mem_cons, List.not_mem_nil, or_false] at hr
    subst hr
    refine ⟨by simp, fun x hx => ?_⟩
    simp only [List.mem_cons, List.not_mem_nil, or_false] at hx
    subst hx
    exact e_fits.2
  dl := by simp [exM]
  di := by
    intro d hd
    simp only [exM, List.mem_cons, List.not_mem_nil, or_false] at hd
    subst hd
    exact ⟨by simp, fun g hg => by simp at hg; subst hg; simp⟩ }
theorem ex_bounds (g : Int) (h : g = 30 ∨ g = 50) : (boundsM44 (exM g)).2 = (4, 0) ∧ (boundsM44 (exM g)).1.length = 14 ∧ ∀ b ∈ (boundsM44 (exM g)).1, boundP 4 b := by
  rcases h with rfl | rfl <;> decide +kernel
theorem ex_bok {g : Int} (h : g = 30 ∨ g = 50) : BOk (exM g) := by
  obtain ⟨h1, h2, h3⟩ := ex_bounds g h
  intro _
  rw [h1, h2]
  exact ⟨by decide, by decide, h3⟩
theorem ex_sets : setsM (exM 30) 3 = ([[]], 0) ∧ setsM (exM 50) 3 = ([[⟨2, 2⟩], [⟨3, 0⟩]], 0) ∧ sureM (exM 50) 3 = ([], 0) ∧ sureM (exM 50) 0 = ([], 4) ∧ possE (boundsM44 (exM 30)).1 4 [] = (true, 0) := by decide +kernel
theorem two_S : Sim (.lst 1 2 (chunkA 1 [.lst 2 1 (chunkA 2 [.raw (.int .i64 2), .raw (.int .i64 2)]), .lst 2 1 (chunkA 2 [.raw (.int .i64 3), .raw (.int .i64 0)])])) (lA 1 sC2 [[⟨2, 2⟩], [⟨3, 0⟩]]) := by
  refine Sim.lst rfl fun i hi => ?_
  obtain rfl | rfl : i = 0 ∨ i = 1 := by omega
  · exact And.intro (Sim.one (enc := Party.av) (x := ⟨2, 2⟩) (SimL.refl _) rfl) trivial
  · exact And.intro (Sim.one (enc := Party.av) (x := ⟨3, 0⟩) (SimL.refl _) rfl) trivial
theorem head44_A : FnA Tryz.prog 10 [] (.raw (.bool true)) := by
  have x30 := example_A 30
  have x50 := example_A 50
  have f30 := Matter.free (exM 30)
  have f50 := Matter.free (exM 50)
  obtain ⟨b1, b2, b3⟩ := ex_bounds 30 (.inl rfl)
  obtain ⟨s1, s2, s3, s4, s5⟩ := ex_sets
  have B := bounds44_A (exM 30) (ex_ok 30)
  have S1 := Sets_A (exM 30) (ex_ok 30) (ex_bok (.inl rfl)) 3
  have S2 := Sets_A (exM 50) (ex_ok 50) (ex_bok (.inr rfl)) 3
  have U1 := Sure_A (exM 50) (ex_ok 50) (ex_bok (.inr rfl)) 3
  have U2 := Sure_A (exM 50) (ex_ok 50) (ex_bok (.inr rfl)) 0
  have P := Possible_A (boundsM44 (exM 30)).1 4 []
  have c1 := sameS_A [[]] [[]] (by simp) (by simp)
  have c2 := sameS_A [[⟨2, 2⟩], [⟨3, 0⟩]] [[⟨2, 2⟩], [⟨3, 0⟩]] (by simp) (by simp)
  rw [b1] at B
  rw [s1] at S1
  rw [s2] at S2
  rw [s3] at U1
  rw [s4] at U2
  rw [s5] at P
  clear b1 b3 s1 s2 s3 s4 s5
  generalize (boundsM44 (exM 30)).1 = l at *
  generalize exM 30 = m30 at *
  generalize exM 50 = m50 at *
  have hfl : (lA 4 Bound.av l).free := lA_free (fun y => Bound.free y) _
  refine fnA_of tblOk Tryz.func10 rfl (by kernel_rfl) 106 Tryz.ntmps10 lenT [.tmp 0] rfl ?_
  simp only [entrySt, argSl, Nat.zero_add, Nat.reduceAdd]
  try refine wkG (And.intro x30 (And.intro x50 (And.intro B (And.intro S1 (And.intro S2 (And.intro U1 (And.intro U2 P))))))) ?_
  try (refine Stop.mk ?_; intro K hK)
  rw [b2]
  have hf1 := fun O : List (List Party) => (lA_free (fun y => show AV.freeL (sC2 y) from ⟨lA_free (fun z => Party.free z) _, trivial⟩) O : (lA 1 sC2 O).free)
  have hf2 : (AV.lst 1 1 (els sC2 [[]])).free := hf1 [[]]
  have hf3 : (AV.lst 1 2 (els sC2 [[⟨2, 2⟩], [⟨3, 0⟩]])).free := hf1 [[⟨2, 2⟩], [⟨3, 0⟩]]
  have hf4 : (AV.lst 1 1 (chunkA 1 [.raw (.slice none 0 0)])).free := fun i hi => by
    obtain rfl : i = 0 := by omega
    exact ⟨trivial, trivial⟩
  have hf5 : (AV.lst 1 2 (chunkA 1 [.lst 2 1 (chunkA 2 [.raw (.int .i64 2), .raw (.int .i64 2)]), .lst 2 1 (chunkA 2 [.raw (.int .i64 3), .raw (.int .i64 0)])])).free := fun i hi => by
    obtain rfl | rfl : i = 0 ∨ i = 1 := by omega
    all_goals exact ⟨fun j hj => (by obtain rfl : j = 0 := by omega
                                     exact ⟨trivial, trivial, trivial⟩), trivial⟩
  clear hf1
  repeat
    first
      | (refine runS_nil (hK _ ?_); clear hK K)
      | refine stG ?_
      | (refine gateS 1 rfl ?_; refine runS_call rfl rfl ⟨_, evl, _, _, _, evl, oblG, ?_⟩; apply Exists.intro; refine ⟨fun hg => ?_, ?_⟩; · first | exact FnA.sim c1 ⟨Sim.refl _, Sim.one ⟨Sim.nil rfl, trivial⟩ rfl, trivial⟩ | exact FnA.sim c2 ⟨Sim.refl _, two_S, trivial⟩ )
      | (refine gateA 1 rfl ?_; refine runA_call rfl ⟨_, evl, _, _, _, (fun _ _ => evlA), oblG, ?_⟩; apply Exists.intro; refine ⟨fun hg => ?_, ?_⟩; · first | exact FnA.sim c1 ⟨Sim.refl _, Sim.one ⟨Sim.nil rfl, trivial⟩ rfl, trivial⟩ | exact FnA.sim c2 ⟨Sim.refl _, two_S, trivial⟩ )
      | (refine gateA 1 rfl ?_; refine runA_put ?_)
      | (refine gateBc ?_; first | (refine runB_nil (hK _ ?_); clear hK K) | (refine runB_op rfl ⟨_, evl, fun nb' => ?_⟩))
      | refine wpA_region (fun K hK => ?_)
      | (refine gateD ?_; first | (refine wpA_drawG false rfl (by kernel_rfl) (by kernel_rfl) (fun K hK => ?_)) | (refine wpA_drawG true rfl (by kernel_rfl) (by kernel_rfl) (fun K hK => ?_)))
  all_goals (try (refine ret_of (by simp) ⟨_, _, _, evl, ob0, OutOk.sims ?_ fre⟩))
  all_goals first | exact Sims.refl _ | exact finT | exact simsF | (refine Sims.tup ?_; simp only [SimsL, and_true]; (repeat' apply And.intro) <;> first | exact simsF | skip) | (exfalso; first | omega | (simp_all; done) | (simp_all; omega)) | skip
end Go.Proofs.YtchpbdecipcelaaGreatDoor
namespace Go.Proofs.YtchpbdecipcelaaGreatDoor
set_option linter.unusedVariables false
set_option linter.unusedSimpArgs false
set_option maxHeartbeats 4000000
set_option maxRecDepth 100000
open Go.RowKit
theorem crowd_one {p : Party} (h : partyP p) : crowdP [p] := ⟨by simp, fun q hq => by rw [List.mem_singleton.1 hq]; exact h⟩
theorem crowd_nil : crowdP [] := ⟨by simp, fun q hq => by simp at hq⟩
theorem between_ok {n a b : Int} {r : Rg} {who : List Party} (ha : 0 ≤ a ∧ a ≤ n - 1) (hb : 0 ≤ b ∧ b ≤ n - 1) (h1 : -3000000000000000 ≤ r.lo ∧ r.lo ≤ 3000000000000000) (h2 : -3000000000000000 ≤ r.hi ∧ r.hi ≤ 3000000000000000) (hw : crowdP who) : ∀ x ∈ betweenL a b r who, boundP n x := by
  intro x hx
  simp only [betweenL, List.mem_cons, List.not_mem_nil, or_false] at hx
  rcases hx with rfl | rfl
  · exact ⟨hb, ha, by simp only; omega, hw⟩
  · exact ⟨ha, hb, h2, hw⟩
theorem base_ok {n : Int} (k : Nat) (h : (k : Int) ≤ n - 1) : ∀ x ∈ baseL k, boundP n x := by
  intro x hx
  obtain ⟨t, ht, hx⟩ := List.mem_flatMap.1 hx
  have ht := List.mem_range.1 ht
  exact between_ok (by omega) (by omega) (by decide) (by decide) crowd_nil x hx
theorem reply_ok {m : Matter} {n : Int} {r : Reply} (hr : replyP r) (rate count s t : Int) (hs : 0 ≤ s ∧ s ≤ n - 1) (ht : 0 ≤ t ∧ t + 1 ≤ n - 1) : ∀ x ∈ replyL m r rate count s t, boundP n x := by
  obtain ⟨⟨h1, h2, h3⟩, h4, h5, h6, h7⟩ := id hr
  have hW := wireM_range m.wires r.host r.auth
  have hE := elapsed_range rate count
  intro x hx
  unfold replyL at hx
  simp only [List.mem_append] at hx
  rcases hx with (((hx | hx) | hx) | hx) | hx
  · exact between_ok (by omega) (by omega) (by simp only; omega) (by simp only; omega) (crowd_one (.inl ⟨rfl, by simp only; omega⟩)) x hx
  · split at hx
    · simp only [List.mem_cons, List.not_mem_nil, or_false] at hx
      subst hx
      exact ⟨by simp only; omega, by simp only; omega, by simp only; omega, crowd_one (.inl ⟨rfl, by simp only; omega⟩)⟩
    · simp at hx
  · exact between_ok (by omega) (by omega) (by simp only; omega) (by simp only; omega) (crowd_one (.inr (.inr ⟨rfl, rfl⟩))) x hx
  · exact between_ok (by omega) (by omega) (by simp only; omega) (by simp only; omega) (crowd_one (.inr (.inr ⟨rfl, rfl⟩))) x hx
  · exact between_ok (by omega) (by omega) (by omega) (by omega) (crowd_one (.inr (.inl ⟨rfl, by simp only; omega⟩))) x hx
theorem round_ok {m : Matter} {n : Int} {e b : Event} (he : EventOk m e) (hat : 1 ≤ e.at_ ∧ e.at_ + 1 + 2 * (e.replies.length : Int) ≤ n) (hb : 0 ≤ b.at_ ∧ b.at_ + 1 + 2 * (b.replies.length : Int) ≤ n) (hh : 1 ≤ (dayOf m e).host ∧ (dayOf m e).host ≤ 64) :
    ∀ x ∈ roundL m e b, boundP n x := by
  intro x hx
  unfold roundL at hx
  rcases List.mem_append.1 hx with hx | hx
  · split at hx
    · rcases List.mem_append.1 hx with hx | hx
      · have hE := elapsed_range (dayOf m e).rate ((dayOf m e).sent.getD e.round.toNat default - (dayOf m e).sent.getD (e.round - 1).toNat default)
        exact between_ok (by omega) (by omega) (by omega) (by omega) (crowd_one (.inr (.inl ⟨rfl, hh⟩))) x hx
      · obtain ⟨j, hj, rfl⟩ := List.mem_map.1 hx
        have hj := List.mem_range.1 hj
        exact ⟨by simp only [laterB]; omega, by simp only [laterB]; omega, by simp only [laterB]; omega, crowd_nil⟩
    · simp at hx
  · obtain ⟨j, hj, hx⟩ := List.mem_flatMap.1 hx
    have hj := List.mem_range.1 hj
    exact reply_ok (he.p _ (memD hj)) _ _ _ _ (by omega) (by omega) x hx
theorem day_host {m : Matter} (h : formP m) {e : Event} (he : e ∈ evL m) : 1 ≤ (dayOf m e).host ∧ (dayOf m e).host ≤ 64 := by
  obtain ⟨i, k, h1, h2, rfl⟩ := evM_mem (Nat.le_refl _) he
  obtain ⟨_, hc, hd⟩ := h.2.2.2.2.2.2 i h1
  have := hd.1
  have := hc.1
  unfold dayOf
  simp only [Int.toNat_natCast]
  omega
theorem fold_ok {m : Matter} (h : formP m) (hn : evN m ≤ 1000) (p : List Bound × Event) (hp : ∀ x ∈ p.1, boundP (evN m) x) (hb : 0 ≤ p.2.at_ ∧ p.2.at_ + 1 + 2 * (p.2.replies.length : Int) ≤ evN m) :
    ∀ es : List Event, (∀ e ∈ es, e ∈ evL m) → (∀ x ∈ (foldR m es p).1, boundP (evN m) x) ∧ (0 ≤ (foldR m es p).2.at_ ∧ (foldR m es p).2.at_ + 1 + 2 * ((foldR m es p).2.replies.length : Int) ≤ evN m) := by
  intro es
  induction es using Vd.rev_rec with
  | h0 => exact fun _ => ⟨hp, hb⟩
  | h1 es e ih =>
    intro hes
    obtain ⟨h1, h2⟩ := ih fun e he => hes e (by simp [he])
    have hel := hes e (by simp)
    have hat := ev_at hel
    rw [foldR_snoc]
    refine ⟨fun x hx => ?_, by simp only; omega, hat.2⟩
    rcases List.mem_append.1 hx with hx | hx
    · exact h1 x hx
    · exact round_ok (event_ok h hn hel) hat h2 (day_host h hel) x hx
theorem evN_pos (m : Matter) : 1 ≤ evN m := by
  have := evM_cnt m.evidence.chains m.evidence.chains.length
  unfold evN
  omega
theorem bounds_ok (m : Matter) (hc : ((evL m).length : Int) ≤ 20) (hr : ∀ e ∈ evL m, e.replies.length ≤ 1000) : BOk m := by
  unfold BOk boundsM44
  by_cases hf : formP m
  · rw [if_neg (not_not_intro hf)]
    split
    · intro h; simp at h
    · rename_i hn
      have hn : evN m ≤ 1000 := by omega
      split
      · rename_i hw
        exact fun h => absurd h hw
      · intro _
        have hp := evN_pos m
        obtain ⟨h1, _⟩ := fold_ok hf hn (baseL (evN m - 1).toNat, ev0) (base_ok _ (by omega)) ⟨Int.le_refl _, by simp [ev0]; omega⟩ (evL m) fun _ h => h
        have h2 := foldR_len m (baseL (evN m - 1).toNat, ev0) (by simp [ev0]) (evL m) hr
        simp only [base_len] at h2
        refine ⟨?_, ⟨hp, hn⟩, h1⟩
        show (foldR m (evL m) (baseL (evN m - 1).toNat, ev0)).1.length ≤ 1000000
        omega
  · rw [if_pos hf]
    intro h; simp at h
end Go.Proofs.YtchpbdecipcelaaGreatDoor
