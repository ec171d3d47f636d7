import Derived.Test.YtchpbdecipcelaaGreatDoorSM32
namespace Go.Proofs.YtchpbdecipcelaaGreatDoor
set_option linter.unusedVariables false
set_option linter.unusedSimpArgs false
set_option maxHeartbeats 4000000
set_option maxRecDepth 100000
open Go.RowKit
theorem relL_setV {G : Gh} {w : World} : ∀ {cs : List AV} {vs : List Value} {j : Nat} {x : AV}, AV.relL G w cs vs → (∀ v, vs[j]? = some v → x.rel G w v) → AV.relL G w (cs.set j x) vs
  | [], vs, j, x, h, _ => by simpa using h
  | c :: cs, vs, 0, x, h, hx => by
    obtain ⟨v, r, rfl, h1, h2⟩ := h
    exact ⟨v, r, rfl, hx v rfl, h2⟩
  | c :: cs, vs, j + 1, x, h, hx => by
    obtain ⟨v, r, rfl, h1, h2⟩ := h
    exact ⟨v, r, rfl, h1, relL_setV h2 fun u hu => hx u (by simpa using hu)⟩
theorem Weak.nilRowV {nt nb : Nat} {sl : List (Nat × (Bool × AV))} {bx : List (List AV)} {rw : List ARow} {ys : (Nat × List (List AV)) × List (List AV) × Bool} (b j : Nat) (e : TypeId) (sz : Nat) {cs : List AV} (hb : bx[b]? = some cs) (hj : cs[j]? = some (.raw (.slice none 0 0))) (hz : 0 < sz := by decide) :
    Weak ⟨nt, nb, sl, bx, rw, ys⟩ ⟨nt, nb, sl, bx.set b (cs.set j (.row rw.length 0)), rw ++ [⟨e, sz, 0, fun _ => []⟩], ys⟩ := by
  intro P C G a w hs
  have hR : RowOk G w ⟨e, sz, 0, fun _ => []⟩ (0, .slice none 0 0) := ⟨rfl, ⟨[], ⟨by simp, .inl ⟨rfl, rfl, hz⟩⟩, fun i hi => by simp at hi⟩, fun g hg => by simp [ownBlk] at hg⟩
  obtain ⟨m2, le⟩ := msat_addRow hs.mem hR (fun g hg => by simp [ownBlk] at hg)
  have hs' := hs.called (Outside.refl _ _) le (fun _ _ i => .inl i) (fun _ h => .inl h) (fun x hx g hg => by
    rw [List.mem_append, List.mem_singleton] at hx
    rcases hx with hx | rfl
    · exact .inl ⟨x, hx, hg⟩
    · simp [ownBlk] at hg) m2
  refine ⟨⟨G.imm, G.bx, G.rw ++ [(0, .slice none 0 0)]⟩, ⟨hs'.size, hs'.callers, hs'.frame, hs'.le, hs'.fresh, hs'.ownB, hs'.ownR, hs'.env, ?_, fun t c x hl => hs'.slot t c x hl⟩⟩
  have m := hs'.mem
  refine ⟨m.immOk, by rw [List.length_set]; exact m.lenB, m.lenR, m.nodup, fun k cs' blk hk hG => ?_, m.row, m.sepB, m.sepR⟩
  by_cases hkb : k = b
  · subst hkb
    have hlt : k < bx.length := (List.getElem?_eq_some_iff.1 hb).1
    rw [List.getElem?_set_self hlt, Option.some.injEq] at hk
    subst hk
    obtain ⟨h1, vs, T, h2, h3⟩ := m.box k cs blk hb hG
    refine ⟨h1, vs, T, h2, relL_setV h3 fun v hv => ?_⟩
    obtain ⟨u, hu, hr⟩ := AV.relL_get h3 hj
    obtain rfl := Option.some.inj (hv.symm.trans hu)
    have hv0 : v = .slice none 0 0 := hr
    refine ⟨(0, .slice none 0 0), ?_, Nat.le_refl _, fun _ => hv0⟩
    have hl : rw.length = G.rw.length := hs.mem.lenR.symm
    show (G.rw ++ [(0, Value.slice none 0 0)])[rw.length]? = _
    rw [hl, List.getElem?_append_right (Nat.le_refl _), Nat.sub_self]; rfl
  · rw [List.getElem?_set_ne (fun h => hkb h.symm)] at hk
    exact m.box k cs' blk hk hG
structure SmallC (cs : List Chain) : Prop where
  n : cs.length ≤ 8
  r : ∀ c ∈ cs, c.rounds.length ≤ 200 ∧ ∀ r ∈ c.rounds, r.replies.length ≤ 400000
theorem evIn_le (i : Nat) (rs : List Round) (a : Int) (h : ∀ r ∈ rs, r.replies.length ≤ 400000) : ∀ j, j ≤ rs.length → a ≤ (evIn i rs a j).2 ∧ (evIn i rs a j).2 ≤ a + j * 800001
  | 0, _ => by simp [evIn]
  | j + 1, hj => by
    have ih := evIn_le i rs a h j (by omega)
    have := h _ (memD (show j < rs.length by omega))
    simp only [evIn]
    omega
theorem evM_le {cs : List Chain} (h : SmallC cs) : ∀ k, k ≤ cs.length → 1 ≤ (evM cs k).2 ∧ (evM cs k).2 ≤ 1 + k * 160000200
  | 0, _ => by simp [evM]
  | k + 1, hk => by
    have ih := evM_le h k (by omega)
    obtain ⟨h1, h2⟩ := h.r _ (memD (show k < cs.length by omega))
    have h3 := evIn_le k (cs.getD k default).rounds (evM cs k).2 h2 _ (Nat.le_refl _)
    simp only [evM]
    omega
theorem evIn_pre (i : Nat) (rs : List Round) (a : Int) {j n : Nat} (h : j ≤ n) : (evIn i rs a j).1 <+: (evIn i rs a n).1 := by
  obtain ⟨d, rfl⟩ := Nat.exists_eq_add_of_le h
  induction d with
  | zero => exact List.prefix_refl _
  | succ d ih => exact (ih (by omega)).trans (List.prefix_append _ _)
theorem evM_pre (cs : List Chain) {k n : Nat} (h : k ≤ n) : (evM cs k).1 <+: (evM cs n).1 := by
  obtain ⟨d, rfl⟩ := Nat.exists_eq_add_of_le h
  induction d with
  | zero => exact List.prefix_refl _
  | succ d ih => exact (ih (by omega)).trans (List.prefix_append _ _)
theorem ev_pre (cs : List Chain) {k j : Nat} (hk : k < cs.length) (hj : j ≤ (cs.getD k default).rounds.length) : (evM cs k).1 ++ (evIn k (cs.getD k default).rounds (evM cs k).2 j).1 <+: (evM cs cs.length).1 := by
  refine List.IsPrefix.trans ?_ (evM_pre cs (show k + 1 ≤ cs.length by omega))
  simp only [evM]
  exact (List.prefix_append_right_inj _).2 (evIn_pre _ _ _ hj)
theorem map_pre {α β : Type} {f : α → β} {a b : List α} (h : a <+: b) : a.map f <+: b.map f := by
  obtain ⟨c, rfl⟩ := h
  exact ⟨c.map f, by simp⟩
def evL (m : Matter) : List Event := (evM m.evidence.chains m.evidence.chains.length).1
def evN (m : Matter) : Int := (evM m.evidence.chains m.evidence.chains.length).2
theorem events_S (m : Matter) (h : SmallC m.evidence.chains) : SeqA Tryz.prog 77 [.elt m.av 0] ((evL m).map itE) := by
  have hmf := Matter.free m
  obtain ⟨f1, f2, f3, f4, f5⟩ := freeM m
  unfold evL
  refine seqA_of Tryz.func77 rfl (by kernel_rfl) 43 Tryz.ntmps77 lenT rfl (fun y => ?_)
  simp only [argSl, Nat.zero_add, Nat.reduceAdd, List.cons_append, List.nil_append]
  try refine wkG trivial ?_
  try (refine Stop.mk ?_; intro K hK)
  generalize m.evidence.chains = cs at *
  refine wpA_loop (fun k : Nat => ⟨43, 0, [(0, true, .raw (.func (.yield y) #[] #[])), (3, true, .raw (.int .i64 (evM cs k).2)), (10, true, lA 2 Chain.av cs), (11, true, .raw (.int .i64 cs.length)), (12, true, .raw (.int .i64 k))], [], [], ((y, (evM cs cs.length).1.map itE), (evM cs k).1.map itE, false)⟩)
    (fun k => k ≤ cs.length) (fun k => cs.length - k) 0 ?_ (by omega) ?_
  · refine wkn ?_ ?_ ?_
    all_goals first | exact wk0 | refine wkS ?_ | skip
    all_goals (try trivial)
    all_goals ((repeat' apply And.intro) <;> first | exact wkL | skip)
  · intro k hk
    try refine wkG trivial ?_
    try (refine Stop.mk ?_; intro K hK)
    refine wpA_cond' ⟨_, evl, fun hb => ?_, fun hb => ?_⟩
    · simp only [decide_eq_true_eq] at hb
      have hlt : k < cs.length := by omega
      obtain ⟨h1, h2⟩ := h.r _ (memD hlt)
      have hle := evM_le h k (by omega)
      have hn8 := h.n
      have hs : evM cs (k + 1) = ((evM cs k).1 ++ (evIn k (cs.getD k default).rounds (evM cs k).2 (cs.getD k default).rounds.length).1, (evIn k (cs.getD k default).rounds (evM cs k).2 (cs.getD k default).rounds.length).2) := rfl
      have hpre := fun j hj => ev_pre cs (k := k) (j := j) hlt hj
      have hfr : (lA 1 Round.av (cs.getD k default).rounds).free := lA_free (fun y => Round.free y) _
      try refine wkG trivial ?_
      try (refine Stop.mk ?_; intro K hK)
      generalize (cs.getD k default).rounds = rs at *
      refine wpA_loop (fun j : Nat => ⟨43, 0, [(0, true, .raw (.func (.yield y) #[] #[])), (3, true, .raw (.int .i64 (evIn k rs (evM cs k).2 j).2)), (10, true, lA 2 Chain.av cs), (11, true, .raw (.int .i64 cs.length)), (12, true, .raw (.int .i64 k)), (4, true, .raw (.int .i64 k)), (18, true, lA 1 Round.av rs), (19, true, .raw (.int .i64 rs.length)), (20, true, .raw (.int .i64 j))], [], [], ((y, (evM cs cs.length).1.map itE), ((evM cs k).1 ++ (evIn k rs (evM cs k).2 j).1).map itE, false)⟩)
        (fun j => j ≤ rs.length) (fun j => rs.length - j) 0 ?_ (by omega) ?_
      · simp only [evIn, List.append_nil]
        refine wkn ?_ ?_ ?_
        all_goals first | exact wk0 | refine wkS ?_ | skip
        all_goals (try trivial)
        all_goals ((repeat' apply And.intro) <;> first | exact wkL | skip)
      · intro j hj
        try refine wkG trivial ?_
        try (refine Stop.mk ?_; intro K hK)
        refine wpA_cond' ⟨_, evl, fun hb => ?_, fun hb => ?_⟩
        · simp only [decide_eq_true_eq] at hb
          have hlj : j < rs.length := by omega
          have hrl := h2 _ (memD hlj)
          have hai := evIn_le k rs (evM cs k).2 h2 j (by omega)
          have hp := map_pre (f := itE) (hpre (j + 1) (by omega))
          have hs2 : evIn k rs (evM cs k).2 (j + 1) = ((evIn k rs (evM cs k).2 j).1 ++ [⟨k, j, (evIn k rs (evM cs k).2 j).2, (rs.getD j default).replies⟩], (evIn k rs (evM cs k).2 j).2 + (1 + 2 * ((rs.getD j default).replies.length : Int))) := rfl
          have hfj : (lA 10 Reply.av (rs.getD j default).replies).free := lA_free (fun y => Reply.free y) _
          rw [hs2] at hp
          simp only [← List.append_assoc] at hp
          rw [List.map_append] at hp
          generalize (evIn k rs (evM cs k).2 j).2 = at_ at *
          generalize hX : (evM cs k).1 ++ (evIn k rs (evM cs k).2 j).1 = X at *
          try (first | refine wkM hK trivial ?_ | refine wkG trivial ?_)
          try clear hK K
          try (refine Stop.mk ?_; intro K hK)
          refine runS_yield rfl rfl ⟨_, evl, _, _, evl, ?_, ?_, ?_⟩
          · intro _
            exact ⟨fun c hc => by simp at hc; simp [hc], ⟨⟨trivial, trivial, trivial, hfj, trivial⟩, trivial⟩, hp⟩
          · intro hg
            simp at hg
          · intro _ b
            try (first | refine wkM hK trivial ?_ | refine wkG trivial ?_)
            try clear hK K
            try (refine Stop.mk ?_; intro K hK)
            refine wpA_cond' ⟨_, evl, fun hb2 => ?_, fun hb2 => ?_⟩
            · obtain rfl : b = false := by simpa using hb2
              try refine wkG trivial ?_
              try (refine Stop.mk ?_; intro K hK)
              exact ⟨.inr rfl, hp, fun h => by simp at h⟩
            · obtain rfl : b = true := by simpa using hb2
              try refine wkG trivial ?_
              try (refine Stop.mk ?_; intro K hK)
              refine ⟨j + 1, by omega, by omega, ?_⟩
              rw [hs2]
              simp only [← List.append_assoc]
              rw [hX, List.map_append]
              refine wkn ?_ ?_ ?_
              all_goals first | exact wk0 | refine wkS ?_ | skip
              all_goals (try trivial)
              all_goals ((repeat' apply And.intro) <;> first | exact wkL | skip)
        · simp only [decide_eq_false_iff_not] at hb
          obtain rfl : j = rs.length := by omega
          try refine wkG trivial ?_
          try (refine Stop.mk ?_; intro K hK)
          refine ⟨k + 1, by omega, by omega, ?_⟩
          rw [hs]
          refine wkn ?_ ?_ ?_
          all_goals first | exact wk0 | refine wkS ?_ | skip
          all_goals (try trivial)
          all_goals ((repeat' apply And.intro) <;> first | exact wkL | skip)
    · simp only [decide_eq_false_iff_not] at hb
      obtain rfl : k = cs.length := by omega
      try refine wkG trivial ?_
      try (refine Stop.mk ?_; intro K hK)
      exact ⟨.inl rfl, List.prefix_refl _, fun _ => rfl⟩
theorem app_one {bx : List (List AV)} {rw : List ARow} {L : List Bound} {x : Bound} {el : Nat → List AV} (h : SimsL bx rw (el 0) x.av) : ∀ q, q < (L ++ [x]).length → SimsL bx rw (appEl L.length (els Bound.av L) el q) (els Bound.av (L ++ [x]) q) := by
  intro q hq
  rw [← els_append (l := L) (n := L.length) rfl]
  rcases Nat.lt_or_ge q L.length with hb | hb
  · rw [appEl_lt hb, appEl_lt hb]
    exact SimsL.refl _
  · obtain h0 : q - L.length = 0 := by simp at hq; omega
    rw [appEl_ge hb, appEl_ge hb, h0]
    exact h
theorem replyL_len (m : Matter) (r : Reply) (rate count s t : Int) : (replyL m r rate count s t).length ≤ 9 := by
  unfold replyL betweenL
  split <;> simp
def dayOf (m : Matter) (e : Event) : Diary := m.diaries.getD e.chain.toNat default
def gapL (m : Matter) (e b : Event) : List Bound := betweenL b.at_ e.at_ (elapsedM (dayOf m e).rate ((dayOf m e).sent.getD e.round.toNat default - (dayOf m e).sent.getD (e.round - 1).toNat default)).1 [⟨2, (dayOf m e).host⟩]
def laterB (e b : Event) (j : Nat) : Bound := ⟨e.at_, b.at_ + 2 + 2 * j, 0, []⟩
def saysL (m : Matter) (e : Event) (j : Nat) : List Bound := replyL m (e.replies.getD j default) (dayOf m e).rate (((dayOf m e).got.getD e.round.toNat default).getD j default - (dayOf m e).sent.getD e.round.toNat default) e.at_ (e.at_ + 1 + 2 * j)
def roundL (m : Matter) (e b : Event) : List Bound := (if 0 < e.round then gapL m e b ++ (List.range b.replies.length).map (laterB e b) else []) ++ (List.range e.replies.length).flatMap (saysL m e)
structure EventOk (m : Matter) (e : Event) : Prop where
  c : 0 ≤ e.chain ∧ e.chain < m.diaries.length
  q : e.round ≤ 1000
  r : 0 ≤ e.round ∧ e.round < (dayOf m e).sent.length ∧ e.round < (dayOf m e).got.length
  g : ((dayOf m e).got.getD e.round.toNat default).length = e.replies.length
  s : ∀ i, i < (dayOf m e).sent.length → inD ((dayOf m e).sent.getD i default)
  u : ∀ u ∈ (dayOf m e).got.getD e.round.toNat default, inD u
  p : ∀ x ∈ e.replies, replyP x
  l : e.replies.length ≤ 1000
  a : 0 ≤ e.at_ ∧ e.at_ ≤ 2000
theorem says_len (m : Matter) (e : Event) (k : Nat) : ((List.range k).flatMap (saysL m e)).length ≤ 9 * k := by
  induction k with
  | zero => simp
  | succ k ih =>
    rw [List.range_succ, List.flatMap_append, List.length_append]
    have : ([k].flatMap (saysL m e)).length ≤ 9 := by
      simp only [List.flatMap_cons, List.flatMap_nil, List.append_nil]
      exact replyL_len ..
    omega
theorem round_G (m : Matter) (h : OkM m) (hau : authsP m.evidence.auths) (l : List Bound) (hl : l.length ≤ 10000000000) (e b : Event) (he : EventOk m e) (hb : (0 ≤ b.at_ ∧ b.at_ ≤ 2000) ∧ b.replies.length ≤ 1000) :
    FnG Tryz.prog 35 [.box 0 0, .agg e.av, .agg b.av] [courtB m l.length] [rowB l] (.tup []) [courtB m (l ++ roundL m e b).length] [rowB (l ++ roundL m e b)] := by
  obtain ⟨f1, f2, f3, f4, f5⟩ := freeM m
  have hef := Event.free e
  have hbf := Event.free b
  obtain ⟨⟨c1, c2⟩, hq, ⟨r1, r2, r3⟩, hg, hs, hu, hp, hel, ha⟩ := id he
  have hday : dayOf m e = m.diaries.getD e.chain.toNat default := rfl
  have hdf := Diary.free (dayOf m e)
  obtain ⟨l1, hl1⟩ : ∃ l1, l1 = l ++ (if 0 < e.round then gapL m e b ++ (List.range b.replies.length).map (laterB e b) else []) := ⟨_, rfl⟩
  have hc1 : l1.length ≤ 10000001002 := by
    rw [hl1, List.length_append]
    split
    · rw [List.length_append, List.length_map, List.length_range]
      have : (gapL m e b).length = 2 := rfl
      omega
    · simp; omega
  rw [show l ++ roundL m e b = l1 ++ (List.range e.replies.length).flatMap (saysL m e) by rw [hl1, roundL, List.append_assoc]]
  refine fnG_of tblOk Tryz.func35 rfl (by kernel_rfl) 118 Tryz.ntmps35 lenT [] rfl 1 (by simp) ?_
  simp only [entryG, argSl, Nat.zero_add, Nat.reduceAdd, List.length_cons, List.length_nil]
  refine wpA_endW ?_
  repeat (refine stG ?_)
  refine wpA_region (fun K hK => ?_)
  iterate 2 (refine stG ?_)
  refine runS_freeze 1 obf ⟨_, evl, _, evl, ?_⟩
  try (first | refine wkM hK trivial ?_ | refine wkG trivial ?_)
  try clear hK K
  try (refine Stop.mk ?_; intro K hK)
  rw [← hday]
  refine wpA_freeze 1 obf ⟨_, evl, _, evl, ?_⟩
  have hn : ∀ x : Int, -3000000000000000 ≤ x ∧ x ≤ 3000000000000000 → IntKind.i64.wrap (-x) = -x := fun x hx => inK_wrap (k := .i64) (by simp only [inK]; omega)
  refine wpA_join ⟨118, 1 + 64 * 1, [(0, true, .box 0 0), (4, true, .elt e.av 0), (6, true, .elt (dayOf m e).av 0)], [courtB m l1.length], [rowB l1], ((0, []), [], true)⟩ ?_ ?_
  · refine wpA_cond' ⟨_, evl, fun hb0 => ?_, fun hb0 => ?_⟩
    · simp only [decide_eq_true_eq] at hb0
      rw [if_pos hb0] at hl1
      have s1 : inD ((dayOf m e).sent.getD e.round.toNat 0) := hs _ (by omega)
      have s2 : inD ((dayOf m e).sent.getD (e.round - 1).toNat 0) := hs _ (by omega)
      have el := elapsed_A (dayOf m e).rate ((dayOf m e).sent.getD e.round.toNat 0 - (dayOf m e).sent.getD (e.round - 1).toNat 0)
      have er := elapsed_range (dayOf m e).rate ((dayOf m e).sent.getD e.round.toNat 0 - (dayOf m e).sent.getD (e.round - 1).toNat 0)
      have hgap : gapL m e b = betweenL b.at_ e.at_ (elapsedM (dayOf m e).rate ((dayOf m e).sent.getD e.round.toNat 0 - (dayOf m e).sent.getD (e.round - 1).toNat 0)).1 [⟨2, (dayOf m e).host⟩] := rfl
      simp only [inD] at s1 s2
      generalize elapsedM (dayOf m e).rate ((dayOf m e).sent.getD e.round.toNat 0 - (dayOf m e).sent.getD (e.round - 1).toNat 0) = E at *
      have b1 := between_G m l (by omega) b.at_ e.at_ E.1 (hn _ (by omega)) [⟨2, (dayOf m e).host⟩] _ (fun _ _ => rfl)
      rw [← hgap] at b1
      rw [← List.append_assoc] at hl1
      have hcg : (l ++ gapL m e b).length = l.length + 2 := by rw [List.length_append]; rfl
      generalize l ++ gapL m e b = l0 at *
      clear hgap
      try (first | refine wkM hK el ?_ | refine wkG el ?_)
      try clear hK K
      try (refine Stop.mk ?_; intro K hK)
      refine runS_weak (Weak.slot 53 evl (Sim.lstE rfl (who1 ⟨2, (dayOf m e).host⟩)).s) ?_
      refine runS_freeze 1 obf ⟨_, evl, _, evl, ?_⟩
      refine sCallC 0 (bx1 := [courtB m _]) b1 rfl rfl rfl ⟨Nat.zero_lt_one, trivial, trivial, ⟨trivial, trivial, trivial⟩, AV.sub_free _ (lA_free (fun y => Party.free y) _), trivial⟩ ⟨_, rfl, _, evl, obl, rfl, rfl, rfl, ?_⟩

      try (first | refine wkM hK trivial ?_ | refine wkG trivial ?_)
      try clear hK K
      try (refine Stop.mk ?_; intro K hK)
      refine wpA_loop (fun j : Nat => ⟨118, 1 + 64 * 1, [(0, true, .box 0 0), (4, true, .elt e.av 0), (5, true, .elt b.av 0), (6, true, .elt (dayOf m e).av 0), (56, true, lA 10 Reply.av b.replies), (57, true, .raw (.int .i64 b.replies.length)), (58, true, .raw (.int .i64 j))], [courtB m (l0 ++ (List.range j).map (laterB e b)).length], [rowB (l0 ++ (List.range j).map (laterB e b))], ((0, []), [], true)⟩)
        (fun j => j ≤ b.replies.length) (fun j => b.replies.length - j) 0 ?_ (by omega) ?_
      · simp only [List.range_zero, List.map_nil, List.append_nil]
        refine wkn ?_ ?_ ?_
        all_goals first | exact wk0 | refine wkS ?_ | skip
        all_goals (try trivial)
        all_goals ((repeat' apply And.intro) <;> first | exact wkL | skip)
      · intro j hj
        rcases Nat.lt_or_ge j b.replies.length with hlt | hge
        · have hsn : l0 ++ (List.range (j + 1)).map (laterB e b) = (l0 ++ (List.range j).map (laterB e b)) ++ [laterB e b j] := by
            rw [List.range_succ, List.map_append, List.append_assoc]; rfl
          have hLl : (l0 ++ (List.range j).map (laterB e b)).length ≤ 10000010000 := by rw [List.length_append, List.length_map, List.length_range]; omega
          have hav : (laterB e b j).av = [.raw (.int .i64 e.at_), .raw (.int .i64 (b.at_ + 2 + 2 * j)), .raw (.int .i64 0), lA 2 Party.av []] := rfl
          generalize l0 ++ (List.range j).map (laterB e b) = L at *
          try refine wkG trivial ?_
          try (refine Stop.mk ?_; intro K hK)
          refine wpA_cond' ⟨_, evl, fun _ => ?_, fun hb => absurd (of_decide_eq_false hb) (by omega)⟩
          try refine wkG trivial ?_
          try (refine Stop.mk ?_; intro K hK)
          refine ⟨j + 1, by omega, by omega, ?_⟩
          rw [hsn]
          have hlen : L.length + 1 = (L ++ [laterB e b j]).length := by simp
          refine wkn ?_ ?_ ?_
          all_goals first | exact wk0 | refine wkS ?_ | skip
          all_goals (try trivial)
          all_goals ((repeat' apply And.intro) <;> first | exact wkL | skip)
          all_goals first | exact Sims.rowN hlen | exact hlen | skip
          refine app_one ?_
          rw [hav]
          exact ⟨Sims.refl _, Sims.refl _, Sims.refl _, (Sim.nil rfl).s, trivial⟩
        · obtain rfl : j = b.replies.length := by omega
          rw [← hl1]
          try refine wkG trivial ?_
          try (refine Stop.mk ?_; intro K hK)
          refine wpA_cond' ⟨_, evl, fun hb => absurd (of_decide_eq_true hb) (by omega), fun _ => ?_⟩
          try refine wkG trivial ?_
          try (refine Stop.mk ?_; intro K hK)
          refine wkn ?_ ?_ ?_
          all_goals first | exact wk0 | refine wkS ?_ | skip
          all_goals (try trivial)
          all_goals ((repeat' apply And.intro) <;> first | exact wkL | skip)
    · simp only [decide_eq_false_iff_not] at hb0
      rw [if_neg hb0, List.append_nil] at hl1
      rw [hl1]
      try refine wkG trivial ?_
      try (refine Stop.mk ?_; intro K hK)
      refine wkn ?_ ?_ ?_
      all_goals first | exact wk0 | refine wkS ?_ | skip
      all_goals (try trivial)
      all_goals ((repeat' apply And.intro) <;> first | exact wkL | skip)
  · try refine wkG trivial ?_
    try (refine Stop.mk ?_; intro K hK)
    refine wpA_loop (fun j : Nat => ⟨118, 1 + 64 * 1, [(0, true, .box 0 0), (4, true, .elt e.av 0), (6, true, .elt (dayOf m e).av 0), (81, true, lA 10 Reply.av e.replies), (82, true, .raw (.int .i64 e.replies.length)), (83, true, .raw (.int .i64 j))], [courtB m (l1 ++ (List.range j).flatMap (saysL m e)).length], [rowB (l1 ++ (List.range j).flatMap (saysL m e))], ((0, []), [], true)⟩)
      (fun j => j ≤ e.replies.length) (fun j => e.replies.length - j) 0 ?_ (by omega) ?_
    · simp only [List.range_zero, List.flatMap_nil, List.append_nil]
      refine wkn ?_ ?_ ?_
      all_goals first | exact wk0 | refine wkS ?_ | skip
      all_goals (try trivial)
      all_goals ((repeat' apply And.intro) <;> first | exact wkL | skip)
    · intro j hj
      rcases Nat.lt_or_ge j e.replies.length with hlt | hge
      · have hsn : l1 ++ (List.range (j + 1)).flatMap (saysL m e) = (l1 ++ (List.range j).flatMap (saysL m e)) ++ saysL m e j := by
          rw [List.range_succ, List.flatMap_append, List.append_assoc]; simp
        have hLl : (l1 ++ (List.range j).flatMap (saysL m e)).length ≤ 10000100000 := by
          have := says_len m e j
          rw [List.length_append]; omega
        have s1 : inD ((dayOf m e).sent.getD e.round.toNat 0) := hs _ (by omega)
        have u1 : inD (((dayOf m e).got.getD e.round.toNat default).getD j 0) := hu _ (memD (by omega))
        have hay : saysL m e j = replyL m (e.replies.getD j default) (dayOf m e).rate (((dayOf m e).got.getD e.round.toNat default).getD j 0 - (dayOf m e).sent.getD e.round.toNat 0) e.at_ (e.at_ + 1 + 2 * j) := rfl
        have rg := fun L (hL : L.length ≤ 90000000000) => reply_G m h L hL (e.replies.getD j default) (hp _ (memD hlt)) (dayOf m e).rate (((dayOf m e).got.getD e.round.toNat default).getD j 0 - (dayOf m e).sent.getD e.round.toNat 0) e.at_ (e.at_ + 1 + 2 * j) (by omega) (by omega) hau
        rw [← hay] at rg
        simp only [inD] at s1 u1
        have r4 := rg _ (show (l1 ++ (List.range j).flatMap (saysL m e)).length ≤ 90000000000 by omega)
        clear rg hay
        generalize l1 ++ (List.range j).flatMap (saysL m e) = L at *
        try refine wkG trivial ?_
        try (refine Stop.mk ?_; intro K hK)
        refine wpA_cond' ⟨_, evl, fun _ => ?_, fun hb => absurd (of_decide_eq_false hb) (by omega)⟩
        repeat (refine stG ?_)
        refine wpA_region (fun K hK => ?_)
        iterate 6 (refine stG ?_)
        refine runS_freeze 1 obf ⟨_, evl, _, evl, ?_⟩
        refine runS_nil (hK _ ?_); clear hK K
        repeat (refine stG ?_)
        refine wpA_drawA true (by kernel_rfl) (by kernel_rfl) (fun K hK => ?_)
        repeat
          first
            | (refine runS_nil (hK _ ?_); clear hK K)
            | refine stG ?_
            | (refine gateA 1 rfl ?_; refine runA_put ?_)
            | (refine gateBc ?_; first | (refine runB_nil (hK _ ?_); clear hK K) | (refine runB_op rfl ⟨_, evl, fun nb' => ?_⟩))
            | refine wpA_region (fun K hK => ?_)
            | (refine gateD ?_; first | (refine wpA_drawG false rfl (by kernel_rfl) (by kernel_rfl) (fun K hK => ?_)) | (refine wpA_drawG true rfl (by kernel_rfl) (by kernel_rfl) (fun K hK => ?_)))
        refine sCallC 0 (bx1 := [courtB m _]) r4 rfl rfl rfl ⟨Nat.zero_lt_one, AV.subL_free _ (Reply.free _), trivial, trivial, trivial, trivial, trivial⟩ ⟨_, rfl, _, evl, obl, rfl, rfl, rfl, ?_⟩
        refine runB_end rfl (keepT _ _) (fun h => by cases h) ?_
        refine runB_nil (hK _ ?_); clear hK K
        try (first | refine wkM hK trivial ?_ | refine wkG trivial ?_)
        try clear hK K
        try (refine Stop.mk ?_; intro K hK)
        refine ⟨j + 1, by omega, by omega, ?_⟩
        rw [hsn]
        refine wkn ?_ ?_ ?_
        all_goals first | exact wk0 | refine wkS ?_ | skip
        all_goals (try trivial)
        all_goals ((repeat' apply And.intro) <;> first | exact wkL | skip)
      · obtain rfl : j = e.replies.length := by omega
        try refine wkG trivial ?_
        try (refine Stop.mk ?_; intro K hK)
        refine wpA_cond' ⟨_, evl, fun hb => absurd (of_decide_eq_true hb) (by omega), fun _ => ?_⟩
        try refine wkG trivial ?_
        try (refine Stop.mk ?_; intro K hK)
        refine ⟨⟨118, 1 + 64 * 1, [], [courtB m (l1 ++ (List.range e.replies.length).flatMap (saysL m e)).length], [rowB (l1 ++ (List.range e.replies.length).flatMap (saysL m e))], ((0, []), [], true)⟩, ?_, ?_⟩
        · refine wkn ?_ ?_ ?_
          all_goals first | exact wk0 | refine wkS ?_ | skip
          all_goals (try trivial)
          all_goals ((repeat' apply And.intro) <;> first | exact wkL | skip)
        · all_goals (refine retG_of (by simp) ⟨_, _, _, evl, obq, OutG.bel ?_ obb, by simp, ?_, rfl, obb, belRB _⟩)
          all_goals first | rfl | (simp; done) | (simp_all; done) | (simp_all; omega) | skip
end Go.Proofs.YtchpbdecipcelaaGreatDoor
