import Derived.Test.YtchpbdecipcelaaGreatDoorSM41
namespace Go.Proofs.YtchpbdecipcelaaGreatDoor
set_option linter.unusedVariables false
set_option linter.unusedSimpArgs false
set_option maxHeartbeats 4000000
set_option maxRecDepth 100000
open Go.RowKit
theorem clone_A (l : List Party) (hl : l.length ≤ 1000000000000) : FnA Tryz.prog 103 [lA 2 Party.av l] (lA 2 Party.av l) := by
  have hfr : (lA 2 Party.av l).free := lA_free (fun y => Party.free y) _
  refine fnA_of tblOk Tryz.func103 rfl (by kernel_rfl) 8 Tryz.ntmps103 lenT [.tmp 2] rfl ?_
  simp only [entrySt, argSl, Nat.zero_add, Nat.reduceAdd]
  repeat (refine stG ?_)
  refine wpA_region (fun K hK => ?_)
  iterate 1 (refine stG ?_)
  refine runS_nil (hK _ ?_); clear hK K
  repeat (refine stG ?_)
  refine wpA_region (fun K hK => ?_)
  iterate 1 (refine stG ?_)
  refine runS_isnil tblOk rfl rfl rfl rfl ⟨_, _, _, evl, evl, ⟨_, _, _, _, _, evl⟩, fun b hnil => ⟨_, evl, ?_⟩⟩
  refine runS_nil (hK _ ?_); clear hK K
  try (first | refine wkN hK trivial ?_ | refine wkR trivial ?_)
  try clear hK K
  try (refine Stop.mk ?_; intro K hK)
  refine wpA_cond' ⟨_, evl, fun hb => ?_, fun hb => ?_⟩
  · have hn := hnil hb
    obtain rfl := List.length_eq_zero_iff.1 hn
    try refine wkR trivial ?_
    try (refine Stop.mk ?_; intro K hK)
    refine ret_of (by simp) ⟨_, _, _, evl, ob0, OutOk.sims ?_ fre⟩
    exact (Sim.nil rfl).s
  · try refine wkR trivial ?_
    try (refine Stop.mk ?_; intro K hK)
    refine ret_of (by simp) ⟨_, _, _, evl, ob0, OutOk.sims ?_ fre⟩
    exact Sims.row rfl rfl rfl rfl fun i hi => show appEl 0 (chunkA 2 []) (els Party.av l) i = _ by rw [appEl_ge (Nat.zero_le i)]; rfl
theorem choose_flat {α : Type} [Inhabited α] : ∀ (l : List α) (n : Nat), Vd.choose l (n + 1) = (List.range l.length).flatMap fun i => (Vd.choose (l.drop (i + 1)) n).map (l.getD i default :: ·)
  | [], n => rfl
  | x :: l, n => by
    rw [Vd.choose, choose_flat l n, List.length_cons, List.range_succ_eq_map, List.flatMap_cons, List.flatMap_map]
    rfl
def upI (l : List Party) (n i : Nat) : List (List Party) := (List.range i).flatMap fun j => (Vd.choose (l.drop (j + 1)) n).map (l.getD j default :: ·)
theorem upI_succ (l : List Party) (n i : Nat) : upI l n (i + 1) = upI l n i ++ (Vd.choose (l.drop (i + 1)) n).map (l.getD i default :: ·) := by
  unfold upI
  rw [List.range_succ, List.flatMap_append]
  simp
theorem upI_le (l : List Party) (n : Nat) {i j : Nat} (h : i ≤ j) : (upI l n i).length ≤ (upI l n j).length := by
  induction j with
  | zero => rw [Nat.le_zero.1 h]; exact Nat.le_refl _
  | succ j ih =>
    rcases Nat.lt_or_ge i (j + 1) with hlt | hge
    · rw [upI_succ, List.length_append]
      have := ih (by omega)
      omega
    · rw [show i = j + 1 by omega]; exact Nat.le_refl _
theorem upI_mem (l : List Party) (n i : Nat) {s : List Party} (h : s ∈ upI l n i) : s.length = n + 1 := by
  unfold upI at h
  rw [List.mem_flatMap] at h
  obtain ⟨j, _, hs⟩ := h
  obtain ⟨t, ht, rfl⟩ := List.mem_map.1 hs
  rw [List.length_cons, ((Vd.choose_mem _ _ _).1 ht).2]
theorem dropEl (L : List Party) (i j : Nat) : [AV.raw (.int .i64 (L.getD (((i : Int) + 1).toNat + j) default).kind), .raw (.int .i64 (L.getD (((i : Int) + 1).toNat + j) default).id)] = els Party.av (L.drop (i + 1)) j := by
  unfold els
  rw [List.getD_eq_getElem?_getD (l := List.drop _ _), List.getElem?_drop, show ((i : Int) + 1).toNat = i + 1 from by omega, List.getD_eq_getElem?_getD]
  rfl
abbrev takeF : AV := .fn (.func 55) [] [.box 0 0, .box 1 0, .box 2 0, .box 3 0]
theorem sblS {m : Matter} {O O' : List (List Party)} {l : List Bound} {n : Nat} {args : List AV} (ha : AV.subL 4 1 args) :
    (∀ cs ∈ setsB m O l n, AV.subL 4 1 cs) ∧ (∀ r ∈ [rowS O], ∀ q, q < r.n → AV.subL 4 1 (r.el q)) ∧ AV.subL 4 1 args ∧ 4 ≤ (setsB m O' l n).length ∧ 1 ≤ [rowS O'].length := by
  refine ⟨fun cs hc => ?_, fun r hr q _ => ?_, ha, Nat.le_refl _, Nat.le_refl _⟩
  · simp only [List.mem_cons, List.not_mem_nil, or_false] at hc
    rcases hc with rfl | rfl | rfl | rfl
    · exact AV.subL_free _ (Matter.free m)
    · exact ⟨Nat.zero_lt_one, trivial⟩
    · exact ⟨AV.sub_free _ (lA_free (fun y => Bound.free y) _), trivial⟩
    · exact ⟨trivial, trivial⟩
  · simp only [List.mem_cons, List.not_mem_nil, or_false] at hr
    subst hr
    exact AV.subL_free _ ⟨lA_free (fun z => Party.free z) _, trivial⟩
theorem box4 : AV.subL 4 1 [.box 0 0, .box 1 0, .box 2 0, .box 3 0] := ⟨show 0 < 4 by decide, show 1 < 4 by decide, show 2 < 4 by decide, show 3 < 4 by decide, trivial⟩
theorem subParties {a b : Nat} (l : List Party) : AV.sub a b (lA 2 Party.av l) := AV.sub_free _ (lA_free (fun z => Party.free z) _)
theorem sCallGs (ib ir : List Nat) {P : Program} {ops : Array Oper} {rest : List Oper} {K : ASt → Prop} {nt nb : Nat} {sl : List (Nat × (Bool × AV))} {bx : List (List AV)} {rw : List ARow} {ys : (Nat × List (List AV)) × List (List AV) × Bool} {o : Oper} {d : Nat} {f : FuncId} {args : List AV} {sub sub' : List (List AV)} {rsub rsub' : List ARow} {r : AV}
    (hgd : guardA ops ⟨nt, nb, sl, bx, rw, ys⟩ o = some true) (F : FnG P f args sub rsub r sub' rsub') (hd : o.dst = some d) (hn : Nat.blt d nt = true)
    (h : ∃ m, bx.length = m ∧ ∃ n, rw.length = n ∧ ∃ cs args0, callA ⟨nt, nb, sl, bx, rw, ys⟩ o.op = some (cs, f, args0) ∧ SimL args0 (AV.renL (idx ib m) (idx ir n) args) ∧ (∀ c ∈ cs, c = true) ∧ ib.Nodup ∧ ir.Nodup ∧ handL bx (AV.renL (idx ib m) (idx ir n)) ib sub ∧ handL rw (ARow.ren (idx ib m) (idx ir n)) ir rsub ∧
      ((∀ cs ∈ sub, AV.subL ib.length ir.length cs) ∧ (∀ r ∈ rsub, ∀ q, q < r.n → AV.subL ib.length ir.length (r.el q)) ∧ AV.subL ib.length ir.length args ∧ ib.length ≤ sub'.length ∧ ir.length ≤ rsub'.length) ∧
      ∃ r1, r.ren (idx ib m) (idx ir n) = r1 ∧ ∃ bx1, setAll bx ib (sub'.map (AV.renL (idx ib m) (idx ir n))) = bx1 ∧ ∃ rw1, setAll rw ir (rsub'.map (ARow.ren (idx ib m) (idx ir n))) = rw1 ∧
      runS P ops rest K ⟨nt, nb, (d, (true, r1)) :: sl, bx1, rw1, ys⟩) : runS P ops (o :: rest) K ⟨nt, nb, sl, bx, rw, ys⟩ := by
  obtain ⟨m, rfl, n, rfl, cs, args0, h1, hsim, h2, h3, h4, h5, h6, ⟨h7, h8, h9, h10, h11⟩, r1, rfl, bx1, rfl, rw1, rfl, h14⟩ := h
  intro C G a w Q hs hQ
  have hw := guardA_sound hgd (G := G) (w := w) (a := a) (fun t _ => hs.slot t)
  have hdl : d < nt := by simpa [Nat.blt_eq] using hn
  unfold wpListIn
  rw [hw]
  simp only [if_true]
  have F' := F.frame ib ir (handOk_of h3 h4 h5 h6 h7 h8) h9 h10 h11
  obtain ⟨vs, g1, g2⟩ := callA_sound (P := P) (a := a) h1 (fun y hy => evOk_of fun t ht => hs.slot t) h2 F'.ok
  refine wpIn_of_run (fun c hc => by rw [hc] at h1; simp [callA] at h1) ?_
  rw [g2, Oper.uponIn_enter]
  refine ⟨fun h => by simp [fen] at h, callsIn_fen ?_⟩
  refine (F'.calls G w vs hs.tabs hs.tabs_own hs.mem (hsim.rel g1)).mono ?_
  rintro e w' ⟨v, G', rfl, hout, hle, hfr, hB, hR', hm1, hv⟩
  rw [hd]
  exact h14 C G' _ w' Q ((hs.called hout hle hfr hB hR' hm1).put hdl (fun _ => hv) (fun h => by cases h)) hQ
structure SubOk (l : List Bound) (n : Nat) (O : List (List Party)) (k : Nat) (X : List (List Party)) : Prop where
  poss : ∀ s : List Party, s.length ≤ 1000 → FnA Tryz.prog 49 [lA 4 Bound.av l, .raw (.int .i64 n), lA 2 Party.av s] (.raw (.bool (possM l n s)))
  out : ∀ s ∈ O, s.length ≤ 1000
  len : O.length + X.length ≤ 100000000000
theorem step_len {ok : List Party → Bool} (X O : List (List Party)) : (Vd.pick ok X O).length ≤ O.length + X.length := by
  induction X generalizing O with
  | nil => simp [Vd.pick]
  | cons s X ih =>
    have := ih (Vd.stepS ok O s)
    have h2 : (Vd.stepS ok O s).length ≤ O.length + 1 := by
      unfold Vd.stepS
      split <;> simp
    rw [Vd.pick, List.foldl_cons, ← Vd.pick, List.length_cons]
    omega
theorem pick_mem {ok : List Party → Bool} (X O : List (List Party)) : ∀ s ∈ Vd.pick ok X O, s ∈ O ∨ s ∈ X := by
  induction X generalizing O with
  | nil => exact fun s hs => .inl hs
  | cons x X ih =>
    intro s hs
    rw [Vd.pick, List.foldl_cons, ← Vd.pick] at hs
    rcases ih _ s hs with h | h
    · unfold Vd.stepS at h
      split at h
      · rcases List.mem_append.1 h with h | h
        · exact .inl h
        · exact .inr (by rw [List.mem_singleton.1 h]; simp)
      · exact .inl h
    · exact .inr (by simp [h])
theorem subsets_G (m : Matter) (l : List Bound) (n : Nat) : ∀ (k : Nat) (L ch : List Party) (O : List (List Party)), ch.length + k ≤ 1000 → L.length ≤ 1000000000000 → SubOk l n O k (Vd.choose L k) →
    FnG Tryz.prog 54 [lA 2 Party.av L, .raw (.int .i64 k), lA 2 Party.av ch, takeF] (setsB m O l n) [rowS O] (.tup []) (setsB m (Vd.pick (okS m.evidence.f l n) ((Vd.choose L k).map (ch ++ ·)) O) l n) [rowS (Vd.pick (okS m.evidence.f l n) ((Vd.choose L k).map (ch ++ ·)) O)]
  | 0, L, ch, O, hc, hL, h => by
    have hcl := clone_A ch (by omega)
    have htk := take_G m O l n ch (by omega) (fun s hs => by have := h.out s hs; omega) (by have := h.len; omega) (h.poss ch (by omega))
    have hm := Matter.free m
    have hfl : (lA 4 Bound.av l).free := lA_free (fun y => Bound.free y) _
    have hfc : (lA 2 Party.av ch).free := lA_free (fun y => Party.free y) _
    have e : Vd.pick (okS m.evidence.f l n) ((Vd.choose L 0).map (ch ++ ·)) O = Vd.stepS (okS m.evidence.f l n) O ch := by
      cases L <;> simp [Vd.choose, Vd.pick]
    rw [e]
    clear e h
    generalize Vd.stepS (okS m.evidence.f l n) O ch = O' at *
    refine fnG_of tblOk Tryz.func54 rfl (by kernel_rfl) 41 Tryz.ntmps54 lenT [] rfl 4 (by simp) ?_
    simp only [entryG, argSl, Nat.zero_add, Nat.reduceAdd, List.length_cons, List.length_nil]
    try refine wkG hcl ?_
    try (refine Stop.mk ?_; intro K hK)
    refine wpA_cond' ⟨_, evl, fun _ => ?_, fun hb => absurd (of_decide_eq_false hb) (by simp)⟩
    try (first | refine wkM hK hcl ?_ | refine wkG hcl ?_)
    try clear hK K
    try (refine Stop.mk ?_; intro K hK)
    refine sCallG [0, 1, 2, 3] [0] htk rfl rfl rfl ⟨_, rfl, _, rfl, _, evl, obl, by decide, by decide, ⟨rfl, rfl, rfl, rfl, trivial⟩, ⟨rfl, trivial⟩, sblS ⟨subParties _, box4⟩, _, rfl, setsB m O' l n, rfl, [rowS O'], rfl, ?_⟩
    refine runS_nil (hK _ ?_); clear hK K
    try (first | refine wkM hK trivial ?_ | refine wkG trivial ?_)
    try clear hK K
    try (refine Stop.mk ?_; intro K hK)
    refine retG_of (by simp) ⟨_, _, _, evl, obq, OutG.bel rfl obb, by simp, rfl, rfl, obb, belRS _⟩
  | k + 1, L, ch, O, hc, hL, h => by
    have ih := subsets_G m l n k
    have hm := Matter.free m
    have hfl : (lA 4 Bound.av l).free := lA_free (fun y => Bound.free y) _
    have hfc : (lA 2 Party.av ch).free := lA_free (fun y => Party.free y) _
    have hfL : (lA 2 Party.av L).free := lA_free (fun y => Party.free y) _
    have eU : Vd.choose L (k + 1) = upI L k L.length := choose_flat L k
    refine fnG_of tblOk Tryz.func54 rfl (by kernel_rfl) 41 Tryz.ntmps54 lenT [] rfl 4 (by simp) ?_
    simp only [entryG, argSl, Nat.zero_add, Nat.reduceAdd, List.length_cons, List.length_nil]
    try refine wkG trivial ?_
    try (refine Stop.mk ?_; intro K hK)
    refine wpA_cond' ⟨_, evl, fun hb => absurd (of_decide_eq_true hb) (by omega), fun _ => ?_⟩
    try refine wkG trivial ?_
    try (refine Stop.mk ?_; intro K hK)
    refine wpA_loop (fun i : Nat => ⟨41, 4 + 64 * 1, [(0, true, lA 2 Party.av L), (1, true, .raw (.int .i64 (k + 1))), (2, true, lA 2 Party.av ch), (3, true, takeF), (16, true, lA 2 Party.av L), (17, true, .raw (.int .i64 L.length)), (18, true, .raw (.int .i64 i))],
        setsB m (Vd.pick (okS m.evidence.f l n) ((upI L k i).map (ch ++ ·)) O) l n, [rowS (Vd.pick (okS m.evidence.f l n) ((upI L k i).map (ch ++ ·)) O)], ((0, []), [], true)⟩)
      (fun i => i ≤ L.length) (fun i => L.length - i) 0 ?_ (by omega) ?_
    · rw [show (upI L k 0).map (ch ++ ·) = [] from rfl, show Vd.pick (okS m.evidence.f l n) [] O = O from rfl]
      refine wkn ?_ ?_ ?_
      all_goals first | exact wk0 | refine wkS ?_ | skip
      all_goals (try trivial)
      all_goals ((repeat' apply And.intro) <;> first | exact wkL | skip)
    · intro i hi
      rcases Nat.lt_or_ge i L.length with hlt | hge
      · have hF := ih (L.drop (i + 1)) (ch ++ [L.getD i default]) (Vd.pick (okS m.evidence.f l n) ((upI L k i).map (ch ++ ·)) O) (by rw [List.length_append]; simp; omega) (by rw [List.length_drop]; omega) ⟨h.poss, fun s hs => ?_, ?_⟩
        · have hst : Vd.pick (okS m.evidence.f l n) ((upI L k (i + 1)).map (ch ++ ·)) O = Vd.pick (okS m.evidence.f l n) ((Vd.choose (L.drop (i + 1)) k).map ((ch ++ [L.getD i default]) ++ ·)) (Vd.pick (okS m.evidence.f l n) ((upI L k i).map (ch ++ ·)) O) := by
            rw [upI_succ, List.map_append, Vd.pick_app, List.map_map]
            congr 2
            funext t
            simp
          have hnx : ∀ (i2 : Nat), i2 = i + 1 → Vd.pick (okS m.evidence.f l n) ((upI L k i2).map (ch ++ ·)) O = Vd.pick (okS m.evidence.f l n) ((Vd.choose (L.drop (i + 1)) k).map ((ch ++ [L.getD i default]) ++ ·)) (Vd.pick (okS m.evidence.f l n) ((upI L k i).map (ch ++ ·)) O) := fun i2 e => e ▸ hst
          clear hst ih h
          generalize Vd.pick (okS m.evidence.f l n) ((Vd.choose (L.drop (i + 1)) k).map ((ch ++ [L.getD i default]) ++ ·)) (Vd.pick (okS m.evidence.f l n) ((upI L k i).map (ch ++ ·)) O) = O2 at *
          generalize Vd.pick (okS m.evidence.f l n) ((upI L k i).map (ch ++ ·)) O = O1 at *
          try refine wkG trivial ?_
          try (refine Stop.mk ?_; intro K hK)
          refine wpA_cond' ⟨_, evl, fun _ => ?_, fun hb => absurd (of_decide_eq_false hb) (by omega)⟩
          repeat (refine stG ?_)
          refine wpA_region (fun K hK => ?_)
          iterate 6 (refine stG ?_)
          refine runS_freeze 4 obf ⟨_, evl, _, evl, ?_⟩
          refine runS_nil (hK _ ?_); clear hK K
          repeat (refine stG ?_)
          refine wpA_drawA true (by kernel_rfl) (by kernel_rfl) (fun K hK => ?_)
          repeat
            first
              | (refine runS_nil (hK _ ?_); clear hK K)
              | refine stG ?_
              | (refine gateA 1 rfl ?_; refine runA_put ?_)
              | (refine gateBc ?_; first | (refine runB_nil (hK _ ?_); clear hK K) | (refine runB_op rfl ⟨_, evl, fun nb' => ?_⟩))
              | refine wpA_region (fun K hK => ?_)
              | (refine gateD ?_; first | (refine wpA_drawG false rfl (by kernel_rfl) (by kernel_rfl) (fun K hK => ?_)) | (refine wpA_drawG true rfl (by kernel_rfl) (by kernel_rfl) (fun K hK => ?_)))
          refine runS_appFul tblOk rfl rfl ⟨_, evl, _, _, _, evl, (by exact fun _ => ⟨by simp, ⟨trivial, Nat.one_pos⟩, ⟨rfl, rfl, Nat.zero_lt_two, rfl⟩, (show ch.length + 1 ≤ 9223372036854775807 by omega), (show (ch.length + 1) * 16 ≤ 140737488355328 by omega)⟩), ?_⟩
          repeat
            first
              | (refine runS_nil (hK _ ?_); clear hK K)
              | refine stG ?_
              | (refine gateA 1 rfl ?_; refine runA_put ?_)
              | (refine gateBc ?_; first | (refine runB_nil (hK _ ?_); clear hK K) | (refine runB_op rfl ⟨_, evl, fun nb' => ?_⟩))
              | refine wpA_region (fun K hK => ?_)
              | (refine gateD ?_; first | (refine wpA_drawG false rfl (by kernel_rfl) (by kernel_rfl) (fun K hK => ?_)) | (refine wpA_drawG true rfl (by kernel_rfl) (by kernel_rfl) (fun K hK => ?_)))
          refine sCallGs [0, 1, 2, 3] [0] evl hF rfl rfl ⟨_, rfl, _, rfl, _, _, evl, (by exact ⟨Sim.lstE (show L.length - ((i : Int) + 1).toNat = (L.drop (i + 1)).length by rw [List.length_drop]; omega) fun j hj => dropEl L i j, Sim.of_eq (show AV.raw (.int .i64 ((k : Int) + 1 - 1)) = .raw (.int .i64 k) by congr 2; omega), Sim.lstE (show ch.length + 1 = (ch ++ [L.getD i default]).length by simp) fun j hj => els_snoc rfl hj rfl, Sim.refl _, trivial⟩), obl, by decide, by decide, ⟨rfl, rfl, rfl, rfl, trivial⟩, ⟨rfl, trivial⟩, sblS ⟨subParties _, trivial, subParties _, ⟨trivial, box4⟩, trivial⟩, .tup [], rfl, setsB m O2 l n, rfl, [rowS O2], rfl, ?_⟩
          refine runB_end rfl (keepT _ _) (fun h => by cases h) ?_
          refine runB_nil (hK _ ?_); clear hK K
          try (first | refine wkM hK trivial ?_ | refine wkG trivial ?_)
          try clear hK K
          try (refine Stop.mk ?_; intro K hK)
          refine ⟨i + 1, by omega, by omega, ?_⟩
          rw [hnx (i + 1) rfl]
          refine wkn ?_ ?_ ?_
          all_goals first | exact wk0 | refine wkS ?_ | skip
          all_goals (try trivial)
          all_goals ((repeat' apply And.intro) <;> first | exact wkL | skip)
        · rcases pick_mem _ _ s hs with hs | hs
          · exact h.out s hs
          · obtain ⟨t, ht, rfl⟩ := List.mem_map.1 hs
            rw [List.length_append, upI_mem L k i ht]
            omega
        · have h1 := step_len (ok := okS m.evidence.f l n) ((upI L k i).map (ch ++ ·)) O
          have h2 := h.len
          have h3 := upI_le L k (show i + 1 ≤ L.length from hlt)
          rw [eU] at h2
          rw [upI_succ, List.length_append] at h3
          simp only [List.length_map] at h1 h3
          omega
      · obtain rfl : i = L.length := by omega
        rw [← eU]
        clear ih h eU
        generalize Vd.pick (okS m.evidence.f l n) ((Vd.choose L (k + 1)).map (ch ++ ·)) O = O' at *
        try refine wkG trivial ?_
        try (refine Stop.mk ?_; intro K hK)
        refine wpA_cond' ⟨_, evl, fun hb => absurd (of_decide_eq_true hb) (by omega), fun _ => ?_⟩
        try refine wkG trivial ?_
        try (refine Stop.mk ?_; intro K hK)
        refine retG_of (by simp) ⟨_, _, _, evl, obq, OutG.bel rfl obb, by simp, rfl, rfl, obb, belRS _⟩
end Go.Proofs.YtchpbdecipcelaaGreatDoor
