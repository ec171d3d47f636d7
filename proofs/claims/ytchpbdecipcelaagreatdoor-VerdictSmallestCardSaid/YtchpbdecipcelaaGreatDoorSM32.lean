import Derived.Test.YtchpbdecipcelaaGreatDoorSM26
import Derived.Test.YtchpbdecipcelaaGreatDoorSM31
namespace Go.Proofs.YtchpbdecipcelaaGreatDoor
set_option linter.unusedVariables false
set_option linter.unusedSimpArgs false
set_option maxHeartbeats 4000000
set_option maxRecDepth 100000
open Go.RowKit
structure Event where
  chain : Int
  round : Int
  at_ : Int
  replies : List Reply
  deriving Inhabited, DecidableEq
@[go_sem] def Event.av (x : Event) : List AV := [.raw (.int .i64 x.chain), .raw (.int .i64 x.round), .raw (.int .i64 x.at_), lA 10 Reply.av x.replies]
@[simp] theorem Event.free (x : Event) : AV.freeL x.av := ⟨trivial, trivial, trivial, lA_free (fun y => Reply.free y) _, trivial⟩
def evIn (i : Nat) (rs : List Round) (at0 : Int) : Nat → List Event × Int
  | 0 => ([], at0)
  | k + 1 => ((evIn i rs at0 k).1 ++ [⟨i, k, (evIn i rs at0 k).2, (rs.getD k default).replies⟩], (evIn i rs at0 k).2 + (1 + 2 * ((rs.getD k default).replies.length : Int)))
def evM (cs : List Chain) : Nat → List Event × Int
  | 0 => ([], 1)
  | i + 1 => ((evM cs i).1 ++ (evIn i (cs.getD i default).rounds (evM cs i).2 (cs.getD i default).rounds.length).1, (evIn i (cs.getD i default).rounds (evM cs i).2 (cs.getD i default).rounds.length).2)
theorem outL_free {st : ASt} : ∀ {xs : List AV}, AV.freeL xs → OutL st xs xs
  | [], _ => rfl
  | _ :: _, h => ⟨_, _, rfl, OutOk.free h.1, outL_free h.2⟩
def itE (e : Event) : List AV := [.agg e.av]
def eventsF (m : Matter) : AV := .fn (.func 77) [] [.elt m.av 0]
theorem events_A (m : Matter) : FnA Tryz.prog 31 [.agg m.av] (eventsF m) := by
  have hfr := Matter.free m
  refine fnA_of tblOk Tryz.func31 rfl (by kernel_rfl) 4 Tryz.ntmps31 lenT [.tmp 2] rfl ?_
  simp only [entrySt, argSl, Nat.zero_add, Nat.reduceAdd]
  try refine wkG trivial ?_
  try (refine Stop.mk ?_; intro K hK)
  refine ret_of (by simp) ⟨_, _, _, evl, ob0, ?_⟩
  exact OutOk.fn rfl ⟨_, _, rfl, OutOk.box rfl (outL_free hfr), rfl⟩
def isA (id : Int) (a : Auth) : Bool := decide (a.id = id)
theorem authOne_G (a : Auth) (r : Reply) : FnG Tryz.prog 128 [.agg a.av, .box 0 0] [r.av] [] (.raw (.bool (isA r.auth a))) [r.av] [] := by
  refine fnG_of tblOk Tryz.func128 rfl (by kernel_rfl) 9 Tryz.ntmps128 lenT [.tmp 3] rfl 1 (by simp) ?_
  simp only [entryG, argSl, Nat.zero_add, Nat.reduceAdd, List.length_cons, List.length_nil]
  repeat' first
    | refine wkG trivial ?_
    | (refine cndS ⟨_, evl, ⟨cb, cb⟩, fun hb => ?_, fun hb => ?_⟩ <;> try (cases hb; done))
    | (refine Stop.mk ?_; intro K hK)
    | fail
  all_goals (refine retG_of (by simp) ⟨_, _, _, evl, obq, OutG.bel ?_ obb, by simp, ?_, rfl, obb, obb⟩)
  all_goals first | rfl | (simp [isA]; done) | (simp_all [isA]; done) | (simp_all [isA]; omega) | (simp [isA]; grind) | (split <;> simp_all) | skip
theorem wireOne_G (w : Wire) (r : Reply) : FnG Tryz.prog 130 [.agg w.av, .box 0 0] [r.av] [] (.raw (.bool (isW r.host r.auth w))) [r.av] [] := by
  refine fnG_of tblOk Tryz.func130 rfl (by kernel_rfl) 16 Tryz.ntmps130 lenT [.tmp 3] rfl 1 (by simp) ?_
  simp only [entryG, argSl, Nat.zero_add, Nat.reduceAdd, List.length_cons, List.length_nil]
  repeat' first
    | refine wkG trivial ?_
    | (refine cndS ⟨_, evl, ⟨cb, cb⟩, fun hb => ?_, fun hb => ?_⟩ <;> try (cases hb; done))
    | (refine Stop.mk ?_; intro K hK)
    | fail
  all_goals (refine retG_of (by simp) ⟨_, _, _, evl, obq, OutG.bel ?_ obb, by simp, ?_, rfl, obb, obb⟩)
  all_goals first | rfl | (simp [isW]; done) | (simp_all [isW]; done) | (simp_all [isW]; omega) | (simp [isW]; grind) | (split <;> simp_all) | skip
theorem indexCa_G (l : List Auth) (hl : l.length ≤ 4611686018427387904) (r : Reply) : FnG Tryz.prog 127 [lA 4 Auth.av l, .fn (.func 128) [] [.box 0 0]] [r.av] [] (.raw (.int .i64 (idxM (isA r.auth) l))) [r.av] [] := by
  refine fnG_of tblOk Tryz.func127 rfl (by kernel_rfl) 19 Tryz.ntmps127 lenT [.tmp 4] rfl 1 (by simp) ?_
  simp only [entryG, argSl, Nat.zero_add, Nat.reduceAdd, List.length_cons, List.length_nil]
  try refine wkG trivial ?_
  try (refine Stop.mk ?_; intro K hK)
  refine wpA_loop (fun k : Nat => ⟨19, 1, [(0, true, lA 4 Auth.av l), (1, true, .fn (.func 128) [] [.box 0 0]), (7, true, .raw (.int .i64 l.length)), (8, true, .raw (.int .i64 k))], [r.av], [], ((0, []), [], true)⟩)
    (fun k => k ≤ l.length ∧ ∀ i, i < k → (isA r.auth) (l.getD i default) = false) (fun k => l.length - k) 0 ?_ ⟨by omega, fun i h => by omega⟩ ?_
  · refine wkn ?_ ?_ ?_
    all_goals first | exact wk0 | refine wkS ?_ | skip
    all_goals (try trivial)
    all_goals ((repeat' apply And.intro) <;> first | exact wkL | skip)
  · rintro k ⟨hk, hall⟩
    have hpk := authOne_G (l.getD k default) r
    generalize hpb : (isA r.auth) (l.getD k default) = pb at *
    try refine wkG trivial ?_
    try (refine Stop.mk ?_; intro K hK)
    refine wpA_cond' ⟨_, evl, fun hlt => ?_, fun hge => ?_⟩
    · simp only [decide_eq_true_eq] at hlt
      try (first | refine wkM hK trivial ?_ | refine wkG trivial ?_)
      try clear hK K
      try (refine Stop.mk ?_; intro K hK)
      refine sCallG [0] [] (hpk) rfl rfl rfl ⟨_, evl, _, evl, _, evl, obl, by decide, by decide, hlT, hlT, sblT, _, evl, _, evl, _, evl, ?_⟩
      try (first | refine wkM hK trivial ?_ | refine wkG trivial ?_)
      try clear hK K
      try (refine Stop.mk ?_; intro K hK)
      refine wpA_cond' ⟨_, evl, fun hb => ?_, fun hb => ?_⟩
      · try refine wkG trivial ?_
        try (refine Stop.mk ?_; intro K hK)
        rw [idxM_hit (show k < l.length by omega) hall (hpb.trans hb)]
        all_goals (refine retG_of (by simp) ⟨_, _, _, evl, obq, OutG.bel ?_ obb, by simp, ?_, rfl, obb, obb⟩)
        all_goals first | rfl | (simp []; done) | (simp_all []; done) | (simp_all []; omega) | (simp []; grind) | (split <;> simp_all) | skip
      · try refine wkG trivial ?_
        try (refine Stop.mk ?_; intro K hK)
        refine ⟨k + 1, ⟨by omega, fun i hi => ?_⟩, by omega, ?_⟩
        · rcases Nat.lt_succ_iff_lt_or_eq.1 hi with h | rfl
          · exact hall i h
          · exact hpb.trans hb
        · refine wkn ?_ ?_ ?_
          all_goals first | exact wk0 | refine wkS ?_ | skip
          all_goals (try trivial)
          all_goals ((repeat' apply And.intro) <;> first | exact wkL | skip)
    · simp only [decide_eq_false_iff_not] at hge
      try refine wkG trivial ?_
      try (refine Stop.mk ?_; intro K hK)
      rw [idxM_none (fun i hi => hall i (by omega))]
      all_goals (refine retG_of (by simp) ⟨_, _, _, evl, obq, OutG.bel ?_ obb, by simp, ?_, rfl, obb, obb⟩)
      all_goals first | rfl | (simp []; done) | (simp_all []; done) | (simp_all []; omega) | (simp []; grind) | (split <;> simp_all) | skip
theorem indexCw_G (l : List Wire) (hl : l.length ≤ 4611686018427387904) (r : Reply) : FnG Tryz.prog 129 [lA 3 Wire.av l, .fn (.func 130) [] [.box 0 0]] [r.av] [] (.raw (.int .i64 (idxM (isW r.host r.auth) l))) [r.av] [] := by
  refine fnG_of tblOk Tryz.func129 rfl (by kernel_rfl) 19 Tryz.ntmps129 lenT [.tmp 4] rfl 1 (by simp) ?_
  simp only [entryG, argSl, Nat.zero_add, Nat.reduceAdd, List.length_cons, List.length_nil]
  try refine wkG trivial ?_
  try (refine Stop.mk ?_; intro K hK)
  refine wpA_loop (fun k : Nat => ⟨19, 1, [(0, true, lA 3 Wire.av l), (1, true, .fn (.func 130) [] [.box 0 0]), (7, true, .raw (.int .i64 l.length)), (8, true, .raw (.int .i64 k))], [r.av], [], ((0, []), [], true)⟩)
    (fun k => k ≤ l.length ∧ ∀ i, i < k → (isW r.host r.auth) (l.getD i default) = false) (fun k => l.length - k) 0 ?_ ⟨by omega, fun i h => by omega⟩ ?_
  · refine wkn ?_ ?_ ?_
    all_goals first | exact wk0 | refine wkS ?_ | skip
    all_goals (try trivial)
    all_goals ((repeat' apply And.intro) <;> first | exact wkL | skip)
  · rintro k ⟨hk, hall⟩
    have hpk := wireOne_G (l.getD k default) r
    generalize hpb : (isW r.host r.auth) (l.getD k default) = pb at *
    try refine wkG trivial ?_
    try (refine Stop.mk ?_; intro K hK)
    refine wpA_cond' ⟨_, evl, fun hlt => ?_, fun hge => ?_⟩
    · simp only [decide_eq_true_eq] at hlt
      try (first | refine wkM hK trivial ?_ | refine wkG trivial ?_)
      try clear hK K
      try (refine Stop.mk ?_; intro K hK)
      refine sCallG [0] [] (hpk) rfl rfl rfl ⟨_, evl, _, evl, _, evl, obl, by decide, by decide, hlT, hlT, sblT, _, evl, _, evl, _, evl, ?_⟩
      try (first | refine wkM hK trivial ?_ | refine wkG trivial ?_)
      try clear hK K
      try (refine Stop.mk ?_; intro K hK)
      refine wpA_cond' ⟨_, evl, fun hb => ?_, fun hb => ?_⟩
      · try refine wkG trivial ?_
        try (refine Stop.mk ?_; intro K hK)
        rw [idxM_hit (show k < l.length by omega) hall (hpb.trans hb)]
        all_goals (refine retG_of (by simp) ⟨_, _, _, evl, obq, OutG.bel ?_ obb, by simp, ?_, rfl, obb, obb⟩)
        all_goals first | rfl | (simp []; done) | (simp_all []; done) | (simp_all []; omega) | (simp []; grind) | (split <;> simp_all) | skip
      · try refine wkG trivial ?_
        try (refine Stop.mk ?_; intro K hK)
        refine ⟨k + 1, ⟨by omega, fun i hi => ?_⟩, by omega, ?_⟩
        · rcases Nat.lt_succ_iff_lt_or_eq.1 hi with h | rfl
          · exact hall i h
          · exact hpb.trans hb
        · refine wkn ?_ ?_ ?_
          all_goals first | exact wk0 | refine wkS ?_ | skip
          all_goals (try trivial)
          all_goals ((repeat' apply And.intro) <;> first | exact wkL | skip)
    · simp only [decide_eq_false_iff_not] at hge
      try refine wkG trivial ?_
      try (refine Stop.mk ?_; intro K hK)
      rw [idxM_none (fun i hi => hall i (by omega))]
      all_goals (refine retG_of (by simp) ⟨_, _, _, evl, obq, OutG.bel ?_ obb, by simp, ?_, rfl, obb, obb⟩)
      all_goals first | rfl | (simp []; done) | (simp_all []; done) | (simp_all []; omega) | (simp []; grind) | (split <;> simp_all) | skip
abbrev rowB (l : List Bound) : ARow := ⟨36, 4, l.length, els Bound.av l⟩
abbrev courtB (m : Matter) (n : Nat) : List AV := [lA 7 KeyWin.av m.evidence.keys, lA 4 Auth.av m.evidence.auths, .raw (.int .i64 m.evidence.f), lA 2 Chain.av m.evidence.chains, lA 4 Diary.av m.diaries, lA 3 Wire.av m.wires, .row 0 n]
structure FreeM (m : Matter) : Prop where
  k : (lA 7 KeyWin.av m.evidence.keys).free
  a : (lA 4 Auth.av m.evidence.auths).free
  c : (lA 2 Chain.av m.evidence.chains).free
  d : (lA 4 Diary.av m.diaries).free
  w : (lA 3 Wire.av m.wires).free
theorem freeM (m : Matter) : FreeM m := ⟨lA_free (fun y => KeyWin.free y) _, lA_free (fun y => Auth.free y) _, lA_free (fun y => Chain.free y) _, lA_free (fun y => Diary.free y) _, lA_free (fun y => Wire.free y) _⟩
theorem belRB {m : Nat} (l : List Bound) : belR m [rowB l] := by
  intro r hr q _
  simp only [List.mem_cons, List.not_mem_nil, or_false] at hr
  subst hr
  exact AV.belL_free _ (Bound.free _)
theorem sblC {m : Matter} {l : List Bound} {n n' : Nat} {l' : List Bound} {args : List AV} (ha : AV.subL 1 1 args) : (∀ cs ∈ [courtB m n], AV.subL 1 1 cs) ∧ (∀ r ∈ [rowB l], ∀ q, q < r.n → AV.subL 1 1 (r.el q)) ∧ AV.subL 1 1 args ∧ 1 ≤ [courtB m n'].length ∧ 1 ≤ [rowB l'].length := by
  obtain ⟨f1, f2, f3, f4, f5⟩ := freeM m
  refine ⟨fun cs hc => ?_, fun r hr q _ => ?_, ha, Nat.le_refl _, Nat.le_refl _⟩
  · simp only [List.mem_cons, List.not_mem_nil, or_false] at hc
    subst hc
    exact ⟨AV.sub_free _ f1, AV.sub_free _ f2, trivial, AV.sub_free _ f3, AV.sub_free _ f4, AV.sub_free _ f5, Nat.zero_lt_one, trivial⟩
  · simp only [List.mem_cons, List.not_mem_nil, or_false] at hr
    subst hr
    exact AV.subL_free _ (Bound.free _)
theorem rowB_free (l : List Bound) (q : Nat) : AV.freeL (els Bound.av l q) := Bound.free _
def authM (l : List Auth) (id : Int) : Auth × Bool := if idxM (isA id) l < 0 then (⟨0, 0, 0, 0⟩, false) else (l.getD (idxM (isA id) l).toNat default, true)
theorem authOf_G (m : Matter) (h : m.evidence.auths.length ≤ 4611686018427387904) (l : List Bound) (r : Reply) :
    FnG Tryz.prog 78 [.box 0 0, .agg r.av] [courtB m l.length] [rowB l] (.tup [.agg (authM m.evidence.auths r.auth).1.av, .raw (.bool (authM m.evidence.auths r.auth).2)]) [courtB m l.length] [rowB l] := by
  obtain ⟨f1, f2, f3, f4, f5⟩ := freeM m
  have hi := indexCa_G m.evidence.auths h r
  have hr := idxM_range (isA r.auth) m.evidence.auths
  have hrf := rowB_free l
  unfold authM
  generalize idxM (isA r.auth) m.evidence.auths = q at *
  refine fnG_of tblOk Tryz.func78 rfl (by kernel_rfl) 27 Tryz.ntmps78 lenT [.cell 4 132, .tmp 5] rfl 1 (by simp) ?_
  simp only [entryG, argSl, Nat.zero_add, Nat.reduceAdd, List.length_cons, List.length_nil]
  try (first | refine wkM hK trivial ?_ | refine wkG trivial ?_)
  try clear hK K
  try (refine Stop.mk ?_; intro K hK)
  refine sCallG [1] [] (hi) rfl rfl rfl ⟨_, evl, _, evl, _, evl, obl, by decide, by decide, hlT, hlT, sblT, _, evl, _, evl, _, evl, ?_⟩
  try (first | refine wkM hK trivial ?_ | refine wkG trivial ?_)
  try clear hK K
  try (refine Stop.mk ?_; intro K hK)
  refine wpA_cond' ⟨_, evl, fun hb => ?_, fun hb => ?_⟩
  · rw [if_pos (of_decide_eq_true hb)]
    try refine wkG trivial ?_
    try (refine Stop.mk ?_; intro K hK)
    all_goals (refine retG_of (by simp) ⟨_, _, _, evl, obq, OutG.bel ?_ obb, by simp, ?_, rfl, obb, belRB _⟩)
    all_goals first | rfl | (simp; done) | (simp_all; done) | (simp_all; omega) | skip
  · simp only [decide_eq_false_iff_not] at hb
    rw [if_neg hb]
    try refine wkG trivial ?_
    try (refine Stop.mk ?_; intro K hK)
    all_goals (refine retG_of (by simp) ⟨_, _, _, evl, obq, OutG.bel ?_ obb, by simp, ?_, rfl, obb, belRB _⟩)
    all_goals first | rfl | (simp; done) | (simp_all; done) | (simp_all; omega) | skip
def wireM (l : List Wire) (host auth : Int) : Change × Bool := if idxM (isW host auth) l < 0 then (⟨0, 0, 0, 0, 0⟩, false) else ((Lk.linkBoundsM (l.getD (idxM (isW host auth) l).toNat default).changes ⟨0, 3000000000000000⟩).1, decide ((Lk.linkBoundsM (l.getD (idxM (isW host auth) l).toNat default).changes ⟨0, 3000000000000000⟩).2 = 0))
theorem wireOf_G (m : Matter) (h : m.wires.length ≤ 4611686018427387904) (hc : ∀ w ∈ m.wires, w.changes.length ≤ 4611686018427387904) (l : List Bound) (r : Reply) :
    FnG Tryz.prog 79 [.box 0 0, .agg r.av] [courtB m l.length] [rowB l] (.tup [.agg (wireM m.wires r.host r.auth).1.av, .raw (.bool (wireM m.wires r.host r.auth).2)]) [courtB m l.length] [rowB l] := by
  obtain ⟨f1, f2, f3, f4, f5⟩ := freeM m
  have hi := indexCw_G m.wires h r
  have hr := idxM_range (isW r.host r.auth) m.wires
  have hrf := rowB_free l
  unfold wireM
  generalize idxM (isW r.host r.auth) m.wires = q at *
  refine fnG_of tblOk Tryz.func79 rfl (by kernel_rfl) 36 Tryz.ntmps79 lenT [.cell 4 125, .tmp 5] rfl 1 (by simp) ?_
  simp only [entryG, argSl, Nat.zero_add, Nat.reduceAdd, List.length_cons, List.length_nil]
  try (first | refine wkM hK trivial ?_ | refine wkG trivial ?_)
  try clear hK K
  try (refine Stop.mk ?_; intro K hK)
  refine sCallG [1] [] (hi) rfl rfl rfl ⟨_, evl, _, evl, _, evl, obl, by decide, by decide, hlT, hlT, sblT, _, evl, _, evl, _, evl, ?_⟩
  try (first | refine wkM hK trivial ?_ | refine wkG trivial ?_)
  try clear hK K
  try (refine Stop.mk ?_; intro K hK)
  refine wpA_cond' ⟨_, evl, fun hb => ?_, fun hb => ?_⟩
  · rw [if_pos (of_decide_eq_true hb)]
    try refine wkG trivial ?_
    try (refine Stop.mk ?_; intro K hK)
    all_goals (refine retG_of (by simp) ⟨_, _, _, evl, obq, OutG.bel ?_ obb, by simp, ?_, rfl, obb, belRB _⟩)
    all_goals first | rfl | (simp; done) | (simp_all; done) | (simp_all; omega) | skip
  · simp only [decide_eq_false_iff_not] at hb
    have hb2 := lbounds_A (m.wires.getD q.toNat default).changes ⟨0, 3000000000000000⟩ (hc _ (memD (by omega)))
    have hcf : (lA 5 Change.av (m.wires.getD q.toNat default).changes).free := lA_free (fun y => Change.free y) _
    rw [if_neg hb]
    generalize Lk.linkBoundsM (m.wires.getD q.toNat default).changes ⟨0, 3000000000000000⟩ = B at *
    try refine wkG hb2 ?_
    try (refine Stop.mk ?_; intro K hK)
    all_goals (refine retG_of (by simp) ⟨_, _, _, evl, obq, OutG.bel ?_ obb, by simp, ?_, rfl, obb, belRB _⟩)
    all_goals first | rfl | (simp; done) | (simp_all; done) | (simp_all; omega) | skip
def checkM (m : Matter) (r : Reply) : Int := if (authM m.evidence.auths r.auth).2 = true ∧ (wireM m.wires r.host r.auth).2 = true then (if (decide (ValidP m.evidence.keys) && decide (replyP r) && rightM m.evidence.keys r) = true then 0 else 32) else 4
theorem check_G (m : Matter) (h : OkM m) (l : List Bound) (r : Reply) (hr : r.fits) :
    FnG Tryz.prog 33 [.box 0 0, .agg r.av] [courtB m l.length] [rowB l] (.raw (.int .i64 (checkM m r))) [courtB m l.length] [rowB l] := by
  obtain ⟨f1, f2, f3, f4, f5⟩ := freeM m
  have hrf := rowB_free l
  have ha := authOf_G m h.al l r
  have hw := wireOf_G m h.wl h.wc l r
  have hR := rRight_A m.evidence.keys h.kl h.kf r hr
  unfold checkM
  generalize authM m.evidence.auths r.auth = A at *
  generalize wireM m.wires r.host r.auth = W at *
  generalize (decide (ValidP m.evidence.keys) && decide (replyP r) && rightM m.evidence.keys r) = b at *
  refine fnG_of tblOk Tryz.func33 rfl (by kernel_rfl) 42 Tryz.ntmps33 lenT [.tmp 4] rfl 1 (by simp) ?_
  simp only [entryG, argSl, Nat.zero_add, Nat.reduceAdd, List.length_cons, List.length_nil]
  try (first | refine wkM hK trivial ?_ | refine wkG trivial ?_)
  try clear hK K
  try (refine Stop.mk ?_; intro K hK)
  refine sCallG [0] [0] (ha) rfl rfl rfl ⟨_, evl, _, evl, _, evl, obl, by decide, by decide, hlT, hlT, sblC ⟨Nat.zero_lt_one, AV.subL_free _ (Reply.free r), trivial⟩, _, evl, _, evl, _, evl, ?_⟩
  try (first | refine wkM hK trivial ?_ | refine wkG trivial ?_)
  try clear hK K
  try (refine Stop.mk ?_; intro K hK)
  refine sCallG [0] [0] (hw) rfl rfl rfl ⟨_, evl, _, evl, _, evl, obl, by decide, by decide, hlT, hlT, sblC ⟨Nat.zero_lt_one, AV.subL_free _ (Reply.free r), trivial⟩, _, evl, _, evl, _, evl, ?_⟩
  try (first | refine wkM hK trivial ?_ | refine wkG trivial ?_)
  try clear hK K
  try (refine Stop.mk ?_; intro K hK)
  refine cndS ⟨_, evl, ⟨cb, cb⟩, fun hb => ?_, fun hb => ?_⟩
  · rw [if_neg fun h => by obtain ⟨h1, h2⟩ := h; rw [h1, h2] at hb; rcases hb with hb | hb <;> cases hb]
    try refine wkG trivial ?_
    try (refine Stop.mk ?_; intro K hK)
    all_goals (refine retG_of (by simp) ⟨_, _, _, evl, obq, OutG.bel ?_ obb, by simp, ?_, rfl, obb, belRB _⟩)
    all_goals first | rfl | (simp; done) | (simp_all; done) | (simp_all; omega) | skip
  · rw [if_pos hb]
    try refine wkG hR ?_
    try (refine Stop.mk ?_; intro K hK)
    cases b with
    | true =>
      refine wpA_cond' ⟨_, evl, fun hb => absurd hb (by decide), fun _ => ?_⟩
      try refine wkG trivial ?_
      try (refine Stop.mk ?_; intro K hK)
      all_goals (refine retG_of (by simp) ⟨_, _, _, evl, obq, OutG.bel ?_ obb, by simp, ?_, rfl, obb, belRB _⟩)
      all_goals first | rfl | (simp; done) | (simp_all; done) | (simp_all; omega) | skip
    | false =>
      refine wpA_cond' ⟨_, evl, fun _ => ?_, fun hb => absurd hb (by decide)⟩
      try refine wkG trivial ?_
      try (refine Stop.mk ?_; intro K hK)
      all_goals (refine retG_of (by simp) ⟨_, _, _, evl, obq, OutG.bel ?_ obb, by simp, ?_, rfl, obb, belRB _⟩)
      all_goals first | rfl | (simp; done) | (simp_all; done) | (simp_all; omega) | skip
theorem wpA_endW {P : Program} {c : Code} {Q : Exit → ASt → Prop} {st : ASt} (h : wpA P c (fun e s => ∃ s', Weak s s' ∧ Q e s') st) : wpA P c Q st := fun C G a w hs =>
  wpIn_mono (h C G a w hs) fun e a' w' ⟨G', s, h1, s', h2, h3⟩ => let ⟨G'', h4⟩ := h2 P C G' a' w' h1; ⟨G'', s', h4, h3⟩
def betweenL (a b : Int) (r : Rg) (who : List Party) : List Bound := [⟨b, a, -r.lo, who⟩, ⟨a, b, r.hi, who⟩]
theorem between_G (m : Matter) (l : List Bound) (hl : l.length ≤ 100000000000) (a b : Int) (r : Rg) (hr : IntKind.i64.wrap (-r.lo) = -r.lo) (who : List Party) (el : Nat → List AV) (hel : ∀ i, i < who.length → el i = els Party.av who i) :
    FnG Tryz.prog 34 [.box 0 0, .raw (.int .i64 a), .raw (.int .i64 b), .agg [.raw (.int .i64 r.lo), .raw (.int .i64 r.hi)], .lst 2 who.length el] [courtB m l.length] [rowB l] (.tup []) [courtB m (l ++ betweenL a b r who).length] [rowB (l ++ betweenL a b r who)] := by
  obtain ⟨f1, f2, f3, f4, f5⟩ := freeM m
  have hrf := rowB_free l
  have hwf : (AV.lst 2 who.length el).free := fun i hi => by rw [hel i hi]; exact Party.free _
  refine fnG_of tblOk Tryz.func34 rfl (by kernel_rfl) 32 Tryz.ntmps34 lenT [] rfl 1 (by simp) ?_
  simp only [entryG, argSl, Nat.zero_add, Nat.reduceAdd, List.length_cons, List.length_nil]
  refine wpA_endW ?_
  repeat (refine stG ?_)
  refine wpA_region (fun K hK => ?_)
  iterate 1 (refine stG ?_)
  refine runS_freeze 1 obf ⟨_, evl, _, evl, ?_⟩
  try (first | refine wkN hK trivial ?_ | refine wkR trivial ?_)
  try clear hK K
  try (refine Stop.mk ?_; intro K hK)
  have hlen : l.length + 2 = (l ++ betweenL a b r who).length := by simp [betweenL]
  refine ⟨⟨32, 1 + 64 * 1, [], [courtB m (l ++ betweenL a b r who).length], [rowB (l ++ betweenL a b r who)], ((0, []), [], true)⟩, ?_, ?_⟩
  · refine wkn ?_ ?_ ?_
    all_goals first | exact wk0 | refine wkS ?_ | skip
    all_goals (try trivial)
    all_goals ((repeat' apply And.intro) <;> first | exact wkL | skip)
    all_goals first | exact Sims.rowN hlen | exact hlen | skip
    intro q hq
    rw [← els_append (l := l) (n := l.length) rfl]
    rcases Nat.lt_or_ge q l.length with hb | hb
    · rw [appEl_lt hb, appEl_lt hb]
      exact SimsL.refl _
    · rw [appEl_ge hb, appEl_ge hb]
      rw [← hlen] at hq
      rcases Nat.lt_or_ge (q - l.length) 1 with h1 | h1
      · obtain h0 : q - l.length = 0 := by omega
        rw [h0]
        exact ⟨Sims.refl _, Sims.refl _, Sims.refl _, (Sim.lstE rfl hel).s, trivial⟩
      · obtain h0 : q - l.length = 1 := by omega
        rw [h0]
        exact ⟨Sims.refl _, Sims.refl _, Sims.refl _, (Sim.lstE rfl hel).s, trivial⟩
  · all_goals (refine retG_of (by simp) ⟨_, _, _, evl, obq, OutG.bel ?_ obb, by simp, ?_, rfl, obb, belRB _⟩)
    all_goals first | rfl | (simp; done) | (simp_all; done) | (simp_all; omega) | skip
theorem betweenN_G (m : Matter) (l : List Bound) (hl : l.length ≤ 100000000000) (a b : Int) (r : Rg) (hr : IntKind.i64.wrap (-r.lo) = -r.lo) :
    FnG Tryz.prog 34 [.box 0 0, .raw (.int .i64 a), .raw (.int .i64 b), .agg [.raw (.int .i64 r.lo), .raw (.int .i64 r.hi)], .raw (.slice none 0 0)] [courtB m l.length] [rowB l] (.tup []) [courtB m (l ++ betweenL a b r []).length] [rowB (l ++ betweenL a b r [])] := by
  obtain ⟨f1, f2, f3, f4, f5⟩ := freeM m
  have hrf := rowB_free l
  refine fnG_of tblOk Tryz.func34 rfl (by kernel_rfl) 32 Tryz.ntmps34 lenT [] rfl 1 (by simp) ?_
  simp only [entryG, argSl, Nat.zero_add, Nat.reduceAdd, List.length_cons, List.length_nil]
  refine wpA_endW ?_
  repeat (refine stG ?_)
  refine wpA_region (fun K hK => ?_)
  iterate 1 (refine stG ?_)
  refine runS_freeze 1 obf ⟨_, evl, _, evl, ?_⟩
  try (first | refine wkN hK trivial ?_ | refine wkR trivial ?_)
  try clear hK K
  try (refine Stop.mk ?_; intro K hK)
  have hlen : l.length + 2 = (l ++ betweenL a b r []).length := by simp [betweenL]
  refine ⟨⟨32, 1 + 64 * 1, [], [courtB m (l ++ betweenL a b r []).length], [rowB (l ++ betweenL a b r [])], ((0, []), [], true)⟩, ?_, ?_⟩
  · refine wkn ?_ ?_ ?_
    all_goals first | exact wk0 | refine wkS ?_ | skip
    all_goals (try trivial)
    all_goals ((repeat' apply And.intro) <;> first | exact wkL | skip)
    all_goals first | exact Sims.rowN hlen | exact hlen | skip
    intro q hq
    rw [← els_append (l := l) (n := l.length) rfl]
    rcases Nat.lt_or_ge q l.length with hb | hb
    · rw [appEl_lt hb, appEl_lt hb]
      exact SimsL.refl _
    · rw [appEl_ge hb, appEl_ge hb]
      rw [← hlen] at hq
      rcases Nat.lt_or_ge (q - l.length) 1 with h1 | h1
      · obtain h0 : q - l.length = 0 := by omega
        rw [h0]
        exact ⟨Sims.refl _, Sims.refl _, Sims.refl _, (Sim.nil rfl).s, trivial⟩
      · obtain h0 : q - l.length = 1 := by omega
        rw [h0]
        exact ⟨Sims.refl _, Sims.refl _, Sims.refl _, (Sim.nil rfl).s, trivial⟩
  · all_goals (refine retG_of (by simp) ⟨_, _, _, evl, obq, OutG.bel ?_ obb, by simp, ?_, rfl, obb, belRB _⟩)
    all_goals first | rfl | (simp; done) | (simp_all; done) | (simp_all; omega) | skip
theorem who1 (p : Party) : ∀ i, i < [p].length → chunkA 2 p.av i = els Party.av [p] i := fun i hi => chunk_lit (enc := Party.av) (l := [p]) (fun _ => rfl) rfl hi
theorem Weak.slot {nt nb : Nat} {sl : List (Nat × (Bool × AV))} {bx : List (List AV)} {rw : List ARow} {ys : (Nat × List (List AV)) × List (List AV) × Bool} (d : Nat) {x y : AV} (h : lookN d sl = some (true, x)) (hs : Sims bx rw x y) : Weak ⟨nt, nb, sl, bx, rw, ys⟩ ⟨nt, nb, (d, (true, y)) :: sl, bx, rw, ys⟩ := fun _ _ G _ _ h' =>
  ⟨G, h'.size, h'.callers, h'.frame, h'.le, h'.fresh, h'.ownB, h'.ownR, h'.env, h'.mem, fun t c z hl => by
    simp only [ASt.look, lookN_cons] at hl
    by_cases htd : t = d
    · subst htd
      simp only [if_true, Option.some.injEq, Prod.mk.injEq] at hl
      obtain ⟨rfl, rfl⟩ := hl
      obtain ⟨v, h1, h2, _⟩ := h'.slot t true x h
      exact ⟨v, h1, fun _ => hs _ _ _ h'.mem (h2 rfl), fun e => by cases e⟩
    · rw [if_neg htd] at hl
      exact h'.slot t c z hl⟩
theorem stepB_box {P : Program} {full : List Oper} {all : Bool} {o : Oper} {d nt nb : Nat} {k' : ASt → Prop} {L : List Nat} {sl : List (Nat × (Bool × AV))} {bx bx0 : List (List AV)} {rw : List ARow} {ys : (Nat × List (List AV)) × List (List AV) × Bool} {ent : Bool × AV} {c : List AV} (hd : o.dst = some d) (hk : ∃ ext, bx ++ [c] = mskB all bx0 ext) (h64 : Nat.blt bx.length 64 = true) (hl : o.looksAt full.toArray = L)
    (h : ∀ nb' K, K ⟨nt, nb', (d, ent) :: restr L sl, bx ++ [c], rw, ys⟩ → runS P full.toArray [o] K ⟨nt, nb', restr L sl, bx, rw, ys⟩) (hk' : k' ⟨nt, nb, (d, ent) :: sl, bx ++ [c], rw, ys⟩) : stepB P full.toArray all bx0 o k' ⟨nt, nb, sl, bx, rw, ys⟩ :=
  stepB_of h64 hl fun nb' => h nb' _ ⟨ent, _, _, by rw [hd]; rfl, hk, fun _ => ⟨rfl, _, rfl⟩, by rw [hd]; exact hk'⟩
theorem weak_frz {nt nb : Nat} {sl : List (Nat × (Bool × AV))} {bx : List (List AV)} {rw : List ARow} {ys : (Nat × List (List AV)) × List (List AV) × Bool} {st2 : ASt} (m : Nat)
    (h1 : nb % 64 ≤ m ∧ belB m (bx.take m) ∧ belR m rw ∧ okFS m bx sl) (h : ∃ sl', frzS m bx sl = sl' ∧ ∃ bx', bx.take m = bx' ∧ Weak ⟨nt, nb, sl', bx', rw, ys⟩ st2) : Weak ⟨nt, nb, sl, bx, rw, ys⟩ st2 := by
  obtain ⟨_, rfl, _, rfl, h⟩ := h
  exact Weak.trans (Weak.freeze m h1.1 h1.2.1 h1.2.2.1 h1.2.2.2) h
theorem renCourt (f g : Nat → Nat) (m : Matter) (n : Nat) : AV.renL f g (courtB m n) = [lA 7 KeyWin.av m.evidence.keys, lA 4 Auth.av m.evidence.auths, .raw (.int .i64 m.evidence.f), lA 2 Chain.av m.evidence.chains, lA 4 Diary.av m.diaries, lA 3 Wire.av m.wires, .row (g 0) n] := rfl
theorem renRow (f g : Nat → Nat) (l : List Bound) : ARow.ren f g (rowB l) = rowB l := rfl
theorem sCallC (j : Nat) {P : Program} {ops : Array Oper} {rest : List Oper} {K : ASt → Prop} {nt nb : Nat} {sl : List (Nat × (Bool × AV))} {bx bx1 : List (List AV)} {ys : (Nat × List (List AV)) × List (List AV) × Bool} {o : Oper} {d : Nat} {f : FuncId} {args : List AV} {m : Matter} {l l' : List Bound} {r : AV} (F : FnG P f args [courtB m l.length] [rowB l] r [courtB m l'.length] [rowB l'])
    (hg : o.guard = none) (hd : o.dst = some d) (hn : Nat.blt d nt = true) (hs : AV.subL 1 1 args)
    (h : ∃ n, bx.length = n ∧ ∃ cs, callA ⟨nt, nb, sl, bx, [rowB l], ys⟩ o.op = some (cs, f, AV.renL (idx [j] n) (idx [0] 1) args) ∧ (∀ c ∈ cs, c = true) ∧ bx[j]? = some (courtB m l.length) ∧ r.ren (idx [j] n) (idx [0] 1) = r ∧ bx.set j (courtB m l'.length) = bx1 ∧
      runS P ops rest K ⟨nt, nb, (d, (true, r)) :: sl, bx1, [rowB l'], ys⟩) : runS P ops (o :: rest) K ⟨nt, nb, sl, bx, [rowB l], ys⟩ := by
  obtain ⟨n, rfl, cs, h1, h2, h3, h4, rfl, h5⟩ := h
  refine sCallG [j] [0] F hg hd hn ⟨_, rfl, _, rfl, cs, h1, h2, by simp, by simp, ⟨by rw [h3, renCourt]; rfl, trivial⟩, ⟨by rw [renRow]; rfl, trivial⟩, sblC hs, r, h4, bx.set j (courtB m l'.length), ?_, [rowB l'], ?_, h5⟩
  · simp only [List.map_cons, List.map_nil, renCourt]
    simp [setAll, idx]
  · simp only [List.map_cons, List.map_nil, renRow]
    simp [setAll]
theorem authM_err {l : List Auth} (h : authsP l) (id : Int) : 0 ≤ (authM l id).1.err ∧ (authM l id).1.err ≤ 1000000 := by
  have hr := idxM_range (isA id) l
  unfold authM
  split
  · exact ⟨by decide, by decide⟩
  · exact (h _ (by omega)).2
theorem wireM_range (l : List Wire) (host auth : Int) : (0 ≤ (wireM l host auth).1.outLo ∧ (wireM l host auth).1.outLo ≤ (wireM l host auth).1.outHi ∧ (wireM l host auth).1.outHi ≤ 1000000) ∧ (0 ≤ (wireM l host auth).1.backLo ∧ (wireM l host auth).1.backLo ≤ (wireM l host auth).1.backHi ∧ (wireM l host auth).1.backHi ≤ 1000000) := by
  unfold wireM
  split
  · exact ⟨by decide, by decide⟩
  · have hb : Lk.formedM (Lk.linkBoundsM (l.getD (idxM (isW host auth) l).toNat default).changes ⟨0, 3000000000000000⟩).1 = true := by
      by_cases hv : Lk.validM (l.getD (idxM (isW host auth) l).toNat default).changes = true
      · exact Lk.bounds_formed hv (by decide)
      · unfold Lk.linkBoundsM
        rw [if_neg fun h => hv h.1]
        decide
    rw [Lk.formed_iff] at hb
    simp only
    omega
theorem elapsed_range (rate count : Int) : 0 ≤ (elapsedM rate count).1.lo ∧ (elapsedM rate count).1.lo ≤ 1000000000000001 ∧ (elapsedM rate count).1.hi ≤ 2000000000000000 ∧ -1 ≤ (elapsedM rate count).1.hi := by
  unfold elapsedM
  split
  · rename_i hc
    obtain ⟨⟨r1, r2⟩, r3, r4⟩ := hc
    simp only
    have d2 : (count + 1) * 1000000000 / (1000000000 - rate) < 1999999999999999 := by
      refine Int.ediv_lt_of_lt_mul (by omega) ?_
      have : 1999999999999999 * (1000000000 - rate) ≥ 1999999999999999 * 999000000 := Int.mul_le_mul_of_nonneg_left (by omega) (by decide)
      omega
    have c2 := ceilD_range (p := (count + 1) * 1000000000) (d := 1000000000 - rate) (by omega) (by omega)
    refine ⟨?_, ?_, by omega, by omega⟩
    · split
      · have := Int.ediv_nonneg (a := (count - 1) * 1000000000) (b := 1000000000 + rate) (by omega) (by omega)
        omega
      · exact Int.le_refl _
    · split
      · have : (count - 1) * 1000000000 / (1000000000 + rate) ≤ 1000000000000000 := by
          refine Int.le_of_lt (Int.ediv_lt_of_lt_mul (by omega) ?_)
          have : 1000000000000000 * (1000000000 + rate) ≥ 1000000000000000 * 1000000000 := Int.mul_le_mul_of_nonneg_left (by omega) (by decide)
          omega
        omega
      · decide
  · decide
def replyL (m : Matter) (r : Reply) (rate count s t : Int) : List Bound :=
  betweenL 0 t ⟨r.stamp.lo, r.stamp.hi⟩ [⟨1, r.auth⟩] ++ (if 2 * (authM m.evidence.auths r.auth).1.err < r.stamp.hi - r.stamp.lo then [⟨0, 0, -1, [⟨1, r.auth⟩]⟩] else []) ++
  betweenL s t ⟨(wireM m.wires r.host r.auth).1.outLo, (wireM m.wires r.host r.auth).1.outHi⟩ [⟨3, 0⟩] ++ betweenL t (t + 1) ⟨(wireM m.wires r.host r.auth).1.backLo, (wireM m.wires r.host r.auth).1.backHi⟩ [⟨3, 0⟩] ++
  betweenL s (t + 1) (elapsedM rate count).1 [⟨2, r.host⟩]
theorem reply_G (m : Matter) (h : OkM m) (l : List Bound) (hl : l.length ≤ 90000000000) (r : Reply) (hr : replyP r) (rate count s t : Int) (hs : 0 ≤ s ∧ s ≤ 100000) (ht : 0 ≤ t ∧ t ≤ 100000) (hau : authsP m.evidence.auths) :
    FnG Tryz.prog 82 [.box 0 0, .agg r.av, .raw (.int .i64 rate), .raw (.int .i64 count), .raw (.int .i64 s), .raw (.int .i64 t)] [courtB m l.length] [rowB l] (.tup []) [courtB m (l ++ replyL m r rate count s t).length] [rowB (l ++ replyL m r rate count s t)] := by
  obtain ⟨f1, f2, f3, f4, f5⟩ := freeM m
  have hrf := rowB_free l
  refine fnG_of tblOk Tryz.func82 rfl (by kernel_rfl) 107 Tryz.ntmps82 lenT [] rfl 1 (by simp) ?_
  simp only [entryG, argSl, Nat.zero_add, Nat.reduceAdd, List.length_cons, List.length_nil]
  refine wpA_endW ?_
  repeat (refine stG ?_)
  refine wpA_region (fun K hK => ?_)
  iterate 1 (refine stG ?_)
  refine runS_freeze 1 obf ⟨_, evl, _, evl, ?_⟩
  refine runS_nil (hK _ ?_); clear hK K
  repeat refine stR ?_
  refine wpA_join ⟨107, 1 + 64 * 1, [(0, true, .box 0 0), (2, true, .raw (.int .i64 rate)), (3, true, .raw (.int .i64 count)), (4, true, .raw (.int .i64 s)), (5, true, .raw (.int .i64 t)), (7, true, .elt r.av 0), (12, true, .elt (Party.av ⟨1, r.auth⟩) 0), (13, true, .elt (Party.av ⟨2, r.host⟩) 0), (14, true, .elt (Party.av ⟨3, 0⟩) 0)], [courtB m l.length], [rowB l], ((0, []), [], true)⟩ ?_ ?_
  · refine wpA_drawG true rfl (by kernel_rfl) (by kernel_rfl) (fun K hK => ?_)
    try (first | refine wkN hK trivial ?_ | refine wkR trivial ?_)
    try clear hK K
    try (refine Stop.mk ?_; intro K hK)
    refine runA_nilT ⟨_, evl, _, evl, by decide +kernel, ?_⟩
    refine runT_op (rem := [7, 8, 9, 10, 11, 12]) (m := 5) (cs := [7, 8, 9]) rfl (by decide +kernel) ?_
    refine List.forall_mem_cons.2 ⟨fun o ho => ?_, List.forall_mem_cons.2 ⟨fun o ho => ?_, List.forall_mem_cons.2 ⟨fun o ho => ?_, fun _ h => by cases h⟩⟩⟩
    · cases Option.some.inj ho
      refine stepB_box (d := 12) (ent := (true, .box 1 0)) (c := Party.av ⟨0, 0⟩) rfl ⟨_, rfl⟩ rfl evl (fun nb' K hk => ?_) ?_
      · refine stG ?_
        exact runS_nil hk
      · refine runT_op (rem := [8, 9, 10, 11, 12]) (m := 4) (cs := [8, 9]) rfl (by decide +kernel) ?_
        refine List.forall_mem_cons.2 ⟨fun o ho => ?_, List.forall_mem_cons.2 ⟨fun o ho => ?_, fun _ h => by cases h⟩⟩
        · cases Option.some.inj ho
          refine stepB_box (d := 13) (ent := (true, .box 2 0)) (c := Party.av ⟨0, 0⟩) rfl ⟨_, rfl⟩ rfl evl (fun nb' K hk => ?_) ?_
          · refine stG ?_
            exact runS_nil hk
          · refine runT_chain (rem := [9, 10, 11, 12]) (by decide +kernel) ?_
            rw [pickOps_eq]
            dsimp only [List.cons_append, List.nil_append]

            try (first | refine wkN hK trivial ?_ | refine wkR trivial ?_)
            try clear hK K
            try (refine Stop.mk ?_; intro K hK)
            refine weak_frz 1 obf ⟨_, evl, _, evl, ?_⟩
            refine wkn ?_ ?_ ?_
            all_goals first | exact wk0 | refine wkS ?_ | skip
            all_goals (try trivial)
            all_goals ((repeat' apply And.intro) <;> first | exact wkL | skip)
        · cases Option.some.inj ho
          refine stepB_box (d := 14) (ent := (true, .box 2 0)) (c := Party.av ⟨0, 0⟩) rfl ⟨_, rfl⟩ rfl evl (fun nb' K hk => ?_) ?_
          · refine stG ?_
            exact runS_nil hk
          · refine runT_chain (rem := [8, 10, 11, 12]) (by decide +kernel) ?_
            rw [pickOps_eq]
            dsimp only [List.cons_append, List.nil_append]

            try (first | refine wkN hK trivial ?_ | refine wkR trivial ?_)
            try clear hK K
            try (refine Stop.mk ?_; intro K hK)
            refine weak_frz 1 obf ⟨_, evl, _, evl, ?_⟩
            refine wkn ?_ ?_ ?_
            all_goals first | exact wk0 | refine wkS ?_ | skip
            all_goals (try trivial)
            all_goals ((repeat' apply And.intro) <;> first | exact wkL | skip)
    · cases Option.some.inj ho
      refine stepB_box (d := 13) (ent := (true, .box 1 0)) (c := Party.av ⟨0, 0⟩) rfl ⟨_, rfl⟩ rfl evl (fun nb' K hk => ?_) ?_
      · refine stG ?_
        exact runS_nil hk
      · refine runT_op (rem := [7, 9, 10, 11, 12]) (m := 4) (cs := [7, 9]) rfl (by decide +kernel) ?_
        refine List.forall_mem_cons.2 ⟨fun o ho => ?_, List.forall_mem_cons.2 ⟨fun o ho => ?_, fun _ h => by cases h⟩⟩
        · cases Option.some.inj ho
          refine stepB_box (d := 12) (ent := (true, .box 2 0)) (c := Party.av ⟨0, 0⟩) rfl ⟨_, rfl⟩ rfl evl (fun nb' K hk => ?_) ?_
          · refine stG ?_
            exact runS_nil hk
          · refine runT_chain (rem := [9, 10, 11, 12]) (by decide +kernel) ?_
            rw [pickOps_eq]
            dsimp only [List.cons_append, List.nil_append]

            try (first | refine wkN hK trivial ?_ | refine wkR trivial ?_)
            try clear hK K
            try (refine Stop.mk ?_; intro K hK)
            refine weak_frz 1 obf ⟨_, evl, _, evl, ?_⟩
            refine wkn ?_ ?_ ?_
            all_goals first | exact wk0 | refine wkS ?_ | skip
            all_goals (try trivial)
            all_goals ((repeat' apply And.intro) <;> first | exact wkL | skip)
        · cases Option.some.inj ho
          refine stepB_box (d := 14) (ent := (true, .box 2 0)) (c := Party.av ⟨0, 0⟩) rfl ⟨_, rfl⟩ rfl evl (fun nb' K hk => ?_) ?_
          · refine stG ?_
            exact runS_nil hk
          · refine runT_chain (rem := [7, 10, 11, 12]) (by decide +kernel) ?_
            rw [pickOps_eq]
            dsimp only [List.cons_append, List.nil_append]

            try (first | refine wkN hK trivial ?_ | refine wkR trivial ?_)
            try clear hK K
            try (refine Stop.mk ?_; intro K hK)
            refine weak_frz 1 obf ⟨_, evl, _, evl, ?_⟩
            refine wkn ?_ ?_ ?_
            all_goals first | exact wk0 | refine wkS ?_ | skip
            all_goals (try trivial)
            all_goals ((repeat' apply And.intro) <;> first | exact wkL | skip)
    · cases Option.some.inj ho
      refine stepB_box (d := 14) (ent := (true, .box 1 0)) (c := Party.av ⟨0, 0⟩) rfl ⟨_, rfl⟩ rfl evl (fun nb' K hk => ?_) ?_
      · refine stG ?_
        exact runS_nil hk
      · refine runT_op (rem := [7, 8, 10, 11, 12]) (m := 4) (cs := [7, 8]) rfl (by decide +kernel) ?_
        refine List.forall_mem_cons.2 ⟨fun o ho => ?_, List.forall_mem_cons.2 ⟨fun o ho => ?_, fun _ h => by cases h⟩⟩
        · cases Option.some.inj ho
          refine stepB_box (d := 12) (ent := (true, .box 2 0)) (c := Party.av ⟨0, 0⟩) rfl ⟨_, rfl⟩ rfl evl (fun nb' K hk => ?_) ?_
          · refine stG ?_
            exact runS_nil hk
          · refine runT_chain (rem := [8, 10, 11, 12]) (by decide +kernel) ?_
            rw [pickOps_eq]
            dsimp only [List.cons_append, List.nil_append]

            try (first | refine wkN hK trivial ?_ | refine wkR trivial ?_)
            try clear hK K
            try (refine Stop.mk ?_; intro K hK)
            refine weak_frz 1 obf ⟨_, evl, _, evl, ?_⟩
            refine wkn ?_ ?_ ?_
            all_goals first | exact wk0 | refine wkS ?_ | skip
            all_goals (try trivial)
            all_goals ((repeat' apply And.intro) <;> first | exact wkL | skip)
        · cases Option.some.inj ho
          refine stepB_box (d := 13) (ent := (true, .box 2 0)) (c := Party.av ⟨0, 0⟩) rfl ⟨_, rfl⟩ rfl evl (fun nb' K hk => ?_) ?_
          · refine stG ?_
            exact runS_nil hk
          · refine runT_chain (rem := [7, 10, 11, 12]) (by decide +kernel) ?_
            rw [pickOps_eq]
            dsimp only [List.cons_append, List.nil_append]

            try (first | refine wkN hK trivial ?_ | refine wkR trivial ?_)
            try clear hK K
            try (refine Stop.mk ?_; intro K hK)
            refine weak_frz 1 obf ⟨_, evl, _, evl, ?_⟩
            refine wkn ?_ ?_ ?_
            all_goals first | exact wk0 | refine wkS ?_ | skip
            all_goals (try trivial)
            all_goals ((repeat' apply And.intro) <;> first | exact wkL | skip)
  obtain ⟨⟨h1, h2, h3⟩, h4, h5, h6, h7⟩ := id hr
  have hn : ∀ x : Int, -3000000000000000 ≤ x ∧ x ≤ 3000000000000000 → IntKind.i64.wrap (-x) = -x := fun x hx => inK_wrap (k := .i64) (by simp only [inK]; omega)
  have b1 := between_G m l (by omega) 0 t ⟨r.stamp.lo, r.stamp.hi⟩ (hn _ (by simp only; omega)) [⟨1, r.auth⟩] _ (fun _ _ => rfl)
  obtain ⟨l1, hl1⟩ : ∃ l1, l1 = l ++ betweenL 0 t ⟨r.stamp.lo, r.stamp.hi⟩ [⟨1, r.auth⟩] := ⟨_, rfl⟩
  have hc1 : l1.length = l.length + 2 := by rw [hl1]; simp [betweenL]
  rw [← hl1] at b1
  have a1 := authOf_G m h.al l1 r
  have hA := authM_err hau r.auth
  have hW := wireM_range m.wires r.host r.auth
  have hE := elapsed_range rate count
  have el := elapsed_A rate count
  unfold replyL
  generalize authM m.evidence.auths r.auth = A at *
  have w1 := fun (l : List Bound) => wireOf_G m h.wl h.wc l r
  generalize wireM m.wires r.host r.auth = W at *
  generalize elapsedM rate count = E at *
  obtain ⟨l2, hl2⟩ : ∃ l2, l2 = l1 ++ (if 2 * A.1.err < r.stamp.hi - r.stamp.lo then [(⟨0, 0, -1, [⟨1, r.auth⟩]⟩ : Bound)] else []) := ⟨_, rfl⟩
  have hc2 : l1.length ≤ l2.length ∧ l2.length ≤ l1.length + 1 := by rw [hl2]; split <;> simp
  try (first | refine wkM hK trivial ?_ | refine wkG trivial ?_)
  try clear hK K
  try (refine Stop.mk ?_; intro K hK)
  refine runS_weak (Weak.slot 33 evl (Sim.lstE rfl (who1 ⟨1, r.auth⟩)).s) ?_
  refine sCallC 0 (bx1 := [courtB m _]) b1 rfl rfl rfl ⟨Nat.zero_lt_one, trivial, trivial, ⟨trivial, trivial, trivial⟩, AV.sub_free _ (lA_free (fun y => Party.free y) _), trivial⟩ ⟨_, rfl, _, evl, obl, rfl, rfl, rfl, ?_⟩

  try (first | refine wkM hK trivial ?_ | refine wkG trivial ?_)
  try clear hK K
  try (refine Stop.mk ?_; intro K hK)
  refine sCallC 0 (bx1 := [courtB m _]) a1 rfl rfl rfl ⟨Nat.zero_lt_one, AV.subL_free _ (Reply.free r), trivial⟩ ⟨_, rfl, _, evl, obl, rfl, rfl, rfl, ?_⟩

  try (first | refine wkM hK trivial ?_ | refine wkG trivial ?_)
  try clear hK K
  try (refine Stop.mk ?_; intro K hK)
  refine wpA_join ⟨107, 1 + 64 * 1, [(0, true, .box 0 0), (2, true, .raw (.int .i64 rate)), (3, true, .raw (.int .i64 count)), (4, true, .raw (.int .i64 s)), (5, true, .raw (.int .i64 t)), (7, true, .elt r.av 0), (12, true, .elt (Party.av ⟨1, r.auth⟩) 0), (13, true, .elt (Party.av ⟨2, r.host⟩) 0), (14, true, .elt (Party.av ⟨3, 0⟩) 0)], [courtB m l2.length], [rowB l2], ((0, []), [], true)⟩ ?_ ?_
  · refine wpA_cond' ⟨_, evl, fun hb => ?_, fun hb => ?_⟩
    · simp only [decide_eq_true_eq] at hb
      rw [if_pos hb] at hl2
      have hlen : l1.length + 1 = l2.length := by rw [hl2]; simp
      try refine wkG trivial ?_
      try (refine Stop.mk ?_; intro K hK)
      refine wkn ?_ ?_ ?_
      all_goals first | exact wk0 | refine wkS ?_ | skip
      all_goals (try trivial)
      all_goals ((repeat' apply And.intro) <;> first | exact wkL | skip)
      all_goals first | exact Sims.rowN hlen | exact hlen | skip
      intro q hq
      rw [hl2, ← els_append (l := l1) (n := l1.length) rfl]
      rcases Nat.lt_or_ge q l1.length with hb | hb
      · rw [appEl_lt hb, appEl_lt hb]
        exact SimsL.refl _
      · obtain h0 : q - l1.length = 0 := by omega
        rw [appEl_ge hb, appEl_ge hb, h0]
        exact ⟨Sims.refl _, Sims.refl _, Sims.refl _, (Sim.lstE rfl (who1 ⟨1, r.auth⟩)).s, trivial⟩
    · simp only [decide_eq_false_iff_not] at hb
      rw [if_neg hb, List.append_nil] at hl2
      rw [hl2]
      try refine wkG trivial ?_
      try (refine Stop.mk ?_; intro K hK)
      refine wkn ?_ ?_ ?_
      all_goals first | exact wk0 | refine wkS ?_ | skip
      all_goals (try trivial)
      all_goals ((repeat' apply And.intro) <;> first | exact wkL | skip)
  · obtain ⟨l3, hl3⟩ : ∃ l3, l3 = l2 ++ betweenL s t ⟨W.1.outLo, W.1.outHi⟩ [⟨3, 0⟩] := ⟨_, rfl⟩
    have hc3 : l3.length = l2.length + 2 := by rw [hl3]; simp [betweenL]
    obtain ⟨l4, hl4⟩ : ∃ l4, l4 = l3 ++ betweenL t (t + 1) ⟨W.1.backLo, W.1.backHi⟩ [⟨3, 0⟩] := ⟨_, rfl⟩
    have hc4 : l4.length = l3.length + 2 := by rw [hl4]; simp [betweenL]
    have b2 := between_G m l2 (by omega) s t ⟨W.1.outLo, W.1.outHi⟩ (hn _ (by simp only; omega)) [⟨3, 0⟩] _ (fun _ _ => rfl)
    have b3 := between_G m l3 (by omega) t (t + 1) ⟨W.1.backLo, W.1.backHi⟩ (hn _ (by simp only; omega)) [⟨3, 0⟩] _ (fun _ _ => rfl)
    have b4 := between_G m l4 (by omega) s (t + 1) E.1 (hn _ (by omega)) [⟨2, r.host⟩] _ (fun _ _ => rfl)
    rw [← hl3] at b2
    rw [← hl4] at b3
    have hfin : l ++ (betweenL 0 t ⟨r.stamp.lo, r.stamp.hi⟩ [⟨1, r.auth⟩] ++ (if 2 * A.1.err < r.stamp.hi - r.stamp.lo then [(⟨0, 0, -1, [⟨1, r.auth⟩]⟩ : Bound)] else []) ++ betweenL s t ⟨W.1.outLo, W.1.outHi⟩ [⟨3, 0⟩] ++ betweenL t (t + 1) ⟨W.1.backLo, W.1.backHi⟩ [⟨3, 0⟩] ++ betweenL s (t + 1) E.1 [⟨2, r.host⟩]) = l4 ++ betweenL s (t + 1) E.1 [⟨2, r.host⟩] := by
      rw [hl4, hl3, hl2, hl1]
      simp only [List.append_assoc]
    rw [hfin]
    clear hfin b1 a1 hl1 hl2 hl3 hl4
    generalize l4 ++ betweenL s (t + 1) E.1 [⟨2, r.host⟩] = l5 at *
    have hw := w1 l2
    try (first | refine wkM hK trivial ?_ | refine wkG trivial ?_)
    try clear hK K
    try (refine Stop.mk ?_; intro K hK)
    refine sCallC 0 (bx1 := [courtB m _]) hw rfl rfl rfl ⟨Nat.zero_lt_one, AV.subL_free _ (Reply.free r), trivial⟩ ⟨_, rfl, _, evl, obl, rfl, rfl, rfl, ?_⟩

    iterate 5 (refine stG ?_)
    refine runS_freeze 1 obf ⟨_, evl, _, evl, ?_⟩
    try (first | refine wkM hK trivial ?_ | refine wkG trivial ?_)
    try clear hK K
    try (refine Stop.mk ?_; intro K hK)
    refine runS_weak (Weak.slot 79 evl (Sim.lstE rfl (who1 ⟨3, 0⟩)).s) ?_
    refine sCallC 0 (bx1 := [courtB m _]) b2 rfl rfl rfl ⟨Nat.zero_lt_one, trivial, trivial, ⟨trivial, trivial, trivial⟩, AV.sub_free _ (lA_free (fun y => Party.free y) _), trivial⟩ ⟨_, rfl, _, evl, obl, rfl, rfl, rfl, ?_⟩

    try (first | refine wkM hK trivial ?_ | refine wkG trivial ?_)
    try clear hK K
    try (refine Stop.mk ?_; intro K hK)
    refine runS_weak (Weak.slot 91 evl (Sim.lstE rfl (who1 ⟨3, 0⟩)).s) ?_
    refine sCallC 0 (bx1 := [courtB m _]) b3 rfl rfl rfl ⟨Nat.zero_lt_one, trivial, trivial, ⟨trivial, trivial, trivial⟩, AV.sub_free _ (lA_free (fun y => Party.free y) _), trivial⟩ ⟨_, rfl, _, evl, obl, rfl, rfl, rfl, ?_⟩

    try (first | refine wkM hK el ?_ | refine wkG el ?_)
    try clear hK K
    try (refine Stop.mk ?_; intro K hK)
    refine runS_weak (Weak.slot 105 evl (Sim.lstE rfl (who1 ⟨2, r.host⟩)).s) ?_
    refine runS_freeze 1 obf ⟨_, evl, _, evl, ?_⟩
    refine sCallC 0 (bx1 := [courtB m _]) b4 rfl rfl rfl ⟨Nat.zero_lt_one, trivial, trivial, ⟨trivial, trivial, trivial⟩, AV.sub_free _ (lA_free (fun y => Party.free y) _), trivial⟩ ⟨_, rfl, _, evl, obl, rfl, rfl, rfl, ?_⟩

    try (first | refine wkM hK trivial ?_ | refine wkG trivial ?_)
    try clear hK K
    try (refine Stop.mk ?_; intro K hK)
    refine ⟨_, Weak.refl _, ?_⟩
    all_goals (refine retG_of (by simp) ⟨_, _, _, evl, obq, OutG.bel ?_ obb, by simp, ?_, rfl, obb, belRB _⟩)
    all_goals first | rfl | (simp; done) | (simp_all; done) | (simp_all; omega) | skip
end Go.Proofs.YtchpbdecipcelaaGreatDoor
