import Derived.Test.YtchpbdecipcelaaGreatDoorSM17
import Derived.Test.YtchpbdecipcelaaGreatDoorSM28
namespace Go.Proofs.YtchpbdecipcelaaGreatDoor
set_option linter.unusedVariables false
set_option linter.unusedSimpArgs false
set_option maxHeartbeats 4000000
set_option maxRecDepth 100000
open Go.RowKit
def prvA : Option Reply → AV
  | none => .raw (.pointer none)
  | some y => .elt y.av 0
def prvR (l : List Reply) (i : Nat) : Option Reply := if i = 0 then none else some (l.getD (i - 1) default)
theorem callAll_A (l : List Reply) (hl : l.length ≤ 4611686018427387904) (g : FuncId) (cap : List AV) (hcap : AV.freeL cap) (p : Nat → Bool) (hp : ∀ i, i < l.length → FnA Tryz.prog g (prvA (prvR l i) :: .agg (l.getD i default).av :: cap) (.raw (.bool (p i)))) :
    FnA Tryz.prog 185 [lA 10 Reply.av l, .fn (.func g) [] cap] (.raw (.bool (decide (∀ i, i < l.length → p i = true)))) := by
  have hfr : (lA 10 Reply.av l).free := lA_free (fun y => Reply.free y) _
  refine fnA_of tblOk Tryz.func185 rfl (by kernel_rfl) 24 Tryz.ntmps185 lenT [.tmp 4] rfl ?_
  simp only [entrySt, argSl, Nat.zero_add, Nat.reduceAdd]
  try refine wkG trivial ?_
  try (refine Stop.mk ?_; intro K hK)
  refine wpA_loop (fun k : Nat => ⟨24, 0, [(0, true, lA 10 Reply.av l), (1, true, .fn (.func g) [] cap), (5, true, prvA (prvR l k)), (7, true, lA 10 Reply.av l), (8, true, .raw (.int .i64 l.length)), (9, true, .raw (.int .i64 k))], [], [], ((0, []), [], true)⟩)
    (fun k => k ≤ l.length ∧ ∀ i, i < k → p i = true) (fun k => l.length - k) 0 ?_ ⟨by omega, fun i h => by omega⟩ ?_
  · rw [show prvA (prvR l 0) = .raw (.pointer none) from rfl]
    refine wkn ?_ ?_ ?_
    all_goals first | exact wk0 | refine wkS ?_ | skip
    all_goals (try trivial)
    all_goals ((repeat' apply And.intro) <;> first | exact wkL | skip)
  · rintro k ⟨hk, hall⟩
    have hpf : (prvA (prvR l k)).free := by
      unfold prvR
      split
      · trivial
      · exact Reply.free _
    have hnx : prvA (prvR l (k + 1)) = .elt (l.getD k default).av 0 := rfl
    rcases Nat.lt_or_ge k l.length with hlt | hge
    · have hpk := hp k hlt
      have hpv : FnA Tryz.prog g (prvA (prvR l k) :: .agg (l.getD k default).av :: cap) (.raw (.bool (p k))) := hpk
      generalize prvA (prvR l k) = V at *
      generalize hb : p k = b at *
      try refine wkG trivial ?_
      try (refine Stop.mk ?_; intro K hK)
      refine wpA_cond' ⟨_, evl, fun _ => ?_, fun hb => absurd (of_decide_eq_false hb) (by omega)⟩
      try refine wkG hpv ?_
      try (refine Stop.mk ?_; intro K hK)
      cases b with
      | false =>
        refine wpA_cond' ⟨_, evl, fun _ => ?_, fun hb => absurd hb (by decide)⟩
        try refine wkG trivial ?_
        try (refine Stop.mk ?_; intro K hK)
        refine ret_of (by simp) ⟨_, _, _, evl, ob0, OutOk.eq ?_ (by simp [AV.free])⟩
        simp only [AV.raw.injEq, Value.bool.injEq]
        rw [eq_comm, decide_eq_false_iff_not]
        intro h
        rw [h k hlt] at hb
        cases hb
      | true =>
        refine wpA_cond' ⟨_, evl, fun hb => absurd hb (by decide), fun _ => ?_⟩
        try refine wkG trivial ?_
        try (refine Stop.mk ?_; intro K hK)
        refine ⟨k + 1, ⟨by omega, fun i hi => ?_⟩, by omega, ?_⟩
        · rcases Nat.lt_succ_iff_lt_or_eq.1 hi with h | rfl
          · exact hall i h
          · exact hb
        · rw [hnx]
          refine wkn ?_ ?_ ?_
          all_goals first | exact wk0 | refine wkS ?_ | skip
          all_goals (try trivial)
          all_goals ((repeat' apply And.intro) <;> first | exact wkL | skip)
    · obtain rfl : k = l.length := by omega
      generalize prvA (prvR l l.length) = V at *
      try refine wkG trivial ?_
      try (refine Stop.mk ?_; intro K hK)
      refine wpA_cond' ⟨_, evl, fun hb => absurd (of_decide_eq_true hb) (by omega), fun _ => ?_⟩
      try refine wkG trivial ?_
      try (refine Stop.mk ?_; intro K hK)
      refine ret_of (by simp) ⟨_, _, _, evl, ob0, OutOk.eq ?_ (by simp [AV.free])⟩
      simp only [AV.raw.injEq, Value.bool.injEq]
      rw [eq_comm, decide_eq_true_eq]
      exact hall
def fitP (l : List Reply) (host number head : Int) (i : Nat) : Prop :=
  (∀ y, prvR l i = some y → y.auth < (l.getD i default).auth) ∧ replyP (l.getD i default) ∧ (l.getD i default).host = host ∧ (l.getD i default).round = number ∧ (l.getD i default).nonce = nonceM head host number (l.getD i default).auth
instance (l : List Reply) (host number head : Int) (i : Nat) : Decidable (fitP l host number head i) := by
  unfold fitP
  cases prvR l i with
  | none => exact decidable_of_iff (replyP (l.getD i default) ∧ (l.getD i default).host = host ∧ (l.getD i default).round = number ∧ (l.getD i default).nonce = nonceM head host number (l.getD i default).auth) ⟨fun h => ⟨fun y e => (by cases e), h⟩, fun h => h.2⟩
  | some y => exact decidable_of_iff (y.auth < (l.getD i default).auth ∧ replyP (l.getD i default) ∧ (l.getD i default).host = host ∧ (l.getD i default).round = number ∧ (l.getD i default).nonce = nonceM head host number (l.getD i default).auth) ⟨fun h => ⟨fun z e => (by cases e; exact h.1), h.2⟩, fun h => ⟨h.1 y rfl, h.2⟩⟩
theorem fits1_A (l : List Reply) (i : Nat) (x : Reply) (hx : l.getD i default = x) (hf : x.fits) (host number head : Int) (h1 : inK .i64 host) (h2 : inK .i64 number) (h3 : inK .u64 head) :
    FnA Tryz.prog 186 [prvA (prvR l i), .agg x.av, .elt [.raw (.int .i64 host)] 0, .elt [.raw (.int .i64 number)] 0, .elt [.raw (.int .u64 head)] 0] (.raw (.bool (decide (fitP l host number head i)))) := by
  have hw := wellFormed_A x
  have hn := nonce_A head host number x.auth h3 h1 h2 hf.1
  have e : decide (fitP l host number head i) = ((match prvR l i with | none => true | some y => decide (y.auth < x.auth)) && (decide (replyP x) && decide (x.host = host) && decide (x.round = number) && decide (x.nonce = nonceM head host number x.auth))) := by
    rw [Bool.eq_iff_iff, decide_eq_true_iff]
    unfold fitP
    rw [hx]
    cases prvR l i with
    | none => simp [and_assoc]
    | some y => simp [and_assoc]
  rw [e]
  clear e hx
  generalize decide (replyP x) = b at *
  generalize nonceM head host number x.auth = N at *
  cases prvR l i with
  | none =>
    simp only [prvA, Bool.true_and]
    refine fnA_of tblOk Tryz.func186 rfl (by kernel_rfl) 48 Tryz.ntmps186 lenT [.tmp 7] rfl ?_
    simp only [entrySt, argSl, Nat.zero_add, Nat.reduceAdd]
    repeat' first
      | refine wkG (And.intro hw hn) ?_
      | (refine cndS ⟨_, evl, ⟨cb, cb⟩, fun hb => ?_, fun hb => ?_⟩ <;> try (cases hb; done))
      | (refine Stop.mk ?_; intro K hK)
      | fail
    all_goals (try (refine ret_of (by simp) ⟨_, _, _, evl, ob0, OutOk.sims ?_ fre⟩))
    all_goals first | exact Sims.refl _ | exact finT | exact simsF | (refine Sims.tup ?_; simp only [SimsL, and_true]; (repeat' apply And.intro) <;> first | exact simsF | skip) | (exfalso; first | omega | (simp_all; done) | (simp_all; omega)) | skip
  | some y =>
    simp only [prvA]
    refine fnA_of tblOk Tryz.func186 rfl (by kernel_rfl) 48 Tryz.ntmps186 lenT [.tmp 7] rfl ?_
    simp only [entrySt, argSl, Nat.zero_add, Nat.reduceAdd]
    repeat' first
      | refine wkG (And.intro hw hn) ?_
      | (refine cndS ⟨_, evl, ⟨cb, cb⟩, fun hb => ?_, fun hb => ?_⟩ <;> try (cases hb; done))
      | (refine Stop.mk ?_; intro K hK)
      | fail
    all_goals (try (refine ret_of (by simp) ⟨_, _, _, evl, ob0, OutOk.sims ?_ fre⟩))
    all_goals first | exact Sims.refl _ | exact finT | exact simsF | (refine Sims.tup ?_; simp only [SimsL, and_true]; (repeat' apply And.intro) <;> first | exact simsF | skip) | (exfalso; first | omega | (simp_all; done) | (simp_all; omega)) | skip
def fitsP (r : Round) (host number head : Int) : Prop := ∀ i, i < r.replies.length → fitP r.replies host number head i
instance (r : Round) (host number head : Int) : Decidable (fitsP r host number head) := by unfold fitsP; infer_instance
theorem fits_A (r : Round) (hl : r.replies.length ≤ 4611686018427387904) (hf : ∀ x ∈ r.replies, x.fits) (host number head : Int) (h1 : inK .i64 host) (h2 : inK .i64 number) (h3 : inK .u64 head) :
    FnA Tryz.prog 123 [.agg r.av, .raw (.int .i64 host), .raw (.int .i64 number), .raw (.int .u64 head)] (.raw (.bool (decide (fitsP r host number head)))) := by
  obtain ⟨rs⟩ := r
  simp only at hl hf
  have hfr : (lA 10 Reply.av rs).free := lA_free (fun y => Reply.free y) _
  have hc := callAll_A rs hl 186 [.elt [.raw (.int .i64 host)] 0, .elt [.raw (.int .i64 number)] 0, .elt [.raw (.int .u64 head)] 0] ⟨⟨trivial, trivial⟩, ⟨trivial, trivial⟩, ⟨trivial, trivial⟩, trivial⟩ (fun i => decide (fitP rs host number head i)) fun i hi => fits1_A rs i _ rfl (hf _ (memD hi)) host number head h1 h2 h3
  have e : decide (∀ i, i < rs.length → decide (fitP rs host number head i) = true) = decide (fitsP ⟨rs⟩ host number head) := by
    rw [decide_eq_decide]
    exact ⟨fun h i hi => of_decide_eq_true (h i hi), fun h i hi => decide_eq_true (h i hi)⟩
  rw [e] at hc
  generalize decide (fitsP ⟨rs⟩ host number head) = b at *
  clear e
  refine fnA_of tblOk Tryz.func123 rfl (by kernel_rfl) 13 Tryz.ntmps123 lenT [.tmp 8] rfl ?_
  simp only [entrySt, argSl, Nat.zero_add, Nat.reduceAdd]
  try (first | refine wkM hK trivial ?_ | refine wkG trivial ?_)
  try clear hK K
  try (refine Stop.mk ?_; intro K hK)
  refine runS_freeze 0 obf ⟨_, evl, _, evl, ?_⟩
  try (first | refine wkM hK hc ?_ | refine wkG hc ?_)
  try clear hK K
  try (refine Stop.mk ?_; intro K hK)
  all_goals (try (refine ret_of (by simp) ⟨_, _, _, evl, ob0, OutOk.sims ?_ fre⟩))
  all_goals first | exact Sims.refl _ | exact finT | exact simsF | (refine Sims.tup ?_; simp only [SimsL, and_true]; (repeat' apply And.intro) <;> first | exact simsF | skip) | (exfalso; first | omega | (simp_all; done) | (simp_all; omega)) | skip
def chainP (c : Chain) : Prop := (1 ≤ c.host ∧ c.host ≤ 64) ∧ c.rounds.length ≤ 200 ∧ ∀ k, k < c.rounds.length → fitsP (c.rounds.getD k default) c.host ((k : Int) + 1) (headM c.rounds k)
instance (c : Chain) : Decidable (chainP c) := by unfold chainP; infer_instance
theorem itemsH_len (l : List Round) (n : Nat) : (itemsH l n).length = n := by simp [itemsH]
theorem itemsH_next {l : List Round} {k : Nat} {item : List AV} (h : (itemsH l k ++ [item]) <+: itemsH l l.length) : k < l.length ∧ item = itemH l k := by
  have h1 := h.length_le
  rw [List.length_append, itemsH_len, itemsH_len] at h1
  simp only [List.length_cons, List.length_nil] at h1
  refine ⟨by omega, ?_⟩
  have h2 := itemsH_pre l (k := k + 1) (n := l.length) (by omega)
  rw [itemsH_succ] at h2
  have h3 := List.prefix_of_prefix_length_le h h2 (by simp)
  have h4 := h3.eq_of_length (by simp)
  have h5 := List.append_cancel_left h4
  simpa using h5
theorem cvalid_A (c : Chain) (hl : c.rounds.length ≤ 4611686018427387904) (hh : inK .i64 c.host) (hr : ∀ r ∈ c.rounds, r.replies.length ≤ 400000 ∧ ∀ x ∈ r.replies, x.fits) : FnA Tryz.prog 75 [.agg c.av] (.raw (.bool (decide (chainP c)))) := by
  have hw := cwithin_A c.host 1 64
  have hfr : (lA 1 Round.av c.rounds).free := lA_free (fun y => Round.free y) _
  by_cases hc : (1 ≤ c.host ∧ c.host ≤ 64) ∧ c.rounds.length ≤ 200
  · rw [decide_eq_true hc.1.1, decide_eq_true hc.1.2] at hw
    have hlen := hc.2
    have hds := heads_A c.rounds
    have hS := heads_S c.rounds (by omega) hr
    have hno : ∀ k, k < c.rounds.length → ¬ fitsP (c.rounds.getD k default) c.host ((k : Int) + 1) (headM c.rounds k) → ¬ chainP c := fun k hk hn h => hn (h.2.2 k hk)
    have hyes : (∀ k, k < c.rounds.length → fitsP (c.rounds.getD k default) c.host ((k : Int) + 1) (headM c.rounds k)) → chainP c := fun h => ⟨hc.1, hc.2, h⟩
    refine fnA_of tblOk Tryz.func75 rfl (by kernel_rfl) 30 Tryz.ntmps75 lenT [.cell 2 4] rfl ?_
    simp only [entrySt, argSl, Nat.zero_add, Nat.reduceAdd]
    try refine wkG hw ?_
    try (refine Stop.mk ?_; intro K hK)
    refine wpA_cond' ⟨_, evl, fun hb => absurd hb (by simp; omega), fun _ => ?_⟩
    try refine wkG hds ?_
    try (refine Stop.mk ?_; intro K hK)
    refine wpA_rangeFunc (fun h j bx rw ys => rw = [] ∧ ys = ((0, []), [], true) ∧ ∃ k, k ≤ c.rounds.length ∧ h = itemsH c.rounds k ∧ bx = [c.av, [.raw (.bool false)], [.raw (.int .i64 k)]] ∧ ((j = none ∧ ∀ i, i < k → fitsP (c.rounds.getD i default) c.host ((i : Int) + 1) (headM c.rounds i)) ∨ (j = some none ∧ ¬ chainP c)))
      rfl rfl ⟨⟨hfr, trivial⟩, trivial⟩ hS ⟨by simp, by simp⟩ (by simp) ⟨rfl, rfl, 0, Nat.zero_le _, rfl, rfl, .inl ⟨rfl, fun i hi => by omega⟩⟩ ?_ ?_ ?_
    · rintro h item bx rw ys ⟨rfl, rfl, k, hk, rfl, rfl, hj⟩ hpr _
      obtain ⟨hlt, rfl⟩ := itemsH_next hpr
      obtain ⟨_, hall⟩ := hj.resolve_right (fun h => by cases h.1)
      refine ⟨rfl, ?_⟩
      simp only [zipSl, itemH, List.cons_append, List.nil_append]
      obtain ⟨g1, g2⟩ := hr _ (memD hlt)
      have hfk : (lA 10 Reply.av (c.rounds.getD k default).replies).free := lA_free (fun y => Reply.free y) _
      have hft := fits_A (c.rounds.getD k default) (by omega) g2 c.host ((k : Int) + 1) (headM c.rounds k) hh (by simp only [inK]; omega) (headM_range _ _)
      have hs : itemsH c.rounds k ++ [itemH c.rounds k] = itemsH c.rounds (k + 1) := (itemsH_succ _ _).symm
      have hnk := hno k hlt
      simp only [itemH] at hs
      generalize hH : headM c.rounds k = H at *
      generalize hR : c.rounds.getD k default = R at *
      by_cases hfp : fitsP R c.host ((k : Int) + 1) H
      · rw [decide_eq_true hfp] at hft
        try refine wkG trivial ?_
        try (refine Stop.mk ?_; intro K hK)
        refine ⟨rfl, ?_⟩
        try refine wkG hft ?_
        try (refine Stop.mk ?_; intro K hK)
        refine wpA_cond' ⟨_, evl, fun hb => absurd hb (by decide), fun _ => ?_⟩
        try refine wkG trivial ?_
        try (refine Stop.mk ?_; intro K hK)
        refine Lk.roundEnd_n (bx' := [c.av, [.raw (.bool false)], [.raw (.int .i64 ((k + 1 : Nat) : Int))]]) rfl (by simp [belB, AV.bel, AV.belL, go_sem, Chain.av, AV.bel_free _ hfr]) rfl ⟨rfl, rfl, k + 1, by omega, hs, rfl, .inl ⟨rfl, fun i hi => ?_⟩⟩
        rcases Nat.lt_succ_iff_lt_or_eq.1 hi with h | rfl
        · exact hall i h
        · rw [hH, hR]; exact hfp
      · rw [decide_eq_false hfp] at hft
        try refine wkG trivial ?_
        try (refine Stop.mk ?_; intro K hK)
        refine ⟨rfl, ?_⟩
        try refine wkG hft ?_
        try (refine Stop.mk ?_; intro K hK)
        refine wpA_cond' ⟨_, evl, fun _ => ?_, fun hb => absurd hb (by decide)⟩
        try refine wkG trivial ?_
        try (refine Stop.mk ?_; intro K hK)
        exact ⟨_, _, [], [c.av, [.raw (.bool false)], [.raw (.int .i64 ((k + 1 : Nat) : Int))]], [], _, Weak.mk (ex := [_]) rfl trivial ⟨by simp, trivial, by simp [belB, AV.bel, AV.belL, go_sem, Chain.av, AV.bel_free _ hfr]⟩, rfl, rfl, rfl, k + 1, by omega, hs, rfl, .inr ⟨rfl, hnk hfp⟩⟩
    · rintro bx rw ys ⟨rfl, rfl, k, hk, he, rfl, hj⟩
      obtain rfl : k = c.rounds.length := by
        have := congrArg List.length he
        rw [itemsH_len, itemsH_len] at this
        exact this.symm
      obtain ⟨_, hall⟩ := hj.resolve_right (fun h => by cases h.1)
      rw [decide_eq_true (hyes hall)]
      try refine wkG trivial ?_
      try (refine Stop.mk ?_; intro K hK)
      refine ret_of (by simp) ⟨_, _, _, evl, ob0, OutOk.eq ?_ ?_⟩
      · rfl
      · simp [AV.free]
    · rintro h j bx rw ys hpr ⟨rfl, rfl, k, hk, rfl, rfl, hj⟩
      obtain ⟨hj, hno⟩ := hj.resolve_left (fun h => by cases h.1)
      obtain rfl : j = none := by simpa using hj
      rw [decide_eq_false hno]
      try refine wkG trivial ?_
      try (refine Stop.mk ?_; intro K hK)
      refine ret_of (by simp) ⟨_, _, _, evl, ob0, OutOk.eq ?_ ?_⟩
      · rfl
      · simp [AV.free]
  · rw [decide_eq_false fun h : chainP c => hc ⟨h.1, h.2.1⟩]
    refine fnA_of tblOk Tryz.func75 rfl (by kernel_rfl) 30 Tryz.ntmps75 lenT [.cell 2 4] rfl ?_
    simp only [entrySt, argSl, Nat.zero_add, Nat.reduceAdd]
    repeat' first
      | refine wkG hw ?_
      | (refine cndS ⟨_, evl, ⟨cb, cb⟩, fun hb => ?_, fun hb => ?_⟩ <;> try (cases hb; done))
      | (refine Stop.mk ?_; intro K hK)
      | fail
    · refine ret_of (by simp) ⟨_, _, _, evl, ob0, OutOk.eq ?_ ?_⟩
      · rfl
      · simp [AV.free]
    · exact absurd ⟨⟨by omega, by omega⟩, by omega⟩ hc
end Go.Proofs.YtchpbdecipcelaaGreatDoor
