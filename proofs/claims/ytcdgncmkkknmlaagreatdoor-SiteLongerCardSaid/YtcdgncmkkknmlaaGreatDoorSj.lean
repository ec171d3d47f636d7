/- package site: rising, hosts, authorities. -/
import Derived.Test.YtcdgncmkkknmlaaGreatDoorSi
namespace Go.Proofs.YtcdgncmkkknmlaaGreatDoor
set_option linter.unusedVariables false
set_option linter.unusedSimpArgs false
set_option maxHeartbeats 4000000
set_option maxRecDepth 100000
open Go.RowKit
def lastId {α : Type} [Inhabited α] (f : α → Int) (l : List α) : Nat → Int
  | 0 => 0
  | k + 1 => f (l.getD k default)
def riseOk {α : Type} [Inhabited α] (f : α → Int) (l : List α) (most : Int) (i : Nat) : Prop := lastId f l i < f (l.getD i default) ∧ f (l.getD i default) ≤ most
instance {α : Type} [Inhabited α] (f : α → Int) (l : List α) (most : Int) (i : Nat) : Decidable (riseOk f l most i) := by unfold riseOk; infer_instance
def risesP {α : Type} [Inhabited α] (f : α → Int) (l : List α) (most : Int) : Prop := 0 < l.length ∧ ∀ i, i < l.length → riseOk f l most i
instance {α : Type} [Inhabited α] (f : α → Int) (l : List α) (most : Int) : Decidable (risesP f l most) := by unfold risesP; infer_instance
theorem risingH_A (l : List Host) (hl : l.length ≤ 9223372036854775807) (most : Int) : FnA Tryz.prog 45 [lA 6 Host.av l, idHF, .raw (.int .i64 most)] (.raw (.bool (decide (risesP (fun x : Host => x.id) l most)))) := by
  refine fnA_of tblOk Tryz.func45 rfl (by kernel_rfl) 33 Tryz.ntmps45 (by simp only [List.length_cons, List.length_nil]; omega) [.tmp 6] rfl ?_
  simp only [entrySt, argSl, Nat.zero_add, Nat.reduceAdd]
  try refine wkG trivial ?_
  try (refine Stop.mk ?_; intro K hK)
  refine wpA_loop (fun k : Nat => ⟨33, 0, [(0, true, lA 6 Host.av l), (1, true, idHF), (2, true, .raw (.int .i64 most)), (7, true, .raw (.int .i64 (lastId (fun x : Host => x.id) l k))), (11, true, lA 6 Host.av l), (12, true, .raw (.int .i64 l.length)), (13, true, .raw (.int .i64 k))], [], [], ((0, []), [], true)⟩)
    (fun k => k ≤ l.length ∧ ∀ i, i < k → riseOk (fun x : Host => x.id) l most i) (fun k => l.length - k) 0 ?_ ⟨by omega, fun i h => by omega⟩ ?_
  · refine wkn ?_ ?_ ?_
    all_goals first | exact wk0 | refine wkS ?_ | skip
    all_goals (try trivial)
    all_goals ((repeat' apply And.intro) <;> first | exact wkL | skip)
  · rintro k ⟨hk, hall⟩
    have hid := idH_A (l.getD k default)
    have hno : risesP (fun x : Host => x.id) l most → k < l.length → riseOk (fun x : Host => x.id) l most k := fun h hk => h.2 k hk
    have hs : lastId (fun x : Host => x.id) l (k + 1) = (l.getD k default).id := rfl
    have ho : riseOk (fun x : Host => x.id) l most k ↔ lastId (fun x : Host => x.id) l k < (l.getD k default).id ∧ (l.getD k default).id ≤ most := Iff.rfl
    generalize lastId (fun x : Host => x.id) l k = la at *
    repeat' first
      | refine wkG hid ?_
      | (refine cndS ⟨_, evl, ⟨cb, cb⟩, fun hb => ?_, fun hb => ?_⟩ <;> try (cases hb; done))
      | (refine Stop.mk ?_; intro K hK)
      | fail
    · refine ret_of (by simp) ⟨_, _, _, evl, ob0, OutOk.eq ?_ (by simp [AV.free])⟩
      simp only [AV.raw.injEq, Value.bool.injEq]
      rw [eq_comm, decide_eq_false_iff_not]
      intro h
      have := ho.1 (hno h (by omega))
      omega
    · refine ⟨k + 1, ⟨by omega, fun i hi => ?_⟩, by omega, ?_⟩
      · rcases Nat.lt_succ_iff_lt_or_eq.1 hi with h | rfl
        · exact hall i h
        · exact ho.2 ⟨by omega, by omega⟩
      · rw [hs]
        refine wkn ?_ ?_ ?_
        all_goals first | exact wk0 | refine wkS ?_ | skip
        all_goals (try trivial)
        all_goals ((repeat' apply And.intro) <;> first | exact wkL | skip)
    · obtain rfl : k = l.length := by omega
      refine ret_of (by simp) ⟨_, _, _, evl, ob0, OutOk.eq ?_ ?_⟩
      · congr 2
        rw [decide_eq_decide]
        exact ⟨fun h => ⟨by omega, hall⟩, fun h => by have := h.1; omega⟩
      · simp [AV.free]
theorem risingU_A (l : List Auth) (hl : l.length ≤ 9223372036854775807) (most : Int) : FnA Tryz.prog 47 [lA 4 Auth.av l, idUF, .raw (.int .i64 most)] (.raw (.bool (decide (risesP (fun x : Auth => x.id) l most)))) := by
  refine fnA_of tblOk Tryz.func47 rfl (by kernel_rfl) 33 Tryz.ntmps47 (by simp only [List.length_cons, List.length_nil]; omega) [.tmp 6] rfl ?_
  simp only [entrySt, argSl, Nat.zero_add, Nat.reduceAdd]
  try refine wkG trivial ?_
  try (refine Stop.mk ?_; intro K hK)
  refine wpA_loop (fun k : Nat => ⟨33, 0, [(0, true, lA 4 Auth.av l), (1, true, idUF), (2, true, .raw (.int .i64 most)), (7, true, .raw (.int .i64 (lastId (fun x : Auth => x.id) l k))), (11, true, lA 4 Auth.av l), (12, true, .raw (.int .i64 l.length)), (13, true, .raw (.int .i64 k))], [], [], ((0, []), [], true)⟩)
    (fun k => k ≤ l.length ∧ ∀ i, i < k → riseOk (fun x : Auth => x.id) l most i) (fun k => l.length - k) 0 ?_ ⟨by omega, fun i h => by omega⟩ ?_
  · refine wkn ?_ ?_ ?_
    all_goals first | exact wk0 | refine wkS ?_ | skip
    all_goals (try trivial)
    all_goals ((repeat' apply And.intro) <;> first | exact wkL | skip)
  · rintro k ⟨hk, hall⟩
    have hid := idU_A (l.getD k default)
    have hno : risesP (fun x : Auth => x.id) l most → k < l.length → riseOk (fun x : Auth => x.id) l most k := fun h hk => h.2 k hk
    have hs : lastId (fun x : Auth => x.id) l (k + 1) = (l.getD k default).id := rfl
    have ho : riseOk (fun x : Auth => x.id) l most k ↔ lastId (fun x : Auth => x.id) l k < (l.getD k default).id ∧ (l.getD k default).id ≤ most := Iff.rfl
    generalize lastId (fun x : Auth => x.id) l k = la at *
    repeat' first
      | refine wkG hid ?_
      | (refine cndS ⟨_, evl, ⟨cb, cb⟩, fun hb => ?_, fun hb => ?_⟩ <;> try (cases hb; done))
      | (refine Stop.mk ?_; intro K hK)
      | fail
    · refine ret_of (by simp) ⟨_, _, _, evl, ob0, OutOk.eq ?_ (by simp [AV.free])⟩
      simp only [AV.raw.injEq, Value.bool.injEq]
      rw [eq_comm, decide_eq_false_iff_not]
      intro h
      have := ho.1 (hno h (by omega))
      omega
    · refine ⟨k + 1, ⟨by omega, fun i hi => ?_⟩, by omega, ?_⟩
      · rcases Nat.lt_succ_iff_lt_or_eq.1 hi with h | rfl
        · exact hall i h
        · exact ho.2 ⟨by omega, by omega⟩
      · rw [hs]
        refine wkn ?_ ?_ ?_
        all_goals first | exact wk0 | refine wkS ?_ | skip
        all_goals (try trivial)
        all_goals ((repeat' apply And.intro) <;> first | exact wkL | skip)
    · obtain rfl : k = l.length := by omega
      refine ret_of (by simp) ⟨_, _, _, evl, ob0, OutOk.eq ?_ ?_⟩
      · congr 2
        rw [decide_eq_decide]
        exact ⟨fun h => ⟨by omega, hall⟩, fun h => by have := h.1; omega⟩
      · simp [AV.free]
structure Net where
  tables : List Table
  hosts : List Host
  auths : List Auth
  wires : List Wire
  f : Int
  lost : Int
  timeout : Int
  deriving Inhabited, DecidableEq
@[go_sem] def Net.av (x : Net) : List AV := [lA 3 Table.av x.tables, lA 6 Host.av x.hosts, lA 4 Auth.av x.auths, lA 3 Wire.av x.wires, .raw (.int .i64 x.f), .raw (.int .i64 x.lost), .raw (.int .i64 x.timeout)]
def Net.fits (x : Net) : Prop := (x.tables.length ≤ maxLen ∧ ∀ y ∈ x.tables, y.fits) ∧ (x.hosts.length ≤ maxLen ∧ ∀ y ∈ x.hosts, y.fits) ∧ (x.auths.length ≤ maxLen ∧ ∀ y ∈ x.auths, y.fits) ∧ (x.wires.length ≤ maxLen ∧ ∀ y ∈ x.wires, y.fits) ∧ (inK .i64 x.f) ∧ (inK .i64 x.lost) ∧ (inK .i64 x.timeout)
@[simp] theorem Net.free (x : Net) : AV.freeL x.av := ⟨lA_free (fun y => Table.free y) _, lA_free (fun y => Host.free y) _, lA_free (fun y => Auth.free y) _, lA_free (fun y => Wire.free y) _, trivial, trivial, trivial, trivial⟩
theorem hosts_A (n : Net) (hl : n.hosts.length ≤ 1000) : FnA Tryz.prog 34 [.agg n.av] (lA 6 Host.av n.hosts) := by
  have hfr := lA_free (sz := 6) (fun y => Host.free y) n.hosts
  refine fnA_of tblOk Tryz.func34 rfl (by kernel_rfl) 19 Tryz.ntmps34 (by simp only [List.length_cons, List.length_nil]; omega) [.tmp 2] rfl ?_
  simp only [entrySt, argSl, Nat.zero_add, Nat.reduceAdd]
  try refine wkG trivial ?_
  try (refine Stop.mk ?_; intro K hK)
  refine wpA_weak (Weak.nilRow 3 86 6 rfl) ?_
  refine wpA_loop (fun k : Nat => ⟨19, 0, [(1, true, .box 0 0), (3, true, .row 0 (n.hosts.take k).length), (7, true, lA 6 Host.av n.hosts), (8, true, .raw (.int .i64 n.hosts.length)), (9, true, .raw (.int .i64 k))], [n.av], [⟨86, 6, (n.hosts.take k).length, els Host.av (n.hosts.take k)⟩], ((0, []), [], true)⟩)
    (fun k => k ≤ n.hosts.length) (fun k => n.hosts.length - k) 0 ?_ (by omega) ?_
  · simp only [List.take_zero, List.length_nil]
    refine wkn ?_ ?_ ?_
    all_goals first | exact wk0 | refine wkS ?_ | skip
    all_goals (try trivial)
    all_goals ((repeat' apply And.intro) <;> first | exact wkL | skip)
  · intro k hk
    have hlen : (n.hosts.take k).length = k := by rw [List.length_take]; omega
    rcases Nat.lt_or_ge k n.hosts.length with hlt | hge
    · have hs : n.hosts.take (k + 1) = n.hosts.take k ++ [n.hosts.getD k default] := by rw [List.take_succ_eq_append_getElem hlt, getD_get hlt]
      try refine wkR trivial ?_
      try (refine Stop.mk ?_; intro K hK)
      refine wpA_cond' ⟨_, evl, fun _ => ?_, fun hb => absurd (of_decide_eq_false hb) (by omega)⟩
      try refine wkR trivial ?_
      try (refine Stop.mk ?_; intro K hK)
      refine ⟨k + 1, by omega, by omega, ?_⟩
      rw [hs, List.length_append]
      generalize n.hosts.take k = R at *
      refine wkn ?_ ?_ ?_
      all_goals first | exact wk0 | refine wkS ?_ | skip
      all_goals (try trivial)
      all_goals ((repeat' apply And.intro) <;> first | exact wkL | skip)
    · obtain rfl : k = n.hosts.length := by omega
      rw [List.take_length]
      try refine wkR trivial ?_
      try (refine Stop.mk ?_; intro K hK)
      refine wpA_cond' ⟨_, evl, fun hb => absurd (of_decide_eq_true hb) (by omega), fun _ => ?_⟩
      try refine wkR trivial ?_
      try (refine Stop.mk ?_; intro K hK)
      refine ret_of (by simp) ⟨_, _, _, evl, ob0, ?_⟩
      exact OutOk.sims (Sims.row rfl rfl rfl rfl (fun i hi => rfl)) hfr
theorem auths_A (n : Net) (hl : n.auths.length ≤ 1000) : FnA Tryz.prog 48 [.agg n.av] (lA 4 Auth.av n.auths) := by
  have hfr := lA_free (sz := 4) (fun y => Auth.free y) n.auths
  refine fnA_of tblOk Tryz.func48 rfl (by kernel_rfl) 19 Tryz.ntmps48 (by simp only [List.length_cons, List.length_nil]; omega) [.tmp 2] rfl ?_
  simp only [entrySt, argSl, Nat.zero_add, Nat.reduceAdd]
  try refine wkG trivial ?_
  try (refine Stop.mk ?_; intro K hK)
  refine wpA_weak (Weak.nilRow 3 98 4 rfl) ?_
  refine wpA_loop (fun k : Nat => ⟨19, 0, [(1, true, .box 0 0), (3, true, .row 0 (n.auths.take k).length), (7, true, lA 4 Auth.av n.auths), (8, true, .raw (.int .i64 n.auths.length)), (9, true, .raw (.int .i64 k))], [n.av], [⟨98, 4, (n.auths.take k).length, els Auth.av (n.auths.take k)⟩], ((0, []), [], true)⟩)
    (fun k => k ≤ n.auths.length) (fun k => n.auths.length - k) 0 ?_ (by omega) ?_
  · simp only [List.take_zero, List.length_nil]
    refine wkn ?_ ?_ ?_
    all_goals first | exact wk0 | refine wkS ?_ | skip
    all_goals (try trivial)
    all_goals ((repeat' apply And.intro) <;> first | exact wkL | skip)
  · intro k hk
    have hlen : (n.auths.take k).length = k := by rw [List.length_take]; omega
    rcases Nat.lt_or_ge k n.auths.length with hlt | hge
    · have hs : n.auths.take (k + 1) = n.auths.take k ++ [n.auths.getD k default] := by rw [List.take_succ_eq_append_getElem hlt, getD_get hlt]
      try refine wkR trivial ?_
      try (refine Stop.mk ?_; intro K hK)
      refine wpA_cond' ⟨_, evl, fun _ => ?_, fun hb => absurd (of_decide_eq_false hb) (by omega)⟩
      try refine wkR trivial ?_
      try (refine Stop.mk ?_; intro K hK)
      refine ⟨k + 1, by omega, by omega, ?_⟩
      rw [hs, List.length_append]
      generalize n.auths.take k = R at *
      refine wkn ?_ ?_ ?_
      all_goals first | exact wk0 | refine wkS ?_ | skip
      all_goals (try trivial)
      all_goals ((repeat' apply And.intro) <;> first | exact wkL | skip)
    · obtain rfl : k = n.auths.length := by omega
      rw [List.take_length]
      try refine wkR trivial ?_
      try (refine Stop.mk ?_; intro K hK)
      refine wpA_cond' ⟨_, evl, fun hb => absurd (of_decide_eq_true hb) (by omega), fun _ => ?_⟩
      try refine wkR trivial ?_
      try (refine Stop.mk ?_; intro K hK)
      refine ret_of (by simp) ⟨_, _, _, evl, ob0, ?_⟩
      exact OutOk.sims (Sims.row rfl rfl rfl rfl (fun i hi => rfl)) hfr
end Go.Proofs.YtcdgncmkkknmlaaGreatDoor
