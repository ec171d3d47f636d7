import Derived.Laws.MakeOwn
import Derived.Test.YtchpbdecipcelaaGreatDoorSM36
namespace Go.Proofs.YtchpbdecipcelaaGreatDoor
set_option linter.unusedVariables false
set_option linter.unusedSimpArgs false
set_option maxHeartbeats 4000000
set_option maxRecDepth 100000
open Go.RowKit
def ints (t : List Int) : List AV := t.map fun x => .raw (.int .i64 x)
theorem ints_len (t : List Int) : (ints t).length = t.length := by simp [ints]
class InB (t : List Int) (i : Nat) : Prop where
  lt : i < t.length
@[go_sem] theorem nthA_ints (t : List Int) (i : Nat) [h : InB t i] : nthA (ints t) i = .raw (.int .i64 (t.getD i 0)) := by
  have h1 := nthA_get (cs := ints t) (k := i) (by rw [ints_len]; exact h.lt)
  have h2 := h.lt
  rw [ints, List.getElem?_map, List.getElem?_eq_getElem h2] at h1
  simp only [Option.map_some, Option.some.injEq] at h1
  rw [ints, ← h1, List.getD_eq_getElem?_getD, List.getElem?_eq_getElem h2]
  rfl
theorem putL_intsN : ∀ (t : List Int) (i : Nat) (v : Int), putL (ints t) i [.raw (.int .i64 v)] = ints (t.set i v)
  | [], 0, _ => rfl
  | [], _ + 1, _ => rfl
  | x :: t, 0, v => by
    have : ∀ l : List AV, overL ([] : List AV) l = l := fun l => by cases l <;> rfl
    simp [ints, putL, overL]
  | x :: t, i + 1, v => by
    have := putL_intsN t i v
    simp only [ints, List.map_cons, putL, List.set_cons_succ, List.cons.injEq, true_and] at this ⊢
    exact this
@[go_sem] theorem putL_ints (t : List Int) (i : Nat) (v : Int) : putL (ints t) i [.raw (.int .i64 v)] = ints (t.set i v) := putL_intsN t i v
@[simp] theorem ints_free (t : List Int) : AV.freeL (ints t) := by
  induction t with
  | nil => trivial
  | cons x t ih => exact ⟨trivial, ih⟩
@[simp] theorem ints_sub (m n : Nat) (t : List Int) : AV.subL m n (ints t) := AV.subL_free _ (ints_free t)
@[simp] theorem ints_bel (m : Nat) (t : List Int) : AV.belL m (ints t) := AV.belL_free _ (ints_free t)
theorem made_ints (n : Nat) : (madeCells #[.int .i64 0] n).toList = (List.replicate n 0).map fun x : Int => Value.int .i64 x := by
  refine List.ext_getElem (by simp [madeCells]) fun i h1 h2 => ?_
  simp only [madeCells, Array.toList_map, Array.toList_range, List.length_map, List.length_range] at h1
  simp [madeCells, Nat.mod_one]
theorem runS_mkInts {ops : Array Oper} {rest : List Oper} {K : ASt → Prop} {nt nb : Nat} {sl : List (Nat × (Bool × AV))} {bx : List (List AV)} {rw : List ARow} {ys : (Nat × List (List AV)) × List (List AV) × Bool} {o : Oper} {d : Nat} {l : Operand} (n : Nat) (hn0 : n ≤ 16777216)
    (hop : o.op = .makeSlice 51 l l) (hg : o.guard = none) (hd : o.dst = some d) (hn : Nat.blt d nt = true)
    (h : ASt.ev ⟨nt, nb, sl, bx, rw, ys⟩ l = some (true, .raw (.int .i64 n)) ∧ ∃ m, bx.length = m ∧ ∃ bx', bx ++ [ints (List.replicate n 0)] = bx' ∧ runS Tryz.prog ops rest K ⟨nt, nb, (d, (true, .bsl 1 m 0 n n)) :: sl, bx', rw, ys⟩) : runS Tryz.prog ops (o :: rest) K ⟨nt, nb, sl, bx, rw, ys⟩ := by
  obtain ⟨he, m, rfl, bx', rfl, hk⟩ := h
  intro C G a w Q hs hQ
  refine wpListIn_plain hg fun K' hK => ?_
  refine wpIn_of_run (fun c hc => by rw [hop] at hc; cases hc) ?_
  obtain ⟨dst, op, type, pos, after, guard⟩ := o
  simp only at hop hd
  subst hop
  subst hd
  have e0 := (evOk_of (x := l) fun t _ => hs.slot t) _ _ he rfl
  have e1 : a.eval l = .int .i64 (n : Int) := e0
  obtain ⟨i, hi, hz⟩ : ∃ i, Tryz.prog.info? 3 = some i ∧ (i.zero = some (.int .i64 0) ∧ i.size = 1 ∧ i.bytes = 8) := by
    have h : (Tryz.prog.info? 3).map (fun i => (i.zero, i.size, i.bytes)) = some (some (.int .i64 0), 1, 8) := by kernel_rfl
    obtain ⟨i, h1, h2⟩ := Option.map_eq_some_iff.1 h
    simp only [Prod.mk.injEq] at h2
    exact ⟨i, h1, h2⟩
  have hml : n ≤ maxLen := by simp only [maxLen]; omega
  have e3 := run_make (P := Tryz.prog) w 51 3 i (.int .i64 0) (by kernel_rfl) hi hz.1 .i64 .i64 n n (by omega) (Int.le_refl _) (by rw [hz.2.2]; omega) (by omega)
  rw [hz.2.1, Nat.mul_one, Int.toNat_natCast, show (Value.int .i64 0).cells = #[.int .i64 0] from rfl] at e3
  have hrun : (execOp a.eval ⟨some d, .makeSlice 51 l l, type, pos, after, guard⟩).run Tryz.prog w = .ok (.value (.slice (some ⟨w.heap.size, 0, none⟩) n n)) (w.alloc (.cells (madeCells #[.int .i64 0] n) 3)) := by
    simp only [execOp, Sem.run_bind, e1, e3, Result.andThen_ok]; rfl
  rw [hrun, Oper.uponIn_value]
  have hcells : (madeCells #[.int .i64 0] n) = ((List.replicate n 0).map fun x : Int => Value.int .i64 x).toArray := by
    rw [← made_ints]
  rw [hcells]
  have e2 : AV.relL G w (ints (List.replicate n 0)) ((List.replicate n 0).map fun x : Int => Value.int .i64 x) := AV.relL_mk (by simp [ints]) fun j x v hx hv => by
    rw [ints, List.getElem?_map] at hx
    rw [List.getElem?_map] at hv
    cases hj : (List.replicate n (0 : Int))[j]? with
    | none => rw [hj] at hx; cases hx
    | some y =>
      rw [hj] at hx hv
      cases hx
      cases hv
      rfl
  refine hK _ _ (hk C _ _ _ Q ((hs.push 3 e2).put (by simpa [Nat.blt_eq] using hn) (fun _ => ⟨w.heap.size, _, ?_, rfl, Nat.le_refl _, hml, fun _ => rfl⟩) (fun h => by cases h)) hQ)
  show (G.bx ++ [w.heap.size])[bx.length]? = _
  rw [← hs.mem.lenB, List.getElem?_append_right (Nat.le_refl _), Nat.sub_self]
  rfl
theorem indexFunc_Pa (l : List Party) (hl : l.length ≤ 4611686018427387904) (g : FuncId) (cap : List AV) (hcap : AV.freeL cap) (p : Party → Bool) (hp : ∀ x ∈ l, FnA Tryz.prog g (.agg x.av :: cap) (.raw (.bool (p x)))) :
    FnA Tryz.prog 95 [lA 2 Party.av l, .fn (.func g) [] cap] (.raw (.int .i64 (idxM p l))) := by
  refine fnA_of tblOk Tryz.func95 rfl (by kernel_rfl) 19 Tryz.ntmps95 lenT [.tmp 4] rfl ?_
  simp only [entrySt, argSl, Nat.zero_add, Nat.reduceAdd]
  try refine wkG trivial ?_
  try (refine Stop.mk ?_; intro K hK)
  refine wpA_loop (fun k : Nat => ⟨19, 0, [(0, true, lA 2 Party.av l), (1, true, .fn (.func g) [] cap), (7, true, .raw (.int .i64 l.length)), (8, true, .raw (.int .i64 k))], [], [], ((0, []), [], true)⟩)
    (fun k => k ≤ l.length ∧ ∀ i, i < k → p (l.getD i default) = false) (fun k => l.length - k) 0 ?_ ⟨by omega, fun i h => by omega⟩ ?_
  · refine wkn ?_ ?_ ?_
    all_goals first | exact wk0 | refine wkS ?_ | skip
    all_goals (try trivial)
    all_goals ((repeat' apply And.intro) <;> first | exact wkL | skip)
  · rintro k ⟨hk, hall⟩
    try refine wkG trivial ?_
    try (refine Stop.mk ?_; intro K hK)
    refine wpA_cond' ⟨_, evl, ?_, ?_⟩
    · intro hlt
      simp only [decide_eq_true_eq] at hlt
      have hmem : l.getD k default ∈ l := by rw [List.getD_eq_getElem?_getD, List.getElem?_eq_getElem (show k < l.length by omega)]; exact List.getElem_mem _
      have hpk := hp _ hmem
      have hfe : AV.freeL (Party.av (l.getD k default)) := by first | exact Party.free _ | (simp [AV.free, AV.freeL, iC, u8C, kC]; done)
      try refine wkG hpk ?_
      try (refine Stop.mk ?_; intro K hK)
      refine wpA_cond' ⟨_, evl, ?_, ?_⟩
      · intro hb
        try refine wkG trivial ?_
        try (refine Stop.mk ?_; intro K hK)
        refine ret_of (by simp) ⟨_, _, _, evl, ob0, OutOk.eq ?_ ?_⟩
        · rw [idxM_hit (show k < l.length by omega) hall hb]
        · simp [AV.free]
      · intro hb
        try refine wkG trivial ?_
        try (refine Stop.mk ?_; intro K hK)
        refine ⟨k + 1, ⟨by omega, fun i hi => ?_⟩, by omega, ?_⟩
        · rcases Nat.lt_succ_iff_lt_or_eq.1 hi with h | rfl
          · exact hall i h
          · exact hb
        · refine wkn ?_ ?_ ?_
          all_goals first | exact wk0 | refine wkS ?_ | skip
          all_goals (try trivial)
          all_goals ((repeat' apply And.intro) <;> first | exact wkL | skip)
    · intro hge
      simp only [decide_eq_false_iff_not] at hge
      try refine wkG trivial ?_
      try (refine Stop.mk ?_; intro K hK)
      refine ret_of (by simp) ⟨_, _, _, evl, ob0, OutOk.eq ?_ ?_⟩
      · rw [idxM_none (fun i hi => hall i (by omega))]
      · simp [AV.free]
theorem containsFunc_Pa (l : List Party) (hl : l.length ≤ 4611686018427387904) (g : FuncId) (cap : List AV) (hcap : AV.freeL cap) (p : Party → Bool) (hp : ∀ x ∈ l, FnA Tryz.prog g (.agg x.av :: cap) (.raw (.bool (p x)))) :
    FnA Tryz.prog 45 [lA 2 Party.av l, .fn (.func g) [] cap] (.raw (.bool (l.any p))) := by
  have hi := indexFunc_Pa l hl g cap hcap p hp
  have hany := idxM_any p l
  have hfr : (lA 2 Party.av l).free := lA_free (fun y => Party.free y) _
  generalize lA 2 Party.av l = L at hi hfr
  generalize idxM p l = i at hi hany
  refine fnA_of tblOk Tryz.func45 rfl (by kernel_rfl) 9 Tryz.ntmps45 lenT [.tmp 4] rfl ?_
  simp only [entrySt, argSl, Nat.zero_add, Nat.reduceAdd]
  repeat' first
    | refine wkG hi ?_
    | (refine cndS ⟨_, evl, ⟨cb, cb⟩, fun hb => ?_, fun hb => ?_⟩ <;> try (cases hb; done))
    | (refine Stop.mk ?_; intro K hK)
    | fail
  all_goals (try (refine ret_of (by simp) ⟨_, _, _, evl, ob0, OutOk.sims ?_ fre⟩))
  all_goals first | exact Sims.refl _ | exact finT | exact simsF | (refine Sims.tup ?_; simp only [SimsL, and_true]; (repeat' apply And.intro) <;> first | exact simsF | skip) | (exfalso; first | omega | (simp_all; done) | (simp_all; omega)) | skip
  all_goals (rw [hany])
theorem indexFunc_Bo (l : List Bound) (hl : l.length ≤ 4611686018427387904) (g : FuncId) (cap : List AV) (hcap : AV.freeL cap) (p : Bound → Bool) (hp : ∀ x ∈ l, FnA Tryz.prog g (.agg x.av :: cap) (.raw (.bool (p x)))) :
    FnA Tryz.prog 96 [lA 4 Bound.av l, .fn (.func g) [] cap] (.raw (.int .i64 (idxM p l))) := by
  refine fnA_of tblOk Tryz.func96 rfl (by kernel_rfl) 19 Tryz.ntmps96 lenT [.tmp 4] rfl ?_
  simp only [entrySt, argSl, Nat.zero_add, Nat.reduceAdd]
  try refine wkG trivial ?_
  try (refine Stop.mk ?_; intro K hK)
  refine wpA_loop (fun k : Nat => ⟨19, 0, [(0, true, lA 4 Bound.av l), (1, true, .fn (.func g) [] cap), (7, true, .raw (.int .i64 l.length)), (8, true, .raw (.int .i64 k))], [], [], ((0, []), [], true)⟩)
    (fun k => k ≤ l.length ∧ ∀ i, i < k → p (l.getD i default) = false) (fun k => l.length - k) 0 ?_ ⟨by omega, fun i h => by omega⟩ ?_
  · refine wkn ?_ ?_ ?_
    all_goals first | exact wk0 | refine wkS ?_ | skip
    all_goals (try trivial)
    all_goals ((repeat' apply And.intro) <;> first | exact wkL | skip)
  · rintro k ⟨hk, hall⟩
    try refine wkG trivial ?_
    try (refine Stop.mk ?_; intro K hK)
    refine wpA_cond' ⟨_, evl, ?_, ?_⟩
    · intro hlt
      simp only [decide_eq_true_eq] at hlt
      have hmem : l.getD k default ∈ l := by rw [List.getD_eq_getElem?_getD, List.getElem?_eq_getElem (show k < l.length by omega)]; exact List.getElem_mem _
      have hpk := hp _ hmem
      have hfe : AV.freeL (Bound.av (l.getD k default)) := by first | exact Bound.free _ | (simp [AV.free, AV.freeL, iC, u8C, kC]; done)
      try refine wkG hpk ?_
      try (refine Stop.mk ?_; intro K hK)
      refine wpA_cond' ⟨_, evl, ?_, ?_⟩
      · intro hb
        try refine wkG trivial ?_
        try (refine Stop.mk ?_; intro K hK)
        refine ret_of (by simp) ⟨_, _, _, evl, ob0, OutOk.eq ?_ ?_⟩
        · rw [idxM_hit (show k < l.length by omega) hall hb]
        · simp [AV.free]
      · intro hb
        try refine wkG trivial ?_
        try (refine Stop.mk ?_; intro K hK)
        refine ⟨k + 1, ⟨by omega, fun i hi => ?_⟩, by omega, ?_⟩
        · rcases Nat.lt_succ_iff_lt_or_eq.1 hi with h | rfl
          · exact hall i h
          · exact hb
        · refine wkn ?_ ?_ ?_
          all_goals first | exact wk0 | refine wkS ?_ | skip
          all_goals (try trivial)
          all_goals ((repeat' apply And.intro) <;> first | exact wkL | skip)
    · intro hge
      simp only [decide_eq_false_iff_not] at hge
      try refine wkG trivial ?_
      try (refine Stop.mk ?_; intro K hK)
      refine ret_of (by simp) ⟨_, _, _, evl, ob0, OutOk.eq ?_ ?_⟩
      · rw [idxM_none (fun i hi => hall i (by omega))]
      · simp [AV.free]
theorem containsFunc_Bo (l : List Bound) (hl : l.length ≤ 4611686018427387904) (g : FuncId) (cap : List AV) (hcap : AV.freeL cap) (p : Bound → Bool) (hp : ∀ x ∈ l, FnA Tryz.prog g (.agg x.av :: cap) (.raw (.bool (p x)))) :
    FnA Tryz.prog 48 [lA 4 Bound.av l, .fn (.func g) [] cap] (.raw (.bool (l.any p))) := by
  have hi := indexFunc_Bo l hl g cap hcap p hp
  have hany := idxM_any p l
  have hfr : (lA 4 Bound.av l).free := lA_free (fun y => Bound.free y) _
  generalize lA 4 Bound.av l = L at hi hfr
  generalize idxM p l = i at hi hany
  refine fnA_of tblOk Tryz.func48 rfl (by kernel_rfl) 9 Tryz.ntmps48 lenT [.tmp 4] rfl ?_
  simp only [entrySt, argSl, Nat.zero_add, Nat.reduceAdd]
  repeat' first
    | refine wkG hi ?_
    | (refine cndS ⟨_, evl, ⟨cb, cb⟩, fun hb => ?_, fun hb => ?_⟩ <;> try (cases hb; done))
    | (refine Stop.mk ?_; intro K hK)
    | fail
  all_goals (try (refine ret_of (by simp) ⟨_, _, _, evl, ob0, OutOk.sims ?_ fre⟩))
  all_goals first | exact Sims.refl _ | exact finT | exact simsF | (refine Sims.tup ?_; simp only [SimsL, and_true]; (repeat' apply And.intro) <;> first | exact simsF | skip) | (exfalso; first | omega | (simp_all; done) | (simp_all; omega)) | skip
  all_goals (rw [hany])
theorem idxP_A (l : List Party) (hl : l.length ≤ 4611686018427387904) (p : Party) : FnA Tryz.prog 104 [lA 2 Party.av l, .agg p.av] (.raw (.int .i64 (idxM (fun q => decide (p = q)) l))) := by
  have hfr : (lA 2 Party.av l).free := lA_free (fun y => Party.free y) _
  refine fnA_of tblOk Tryz.func104 rfl (by kernel_rfl) 19 Tryz.ntmps104 lenT [.tmp 4] rfl ?_
  simp only [entrySt, argSl, Nat.zero_add, Nat.reduceAdd]
  try refine wkG trivial ?_
  try (refine Stop.mk ?_; intro K hK)
  refine wpA_loop (fun k : Nat => ⟨19, 0, [(0, true, lA 2 Party.av l), (3, true, .box 0 0), (7, true, .raw (.int .i64 l.length)), (8, true, .raw (.int .i64 k))], [p.av], [], ((0, []), [], true)⟩)
    (fun k => k ≤ l.length ∧ ∀ i, i < k → decide (p = l.getD i default) = false) (fun k => l.length - k) 0 ?_ ⟨by omega, fun i h => by omega⟩ ?_
  · refine wkn ?_ ?_ ?_
    all_goals first | exact wk0 | refine wkS ?_ | skip
    all_goals (try trivial)
    all_goals ((repeat' apply And.intro) <;> first | exact wkL | skip)
  · rintro k ⟨hk, hall⟩
    try refine wkG trivial ?_
    try (refine Stop.mk ?_; intro K hK)
    refine wpA_cond' ⟨_, evl, fun hlt => ?_, fun hge => ?_⟩
    · simp only [decide_eq_true_eq] at hlt
      have hpk : decide (p = l.getD k default) = (decide (p.kind = (l.getD k default).kind) && decide (p.id = (l.getD k default).id)) := by
        rw [Bool.eq_iff_iff]
        cases p
        cases l.getD k default
        simp
      try refine wkG trivial ?_
      try (refine Stop.mk ?_; intro K hK)
      refine wpA_cond' ⟨_, evl, fun hb => ?_, fun hb => ?_⟩
      · try refine wkG trivial ?_
        try (refine Stop.mk ?_; intro K hK)
        refine ret_of (by simp) ⟨_, _, _, evl, ob0, OutOk.eq ?_ ?_⟩
        · rw [idxM_hit (show k < l.length by omega) hall (hpk.trans hb)]
        · simp [AV.free]
      · try refine wkG trivial ?_
        try (refine Stop.mk ?_; intro K hK)
        refine ⟨k + 1, ⟨by omega, fun i hi => ?_⟩, by omega, ?_⟩
        · rcases Nat.lt_succ_iff_lt_or_eq.1 hi with h | rfl
          · exact hall i h
          · exact hpk.trans hb
        · refine wkn ?_ ?_ ?_
          all_goals first | exact wk0 | refine wkS ?_ | skip
          all_goals (try trivial)
          all_goals ((repeat' apply And.intro) <;> first | exact wkL | skip)
    · simp only [decide_eq_false_iff_not] at hge
      try refine wkG trivial ?_
      try (refine Stop.mk ?_; intro K hK)
      rw [idxM_none (fun i hi => hall i (by omega))]
      all_goals (try (refine ret_of (by simp) ⟨_, _, _, evl, ob0, OutOk.sims ?_ fre⟩))
      all_goals first | exact Sims.refl _ | exact finT | exact simsF | (refine Sims.tup ?_; simp only [SimsL, and_true]; (repeat' apply And.intro) <;> first | exact simsF | skip) | (exfalso; first | omega | (simp_all; done) | (simp_all; omega)) | skip
theorem hasP_A (l : List Party) (hl : l.length ≤ 4611686018427387904) (p : Party) : FnA Tryz.prog 58 [lA 2 Party.av l, .agg p.av] (.raw (.bool (decide (p ∈ l)))) := by
  have hi := idxP_A l hl p
  have hany : decide (p ∈ l) = decide (0 ≤ idxM (fun q => decide (p = q)) l) := by
    rw [idxM_any, Bool.eq_iff_iff, decide_eq_true_iff, List.any_eq_true]
    simp only [decide_eq_true_eq]
    exact ⟨fun h => ⟨p, h, rfl⟩, fun ⟨q, h, e⟩ => e ▸ h⟩
  have hfr : (lA 2 Party.av l).free := lA_free (fun y => Party.free y) _
  rw [hany]
  generalize lA 2 Party.av l = L at hi hfr
  generalize idxM (fun q => decide (p = q)) l = i at hi
  refine fnA_of tblOk Tryz.func58 rfl (by kernel_rfl) 9 Tryz.ntmps58 lenT [.tmp 4] rfl ?_
  simp only [entrySt, argSl, Nat.zero_add, Nat.reduceAdd]
  repeat' first
    | refine wkG hi ?_
    | (refine cndS ⟨_, evl, ⟨cb, cb⟩, fun hb => ?_, fun hb => ?_⟩ <;> try (cases hb; done))
    | (refine Stop.mk ?_; intro K hK)
    | fail
  all_goals (try (refine ret_of (by simp) ⟨_, _, _, evl, ob0, OutOk.sims ?_ fre⟩))
  all_goals first | exact Sims.refl _ | exact finT | exact simsF | (refine Sims.tup ?_; simp only [SimsL, and_true]; (repeat' apply And.intro) <;> first | exact simsF | skip) | (exfalso; first | omega | (simp_all; done) | (simp_all; omega)) | skip
def freeB (blamed : List Party) (b : Bound) : Bool := !(b.who.any fun p => decide (p ∈ blamed))
theorem among_A (blamed : List Party) (hl : blamed.length ≤ 4611686018427387904) (p : Party) : FnA Tryz.prog 148 [.agg p.av, .elt [lA 2 Party.av blamed] 0] (.raw (.bool (decide (p ∈ blamed)))) := by
  have h := hasP_A blamed hl p
  have hfr : (lA 2 Party.av blamed).free := lA_free (fun y => Party.free y) _
  generalize lA 2 Party.av blamed = L at *
  refine fnA_of tblOk Tryz.func148 rfl (by kernel_rfl) 7 Tryz.ntmps148 lenT [.tmp 3] rfl ?_
  simp only [entrySt, argSl, Nat.zero_add, Nat.reduceAdd]
  repeat' first
    | refine wkG h ?_
    | (refine cndS ⟨_, evl, ⟨cb, cb⟩, fun hb => ?_, fun hb => ?_⟩ <;> try (cases hb; done))
    | (refine Stop.mk ?_; intro K hK)
    | fail
  all_goals (try (refine ret_of (by simp) ⟨_, _, _, evl, ob0, OutOk.sims ?_ fre⟩))
  all_goals first | exact Sims.refl _ | exact finT | exact simsF | (refine Sims.tup ?_; simp only [SimsL, and_true]; (repeat' apply And.intro) <;> first | exact simsF | skip) | (exfalso; first | omega | (simp_all; done) | (simp_all; omega)) | skip
theorem free_A (b : Bound) (blamed : List Party) (hl : blamed.length ≤ 4611686018427387904) (hb : b.who.length ≤ 4611686018427387904) : FnA Tryz.prog 97 [.agg b.av, lA 2 Party.av blamed] (.raw (.bool (freeB blamed b))) := by
  have hfr : (lA 2 Party.av blamed).free := lA_free (fun y => Party.free y) _
  have hfw : (lA 2 Party.av b.who).free := lA_free (fun y => Party.free y) _
  have h := containsFunc_Pa b.who hb 148 [.elt [lA 2 Party.av blamed] 0] ⟨⟨hfr, trivial⟩, trivial⟩ (fun p => decide (p ∈ blamed)) (fun p _ => among_A blamed hl p)
  unfold freeB
  generalize (b.who.any fun p => decide (p ∈ blamed)) = z at *
  refine fnA_of tblOk Tryz.func97 rfl (by kernel_rfl) 12 Tryz.ntmps97 lenT [.tmp 4] rfl ?_
  simp only [entrySt, argSl, Nat.zero_add, Nat.reduceAdd]
  repeat (refine stG ?_)
  refine wpA_region (fun K hK => ?_)
  iterate 3 (refine stG ?_)
  refine runS_freeze 0 obf ⟨_, evl, _, evl, ?_⟩
  try (first | refine wkM hK h ?_ | refine wkG h ?_)
  try clear hK K
  try (refine Stop.mk ?_; intro K hK)
  all_goals (try (refine ret_of (by simp) ⟨_, _, _, evl, ob0, OutOk.sims ?_ fre⟩))
  all_goals first | exact Sims.refl _ | exact finT | exact simsF | (refine Sims.tup ?_; simp only [SimsL, and_true]; (repeat' apply And.intro) <;> first | exact simsF | skip) | (exfalso; first | omega | (simp_all; done) | (simp_all; omega)) | skip
def crowdP (l : List Party) : Prop := l.length ≤ 100 ∧ ∀ p ∈ l, partyP p
instance (l : List Party) : Decidable (crowdP l) := by unfold crowdP; infer_instance
theorem nobody_A (p : Party) : FnA Tryz.prog 42 [.agg p.av] (.raw (.bool (!decide (partyP p)))) := by
  have h := isParty_A p
  generalize decide (partyP p) = z at *
  refine fnA_of tblOk Tryz.func42 rfl (by kernel_rfl) 6 Tryz.ntmps42 lenT [.tmp 2] rfl ?_
  simp only [entrySt, argSl, Nat.zero_add, Nat.reduceAdd]
  repeat' first
    | refine wkG h ?_
    | (refine cndS ⟨_, evl, ⟨cb, cb⟩, fun hb => ?_, fun hb => ?_⟩ <;> try (cases hb; done))
    | (refine Stop.mk ?_; intro K hK)
    | fail
  all_goals (try (refine ret_of (by simp) ⟨_, _, _, evl, ob0, OutOk.sims ?_ fre⟩))
  all_goals first | exact Sims.refl _ | exact finT | exact simsF | (refine Sims.tup ?_; simp only [SimsL, and_true]; (repeat' apply And.intro) <;> first | exact simsF | skip) | (exfalso; first | omega | (simp_all; done) | (simp_all; omega)) | skip
abbrev nobodyF : AV := .raw (.func (.func 42) #[] #[])
theorem crowd_A (l : List Party) : FnA Tryz.prog 44 [lA 2 Party.av l, .elt [nobodyF] 0] (.raw (.bool (decide (crowdP l)))) := by
  have hfr : (lA 2 Party.av l).free := lA_free (fun y => Party.free y) _
  have e : decide (crowdP l) = (decide ((l.length : Int) ≤ 100) && !(l.any fun p => !decide (partyP p))) := by
    rw [Bool.eq_iff_iff, Bool.and_eq_true, decide_eq_true_iff, decide_eq_true_iff, Bool.not_eq_true', List.any_eq_false]
    simp only [crowdP, Bool.not_eq_true', decide_eq_false_iff_not, Classical.not_not]
    exact ⟨fun h => ⟨by omega, h.2⟩, fun h => ⟨by omega, h.2⟩⟩
  rw [e]
  refine fnA_of tblOk Tryz.func44 rfl (by kernel_rfl) 13 Tryz.ntmps44 lenT [.tmp 3] rfl ?_
  simp only [entrySt, argSl, Nat.zero_add, Nat.reduceAdd]
  repeat'
    first
      | first
        | (refine runS_nil (hK _ ?_); clear hK K)
        | refine stG ?_
        | (refine gateS 1 rfl ?_; refine runS_call rfl rfl ⟨_, evl, _, _, _, evl, oblG, ?_⟩; apply Exists.intro; refine ⟨fun hg => ?_, ?_⟩; · first | exact FnA.at_ (containsFunc_Pa l (by have := of_decide_eq_true hg; omega) 42 [] trivial (fun p => !decide (partyP p)) (fun p _ => nobody_A p)) rfl rfl | exact FnA.at_s (containsFunc_Pa l (by have := of_decide_eq_true hg; omega) 42 [] trivial (fun p => !decide (partyP p)) (fun p _ => nobody_A p)) rfl simT | exact FnA.at_s (containsFunc_Pa l (by have := of_decide_eq_true hg; omega) 42 [] trivial (fun p => !decide (partyP p)) (fun p _ => nobody_A p)) rfl simF)
        | (refine gateA 1 rfl ?_; refine runA_call rfl ⟨_, evl, _, _, _, (fun _ _ => evlA), oblG, ?_⟩; apply Exists.intro; refine ⟨fun hg => ?_, ?_⟩; · first | exact FnA.at_ (containsFunc_Pa l (by have := of_decide_eq_true hg; omega) 42 [] trivial (fun p => !decide (partyP p)) (fun p _ => nobody_A p)) rfl rfl | exact FnA.at_s (containsFunc_Pa l (by have := of_decide_eq_true hg; omega) 42 [] trivial (fun p => !decide (partyP p)) (fun p _ => nobody_A p)) rfl simT | exact FnA.at_s (containsFunc_Pa l (by have := of_decide_eq_true hg; omega) 42 [] trivial (fun p => !decide (partyP p)) (fun p _ => nobody_A p)) rfl simF)
        | (refine gateA 1 rfl ?_; refine runA_put ?_)
        | (refine gateBc ?_; first | (refine runB_nil (hK _ ?_); clear hK K) | (refine runB_op rfl ⟨_, evl, fun nb' => ?_⟩))
        | refine wpA_region (fun K hK => ?_)
        | (refine gateD ?_; first | (refine wpA_drawG false rfl (by kernel_rfl) (by kernel_rfl) (fun K hK => ?_)) | (refine wpA_drawG true rfl (by kernel_rfl) (by kernel_rfl) (fun K hK => ?_)))
        | (refine wpA_cond' ⟨_, evl, fun hb => ?_, fun hb => ?_⟩ <;> (try simp only [Bool.or_eq_true, Bool.and_eq_true, Bool.or_eq_false_iff, Bool.and_eq_false_iff, Bool.not_eq_true', Bool.not_eq_false', Bool.not_eq_true, Bool.not_eq_false, decide_eq_true_eq, decide_eq_false_iff_not, Bool.true_eq_false, Bool.false_eq_true, ne_eq, Classical.not_not, Int.not_lt, Int.not_le, Bool.not_true, Bool.not_false] at hb))
      | fail
  all_goals (try (refine ret_of (by simp) ⟨_, _, _, evl, ob0, OutOk.sims ?_ fre⟩))
  all_goals first | exact Sims.refl _ | exact finT | exact simsF | (refine Sims.tup ?_; simp only [SimsL, and_true]; (repeat' apply And.intro) <;> first | exact simsF | skip) | (exfalso; first | omega | (simp_all; done) | (simp_all; omega)) | skip
abbrev crowdF : AV := .fn (.func 44) [] [.elt [nobodyF] 0]
def boundP (n : Int) (b : Bound) : Prop := (0 ≤ b.from_ ∧ b.from_ ≤ n - 1) ∧ (0 ≤ b.to_ ∧ b.to_ ≤ n - 1) ∧ (-3000000000000000 ≤ b.most ∧ b.most ≤ 3000000000000000) ∧ crowdP b.who
instance (n : Int) (b : Bound) : Decidable (boundP n b) := by unfold boundP; infer_instance
theorem badB_A (n : Int) (hn : 1 ≤ n ∧ n ≤ 1000) (b : Bound) : FnA Tryz.prog 46 [.agg b.av, .elt [.raw (.int .i64 n)] 0, .elt [crowdF] 0] (.raw (.bool (!decide (boundP n b)))) := by
  have hc := crowd_A b.who
  have hfr : (lA 2 Party.av b.who).free := lA_free (fun y => Party.free y) _
  have w1 := within44_A b.from_ 0 (n - 1)
  have w2 := within44_A b.to_ 0 (n - 1)
  have w3 := within44_A b.most (-3000000000000000) 3000000000000000
  have e : (!decide (boundP n b)) = (!(decide (0 ≤ b.from_) && decide (b.from_ ≤ n - 1)) || !(decide (0 ≤ b.to_) && decide (b.to_ ≤ n - 1)) || !(decide (-3000000000000000 ≤ b.most) && decide (b.most ≤ 3000000000000000)) || !decide (crowdP b.who)) := by
    rw [Bool.eq_iff_iff]
    simp [boundP]
    grind
  rw [e]
  clear e
  generalize decide (crowdP b.who) = z at *
  generalize (decide (0 ≤ b.from_) && decide (b.from_ ≤ n - 1)) = z1 at *
  generalize (decide (0 ≤ b.to_) && decide (b.to_ ≤ n - 1)) = z2 at *
  generalize (decide (-3000000000000000 ≤ b.most) && decide (b.most ≤ 3000000000000000)) = z3 at *
  refine fnA_of tblOk Tryz.func46 rfl (by kernel_rfl) 32 Tryz.ntmps46 lenT [.tmp 4] rfl ?_
  simp only [entrySt, argSl, Nat.zero_add, Nat.reduceAdd]
  repeat' first
    | refine wkG (And.intro w1 (And.intro w2 (And.intro w3 hc))) ?_
    | (refine cndS ⟨_, evl, ⟨cb, cb⟩, fun hb => ?_, fun hb => ?_⟩ <;> try (cases hb; done))
    | (refine Stop.mk ?_; intro K hK)
    | fail
  all_goals (try (refine ret_of (by simp) ⟨_, _, _, evl, ob0, OutOk.sims ?_ fre⟩))
  all_goals first | exact Sims.refl _ | exact finT | exact simsF | (refine Sims.tup ?_; simp only [SimsL, and_true]; (repeat' apply And.intro) <;> first | exact simsF | skip) | (exfalso; first | omega | (simp_all; done) | (simp_all; omega)) | skip
def toE (b : Bound) : Bf.E := ⟨b.from_.toNat, b.to_.toNat, b.most⟩
def usedB (l : List Bound) (blamed : List Party) : List Bound := l.filter (freeB blamed)
def possM (l : List Bound) (n : Nat) (blamed : List Party) : Bool := Bf.possL ((n : Int) * 3000000000000000) ((usedB l blamed).map toE) (n + 1) (List.replicate n 0)
theorem drop_getD {α : Type} [Inhabited α] {l : List α} {k : Nat} (h : k < l.length) : l.drop k = l.getD k default :: l.drop (k + 1) := by
  rw [List.drop_eq_getElem_cons h, getD_get h]
theorem used_step (l : List Bound) (blamed : List Party) {k : Nat} (h : k < l.length) : usedB (l.take (k + 1)) blamed = usedB (l.take k) blamed ++ (if freeB blamed (l.getD k default) then [l.getD k default] else []) := by
  unfold usedB
  rw [List.take_succ_eq_append_getElem h, List.filter_append, getD_get h]
  congr 1
  by_cases hf : freeB blamed l[k] = true <;> simp [hf]
structure InT (n : Nat) (t : List Int) : Prop where
  len : t.length = n
  lim : ∀ i, -((n : Int) * 3000000000000000) ≤ t.getD i 0 ∧ t.getD i 0 ≤ 0
theorem InT.zero (n : Nat) : InT n (List.replicate n 0) := ⟨by simp, fun i => by
  have : (List.replicate n (0 : Int)).getD i 0 = 0 := by
    rw [List.getD_eq_getElem?_getD, List.getElem?_replicate]
    split <;> rfl
  rw [this]; omega⟩
theorem InT.relax {n : Nat} {t : List Int} (h : InT n t) {e : Bf.E} (hb : e.b < n) (hl : ¬ (Bf.relaxL t e).getD e.b 0 < -((n : Int) * 3000000000000000)) : InT n (Bf.relaxL t e) := by
  refine ⟨by rw [Bf.relaxL_len, h.len], fun i => ?_⟩
  have h1 := h.lim i
  have h2 := h.lim e.b
  have h3 : (Bf.relaxL t e).getD i 0 = if i = e.b then min (t.getD e.b 0) (t.getD e.a 0 + e.m) else t.getD i 0 := Bf.getD_set (by rw [h.len]; exact hb)
  have h4 : (Bf.relaxL t e).getD e.b 0 = min (t.getD e.b 0) (t.getD e.a 0 + e.m) := by
    have := Bf.getD_set (t := t) (i := e.b) (j := e.b) (v := min (t.getD e.b 0) (t.getD e.a 0 + e.m)) (by rw [h.len]; exact hb)
    rwa [if_pos rfl] at this
  rw [h3]
  rw [h4] at hl
  split <;> omega
theorem possible_A (l : List Bound) (hl : l.length ≤ 1000000) (n : Nat) (hn : 1 ≤ n ∧ n ≤ 1000) (hb : ∀ b ∈ l, boundP n b) (blamed : List Party) (hbl : blamed.length ≤ 4611686018427387904) :
    FnA Tryz.prog 49 [lA 4 Bound.av l, .raw (.int .i64 n), lA 2 Party.av blamed] (.raw (.bool (possM l n blamed))) := by
  have hfl : (lA 4 Bound.av l).free := lA_free (fun y => Bound.free y) _
  have hfb : (lA 2 Party.av blamed).free := lA_free (fun y => Party.free y) _
  refine fnA_of tblOk Tryz.func49 rfl (by kernel_rfl) 91 Tryz.ntmps49 lenT [.tmp 6] rfl ?_
  simp only [entrySt, argSl, Nat.zero_add, Nat.reduceAdd]
  try refine wkG trivial ?_
  try (refine Stop.mk ?_; intro K hK)
  refine wpS_scopeR ?_
  try refine wkG trivial ?_
  try (refine Stop.mk ?_; intro K hK)
  refine wpA_weak (Weak.nilRow 7 36 4 rfl) ?_
  refine wpA_loop (fun k : Nat => ⟨91, 0, [(0, true, lA 4 Bound.av l), (1, true, .raw (.int .i64 n)), (2, true, lA 2 Party.av blamed), (6, true, .raw (.bool false)), (7, true, .row 0 (usedB (l.take k) blamed).length), (15, true, lA 4 Bound.av l), (16, true, .raw (.int .i64 l.length)), (17, true, .raw (.int .i64 k))], [], [rowB (usedB (l.take k) blamed)], ((0, []), [], true)⟩)
    (fun k => k ≤ l.length) (fun k => l.length - k) 0 ?_ (by omega) ?_
  · refine wkn ?_ ?_ ?_
    all_goals first | exact wk0 | refine wkS ?_ | skip
    all_goals (try trivial)
    all_goals ((repeat' apply And.intro) <;> first | exact wkL | skip)
  · intro k hk
    rcases Nat.lt_or_ge k l.length with hlt | hge
    · have hus := used_step l blamed hlt
      have hw := hb _ (memD hlt)
      have hfa := free_A (l.getD k default) blamed hbl (by have := hw.2.2.2.1; omega)
      have hul : (usedB (l.take k) blamed).length ≤ 1000000 := Nat.le_trans (List.length_filter_le _ _) (by rw [List.length_take]; omega)
      generalize usedB (l.take k) blamed = U at *
      try refine wkR trivial ?_
      try (refine Stop.mk ?_; intro K hK)
      refine wpA_cond' ⟨_, evl, fun _ => ?_, fun hb => absurd (of_decide_eq_false hb) (by omega)⟩
      try refine wkR hfa ?_
      try (refine Stop.mk ?_; intro K hK)
      refine wpA_cond' ⟨_, evl, fun hfr => ?_, fun hfr => ?_⟩
      · rw [hfr, if_pos rfl] at hus
        try refine wkG trivial ?_
        try (refine Stop.mk ?_; intro K hK)
        refine ⟨k + 1, by omega, by omega, ?_⟩
        rw [hus]
        refine wkn ?_ ?_ ?_
        all_goals first | exact wk0 | refine wkS ?_ | skip
        all_goals (try trivial)
        all_goals ((repeat' apply And.intro) <;> first | exact wkL | skip)
        exact fun q hq => SimsL.of_eq (els_snoc rfl (by simpa using hq) rfl)
      · rw [hfr, if_neg (by decide), List.append_nil] at hus
        try refine wkR trivial ?_
        try (refine Stop.mk ?_; intro K hK)
        refine ⟨k + 1, by omega, by omega, ?_⟩
        rw [hus]
        refine wkn ?_ ?_ ?_
        all_goals first | exact wk0 | refine wkS ?_ | skip
        all_goals (try trivial)
        all_goals ((repeat' apply And.intro) <;> first | exact wkL | skip)
    · obtain rfl : k = l.length := by omega
      rw [List.take_length]
      unfold possM
      have hub : ∀ b ∈ usedB l blamed, boundP n b := fun b h => hb b (List.mem_filter.1 h).1
      have hul : (usedB l blamed).length ≤ 1000000 := Nat.le_trans (List.length_filter_le _ _) hl
      generalize usedB l blamed = U at *
      clear hb hl hfl hbl hfb hk hge
      try refine wkR trivial ?_
      try (refine Stop.mk ?_; intro K hK)
      refine wpA_cond' ⟨_, evl, fun hb => absurd (of_decide_eq_true hb) (by omega), fun _ => ?_⟩
      try (first | refine wkN hK trivial ?_ | refine wkR trivial ?_)
      try clear hK K
      try (refine Stop.mk ?_; intro K hK)
      refine runS_mkInts n (by omega) rfl rfl rfl rfl ⟨evl, _, evl, _, evl, ?_⟩
      try (first | refine wkN hK trivial ?_ | refine wkR trivial ?_)
      try clear hK K
      try (refine Stop.mk ?_; intro K hK)
      generalize hC : (n : Int) * 3000000000000000 = C
      generalize hX : Bf.possL C (U.map toE) (n + 1) (List.replicate n 0) = X
      refine wpA_loop (fun p : Nat × List Int => ⟨91, 0, [(1, true, .raw (.int .i64 n)), (6, true, .raw (.bool false)), (7, true, .row 0 U.length), (10, true, .bsl 1 0 0 n n), (32, true, .raw (.int .i64 ((n : Int) + 1))), (33, true, .raw (.int .i64 p.1))], [ints p.2], [rowB U], ((0, []), [], true)⟩)
        (fun p => p.1 ≤ n + 1 ∧ InT n p.2 ∧ X = Bf.possL C (U.map toE) (n + 1 - p.1) p.2) (fun p => n + 1 - p.1) (0, List.replicate n 0) ?_ ⟨by omega, InT.zero n, hX.symm⟩ ?_
      · refine wkn ?_ ?_ ?_
        all_goals first | exact wk0 | refine wkS ?_ | skip
        all_goals (try trivial)
        all_goals ((repeat' apply And.intro) <;> first | exact wkL | skip)
      rintro ⟨k, t⟩ ⟨hk, ht, he⟩
      simp only at hk ht he ⊢
      clear hX
      rcases Nat.lt_or_ge k (n + 1) with hlt | hge
      · try refine wkR trivial ?_
        try (refine Stop.mk ?_; intro K hK)
        refine wpA_cond' ⟨_, evl, fun _ => ?_, fun hb => absurd (of_decide_eq_false hb) (by omega)⟩
        try refine wkR trivial ?_
        try (refine Stop.mk ?_; intro K hK)
        refine wpA_loop (fun j : Nat => ⟨91, 0, [(1, true, .raw (.int .i64 n)), (6, true, .raw (.bool false)), (7, true, .row 0 U.length), (10, true, .bsl 1 0 0 n n), (32, true, .raw (.int .i64 ((n : Int) + 1))), (33, true, .raw (.int .i64 k)), (35, true, .row 0 U.length), (36, true, .raw (.int .i64 U.length)), (37, true, .raw (.int .i64 j))], [ints t], [rowB U], ((0, []), [], true)⟩)
          (fun j => j ≤ U.length ∧ ∀ i, i < j → t.getD (U.getD i default).to_.toNat 0 ≤ t.getD (U.getD i default).from_.toNat 0 + (U.getD i default).most) (fun j => U.length - j) 0 ?_ ⟨by omega, fun i h => by omega⟩ ?_
        · refine wkn ?_ ?_ ?_
          all_goals first | exact wk0 | refine wkS ?_ | skip
          all_goals (try trivial)
          all_goals ((repeat' apply And.intro) <;> first | exact wkL | skip)
        rintro j ⟨hj, hall⟩
        rcases Nat.lt_or_ge j U.length with hlj | hgj
        · have hbj := hub _ (memD hlj)
          obtain ⟨hb1, hb2, hb3, -⟩ := hbj
          have hl := ht.lim
          have hl1 := ht.lim ((U.getD j default).to_.toNat * 1)
          have hl2 := ht.lim ((U.getD j default).from_.toNat * 1)
          have hlen : (ints t).length = n := by rw [ints_len, ht.len]
          haveI : InB t ((U.getD j default).to_.toNat * 1) := ⟨by rw [ht.len]; omega⟩
          haveI : InB t ((U.getD j default).from_.toNat * 1) := ⟨by rw [ht.len]; omega⟩
          try refine wkR trivial ?_
          try (refine Stop.mk ?_; intro K hK)
          refine wpA_cond' ⟨_, evl, fun _ => ?_, fun hb => absurd (of_decide_eq_false hb) (by omega)⟩
          repeat (refine stG ?_)
          refine wpA_region (fun K hK => ?_)
          iterate 4 (refine stG ?_)
          refine runS_freeze 1 obf ⟨_, evl, _, evl, ?_⟩
          refine runS_nil (hK _ ?_); clear hK K
          try refine wkB trivial ?_
          try (refine Stop.mk ?_; intro K hK)
          rw [Nat.mul_one, Nat.mul_one]
          refine wpA_cond' ⟨_, evl, fun hv => ?_, fun hv => ?_⟩
          · have hv1 : Bf.viol (U.map toE) t = true := by
              rw [Bf.viol, List.any_eq_true]
              exact ⟨toE (U.getD j default), List.mem_map.2 ⟨_, memD hlj, rfl⟩, hv⟩
            obtain ⟨f, hf⟩ : ∃ f, n + 1 - k = f + 1 := ⟨n - k, by omega⟩
            rw [hf, Bf.possL, if_pos hv1] at he
            clear hv hv1 hall hl hl1 hl2 hb1 hb2 hb3 hlen
            generalize hS : Bf.sweepL C (U.map toE) t = S at *
            try refine wkB trivial ?_
            try (refine Stop.mk ?_; intro K hK)
            refine wpA_loop (fun p : Nat × List Int => ⟨91, 0, [(1, true, .raw (.int .i64 n)), (6, true, .raw (.bool false)), (7, true, .row 0 U.length), (10, true, .bsl 1 0 0 n n), (32, true, .raw (.int .i64 ((n : Int) + 1))), (33, true, .raw (.int .i64 k)), (55, true, .row 0 U.length), (56, true, .raw (.int .i64 U.length)), (57, true, .raw (.int .i64 p.1))], [ints p.2], [rowB U], ((0, []), [], true)⟩)
              (fun p => p.1 ≤ U.length ∧ InT n p.2 ∧ S = Bf.sweepL C ((U.drop p.1).map toE) p.2) (fun p => U.length - p.1) (0, t) ?_ ⟨by omega, ht, by rw [List.drop_zero]; exact hS.symm⟩ ?_
            · refine wkn ?_ ?_ ?_
              all_goals first | exact wk0 | refine wkS ?_ | skip
              all_goals (try trivial)
              all_goals ((repeat' apply And.intro) <;> first | exact wkL | skip)
            rintro ⟨i, t'⟩ ⟨hi, ht', he'⟩
            simp only at hi ht' he' ⊢
            rcases Nat.lt_or_ge i U.length with hli | hgi
            · have hbj := hub _ (memD hli)
              obtain ⟨hb1, hb2, hb3, -⟩ := hbj
              have hl1 := ht'.lim ((U.getD i default).to_.toNat * 1)
              have hl2 := ht'.lim ((U.getD i default).from_.toNat * 1)
              have hlen : (ints t').length = n := by rw [ints_len, ht'.len]
              haveI : InB t' ((U.getD i default).to_.toNat * 1) := ⟨by rw [ht'.len]; omega⟩
              haveI : InB t' ((U.getD i default).from_.toNat * 1) := ⟨by rw [ht'.len]; omega⟩
              try refine wkR trivial ?_
              try (refine Stop.mk ?_; intro K hK)
              refine wpA_cond' ⟨_, evl, fun _ => ?_, fun hb => absurd (of_decide_eq_false hb) (by omega)⟩
              repeat (refine stG ?_)
              refine wpA_region (fun K hK => ?_)
              iterate 4 (refine stG ?_)
              refine runS_freeze 1 obf ⟨_, evl, _, evl, ?_⟩
              refine runS_nil (hK _ ?_); clear hK K
              repeat (refine stB ?_)
              refine wpA_drawA true (by kernel_rfl) (by kernel_rfl) (fun K hK => ?_)
              repeat (refine stB ?_)
              refine runB_op rfl ⟨_, evl, fun nb' => ?_⟩
              have hin : (U.getD i default).to_.toNat * 1 + 1 ≤ (ints t').length := by omega
              refine sStore tblOk rfl rfl rfl ⟨_, _, evl, _, evl, _, evl, _, evl, ⟨(by simp [cellsA, AV.oneL, AV.one, Value.oneCell']), rfl, hin⟩, _, evl, ?_⟩
              repeat (refine stB ?_)
              refine runB_nil (hK _ ?_); clear hK K
              have hr : t'.set ((U.getD i default).to_.toNat * 1) (min (t'.getD ((U.getD i default).to_.toNat * 1) 0) (t'.getD ((U.getD i default).from_.toNat * 1) 0 + (U.getD i default).most)) = Bf.relaxL t' (toE (U.getD i default)) := by simp only [Nat.mul_one]; rfl
              rw [hr]
              have hrl : (Bf.relaxL t' (toE (U.getD i default))).length = n := by rw [Bf.relaxL_len, ht'.len]
              have hrx := ht'.relax (e := toE (U.getD i default)) (show (U.getD i default).to_.toNat < n by omega)
              have hsw : Bf.sweepL C ((U.drop i).map toE) t' = if (Bf.relaxL t' (toE (U.getD i default))).getD ((U.getD i default).to_.toNat * 1) 0 < -C then none else Bf.sweepL C ((U.drop (i + 1)).map toE) (Bf.relaxL t' (toE (U.getD i default))) := by
                rw [drop_getD hli, List.map_cons, Bf.sweepL, Nat.mul_one]
                rfl
              rw [hsw] at he'
              rw [show (toE (U.getD i default)).b = (U.getD i default).to_.toNat * 1 from (Nat.mul_one _).symm] at hrx
              clear hr hsw
              generalize Bf.relaxL t' (toE (U.getD i default)) = T at *
              haveI : InB T ((U.getD i default).to_.toNat * 1) := ⟨by rw [hrl]; omega⟩
              have hlen2 : (ints T).length = n := by rw [ints_len, hrl]
              have f1 : IntKind.i64.wrap (-(n : Int)) = -(n : Int) := inK_wrap (k := .i64) (by simp only [inK]; omega)
              try refine wkB trivial ?_
              try (refine Stop.mk ?_; intro K hK)
              refine wpA_cond' ⟨_, evl, fun hbad => ?_, fun hgo => ?_⟩
              · have : T.getD ((U.getD i default).to_.toNat * 1) 0 < -C := by
                  have := of_decide_eq_true hbad
                  omega
                rw [if_pos this] at he'
                rw [he'] at he
                try refine wkB trivial ?_
                try (refine Stop.mk ?_; intro K hK)
                refine ret_of (by simp) ⟨_, _, _, evl, ob0, OutOk.eq ?_ ?_⟩
                · rw [he]
                · simp [AV.free]
              · have hgo2 : ¬ T.getD ((U.getD i default).to_.toNat * 1) 0 < -C := by
                  have := of_decide_eq_false hgo
                  omega
                rw [if_neg hgo2] at he'
                try refine wkB trivial ?_
                try (refine Stop.mk ?_; intro K hK)
                refine ⟨(i + 1, T), ⟨by simp only; omega, hrx (by rw [hC]; exact hgo2), he'⟩, by simp only; omega, ?_⟩
                refine wkn ?_ ?_ ?_
                all_goals first | exact wk0 | refine wkS ?_ | skip
                all_goals (try trivial)
                all_goals ((repeat' apply And.intro) <;> first | exact wkL | skip)
            · obtain rfl : i = U.length := by omega
              rw [List.drop_length] at he'
              have he2 : S = some t' := he'
              rw [he2] at he
              try refine wkB trivial ?_
              try (refine Stop.mk ?_; intro K hK)
              refine wpA_cond' ⟨_, evl, fun hb => absurd (of_decide_eq_true hb) (by omega), fun _ => ?_⟩
              try refine wkB trivial ?_
              try (refine Stop.mk ?_; intro K hK)
              refine ⟨(k + 1, t'), ⟨by simp only; omega, ht', by rw [show n + 1 - (k + 1) = f by omega]; exact he⟩, by simp only; omega, ?_⟩
              refine wkn ?_ ?_ ?_
              all_goals first | exact wk0 | refine wkS ?_ | skip
              all_goals (try trivial)
              all_goals ((repeat' apply And.intro) <;> first | exact wkL | skip)
          · try refine wkB trivial ?_
            try (refine Stop.mk ?_; intro K hK)
            refine ⟨j + 1, ⟨by omega, fun i hi => ?_⟩, by omega, ?_⟩
            · rcases Nat.lt_succ_iff_lt_or_eq.1 hi with h | rfl
              · exact hall i h
              · have := of_decide_eq_false hv
                omega
            · refine wkn ?_ ?_ ?_
              all_goals first | exact wk0 | refine wkS ?_ | skip
              all_goals (try trivial)
              all_goals ((repeat' apply And.intro) <;> first | exact wkL | skip)
        · obtain rfl : j = U.length := by omega
          have hv1 : Bf.viol (U.map toE) t = false := by
            rw [Bf.viol, List.any_eq_false]
            intro e he2
            obtain ⟨b, hb, rfl⟩ := List.mem_map.1 he2
            obtain ⟨i, hi, rfl⟩ := List.mem_iff_getElem.1 hb
            have := hall i hi
            rw [getD_get hi] at this
            refine fun h => absurd (of_decide_eq_true h) ?_
            show ¬ (t.getD U[i].from_.toNat 0 + U[i].most < t.getD U[i].to_.toNat 0)
            omega
          obtain ⟨f, hf⟩ : ∃ f, n + 1 - k = f + 1 := ⟨n - k, by omega⟩
          rw [hf, Bf.possL, if_neg (by rw [hv1]; decide)] at he
          try refine wkB trivial ?_
          try (refine Stop.mk ?_; intro K hK)
          refine wpA_cond' ⟨_, evl, fun hb => absurd (of_decide_eq_true hb) (by omega), fun _ => ?_⟩
          try refine wkB trivial ?_
          try (refine Stop.mk ?_; intro K hK)
          refine ret_of (by simp) ⟨_, _, _, evl, ob0, OutOk.eq ?_ ?_⟩
          · rw [he]
          · simp [AV.free]
      · obtain rfl : k = n + 1 := by omega
        rw [Nat.sub_self] at he
        try refine wkB trivial ?_
        try (refine Stop.mk ?_; intro K hK)
        refine wpA_cond' ⟨_, evl, fun hb => absurd (of_decide_eq_true hb) (by omega), fun _ => ?_⟩
        try refine wkB trivial ?_
        try (refine Stop.mk ?_; intro K hK)
        refine ret_of (by simp) ⟨_, _, _, evl, ob0, OutOk.eq ?_ ?_⟩
        · rw [he]; rfl
        · simp [AV.free]
end Go.Proofs.YtchpbdecipcelaaGreatDoor
