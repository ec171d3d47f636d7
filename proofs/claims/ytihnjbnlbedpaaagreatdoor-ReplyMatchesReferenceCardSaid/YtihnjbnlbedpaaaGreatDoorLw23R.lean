/- The statement ReplyMatchesReference, walked. -/
import Derived.Test.YtihnjbnlbedpaaaGreatDoorRgu
import Derived.Test.YtihnjbnlbedpaaaGreatDoorOp23L
namespace Go.Proofs.YtihnjbnlbedpaaaGreatDoor
set_option linter.unusedVariables false
set_option linter.unusedSimpArgs false
set_option maxHeartbeats 4000000
set_option maxRecDepth 100000
open Go.RowKit
theorem few23_A (l : List KeyWin) (wires : List Wire) (r : List Reply) : FnA Tryz.prog 14 [lA 7 KeyWin.av l, lA 3 Wire.av wires, lA 10 Reply.av r] (.raw (.bool (decide ((∀ i, i < wires.length → i < 40 → (wires.getD i default).changes.length ≤ 30) ∧ l.length ≤ 20 ∧ wires.length ≤ 30 ∧ r.length ≤ 20)))) := by
  refine fnA_of tblOk Tryz.func14 rfl (by kernel_rfl) 38 Tryz.ntmps14 (by simp only [List.length_cons, List.length_nil]; omega) [.tmp 6] rfl ?_
  simp only [entrySt, argSl, Nat.zero_add, Nat.reduceAdd]
  try refine wkG trivial ?_
  try (refine Stop.mk ?_; intro K hK)
  refine wpA_loop (fun k : Nat => ⟨38, 0, [(0, true, lA 7 KeyWin.av l), (1, true, lA 3 Wire.av wires), (2, true, lA 10 Reply.av r), (7, true, .raw (.int .i64 k))], [], [], ((0, []), [], true)⟩)
    (fun k => (k ≤ wires.length ∧ k ≤ 40) ∧ ∀ i, i < k → (wires.getD i default).changes.length ≤ 30) (fun k => 40 - k) 0 ?_ ⟨by omega, fun i h => by omega⟩ ?_
  · refine wkn ?_ ?_ ?_
    all_goals first | exact wk0 | refine wkS ?_ | skip
    all_goals (try trivial)
    all_goals ((repeat' apply And.intro) <;> first | exact wkL | skip)
  · rintro k ⟨hk, hall⟩
    repeat' first
      | refine wkG trivial ?_
      | (refine cndS ⟨_, evl, ⟨cb, cb⟩, fun hb => ?_, fun hb => ?_⟩ <;> try (cases hb; done))
      | (refine Stop.mk ?_; intro K hK)
      | fail
    · refine ret_of (by simp) ⟨_, _, _, evl, ob0, OutOk.eq ?_ (by simp [AV.free])⟩
      simp only [AV.raw.injEq, Value.bool.injEq]
      rw [eq_comm, decide_eq_false_iff_not]
      intro h
      have := h.1 k (by omega) (by omega)
      omega
    · refine ⟨k + 1, ⟨by omega, fun i hi => ?_⟩, by omega, ?_⟩
      · rcases Nat.lt_succ_iff_lt_or_eq.1 hi with h | rfl
        · exact hall i h
        · omega
      · refine wkn ?_ ?_ ?_
        all_goals first | exact wk0 | refine wkS ?_ | skip
        all_goals (try trivial)
        all_goals ((repeat' apply And.intro) <;> first | exact wkL | skip)
    · refine ret_of (by simp) ⟨_, _, _, evl, ob0, OutOk.eq ?_ ?_⟩
      · congr 2
        rw [Bool.eq_iff_iff, decide_eq_true_iff]
        simp only [Bool.and_eq_true, decide_eq_true_eq]
        constructor
        · rintro ⟨⟨h1, h2⟩, h3⟩
          exact ⟨fun i hi hi2 => hall i (by omega), by omega, by omega, by omega⟩
        · rintro ⟨_, h1, h2, h3⟩
          exact ⟨⟨by omega, by omega⟩, by omega⟩
      · simp [AV.free]
theorem foldS_len {f : Reply → Iv × Int} : ∀ (l : List Reply), (foldS f l).1.length ≤ l.length
  | [] => Nat.le_refl _
  | x :: xs => by
    have := foldS_len (f := f) xs
    unfold foldS
    split
    · split
      · simp only [List.length_cons]; omega
      · simp
    · simp
theorem sentS_len {l : List KeyWin} {wires : List Wire} {host : Int} {rs : List Reply} {i : Iv} : (sentS l wires host rs i).1.length ≤ rs.length := by
  unfold sentS
  split
  · exact foldS_len _
  · simp
theorem replyMatches_A (l : List KeyWin) (hf : ∀ k ∈ l, k.fits) (wires : List Wire) (rs : List Reply) (hrf : ∀ r ∈ rs, r.fits) (x : Reply) (hx : x.fits) (a : Auth) (key once host at_ : Int) (i : Iv) :
    FnA Tryz.prog 3 [lA 7 KeyWin.av l, lA 3 Wire.av wires, lA 10 Reply.av rs, .agg x.av, .agg a.av, .raw (.int .i64 key), .raw (.int .i64 once), .raw (.int .i64 host), .raw (.int .i64 at_), .agg i.av] (.raw (.bool true)) := by
  have hh := head23_A
  have hfew := few23_A l wires rs
  have g1 : (lA 7 KeyWin.av l).free := lA_free (fun y => KeyWin.free y) _
  have g2 : (lA 3 Wire.av wires).free := lA_free (fun y => Wire.free y) _
  have g3 : (lA 10 Reply.av rs).free := lA_free (fun y => Reply.free y) _
  by_cases hc : ((∀ i, i < wires.length → i < 40 → (wires.getD i default).changes.length ≤ 30) ∧ l.length ≤ 20 ∧ wires.length ≤ 30 ∧ rs.length ≤ 20)
  · rw [decide_eq_true hc] at hfew
    obtain ⟨c1, c2, c3, c4⟩ := hc
    have hch : ∀ w ∈ wires, w.changes.length ≤ 1000 := fun w hw => by
      obtain ⟨j, hj, rfl⟩ := List.mem_iff_getElem.1 hw
      have := c1 j hj (by omega)
      rw [getD_get hj] at this
      omega
    have a1 := rmessage_A x hx.2.2.2.1
    have a2 := rmessageR_A x hx.2.2.2.1
    have a3 := sameN_A (msgR x) (msgR x) (by simp [msgR])
    rw [decide_eq_true rfl] at a3
    have b1 := rsign_A key once x hx
    have b2 := rsignR_A key once x hx
    have d1 := rRight_A l (by omega) hf x hx
    have d2 := rRightR_A l (by omega) hf x hx
    have e1 := honest_A a x hx at_
    have e2 := honestR_A a x hx at_
    have x1 := sentR_A l (by omega) hf wires (by omega) hch host rs (by omega) hrf i
    have x2 := sentRef_A l (by omega) hf wires (by omega) hch host rs (by omega) hrf i
    have hsl : (sentS l wires host rs i).1.length ≤ 4611686018427387904 := by
      have := sentS_len (l := l) (wires := wires) (host := host) (rs := rs) (i := i)
      omega
    have x3 := sameV_A (sentS l wires host rs i).1 (sentS l wires host rs i).1 hsl
    rw [decide_eq_true rfl] at x3
    have hM : (liA (msgR x)).free := lA_free (fun _ => by simp [AV.free, AV.freeL, iC]) _
    have hS := lA_free (sz := 2) (fun y => Iv.free y) (sentS l wires host rs i).1
    obtain ⟨hq, hqe⟩ : ∃ q : Bool × Int, (AV.tup (if authP a ∧ (0 ≤ at_ ∧ at_ ≤ 3000000000000000) ∧ replyP x then [.raw (.bool (decide (honestP a x at_))), .raw (.int .i64 0)] else [.raw (.bool false), .raw (.int .i64 1)])) = .tup [.raw (.bool q.1), .raw (.int .i64 q.2)] := by
      split
      · exact ⟨(_, 0), rfl⟩
      · exact ⟨(false, 1), rfl⟩
    rw [hqe] at e1 e2
    clear hqe hch hf hrf c1 hx
    generalize rsignM key once x = s at *
    generalize liA (msgR x) = M at *
    generalize lA 2 Iv.av (sentS l wires host rs i).1 = V at *
    generalize (sentS l wires host rs i).2 = v at *
    generalize (decide (ValidP l) && decide (replyP x) && rightM l x) = r1 at *
    generalize (if ValidP l ∧ replyP x then (0 : Int) else 1) = r2 at *
    refine fnA_of tblOk Tryz.func3 rfl (by kernel_rfl) 149 Tryz.ntmps3 (by simp only [List.length_cons, List.length_nil]; omega) [.tmp 20] rfl ?_
    simp only [entrySt, argSl, Nat.zero_add, Nat.reduceAdd]
    try refine wkG (And.intro hh hfew) ?_
    try (refine Stop.mk ?_; intro K hK)
    refine wpA_cond' ⟨_, evl, fun hb => (by simp at hb), fun _ => ?_⟩
    try refine wkG (And.intro a1 (And.intro a2 (And.intro a3 (And.intro b1 (And.intro b2 (And.intro d1 (And.intro d2 (And.intro e1 (And.intro e2 (And.intro x1 (And.intro x2 x3))))))))))) ?_
    try (refine Stop.mk ?_; intro K hK)
    refine ret_of (by simp) ⟨_, _, _, evl, ob0, OutOk.eq ?_ ?_⟩
    · simp
    · simp [AV.free]
  · rw [decide_eq_false hc] at hfew
    clear hc
    refine fnA_of tblOk Tryz.func3 rfl (by kernel_rfl) 149 Tryz.ntmps3 (by simp only [List.length_cons, List.length_nil]; omega) [.tmp 20] rfl ?_
    simp only [entrySt, argSl, Nat.zero_add, Nat.reduceAdd]
    try refine wkG (And.intro hh hfew) ?_
    try (refine Stop.mk ?_; intro K hK)
    refine wpA_cond' ⟨_, evl, fun _ => ?_, fun hb => (by simp at hb)⟩
    try refine wkG trivial ?_
    try (refine Stop.mk ?_; intro K hK)
    refine ret_of (by simp) ⟨_, _, _, evl, ob0, OutOk.eq ?_ ?_⟩
    · rfl
    · simp [AV.free]
theorem replyMatches_B {x0 x1 x2 x3 x4 x5 x6 x7 x8 x9 : List AV} (k0 : CellsOk tbl 30 22 x0) (k1 : CellsOk tbl 30 23 x1) (k2 : CellsOk tbl 30 24 x2) (k3 : CellsOk tbl 30 31 x3) (k4 : CellsOk tbl 30 33 x4) (k5 : CellsOk tbl 30 3 x5) (k6 : CellsOk tbl 30 3 x6) (k7 : CellsOk tbl 30 3 x7) (k8 : CellsOk tbl 30 3 x8) (k9 : CellsOk tbl 30 27 x9) :
    FnA Tryz.prog 3 [valA false x0, valA false x1, valA false x2, valA true x3, valA true x4, valA false x5, valA false x6, valA false x7, valA false x8, valA true x9] (.raw (.bool true)) := by
  obtain ⟨l, h0, hf, _⟩ := open_KeyWins k0
  obtain ⟨w, h1, _⟩ := open_Wires k1
  obtain ⟨rs, h2, hrf, _⟩ := open_Replies k2
  obtain ⟨x, rfl, hx⟩ := open_Reply k3
  obtain ⟨a, rfl, _⟩ := open_Auth k4
  obtain ⟨c5, rfl, _⟩ := open_int k5
  obtain ⟨c6, rfl, _⟩ := open_int k6
  obtain ⟨c7, rfl, _⟩ := open_int k7
  obtain ⟨c8, rfl, _⟩ := open_int k8
  obtain ⟨i, rfl, _⟩ := open_Iv k9
  exact FnA.sim (replyMatches_A l hf w rs hrf x hx a c5 c6 c7 c8 i) ⟨h0, h1, h2, Sim.of_eq rfl, Sim.of_eq rfl, Sim.of_eq rfl, Sim.of_eq rfl, Sim.of_eq rfl, Sim.of_eq rfl, Sim.of_eq rfl, trivial⟩
end Go.Proofs.YtihnjbnlbedpaaaGreatDoor
