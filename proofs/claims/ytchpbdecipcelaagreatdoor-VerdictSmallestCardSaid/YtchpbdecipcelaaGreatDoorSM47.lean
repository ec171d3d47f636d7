import Derived.LaidMore
import Derived.Test.YtchpbdecipcelaaGreatDoorRows
import Derived.Test.YtchpbdecipcelaaGreatDoorSM08
import Derived.Test.YtchpbdecipcelaaGreatDoorSM31
namespace Go.Proofs.YtchpbdecipcelaaGreatDoor
set_option linter.unusedVariables false
set_option linter.unusedSimpArgs false
set_option maxHeartbeats 4000000
set_option maxRecDepth 100000
open Go.RowKit
theorem open_int {n : Nat} {xs : List AV} (h : CellsOk tbl (n + 1) 3 xs) : ∃ m : Int, xs = [.raw (.int .i64 m)] ∧ inK .i64 m := by
  simp only [CellsOk, cutOk, List.map_cons, List.map_nil, List.replicate_succ, List.replicate_zero, tbl_3] at h
  exact h
theorem open_list {α : Type} [Inhabited α] {av : α → List AV} {Q : α → Prop} {sz m : Nat} {el : Nat → List AV} (h : ∀ i, i < m → ∃ c : α, SimL (el i) (av c) ∧ Q c) : ∃ l : List α, Sim (.lst sz m el) (lA sz av l) ∧ (∀ c ∈ l, Q c) ∧ l.length = m := by
  have hc : ∀ i, ∃ c : α, i < m → SimL (el i) (av c) ∧ Q c := fun i => by
    by_cases hi : i < m
    · obtain ⟨c, h1⟩ := h i hi
      exact ⟨c, fun _ => h1⟩
    · exact ⟨default, fun h => absurd h hi⟩
  refine ⟨(List.range m).map fun i => (hc i).choose, ?_, fun c hcm => ?_, by simp⟩
  · refine Sim.lst (by simp) fun i hi => ?_
    have : ((List.range m).map fun i => (hc i).choose).getD i default = (hc i).choose := by simp [hi]
    simp only [els, this]
    exact ((hc i).choose_spec hi).1
  · obtain ⟨i, hi, rfl⟩ := List.mem_map.1 hcm
    exact ((hc i).choose_spec (List.mem_range.1 hi)).2
abbrev Lim {α : Type} (l : List α) : Prop := l.length ≤ 20000000000000
theorem open_sl {α : Type} [Inhabited α] {av : α → List AV} {Q : α → Prop} {n t e : Nat} {xs : List AV} {i j : TI} (b : Nat) (h : CellsOk tbl (n + 1) t xs) (h1 : tbl t = some i) (h2 : i.k = .slice e) (h3 : tbl e = some j) (hb : b ≤ j.bytes) (h8 : 8 ≤ b) (hQ : ∀ ys, CellsOk tbl n e ys → ∃ c : α, SimL ys (av c) ∧ Q c) :
    ∃ (y : AV) (l : List α), xs = [y] ∧ Sim y (lA j.size av l) ∧ (∀ c ∈ l, Q c) ∧ Lim l := by
  simp only [CellsOk, h1, h2, h3] at h
  obtain ⟨m, el, rfl, ⟨-, hm⟩, hel⟩ := h
  obtain ⟨l, s, q, g⟩ := open_list (av := av) (Q := Q) (sz := j.size) (m := m) (el := el) fun i hi => hQ _ (hel i hi).2
  have h5 : m * 8 ≤ m * j.bytes := Nat.mul_le_mul_left _ (Nat.le_trans h8 hb)
  have h6 : m * 8 ≤ 140737488351232 := Nat.le_trans h5 hm
  exact ⟨_, l, rfl, s, q, by unfold Lim; omega⟩
theorem open_ints {n : Nat} {xs : List AV} (h : CellsOk tbl (n + 2) 51 xs) : ∃ (y : AV) (l : List Int), xs = [y] ∧ Sim y (liA l) ∧ (∀ x ∈ l, inK .i64 x) ∧ Lim l :=
  open_sl (av := iC) 8 h rfl rfl rfl (Nat.le_refl _) (Nat.le_refl _) fun ys hy => by
    obtain ⟨m, rfl, hm⟩ := open_int hy
    exact ⟨m, SimL.refl _, hm⟩
theorem open_KeyWin {n : Nat} {xs : List AV} (h : CellsOk tbl (n + 3) 130 xs) : ∃ c : KeyWin, SimL xs c.av ∧ c.fits := by
  simp only [CellsOk, cutOk, List.map_cons, List.map_nil, List.replicate_succ, List.replicate_zero, tbl_3, tbl_92, tbl_130] at h
  obtain ⟨a, b, rfl, -, ⟨m0, rfl, h0⟩, a, b, rfl, -, ⟨m1, rfl, h1⟩, a, b, rfl, -, ⟨m2, rfl, h2⟩, a, b, rfl, -, ⟨m3, rfl, h3⟩, a, b, rfl, -, ⟨m4, rfl, h4⟩, a, b, rfl, -, ⟨a, b', rfl, -, ⟨m5, rfl, h5⟩, a, b', rfl, -, ⟨m6, rfl, h6⟩, rfl⟩, rfl⟩ := h
  exact ⟨⟨m0, m1, m2, m3, m4, ⟨m5, m6⟩⟩, SimL.of_eq rfl, h0, h1, h2, h3, h4, h5, h6⟩
theorem open_Auth {n : Nat} {xs : List AV} (h : CellsOk tbl (n + 2) 132 xs) : ∃ c : Auth, SimL xs c.av ∧ True := by
  simp only [CellsOk, cutOk, List.map_cons, List.map_nil, List.replicate_succ, List.replicate_zero, tbl_3, tbl_132] at h
  obtain ⟨a, b, rfl, -, ⟨m0, rfl, h0⟩, a, b, rfl, -, ⟨m1, rfl, h1⟩, a, b, rfl, -, ⟨m2, rfl, h2⟩, a, b, rfl, -, ⟨m3, rfl, h3⟩, rfl⟩ := h
  exact ⟨⟨m0, m1, m2, m3⟩, SimL.of_eq rfl, trivial⟩
theorem open_Change {n : Nat} {xs : List AV} (h : CellsOk tbl (n + 2) 125 xs) : ∃ c : Change, SimL xs c.av ∧ True := by
  simp only [CellsOk, cutOk, List.map_cons, List.map_nil, List.replicate_succ, List.replicate_zero, tbl_3, tbl_125] at h
  obtain ⟨a, b, rfl, -, ⟨m0, rfl, h0⟩, a, b, rfl, -, ⟨m1, rfl, h1⟩, a, b, rfl, -, ⟨m2, rfl, h2⟩, a, b, rfl, -, ⟨m3, rfl, h3⟩, a, b, rfl, -, ⟨m4, rfl, h4⟩, rfl⟩ := h
  exact ⟨⟨m0, m1, m2, m3, m4⟩, SimL.of_eq rfl, trivial⟩
theorem open_changes {n : Nat} {xs : List AV} (h : CellsOk tbl (n + 3) 62 xs) : ∃ (y : AV) (l : List Change), xs = [y] ∧ Sim y (lA 5 Change.av l) ∧ (∀ c ∈ l, True) ∧ Lim l :=
  open_sl (av := Change.av) (Q := fun _ => True) 40 h rfl rfl rfl (by decide) (by decide) fun ys hy => open_Change hy
theorem open_Wire {n : Nat} {xs : List AV} (h : CellsOk tbl (n + 4) 134 xs) : ∃ c : Wire, SimL xs c.av ∧ Lim c.changes := by
  simp only [CellsOk, cutOk, List.map_cons, List.map_nil, tbl_134, tbl_3, tbl_62] at h
  obtain ⟨a, b, rfl, -, ⟨m0, rfl, h0⟩, a, b, rfl, -, ⟨m1, rfl, h1⟩, a, b, rfl, -, h3, rfl⟩ := h
  obtain ⟨y, l, rfl, s, -, g⟩ := open_changes (n := n) h3
  exact ⟨⟨m0, m1, l⟩, ⟨Sim.refl _, Sim.refl _, s, trivial⟩, g⟩
theorem open_Reply {n : Nat} {xs : List AV} (h : CellsOk tbl (n + 3) 94 xs) : ∃ c : Reply, SimL xs c.av ∧ c.fits := by
  simp only [CellsOk, cutOk, List.map_cons, List.map_nil, List.replicate_succ, List.replicate_zero, tbl_3, tbl_64, tbl_90, tbl_92, tbl_94] at h
  obtain ⟨a, b, rfl, -, ⟨m0, rfl, h0⟩, a, b, rfl, -, ⟨m1, rfl, h1⟩, a, b, rfl, -, ⟨m2, rfl, h2⟩, a, b, rfl, -, ⟨m3, rfl, h3⟩, a, b, rfl, -, ⟨a, b', rfl, -, ⟨m4, rfl, h4⟩, a, b', rfl, -, ⟨m5, rfl, h5⟩, rfl⟩, a, b, rfl, -, ⟨m6, rfl, h6⟩, a, b, rfl, -, ⟨m7, rfl, h7⟩, a, b, rfl, -, ⟨a, b', rfl, -, ⟨m8, rfl, h8⟩, a, b', rfl, -, ⟨m9, rfl, h9⟩, rfl⟩, rfl⟩ := h
  exact ⟨⟨m0, m1, m2, m3, ⟨m4, m5⟩, m6, m7, ⟨m8, m9⟩⟩, SimL.of_eq rfl, h0, h1, h2, h3, ⟨h4, h5⟩, h6, h7, h8, h9⟩
def RoundLim (r : Round) : Prop := Lim r.replies ∧ ∀ x ∈ r.replies, x.fits
theorem open_replies {n : Nat} {xs : List AV} (h : CellsOk tbl (n + 4) 75 xs) : ∃ (y : AV) (l : List Reply), xs = [y] ∧ Sim y (lA 10 Reply.av l) ∧ (∀ c ∈ l, c.fits) ∧ Lim l :=
  open_sl (av := Reply.av) (Q := Reply.fits) 80 h rfl rfl rfl (by decide) (by decide) fun ys hy => open_Reply hy
theorem open_Round {n : Nat} {xs : List AV} (h : CellsOk tbl (n + 5) 77 xs) : ∃ c : Round, SimL xs c.av ∧ RoundLim c := by
  simp only [CellsOk, cutOk, List.map_cons, List.map_nil, tbl_77, tbl_75] at h
  obtain ⟨a, b, rfl, -, h3, rfl⟩ := h
  obtain ⟨y, l, rfl, s, q, g⟩ := open_replies (n := n) h3
  exact ⟨⟨l⟩, ⟨s, trivial⟩, g, q⟩
theorem open_rounds {n : Nat} {xs : List AV} (h : CellsOk tbl (n + 6) 72 xs) : ∃ (y : AV) (l : List Round), xs = [y] ∧ Sim y (lA 1 Round.av l) ∧ (∀ c ∈ l, RoundLim c) ∧ Lim l :=
  open_sl (av := Round.av) (Q := RoundLim) 24 h rfl rfl rfl (by decide) (by decide) fun ys hy => open_Round hy
def ChainLim (c : Chain) : Prop := inK .i64 c.host ∧ Lim c.rounds ∧ ∀ r ∈ c.rounds, RoundLim r
theorem open_Chain {n : Nat} {xs : List AV} (h : CellsOk tbl (n + 7) 74 xs) : ∃ c : Chain, SimL xs c.av ∧ ChainLim c := by
  simp only [CellsOk, cutOk, List.map_cons, List.map_nil, tbl_74, tbl_3, tbl_72] at h
  obtain ⟨a, b, rfl, -, ⟨m0, rfl, h0⟩, a, b, rfl, -, h3, rfl⟩ := h
  obtain ⟨y, l, rfl, s, q, g⟩ := open_rounds (n := n) h3
  exact ⟨⟨m0, l⟩, ⟨Sim.refl _, s, trivial⟩, h0, g, q⟩
theorem open_chains {n : Nat} {xs : List AV} (h : CellsOk tbl (n + 8) 24 xs) : ∃ (y : AV) (l : List Chain), xs = [y] ∧ Sim y (lA 2 Chain.av l) ∧ (∀ c ∈ l, ChainLim c) ∧ Lim l :=
  open_sl (av := Chain.av) (Q := ChainLim) 32 h rfl rfl rfl (by decide) (by decide) fun ys hy => open_Chain hy
theorem open_lints {n : Nat} {xs : List AV} (h : CellsOk tbl (n + 3) 78 xs) : ∃ (y : AV) (l : List (List Int)), xs = [y] ∧ Sim y (lA 1 (fun l => [liA l]) l) ∧ (∀ c ∈ l, Lim c) ∧ Lim l :=
  open_sl (av := fun l : List Int => [liA l]) (Q := fun c => Lim c) 24 h rfl rfl rfl (by decide) (by decide) fun ys hy => by
    obtain ⟨y, l, rfl, s, -, g⟩ := open_ints hy
    exact ⟨l, ⟨s, trivial⟩, g⟩
def DiaryLim (d : Diary) : Prop := Lim d.sent ∧ Lim d.got ∧ ∀ g ∈ d.got, Lim g
theorem open_Diary {n : Nat} {xs : List AV} (h : CellsOk tbl (n + 4) 80 xs) : ∃ c : Diary, SimL xs c.av ∧ DiaryLim c := by
  simp only [CellsOk, cutOk, List.map_cons, List.map_nil, tbl_80, tbl_3, tbl_51, tbl_78] at h
  obtain ⟨a, b, rfl, -, ⟨m0, rfl, h0⟩, a, b, rfl, -, ⟨m1, rfl, h1⟩, a, b, rfl, -, h2, a, b, rfl, -, h3, rfl⟩ := h
  obtain ⟨y, l, rfl, s, -, g⟩ := open_ints (n := n + 1) h2
  obtain ⟨y', l', rfl, s', q', g'⟩ := open_lints (n := n) h3
  exact ⟨⟨m0, m1, l, l'⟩, ⟨Sim.refl _, Sim.refl _, s, s', trivial⟩, g, g', q'⟩
structure MatterLim (m : Matter) : Prop where
  k : Lim m.evidence.keys ∧ ∀ k ∈ m.evidence.keys, k.fits
  a : Lim m.evidence.auths
  f : inK .i64 m.evidence.f
  c : Lim m.evidence.chains ∧ ∀ c ∈ m.evidence.chains, ChainLim c
  d : Lim m.diaries ∧ ∀ d ∈ m.diaries, DiaryLim d
  w : Lim m.wires ∧ ∀ w ∈ m.wires, Lim w.changes
theorem open_Matter {n : Nat} {xs : List AV} (h : CellsOk tbl (n + 10) 30 xs) : ∃ m : Matter, Sim (.agg xs) (.agg m.av) ∧ MatterLim m := by
  simp only [CellsOk, cutOk, List.map_cons, List.map_nil, tbl_30, tbl_26, tbl_3, tbl_22, tbl_23, tbl_24, tbl_27, tbl_28] at h
  obtain ⟨a, b, rfl, -, ⟨a, b', rfl, -, h0, a, b', rfl, -, h1, a, b', rfl, -, ⟨m2, rfl, h2⟩, a, b', rfl, -, h3, rfl⟩, a, b, rfl, -, h4, a, b, rfl, -, h5, rfl⟩ := h
  obtain ⟨y0, l0, rfl, s0, q0, g0⟩ := open_sl (n := n + 7) (av := KeyWin.av) (Q := KeyWin.fits) (t := 22) 56 h0 rfl rfl rfl (by decide) (by decide) fun ys hy => open_KeyWin (n := n + 4) hy
  obtain ⟨y1, l1, rfl, s1, -, g1⟩ := open_sl (n := n + 7) (av := Auth.av) (Q := fun _ => True) (t := 23) 32 h1 rfl rfl rfl (by decide) (by decide) fun ys hy => open_Auth (n := n + 5) hy
  obtain ⟨y3, l3, rfl, s3, q3, g3⟩ := open_chains (n := n) h3
  obtain ⟨y4, l4, rfl, s4, q4, g4⟩ := open_sl (n := n + 8) (av := Diary.av) (Q := DiaryLim) (t := 27) 64 h4 rfl rfl rfl (by decide) (by decide) fun ys hy => open_Diary (n := n + 4) hy
  obtain ⟨y5, l5, rfl, s5, q5, g5⟩ := open_sl (n := n + 8) (av := Wire.av) (Q := fun w => Lim w.changes) (t := 28) 40 h5 rfl rfl rfl (by decide) (by decide) fun ys hy => open_Wire (n := n + 4) hy
  exact ⟨⟨⟨l0, l1, m2, l3⟩, l4, l5⟩, Sim.agg ⟨s0, s1, Sim.refl _, s3, s4, s5, trivial⟩, ⟨⟨g0, q0⟩, g1, h2, ⟨g3, q3⟩, ⟨g4, q4⟩, ⟨g5, q5⟩⟩⟩
theorem tabs_of_laid {W : World} (h : laidMetH Tryz.prog [("math/bits.deBruijn32tab", Rows.laid_math_bits_deBruijn32tab), ("math/bits.deBruijn64tab", Rows.laid_math_bits_deBruijn64tab), ("internal/strconv.uint64pow10", Rows.laid_internal_strconv_uint64pow10)] W) : Tabs Tryz.prog W := by
  intro g hg
  rw [MakeChecks.laidMetH_plain _ _ _ (by kernel_rfl)] at h
  obtain ⟨ps, ⟨g0, t0, cs0, f0, p0, q0, hg0, ht0, hv0, hd0, ⟨g1, t1, cs1, f1, p1, q1, hg1, ht1, hv1, hd1, ⟨g2, t2, cs2, f2, p2, q2, hg2, ht2, hv2, hd2, _, _⟩, _⟩, _⟩, _, _⟩ := h
  obtain rfl := Option.some.inj (hg.symm.trans hg2)
  obtain ⟨t, e, n, k1, k2, k3, k4, k5⟩ : ∃ t e n, (Tryz.prog.globals[g]?).map (·.type) = some t ∧ Tryz.prog.underlying t = some (.array n e) ∧ Tryz.prog.underlying e = some (.int .u64) ∧ Tryz.prog.cellsOf e = 1 ∧ Tryz.prog.cellsOf t = n := by
    obtain rfl : g = 2 := Option.some.inj (hg2.symm.trans (show Tryz.prog.globalNamed "internal/strconv.uint64pow10" = some 2 by kernel_rfl))
    exact ⟨302, 64, 20, by kernel_rfl, by kernel_rfl, by kernel_rfl, by kernel_rfl, by kernel_rfl⟩
  obtain rfl := Option.some.inj (k1.symm.trans ht2)
  unfold Lib.TabIs
  rw [hv2]
  have hd2' : DataW.trod (fun _ => ()) Tryz.prog W 0 (fun _ => true) false f2 t cs2.toList = some (Lib.tabData .u64 Lib.pow10Tab, p2) := hd2
  rw [← Lib.cells_of_tab k2 k3 k4 k5 hd2']
end Go.Proofs.YtchpbdecipcelaaGreatDoor
