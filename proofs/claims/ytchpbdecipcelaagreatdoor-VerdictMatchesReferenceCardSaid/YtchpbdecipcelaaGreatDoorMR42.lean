import Derived.Test.YtchpbdecipcelaaGreatDoorMR01
import Derived.LaidMore
import Derived.Test.YtchpbdecipcelaaGreatDoorRows
import Derived.Test.YtchpbdecipcelaaGreatDoorMR08
import Derived.Test.YtchpbdecipcelaaGreatDoorMR28
import Derived.Test.YtchpbdecipcelaaGreatDoorMR40
namespace Go.Proofs.YtchpbdecipcelaaGreatDoor
set_option linter.unusedVariables false
set_option linter.unusedSimpArgs false
set_option maxHeartbeats 4000000
set_option maxRecDepth 100000
open Go.RowKit
theorem zIn {n : Nat} {xs : List AV} (h : zY tbl (n + 1) 3 xs) : ∃ m : Int, xs = [.raw (.int .i64 m)] ∧ inK .i64 m := by
 simp only [zY, jT, yLt, yMk, yL7, yL6, zF3] at h
 exact h
theorem zTr {α : Type} [Inhabited α] {av : α → List AV} {Q : α → Prop} {sz m : Nat} {el : Nat → List AV} (h : ∀ i, i < m → ∃ c : α, jC (el i) (av c) ∧ Q c) : ∃ l : List α, Sim (.lst sz m el) (lA sz av l) ∧ (∀ c ∈ l, Q c) ∧ l.length = m := by
 have hc : ∀ i, ∃ c : α, i < m → jC (el i) (av c) ∧ Q c := fun i => by
  by_cases hi : i < m
  ·obtain ⟨c, h1⟩ := h i hi
   exact ⟨c, fun _ => h1⟩
  ·exact ⟨default, fun h => absurd h hi⟩
 refine ⟨(List.range m).map fun i => (hc i).choose, ?_, fun c hcm => ?_, by simp⟩
 ·refine Sim.lst (by simp) fun i hi => ?_
  have : ((List.range m).map fun i => (hc i).choose).getD i default = (hc i).choose := by simp [hi]
  simp only [els, this]
  exact ((hc i).choose_spec hi).1
 ·obtain ⟨i, hi, rfl⟩ := yMf.1 hcm
  exact ((hc i).choose_spec (yN5.1 hi)).2
abbrev Lim {α : Type} (l : List α) : Prop := l.length ≤ 20000000000000
theorem vY {α : Type} [Inhabited α] {av : α → List AV} {Q : α → Prop} {n t e : Nat} {xs : List AV} {i j : TI} (b : Nat) (h : zY tbl (n + 1) t xs) (h1 : tbl t = some i) (h2 : i.k = .slice e) (h3 : tbl e = some j) (hb : b ≤ j.bytes) (h8 : 8 ≤ b) (hQ : ∀ ys, zY tbl n e ys → ∃ c : α, jC ys (av c) ∧ Q c) :
  ∃ (y : AV) (l : List α), xs = [y] ∧ Sim y (lA j.size av l) ∧ (∀ c ∈ l, Q c) ∧ Lim l := by
 simp only [zY, h1, h2, h3] at h
 obtain ⟨m, el, rfl, ⟨-, hm⟩, hel⟩ := h
 obtain ⟨l, s, q, g⟩ := zTr (av := av) (Q := Q) (sz := j.size) (m := m) (el := el) fun i hi => hQ _ (hel i hi).2
 have h5 : m * 8 ≤ m * j.bytes := Nat.mul_le_mul_left _ (yKr h8 hb)
 have h6 : m * 8 ≤ 140737488351232 := yKr h5 hm
 exact ⟨_, l, rfl, s, q, by unfold Lim; omega⟩
theorem zK9 {n : Nat} {xs : List AV} (h : zY tbl (n + 2) 51 xs) : ∃ (y : AV) (l : List Int), xs = [y] ∧ Sim y (liA l) ∧ (∀ x ∈ l, inK .i64 x) ∧ Lim l :=
 vY (av := iC) 8 h rfl rfl rfl (yKq _) (yKq _) fun ys hy => by
  obtain ⟨m, rfl, hm⟩ := zIn hy
  exact ⟨m, jC.refl _, hm⟩
theorem zQx {n : Nat} {xs : List AV} (h : zY tbl (n + 2) 57 xs) : ∃ c : zB, jC xs c.av ∧ True := by
 simp only [zY, jT, yLt, yMk, yL7, yL6, zF3, zSo] at h
 obtain ⟨a, b, rfl, -, ⟨m0, rfl, h0⟩, a, b, rfl, -, ⟨m1, rfl, h1⟩, rfl⟩ := h
 exact ⟨⟨m0, m1⟩, jC.of_eq rfl, trivial⟩
theorem zDu {n : Nat} {xs : List AV} (h : zY tbl (n + 3) 32 xs) : ∃ (y : AV) (l : List zB), xs = [y] ∧ Sim y (lA 2 zB.av l) ∧ Lim l := by
 obtain ⟨y, l, h0, h1, -, h2⟩ := vY (av := zB.av) (Q := fun _ => True) 16 h rfl rfl rfl (by decide) (by decide) fun ys hy => zQx hy
 exact ⟨y, l, h0, h1, h2⟩
theorem zR0 {n : Nat} {xs : List AV} (h : zY tbl (n + 4) 36 xs) : ∃ c : zH, jC xs c.av ∧ Lim c.who := by
 simp only [zY, jT, yLt, yMk, yCp, zF3, yCq] at h
 obtain ⟨a, b, rfl, -, ⟨m0, rfl, h0⟩, a, b, rfl, -, ⟨m1, rfl, h1⟩, a, b, rfl, -, ⟨m2, rfl, h2⟩, a, b, rfl, -, h3, rfl⟩ := h
 obtain ⟨y, l, rfl, s, g⟩ := zDu (n := n) h3
 exact ⟨⟨m0, m1, m2, l⟩, ⟨Sim.refl _, Sim.refl _, Sim.refl _, s, trivial⟩, g⟩
theorem zMs {n : Nat} {xs : List AV} (h : zY tbl (n + 5) 31 xs) : ∃ (y : AV) (l : List zH), xs = [y] ∧ Sim y (lA 4 zH.av l) ∧ (∀ b ∈ l, Lim b.who) ∧ Lim l :=
 vY (av := zH.av) (Q := fun b => Lim b.who) 48 h rfl rfl rfl (by decide) (by decide) fun ys hy => zR0 hy
theorem zMu {n : Nat} {xs : List AV} (h : zY tbl (n + 3) 130 xs) : ∃ c : zI, jC xs c.av ∧ c.fits := by
 simp only [zY, jT, yLt, yMk, yL7, yL6, zF3, zZ0, zZs] at h
 obtain ⟨a, b, rfl, -, ⟨m0, rfl, h0⟩, a, b, rfl, -, ⟨m1, rfl, h1⟩, a, b, rfl, -, ⟨m2, rfl, h2⟩, a, b, rfl, -, ⟨m3, rfl, h3⟩, a, b, rfl, -, ⟨m4, rfl, h4⟩, a, b, rfl, -, ⟨a, b', rfl, -, ⟨m5, rfl, h5⟩, a, b', rfl, -, ⟨m6, rfl, h6⟩, rfl⟩, rfl⟩ := h
 exact ⟨⟨m0, m1, m2, m3, m4, ⟨m5, m6⟩⟩, jC.of_eq rfl, h0, h1, h2, h3, h4, h5, h6⟩
theorem zTt {n : Nat} {xs : List AV} (h : zY tbl (n + 2) 132 xs) : ∃ c : qV, jC xs c.av ∧ True := by
 simp only [zY, jT, yLt, yMk, yL7, yL6, zF3, zZr] at h
 obtain ⟨a, b, rfl, -, ⟨m0, rfl, h0⟩, a, b, rfl, -, ⟨m1, rfl, h1⟩, a, b, rfl, -, ⟨m2, rfl, h2⟩, a, b, rfl, -, ⟨m3, rfl, h3⟩, rfl⟩ := h
 exact ⟨⟨m0, m1, m2, m3⟩, jC.of_eq rfl, trivial⟩
theorem zMv {n : Nat} {xs : List AV} (h : zY tbl (n + 2) 125 xs) : ∃ c : Change, jC xs c.av ∧ True := by
 simp only [zY, jT, yLt, yMk, yL7, yL6, zF3, zZt] at h
 obtain ⟨a, b, rfl, -, ⟨m0, rfl, h0⟩, a, b, rfl, -, ⟨m1, rfl, h1⟩, a, b, rfl, -, ⟨m2, rfl, h2⟩, a, b, rfl, -, ⟨m3, rfl, h3⟩, a, b, rfl, -, ⟨m4, rfl, h4⟩, rfl⟩ := h
 exact ⟨⟨m0, m1, m2, m3, m4⟩, jC.of_eq rfl, trivial⟩
theorem zKa {n : Nat} {xs : List AV} (h : zY tbl (n + 3) 62 xs) : ∃ (y : AV) (l : List Change), xs = [y] ∧ Sim y (lA 5 Change.av l) ∧ (∀ c ∈ l, True) ∧ Lim l :=
 vY (av := Change.av) (Q := fun _ => True) 40 h rfl rfl rfl (by decide) (by decide) fun ys hy => zMv hy
theorem zTs {n : Nat} {xs : List AV} (h : zY tbl (n + 4) 134 xs) : ∃ c : wU, jC xs c.av ∧ Lim c.changes := by
 simp only [zY, jT, yLt, yMk, zZq, zF3, yCn] at h
 obtain ⟨a, b, rfl, -, ⟨m0, rfl, h0⟩, a, b, rfl, -, ⟨m1, rfl, h1⟩, a, b, rfl, -, h3, rfl⟩ := h
 obtain ⟨y, l, rfl, s, -, g⟩ := zKa (n := n) h3
 exact ⟨⟨m0, m1, l⟩, ⟨Sim.refl _, Sim.refl _, s, trivial⟩, g⟩
theorem zQw {n : Nat} {xs : List AV} (h : zY tbl (n + 3) 94 xs) : ∃ c : zN, jC xs c.av ∧ c.fits := by
 simp only [zY, jT, yLt, yMk, yL7, yL6, zF3, yCm, yCf, zZ0, yCe] at h
 obtain ⟨a, b, rfl, -, ⟨m0, rfl, h0⟩, a, b, rfl, -, ⟨m1, rfl, h1⟩, a, b, rfl, -, ⟨m2, rfl, h2⟩, a, b, rfl, -, ⟨m3, rfl, h3⟩, a, b, rfl, -, ⟨a, b', rfl, -, ⟨m4, rfl, h4⟩, a, b', rfl, -, ⟨m5, rfl, h5⟩, rfl⟩, a, b, rfl, -, ⟨m6, rfl, h6⟩, a, b, rfl, -, ⟨m7, rfl, h7⟩, a, b, rfl, -, ⟨a, b', rfl, -, ⟨m8, rfl, h8⟩, a, b', rfl, -, ⟨m9, rfl, h9⟩, rfl⟩, rfl⟩ := h
 exact ⟨⟨m0, m1, m2, m3, ⟨m4, m5⟩, m6, m7, ⟨m8, m9⟩⟩, jC.of_eq rfl, h0, h1, h2, h3, ⟨h4, h5⟩, h6, h7, h8, h9⟩
def zCx (r : yK) : Prop := Lim r.replies ∧ ∀ x ∈ r.replies, x.fits
theorem zK8 {n : Nat} {xs : List AV} (h : zY tbl (n + 4) 75 xs) : ∃ (y : AV) (l : List zN), xs = [y] ∧ Sim y (lA 10 zN.av l) ∧ (∀ c ∈ l, c.fits) ∧ Lim l :=
 vY (av := zN.av) (Q := zN.fits) 80 h rfl rfl rfl (by decide) (by decide) fun ys hy => zQw hy
theorem zQv {n : Nat} {xs : List AV} (h : zY tbl (n + 5) 77 xs) : ∃ c : yK, jC xs c.av ∧ zCx c := by
 simp only [zY, jT, yLt, yMk, yCi, yCj] at h
 obtain ⟨a, b, rfl, -, h3, rfl⟩ := h
 obtain ⟨y, l, rfl, s, q, g⟩ := zK8 (n := n) h3
 exact ⟨⟨l⟩, ⟨s, trivial⟩, g, q⟩
theorem zMq {n : Nat} {xs : List AV} (h : zY tbl (n + 6) 72 xs) : ∃ (y : AV) (l : List yK), xs = [y] ∧ Sim y (lA 1 yK.av l) ∧ (∀ c ∈ l, zCx c) ∧ Lim l :=
 vY (av := yK.av) (Q := zCx) 24 h rfl rfl rfl (by decide) (by decide) fun ys hy => zQv hy
def zEx (c : xA) : Prop := inK .i64 c.host ∧ Lim c.rounds ∧ ∀ r ∈ c.rounds, zCx r
theorem zQz {n : Nat} {xs : List AV} (h : zY tbl (n + 7) 74 xs) : ∃ c : xA, jC xs c.av ∧ zEx c := by
 simp only [zY, jT, yLt, yMk, yCk, zF3, yCl] at h
 obtain ⟨a, b, rfl, -, ⟨m0, rfl, h0⟩, a, b, rfl, -, h3, rfl⟩ := h
 obtain ⟨y, l, rfl, s, q, g⟩ := zMq (n := n) h3
 exact ⟨⟨m0, l⟩, ⟨Sim.refl _, s, trivial⟩, h0, g, q⟩
theorem zMr {n : Nat} {xs : List AV} (h : zY tbl (n + 8) 24 xs) : ∃ (y : AV) (l : List xA), xs = [y] ∧ Sim y (lA 2 xA.av l) ∧ (∀ c ∈ l, zEx c) ∧ Lim l :=
 vY (av := xA.av) (Q := zEx) 32 h rfl rfl rfl (by decide) (by decide) fun ys hy => zQz hy
theorem zQt {n : Nat} {xs : List AV} (h : zY tbl (n + 3) 78 xs) : ∃ (y : AV) (l : List (List Int)), xs = [y] ∧ Sim y (lA 1 (fun l => [liA l]) l) ∧ (∀ c ∈ l, Lim c) ∧ Lim l :=
 vY (av := fun l : List Int => [liA l]) (Q := fun c => Lim c) 24 h rfl rfl rfl (by decide) (by decide) fun ys hy => by
  obtain ⟨y, l, rfl, s, -, g⟩ := zK9 hy
  exact ⟨l, ⟨s, trivial⟩, g⟩
def zJa (d : vS) : Prop := Lim d.sent ∧ Lim d.got ∧ ∀ g ∈ d.got, Lim g
theorem zQy {n : Nat} {xs : List AV} (h : zY tbl (n + 4) 80 xs) : ∃ c : vS, jC xs c.av ∧ zJa c := by
 simp only [zY, jT, yLt, yMk, yCg, zF3, yCo, yCh] at h
 obtain ⟨a, b, rfl, -, ⟨m0, rfl, h0⟩, a, b, rfl, -, ⟨m1, rfl, h1⟩, a, b, rfl, -, h2, a, b, rfl, -, h3, rfl⟩ := h
 obtain ⟨y, l, rfl, s, -, g⟩ := zK9 (n := n + 1) h2
 obtain ⟨y', l', rfl, s', q', g'⟩ := zQt (n := n) h3
 exact ⟨⟨m0, m1, l, l'⟩, ⟨Sim.refl _, Sim.refl _, s, s', trivial⟩, g, g', q'⟩
structure zCy (m : zL) : Prop where
 k : Lim m.evidence.keys ∧ ∀ k ∈ m.evidence.keys, k.fits
 a : Lim m.evidence.auths
 f : inK .i64 m.evidence.f
 c : Lim m.evidence.chains ∧ ∀ c ∈ m.evidence.chains, zEx c
 d : Lim m.diaries ∧ ∀ d ∈ m.diaries, zJa d
 w : Lim m.wires ∧ ∀ w ∈ m.wires, Lim w.changes
theorem zMt {n : Nat} {xs : List AV} (h : zY tbl (n + 10) 30 xs) : ∃ m : zL, Sim (.agg xs) (.agg m.av) ∧ zCy m := by
 simp only [zY, jT, yLt, yMk, yCr, yCu, zF3, yCx, yCw, yCv, yCt, yCs] at h
 obtain ⟨a, b, rfl, -, ⟨a, b', rfl, -, h0, a, b', rfl, -, h1, a, b', rfl, -, ⟨m2, rfl, h2⟩, a, b', rfl, -, h3, rfl⟩, a, b, rfl, -, h4, a, b, rfl, -, h5, rfl⟩ := h
 obtain ⟨y0, l0, rfl, s0, q0, g0⟩ := vY (n := n + 7) (av := zI.av) (Q := zI.fits) (t := 22) 56 h0 rfl rfl rfl (by decide) (by decide) fun ys hy => zMu (n := n + 4) hy
 obtain ⟨y1, l1, rfl, s1, -, g1⟩ := vY (n := n + 7) (av := qV.av) (Q := fun _ => True) (t := 23) 32 h1 rfl rfl rfl (by decide) (by decide) fun ys hy => zTt (n := n + 5) hy
 obtain ⟨y3, l3, rfl, s3, q3, g3⟩ := zMr (n := n) h3
 obtain ⟨y4, l4, rfl, s4, q4, g4⟩ := vY (n := n + 8) (av := vS.av) (Q := zJa) (t := 27) 64 h4 rfl rfl rfl (by decide) (by decide) fun ys hy => zQy (n := n + 4) hy
 obtain ⟨y5, l5, rfl, s5, q5, g5⟩ := vY (n := n + 8) (av := wU.av) (Q := fun w => Lim w.changes) (t := 28) 40 h5 rfl rfl rfl (by decide) (by decide) fun ys hy => zTs (n := n + 4) hy
 exact ⟨⟨⟨l0, l1, m2, l3⟩, l4, l5⟩, Sim.agg ⟨s0, s1, Sim.refl _, s3, s4, s5, trivial⟩, ⟨⟨g0, q0⟩, g1, h2, ⟨g3, q3⟩, ⟨g4, q4⟩, ⟨g5, q5⟩⟩⟩
theorem zJo {W : World} (h : laidMetH Tryz.prog [("math/bits.deBruijn32tab", Rows.laid_math_bits_deBruijn32tab), ("math/bits.deBruijn64tab", Rows.laid_math_bits_deBruijn64tab), ("internal/strconv.uint64pow10", Rows.laid_internal_strconv_uint64pow10)] W) : zJ9 Tryz.prog W := by
 intro g hg
 rw [MakeChecks.laidMetH_plain _ _ _ (by kernel_rfl)] at h
 obtain ⟨ps, ⟨g0, t0, cs0, f0, p0, q0, hg0, ht0, hv0, hd0, ⟨g1, t1, cs1, f1, p1, q1, hg1, ht1, hv1, hd1, ⟨g2, t2, cs2, f2, p2, q2, hg2, ht2, hv2, hd2, _, _⟩, _⟩, _⟩, _, _⟩ := h
 obtain rfl := yOi (hg.symm.trans hg2)
 obtain ⟨t, e, n, k1, k2, k3, k4, k5⟩ : ∃ t e n, (Tryz.prog.globals[g]?).map (·.type) = some t ∧ Tryz.prog.underlying t = some (.array n e) ∧ Tryz.prog.underlying e = some (.int .u64) ∧ Tryz.prog.cellsOf e = 1 ∧ Tryz.prog.cellsOf t = n := by
  obtain rfl : g = 2 := yOi (hg2.symm.trans (show Tryz.prog.globalNamed "internal/strconv.uint64pow10" = some 2 by kernel_rfl))
  exact ⟨302, 64, 20, by kernel_rfl, by kernel_rfl, by kernel_rfl, by kernel_rfl, by kernel_rfl⟩
 obtain rfl := yOi (k1.symm.trans ht2)
 unfold Lib.TabIs
 rw [hv2]
 have hd2' : DataW.trod (fun _ => ()) Tryz.prog W 0 (fun _ => true) false f2 t cs2.toList = some (Lib.tabData .u64 Lib.pow10Tab, p2) := hd2
 rw [← Lib.cells_of_tab k2 k3 k4 k5 hd2']
def zQq (rs : List yK) : Nat := (rs.map fun r => r.replies.length).sum
def zTd (cs : List xA) : Nat := (cs.map fun c => zQq c.rounds).sum
theorem zJw (rs : List yK) {k : Nat} (h : k < rs.length) : zQq (rs.take (k + 1)) = zQq (rs.take k) + (rs.getD k default).replies.length := by
 unfold zQq
 rw [yNs h, zU h, yNk, List.sum_append]
 simp
theorem zTc (cs : List xA) {k : Nat} (h : k < cs.length) : zTd (cs.take (k + 1)) = zTd (cs.take k) + zQq (cs.getD k default).rounds := by
 unfold zTd
 rw [yNs h, zU h, yNk, List.sum_append]
 simp
def yBc (m : zL) : Prop := (∀ i, i < m.evidence.chains.length → i < 10 → (m.evidence.chains.getD i default).rounds.length ≤ 5) ∧ (∀ i, i < m.diaries.length → i < 10 → (m.diaries.getD i default).sent.length ≤ 10 ∧ (m.diaries.getD i default).got.length ≤ 10) ∧
 m.evidence.chains.length ≤ 3 ∧ m.diaries.length ≤ 4 ∧ zTd (m.evidence.chains.take 10) ≤ 12 ∧ m.evidence.keys.length ≤ 20 ∧ m.wires.length ≤ 20 ∧ m.evidence.auths.length ≤ 20
theorem zTb {rs : List yK} (h : ∀ r ∈ rs, zCx r) : ∀ k, k ≤ rs.length → zQq (rs.take k) ≤ k * 20000000000000
 | 0, _ => by simp [zQq]
 | k + 1, hk => by
  have h1 := zTb h k (by omega)
  have h2 := (h _ (w9 (show k < rs.length by omega))).1
  rw [zJw rs (by omega)]
  unfold Lim at h2
  omega
theorem yK4 (m : zL) (hm : zCy m) : ∃ b : Bool, (b = true ↔ yBc m) ∧ FnA Tryz.prog 11 [.agg m.av] (.raw (.bool b)) := by
 classical
 refine ⟨decide (yBc m), yO5, ?_⟩
 have hmf := zL.free m
 obtain ⟨f1, f2, f3, f4, f5⟩ := zDl m
 have hcl := hm.c.1
 have hch := hm.c.2
 have hdl := hm.d.1
 have hdi := hm.d.2
 have hk := hm.k.1
 have hw := hm.w.1
 have ha := hm.a
 unfold Lim at hcl hdl hk hw ha
 refine en Tryz.func11 Tryz.ntmps11 [.tmp 2] rfl ?_
 try (refine wg ?_; try refine sM fun K hK => ?_)
 refine zF (fun i : Nat => ⟨118, 0, [(1, true, .box 0 0), (3, true, .raw (.int .i64 (zTd (m.evidence.chains.take i)))), (4, true, .raw (.int .i64 i))], [m.av], [], ((0, []), [], true)⟩)
  (fun i => (i ≤ m.evidence.chains.length ∧ i ≤ 10) ∧ zTd (m.evidence.chains.take i) ≤ i * 100000000000000 ∧ ∀ j, j < i → (m.evidence.chains.getD j default).rounds.length ≤ 5) (fun i => m.evidence.chains.length - i) 0 ?_ ⟨⟨by omega, by omega⟩, by simp [zTd], fun i h => by omega⟩ ?_
 ·simp only [yMi]
  exact wkZ
 rintro i ⟨⟨hi, hi10⟩, hrep, hall⟩
 by_cases hgo : i < m.evidence.chains.length ∧ i < 10
 ·obtain ⟨hlt, hlt10⟩ := hgo
  have hcm := hch _ (w9 hlt)
  have hrl := hcm.2.1
  have hrr := hcm.2.2
  unfold Lim at hrl
  have hs := zTc m.evidence.chains hlt
  have hfr : (lA 1 yK.av (m.evidence.chains.getD i default).rounds).free := zC (fun y => yK.free y) _
  generalize hR0 : zTd (m.evidence.chains.take i) = R0 at *
  try (refine wg ?_; try refine sM fun K hK => ?_)
  refine zA ⟨_, evl, fun _ => ?_, fun hb => absurd hb (by simp; omega)⟩
  try (refine wg ?_; try refine sM fun K hK => ?_)
  refine zA ⟨_, evl, fun hb => ?_, fun hb => ?_⟩
  ·have hno : ¬ yBc m := fun h => by
    have := h.1 i hlt hlt10
    have := yNw hb
    omega
   rw [yO4 hno]
   try (refine wg ?_; try refine sM fun K hK => ?_)
   all_goals exact fA
  ·have h5 : (m.evidence.chains.getD i default).rounds.length ≤ 5 := by have := yOc hb; omega
   try (refine wg ?_; try refine sM fun K hK => ?_)
   refine zF (fun k : Nat => ⟨118, 0, [(1, true, .box 0 0), (3, true, .raw (.int .i64 ((R0 : Int) + zQq ((m.evidence.chains.getD i default).rounds.take k)))), (4, true, .raw (.int .i64 i)), (5, true, .raw (.int .i64 k))], [m.av], [], ((0, []), [], true)⟩)
    (fun k => k ≤ (m.evidence.chains.getD i default).rounds.length) (fun k => (m.evidence.chains.getD i default).rounds.length - k) 0 ?_ (by omega) ?_
   ·simp only [yMi, show zQq [] = 0 from rfl, Int.natCast_zero, Int.add_zero]
    exact wkZ
   ·intro k hk
    rcases yKt k (m.evidence.chains.getD i default).rounds.length with hkl | hkg
    ·have hsr := zJw (m.evidence.chains.getD i default).rounds hkl
     have hb1 := zTb hrr k hk
     have hb2 := (hrr _ (w9 hkl)).1
     have hfp : (lA 10 zN.av ((m.evidence.chains.getD i default).rounds.getD k default).replies).free := zC (fun y => zN.free y) _
     unfold Lim at hb2
     generalize zQq ((m.evidence.chains.getD i default).rounds.take k) = R1 at *
     try (refine wg ?_; try refine sM fun K hK => ?_)
     refine zA ⟨_, evl, fun _ => ?_, fun hb => absurd (yOc hb) (by omega)⟩
     try (refine wg ?_; try refine sM fun K hK => ?_)
     refine ⟨k + 1, by omega, by omega, ?_⟩
     rw [hsr, Int.natCast_add, ← Int.add_assoc]
     exact wkZ
    ·obtain rfl : k = (m.evidence.chains.getD i default).rounds.length := by omega
     have hb1 := zTb hrr _ (yKq _)
     rw [yNt] at hb1 ⊢
     try (refine wg ?_; try refine sM fun K hK => ?_)
     refine zA ⟨_, evl, fun hb => absurd (yNw hb) (by omega), fun _ => ?_⟩
     try (refine wg ?_; try refine sM fun K hK => ?_)
     refine ⟨i + 1, ⟨⟨by omega, by omega⟩, by rw [hs]; omega, fun j hj => ?_⟩, by omega, ?_⟩
     ·rcases yNv.1 hj with h | rfl
      ·exact hall j h
      ·exact h5
     ·rw [hs]
      exact wkZ
 ·have ht : m.evidence.chains.take i = m.evidence.chains.take 10 := by
   rcases yKt i 10 with h | h
   ·obtain rfl : i = m.evidence.chains.length := by omega
    rw [yNt, yO1 (by omega)]
   ·rw [show i = 10 by omega]
  rw [ht] at hrep ⊢
  have hall2 : ∀ j, j < m.evidence.chains.length → j < 10 → (m.evidence.chains.getD j default).rounds.length ≤ 5 := fun j h1 h2 => hall j (by omega)
  clear hall ht
  generalize hR : zTd (m.evidence.chains.take 10) = R at *
  try (refine wg ?_; try refine sM fun K hK => ?_)
  refine zA ⟨_, evl, fun hb => absurd hb (by simp; omega), fun _ => ?_⟩
  try (refine wg ?_; try refine sM fun K hK => ?_)
  refine zF (fun i : Nat => ⟨118, 0, [(1, true, .box 0 0), (3, true, .raw (.int .i64 R)), (6, true, .raw (.int .i64 i))], [m.av], [], ((0, []), [], true)⟩)
   (fun i => (i ≤ m.diaries.length ∧ i ≤ 10) ∧ ∀ j, j < i → (m.diaries.getD j default).sent.length ≤ 10 ∧ (m.diaries.getD j default).got.length ≤ 10) (fun i => m.diaries.length - i) 0 ?_ ⟨⟨by omega, by omega⟩, fun i h => by omega⟩ ?_
  ·exact wkZ
  rintro i ⟨⟨hi, hi10⟩, hall⟩
  by_cases hgo : i < m.diaries.length ∧ i < 10
  ·obtain ⟨hlt, hlt10⟩ := hgo
   have hfs := qY (m.diaries.getD i default).sent
   try (refine wg ?_; try refine sM fun K hK => ?_)
   refine zA ⟨_, evl, fun _ => ?_, fun hb => absurd hb (by simp; omega)⟩
   try (refine wg ?_; try refine sM fun K hK => ?_)
   refine zA ⟨_, evl, fun hb => ?_, fun hb => ?_⟩
   ·have hno : ¬ yBc m := fun h => by
     have := h.2.1 i hlt hlt10
     simp only [yMy, yLr] at hb
     omega
    rw [yO4 hno]
    try (refine wg ?_; try refine sM fun K hK => ?_)
    all_goals exact fA
   ·simp only [yN1, yMz] at hb
    try (refine wg ?_; try refine sM fun K hK => ?_)
    refine ⟨i + 1, ⟨⟨by omega, by omega⟩, fun j hj => ?_⟩, by omega, ?_⟩
    ·rcases yNv.1 hj with h | rfl
     ·exact hall j h
     ·omega
    ·exact wkZ
  ·have he : decide (yBc m) = (decide ((m.evidence.chains.length : Int) ≤ 3) && decide ((m.diaries.length : Int) ≤ 4) && decide ((R : Int) ≤ 12) && decide ((m.evidence.keys.length : Int) ≤ 20) && decide ((m.wires.length : Int) ≤ 20) && decide ((m.evidence.auths.length : Int) ≤ 20)) := by
    rw [yLb]
    simp only [yLq, yLr, yBc, hR]
    constructor
    ·rintro ⟨-, -, h1, h2, h3, h4, h5, h6⟩
     omega
    ·rintro ⟨⟨⟨⟨⟨h1, h2⟩, h3⟩, h4⟩, h5⟩, h6⟩
     exact ⟨hall2, fun j h1 h2 => hall j (by omega), by omega, by omega, by omega, by omega, by omega, by omega⟩
   rw [he]
   clear he hall hall2 hR
   try (refine wg ?_; try refine sM fun K hK => ?_)
   refine zA ⟨_, evl, fun hb => absurd hb (by simp; omega), fun _ => ?_⟩
   try (refine wg ?_; try refine sM fun K hK => ?_)
   all_goals exact fA
theorem yAt {rs : List yK} {r : yK} (h : r ∈ rs) : r.replies.length ≤ zQq rs := by
 unfold zQq
 induction rs with
 | nil => cases h
 | cons x l ih =>
  rw [yLt, List.sum_cons]
  rcases yLf.1 h with rfl | h
  ·omega
  ·have := ih h; omega
theorem yAu {cs : List xA} {c : xA} (h : c ∈ cs) : zQq c.rounds ≤ zTd cs := by
 unfold zTd
 induction cs with
 | nil => cases h
 | cons x l ih =>
  rw [yLt, List.sum_cons]
  rcases yLf.1 h with rfl | h
  ·omega
  ·have := ih h; omega
theorem zPg (i : Nat) (rs : List yK) (a : Int) : ∀ j, (xM i rs a j).1.length = j
 | 0 => rfl
 | j + 1 => by simp [xM, zPg i rs a j]
theorem zVh {cs : List xA} (h : ∀ i, i < cs.length → (cs.getD i default).rounds.length ≤ 5) : ∀ k, k ≤ cs.length → (evM cs k).1.length ≤ 5 * k
 | 0, _ => by simp [evM]
 | k + 1, hk => by
  have h1 := zVh h k (by omega)
  have h2 := h k (by omega)
  simp only [evM, yL5, zPg]
  omega
theorem yDv {m : zL} (hm : zCy m) (hf : yBc m) : OkM m ∧ BOk m := by
 obtain ⟨h1, h2, h3, h4, h5, h6, h7, h8⟩ := hf
 rw [yO1 (by omega)] at h5
 have hr : ∀ c ∈ m.evidence.chains, ∀ r ∈ c.rounds, r.replies.length ≤ 12 := fun c hc r hr => by
  have := yAt hr
  have := yAu hc
  omega
 refine ⟨⟨by omega, hm.k.2, by omega, by omega, fun w hw => by have := hm.w.2 w hw; unfold Lim at this; omega, by omega, fun c hc => ?_, by omega, fun d hd => ?_⟩, zW2 m ?_ fun e he => ?_⟩
 ·obtain ⟨c1, c2, c3⟩ := hm.c.2 c hc
  unfold Lim at c2
  exact ⟨by omega, c1, fun r hrm => ⟨by have := hr c hc r hrm; omega, (c3 r hrm).2⟩⟩
 ·obtain ⟨d1, d2, d3⟩ := hm.d.2 d hd
  unfold Lim at d1
  exact ⟨by omega, fun g hg => by have := d3 g hg; unfold Lim at this; omega⟩
 ·have := zVh (cs := m.evidence.chains) (fun i hi => h1 i hi (by omega)) m.evidence.chains.length (yKq _)
  unfold evL
  omega
 ·obtain ⟨i, k, e1, e2, rfl⟩ := zDm (yKq _) he
  have := hr _ (w9 e1) _ (w9 e2)
  simp only
  omega
end Go.Proofs.YtchpbdecipcelaaGreatDoor
