import Derived.Handed
import Derived.LaidMore
import Derived.Test.YtioaahmkebojiaaGreatDoorRows
import Derived.Test.YtioaahmkebojiaaGreatDoorWC08
import Derived.Test.YtioaahmkebojiaaGreatDoorWC49
namespace Go.Proofs.YtioaahmkebojiaaGreatDoor
set_option linter.unusedVariables false
set_option linter.unusedSimpArgs false
set_option maxHeartbeats 4000000
set_option maxRecDepth 100000
open Go.RowKit
theorem zNf {n : Nat} {xs : List AV} (h : zS tbl (n + 1) 3 xs) : ∃ m : Int, xs = [.raw (.int .i64 m)] ∧ inK .i64 m := by
 simp only [zS, qO, yNm, yOa, yN3, yN2, zIm] at h
 exact h
theorem qJ {α : Type} [Inhabited α] {av : α → List AV} {Q : α → Prop} {sz m : Nat} {el : Nat → List AV} (h : ∀ i, i < m → ∃ c : α, zB8 (el i) (av c) ∧ Q c) : ∃ l : List α, Sim (.lst sz m el) (lA sz av l) ∧ (∀ c ∈ l, Q c) ∧ l.length = m := by
 have hc : ∀ i, ∃ c : α, i < m → zB8 (el i) (av c) ∧ Q c := fun i => by
  by_cases hi : i < m
  ·obtain ⟨c, h1⟩ := h i hi
   exact ⟨c, fun _ => h1⟩
  ·exact ⟨default, fun h => absurd h hi⟩
 refine ⟨(List.range m).map fun i => (hc i).choose, ?_, fun c hcm => ?_, by simp⟩
 ·refine Sim.lst sq fun i hi => ?_
  have : ((List.range m).map fun i => (hc i).choose).getD i default = (hc i).choose := by simp [hi]
  simp only [els, this]
  exact ((hc i).choose_spec hi).1
 ·obtain ⟨i, hi, rfl⟩ := yO6.1 hcm
  exact ((hc i).choose_spec (yOv.1 hi)).2
theorem zEf {m : Nat} {el : Nat → List AV} (h : ∀ i, i < m → ∃ k : Int, el i = [.raw (.int .i64 k)] ∧ inK .i64 k) : ∃ l : List Int, Sim (.lst 1 m el) (liA l) ∧ (∀ x ∈ l, inK .i64 x) ∧ l.length = m :=
 qJ (av := iC) fun i hi => by
  obtain ⟨k, h1, h2⟩ := h i hi
  exact ⟨k, zB8.of_eq h1, h2⟩
theorem zPa {n : Nat} {xs : List AV} (h : zS tbl (n + 5) 80 xs) : ∃ c : yS, zB8 xs c.av ∧ c.fits := by
 simp only [zS, qO, yNm, yOa, yN3, yN2, zIm, yAj, yAg, zWl] at h
 obtain ⟨a, b, rfl, -, ⟨m0, e0, rfl, hm0, h0⟩, a, b, rfl, -, ⟨m1, e1, rfl, hm1, h1⟩, a, b, rfl, -, ⟨m2, e2, rfl, hm2, h2⟩, rfl⟩ := h
 obtain ⟨l0, s0, f0, g0⟩ := zEf (el := e0) fun i hi => (h0 i hi).2
 obtain ⟨l1, s1, f1, g1⟩ := zEf (el := e1) fun i hi => (h1 i hi).2
 obtain ⟨l2, s2, f2, g2⟩ := qJ (av := liC) (sz := 1) (el := e2) (m := m2) (Q := fun r : List Int => r.length ≤ maxLen ∧ ∀ x ∈ r, inK .i64 x) fun i hi => by
  obtain ⟨-, m3, e3, he, hm3, h3⟩ := h2 i hi
  obtain ⟨l3, s3, f3, g3⟩ := zEf (el := e3) fun i hi => (h3 i hi).2
  rw [he]
  exact ⟨l3, ⟨s3, trivial⟩, by omega, f3⟩
 exact ⟨⟨l0, l1, l2⟩, ⟨s0, s1, s2, trivial⟩, ⟨by simp only; omega, f0⟩, ⟨by simp only; omega, f1⟩, by simp only; omega, f2⟩
theorem zRw {n : Nat} {xs : List AV} (h : zS tbl (n + 3) 87 xs) : ∃ c : xY, zB8 xs c.av ∧ True := by
 simp only [zS, qO, yNm, yOa, yN3, yN2, zIm, yAk, zWj] at h
 obtain ⟨a,b,rfl,-,⟨m0,rfl,h0⟩,a,b,rfl,-,⟨m1,rfl,h1⟩,a,b,rfl,-,⟨a,b',rfl,-,⟨m2,rfl,h2⟩,a,b',rfl,-,⟨m3,rfl,h3⟩,rfl⟩,a,b,rfl,-,⟨a,b',rfl,-,⟨m4,rfl,h4⟩,a,b',rfl,-,⟨m5,rfl,h5⟩,rfl⟩,rfl⟩ := h
 exact ⟨⟨m0, m1, ⟨m2, m3⟩, ⟨m4, m5⟩⟩, zB8.of_eq rfl, trivial⟩
theorem zRx {n : Nat} {xs : List AV} (h : zS tbl (n + 2) 103 xs) : ∃ c : vA, zB8 xs c.av ∧ True := by
 simp only [zS, qO, yNm, yOa, yN3, yN2, zIm, zQi] at h
 obtain ⟨a, b, rfl, -, ⟨m0, rfl, h0⟩, a, b, rfl, -, ⟨m1, rfl, h1⟩, a, b, rfl, -, ⟨m2, rfl, h2⟩, a, b, rfl, -, ⟨m3, rfl, h3⟩, rfl⟩ := h
 exact ⟨⟨m0, m1, m2, m3⟩, zB8.of_eq rfl, trivial⟩
theorem zRt {n : Nat} {xs : List AV} (h : zS tbl (n + 5) 84 xs) : ∃ c : zFl, zB8 xs c.av ∧ True := by
 simp only [zS, qO, yNm, yOa, yN3, yN2, zIm, yAf, zWk, zXh] at h
 obtain ⟨a, b, rfl, -, ⟨m0, rfl, h0⟩, a, b, rfl, -, ⟨m1, rfl, h1⟩, a, b, rfl, -, ⟨m, el, rfl, hm, hel⟩, rfl⟩ := h
 obtain ⟨l, hl, -, -⟩ := qJ (av := Change.av) (Q := fun _ => True) (sz := 5) (m := m) (el := el) fun i hi => by
  obtain ⟨a, b, e, -, ⟨m0, rfl, h0⟩, a, b, rfl, -, ⟨m1, rfl, h1⟩, a, b, rfl, -, ⟨m2, rfl, h2⟩, a, b, rfl, -, ⟨m3, rfl, h3⟩, a, b, rfl, -, ⟨m4, rfl, h4⟩, rfl⟩ := (hel i hi).2
  exact ⟨⟨m0, m1, m2, m3, m4⟩, zB8.of_eq e, trivial⟩
 exact ⟨⟨m0, m1, l⟩, ⟨Sim.refl _, Sim.refl _, hl, trivial⟩, trivial⟩
theorem zRu {k : Nat} {xs : List AV} (h : zS tbl (k + 2) 27 xs) : ∃ (m0 : Nat) (e0 : Nat → List AV) (m1 : Nat) (e1 : Nat → List AV) (m2 : Nat) (e2 : Nat → List AV) (m3 : Nat) (e3 : Nat → List AV) (n4 n5 n6 : Int),
  xs = [.lst 3 m0 e0, .lst 6 m1 e1, .lst 4 m2 e2, .lst 3 m3 e3, .raw (.int .i64 n4), .raw (.int .i64 n5), .raw (.int .i64 n6)] ∧ (∀ i, i < m0 → zS tbl k 80 (e0 i)) ∧ (∀ i, i < m1 → zS tbl k 87 (e1 i)) ∧ (∀ i, i < m2 → zS tbl k 103 (e2 i)) ∧ ∀ i, i < m3 → zS tbl k 84 (e3 i) := by
 simp only [zS, qO, yNm, yOa, yAx, yB1, yB0, yAz, yAy, zIm, zWl, zWj, zQi, zWk] at h
 obtain ⟨a,b,rfl,-,⟨m0,e0,rfl,-,h0⟩,a,b,rfl,-,⟨m1,e1,rfl,-,h1⟩,a,b,rfl,-,⟨m2,e2,rfl,-,h2⟩,a,b,rfl,-,⟨m3,e3,rfl,-,h3⟩,a,b,rfl,-,⟨n4,rfl,-⟩,a,b,rfl,-,⟨n5,rfl,-⟩,a,b,rfl,-,⟨n6,rfl,-⟩,rfl⟩ := h
 exact ⟨m0, e0, m1, e1, m2, e2, m3, e3, n4, n5, n6, rfl, fun i hi => (h0 i hi).2, fun i hi => (h1 i hi).2, fun i hi => (h2 i hi).2, fun i hi => (h3 i hi).2⟩
theorem zUv {n : Nat} {xs : List AV} (h : zS tbl (n + 5 + 2) 27 xs) : ∃ c : Net, Sim (.agg xs) (.agg c.av) ∧ ∀ t ∈ c.tables, t.fits := by
 obtain ⟨m0, e0, m1, e1, m2, e2, m3, e3, n4, n5, n6, rfl, h0, h1, h2, h3⟩ := zRu h
 obtain ⟨ts, s0, f0, -⟩ := qJ (av := yS.av) (Q := yS.fits) (sz := 3) (m := m0) (el := e0) fun i hi => zPa (n := n) (h0 i hi)
 obtain ⟨hs, s1, -, -⟩ := qJ (av := xY.av) (Q := fun _ => True) (sz := 6) (m := m1) (el := e1) fun i hi => zRw (n := n + 2) (h1 i hi)
 obtain ⟨al, s2, -, -⟩ := qJ (av := vA.av) (Q := fun _ => True) (sz := 4) (m := m2) (el := e2) fun i hi => zRx (n := n + 3) (h2 i hi)
 obtain ⟨ws, s3, -, -⟩ := qJ (av := zFl.av) (Q := fun _ => True) (sz := 3) (m := m3) (el := e3) fun i hi => zRt (n := n) (h3 i hi)
 exact ⟨⟨ts, hs, al, ws, n4, n5, n6⟩, Sim.agg ⟨s0, s1, s2, s3, Sim.refl _, Sim.refl _, Sim.refl _, trivial⟩, f0⟩
theorem zRv {n : Nat} {xs : List AV} (h : zS tbl (n + 4) 43 xs) : ∃ id base count part err u v i1 i2 i3 i4 i5 i6 i7 i8 i9 n1 n2 n3 n4 n5 n6, Sim (.agg xs) (.agg (zHs id base count part err u v i1 i2 i3 i4 i5 i6 i7 i8 i9 n1 n2 n3 n4 n5 n6)) ∧ inK .i64 base ∧ inK .i64 err := by
 simp only [zS, qO, yNm, yOa, yAm, zIm, yI0, yAv, yAw, yAu, yAt, yAh, yAs, zXg, yAr, yAi, yAo, yAq, zXf, yAp, zXe, yAn, yGx] at h
 obtain ⟨a,b,rfl,-,⟨m0,rfl,h0⟩,a,b,rfl,-,⟨m1,rfl,h1⟩,a,b,rfl,-,⟨m2,rfl,h2⟩,a,b,rfl,-,⟨m3,rfl,h3⟩,a,b,rfl,-,⟨m4,rfl,h4⟩,a,b,rfl,-,⟨u,rfl⟩,a,b,rfl,-,⟨v,rfl⟩,h⟩ := h
 obtain ⟨a,b,rfl,-,⟨a,b',rfl,-,⟨i1,rfl,-⟩,a,b',rfl,-,⟨a,b'',rfl,-,⟨i2,rfl,-⟩,a,b'',rfl,-,⟨i3,rfl,-⟩,rfl⟩,rfl⟩,a,b,rfl,-,⟨a,b',rfl,-,⟨i4,rfl,-⟩,a,b',rfl,-,⟨i5,rfl,-⟩,a,b',rfl,-,⟨i6,rfl,-⟩,rfl⟩,h⟩ := h
 obtain ⟨a, b, rfl, -, ⟨n1, e1, rfl, -, -⟩, a, b, rfl, -, ⟨i7, rfl, -⟩, a, b, rfl, -, ⟨i8, rfl, -⟩, a, b, rfl, -, ⟨n2, e2, rfl, -, -⟩, a, b, rfl, -, ⟨n3, e3, rfl, -, -⟩, h⟩ := h
 obtain ⟨a, b, rfl, -, ⟨a, b', rfl, -, ⟨i9, rfl, -⟩, a, b', rfl, -, ⟨n4, e4, rfl, -, -⟩, a, b', rfl, -, ⟨n5, e5, rfl, -, -⟩, rfl⟩, a, b, rfl, -, ⟨n6, e6, rfl, -, -⟩, rfl⟩ := h
 exact ⟨m0,m1,m2,m3,m4,u,v,i1,i2,i3,i4,i5,i6,i7,i8,i9,n1,n2,n3,n4,n5,n6,Sim.agg ⟨Sim.refl _,Sim.refl _,Sim.refl _,Sim.refl _,Sim.refl _,Sim.refl _,Sim.refl _,Sim.refl _,Sim.refl _,Sim.refl _,Sim.refl _,Sim.refl _,Sim.refl _,Sim.len,Sim.refl _,Sim.refl _,Sim.len,Sim.len,Sim.refl _,Sim.len,Sim.len,Sim.len,trivial⟩,h1,h4⟩
theorem zP8 {n : Nat} {xs : List AV} (h : zS tbl (n + 2) 44 xs) : ∃ a b c : Int, xs = [.raw (.int .i64 a), .raw (.int .i64 b), .raw (.int .i64 c)] ∧ inK .i64 a ∧ inK .i64 b ∧ inK .i64 c := by
 simp only [zS, qO, yN3, yN2, yAl, zIm] at h
 obtain ⟨a, b, rfl, -, ⟨m0, rfl, h0⟩, a, b, rfl, -, ⟨m1, rfl, h1⟩, a, b, rfl, -, ⟨m2, rfl, h2⟩, rfl⟩ := h
 exact ⟨m0, m1, m2, rfl, h0, h1, h2⟩
theorem zDw {x0 x1 x2 x3 x4 : List AV} (k0 : zS tbl 30 27 x0) (k1 : zS tbl 30 43 x1) (k2 : zS tbl 30 3 x2) (k3 : zS tbl 30 3 x3) (k4 : zS tbl 30 44 x4) :
  FnA Tryz.prog 3 [zWh true x0, zWh true x1, zWh false x2, zWh false x3, zWh true x4] (.raw (.bool true)) := by
 obtain ⟨n, h0, hf⟩ := zUv k0
 obtain ⟨id, base, count, part, err0, u, v, i1, i2, i3, i4, i5, i6, i7, i8, i9, n1, n2, n3, n4, n5, n6, h1, b1, b2⟩ := zRv k1
 obtain ⟨rate, rfl, b3⟩ := zNf k2
 obtain ⟨e, rfl, b4⟩ := zNf k3
 obtain ⟨t0, t1, t2, rfl, b5, b6, b7⟩ := zP8 k4
 exact FnA.sim (zMb zYn n hf id base count part err0 u v i1 i2 i3 i4 i5 i6 i7 i8 i9 n1 n2 n3 n4 n5 n6 rate e t0 t1 t2 ⟨b1, b2, b3, b4, b5, b6, b7⟩) ⟨h0, h1, Sim.of_eq rfl, Sim.of_eq rfl, Sim.of_eq rfl, trivial⟩
theorem zQr {W : World} (h : W.ShapedOpen Tryz.prog) : ∀ g, zIp Tryz.prog g → zTx W g := by
 intro g hg
 have e1 : (Tryz.prog.globalNamed "strings.asciiSpace").map (fun g => (decide (g < Tryz.prog.globals.size), ((((begin Tryz.prog (fun _ _ => 0) default).world.heap[g]?).bind Obj.row?).map fun x => (x.1.size, x.2, Tryz.prog.buildable x.2, (Tryz.prog.cellTypes Tryz.prog.depth x.2).map fun ts => ts.all (fun u => u == 5) && !ts.isEmpty)))) = some (true, some (256, 531, true, some true)) := by kernel_rfl
 rw [show Tryz.prog.globalNamed "strings.asciiSpace" = some g from hg, yMw, yMc, yMu] at e1
 obtain ⟨e2, e3⟩ := e1
 obtain ⟨⟨z, t⟩, h0, e4⟩ := yMx.1 e3
 simp only [yMu] at e4
 obtain ⟨e5, rfl, e6, e7⟩ := e4
 obtain ⟨ts, hts, e8⟩ := yMx.1 e7
 obtain ⟨cs, hh, hsz, hr⟩ := h.1 g z _ (yPn e2) h0
 obtain ⟨ts', hts', _, hall⟩ := hr e6
 obtain rfl := yPc (hts.symm.trans hts')
 refine ⟨cs, _, _, hh, fun c hc => ?_⟩
 have hlt : c < cs.size := by rw [hsz, e5]; exact hc
 obtain ⟨u, hu, hok⟩ := hall c cs[c] (yMp hlt)
 rw [yNj, yP7] at e8
 have hu8 : u = 5 := by simpa using e8.1 u (yNr hu)
 subst hu8
 unfold Cell.ok at hok
 rw [show Tryz.prog.underlying 5 = some (.int .u8) from by kernel_rfl] at hok
 rw [yMp hlt]
 cases hv : cs[c] <;> rw [hv] at hok <;> simp at hok
 exact ⟨_, by rw [hok.1]⟩
theorem zFp {W : World} (hsh : W.ShapedOpen Tryz.prog) (h : laidMetH Tryz.prog [("math/bits.deBruijn32tab", Rows.laid_math_bits_deBruijn32tab), ("math/bits.deBruijn64tab", Rows.laid_math_bits_deBruijn64tab), ("internal/strconv.uint64pow10", Rows.laid_internal_strconv_uint64pow10)] W) : zFm Tryz.prog W := by
 refine ⟨fun g hg => ?_, zQr hsh⟩
 rw [MakeChecks.laidMetH_plain _ _ _ kq] at h
 obtain ⟨ps, ⟨g0, t0, cs0, f0, p0, q0, hg0, ht0, hv0, hd0, ⟨g1, t1, cs1, f1, p1, q1, hg1, ht1, hv1, hd1, ⟨g2, t2, cs2, f2, p2, q2, hg2, ht2, hv2, hd2, _, _⟩, _⟩, _⟩, _, _⟩ := h
 obtain rfl := yPc (hg.symm.trans hg2)
 obtain ⟨t, e, n, k1, k2, k3, k4, k5⟩ : ∃ t e n, (Tryz.prog.globals[g]?).map (·.type) = some t ∧ Tryz.prog.underlying t = some (.array n e) ∧ Tryz.prog.underlying e = some (.int .u64) ∧ Tryz.prog.cellsOf e = 1 ∧ Tryz.prog.cellsOf t = n := by
  obtain rfl : g = 2 := yPc (hg2.symm.trans (show Tryz.prog.globalNamed "internal/strconv.uint64pow10" = some 2 by kernel_rfl))
  exact ⟨495, 141, 20, by kernel_rfl, by kernel_rfl, by kernel_rfl, by kernel_rfl, by kernel_rfl⟩
 obtain rfl := yPc (k1.symm.trans ht2)
 unfold Lib.TabIs
 rw [hv2]
 have hd2' : DataW.trod (fun _ => ()) Tryz.prog W 0 (fun _ => true) false f2 t cs2.toList = some (Lib.tabData .u64 Lib.pow10Tab, p2) := hd2
 rw [← Lib.cells_of_tab k2 k3 k4 k5 hd2']
theorem zL9 {H : Type} {enc : TypeId × Value → H} {C : Checked} {os : Os} {f : FuncId} {fn : Func} {s : ChangeSpec} {X : World → Array Value → Prop} (hX : ∀ (w w' : World) (args : Array Value), w.heap = w'.heap → X w args → X w' args)
  (own : ownKnob C.prog.godebug = none) (started : os.Started) (noInit : C.prog.inits.idxOf? f = none) (hfn : C.prog.funcs[f]? = some fn)
  (witness : ∃ (w : World) (tape : Tape) (i : Input), w.os = os ∧ (w.forCall tape i).Shaped C.prog ∧ i.vars = [] ∧ Input.okWide C.prog (w.forCall tape i) .any w.heap.size f i ∧
   ((s.pre enc C.prog fn [] false (w.forCall tape i).memory i.args ∧ X (w.forCall tape i).memory i.args) ∧ sizedMet enc C.prog fn (OpenSpec.ofChange s) false (w.forCall tape i).memory i.args) ∧ Assume.holds {} C.prog (lone (Frame.enter C.prog f i.args .normal) [] (w.forCall tape i)))
  (contract : ∀ (W : World) (base : Nat) (args : Array Value) (ds gs : List (DataW H)) (before : List MemPlace), (∀ (j : Nat) t v, fn.params[j]? = some t → args[j]? = some v → Value.okWide C.prog W .any base t v) →
   DataW.Whole enc C.prog fn.params.toList s.vars false W args.toList ds gs before → (DataW.weightsEach C.prog (fn.params.toList ++ s.plain.varTypes C.prog) (ds ++ gs)).all (· ≤ reachBytes) = true → X W args → W.ShapedOpen C.prog →
   Calls C.prog f args W fun e W' => ∃ v, e = .returned v ∧ s.post enc C.prog fn false true false false W args v W') :
  ReturnsInHanded {} C os f .any (fun w args => (s.pre enc C.prog fn [] false w args ∧ X w args) ∧ sizedMet enc C.prog fn (OpenSpec.ofChange s) false w args) (s.post enc C.prog fn false true false false) :=
 returnsInHanded_of_calls own started noInit witness fun w tape i _ hshape _ hin hp _ => by
  obtain ⟨_, _, _, g, hg, _, _, _, _, hvals⟩ := hin
  cases yPc (hg.symm.trans hfn)
  obtain ⟨⟨⟨ds, gs, before, hw, _⟩, hx⟩, hz⟩ := hp
  exact (contract _ w.heap.size i.args ds gs before hvals (DataW.Whole.of_heap (w' := w.forCall tape i) (by rfl) hw) (hz.weights hw) (hX _ _ _ (by rfl) hx) hshape).mono fun e W' hr => by
   obtain ⟨v, rfl, hpost⟩ := hr
   exact ChangeSpec.post_blind hpost
end Go.Proofs.YtioaahmkebojiaaGreatDoor
