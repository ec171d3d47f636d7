import Derived.Test.YtioaahmkebojiaaGreatDoorWC01
import Derived.Laws.AppendOwn
import Derived.Lib.AppendStr
import Derived.Test.YtioaahmkebojiaaGreatDoorWC03
namespace Go.Proofs.YtioaahmkebojiaaGreatDoor
set_option linter.unusedVariables false
set_option linter.unusedSimpArgs false
set_option maxHeartbeats 4000000
set_option maxRecDepth 100000
open Go.RowKit

theorem zKc {P : Program} {w : World} {t ty e : TypeId} {i : TypeInfo} {z : Value} (ht : P.underlying t = some (.slice e)) (hi : P.info? e = some i) (hz : i.zero = some z) (hzs : z.cells.size = i.size)
    {v : Value} {n : Nat} {xs : List Value} (hown : w.ownsRow 0 e i.size v n xs) {A : Option Addr} {m c : Nat} {news : List Value} (hl : news.length = m * i.size) (hA : 0 < m → ∃ a, A = some a ∧ ∀ j u, news[j]? = some u → w.cell? (a.add j) = some u)
    (h1 : ∀ u ∈ news, u.oneCell' = true) (h63 : n + m ≤ maxLen) (hbytes : (n + m) * i.bytes ≤ 140737488355328) :
    ∃ v' w', (Builtin.append_ #[t, t] ty #[v, .slice A m c]).run P w = .ok v' w' ∧ w'.ownsRow 0 e i.size v' (n + m) (xs ++ news) ∧
      (((zC v') = (zC v) ∧ w.grownBy w' (zC v) ∧ w'.heap.size = w.heap.size ∧ (m = 0 → v' = v)) ∨ ((zC v') = some w.heap.size ∧ Below w.heap.size w w' ∧ 0 < m)) := by
  have hsmall : n + m ≤ 9223372036854775807 := by simp only [maxLen] at h63; omega
  have hlen : (xs ++ news).length = (n + m) * i.size := by rw [yN1, hown.1, hl, yN4]
  rcases yNc m with rfl | hm
  · have hn : news = [] := yMe (by simpa using hl)
    subst hn
    refine ⟨v, w, ?_, by simpa using hown, .inl ⟨rfl, ⟨rfl, rfl, rfl, yMj _, fun _ _ _ => rfl⟩, rfl, fun _ => rfl⟩⟩
    have hc : (Builtin.firstCells i.size 0 (.slice A 0 c)).run P w = .ok #[] w := by
      cases A <;> simp [Builtin.firstCells, loadCells, loadCellsFrom]
    rcases hown.2 with ⟨rfl, rfl⟩ | ⟨g, cap, cur, rfl, hbg, hg, hnc, hcm, hcs, htake⟩
    · simp [Builtin.append_, run_underlying ht, sizeOf, typeInfo, hi, Builtin.lenOf, hc]
    · simp [Builtin.append_, run_underlying ht, sizeOf, typeInfo, hi, Builtin.lenOf, hc, hnc, storeCells]
  obtain ⟨a, rfl, hnews⟩ := hA hm
  have grown : ∀ (old : Nat),
      (w.drew.alloc (.cells (xs.toArray ++ news.toArray ++ Builtin.zeroCells z.cells (grownCap w (n + m) old e - (n + m))) e)).ownsRow 0 e i.size
        (.slice (some ⟨w.heap.size, 0, none⟩) (n + m) (grownCap w (n + m) old e)) (n + m) (xs ++ news) := by
    intro old
    have hge := grownCap_ge w (n + m) old e
    have hcm : grownCap w (n + m) old e ≤ maxLen := grownCap_le_maxLen w (n + m) old e h63
    refine ⟨hlen, .inr ⟨w.heap.size, _, _, rfl, yMh _, heap_alloc_new w.drew _, hge, hcm, ?_, ?_⟩⟩
    · simp only [Array.size_append, yNx, size_zeroCells, hzs, hown.1, hl, ← yN4]
      congr 1
      omega
    · simp only [yOr, yOs]
      rw [← yOs, ← hlen]
      exact List.take_left
  have below : ∀ (cs : Array Value), Below w.heap.size w (w.drew.alloc (.cells cs e)) := fun cs => (Below.refl _ _).drew.alloc (yMj _) _
  rcases hown.2 with ⟨rfl, rfl⟩ | ⟨g, cap, cur, rfl, hbg, hg, hnc, hcm, hcs, htake⟩
  · have hx : xs = [] := yMe (by simpa using hown.1)
    subst hx
    have hr := run_append_nil (P := P) w t ty e i z ht hi hz a m c news hl hnews oq oq (by have hb := hbytes; simp only [yN9] at hb; omega)
    have hgr := grown 0
    simp only [yN9, yN8, Array.empty_append] at hgr ⊢
    exact ⟨_, _, hr, hgr, .inr ⟨rfl, below _, hm⟩⟩
  · by_cases hroom : n + m ≤ cap
    · have hfit : n * i.size + news.length ≤ cur.size := by rw [hl, hcs, ← yN4]; exact yNe _ hroom
      have hr := run_append_room (P := P) w t ty e i ht hi g n cap cur hg a m c news hl hnews h1 hroom hfit
      refine ⟨_, _, hr, ⟨hlen, .inr ⟨g, cap, _, rfl, hbg, setRow_heap w g cur _ e _ hg, hroom, hcm, ?_, ?_⟩⟩, .inl ⟨rfl, ⟨rfl, rfl, rfl, by simp, fun k _ hk => setRow_other w g k _ (fun e => hk (by simp [zC, e]))⟩, by simp, fun h => by omega⟩⟩
      · simp only [yNx, yN1, yOt, yOu, yNn]
        omega
      · rw [htake, ← hlen]
        exact List.take_left
    · have holds : ∀ j u, xs[j]? = some u → w.cell? ((⟨g, 0, none⟩ : Addr).add j) = some u := hown.cells (g := g) rfl
      have hr := run_append_grow (P := P) w t ty e i z ht hi hz ⟨g, 0, none⟩ n cap xs hown.1 holds a m c news hl hnews oq oq (growslice_fits oq hbytes)
      exact ⟨_, _, hr, grown cap, .inr ⟨rfl, below _, hm⟩⟩

def q8 (n : Nat) (el el' : Nat → List AV) (q : Nat) : List AV := bif Nat.blt q n then el q else el' (q - n)
theorem zDt {n q : Nat} {el el' : Nat → List AV} (h : q < n) : q8 n el el' q = el q := by
  unfold q8; rw [show Nat.blt q n = true from by simpa [yNz] using h]; rfl
theorem zBv {n q : Nat} {el el' : Nat → List AV} (h : n ≤ q) : q8 n el el' q = el' (q - n) := by
  unfold q8
  rw [show Nat.blt q n = false from by
    cases hb : Nat.blt q n
    · rfl
    · rw [yNz] at hb; omega]
  rfl

theorem jU {G : Gh} {w : World} {sz m : Nat} {el : Nat → List AV} {A : Option Addr} {cap : Nat} (hsz : 0 < sz) (h : (AV.lst sz m el).rel G w (.slice A m cap)) :
    ∃ news : List Value, news.length = m * sz ∧ (0 < m → ∃ a, A = some a ∧ ∀ j u, news[j]? = some u → w.cell? (a.add j) = some u) ∧
      (∀ i, i < m → ∃ vs, AV.relL G w (el i) vs ∧ vs.length = sz ∧ ∀ j u, vs[j]? = some u → news[i * sz + j]? = some u) ∧ ∀ u ∈ news, ∃ i, i < m ∧ ∃ vs, AV.relL G w (el i) vs ∧ u ∈ vs := by
  obtain ⟨A', cap', e, hmc, hcm, hm⟩ := h
  cases e
  rcases yNc m with rfl | hpos
  · exact ⟨[], by simp, fun h => by omega, fun i hi => by omega, fun u hu => by simp at hu⟩
  obtain ⟨b, o, rfl, hel⟩ := hm hpos
  have cell : ∀ i j, i < m → j < sz → ∃ vs u, AV.relL G w (el i) vs ∧ vs.length = sz ∧ vs[j]? = some u ∧ w.cell? ⟨b, o + i * sz + j, none⟩ = some u := by
    intro i j hi hj
    obtain ⟨vs, h1, h2, h3⟩ := hel i hi
    have h4 : vs[j]? = some (vs[j]'oq) := yNf oq
    exact ⟨vs, _, h1, h2, h4, (h3 j _ h4).2⟩
  refine ⟨(List.range (m * sz)).map fun q => (w.cell? ⟨b, o + q, none⟩).getD undef, by simp, fun _ => ⟨⟨b, o, none⟩, rfl, fun j u hj => ?_⟩, fun i hi => ?_, fun u hu => ?_⟩
  · rw [yNg] at hj
    have hjl : j < m * sz := by
      rcases yMn j (m * sz) with h | h
      · exact h
      · rw [yNw (by simpa using h)] at hj; cases hj
    rw [List.getElem?_range hjl] at hj
    simp only [yMw, yMc] at hj
    obtain ⟨vs, u', _, _, _, h5⟩ := cell (j / sz) (j % sz) (by rw [Nat.div_lt_iff_lt_mul hsz]; exact hjl) (Nat.mod_lt _ hsz)
    have hq : o + j / sz * sz + j % sz = o + j := by rw [Nat.add_assoc, Nat.mul_comm, Nat.div_add_mod]
    rw [hq] at h5
    have hadd : (⟨b, o, none⟩ : Addr).add j = ⟨b, o + j, none⟩ := by
      unfold Addr.add; split
      · rename_i h0; rw [h0]; rfl
      · rfl
    rw [hadd, h5, ← hj, h5]; rfl
  · obtain ⟨vs, h1, h2, h3⟩ := hel i hi
    refine ⟨vs, h1, h2, fun j u hj => ?_⟩
    have hjl : j < sz := by rw [← h2]; exact (yNd.1 hj).1
    have hle : (i + 1) * sz ≤ m * sz := yNe _ hi
    rw [Nat.succ_mul] at hle
    rw [yNg, List.getElem?_range oq]
    simp only [yMw, yMc]
    rw [show o + (i * sz + j) = o + i * sz + j from by omega, (h3 j u hj).2]; rfl
  · rw [yO6] at hu
    obtain ⟨q, hq, rfl⟩ := hu
    rw [yOv] at hq
    have hi : q / sz < m := by rw [Nat.div_lt_iff_lt_mul hsz]; exact hq
    obtain ⟨vs, u', h1, h2, h4, h5⟩ := cell (q / sz) (q % sz) hi (Nat.mod_lt _ hsz)
    have hqq : o + q / sz * sz + q % sz = o + q := by rw [Nat.add_assoc, Nat.mul_comm, Nat.div_add_mod]
    rw [hqq] at h5
    refine ⟨q / sz, hi, vs, h1, ?_⟩
    rw [h5]
    exact yNr h4

theorem zAj {P : Program} {e ty : TypeId} {j : TI} {ts : Array TypeId} {y : Value}
    {G : Gh} {w : World} (hj0 : 0 < j.size) (imOk : ∀ b o, G.imm b o → (w.cell? ⟨b, o, none⟩).isSome = true) {r : zV} {v : Value} (hr : zC0 G w r (r.n, v)) (hre : r.e = e) (hrs : r.sz = j.size) {xs : List Value} (hown : w.ownsRow 0 e j.size v r.n xs)
    (hel : ∀ i, i < r.n → ∃ vs, AV.relL G w (r.el i) vs ∧ vs.length = j.size ∧ ∀ q u, vs[q]? = some u → xs[i * j.size + q]? = some u)
    {m : Nat} {el : Nat → List AV} {news : List Value} (hl : news.length = m * j.size) (hnw : ∀ i, i < m → ∃ vs, AV.relL G w (el i) vs ∧ vs.length = j.size ∧ ∀ q u, vs[q]? = some u → news[i * j.size + q]? = some u)
    {v' : Value} {w' : World} (hrun : (Builtin.append_ ts ty #[v, y]).run P w = .ok v' w') (hown' : w'.ownsRow 0 e j.size v' (r.n + m) (xs ++ news))
    (hcase : ((zC v') = (zC v) ∧ w.grownBy w' (zC v) ∧ (m = 0 → v' = v ∧ w' = w)) ∨ ((zC v') = some w.heap.size ∧ Below w.heap.size w w' ∧ 0 < m)) :
    ∃ v' w' imm', (Builtin.append_ ts ty #[v, y]).run P w = .ok v' w' ∧ (∀ b o, G.imm b o → imm' b o ∧ w'.cell? ⟨b, o, none⟩ = w.cell? ⟨b, o, none⟩) ∧ (∀ b o, imm' b o → G.imm b o ∨ (zC v') = some b) ∧
      (∀ b o, imm' b o → (w'.cell? ⟨b, o, none⟩).isSome = true) ∧ zC0 ⟨imm', G.bx, G.rw⟩ w' ⟨e, j.size, r.n + m, q8 r.n r.el el⟩ (r.n + m, v') ∧ (m = 0 → v' = v ∧ w' = w ∧ imm' = G.imm) ∧
      (AV.lst j.size (r.n + m) (q8 r.n r.el el)).rel ⟨imm', G.bx, G.rw⟩ w' v' ∧
      (((zC v') = (zC v) ∧ w.grownBy w' (zC v)) ∨ ((zC v') = some w.heap.size ∧ Below w.heap.size w w')) := by
  have hxl : xs.length = r.n * j.size := hown.1
  have lt_imm : ∀ b o, G.imm b o → b < w.heap.size := fun b o h => by
    have := imOk b o h
    cases hc : w.cell? ⟨b, o, none⟩ with
    | none => rw [hc] at this; cases this
    | some u => exact World.block_lt_of_cell? w ⟨b, o, none⟩ hc
  have cellX : ∀ {w0 : World} {v0 : Value} {n0 : Nat} {ys : List Value}, w0.ownsRow 0 e j.size v0 n0 ys → ∀ g, (zC v0) = some g → ∀ o u, ys[o]? = some u → w0.cell? ⟨g, o, none⟩ = some u := fun h g hg o u hu => by
    have := h.cells ((zRr h).symm.trans hg) o u hu
    have hadd : (⟨g, 0, none⟩ : Addr).add o = ⟨g, o, none⟩ := by
      unfold Addr.add; split
      · rename_i h0; rw [h0]
      · simp
    rwa [hadd] at this
  have hcells : ∀ b o, G.imm b o → w'.cell? ⟨b, o, none⟩ = w.cell? ⟨b, o, none⟩ := by
    intro b o ib
    rcases hcase with ⟨c1, c2, _⟩ | ⟨c1, c2, _⟩
    · by_cases hb : (zC v) = some b
      · have ho := (hr.imm b hb o).1 ib
        rw [hrs] at ho
        have h3 : xs[o]? = some (xs[o]'oq) := yNf oq
        rw [cellX hown b hb o _ h3, cellX hown' b (c1.trans hb) o _ (by rw [yNt oq]; exact h3)]
      · exact World.cell?_of_block (w := w) (c2.block b (lt_imm b o ib) (fun h => hb h.symm))
    · exact c2.cell (p := ⟨b, o, none⟩) (lt_imm b o ib)
  have le : G.Le w ⟨fun b o => G.imm b o ∨ ((zC v') = some b ∧ o < (r.n + m) * j.size), G.bx, G.rw⟩ w' := ⟨fun _ _ h => .inl h, hcells, fun _ _ h => h, fun _ e h => ⟨e, h, .inl rfl⟩⟩
  have hlen' : (xs ++ news).length = (r.n + m) * j.size := hown'.1
  have hels : ∀ q, q < r.n + m → ∃ vs, AV.relL ⟨fun b o => G.imm b o ∨ ((zC v') = some b ∧ o < (r.n + m) * j.size), G.bx, G.rw⟩ w' (q8 r.n r.el el q) vs ∧ vs.length = j.size ∧ ∀ k u, vs[k]? = some u → (xs ++ news)[q * j.size + k]? = some u := by
    intro q hq
    by_cases hqn : q < r.n
    · obtain ⟨vs, h1, h2, h3⟩ := hel q hqn
      rw [zDt hqn]
      refine ⟨vs, AV.relL_mono le _ _ h1, h2, fun k u hku => ?_⟩
      have h4 := h3 k u hku
      rw [yNt (yNd.1 h4).1]
      exact h4
    · obtain ⟨vs, h1, h2, h3⟩ := hnw (q - r.n) oq
      rw [zBv oq]
      refine ⟨vs, AV.relL_mono le _ _ h1, h2, fun k u hku => ?_⟩
      have hsub : q * j.size = r.n * j.size + (q - r.n) * j.size := by rw [← yN4]; congr 1; omega
      rw [yNu (by rw [hxl]; omega), hxl, show q * j.size + k - r.n * j.size = (q - r.n) * j.size + k from by omega]
      exact h3 k u hku
  refine ⟨v', w', _, hrun, fun b o ib => ⟨.inl ib, hcells b o ib⟩, fun b o ib => ib.elim .inl fun h => .inr h.1, fun b o ib => ?_, ⟨rfl, ⟨xs ++ news, zG8.of hown' hj0, hels⟩, fun g hg o => ⟨fun ib => ?_, fun h => .inr ⟨hg, h⟩⟩⟩, fun hm0 => ?_, ?_, ?_⟩
  · rcases ib with ib | ⟨h1, h2⟩
    · rw [hcells b o ib]; exact imOk b o ib
    · rw [cellX hown' b h1 o _ (yNf oq)]; rfl
  · rcases ib with ib | ⟨_, h2⟩
    · rcases hcase with ⟨c1, _⟩ | ⟨c1, _⟩
      · have ho := (hr.imm g (c1.symm.trans hg) o).1 ib
        rw [hrs] at ho
        have : r.n * j.size ≤ (r.n + m) * j.size := yNe _ oq
        show o < (r.n + m) * j.size
        omega
      · rw [show (zC v') = some w.heap.size from c1] at hg
        simp only [yMc] at hg
        have := lt_imm g o ib
        omega
    · exact h2
  · rcases hcase with ⟨c1, c2, c4⟩ | ⟨_, _, c⟩
    · obtain ⟨hv, hw⟩ := c4 hm0
      subst hv
      subst hm0
      refine ⟨rfl, hw, ?_⟩
      funext b o
      apply propext
      constructor
      · rintro (ib | ⟨h1, h2⟩)
        · exact ib
        · refine (hr.imm b h1 o).2 ?_
          rw [hrs]
          simpa using h2
      · exact .inl
    · omega
  · rcases hown'.2 with ⟨rfl, h0⟩ | ⟨g, cap', cur, rfl, hbg, hg, hnc, hcm, hcs, htake⟩
    · exact ⟨none, 0, by rw [h0], by omega, by simp [maxLen], fun h => by omega⟩
    · refine ⟨some ⟨g, 0, none⟩, cap', rfl, hnc, hcm, fun hn => ⟨g, 0, rfl, fun q hq => ?_⟩⟩
      obtain ⟨vs, h1, h2, h3⟩ := hels q hq
      refine ⟨vs, h1, h2, fun k u hku => ?_⟩
      have h4 := h3 k u hku
      rw [yN9]
      exact ⟨.inr ⟨rfl, by rw [← hlen']; exact (yNd.1 h4).1⟩, cellX hown' g rfl _ u h4⟩
  · rcases hcase with ⟨c1, c2, _⟩ | ⟨c1, c2, _⟩
    · exact .inl ⟨c1, c2⟩
    · exact .inr ⟨c1, c2⟩
theorem zMj {P : Program} {T : TT} (hT : TOk P T) {t e : TypeId} {ty : TypeId} {i j : TI} (hi : q9 P t i) (hk : i.k = .slice e) (hj : q9 P e j) (hj0 : 0 < j.size) (hjz : j.zero.length = j.size)
    {G : Gh} {w : World} (imOk : ∀ b o, G.imm b o → (w.cell? ⟨b, o, none⟩).isSome = true) {r : zV} {v : Value} (hr : zC0 G w r (r.n, v)) (hre : r.e = e) (hrs : r.sz = j.size)
    {y : Value} {m : Nat} {el : Nat → List AV} (hy : (AV.lst j.size m el).rel G w y) (hone : ∀ q, q < m → ∀ vs, AV.relL G w (el q) vs → ∀ u ∈ vs, u.oneCell' = true) (hmax : r.n + m ≤ maxLen) (hbytes : (r.n + m) * j.bytes ≤ 140737488355328) :
    ∃ v' w' imm', (Builtin.append_ #[t, t] ty #[v, y]).run P w = .ok v' w' ∧ (∀ b o, G.imm b o → imm' b o ∧ w'.cell? ⟨b, o, none⟩ = w.cell? ⟨b, o, none⟩) ∧ (∀ b o, imm' b o → G.imm b o ∨ (zC v') = some b) ∧
      (∀ b o, imm' b o → (w'.cell? ⟨b, o, none⟩).isSome = true) ∧ zC0 ⟨imm', G.bx, G.rw⟩ w' ⟨e, j.size, r.n + m, q8 r.n r.el el⟩ (r.n + m, v') ∧ (m = 0 → v' = v ∧ w' = w ∧ imm' = G.imm) ∧
      (AV.lst j.size (r.n + m) (q8 r.n r.el el)).rel ⟨imm', G.bx, G.rw⟩ w' v' ∧
      (((zC v') = (zC v) ∧ w.grownBy w' (zC v)) ∨ ((zC v') = some w.heap.size ∧ Below w.heap.size w w')) := by
  obtain ⟨n, sz, re, rel0⟩ : True ∧ True ∧ True ∧ True := ⟨trivial, trivial, trivial, trivial⟩
  clear n sz re rel0
  obtain ⟨xs, hown0, hel⟩ := hr.own
  have hown := hown0.row (by rw [hrs]; exact hj0)
  simp only at hown hel
  rw [hre, hrs] at hown
  rw [hrs] at hel
  obtain ⟨A, cap, rfl, _⟩ := id hy
  obtain ⟨news, hl, hA, hnw, hmem⟩ := jU hj0 hy
  obtain ⟨d, hu, hdk⟩ := hi.und_some
  rw [hk] at hdk
  have := zF hdk
  subst this
  obtain ⟨ie, z, g2, g1, g3, g4, e2⟩ : ∃ ie z, P.info? e = some ie ∧ ie.size = j.size ∧ ie.zero = some z ∧ ie.bytes = j.bytes ∧ z.cells.toList = j.zero := by
    have h1 := hj.info
    cases hie : P.info? e with
    | none => rw [hie] at h1; cases h1
    | some x =>
      rw [hie] at h1
      simp only [yMw, yMc, yMu] at h1
      cases hzz : x.zero with
      | none => rw [hzz] at h1; cases h1.1
      | some z =>
        rw [hzz] at h1
        simp only [yMw, yMc] at h1
        exact ⟨x, z, rfl, h1.2.1, hzz, h1.2.2, h1.1⟩
  have hzs : z.cells.size = ie.size := by rw [g1, ← hjz, ← e2]; simp
  rw [← g1] at hown hl
  obtain ⟨v', w', hrun, hown', hcase⟩ := zKc (ty := ty) hu g2 g3 hzs hown (A := A) (m := m) (c := cap) hl hA (fun u hu => by
    obtain ⟨q, hq, vs, h1, h2⟩ := hmem u hu
    exact hone q hq vs h1 u h2) hmax (by rw [g4]; exact hbytes)
  rw [g1] at hown hl hown'
  refine zAj hj0 imOk hr hre hrs hown hel hl hnw hrun hown' ?_
  rcases hcase with ⟨c1, c2, c3, c4⟩ | ⟨c1, c2, c⟩
  · refine .inl ⟨c1, c2, fun hm0 => ?_⟩
    have hv := c4 hm0
    subst hv
    subst hm0
    have hrun0 : (Builtin.append_ #[t, t] ty #[v', .slice A 0 cap]).run P w = .ok v' w := by
      have hc : (Builtin.firstCells j.size 0 (.slice A 0 cap)).run P w = .ok #[] w := by
        cases A <;> simp [Builtin.firstCells, loadCells, loadCellsFrom]
      rcases hown.2 with ⟨rfl, h0⟩ | ⟨g, cap', cur, rfl, hbg, hg, hnc, hcm, hcs, htake⟩
      · simp [Builtin.append_, run_underlying hu, sizeOf, typeInfo, g2, g1, Builtin.lenOf, hc]
      · simp [Builtin.append_, run_underlying hu, sizeOf, typeInfo, g2, g1, Builtin.lenOf, hc, hnc, storeCells]
    rw [hrun0] at hrun
    simp only [Result.ok.injEq, yMv] at hrun
    exact ⟨rfl, hrun.symm⟩
  · exact .inr ⟨c1, c2, c⟩
theorem zDg {P : Program} {w : World} {t u ty e : TypeId} {i : TypeInfo} {z : Value} (ht : P.underlying t = some (.slice e)) (hu : P.underlying u = some .string) (hi : P.info? e = some i) (hz : i.zero = some z) (hz1 : z.cells.size = 1) (hs1 : i.size = 1) (hby : i.bytes = 1)
    {v : Value} {n : Nat} {xs : List Value} (hown : w.ownsRow 0 e 1 v n xs) (s : ByteArray) (h63 : n + s.size ≤ maxLen) (hbytes : n + s.size ≤ 140737488355328) :
    ∃ v' w', (Builtin.append_ #[t, u] ty #[v, .string s]).run P w = .ok v' w' ∧ w'.ownsRow 0 e 1 v' (n + s.size) (xs ++ Lib.strCells s) ∧
      (((zC v') = (zC v) ∧ w.grownBy w' (zC v) ∧ (s.size = 0 → v' = v ∧ w' = w)) ∨ ((zC v') = some w.heap.size ∧ Below w.heap.size w w' ∧ 0 < s.size)) := by
  have hsmall : n + s.size ≤ 9223372036854775807 := by simp only [maxLen] at h63; omega
  have hxl : xs.length = n := by simpa using hown.1
  have hlen : (xs ++ Lib.strCells s).length = (n + s.size) * 1 := by rw [yN1, hxl, Lib.strCells_length, yNo]
  have hf := Lib.run_firstCells_string (P := P) w 1 s
  rcases yNc s.size with hm | hm
  · have hn : Lib.strCells s = [] := yMe (by rw [Lib.strCells_length]; exact hm)
    refine ⟨v, w, ?_, by rw [hm, hn]; simpa using hown, .inl ⟨rfl, ⟨rfl, rfl, rfl, yMj _, fun _ _ _ => rfl⟩, fun _ => ⟨rfl, rfl⟩⟩⟩
    rw [hm, hn] at hf
    rcases hown.2 with ⟨rfl, rfl⟩ | ⟨g, cap, cur, rfl, hbg, hg, hnc, hcm, hcs, htake⟩
    · simp [Builtin.append_, run_underlying ht, run_underlying hu, sizeOf, typeInfo, hi, hs1, Builtin.lenOf, hm, hf]
    · simp [Builtin.append_, run_underlying ht, run_underlying hu, sizeOf, typeInfo, hi, hs1, Builtin.lenOf, hm, hf, hnc, storeCells]
  have grown : ∀ (old : Nat),
      (w.drew.alloc (.cells (xs.toArray ++ (Lib.strCells s).toArray ++ Builtin.zeroCells z.cells (grownCap w (n + s.size) old e - (n + s.size))) e)).ownsRow 0 e 1
        (.slice (some ⟨w.heap.size, 0, none⟩) (n + s.size) (grownCap w (n + s.size) old e)) (n + s.size) (xs ++ Lib.strCells s) := by
    intro old
    have hge := grownCap_ge w (n + s.size) old e
    have hcm : grownCap w (n + s.size) old e ≤ maxLen := grownCap_le_maxLen w (n + s.size) old e h63
    refine ⟨hlen, .inr ⟨w.heap.size, _, _, rfl, yMh _, heap_alloc_new w.drew _, hge, hcm, ?_, ?_⟩⟩
    · simp only [Array.size_append, yNx, size_zeroCells, hz1, hxl, Lib.strCells_length]
      omega
    · simp only [yOr, yOs]
      rw [← yOs, ← hlen]
      exact List.take_left
  have below : ∀ (cs : Array Value), Below w.heap.size w (w.drew.alloc (.cells cs e)) := fun cs => (Below.refl _ _).drew.alloc (yMj _) _
  rcases hown.2 with ⟨rfl, rfl⟩ | ⟨g, cap, cur, rfl, hbg, hg, hnc, hcm, hcs, htake⟩
  · have hx : xs = [] := yMe hxl
    subst hx
    have hr := run_append_nil_string (P := P) w t u ty e i z ht hu hi hz s oq oq (by rw [hby]; omega)
    have hgr := grown 0
    simp only [yN9, yN8, Array.empty_append] at hgr ⊢
    have e1 : (s.data.map fun b => Value.int .u8 b.toNat) = (Lib.strCells s).toArray := by
      apply Array.ext'
      simp [Lib.strCells]
    rw [e1] at hr
    exact ⟨_, _, hr, hgr, .inr ⟨rfl, below _, hm⟩⟩
  · by_cases hroom : n + s.size ≤ cap
    · have hcs' : cur.size = cap := by simpa using hcs
      have hr := Lib.run_append_room_string (P := P) w t u ty e i ht hu hi hs1 g n cap cur hg s hroom oq
      refine ⟨_, _, hr, ⟨hlen, .inr ⟨g, cap, _, rfl, hbg, setRow_heap w g cur _ e _ hg, hroom, hcm, ?_, ?_⟩⟩, .inl ⟨rfl, ⟨rfl, rfl, rfl, by simp, fun k _ hk => setRow_other w g k _ (fun e => hk (by simp [zC, e]))⟩, fun h => by omega⟩⟩
      · simp only [yNx, yN1, yOt, yOu, yNn, Lib.strCells_length]
        omega
      · have ht' : cur.toList.take n = xs := by simpa using htake
        rw [ht', ← hlen]
        exact List.take_left
    · have holds : ∀ j u, xs[j]? = some u → w.cell? ((⟨g, 0, none⟩ : Addr).add j) = some u := hown.cells (g := g) rfl
      have hr := Lib.run_append_grow_string (P := P) w t u ty e i z ht hu hi hz ⟨g, 0, none⟩ n cap xs (by rw [hs1]; simpa using hxl) holds s oq oq (by rw [hby]; exact growslice_fits oq oq)
      exact ⟨_, _, hr, grown cap, .inr ⟨rfl, below _, hm⟩⟩
def zL1 (s : ByteArray) (q : Nat) : List AV := [.raw (.int .u8 ((s.data.toList.getD q 0).toNat : Int))]
theorem zFb {P : Program} {T : TT} (hT : TOk P T) {t u e : TypeId} {ty : TypeId} {i j iu : TI} (hi : q9 P t i) (hk : i.k = .slice e) (hu : q9 P u iu) (hku : iu.k = .str) (hj : q9 P e j) (hj1 : j.size = 1) (hjb : j.bytes = 1) (hjz : j.zero.length = 1)
    {G : Gh} {w : World} (imOk : ∀ b o, G.imm b o → (w.cell? ⟨b, o, none⟩).isSome = true) {r : zV} {v : Value} (hr : zC0 G w r (r.n, v)) (hre : r.e = e) (hrs : r.sz = j.size)
    (s : ByteArray) (hmax : r.n + s.size ≤ maxLen) (hbytes : r.n + s.size ≤ 140737488355328) :
    ∃ v' w' imm', (Builtin.append_ #[t, u] ty #[v, .string s]).run P w = .ok v' w' ∧ (∀ b o, G.imm b o → imm' b o ∧ w'.cell? ⟨b, o, none⟩ = w.cell? ⟨b, o, none⟩) ∧ (∀ b o, imm' b o → G.imm b o ∨ (zC v') = some b) ∧
      (∀ b o, imm' b o → (w'.cell? ⟨b, o, none⟩).isSome = true) ∧ zC0 ⟨imm', G.bx, G.rw⟩ w' ⟨e, j.size, r.n + s.size, q8 r.n r.el (zL1 s)⟩ (r.n + s.size, v') ∧ (s.size = 0 → v' = v ∧ w' = w ∧ imm' = G.imm) ∧
      (AV.lst j.size (r.n + s.size) (q8 r.n r.el (zL1 s))).rel ⟨imm', G.bx, G.rw⟩ w' v' ∧
      (((zC v') = (zC v) ∧ w.grownBy w' (zC v)) ∨ ((zC v') = some w.heap.size ∧ Below w.heap.size w w')) := by
  obtain ⟨xs, hown0, hel⟩ := hr.own
  have hown := hown0.row (by rw [hrs]; omega)
  simp only at hown hel
  rw [hre, hrs] at hown
  rw [hrs] at hel
  obtain ⟨d, q1, q2⟩ := hi.und_some
  rw [hk] at q2
  have := zF q2
  subst this
  obtain ⟨d, q3, q4⟩ := hu.und_some
  rw [hku] at q4
  have := wV q4
  subst this
  obtain ⟨ie, z, g2, g1, g3, g4, e2⟩ : ∃ ie z, P.info? e = some ie ∧ ie.size = j.size ∧ ie.zero = some z ∧ ie.bytes = j.bytes ∧ z.cells.toList = j.zero := by
    have h1 := hj.info
    cases hie : P.info? e with
    | none => rw [hie] at h1; cases h1
    | some x =>
      rw [hie] at h1
      simp only [yMw, yMc, yMu] at h1
      cases hzz : x.zero with
      | none => rw [hzz] at h1; cases h1.1
      | some z =>
        rw [hzz] at h1
        simp only [yMw, yMc] at h1
        exact ⟨x, z, rfl, h1.2.1, hzz, h1.2.2, h1.1⟩
  have hz1 : z.cells.size = 1 := by rw [← yNn, e2, hjz]
  rw [hj1] at hown
  obtain ⟨v', w', hrun, hown', hcase⟩ := zDg (ty := ty) q1 q3 g2 g3 hz1 (g1.trans hj1) (g4.trans hjb) hown s hmax hbytes
  rw [← hj1] at hown hown'
  refine zAj oq imOk hr hre hrs hown hel (el := zL1 s) (by rw [Lib.strCells_length, hj1, yNo]) (fun i hi => ?_) hrun hown' hcase
  refine ⟨[.int .u8 ((s.data.toList.getD i 0).toNat : Int)], ⟨_, _, rfl, rfl, rfl⟩, by rw [hj1]; rfl, fun q u hq => ?_⟩
  rcases q with _ | q
  · simp only [yMb, yMc] at hq
    subst hq
    rw [hj1, yNo, Nat.add_zero]
    have hi' : i < s.data.size := hi
    simp [Lib.strCells, yNf hi', hi']
  · simp at hq

inductive Tk where
  | box (cs : List AV)
  | row (r : zV)
def tkBlk : Value → Option Nat
  | .pointer (some a) => some a.block
  | v => (zC v)
inductive Kd where
  | pure
  | mk (t : Tk)
  | app (j : Nat) (t : Tk)
def Kd.tk : Kd → Option Tk
  | .pure => none
  | .mk t => some t
  | .app _ t => some t
def Kd.box? : Kd → Option (List AV)
  | .mk (.box cs) => some cs
  | .app _ (.box cs) => some cs
  | _ => none
def jG (ks : List Kd) : List (List AV) := ks.filterMap Kd.box?
def isFl (o : Oper) : Bool := match o.op with
  | .extract (.tmp _) _ => o.guard.isNone && o.dst.isSome
  | _ => false
def vN (o : Oper) (k : Nat) : Bool := o.after.any fun e => e.on == k && Region.binds .any e
def kV (full : List Oper) : Bool := full.all fun o => match o.op with
  | .defer _ => false
  | .select _ _ => false
  | _ => true
theorem xB {o : Oper} {k : Nat} (h : vN o k = true) : ∃ e ∈ o.after, e.on = k ∧ Region.binds .any e = true := by
  unfold vN at h
  rw [Array.any_eq_true'] at h
  obtain ⟨e, he, h6⟩ := h
  simp only [yNj, beq_iff_eq] at h6
  exact ⟨e, he, h6.1, h6.2⟩
theorem zTv {P : Program} {C : Ctx P} {G : Gh} {ds : List Deferred} {ys : (Nat × List (List AV)) × List (List AV) × Bool} {w : World} {X : (Nat → Prop) → Prop} (e : ∃ D, EnvD C G ds ys D w ∧ X D) : zFm P w :=
  let ⟨D, e, _⟩ := e
  EnvD.tabs ⟨D, e⟩

section specs
variable {P : Program} {T : TT} {ops : Array Oper} {o : Oper} {st : ASt} {x : AV}
def zGn (T : TT) (st : ASt) (o : Op) : Option (List Bool × zV × Prop) :=
  match o with
  | .buildSlice t len parts => match T t with
    | some ⟨.slice e, _, _, _, _⟩ => match T e with
      | some j => match zG0 st (fun i => some (i * j.size, j.size)) parts.toList (wI len j.zero) with
        | some (gs, cs, p) => some (gs, ⟨e, j.size, len, zU j.size cs⟩, p ∧ 0 < j.size ∧ len * j.size ≤ 16777216 ∧ j.zero.length = j.size)
        | none => none
      | none => none
    | _ => none
  | _ => none
theorem zLk (hT : TOk P T) {G : Gh} {a : Act} {w : World} (hm : xU G w st.bx st.rw) {cs : List Bool} {r : zV} {p : Prop} (h : zGn T st o.op = some (cs, r, p)) (hc : ∀ c ∈ cs, c = true) (hp : p)
    (hev : ∀ y ∈ o.op.operands.toList, zIf G w a st y) : ∃ (us : List Value) (e : TypeId), (execOp a.eval o).run P w = .ok (.value (.slice (some ⟨w.heap.size, 0, none⟩) r.n r.n)) (w.alloc (.cells us.toArray e)) ∧
      Ext st.bx st.rw G w ⟨fun b q => G.imm b q ∨ (b = w.heap.size ∧ q < us.length), G.bx, G.rw⟩ (w.alloc (.cells us.toArray e)) ∧
      (AV.lst r.sz r.n r.el).rel ⟨fun b q => G.imm b q ∨ (b = w.heap.size ∧ q < us.length), G.bx, G.rw⟩ (w.alloc (.cells us.toArray e)) (.slice (some ⟨w.heap.size, 0, none⟩) r.n r.n) ∧
      zC0 ⟨fun b q => G.imm b q ∨ (b = w.heap.size ∧ q < us.length), G.bx, G.rw⟩ (w.alloc (.cells us.toArray e)) r (r.n, .slice (some ⟨w.heap.size, 0, none⟩) r.n r.n) := by
  obtain ⟨dst, op, type, pos, after, guard⟩ := o
  simp only at h hev
  unfold zGn at h
  split at h
  · rename_i t len parts
    split at h
    · rename_i e _ _ _ _ h1
      split at h
      · rename_i j h2
        split at h
        · rename_i gs cs' p' h3
          simp only [yMc, yMu] at h
          obtain ⟨rfl, rfl, rfl⟩ := h
          obtain ⟨q1, q2, q3, q4⟩ := hp
          have hev' : ∀ q ∈ parts.toList, zIf G w a st q.2 := fun q hq => hev q.2 (by simp [Op.operands]; exact ⟨q.1, by simpa using hq⟩)
          obtain ⟨us, e1, e2⟩ := vL (a := a) hm _ _ _ _ _ _ hev' h3 hc q1 (qC len j.zero)
          have e3 := vQ (w := w) (hT _ _ h1) rfl (hT _ _ h2) q2 q3 q4 (parts := parts.map fun q => (q.1, a.eval q.2)) (us := us) (by simpa using e1)
          have hlen : us.length = len * j.size := by
            have := zBk _ _ _ e1
            simp only [yNx, yQ, q4] at this
            exact this
          have hcell : ∀ k u, us[k]? = some u → (w.alloc (.cells us.toArray e)).cell? ⟨w.heap.size, k, none⟩ = some u := fun k u hk => by
            have := heap_alloc_new w (.cells us.toArray e)
            simp only [World.cell?, this]
            simpa using hk
          have E := wX hm ((Below.refl _ _).alloc (yMj _) (.cells us.toArray e)) (fun b o => G.imm b o ∨ (b = w.heap.size ∧ o < us.length)) (fun b o i => .inl i) (fun b o i => i.elim .inl fun i => .inr oq)
            (fun b o i => by
              rcases i with i | ⟨rfl, i⟩
              · have := hm.lt_imm i
                rw [World.cell?_of_block (w := w) (heap_alloc_old w _ this)]
                exact hm.immOk b o i
              · rw [hcell o us[o] (yNf i)]; rfl)
          have hml : len ≤ maxLen := by
            have : len ≤ len * j.size := Nat.le_mul_of_pos_right _ q2
            simp only [maxLen]; omega
          have hels : ∀ i, i < len → ∃ vs, AV.relL ⟨fun b q => G.imm b q ∨ (b = w.heap.size ∧ q < us.length), G.bx, G.rw⟩ (w.alloc (.cells us.toArray e)) (zU j.size cs' i) vs ∧ vs.length = j.size ∧ ∀ k u, vs[k]? = some u → us[i * j.size + k]? = some u := by
            intro i hi
            refine ⟨(us.drop (i * j.size)).take j.size, AV.relL_take _ (AV.relL_drop _ (AV.relL_mono E.le _ _ e2)), ?_, fun k u hk => ?_⟩
            · have : (i + 1) * j.size ≤ len * j.size := yNe _ hi
              rw [Nat.succ_mul] at this
              simp; omega
            · rw [yMg] at hk
              split at hk
              · rwa [yMf] at hk
              · cases hk
          refine ⟨us, e, by simp only [execOp, Sem.run_bind, e3, Result.andThen_ok]; rfl, E, ⟨_, len, rfl, yMj _, hml, fun hn => ⟨w.heap.size, 0, rfl, fun i hi => ?_⟩⟩, ⟨rfl, ⟨us, zG8.of ⟨hlen, .inr ⟨w.heap.size, len, us.toArray, rfl, yMh _, heap_alloc_new w _, yMj _, hml, by simpa using hlen, by simp [← hlen]⟩⟩ (show 0 < j.size by omega), hels⟩, fun g hg o => ?_⟩⟩
          · obtain ⟨vs, v1, v2, v3⟩ := hels i hi
            refine ⟨vs, v1, v2, fun k u hk => ?_⟩
            have := v3 k u hk
            rw [yN9]
            exact ⟨.inr ⟨rfl, (yNd.1 this).1⟩, hcell _ _ this⟩
          · simp only [zC, yMc] at hg
            subst hg
            show (G.imm w.heap.size o ∨ (w.heap.size = w.heap.size ∧ o < us.length)) ↔ o < len * j.size
            rw [hlen]
            exact ⟨fun h => h.elim (fun h => by have := hm.lt_imm h; omega) (·.2), fun h => .inr ⟨rfl, h⟩⟩
        · cases h
      · cases h
    · cases h
  · cases h
def appA (st : ASt) (o : Op) : Option (Nat × Bool × Nat × Nat × (Nat → List AV) × Prop × TypeId) :=
  match o with
  | .call c => match c.callee with
    | .builtin .append => match c.args.toList, c.argTypes.toList with
      | [.tmp s, y], [t, t'] => bif Nat.beq t t' then match st.ev y with
        | some (g, v) => match st.asL v with
          | some (sz, m, el, p) => some (s, g, sz, m, el, p, t)
          | none => none
        | none => none
      else none
      | _, _ => none
    | _ => none
  | _ => none
end specs

section drawF
variable {P : Program} {Q : Exit → ASt → Prop} {k : ASt → Prop} {T : TT} {full : List Oper} {es : List (Nat × (Bool × AV))} {ks : List Kd} {r l : List Oper} {nt nb : Nat} {sl sl0 : List (Nat × (Bool × AV))} {bx : List (List AV)} {rw : List zV} {ys : (Nat × List (List AV)) × List (List AV) × Bool} {st : ASt} {o : Oper} {d : Nat}
def zHx (s : Nat) : List (Nat × (Bool × AV)) → List Kd → Nat → Option (Nat × zV)
  | e :: es, kd :: ks, j => bif Nat.beq s e.1 then (match kd.tk with
    | some (.row r) => some (j, r)
    | _ => none) else zHx s es ks (j + 1)
  | _, _, _ => none
end drawF
attribute [go_sem] appA zGn
theorem tn2 : Int.toNat 2 = 2 := rfl
theorem tn3 : Int.toNat 3 = 3 := rfl
theorem tn4 : Int.toNat 4 = 4 := rfl
theorem yC7 : jG [] = [] := rfl
theorem zZ9 (r : List Kd) : jG (.pure :: r) = jG r := rfl
theorem yC8 (cs : List AV) (r : List Kd) : jG (.mk (.box cs) :: r) = cs :: jG r := rfl
theorem yC6 (x : zV) (r : List Kd) : jG (.mk (.row x) :: r) = jG r := rfl
theorem yC9 (j : Nat) (x : zV) (r : List Kd) : jG (.app j (.row x) :: r) = jG r := rfl
theorem zYp (s : Nat) (e : Nat × (Bool × AV)) (es : List (Nat × (Bool × AV))) (kd : Kd) (ks : List Kd) (j : Nat) : zHx s (e :: es) (kd :: ks) j = if s = e.1 then (match kd.tk with
    | some (.row r) => some (j, r)
    | _ => none) else zHx s es ks (j + 1) := by
  rw [zHx]
  by_cases h : s = e.1
  · rw [if_pos h, h, yMr]; rfl
  · rw [if_neg h]
    cases hb : Nat.beq s e.1
    · rfl
    · exact absurd (yMs hb) h
attribute [go_sem] Int.toNat_zero Int.toNat_one tn2 tn3 tn4 yC7 zZ9 yC8 yC6 yC9 zYp Kd.tk
theorem zLz {n q : Nat} {el el' : Nat → List AV} (h : ∀ q, AV.freeL (el q)) (h' : ∀ q, AV.freeL (el' q)) : AV.freeL (q8 n el el' q) := by
  unfold q8; cases Nat.blt q n
  · exact h' _
  · exact h _
theorem zJc {st : ASt} : ∀ {cs : List AV} {k : Nat}, AV.oneL st cs → AV.oneL st (cs.drop k)
  | [], k, h => by simpa using h
  | c :: cs, 0, h => h
  | c :: cs, k + 1, h => by simpa using zJc (k := k) h.2
theorem zJb {st : ASt} : ∀ {cs : List AV} {k : Nat}, AV.oneL st cs → AV.oneL st (cs.take k)
  | [], k, h => by simpa using h
  | c :: cs, 0, h => by simp [AV.oneL]
  | c :: cs, k + 1, h => ⟨h.1, zJb (k := k) h.2⟩
theorem zPb {st : ASt} {sz q : Nat} {cs : List AV} (h : AV.oneL st cs) : AV.oneL st (zU sz cs q) := zJb (zJc h)
theorem oblF {p : Prop} (h : p := by
    first
      | exact obl
      | (intro hg
         simp only [yOd, yOe, yOf, yOg, yOh, yMv, yOi, yOj, AV.freeL, AV.free]
         (repeat' refine And.intro ?_ ?_) <;> (intro _ _; (repeat' refine zLz (fun _ => ?_) (fun _ => ?_)) <;> first | (refine qL ?_; simp only [AV.freeL, AV.free, yOj]; done) | (simp only [go_sem, AV.freeL, AV.free, yOj]; done) | fail)) | fail) : p := h
theorem obs {p : Prop} (h : p := by
    first
      | trivial
      | (simp only [maxLen]; omega)
      | (simp [maxLen]; done)
      | (simp [maxLen]; omega)
      | (simp_all [maxLen]; done)
      | (simp_all [maxLen]; omega)) : p := h
theorem obq {p : Prop} (h : p := by
    first
      | trivial
      | (simp only [yOd, yOe, yOf, yOg, yOh, yMv, yOi, yOj, AV.oneL, AV.one, Value.oneCell', yE, yMy, yO4, go_sem]; done)
      | (simp only [yOd, yOe, yOf, yOg, yOh, yMv, yOi, yOj, AV.oneL, AV.one, Value.oneCell', yE, yMy, yO4, go_sem]; omega)
      | (intro _ _; first | (refine zPb ?_; simp only [AV.oneL, AV.one, Value.oneCell', yOj]; done) | (simp only [go_sem, AV.oneL, AV.one, Value.oneCell', yOj]; done) | fail)
      | (simp only [maxLen]; omega)
      | (simp [AV.oneL, AV.one, Value.oneCell', yE]; done)
      | fail) : p := h
end Go.Proofs.YtioaahmkebojiaaGreatDoor
