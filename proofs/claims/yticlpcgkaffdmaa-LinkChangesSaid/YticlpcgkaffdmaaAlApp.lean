/- The abstract logic: append to a row. -/
import Derived.Test.YticlpcgkaffdmaaAlMore
import Derived.Laws.AppendOwn
namespace Go.Proofs.Yticlpcgkaffdmaa
set_option linter.unusedSectionVars false
set_option linter.unusedVariables false
set_option linter.unusedSimpArgs false
open Go.RowKit

/-- What append does to a row: it lies in its block as before, or in a new one. -/
theorem append_exact {P : Program} {w : World} {t ty e : TypeId} {i : TypeInfo} {z : Value} (ht : P.underlying t = some (.slice e)) (hi : P.info? e = some i) (hz : i.zero = some z) (hzs : z.cells.size = i.size)
    {v : Value} {n : Nat} {xs : List Value} (hown : w.ownsRow 0 e i.size v n xs) {A : Option Addr} {m c : Nat} {news : List Value} (hl : news.length = m * i.size) (hA : 0 < m → ∃ a, A = some a ∧ ∀ j u, news[j]? = some u → w.cell? (a.add j) = some u)
    (h1 : ∀ u ∈ news, u.oneCell' = true) (h63 : n + m ≤ maxLen) (hbytes : (n + m) * i.bytes ≤ 140737488355328) :
    ∃ v' w', (Builtin.append_ #[t, t] ty #[v, .slice A m c]).run P w = .ok v' w' ∧ w'.ownsRow 0 e i.size v' (n + m) (xs ++ news) ∧
      ((v'.ownBlock = v.ownBlock ∧ w.grownBy w' v.ownBlock ∧ w'.heap.size = w.heap.size ∧ (m = 0 → v' = v)) ∨ (v'.ownBlock = some w.heap.size ∧ Below w.heap.size w w' ∧ 0 < m)) := by
  have hsmall : n + m ≤ 9223372036854775807 := by simp only [maxLen] at h63; omega
  have hlen : (xs ++ news).length = (n + m) * i.size := by rw [List.length_append, hown.1, hl, Nat.add_mul]
  rcases Nat.eq_zero_or_pos m with rfl | hm
  · have hn : news = [] := List.eq_nil_of_length_eq_zero (by simpa using hl)
    subst hn
    refine ⟨v, w, ?_, by simpa using hown, .inl ⟨rfl, ⟨rfl, rfl, rfl, Nat.le_refl _, fun _ _ _ => rfl⟩, rfl, fun _ => rfl⟩⟩
    have hc : (Builtin.firstCells i.size 0 (.slice A 0 c)).run P w = .ok #[] w := by
      cases A <;> simp [Builtin.firstCells, loadCells, loadCellsFrom]
    rcases hown.2 with ⟨rfl, rfl⟩ | ⟨g, cap, cur, rfl, hbg, hg, hnc, hcm, hcs, htake⟩
    · simp [Builtin.append_, run_underlying ht, sizeOf, typeInfo, hi, Builtin.lenOf, hc]
    · simp [Builtin.append_, run_underlying ht, sizeOf, typeInfo, hi, Builtin.lenOf, hc, hnc, storeCells]
  obtain ⟨a, rfl, hnews⟩ := hA hm
  have grown : ∀ (old : Nat),
      (w.drew.alloc (.cells (xs.toArray ++ news.toArray ++ Builtin.zeroCells z.cells (grownCap w (n + m) old e - (n + m))) e)).ownsRow 0 e i.size
        (.slice (some ⟨w.heap.size, 0, none⟩) (n + m) (grownCap w (n + m) old e)) (n + m) (xs ++ news) := by
    intro old
    have hge := grownCap_ge w (n + m) old e
    have hcm : grownCap w (n + m) old e ≤ maxLen := grownCap_le_maxLen w (n + m) old e h63
    refine ⟨hlen, .inr ⟨w.heap.size, _, _, rfl, Nat.zero_le _, heap_alloc_new w.drew _, hge, hcm, ?_, ?_⟩⟩
    · simp only [Array.size_append, List.size_toArray, size_zeroCells, hzs, hown.1, hl, ← Nat.add_mul]
      congr 1
      omega
    · simp only [Array.toList_append, List.append_assoc]
      rw [← List.append_assoc, ← hlen]
      exact List.take_left
  have below : ∀ (cs : Array Value), Below w.heap.size w (w.drew.alloc (.cells cs e)) := fun cs => (Below.refl _ _).drew.alloc (Nat.le_refl _) _
  rcases hown.2 with ⟨rfl, rfl⟩ | ⟨g, cap, cur, rfl, hbg, hg, hnc, hcm, hcs, htake⟩
  · have hx : xs = [] := List.eq_nil_of_length_eq_zero (by simpa using hown.1)
    subst hx
    have hr := run_append_nil (P := P) w t ty e i z ht hi hz a m c news hl hnews (by omega) (by omega) (by have hb := hbytes; simp only [Nat.zero_add] at hb; omega)
    have hgr := grown 0
    simp only [Nat.zero_add, List.nil_append, Array.empty_append] at hgr ⊢
    exact ⟨_, _, hr, hgr, .inr ⟨rfl, below _, hm⟩⟩
  · by_cases hroom : n + m ≤ cap
    · have hfit : n * i.size + news.length ≤ cur.size := by rw [hl, hcs, ← Nat.add_mul]; exact Nat.mul_le_mul_right _ hroom
      have hr := run_append_room (P := P) w t ty e i ht hi g n cap cur hg a m c news hl hnews h1 hroom hfit
      refine ⟨_, _, hr, ⟨hlen, .inr ⟨g, cap, _, rfl, hbg, setRow_heap w g cur _ e _ hg, hroom, hcm, ?_, ?_⟩⟩, .inl ⟨rfl, ⟨rfl, rfl, rfl, by simp, fun k _ hk => setRow_other w g k _ (fun e => hk (by simp [Value.ownBlock, e]))⟩, by simp, fun h => by omega⟩⟩
      · simp only [List.size_toArray, List.length_append, List.length_take, List.length_drop, Array.length_toList]
        omega
      · rw [htake, ← hlen]
        exact List.take_left
    · have holds : ∀ j u, xs[j]? = some u → w.cell? ((⟨g, 0, none⟩ : Addr).add j) = some u := hown.cells (g := g) rfl
      have hr := run_append_grow (P := P) w t ty e i z ht hi hz ⟨g, 0, none⟩ n cap xs hown.1 holds a m c news hl hnews (by omega) (by omega) (growslice_fits (by omega) hbytes)
      exact ⟨_, _, hr, grown cap, .inr ⟨rfl, below _, hm⟩⟩

def appEl (n : Nat) (el el' : Nat → List AV) (q : Nat) : List AV := bif Nat.blt q n then el q else el' (q - n)
theorem appEl_lt {n q : Nat} {el el' : Nat → List AV} (h : q < n) : appEl n el el' q = el q := by
  unfold appEl; rw [show Nat.blt q n = true from by simpa [Nat.blt_eq] using h]; rfl
theorem appEl_ge {n q : Nat} {el el' : Nat → List AV} (h : n ≤ q) : appEl n el el' q = el' (q - n) := by
  unfold appEl
  rw [show Nat.blt q n = false from by
    cases hb : Nat.blt q n
    · rfl
    · rw [Nat.blt_eq] at hb; omega]
  rfl

/-- The cells of a list, one behind another. -/
theorem lst_cells {G : Gh} {w : World} {sz m : Nat} {el : Nat → List AV} {A : Option Addr} {cap : Nat} (hsz : 0 < sz) (h : (AV.lst sz m el).rel G w (.slice A m cap)) :
    ∃ news : List Value, news.length = m * sz ∧ (0 < m → ∃ a, A = some a ∧ ∀ j u, news[j]? = some u → w.cell? (a.add j) = some u) ∧
      (∀ i, i < m → ∃ vs, AV.relL G w (el i) vs ∧ vs.length = sz ∧ ∀ j u, vs[j]? = some u → news[i * sz + j]? = some u) ∧ ∀ u ∈ news, ∃ i, i < m ∧ ∃ vs, AV.relL G w (el i) vs ∧ u ∈ vs := by
  obtain ⟨A', cap', e, hmc, hcm, hm⟩ := h
  cases e
  rcases Nat.eq_zero_or_pos m with rfl | hpos
  · exact ⟨[], by simp, fun h => by omega, fun i hi => by omega, fun u hu => by simp at hu⟩
  obtain ⟨b, o, rfl, hel⟩ := hm hpos
  have cell : ∀ i j, i < m → j < sz → ∃ vs u, AV.relL G w (el i) vs ∧ vs.length = sz ∧ vs[j]? = some u ∧ w.cell? ⟨b, o + i * sz + j, none⟩ = some u := by
    intro i j hi hj
    obtain ⟨vs, h1, h2, h3⟩ := hel i hi
    have h4 : vs[j]? = some (vs[j]'(by omega)) := List.getElem?_eq_getElem (by omega)
    exact ⟨vs, _, h1, h2, h4, (h3 j _ h4).2⟩
  refine ⟨(List.range (m * sz)).map fun q => (w.cell? ⟨b, o + q, none⟩).getD undef, by simp, fun _ => ⟨⟨b, o, none⟩, rfl, fun j u hj => ?_⟩, fun i hi => ?_, fun u hu => ?_⟩
  · rw [List.getElem?_map] at hj
    have hjl : j < m * sz := by
      rcases Nat.lt_or_ge j (m * sz) with h | h
      · exact h
      · rw [List.getElem?_eq_none (by simpa using h)] at hj; cases hj
    rw [List.getElem?_range hjl] at hj
    simp only [Option.map_some, Option.some.injEq] at hj
    obtain ⟨vs, u', _, _, _, h5⟩ := cell (j / sz) (j % sz) (by rw [Nat.div_lt_iff_lt_mul hsz]; exact hjl) (Nat.mod_lt _ hsz)
    have hq : o + j / sz * sz + j % sz = o + j := by rw [Nat.add_assoc, Nat.mul_comm, Nat.div_add_mod]
    rw [hq] at h5
    have hadd : (⟨b, o, none⟩ : Addr).add j = ⟨b, o + j, none⟩ := by
      unfold Addr.add; split
      · rename_i h0; rw [h0]; rfl
      · rfl
    rw [hadd, h5, ← hj, h5]; rfl
  · obtain ⟨vs, h1, h2, h3⟩ := hel i hi
    refine ⟨vs, h1, h2, fun j u hj => ?_⟩
    have hjl : j < sz := by rw [← h2]; exact (List.getElem?_eq_some_iff.1 hj).1
    have hle : (i + 1) * sz ≤ m * sz := Nat.mul_le_mul_right _ hi
    rw [Nat.succ_mul] at hle
    rw [List.getElem?_map, List.getElem?_range (by omega)]
    simp only [Option.map_some, Option.some.injEq]
    rw [show o + (i * sz + j) = o + i * sz + j from by omega, (h3 j u hj).2]; rfl
  · rw [List.mem_map] at hu
    obtain ⟨q, hq, rfl⟩ := hu
    rw [List.mem_range] at hq
    have hi : q / sz < m := by rw [Nat.div_lt_iff_lt_mul hsz]; exact hq
    obtain ⟨vs, u', h1, h2, h4, h5⟩ := cell (q / sz) (q % sz) hi (Nat.mod_lt _ hsz)
    have hqq : o + q / sz * sz + q % sz = o + q := by rw [Nat.add_assoc, Nat.mul_comm, Nat.div_add_mod]
    rw [hqq] at h5
    refine ⟨q / sz, hi, vs, h1, ?_⟩
    rw [h5]
    exact List.mem_of_getElem? h4

/-- Append, of a row and a list, in the words of the logic. -/
theorem append_core {P : Program} {T : TT} (hT : TOk P T) {t e : TypeId} {ty : TypeId} {i j : TI} (hi : TiOk P t i) (hk : i.k = .slice e) (hj : TiOk P e j) (hj0 : 0 < j.size) (hjz : j.zero.length = j.size)
    {G : Gh} {w : World} (imOk : ∀ b o, G.imm b o → (w.cell? ⟨b, o, none⟩).isSome = true) {r : ARow} {v : Value} (hr : RowOk G w r (r.n, v)) (hre : r.e = e) (hrs : r.sz = j.size)
    {y : Value} {m : Nat} {el : Nat → List AV} (hy : (AV.lst j.size m el).rel G w y) (hone : ∀ q, q < m → ∀ vs, AV.relL G w (el q) vs → ∀ u ∈ vs, u.oneCell' = true) (hmax : r.n + m ≤ maxLen) (hbytes : (r.n + m) * j.bytes ≤ 140737488355328) :
    ∃ v' w' imm', (Builtin.append_ #[t, t] ty #[v, y]).run P w = .ok v' w' ∧ (∀ b o, G.imm b o → imm' b o ∧ w'.cell? ⟨b, o, none⟩ = w.cell? ⟨b, o, none⟩) ∧ (∀ b o, imm' b o → G.imm b o ∨ v'.ownBlock = some b) ∧
      (∀ b o, imm' b o → (w'.cell? ⟨b, o, none⟩).isSome = true) ∧ RowOk ⟨imm', G.bx, G.rw⟩ w' ⟨e, j.size, r.n + m, appEl r.n r.el el⟩ (r.n + m, v') ∧ (m = 0 → v' = v ∧ w' = w ∧ imm' = G.imm) ∧
      (AV.lst j.size (r.n + m) (appEl r.n r.el el)).rel ⟨imm', G.bx, G.rw⟩ w' v' ∧
      ((v'.ownBlock = v.ownBlock ∧ w.grownBy w' v.ownBlock) ∨ (v'.ownBlock = some w.heap.size ∧ Below w.heap.size w w')) := by
  obtain ⟨n, sz, re, rel0⟩ : True ∧ True ∧ True ∧ True := ⟨trivial, trivial, trivial, trivial⟩
  clear n sz re rel0
  obtain ⟨xs, hown, hel⟩ := hr.own
  simp only at hown hel
  rw [hre, hrs] at hown
  rw [hrs] at hel
  obtain ⟨A, cap, rfl, _⟩ := id hy
  obtain ⟨news, hl, hA, hnw, hmem⟩ := lst_cells hj0 hy
  obtain ⟨d, hu, hdk⟩ := hi.und_some
  rw [hk] at hdk
  have := tkOf_slice hdk
  subst this
  obtain ⟨ie, z, g2, g1, g3, g4, e2⟩ : ∃ ie z, P.info? e = some ie ∧ ie.size = j.size ∧ ie.zero = some z ∧ ie.bytes = j.bytes ∧ z.cells.toList = j.zero := by
    have h1 := hj.info
    cases hie : P.info? e with
    | none => rw [hie] at h1; cases h1
    | some x =>
      rw [hie] at h1
      simp only [Option.map_some, Option.some.injEq, Prod.mk.injEq] at h1
      cases hzz : x.zero with
      | none => rw [hzz] at h1; cases h1.1
      | some z =>
        rw [hzz] at h1
        simp only [Option.map_some, Option.some.injEq] at h1
        exact ⟨x, z, rfl, h1.2.1, hzz, h1.2.2, h1.1⟩
  have hzs : z.cells.size = ie.size := by rw [g1, ← hjz, ← e2]; simp
  rw [← g1] at hown hl
  obtain ⟨v', w', hrun, hown', hcase⟩ := append_exact (ty := ty) hu g2 g3 hzs hown (A := A) (m := m) (c := cap) hl hA (fun u hu => by
    obtain ⟨q, hq, vs, h1, h2⟩ := hmem u hu
    exact hone q hq vs h1 u h2) hmax (by rw [g4]; exact hbytes)
  rw [g1] at hown hl hown'
  have hxl : xs.length = r.n * j.size := hown.1
  have lt_imm : ∀ b o, G.imm b o → b < w.heap.size := fun b o h => by
    have := imOk b o h
    cases hc : w.cell? ⟨b, o, none⟩ with
    | none => rw [hc] at this; cases this
    | some u => exact World.block_lt_of_cell? w ⟨b, o, none⟩ hc
  have cellX : ∀ {w0 : World} {v0 : Value} {n0 : Nat} {ys : List Value}, w0.ownsRow 0 e j.size v0 n0 ys → ∀ g, v0.ownBlock = some g → ∀ o u, ys[o]? = some u → w0.cell? ⟨g, o, none⟩ = some u := fun h g hg o u hu => by
    have := h.cells hg o u hu
    have hadd : (⟨g, 0, none⟩ : Addr).add o = ⟨g, o, none⟩ := by
      unfold Addr.add; split
      · rename_i h0; rw [h0]
      · simp
    rwa [hadd] at this
  have hcells : ∀ b o, G.imm b o → w'.cell? ⟨b, o, none⟩ = w.cell? ⟨b, o, none⟩ := by
    intro b o ib
    rcases hcase with ⟨c1, c2, c3, _⟩ | ⟨c1, c2, _⟩
    · by_cases hb : v.ownBlock = some b
      · have ho := (hr.imm b hb o).1 ib
        rw [hrs] at ho
        have h3 : xs[o]? = some (xs[o]'(by omega)) := List.getElem?_eq_getElem (by omega)
        rw [cellX hown b hb o _ h3, cellX hown' b (c1.trans hb) o _ (by rw [List.getElem?_append_left (by omega)]; exact h3)]
      · exact World.cell?_of_block (w := w) (c2.block b (lt_imm b o ib) (fun h => hb h.symm))
    · exact c2.cell (p := ⟨b, o, none⟩) (lt_imm b o ib)
  have le : G.Le w ⟨fun b o => G.imm b o ∨ (v'.ownBlock = some b ∧ o < (r.n + m) * j.size), G.bx, G.rw⟩ w' := ⟨fun _ _ h => .inl h, hcells, fun _ _ h => h, fun _ e h => ⟨e, h, .inl rfl⟩⟩
  have hlen' : (xs ++ news).length = (r.n + m) * j.size := hown'.1
  have hels : ∀ q, q < r.n + m → ∃ vs, AV.relL ⟨fun b o => G.imm b o ∨ (v'.ownBlock = some b ∧ o < (r.n + m) * j.size), G.bx, G.rw⟩ w' (appEl r.n r.el el q) vs ∧ vs.length = j.size ∧ ∀ k u, vs[k]? = some u → (xs ++ news)[q * j.size + k]? = some u := by
    intro q hq
    by_cases hqn : q < r.n
    · obtain ⟨vs, h1, h2, h3⟩ := hel q hqn
      rw [appEl_lt hqn]
      refine ⟨vs, AV.relL_mono le _ _ h1, h2, fun k u hku => ?_⟩
      have h4 := h3 k u hku
      rw [List.getElem?_append_left (List.getElem?_eq_some_iff.1 h4).1]
      exact h4
    · obtain ⟨vs, h1, h2, h3⟩ := hnw (q - r.n) (by omega)
      rw [appEl_ge (by omega)]
      refine ⟨vs, AV.relL_mono le _ _ h1, h2, fun k u hku => ?_⟩
      have hsub : q * j.size = r.n * j.size + (q - r.n) * j.size := by rw [← Nat.add_mul]; congr 1; omega
      rw [List.getElem?_append_right (by rw [hxl]; omega), hxl, show q * j.size + k - r.n * j.size = (q - r.n) * j.size + k from by omega]
      exact h3 k u hku
  refine ⟨v', w', _, hrun, fun b o ib => ⟨.inl ib, hcells b o ib⟩, fun b o ib => ib.elim .inl fun h => .inr h.1, fun b o ib => ?_, ⟨rfl, ⟨xs ++ news, hown', hels⟩, fun g hg o => ⟨fun ib => ?_, fun h => .inr ⟨hg, h⟩⟩⟩, fun hm0 => ?_, ?_, ?_⟩
  · rcases ib with ib | ⟨h1, h2⟩
    · rw [hcells b o ib]; exact imOk b o ib
    · rw [cellX hown' b h1 o _ (List.getElem?_eq_getElem (by omega))]; rfl
  · rcases ib with ib | ⟨_, h2⟩
    · rcases hcase with ⟨c1, _⟩ | ⟨c1, _⟩
      · have ho := (hr.imm g (c1.symm.trans hg) o).1 ib
        rw [hrs] at ho
        have : r.n * j.size ≤ (r.n + m) * j.size := Nat.mul_le_mul_right _ (by omega)
        show o < (r.n + m) * j.size
        omega
      · rw [show v'.ownBlock = some w.heap.size from c1] at hg
        simp only [Option.some.injEq] at hg
        have := lt_imm g o ib
        omega
    · exact h2
  · rcases hcase with ⟨c1, c2, c3, c4⟩ | ⟨_, _, c⟩
    · have hv := c4 hm0
      subst hv
      subst hm0
      have hrun0 : (Builtin.append_ #[t, t] ty #[v', .slice A 0 cap]).run P w = .ok v' w := by
        have hc : (Builtin.firstCells j.size 0 (.slice A 0 cap)).run P w = .ok #[] w := by
          cases A <;> simp [Builtin.firstCells, loadCells, loadCellsFrom]
        rcases hown.2 with ⟨rfl, h0⟩ | ⟨g, cap', cur, rfl, hbg, hg, hnc, hcm, hcs, htake⟩
        · simp [Builtin.append_, run_underlying hu, sizeOf, typeInfo, g2, g1, Builtin.lenOf, hc]
        · simp [Builtin.append_, run_underlying hu, sizeOf, typeInfo, g2, g1, Builtin.lenOf, hc, hnc, storeCells]
      rw [hrun0] at hrun
      simp only [Result.ok.injEq, true_and] at hrun
      refine ⟨rfl, hrun.symm, ?_⟩
      funext b o
      apply propext
      constructor
      · rintro (ib | ⟨h1, h2⟩)
        · exact ib
        · refine (hr.imm b h1 o).2 ?_
          rw [hrs]
          simpa using h2
      · exact .inl
    · omega
  · rcases hown'.2 with ⟨rfl, h0⟩ | ⟨g, cap', cur, rfl, hbg, hg, hnc, hcm, hcs, htake⟩
    · exact ⟨none, 0, by rw [h0], by omega, by simp [maxLen], fun h => by omega⟩
    · refine ⟨some ⟨g, 0, none⟩, cap', rfl, hnc, hcm, fun hn => ⟨g, 0, rfl, fun q hq => ?_⟩⟩
      obtain ⟨vs, h1, h2, h3⟩ := hels q hq
      refine ⟨vs, h1, h2, fun k u hku => ?_⟩
      have h4 := h3 k u hku
      rw [Nat.zero_add]
      exact ⟨.inr ⟨rfl, by rw [← hlen']; exact (List.getElem?_eq_some_iff.1 h4).1⟩, cellX hown' g rfl _ u h4⟩
  · rcases hcase with ⟨c1, c2, _⟩ | ⟨c1, c2, _⟩
    · exact .inl ⟨c1, c2⟩
    · exact .inr ⟨c1, c2⟩
end Go.Proofs.Yticlpcgkaffdmaa
