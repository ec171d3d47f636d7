/- The abstract logic: append to a row. -/
import Derived.Test.YtcdgncmkkknmlaaGreatDoorA3
import Derived.Laws.AppendOwn
import Derived.Lib.AppendStr
namespace Go.Proofs.YtcdgncmkkknmlaaGreatDoor
set_option linter.unusedVariables false
set_option linter.unusedSimpArgs false
set_option maxHeartbeats 4000000
set_option maxRecDepth 100000
open Go.RowKit

/-- What append does to a row: it lies in its block as before, or in a new one. -/
theorem append_exact {P : Program} {w : World} {t ty e : TypeId} {i : TypeInfo} {z : Value} (ht : P.underlying t = some (.slice e)) (hi : P.info? e = some i) (hz : i.zero = some z) (hzs : z.cells.size = i.size)
    {v : Value} {n : Nat} {xs : List Value} (hown : w.ownsRow 0 e i.size v n xs) {A : Option Addr} {m c : Nat} {news : List Value} (hl : news.length = m * i.size) (hA : 0 < m → ∃ a, A = some a ∧ ∀ j u, news[j]? = some u → w.cell? (a.add j) = some u)
    (h1 : ∀ u ∈ news, u.oneCell' = true) (h63 : n + m ≤ maxLen) (hbytes : (n + m) * i.bytes ≤ 140737488355328) :
    ∃ v' w', (Builtin.append_ #[t, t] ty #[v, .slice A m c]).run P w = .ok v' w' ∧ w'.ownsRow 0 e i.size v' (n + m) (xs ++ news) ∧
      (((ownBlk v') = (ownBlk v) ∧ w.grownBy w' (ownBlk v) ∧ w'.heap.size = w.heap.size ∧ (m = 0 → v' = v)) ∨ ((ownBlk v') = some w.heap.size ∧ Below w.heap.size w w' ∧ 0 < m)) := by
  have hsmall : n + m ≤ 9223372036854775807 := by simp only [maxLen] at h63; omega
  have hlen : (xs ++ news).length = (n + m) * i.size := by rw [List.length_append, hown.1, hl, Nat.add_mul]
  rcases Nat.eq_zero_or_pos m with rfl | hm
  · have hn : news = [] := List.eq_nil_of_length_eq_zero (by simpa using hl)
    subst hn
    refine ⟨v, w, ?_, by simpa using hown, .inl ⟨rfl, ⟨rfl, rfl, rfl, Nat.le_refl _, fun _ _ _ => rfl⟩, rfl, fun _ => rfl⟩⟩
    have hc : (Builtin.firstCells i.size 0 (.slice A 0 c)).run P w = .ok #[] w := by
      cases A <;> simp [Builtin.firstCells, loadCells, loadCellsFrom]
    rcases hown.2 with ⟨rfl, rfl⟩ | ⟨g, cap, cur, rfl, hbg, hg, hnc, hcm, hcs, htake⟩
    · simp [Builtin.append_, run_underlying ht, sizeOf, typeInfo, hi, Builtin.lenOf, hc]
    · simp [Builtin.append_, run_underlying ht, sizeOf, typeInfo, hi, Builtin.lenOf, hc, hnc, storeCells]
  obtain ⟨a, rfl, hnews⟩ := hA hm
  have grown : ∀ (old : Nat),
      (w.drew.alloc (.cells (xs.toArray ++ news.toArray ++ Builtin.zeroCells z.cells (grownCap w (n + m) old e - (n + m))) e)).ownsRow 0 e i.size
        (.slice (some ⟨w.heap.size, 0, none⟩) (n + m) (grownCap w (n + m) old e)) (n + m) (xs ++ news) := by
    intro old
    have hge := grownCap_ge w (n + m) old e
    have hcm : grownCap w (n + m) old e ≤ maxLen := grownCap_le_maxLen w (n + m) old e h63
    refine ⟨hlen, .inr ⟨w.heap.size, _, _, rfl, Nat.zero_le _, heap_alloc_new w.drew _, hge, hcm, ?_, ?_⟩⟩
    · simp only [Array.size_append, List.size_toArray, size_zeroCells, hzs, hown.1, hl, ← Nat.add_mul]
      congr 1
      omega
    · simp only [Array.toList_append, List.append_assoc]
      rw [← List.append_assoc, ← hlen]
      exact List.take_left
  have below : ∀ (cs : Array Value), Below w.heap.size w (w.drew.alloc (.cells cs e)) := fun cs => (Below.refl _ _).drew.alloc (Nat.le_refl _) _
  rcases hown.2 with ⟨rfl, rfl⟩ | ⟨g, cap, cur, rfl, hbg, hg, hnc, hcm, hcs, htake⟩
  · have hx : xs = [] := List.eq_nil_of_length_eq_zero (by simpa using hown.1)
    subst hx
    have hr := run_append_nil (P := P) w t ty e i z ht hi hz a m c news hl hnews (by omega) (by omega) (by have hb := hbytes; simp only [Nat.zero_add] at hb; omega)
    have hgr := grown 0
    simp only [Nat.zero_add, List.nil_append, Array.empty_append] at hgr ⊢
    exact ⟨_, _, hr, hgr, .inr ⟨rfl, below _, hm⟩⟩
  · by_cases hroom : n + m ≤ cap
    · have hfit : n * i.size + news.length ≤ cur.size := by rw [hl, hcs, ← Nat.add_mul]; exact Nat.mul_le_mul_right _ hroom
      have hr := run_append_room (P := P) w t ty e i ht hi g n cap cur hg a m c news hl hnews h1 hroom hfit
      refine ⟨_, _, hr, ⟨hlen, .inr ⟨g, cap, _, rfl, hbg, setRow_heap w g cur _ e _ hg, hroom, hcm, ?_, ?_⟩⟩, .inl ⟨rfl, ⟨rfl, rfl, rfl, by simp, fun k _ hk => setRow_other w g k _ (fun e => hk (by simp [ownBlk, e]))⟩, by simp, fun h => by omega⟩⟩
      · simp only [List.size_toArray, List.length_append, List.length_take, List.length_drop, Array.length_toList]
        omega
      · rw [htake, ← hlen]
        exact List.take_left
    · have holds : ∀ j u, xs[j]? = some u → w.cell? ((⟨g, 0, none⟩ : Addr).add j) = some u := hown.cells (g := g) rfl
      have hr := run_append_grow (P := P) w t ty e i z ht hi hz ⟨g, 0, none⟩ n cap xs hown.1 holds a m c news hl hnews (by omega) (by omega) (growslice_fits (by omega) hbytes)
      exact ⟨_, _, hr, grown cap, .inr ⟨rfl, below _, hm⟩⟩

def appEl (n : Nat) (el el' : Nat → List AV) (q : Nat) : List AV := bif Nat.blt q n then el q else el' (q - n)
theorem appEl_lt {n q : Nat} {el el' : Nat → List AV} (h : q < n) : appEl n el el' q = el q := by
  unfold appEl; rw [show Nat.blt q n = true from by simpa [Nat.blt_eq] using h]; rfl
theorem appEl_ge {n q : Nat} {el el' : Nat → List AV} (h : n ≤ q) : appEl n el el' q = el' (q - n) := by
  unfold appEl
  rw [show Nat.blt q n = false from by
    cases hb : Nat.blt q n
    · rfl
    · rw [Nat.blt_eq] at hb; omega]
  rfl

/-- The cells of a list, one behind another. -/
theorem lst_cells {G : Gh} {w : World} {sz m : Nat} {el : Nat → List AV} {A : Option Addr} {cap : Nat} (hsz : 0 < sz) (h : (AV.lst sz m el).rel G w (.slice A m cap)) :
    ∃ news : List Value, news.length = m * sz ∧ (0 < m → ∃ a, A = some a ∧ ∀ j u, news[j]? = some u → w.cell? (a.add j) = some u) ∧
      (∀ i, i < m → ∃ vs, AV.relL G w (el i) vs ∧ vs.length = sz ∧ ∀ j u, vs[j]? = some u → news[i * sz + j]? = some u) ∧ ∀ u ∈ news, ∃ i, i < m ∧ ∃ vs, AV.relL G w (el i) vs ∧ u ∈ vs := by
  obtain ⟨A', cap', e, hmc, hcm, hm⟩ := h
  cases e
  rcases Nat.eq_zero_or_pos m with rfl | hpos
  · exact ⟨[], by simp, fun h => by omega, fun i hi => by omega, fun u hu => by simp at hu⟩
  obtain ⟨b, o, rfl, hel⟩ := hm hpos
  have cell : ∀ i j, i < m → j < sz → ∃ vs u, AV.relL G w (el i) vs ∧ vs.length = sz ∧ vs[j]? = some u ∧ w.cell? ⟨b, o + i * sz + j, none⟩ = some u := by
    intro i j hi hj
    obtain ⟨vs, h1, h2, h3⟩ := hel i hi
    have h4 : vs[j]? = some (vs[j]'(by omega)) := List.getElem?_eq_getElem (by omega)
    exact ⟨vs, _, h1, h2, h4, (h3 j _ h4).2⟩
  refine ⟨(List.range (m * sz)).map fun q => (w.cell? ⟨b, o + q, none⟩).getD undef, by simp, fun _ => ⟨⟨b, o, none⟩, rfl, fun j u hj => ?_⟩, fun i hi => ?_, fun u hu => ?_⟩
  · rw [List.getElem?_map] at hj
    have hjl : j < m * sz := by
      rcases Nat.lt_or_ge j (m * sz) with h | h
      · exact h
      · rw [List.getElem?_eq_none (by simpa using h)] at hj; cases hj
    rw [List.getElem?_range hjl] at hj
    simp only [Option.map_some, Option.some.injEq] at hj
    obtain ⟨vs, u', _, _, _, h5⟩ := cell (j / sz) (j % sz) (by rw [Nat.div_lt_iff_lt_mul hsz]; exact hjl) (Nat.mod_lt _ hsz)
    have hq : o + j / sz * sz + j % sz = o + j := by rw [Nat.add_assoc, Nat.mul_comm, Nat.div_add_mod]
    rw [hq] at h5
    have hadd : (⟨b, o, none⟩ : Addr).add j = ⟨b, o + j, none⟩ := by
      unfold Addr.add; split
      · rename_i h0; rw [h0]; rfl
      · rfl
    rw [hadd, h5, ← hj, h5]; rfl
  · obtain ⟨vs, h1, h2, h3⟩ := hel i hi
    refine ⟨vs, h1, h2, fun j u hj => ?_⟩
    have hjl : j < sz := by rw [← h2]; exact (List.getElem?_eq_some_iff.1 hj).1
    have hle : (i + 1) * sz ≤ m * sz := Nat.mul_le_mul_right _ hi
    rw [Nat.succ_mul] at hle
    rw [List.getElem?_map, List.getElem?_range (by omega)]
    simp only [Option.map_some, Option.some.injEq]
    rw [show o + (i * sz + j) = o + i * sz + j from by omega, (h3 j u hj).2]; rfl
  · rw [List.mem_map] at hu
    obtain ⟨q, hq, rfl⟩ := hu
    rw [List.mem_range] at hq
    have hi : q / sz < m := by rw [Nat.div_lt_iff_lt_mul hsz]; exact hq
    obtain ⟨vs, u', h1, h2, h4, h5⟩ := cell (q / sz) (q % sz) hi (Nat.mod_lt _ hsz)
    have hqq : o + q / sz * sz + q % sz = o + q := by rw [Nat.add_assoc, Nat.mul_comm, Nat.div_add_mod]
    rw [hqq] at h5
    refine ⟨q / sz, hi, vs, h1, ?_⟩
    rw [h5]
    exact List.mem_of_getElem? h4

/-- Append, of a row and what lies in some cells, in the words of the logic. -/
theorem append_core_of {P : Program} {e ty : TypeId} {j : TI} {ts : Array TypeId} {y : Value}
    {G : Gh} {w : World} (hj0 : 0 < j.size) (imOk : ∀ b o, G.imm b o → (w.cell? ⟨b, o, none⟩).isSome = true) {r : ARow} {v : Value} (hr : RowOk G w r (r.n, v)) (hre : r.e = e) (hrs : r.sz = j.size) {xs : List Value} (hown : w.ownsRow 0 e j.size v r.n xs)
    (hel : ∀ i, i < r.n → ∃ vs, AV.relL G w (r.el i) vs ∧ vs.length = j.size ∧ ∀ q u, vs[q]? = some u → xs[i * j.size + q]? = some u)
    {m : Nat} {el : Nat → List AV} {news : List Value} (hl : news.length = m * j.size) (hnw : ∀ i, i < m → ∃ vs, AV.relL G w (el i) vs ∧ vs.length = j.size ∧ ∀ q u, vs[q]? = some u → news[i * j.size + q]? = some u)
    {v' : Value} {w' : World} (hrun : (Builtin.append_ ts ty #[v, y]).run P w = .ok v' w') (hown' : w'.ownsRow 0 e j.size v' (r.n + m) (xs ++ news))
    (hcase : ((ownBlk v') = (ownBlk v) ∧ w.grownBy w' (ownBlk v) ∧ (m = 0 → v' = v ∧ w' = w)) ∨ ((ownBlk v') = some w.heap.size ∧ Below w.heap.size w w' ∧ 0 < m)) :
    ∃ v' w' imm', (Builtin.append_ ts ty #[v, y]).run P w = .ok v' w' ∧ (∀ b o, G.imm b o → imm' b o ∧ w'.cell? ⟨b, o, none⟩ = w.cell? ⟨b, o, none⟩) ∧ (∀ b o, imm' b o → G.imm b o ∨ (ownBlk v') = some b) ∧
      (∀ b o, imm' b o → (w'.cell? ⟨b, o, none⟩).isSome = true) ∧ RowOk ⟨imm', G.bx, G.rw⟩ w' ⟨e, j.size, r.n + m, appEl r.n r.el el⟩ (r.n + m, v') ∧ (m = 0 → v' = v ∧ w' = w ∧ imm' = G.imm) ∧
      (AV.lst j.size (r.n + m) (appEl r.n r.el el)).rel ⟨imm', G.bx, G.rw⟩ w' v' ∧
      (((ownBlk v') = (ownBlk v) ∧ w.grownBy w' (ownBlk v)) ∨ ((ownBlk v') = some w.heap.size ∧ Below w.heap.size w w')) := by
  have hxl : xs.length = r.n * j.size := hown.1
  have lt_imm : ∀ b o, G.imm b o → b < w.heap.size := fun b o h => by
    have := imOk b o h
    cases hc : w.cell? ⟨b, o, none⟩ with
    | none => rw [hc] at this; cases this
    | some u => exact World.block_lt_of_cell? w ⟨b, o, none⟩ hc
  have cellX : ∀ {w0 : World} {v0 : Value} {n0 : Nat} {ys : List Value}, w0.ownsRow 0 e j.size v0 n0 ys → ∀ g, (ownBlk v0) = some g → ∀ o u, ys[o]? = some u → w0.cell? ⟨g, o, none⟩ = some u := fun h g hg o u hu => by
    have := h.cells ((ownBlk_eq h).symm.trans hg) o u hu
    have hadd : (⟨g, 0, none⟩ : Addr).add o = ⟨g, o, none⟩ := by
      unfold Addr.add; split
      · rename_i h0; rw [h0]
      · simp
    rwa [hadd] at this
  have hcells : ∀ b o, G.imm b o → w'.cell? ⟨b, o, none⟩ = w.cell? ⟨b, o, none⟩ := by
    intro b o ib
    rcases hcase with ⟨c1, c2, _⟩ | ⟨c1, c2, _⟩
    · by_cases hb : (ownBlk v) = some b
      · have ho := (hr.imm b hb o).1 ib
        rw [hrs] at ho
        have h3 : xs[o]? = some (xs[o]'(by omega)) := List.getElem?_eq_getElem (by omega)
        rw [cellX hown b hb o _ h3, cellX hown' b (c1.trans hb) o _ (by rw [List.getElem?_append_left (by omega)]; exact h3)]
      · exact World.cell?_of_block (w := w) (c2.block b (lt_imm b o ib) (fun h => hb h.symm))
    · exact c2.cell (p := ⟨b, o, none⟩) (lt_imm b o ib)
  have le : G.Le w ⟨fun b o => G.imm b o ∨ ((ownBlk v') = some b ∧ o < (r.n + m) * j.size), G.bx, G.rw⟩ w' := ⟨fun _ _ h => .inl h, hcells, fun _ _ h => h, fun _ e h => ⟨e, h, .inl rfl⟩⟩
  have hlen' : (xs ++ news).length = (r.n + m) * j.size := hown'.1
  have hels : ∀ q, q < r.n + m → ∃ vs, AV.relL ⟨fun b o => G.imm b o ∨ ((ownBlk v') = some b ∧ o < (r.n + m) * j.size), G.bx, G.rw⟩ w' (appEl r.n r.el el q) vs ∧ vs.length = j.size ∧ ∀ k u, vs[k]? = some u → (xs ++ news)[q * j.size + k]? = some u := by
    intro q hq
    by_cases hqn : q < r.n
    · obtain ⟨vs, h1, h2, h3⟩ := hel q hqn
      rw [appEl_lt hqn]
      refine ⟨vs, AV.relL_mono le _ _ h1, h2, fun k u hku => ?_⟩
      have h4 := h3 k u hku
      rw [List.getElem?_append_left (List.getElem?_eq_some_iff.1 h4).1]
      exact h4
    · obtain ⟨vs, h1, h2, h3⟩ := hnw (q - r.n) (by omega)
      rw [appEl_ge (by omega)]
      refine ⟨vs, AV.relL_mono le _ _ h1, h2, fun k u hku => ?_⟩
      have hsub : q * j.size = r.n * j.size + (q - r.n) * j.size := by rw [← Nat.add_mul]; congr 1; omega
      rw [List.getElem?_append_right (by rw [hxl]; omega), hxl, show q * j.size + k - r.n * j.size = (q - r.n) * j.size + k from by omega]
      exact h3 k u hku
  refine ⟨v', w', _, hrun, fun b o ib => ⟨.inl ib, hcells b o ib⟩, fun b o ib => ib.elim .inl fun h => .inr h.1, fun b o ib => ?_, ⟨rfl, ⟨xs ++ news, OwnR.of hown' hj0, hels⟩, fun g hg o => ⟨fun ib => ?_, fun h => .inr ⟨hg, h⟩⟩⟩, fun hm0 => ?_, ?_, ?_⟩
  · rcases ib with ib | ⟨h1, h2⟩
    · rw [hcells b o ib]; exact imOk b o ib
    · rw [cellX hown' b h1 o _ (List.getElem?_eq_getElem (by omega))]; rfl
  · rcases ib with ib | ⟨_, h2⟩
    · rcases hcase with ⟨c1, _⟩ | ⟨c1, _⟩
      · have ho := (hr.imm g (c1.symm.trans hg) o).1 ib
        rw [hrs] at ho
        have : r.n * j.size ≤ (r.n + m) * j.size := Nat.mul_le_mul_right _ (by omega)
        show o < (r.n + m) * j.size
        omega
      · rw [show (ownBlk v') = some w.heap.size from c1] at hg
        simp only [Option.some.injEq] at hg
        have := lt_imm g o ib
        omega
    · exact h2
  · rcases hcase with ⟨c1, c2, c4⟩ | ⟨_, _, c⟩
    · obtain ⟨hv, hw⟩ := c4 hm0
      subst hv
      subst hm0
      refine ⟨rfl, hw, ?_⟩
      funext b o
      apply propext
      constructor
      · rintro (ib | ⟨h1, h2⟩)
        · exact ib
        · refine (hr.imm b h1 o).2 ?_
          rw [hrs]
          simpa using h2
      · exact .inl
    · omega
  · rcases hown'.2 with ⟨rfl, h0⟩ | ⟨g, cap', cur, rfl, hbg, hg, hnc, hcm, hcs, htake⟩
    · exact ⟨none, 0, by rw [h0], by omega, by simp [maxLen], fun h => by omega⟩
    · refine ⟨some ⟨g, 0, none⟩, cap', rfl, hnc, hcm, fun hn => ⟨g, 0, rfl, fun q hq => ?_⟩⟩
      obtain ⟨vs, h1, h2, h3⟩ := hels q hq
      refine ⟨vs, h1, h2, fun k u hku => ?_⟩
      have h4 := h3 k u hku
      rw [Nat.zero_add]
      exact ⟨.inr ⟨rfl, by rw [← hlen']; exact (List.getElem?_eq_some_iff.1 h4).1⟩, cellX hown' g rfl _ u h4⟩
  · rcases hcase with ⟨c1, c2, _⟩ | ⟨c1, c2, _⟩
    · exact .inl ⟨c1, c2⟩
    · exact .inr ⟨c1, c2⟩
/-- Append, of a row and a list, in the words of the logic. -/
theorem append_core {P : Program} {T : TT} (hT : TOk P T) {t e : TypeId} {ty : TypeId} {i j : TI} (hi : TiOk P t i) (hk : i.k = .slice e) (hj : TiOk P e j) (hj0 : 0 < j.size) (hjz : j.zero.length = j.size)
    {G : Gh} {w : World} (imOk : ∀ b o, G.imm b o → (w.cell? ⟨b, o, none⟩).isSome = true) {r : ARow} {v : Value} (hr : RowOk G w r (r.n, v)) (hre : r.e = e) (hrs : r.sz = j.size)
    {y : Value} {m : Nat} {el : Nat → List AV} (hy : (AV.lst j.size m el).rel G w y) (hone : ∀ q, q < m → ∀ vs, AV.relL G w (el q) vs → ∀ u ∈ vs, u.oneCell' = true) (hmax : r.n + m ≤ maxLen) (hbytes : (r.n + m) * j.bytes ≤ 140737488355328) :
    ∃ v' w' imm', (Builtin.append_ #[t, t] ty #[v, y]).run P w = .ok v' w' ∧ (∀ b o, G.imm b o → imm' b o ∧ w'.cell? ⟨b, o, none⟩ = w.cell? ⟨b, o, none⟩) ∧ (∀ b o, imm' b o → G.imm b o ∨ (ownBlk v') = some b) ∧
      (∀ b o, imm' b o → (w'.cell? ⟨b, o, none⟩).isSome = true) ∧ RowOk ⟨imm', G.bx, G.rw⟩ w' ⟨e, j.size, r.n + m, appEl r.n r.el el⟩ (r.n + m, v') ∧ (m = 0 → v' = v ∧ w' = w ∧ imm' = G.imm) ∧
      (AV.lst j.size (r.n + m) (appEl r.n r.el el)).rel ⟨imm', G.bx, G.rw⟩ w' v' ∧
      (((ownBlk v') = (ownBlk v) ∧ w.grownBy w' (ownBlk v)) ∨ ((ownBlk v') = some w.heap.size ∧ Below w.heap.size w w')) := by
  obtain ⟨n, sz, re, rel0⟩ : True ∧ True ∧ True ∧ True := ⟨trivial, trivial, trivial, trivial⟩
  clear n sz re rel0
  obtain ⟨xs, hown0, hel⟩ := hr.own
  have hown := hown0.row (by rw [hrs]; exact hj0)
  simp only at hown hel
  rw [hre, hrs] at hown
  rw [hrs] at hel
  obtain ⟨A, cap, rfl, _⟩ := id hy
  obtain ⟨news, hl, hA, hnw, hmem⟩ := lst_cells hj0 hy
  obtain ⟨d, hu, hdk⟩ := hi.und_some
  rw [hk] at hdk
  have := tkOf_slice hdk
  subst this
  obtain ⟨ie, z, g2, g1, g3, g4, e2⟩ : ∃ ie z, P.info? e = some ie ∧ ie.size = j.size ∧ ie.zero = some z ∧ ie.bytes = j.bytes ∧ z.cells.toList = j.zero := by
    have h1 := hj.info
    cases hie : P.info? e with
    | none => rw [hie] at h1; cases h1
    | some x =>
      rw [hie] at h1
      simp only [Option.map_some, Option.some.injEq, Prod.mk.injEq] at h1
      cases hzz : x.zero with
      | none => rw [hzz] at h1; cases h1.1
      | some z =>
        rw [hzz] at h1
        simp only [Option.map_some, Option.some.injEq] at h1
        exact ⟨x, z, rfl, h1.2.1, hzz, h1.2.2, h1.1⟩
  have hzs : z.cells.size = ie.size := by rw [g1, ← hjz, ← e2]; simp
  rw [← g1] at hown hl
  obtain ⟨v', w', hrun, hown', hcase⟩ := append_exact (ty := ty) hu g2 g3 hzs hown (A := A) (m := m) (c := cap) hl hA (fun u hu => by
    obtain ⟨q, hq, vs, h1, h2⟩ := hmem u hu
    exact hone q hq vs h1 u h2) hmax (by rw [g4]; exact hbytes)
  rw [g1] at hown hl hown'
  refine append_core_of hj0 imOk hr hre hrs hown hel hl hnw hrun hown' ?_
  rcases hcase with ⟨c1, c2, c3, c4⟩ | ⟨c1, c2, c⟩
  · refine .inl ⟨c1, c2, fun hm0 => ?_⟩
    have hv := c4 hm0
    subst hv
    subst hm0
    have hrun0 : (Builtin.append_ #[t, t] ty #[v', .slice A 0 cap]).run P w = .ok v' w := by
      have hc : (Builtin.firstCells j.size 0 (.slice A 0 cap)).run P w = .ok #[] w := by
        cases A <;> simp [Builtin.firstCells, loadCells, loadCellsFrom]
      rcases hown.2 with ⟨rfl, h0⟩ | ⟨g, cap', cur, rfl, hbg, hg, hnc, hcm, hcs, htake⟩
      · simp [Builtin.append_, run_underlying hu, sizeOf, typeInfo, g2, g1, Builtin.lenOf, hc]
      · simp [Builtin.append_, run_underlying hu, sizeOf, typeInfo, g2, g1, Builtin.lenOf, hc, hnc, storeCells]
    rw [hrun0] at hrun
    simp only [Result.ok.injEq, true_and] at hrun
    exact ⟨rfl, hrun.symm⟩
  · exact .inr ⟨c1, c2, c⟩
/-- What append does to a row of bytes and a string. -/
theorem append_exact_str {P : Program} {w : World} {t u ty e : TypeId} {i : TypeInfo} {z : Value} (ht : P.underlying t = some (.slice e)) (hu : P.underlying u = some .string) (hi : P.info? e = some i) (hz : i.zero = some z) (hz1 : z.cells.size = 1) (hs1 : i.size = 1) (hby : i.bytes = 1)
    {v : Value} {n : Nat} {xs : List Value} (hown : w.ownsRow 0 e 1 v n xs) (s : ByteArray) (h63 : n + s.size ≤ maxLen) (hbytes : n + s.size ≤ 140737488355328) :
    ∃ v' w', (Builtin.append_ #[t, u] ty #[v, .string s]).run P w = .ok v' w' ∧ w'.ownsRow 0 e 1 v' (n + s.size) (xs ++ Lib.strCells s) ∧
      (((ownBlk v') = (ownBlk v) ∧ w.grownBy w' (ownBlk v) ∧ (s.size = 0 → v' = v ∧ w' = w)) ∨ ((ownBlk v') = some w.heap.size ∧ Below w.heap.size w w' ∧ 0 < s.size)) := by
  have hsmall : n + s.size ≤ 9223372036854775807 := by simp only [maxLen] at h63; omega
  have hxl : xs.length = n := by simpa using hown.1
  have hlen : (xs ++ Lib.strCells s).length = (n + s.size) * 1 := by rw [List.length_append, hxl, Lib.strCells_length, Nat.mul_one]
  have hf := Lib.run_firstCells_string (P := P) w 1 s
  rcases Nat.eq_zero_or_pos s.size with hm | hm
  · have hn : Lib.strCells s = [] := List.eq_nil_of_length_eq_zero (by rw [Lib.strCells_length]; exact hm)
    refine ⟨v, w, ?_, by rw [hm, hn]; simpa using hown, .inl ⟨rfl, ⟨rfl, rfl, rfl, Nat.le_refl _, fun _ _ _ => rfl⟩, fun _ => ⟨rfl, rfl⟩⟩⟩
    rw [hm, hn] at hf
    rcases hown.2 with ⟨rfl, rfl⟩ | ⟨g, cap, cur, rfl, hbg, hg, hnc, hcm, hcs, htake⟩
    · simp [Builtin.append_, run_underlying ht, run_underlying hu, sizeOf, typeInfo, hi, hs1, Builtin.lenOf, hm, hf]
    · simp [Builtin.append_, run_underlying ht, run_underlying hu, sizeOf, typeInfo, hi, hs1, Builtin.lenOf, hm, hf, hnc, storeCells]
  have grown : ∀ (old : Nat),
      (w.drew.alloc (.cells (xs.toArray ++ (Lib.strCells s).toArray ++ Builtin.zeroCells z.cells (grownCap w (n + s.size) old e - (n + s.size))) e)).ownsRow 0 e 1
        (.slice (some ⟨w.heap.size, 0, none⟩) (n + s.size) (grownCap w (n + s.size) old e)) (n + s.size) (xs ++ Lib.strCells s) := by
    intro old
    have hge := grownCap_ge w (n + s.size) old e
    have hcm : grownCap w (n + s.size) old e ≤ maxLen := grownCap_le_maxLen w (n + s.size) old e h63
    refine ⟨hlen, .inr ⟨w.heap.size, _, _, rfl, Nat.zero_le _, heap_alloc_new w.drew _, hge, hcm, ?_, ?_⟩⟩
    · simp only [Array.size_append, List.size_toArray, size_zeroCells, hz1, hxl, Lib.strCells_length]
      omega
    · simp only [Array.toList_append, List.append_assoc]
      rw [← List.append_assoc, ← hlen]
      exact List.take_left
  have below : ∀ (cs : Array Value), Below w.heap.size w (w.drew.alloc (.cells cs e)) := fun cs => (Below.refl _ _).drew.alloc (Nat.le_refl _) _
  rcases hown.2 with ⟨rfl, rfl⟩ | ⟨g, cap, cur, rfl, hbg, hg, hnc, hcm, hcs, htake⟩
  · have hx : xs = [] := List.eq_nil_of_length_eq_zero hxl
    subst hx
    have hr := run_append_nil_string (P := P) w t u ty e i z ht hu hi hz s (by omega) (by omega) (by rw [hby]; omega)
    have hgr := grown 0
    simp only [Nat.zero_add, List.nil_append, Array.empty_append] at hgr ⊢
    have e1 : (s.data.map fun b => Value.int .u8 b.toNat) = (Lib.strCells s).toArray := by
      apply Array.ext'
      simp [Lib.strCells]
    rw [e1] at hr
    exact ⟨_, _, hr, hgr, .inr ⟨rfl, below _, hm⟩⟩
  · by_cases hroom : n + s.size ≤ cap
    · have hcs' : cur.size = cap := by simpa using hcs
      have hr := Lib.run_append_room_string (P := P) w t u ty e i ht hu hi hs1 g n cap cur hg s hroom (by omega)
      refine ⟨_, _, hr, ⟨hlen, .inr ⟨g, cap, _, rfl, hbg, setRow_heap w g cur _ e _ hg, hroom, hcm, ?_, ?_⟩⟩, .inl ⟨rfl, ⟨rfl, rfl, rfl, by simp, fun k _ hk => setRow_other w g k _ (fun e => hk (by simp [ownBlk, e]))⟩, fun h => by omega⟩⟩
      · simp only [List.size_toArray, List.length_append, List.length_take, List.length_drop, Array.length_toList, Lib.strCells_length]
        omega
      · have ht' : cur.toList.take n = xs := by simpa using htake
        rw [ht', ← hlen]
        exact List.take_left
    · have holds : ∀ j u, xs[j]? = some u → w.cell? ((⟨g, 0, none⟩ : Addr).add j) = some u := hown.cells (g := g) rfl
      have hr := Lib.run_append_grow_string (P := P) w t u ty e i z ht hu hi hz ⟨g, 0, none⟩ n cap xs (by rw [hs1]; simpa using hxl) holds s (by omega) (by omega) (by rw [hby]; exact growslice_fits (by omega) (by omega))
      exact ⟨_, _, hr, grown cap, .inr ⟨rfl, below _, hm⟩⟩
/-- A string's bytes, as elements. -/
def strEl (s : ByteArray) (q : Nat) : List AV := [.raw (.int .u8 ((s.data.toList.getD q 0).toNat : Int))]
/-- Append, of a row of bytes and a string. -/
theorem append_core_str {P : Program} {T : TT} (hT : TOk P T) {t u e : TypeId} {ty : TypeId} {i j iu : TI} (hi : TiOk P t i) (hk : i.k = .slice e) (hu : TiOk P u iu) (hku : iu.k = .str) (hj : TiOk P e j) (hj1 : j.size = 1) (hjb : j.bytes = 1) (hjz : j.zero.length = 1)
    {G : Gh} {w : World} (imOk : ∀ b o, G.imm b o → (w.cell? ⟨b, o, none⟩).isSome = true) {r : ARow} {v : Value} (hr : RowOk G w r (r.n, v)) (hre : r.e = e) (hrs : r.sz = j.size)
    (s : ByteArray) (hmax : r.n + s.size ≤ maxLen) (hbytes : r.n + s.size ≤ 140737488355328) :
    ∃ v' w' imm', (Builtin.append_ #[t, u] ty #[v, .string s]).run P w = .ok v' w' ∧ (∀ b o, G.imm b o → imm' b o ∧ w'.cell? ⟨b, o, none⟩ = w.cell? ⟨b, o, none⟩) ∧ (∀ b o, imm' b o → G.imm b o ∨ (ownBlk v') = some b) ∧
      (∀ b o, imm' b o → (w'.cell? ⟨b, o, none⟩).isSome = true) ∧ RowOk ⟨imm', G.bx, G.rw⟩ w' ⟨e, j.size, r.n + s.size, appEl r.n r.el (strEl s)⟩ (r.n + s.size, v') ∧ (s.size = 0 → v' = v ∧ w' = w ∧ imm' = G.imm) ∧
      (AV.lst j.size (r.n + s.size) (appEl r.n r.el (strEl s))).rel ⟨imm', G.bx, G.rw⟩ w' v' ∧
      (((ownBlk v') = (ownBlk v) ∧ w.grownBy w' (ownBlk v)) ∨ ((ownBlk v') = some w.heap.size ∧ Below w.heap.size w w')) := by
  obtain ⟨xs, hown0, hel⟩ := hr.own
  have hown := hown0.row (by rw [hrs]; omega)
  simp only at hown hel
  rw [hre, hrs] at hown
  rw [hrs] at hel
  obtain ⟨d, q1, q2⟩ := hi.und_some
  rw [hk] at q2
  have := tkOf_slice q2
  subst this
  obtain ⟨d, q3, q4⟩ := hu.und_some
  rw [hku] at q4
  have := tkOf_str q4
  subst this
  obtain ⟨ie, z, g2, g1, g3, g4, e2⟩ : ∃ ie z, P.info? e = some ie ∧ ie.size = j.size ∧ ie.zero = some z ∧ ie.bytes = j.bytes ∧ z.cells.toList = j.zero := by
    have h1 := hj.info
    cases hie : P.info? e with
    | none => rw [hie] at h1; cases h1
    | some x =>
      rw [hie] at h1
      simp only [Option.map_some, Option.some.injEq, Prod.mk.injEq] at h1
      cases hzz : x.zero with
      | none => rw [hzz] at h1; cases h1.1
      | some z =>
        rw [hzz] at h1
        simp only [Option.map_some, Option.some.injEq] at h1
        exact ⟨x, z, rfl, h1.2.1, hzz, h1.2.2, h1.1⟩
  have hz1 : z.cells.size = 1 := by rw [← Array.length_toList, e2, hjz]
  rw [hj1] at hown
  obtain ⟨v', w', hrun, hown', hcase⟩ := append_exact_str (ty := ty) q1 q3 g2 g3 hz1 (g1.trans hj1) (g4.trans hjb) hown s hmax hbytes
  rw [← hj1] at hown hown'
  refine append_core_of (by omega) imOk hr hre hrs hown hel (el := strEl s) (by rw [Lib.strCells_length, hj1, Nat.mul_one]) (fun i hi => ?_) hrun hown' hcase
  refine ⟨[.int .u8 ((s.data.toList.getD i 0).toNat : Int)], ⟨_, _, rfl, rfl, rfl⟩, by rw [hj1]; rfl, fun q u hq => ?_⟩
  rcases q with _ | q
  · simp only [List.getElem?_cons_zero, Option.some.injEq] at hq
    subst hq
    rw [hj1, Nat.mul_one, Nat.add_zero]
    have hi' : i < s.data.size := hi
    simp [Lib.strCells, List.getElem?_eq_getElem hi', hi']
  · simp at hq
end Go.Proofs.YtcdgncmkkknmlaaGreatDoor
/- The abstract logic: regions that draw their order and make variables, or rows that they append to. -/
namespace Go.Proofs.YtcdgncmkkknmlaaGreatDoor
set_option linter.unusedVariables false
set_option linter.unusedSimpArgs false
set_option maxHeartbeats 4000000
set_option maxRecDepth 100000
open Go.RowKit

/-- What an operation of a region makes and nobody else has: a variable, or a row. -/
inductive Tk where
  | box (cs : List AV)
  | row (r : ARow)
def TkOk (G : Gh) (w : World) : Tk → Value → Prop
  | .box cs, v => ∃ (blk : Nat) (vs : List Value) (T : TypeId), v = .pointer (some ⟨blk, 0, none⟩) ∧ w.heap[blk]? = some (.cells vs.toArray T (0, 0)) ∧ AV.relL G w cs vs ∧ ∀ o, ¬ G.imm blk o
  | .row r, v => RowOk G w r (r.n, v)
def tkBlk : Value → Option Nat
  | .pointer (some a) => some a.block
  | v => (ownBlk v)
theorem TkOk.lt {G : Gh} {w : World} {t : Tk} {v : Value} {b : Nat} (h : TkOk G w t v) (hb : tkBlk v = some b) : ∃ o : Obj, w.heap[b]? = some o ∧ cellsO o = true := by
  cases t with
  | box cs =>
    obtain ⟨blk, vs, T, rfl, h1, _⟩ := h
    simp only [tkBlk, Option.some.injEq] at hb
    subst hb
    exact ⟨_, h1, rfl⟩
  | row r =>
    obtain ⟨xs, hown, _⟩ := RowOk.own h
    rcases hown.2 with ⟨e, _⟩ | ⟨g, cap, cur, e, _, h1, _⟩ | ⟨g, es, ck, e, _, h1, _⟩
    · simp only at e
      rw [e] at hb
      simp [tkBlk, ownBlk] at hb
    · simp only at e
      rw [e] at hb
      simp only [tkBlk, ownBlk, Option.some.injEq] at hb
      subst hb
      exact ⟨_, h1, rfl⟩
    · simp only at e
      rw [e] at hb
      simp only [tkBlk, ownBlk, Option.some.injEq] at hb
      subst hb
      exact ⟨_, h1, rfl⟩
theorem TkOk.keep {G G' : Gh} {w w' : World} {t : Tk} {v : Value} (h : TkOk G w t v) (le : G.Le w G' w') (hh : ∀ b, tkBlk v = some b → w'.heap[b]? = w.heap[b]? ∧ ∀ o, G'.imm b o ↔ G.imm b o) : TkOk G' w' t v := by
  cases t with
  | box cs =>
    obtain ⟨blk, vs, T, rfl, h1, h2, h3⟩ := h
    obtain ⟨h4, h5⟩ := hh blk rfl
    exact ⟨blk, vs, T, rfl, by rw [h4]; exact h1, AV.relL_mono le _ _ h2, fun o i => h3 o ((h5 o).1 i)⟩
  | row r =>
    have ro : RowOk G w r (r.n, v) := h
    obtain ⟨xs, hown, hel⟩ := ro.own
    have hblk : ∀ g, (ownBlk v) = some g → tkBlk v = some g := fun g hg => by
      rcases hown.2 with ⟨e, _⟩ | ⟨g', cap, cur, e, _⟩ | ⟨g', es, ck, e, _⟩
      · simp only at e; subst e; simp [ownBlk] at hg
      · simp only at e; subst e; exact hg
      · simp only at e; subst e; exact hg
    refine ⟨rfl, ⟨xs, ⟨hown.1, ?_⟩, fun i hi => ?_⟩, fun g hg o => ?_⟩
    · exact (hown.keep (w' := w') fun g h1 _ => (hh g (hblk g h1)).1).2
    · obtain ⟨vs, e1, e2⟩ := hel i hi
      exact ⟨vs, AV.relL_mono le _ _ e1, e2⟩
    · rw [← ro.imm g hg o]
      exact (hh g (hblk g hg)).2 o

inductive Kd where
  | pure
  | mk (t : Tk)
  | app (j : Nat) (t : Tk)
def Kd.tk : Kd → Option Tk
  | .pure => none
  | .mk t => some t
  | .app _ t => some t
def Kd.box? : Kd → Option (List AV)
  | .mk (.box cs) => some cs
  | .app _ (.box cs) => some cs
  | _ => none
def Kd.isBox (k : Kd) : Bool := k.box?.isSome
def boxesOf (ks : List Kd) : List (List AV) := ks.filterMap Kd.box?
/-- Memory has grown; besides, one block may have changed. -/
structure Grow (ob : Option Nat) (bx : List (List AV)) (rw : List ARow) (G : Gh) (w : World) (G' : Gh) (w' : World) : Prop where
  le : G.Le w G' w'
  out : Outside (fun k => ob = some k) w w'
  gbx : G'.bx = G.bx
  grw : G'.rw = G.rw
  mem : MSat G' w' bx rw
  fresh : ∀ b o, G'.imm b o → G.imm b o ∨ w.heap.size ≤ b ∨ ob = some b
/-- What is not owned by others. -/
def FreeBlk (G : Gh) (v : Value) : Prop := ∀ b, tkBlk v = some b → b ∉ G.bx ∧ ∀ y ∈ G.rw, (ownBlk y.2) ≠ some b
/-- What an operation that makes something does. -/
def CrSpec (P : Program) (ops : Array Oper) (o : Oper) (st : ASt) (x : AV) (use : Option (Nat × Tk)) (t : Tk) : Prop :=
  ∀ (G : Gh) (a : Act) (w : World), MSat G w st.bx st.rw → (∀ t ∈ o.looksAt ops, SlotOk G w a st t) → ∀ (v0 : Value), (∀ s t0, use = some (s, t0) → a.tmps[s]? = some v0 ∧ TkOk G w t0 v0 ∧ FreeBlk G v0) →
    Region.wanted o (yielded ops a.tmps) = true ∧
    ∀ (ro : Option Nat) (K : Act → World → Prop) (Q : Exit → Act → World → Prop), (∀ v G' w', Grow (use.bind fun _ => tkBlk v0) st.bx st.rw G w G' w' → ((∃ cs, t = .box cs) ∨ x.rel G' w' v) → TkOk G' w' t v →
      (∀ b, tkBlk v = some b → w.heap.size ≤ b ∨ (use.bind fun _ => tkBlk v0) = some b) → K (a.put o.dst v) w') → o.wpIn (fen ro) 0 P a w K Q

def Alive (ks : List Kd) (listed : Array Bool) (k : Nat) : Prop := listed.getD k false = true ∧ ∀ j t, ks[j]? = some (.app k t) → listed.getD j false = false
structure TokS {P : Program} (C : Ctx P) (es : List (Nat × (Bool × AV))) (ks : List Kd) (listed : Array Bool) (G : Gh) (a : Act) (w : World) (D : Nat → Prop) : Prop where
  tok : ∀ (k d : Nat) (e : Bool × AV) (kd : Kd) (t : Tk), es[k]? = some (d, e) → ks[k]? = some kd → kd.tk = some t → Alive ks listed k → ∃ v, a.tmps[d]? = some v ∧ TkOk G w t v ∧ FreeBlk G v ∧ ∀ b, tkBlk v = some b → ¬ D b ∧ C.w0.heap.size ≤ b
  sep : ∀ (k k' d d' : Nat) (e e' : Bool × AV) (kd kd' : Kd) (v v' : Value) (b : Nat), es[k]? = some (d, e) → es[k']? = some (d', e') → ks[k]? = some kd → ks[k']? = some kd' → kd.tk ≠ none → kd'.tk ≠ none → Alive ks listed k → Alive ks listed k' →
    a.tmps[d]? = some v → a.tmps[d']? = some v' → tkBlk v = some b → tkBlk v' = some b → k = k'
structure Mid2 {P : Program} (C : Ctx P) (ops : List Oper) (es : List (Nat × (Bool × AV))) (ks : List Kd) (st : ASt) (listed : Array Bool) (G : Gh) (a : Act) (w : World) : Prop where
  frame' : Outside C.may C.w0 w
  le : C.G0.Le C.w0 G w
  fresh : ∀ b o, G.imm b o → C.G0.imm b o ∨ C.w0.heap.size ≤ b ∨ ∃ x ∈ C.G0.rw, (ownBlk x.2) = some b
  ownB : ∀ blk ∈ G.bx, blk ∈ C.G0.bx ∨ C.w0.heap.size ≤ blk
  ownR : ∀ x ∈ G.rw, ∀ g, (ownBlk x.2) = some g → (∃ y ∈ C.G0.rw, (ownBlk y.2) = some g) ∨ C.w0.heap.size ≤ g
  mem : MSat G w st.bx st.rw
  fits : dstsFit a.tmps.size ops = true
  frame : a.tmps.size = st.nt
  callers : C.G0.bx.length = st.nb % 64 ∧ C.G0.rw.length = st.nb / 64
  size : ops.length ≤ listed.size
  clo : ∀ (k : Nat) (o : Oper), ops[k]? = some o → listed.getD k true = true → ∀ e ∈ o.after, Region.binds .any e = true → listed.getD e.on false = true
  old : ∀ (t : Nat), (∀ (k : Nat) (o : Oper), ops[k]? = some o → o.dst = some t → listed.getD k true = false) → SlotOk G w a st t
  new : ∀ (k d : Nat) (g : Bool) (x : AV) (kd : Kd), es[k]? = some (d, (g, x)) → ks[k]? = some kd → kd.isBox = false → listed.getD k false = true → ∃ v, a.tmps[d]? = some v ∧ (g = true → x.rel G w v) ∧ (g = false → v = undef)
  env : ∃ D, EnvD C G a.defers st.ys D w ∧ TokS C es ks listed G a w D

def kdApp : Option Kd → Option Nat
  | some (.app j _) => some j
  | _ => none
def kdBox : Option Kd → Bool
  | some k => k.isBox
  | none => false
def usesOk (ops : List Oper) (ks : List Kd) : Bool :=
  (List.range ks.length).all fun i => match kdApp ks[i]? with
    | some j => decide (j < i) && !kdBox ks[j]? && (match ops[i]? with
        | some o => o.after.any fun e => e.on == j && Region.binds .any e
        | none => false) && (List.range ks.length).all fun i' => kdApp ks[i']? != some j || i' == i
    | none => true
/-- An operation that only takes a part of what lies in a slot. -/
def isFl (o : Oper) : Bool := match o.op with
  | .extract (.tmp _) _ => o.guard.isNone && o.dst.isSome
  | _ => false
def waitsFor (o : Oper) (k : Nat) : Bool := o.after.any fun e => e.on == k && Region.binds .any e
/-- An operation that may be carried out whenever it is ready: nothing that does not wait for it has to do with it. -/
def floatOk (full : List Oper) (k : Nat) : Bool := match full[k]? with
  | some o => isFl o && (List.range full.length).all fun j => j == k || waitsFor o j || (match full[j]? with
    | some oj => waitsFor oj k || o.apart full.toArray oj
    | none => true)
  | none => false
def tail3 (m0 : Nat) (full : List Oper) : Bool := full.zipIdx.all fun x => decide (x.2 < m0) || ((x.1.after.all fun e => !Region.binds .any e || decide (e.on < x.2)) && (List.range x.2).all fun k => waitsFor x.1 k || (decide (k < m0) && floatOk full k))
def plainOps (full : List Oper) : Bool := full.all fun o => match o.op with
  | .defer _ => false
  | .select _ _ => false
  | _ => true
def kdPure : Option Kd → Bool
  | some .pure => true
  | _ => false
def depOk3 (ops : List Oper) (ks : List Kd) (l2 : List Oper) : Bool :=
  (((ops.filterMap (·.dst)).length == ops.length) && decide (ops.filterMap (·.dst)).Nodup &&
  ops.zipIdx.all fun x => (x.1.after.all fun e => !Region.binds .any e || decide (e.on < x.2)) && (x.1.looksAt (ops ++ l2).toArray).all fun t => ops.zipIdx.all fun y => y.1.dst != some t || (decide (y.2 < x.2) && !kdBox ks[y.2]? && x.1.after.any fun e => e.on == y.2 && Region.binds .any e) || (decide (x.2 < y.2) && waitsFor y.1 x.2)) &&
  usesOk ops ks && (tail3 ops.length (ops ++ l2) && plainOps (ops ++ l2) && (List.range ops.length).all fun k => !floatOk (ops ++ l2) k || kdPure ks[k]?)
theorem waitsFor_sound {o : Oper} {k : Nat} (h : waitsFor o k = true) : ∃ e ∈ o.after, e.on = k ∧ Region.binds .any e = true := by
  unfold waitsFor at h
  rw [Array.any_eq_true'] at h
  obtain ⟨e, he, h6⟩ := h
  simp only [Bool.and_eq_true, beq_iff_eq] at h6
  exact ⟨e, he, h6.1, h6.2⟩
theorem TokM_tabs {P : Program} {C : Ctx P} {G : Gh} {ds : List Deferred} {ys : (Nat × List (List AV)) × List (List AV) × Bool} {w : World} {X : (Nat → Prop) → Prop} (e : ∃ D, EnvD C G ds ys D w ∧ X D) : Tabs P w :=
  let ⟨D, e, _⟩ := e
  EnvD.tabs ⟨D, e⟩
def StepOk (P : Program) (full : Array Oper) (es : List (Nat × (Bool × AV))) (ks : List Kd) (st : ASt) (o : Oper) (g : Bool) (x : AV) : Kd → Prop
  | .pure => OpSpec P full o st g x
  | .mk t => g = true ∧ CrSpec P full o st x none t
  | .app j t => g = true ∧ ∃ dj ej kdj tj, es[j]? = some (dj, ej) ∧ ks[j]? = some kdj ∧ kdj.tk = some tj ∧ CrSpec P full o st x (some (dj, tj)) t

end Go.Proofs.YtcdgncmkkknmlaaGreatDoor
/- The abstract logic: the rules for regions that draw their order and make variables, or rows. -/
namespace Go.Proofs.YtcdgncmkkknmlaaGreatDoor
set_option linter.unusedVariables false
set_option linter.unusedSimpArgs false
set_option maxHeartbeats 4000000
set_option maxRecDepth 100000
open Go.RowKit

section specs
variable {P : Program} {T : TT} {ops : Array Oper} {o : Oper} {st : ASt} {x : AV}
/-- A slice that is made of parts: a row that nobody else has. -/
def mkRowA (T : TT) (st : ASt) (o : Op) : Option (List Bool × ARow × Prop) :=
  match o with
  | .buildSlice t len parts => match T t with
    | some ⟨.slice e, _, _, _, _⟩ => match T e with
      | some j => match fillA st (fun i => some (i * j.size, j.size)) parts.toList (zerosA len j.zero) with
        | some (gs, cs, p) => some (gs, ⟨e, j.size, len, chunkA j.size cs⟩, p ∧ 0 < j.size ∧ len * j.size ≤ 16777216 ∧ j.zero.length = j.size)
        | none => none
      | none => none
    | _ => none
  | _ => none
theorem mkRow_sound (hT : TOk P T) {G : Gh} {a : Act} {w : World} (hm : MSat G w st.bx st.rw) {cs : List Bool} {r : ARow} {p : Prop} (h : mkRowA T st o.op = some (cs, r, p)) (hc : ∀ c ∈ cs, c = true) (hp : p)
    (hev : ∀ y ∈ o.op.operands.toList, EvOk G w a st y) : ∃ (us : List Value) (e : TypeId), (execOp a.eval o).run P w = .ok (.value (.slice (some ⟨w.heap.size, 0, none⟩) r.n r.n)) (w.alloc (.cells us.toArray e)) ∧
      Ext st.bx st.rw G w ⟨fun b q => G.imm b q ∨ (b = w.heap.size ∧ q < us.length), G.bx, G.rw⟩ (w.alloc (.cells us.toArray e)) ∧
      (AV.lst r.sz r.n r.el).rel ⟨fun b q => G.imm b q ∨ (b = w.heap.size ∧ q < us.length), G.bx, G.rw⟩ (w.alloc (.cells us.toArray e)) (.slice (some ⟨w.heap.size, 0, none⟩) r.n r.n) ∧
      RowOk ⟨fun b q => G.imm b q ∨ (b = w.heap.size ∧ q < us.length), G.bx, G.rw⟩ (w.alloc (.cells us.toArray e)) r (r.n, .slice (some ⟨w.heap.size, 0, none⟩) r.n r.n) := by
  obtain ⟨dst, op, type, pos, after, guard⟩ := o
  simp only at h hev
  unfold mkRowA at h
  split at h
  · rename_i t len parts
    split at h
    · rename_i e _ _ _ _ h1
      split at h
      · rename_i j h2
        split at h
        · rename_i gs cs' p' h3
          simp only [Option.some.injEq, Prod.mk.injEq] at h
          obtain ⟨rfl, rfl, rfl⟩ := h
          obtain ⟨q1, q2, q3, q4⟩ := hp
          have hev' : ∀ q ∈ parts.toList, EvOk G w a st q.2 := fun q hq => hev q.2 (by simp [Op.operands]; exact ⟨q.1, by simpa using hq⟩)
          obtain ⟨us, e1, e2⟩ := fillA_sound (a := a) hm _ _ _ _ _ _ hev' h3 hc q1 (zerosA_rel len j.zero)
          have e3 := buildSlice_run (w := w) (hT _ _ h1) rfl (hT _ _ h2) q2 q3 q4 (parts := parts.map fun q => (q.1, a.eval q.2)) (us := us) (by simpa using e1)
          have hlen : us.length = len * j.size := by
            have := fill_size _ _ _ e1
            simp only [List.size_toArray, zerosV_length, q4] at this
            exact this
          have hcell : ∀ k u, us[k]? = some u → (w.alloc (.cells us.toArray e)).cell? ⟨w.heap.size, k, none⟩ = some u := fun k u hk => by
            have := heap_alloc_new w (.cells us.toArray e)
            simp only [World.cell?, this]
            simpa using hk
          have E := msat_ext hm ((Below.refl _ _).alloc (Nat.le_refl _) (.cells us.toArray e)) (fun b o => G.imm b o ∨ (b = w.heap.size ∧ o < us.length)) (fun b o i => .inl i) (fun b o i => i.elim .inl fun i => .inr (by omega))
            (fun b o i => by
              rcases i with i | ⟨rfl, i⟩
              · have := hm.lt_imm i
                rw [World.cell?_of_block (w := w) (heap_alloc_old w _ this)]
                exact hm.immOk b o i
              · rw [hcell o us[o] (List.getElem?_eq_getElem i)]; rfl)
          have hml : len ≤ maxLen := by
            have : len ≤ len * j.size := Nat.le_mul_of_pos_right _ q2
            simp only [maxLen]; omega
          have hels : ∀ i, i < len → ∃ vs, AV.relL ⟨fun b q => G.imm b q ∨ (b = w.heap.size ∧ q < us.length), G.bx, G.rw⟩ (w.alloc (.cells us.toArray e)) (chunkA j.size cs' i) vs ∧ vs.length = j.size ∧ ∀ k u, vs[k]? = some u → us[i * j.size + k]? = some u := by
            intro i hi
            refine ⟨(us.drop (i * j.size)).take j.size, AV.relL_take _ (AV.relL_drop _ (AV.relL_mono E.le _ _ e2)), ?_, fun k u hk => ?_⟩
            · have : (i + 1) * j.size ≤ len * j.size := Nat.mul_le_mul_right _ hi
              rw [Nat.succ_mul] at this
              simp; omega
            · rw [List.getElem?_take] at hk
              split at hk
              · rwa [List.getElem?_drop] at hk
              · cases hk
          refine ⟨us, e, by simp only [execOp, Sem.run_bind, e3, Result.andThen_ok]; rfl, E, ⟨_, len, rfl, Nat.le_refl _, hml, fun hn => ⟨w.heap.size, 0, rfl, fun i hi => ?_⟩⟩, ⟨rfl, ⟨us, OwnR.of ⟨hlen, .inr ⟨w.heap.size, len, us.toArray, rfl, Nat.zero_le _, heap_alloc_new w _, Nat.le_refl _, hml, by simpa using hlen, by simp [← hlen]⟩⟩ (show 0 < j.size by omega), hels⟩, fun g hg o => ?_⟩⟩
          · obtain ⟨vs, v1, v2, v3⟩ := hels i hi
            refine ⟨vs, v1, v2, fun k u hk => ?_⟩
            have := v3 k u hk
            rw [Nat.zero_add]
            exact ⟨.inr ⟨rfl, (List.getElem?_eq_some_iff.1 this).1⟩, hcell _ _ this⟩
          · simp only [ownBlk, Option.some.injEq] at hg
            subst hg
            show (G.imm w.heap.size o ∨ (w.heap.size = w.heap.size ∧ o < us.length)) ↔ o < len * j.size
            rw [hlen]
            exact ⟨fun h => h.elim (fun h => by have := hm.lt_imm h; omega) (·.2), fun h => .inr ⟨rfl, h⟩⟩
        · cases h
      · cases h
    · cases h
  · cases h
/-- What append appends to, and what. -/
def appA (st : ASt) (o : Op) : Option (Nat × Bool × Nat × Nat × (Nat → List AV) × Prop × TypeId) :=
  match o with
  | .call c => match c.callee with
    | .builtin .append => match c.args.toList, c.argTypes.toList with
      | [.tmp s, y], [t, t'] => bif Nat.beq t t' then match st.ev y with
        | some (g, v) => match st.asL v with
          | some (sz, m, el, p) => some (s, g, sz, m, el, p, t)
          | none => none
        | none => none
      else none
      | _, _ => none
    | _ => none
  | _ => none
end specs

/-- A region that draws its order, of which some operations are done: what they made stands in es and ks. From some place on it goes in the order of the text. -/
def runF (P : Program) (full : List Oper) (es : List (Nat × (Bool × AV))) (ks : List Kd) (l : List Oper) (k : ASt → Prop) (sl0 : List (Nat × (Bool × AV))) (st : ASt) : Prop :=
  st.sl = es.reverse ++ sl0 → es.length = ks.length → ∃ (es' : List (Nat × (Bool × AV))) (ks' : List Kd) (l1 l2 : List Oper), l = l1 ++ l2 ∧ es'.length = l1.length ∧ ks'.length = l1.length ∧
    (∀ i o, l1[i]? = some o → ∃ d g x kd, es'[i]? = some (d, (g, x)) ∧ ks'[i]? = some kd ∧ o.dst = some d ∧ StepOk P full.toArray (es ++ es') (ks ++ ks') { st with sl := (es'.take i).reverse ++ st.sl } o g x kd) ∧
    (∀ (i d : Nat) (g : Bool) (x : AV) (kd : Kd) (cs : List AV), es'[i]? = some (d, (g, x)) → ks'[i]? = some kd → kd.box? = some cs → x = .box (st.bx.length + (boxesOf (ks ++ ks'.take i)).length) 0) ∧
    runS P full.toArray l2 k { st with sl := es'.reverse ++ st.sl, bx := st.bx ++ boxesOf (ks ++ ks') } ∧ depOk3 (full.take (es.length + l1.length)) (ks ++ ks') l2 = true
section drawF
variable {P : Program} {Q : Exit → ASt → Prop} {k : ASt → Prop} {T : TT} {full : List Oper} {es : List (Nat × (Bool × AV))} {ks : List Kd} {r l : List Oper} {nt nb : Nat} {sl sl0 : List (Nat × (Bool × AV))} {bx : List (List AV)} {rw : List ARow} {ys : (Nat × List (List AV)) × List (List AV) × Bool} {st : ASt} {o : Oper} {d : Nat}
theorem runF_step {g : Bool} {x : AV} {kd : Kd} (hd : o.dst = some d) (hok : ∀ es' ks', StepOk P full.toArray (es ++ es') (ks ++ ks') ⟨nt, nb, sl, bx, rw, ys⟩ o g x kd) (hb : ∀ cs, kd.box? = some cs → x = .box (bx.length + (boxesOf ks).length) 0)
    (h : runF P full (es ++ [(d, (g, x))]) (ks ++ [kd]) r k sl0 ⟨nt, nb, (d, (g, x)) :: sl, bx, rw, ys⟩) : runF P full es ks (o :: r) k sl0 ⟨nt, nb, sl, bx, rw, ys⟩ := by
  intro hsl hlen
  obtain ⟨es', ks', l1, l2, h1, h2, h3, h4, h5, h6, h7⟩ := h (by simp only [List.reverse_append, List.reverse_cons, List.reverse_nil, List.nil_append, List.cons_append]; rw [show sl = es.reverse ++ sl0 from hsl]) (by simp [hlen])
  refine ⟨(d, (g, x)) :: es', kd :: ks', o :: l1, l2, by rw [h1]; rfl, by simp [h2], by simp [h3], fun i o' ho' => ?_, fun i d' g' x' kd' cs he hk hbx => ?_, ?_, ?_⟩
  · cases i with
    | zero =>
      simp only [List.getElem?_cons_zero, Option.some.injEq] at ho'
      subst ho'
      exact ⟨d, g, x, kd, rfl, rfl, hd, by simpa using hok ((d, (g, x)) :: es') (kd :: ks')⟩
    | succ i =>
      obtain ⟨d', g', x', kd', e1, e2, e3, e4⟩ := h4 i o' (by simpa using ho')
      refine ⟨d', g', x', kd', by simpa using e1, by simpa using e2, e3, ?_⟩
      simpa [List.append_assoc] using e4
  · cases i with
    | zero =>
      simp only [List.getElem?_cons_zero, Option.some.injEq, Prod.mk.injEq] at he hk
      obtain ⟨rfl, rfl, rfl⟩ := he
      subst hk
      simpa using hb cs hbx
    | succ i =>
      have := h5 i d' g' x' kd' cs (by simpa using he) (by simpa using hk) hbx
      simpa [List.append_assoc] using this
  · simpa [List.append_assoc] using h6
  · have e1 : es.length + (o :: l1).length = (es ++ [(d, (g, x))]).length + l1.length := by simp; omega
    rw [e1]
    simpa [List.append_assoc] using h7
/-- Which operation made what lies in a slot, and the row. -/
def findTok (s : Nat) : List (Nat × (Bool × AV)) → List Kd → Nat → Option (Nat × ARow)
  | e :: es, kd :: ks, j => bif Nat.beq s e.1 then (match kd.tk with
    | some (.row r) => some (j, r)
    | _ => none) else findTok s es ks (j + 1)
  | _, _, _ => none
end drawF
attribute [go_sem] appA mkRowA
end Go.Proofs.YtcdgncmkkknmlaaGreatDoor
/- The abstract logic: what the operations of such regions ask for. -/
namespace Go.Proofs.YtcdgncmkkknmlaaGreatDoor
set_option linter.unusedVariables false
set_option linter.unusedSimpArgs false
set_option maxHeartbeats 4000000
set_option maxRecDepth 100000
open Go.RowKit
theorem tn2 : Int.toNat 2 = 2 := rfl
theorem tn3 : Int.toNat 3 = 3 := rfl
theorem tn4 : Int.toNat 4 = 4 := rfl
theorem bo_nil : boxesOf [] = [] := rfl
theorem bo_pure (r : List Kd) : boxesOf (.pure :: r) = boxesOf r := rfl
theorem bo_box (cs : List AV) (r : List Kd) : boxesOf (.mk (.box cs) :: r) = cs :: boxesOf r := rfl
theorem bo_row (x : ARow) (r : List Kd) : boxesOf (.mk (.row x) :: r) = boxesOf r := rfl
theorem bo_app (j : Nat) (x : ARow) (r : List Kd) : boxesOf (.app j (.row x) :: r) = boxesOf r := rfl
theorem ft_cons (s : Nat) (e : Nat × (Bool × AV)) (es : List (Nat × (Bool × AV))) (kd : Kd) (ks : List Kd) (j : Nat) : findTok s (e :: es) (kd :: ks) j = if s = e.1 then (match kd.tk with
    | some (.row r) => some (j, r)
    | _ => none) else findTok s es ks (j + 1) := by
  rw [findTok]
  by_cases h : s = e.1
  · rw [if_pos h, h, Nat.beq_refl]; rfl
  · rw [if_neg h]
    cases hb : Nat.beq s e.1
    · rfl
    · exact absurd (Nat.eq_of_beq_eq_true hb) h
attribute [go_sem] Int.toNat_zero Int.toNat_one tn2 tn3 tn4 bo_nil bo_pure bo_box bo_row bo_app ft_cons Kd.tk
theorem freeL_appEl {n q : Nat} {el el' : Nat → List AV} (h : ∀ q, AV.freeL (el q)) (h' : ∀ q, AV.freeL (el' q)) : AV.freeL (appEl n el el' q) := by
  unfold appEl; cases Nat.blt q n
  · exact h' _
  · exact h _
theorem oneL_drop {st : ASt} : ∀ {cs : List AV} {k : Nat}, AV.oneL st cs → AV.oneL st (cs.drop k)
  | [], k, h => by simpa using h
  | c :: cs, 0, h => h
  | c :: cs, k + 1, h => by simpa using oneL_drop (k := k) h.2
theorem oneL_take {st : ASt} : ∀ {cs : List AV} {k : Nat}, AV.oneL st cs → AV.oneL st (cs.take k)
  | [], k, h => by simpa using h
  | c :: cs, 0, h => by simp [AV.oneL]
  | c :: cs, k + 1, h => ⟨h.1, oneL_take (k := k) h.2⟩
theorem oneL_chunk {st : ASt} {sz q : Nat} {cs : List AV} (h : AV.oneL st cs) : AV.oneL st (chunkA sz cs q) := oneL_take (oneL_drop h)
theorem oblF {p : Prop} (h : p := by
    first
      | exact obl
      | (intro hg
         simp only [List.forall_mem_cons, List.not_mem_nil, false_implies, implies_true, forall_const, true_and, and_true, and_self, AV.freeL, AV.free]
         (repeat' refine And.intro ?_ ?_) <;> (intro _ _; (repeat' refine freeL_appEl (fun _ => ?_) (fun _ => ?_)) <;> first | (refine freeL_chunk ?_; simp only [AV.freeL, AV.free, and_self]; done) | (simp only [go_sem, AV.freeL, AV.free, and_self]; done) | fail)) | fail) : p := h
theorem obs {p : Prop} (h : p := by
    first
      | trivial
      | (simp only [maxLen]; omega)
      | (simp [maxLen]; done)
      | (simp [maxLen]; omega)
      | (simp_all [maxLen]; done)
      | (simp_all [maxLen]; omega)) : p := h
theorem obq {p : Prop} (h : p := by
    first
      | trivial
      | (simp only [List.forall_mem_cons, List.not_mem_nil, false_implies, implies_true, forall_const, true_and, and_true, and_self, AV.oneL, AV.one, Value.oneCell', cellsA, List.length_cons, List.length_nil, go_sem]; done)
      | (simp only [List.forall_mem_cons, List.not_mem_nil, false_implies, implies_true, forall_const, true_and, and_true, and_self, AV.oneL, AV.one, Value.oneCell', cellsA, List.length_cons, List.length_nil, go_sem]; omega)
      | (intro _ _; first | (refine oneL_chunk ?_; simp only [AV.oneL, AV.one, Value.oneCell', and_self]; done) | (simp only [go_sem, AV.oneL, AV.one, Value.oneCell', and_self]; done) | fail)
      | (simp only [maxLen]; omega)
      | (simp [AV.oneL, AV.one, Value.oneCell', cellsA]; done)
      | fail) : p := h
end Go.Proofs.YtcdgncmkkknmlaaGreatDoor

