/- The abstract logic: functions that write variables of their callers, or hand back variables and rows. -/
import Derived.Test.YtihnjbnlbedpaaaDoorAlTok3
namespace Go.Proofs.YtihnjbnlbedpaaaDoor
set_option linter.unusedVariables false
set_option linter.unusedSimpArgs false
set_option maxHeartbeats 4000000
set_option maxRecDepth 100000
open Go.RowKit

/-- A function that is given variables and rows of its caller: what it makes of them; those behind are new. -/
structure FnG (P : Program) (f : FuncId) (args : List AV) (bx : List (List AV)) (rw : List ARow) (r : AV) (bx' : List (List AV)) (rw' : List ARow) : Prop where
  ok : CallOk P f
  calls : ∀ (G : Gh) (w : World) (vs : List Value), Tabs P w → (∀ g, tabBlk P g → g ∉ G.bx ∧ ∀ x ∈ G.rw, x.2.ownBlock ≠ some g) → MSat G w bx rw → AV.relL G w args vs →
    Calls P f vs.toArray w fun e w' => ∃ v G', e = .returned v ∧ Outside (fun k => k ∈ G.bx ∨ ∃ x ∈ G.rw, x.2.ownBlock = some k) w w' ∧ G.Le w G' w' ∧ (∀ b o, G'.imm b o → G.imm b o ∨ w.heap.size ≤ b ∨ ∃ x ∈ G.rw, x.2.ownBlock = some b) ∧
      (∀ k ∈ G'.bx, k ∈ G.bx ∨ w.heap.size ≤ k) ∧ (∀ x ∈ G'.rw, ∀ g, x.2.ownBlock = some g → (∃ y ∈ G.rw, y.2.ownBlock = some g) ∨ w.heap.size ≤ g) ∧ MSat G' w' bx' rw' ∧ r.rel G' w' v

/-- The variables from a place on are given up: nobody writes them any more. -/
def Gh.cut (G : Gh) (m : Nat) (w : World) : Gh := ⟨fun b o => G.imm b o ∨ (b ∈ G.bx.drop m ∧ (w.cell? ⟨b, o, none⟩).isSome = true), G.bx.take m, G.rw⟩
def belR (m : Nat) (rw : List ARow) : Prop := ∀ r ∈ rw, ∀ q, q < r.n → AV.belL m (r.el q)
theorem cut_bx {G : Gh} {m : Nat} {w : World} {k x : Nat} (hk : k < m) (h : G.bx[k]? = some x) : (G.cut m w).bx[k]? = some x := by
  show (G.bx.take m)[k]? = some x
  rw [List.getElem?_take, if_pos hk]; exact h
theorem msat_cut {G : Gh} {w : World} {bx : List (List AV)} {rw : List ARow} (h : MSat G w bx rw) {m : Nat} (hb : belB m (bx.take m)) (hr : belR m rw) : MSat (G.cut m w) w (bx.take m) rw := by
  have h0 : ∀ b o, G.imm b o → (G.cut m w).imm b o := fun _ _ i => .inl i
  have up : ∀ (xs : List AV) (vs : List Value), AV.belL m xs → AV.relL G w xs vs → AV.relL (G.cut m w) w xs vs := fun xs vs hx hv => AV.relL_bel h0 (fun k x hk hx => cut_bx hk hx) rfl xs vs hx hv
  have taken : ∀ {k blk : Nat}, (G.bx.take m)[k]? = some blk → k < m ∧ G.bx[k]? = some blk := fun {k blk} hk => by
    rw [List.getElem?_take] at hk
    split at hk
    · exact ⟨by assumption, hk⟩
    · cases hk
  refine ⟨fun b o i => ?_, ?_, h.lenR, h.nodup.sublist (List.take_sublist _ _), fun k cs blk hk hg => ?_, fun k r x hk hg => ?_, fun k x g hk hg hm => h.sepB k x g hk hg (List.mem_of_mem_take hm), h.sepR⟩
  · rcases i with i | ⟨_, i⟩
    · exact h.immOk b o i
    · exact i
  · show (G.bx.take m).length = (bx.take m).length
    simp [h.lenB]
  · obtain ⟨hkm, hg'⟩ := taken hg
    rw [List.getElem?_take, if_pos hkm] at hk
    obtain ⟨e1, vs, T, e2, e3⟩ := h.box k cs blk hk hg'
    refine ⟨fun o i => ?_, vs, T, e2, up _ _ (belB.get hb (by rw [List.getElem?_take, if_pos hkm]; exact hk)) e3⟩
    rcases i with i | ⟨i, _⟩
    · exact e1 o i
    · obtain ⟨q, hq⟩ := List.getElem?_of_mem i
      rw [List.getElem?_drop] at hq
      have hl : k < G.bx.length := (List.getElem?_eq_some_iff.1 hg').1
      have := (List.getElem?_inj hl h.nodup).1 (hg'.trans hq.symm)
      omega
  · have ro := h.row k r x hk hg
    obtain ⟨xs, ho, hel⟩ := ro.own
    refine ⟨ro.len, ⟨xs, ho, fun i hi => ?_⟩, fun g hg2 o => ?_⟩
    · obtain ⟨vs, e1, e2⟩ := hel i hi
      exact ⟨vs, up _ _ (hr r (List.mem_of_getElem? hk) i hi) e1, e2⟩
    · rw [← ro.imm g hg2 o]
      refine ⟨fun i => ?_, .inl⟩
      rcases i with i | ⟨i, _⟩
      · exact i
      · exact absurd (List.mem_of_mem_drop i) (h.sepB k x g hg hg2)
/-- What is handed back, where the variables from a place on are given up. -/
def OutG (m : Nat) (st : ASt) (x r : AV) : Prop := ∀ (G : Gh) (w : World) (v : Value), MSat G w st.bx st.rw → x.rel G w v → r.rel (G.cut m w) w v
theorem OutG.bel {m : Nat} {st : ASt} {x r : AV} (h : x = r) (hb : x.bel m) : OutG m st x r := fun G w v _ hr => h ▸ AV.rel_bel (G := G) (G' := G.cut m w) (fun _ _ i => .inl i) (fun k x hk hx => cut_bx hk hx) rfl x v hb hr
def retPostG (T : TT) (rs : List ResultVar) (m : Nat) (r : AV) (bx' : List (List AV)) (rw' : List ARow) (e : Exit) (st : ASt) : Prop :=
  (e = .normal ∨ e = .ret) ∧ ∃ cs x p, retA T st rs = some (cs, x, p) ∧ (∀ c ∈ cs, c = true) ∧ p ∧ OutG m st x r ∧ st.nb % 64 ≤ m ∧ st.bx.take m = bx' ∧ st.rw = rw' ∧ belB m bx' ∧ belR m rw'
def entryG (n : Nat) (args : List AV) (bx : List (List AV)) (rw : List ARow) : ASt := { nt := n, nb := bx.length + 64 * rw.length, sl := argSl 0 args, bx := bx, rw := rw, ys := ((0, []), [], true) }
theorem fnG_of {P : Program} {T : TT} (hT : TOk P T) {f : FuncId} {fn : Func} {c : Code} {args : List AV} {bx bx' : List (List AV)} {rw rw' : List ARow} {r : AV} (hf : P.funcs[f]? = some fn) (hb : fn.body = some c) (hnm : (fn.name == "runtime.NumGoroutine") = false) (n : Nat) (hn : fn.ntmps = n) (hlen : args.length ≤ n) (rs : List ResultVar) (hrs : fn.results.toList = rs)
    (m : Nat) (h64 : bx.length < 64) (h : wpA P c (retPostG T rs m r bx' rw') (entryG n args bx rw)) : FnG P f args bx rw r bx' rw' := by
  subst hrs
  refine ⟨⟨fn, hf, hnm, by rw [hb]; rfl⟩, fun G0 w vs htb hto hM hr => ?_⟩
  have hvl := AV.relL_length hr
  let C : Ctx P := ⟨none, (0, []), tabBlk P, W0 P w, G0.imm, G0, w, fun _ _ i => i, W0_stable htb, W0_y, W0_tabs htb⟩
  have hs : Sat C G0 { tmps := vs.toArray ++ Array.replicate (fn.ntmps - vs.toArray.size) undef, defers := [] } w (entryG n args bx rw) := by
    refine ⟨by simp [entryG, hn]; omega, ⟨by have := hM.lenB; show G0.bx.length = (bx.length + 64 * rw.length) % 64; omega, by have := hM.lenR; show G0.rw.length = (bx.length + 64 * rw.length) / 64; omega⟩, Outside.refl _ _, Gh.Le.refl _ _, fun _ _ i => .inl i, fun _ h => .inl h, fun x hx g hg => .inl ⟨x, hx, hg⟩, ⟨tabBlk P, rfl, ⟨rfl, fun _ => Iff.rfl, fun _ _ => rfl⟩, fun _ h => .inl h, fun _ h => htb.lt h, fun k h hd => (hto k hd).1 h, fun x hx g hg hd => (hto g hd).2 x hx hg, fun _ _ i => .inl i, ⟨[], rfl, by simp, fun _ h => by simp at h⟩, fun _ h => by cases h⟩, hM, ?_⟩
    intro t c x hl
    obtain ⟨j, e1, e2, rfl⟩ := argSl_look hl
    obtain ⟨v, e3, e4⟩ := AV.relL_get hr e2
    have hj : j < vs.length := (List.getElem?_eq_some_iff.1 e3).1
    refine ⟨v, ?_, fun _ => e4, fun h => by cases h⟩
    rw [show t = j from by omega, Array.getElem?_append_left (by simpa using hj)]
    simpa using e3
  refine callsIn_wide.1 (callsIn_of_wp_marks (n := 0) hf hb trivial (wpIn_mono (h _ _ _ _ hs) ?_))
  rintro e a' w1 ⟨G', st', hs1, he, cs, x, p, h1, h2, hp, h3, hnb, rfl, rfl, h4, h5⟩
  obtain ⟨tm, df⟩ := a'
  obtain ⟨D1, hD1⟩ := hs1.env
  obtain ⟨ml, hml, _⟩ := hD1.marks
  simp only at hml
  subst hml
  have fin := Sat.leaves (F := Fence.wide) (n := 0) (fn := fn) (tmps := tm) (R := fun e w' => ∃ v G', e = .returned v ∧ Outside (fun k => k ∈ G0.bx ∨ ∃ x ∈ G0.rw, x.2.ownBlock = some k) w w' ∧ G0.Le w G' w' ∧ (∀ b o, G'.imm b o → G0.imm b o ∨ w.heap.size ≤ b ∨ ∃ x ∈ G0.rw, x.2.ownBlock = some b) ∧
      (∀ k ∈ G'.bx, k ∈ G0.bx ∨ w.heap.size ≤ k) ∧ (∀ x ∈ G'.rw, ∀ g, x.2.ownBlock = some g → (∃ y ∈ G0.rw, y.2.ownBlock = some g) ∨ w.heap.size ≤ g) ∧ MSat G' w' (st'.bx.take m) st'.rw ∧ r.rel G' w' v) (fun w' hs' => by
    have key : ∃ v, (results fn tm).run P w' = .ok v w' ∧ x.rel G' w' v := by
      unfold retA at h1
      split at h1
      · rename_i y p' hy
        simp only [Option.some.injEq, Prod.mk.injEq] at h1
        obtain ⟨rfl, rfl, rfl⟩ := h1
        obtain ⟨us, e1, e2⟩ := resA_sound (P := P) hT hs' hy (fun z hz => h2 z.1 (by simp at hz; subst hz; simp)) hp
        obtain ⟨v, us', rfl, e3, e4⟩ := e1
        rw [show us' = [] from e4] at e2
        exact ⟨v, by rw [results_run e2], e3⟩
      · rename_i ys p' hys hy
        simp only [Option.some.injEq, Prod.mk.injEq] at h1
        obtain ⟨rfl, rfl, rfl⟩ := h1
        obtain ⟨us, e1, e2⟩ := resA_sound (P := P) hT hs' hy (fun z hz => h2 z.1 (List.mem_map.2 ⟨z, hz, rfl⟩)) hp
        refine ⟨.tuple us.toArray, ?_, us, rfl, e1⟩
        rw [results_run e2]
        have hl := AV.relL_length e1
        rw [List.length_map] at hl
        split
        · rename_i v
          exfalso
          match ys, hl with
          | [z], _ => exact hys z rfl
        · rfl
      · cases h1
    obtain ⟨v, k2, k3⟩ := key
    have hlb : G0.bx.length ≤ m := by rw [hs'.callers.1]; exact hnb
    refine ⟨v, k2, v, G'.cut m w', rfl, ⟨hs'.frame.os, hs'.frame.tape, hs'.frame.output, hs'.frame.size, fun k hk hn => (Classical.em (tabBlk P k)).elim (fun ht => let ⟨_, e⟩ := hs'.env; e.cons.2.2 k ht) fun ht => hs'.frame.block k hk fun hm => by
      rcases hm with hm | hm
      · exact ht hm
      · exact hn hm⟩, ⟨fun b o i => .inl (hs'.le.imm b o i), hs'.le.cell, fun k x hx => cut_bx (Nat.lt_of_lt_of_le (List.getElem?_eq_some_iff.1 hx).1 hlb) (hs'.le.bx k x hx), hs'.le.rw⟩, fun b o i => ?_, fun k hk => hs'.ownB k (List.mem_of_mem_take hk), hs'.ownR, msat_cut hs'.mem h4 h5, h3 _ _ _ hs'.mem k3⟩
    rcases i with i | ⟨i, _⟩
    · exact hs'.fresh b o i
    · rcases hs'.ownB b (List.mem_of_mem_drop i) with hb2 | hb2
      · exfalso
        obtain ⟨q, hq⟩ := List.getElem?_of_mem hb2
        have h6 := hs'.le.bx q b hq
        obtain ⟨q2, hq2⟩ := List.getElem?_of_mem i
        rw [List.getElem?_drop] at hq2
        have hl : q < G'.bx.length := (List.getElem?_eq_some_iff.1 h6).1
        have := (List.getElem?_inj hl hs'.mem.nodup).1 (h6.trans hq2.symm)
        have hql : q < G0.bx.length := (List.getElem?_eq_some_iff.1 hq).1
        omega
      · exact .inr (.inl hb2)) ml w1 hs1
  rcases he with rfl | rfl <;> exact fin
/-- A pure function is one of these. -/
theorem FnA.toG {P : Program} {f : FuncId} {args : List AV} {r : AV} (h : FnA P f args r) : FnG P f args [] [] r [] [] := by
  refine ⟨h.ok, fun G w vs htb _ hM hr => ?_⟩
  have hbx : G.bx = [] := List.eq_nil_of_length_eq_zero hM.lenB
  have hrw : G.rw = [] := List.eq_nil_of_length_eq_zero hM.lenR
  obtain ⟨imm, gb, gr⟩ := G
  simp only at hbx hrw
  subst hbx; subst hrw
  refine (h.calls imm w vs htb hM.immOk hr).mono ?_
  rintro e w' ⟨v, imm', rfl, hb, i1, i2, i3, hr⟩
  have E := msat_ext hM hb imm' i1 i2 i3
  exact ⟨v, ⟨imm', [], []⟩, rfl, Outside.of_below hb, E.le, fun b o i => (i2 b o i).elim .inl fun h => .inr (.inl h), fun k hk => by simp at hk, fun x hx => by simp at hx, E.mem, hr⟩
end Go.Proofs.YtihnjbnlbedpaaaDoor
