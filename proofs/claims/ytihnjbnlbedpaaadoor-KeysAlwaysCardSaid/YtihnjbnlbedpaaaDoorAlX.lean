/- The abstract logic: functions of which it is left open which of some things they hand back. -/
import Derived.Test.YtihnjbnlbedpaaaDoorAlBsm
namespace Go.Proofs.YtihnjbnlbedpaaaDoor
set_option linter.unusedVariables false
set_option linter.unusedSimpArgs false
set_option maxHeartbeats 4000000
set_option maxRecDepth 100000
open Go.RowKit
/-- A function that is given variables and rows of its caller: what it may make of them. -/
structure FnX (P : Program) (f : FuncId) (args : List AV) (bx : List (List AV)) (rw : List ARow) (R : AV → List (List AV) → List ARow → Prop) : Prop where
  ok : CallOk P f
  calls : ∀ (G : Gh) (w : World) (vs : List Value), Tabs P w → (∀ g, tabBlk P g → g ∉ G.bx ∧ ∀ x ∈ G.rw, x.2.ownBlock ≠ some g) → MSat G w bx rw → AV.relL G w args vs →
    Calls P f vs.toArray w fun e w' => ∃ r bx' rw', R r bx' rw' ∧ ∃ v G', e = .returned v ∧ Outside (fun k => k ∈ G.bx ∨ ∃ x ∈ G.rw, x.2.ownBlock = some k) w w' ∧ G.Le w G' w' ∧ (∀ b o, G'.imm b o → G.imm b o ∨ w.heap.size ≤ b ∨ ∃ x ∈ G.rw, x.2.ownBlock = some b) ∧
      (∀ k ∈ G'.bx, k ∈ G.bx ∨ w.heap.size ≤ k) ∧ (∀ x ∈ G'.rw, ∀ g, x.2.ownBlock = some g → (∃ y ∈ G.rw, y.2.ownBlock = some g) ∨ w.heap.size ≤ g) ∧ MSat G' w' bx' rw' ∧ r.rel G' w' v
theorem FnG.toX {P : Program} {f : FuncId} {args : List AV} {bx bx' : List (List AV)} {rw rw' : List ARow} {r : AV} {R : AV → List (List AV) → List ARow → Prop} (h : FnG P f args bx rw r bx' rw') (hR : R r bx' rw') : FnX P f args bx rw R :=
  ⟨h.ok, fun G w vs a b c d => (h.calls G w vs a b c d).mono fun _ _ h => ⟨r, bx', rw', hR, h⟩⟩
theorem FnX.imp {P : Program} {f : FuncId} {args : List AV} {bx : List (List AV)} {rw : List ARow} {R R' : AV → List (List AV) → List ARow → Prop} (h : FnX P f args bx rw R) (hR : ∀ r bx' rw', R r bx' rw' → R' r bx' rw') : FnX P f args bx rw R' :=
  ⟨h.ok, fun G w vs a b c d => (h.calls G w vs a b c d).mono fun _ _ ⟨r, bx', rw', h1, h2⟩ => ⟨r, bx', rw', hR _ _ _ h1, h2⟩⟩
def retPostX (T : TT) (rs : List ResultVar) (R : AV → List (List AV) → List ARow → Prop) (e : Exit) (st : ASt) : Prop := ∃ m r bx' rw', R r bx' rw' ∧ retPostG T rs m r bx' rw' e st
theorem retX_of {T : TT} {rs : List ResultVar} {R : AV → List (List AV) → List ARow → Prop} {e : Exit} {st : ASt} (m : Nat) (r : AV) (bx' : List (List AV)) (rw' : List ARow) (hR : R r bx' rw') (he : e = .normal ∨ e = .ret)
    (h : ∃ cs x p, retA T st rs = some (cs, x, p) ∧ ((∀ c ∈ cs, c = true) ∧ p) ∧ OutG m st x r ∧ st.nb % 64 ≤ m ∧ st.bx.take m = bx' ∧ st.rw = rw' ∧ belB m bx' ∧ belR m rw') : retPostX T rs R e st := ⟨m, r, bx', rw', hR, retG_of he h⟩
theorem fnX_of {P : Program} {T : TT} (hT : TOk P T) {f : FuncId} {fn : Func} {c : Code} {args : List AV} {bx : List (List AV)} {rw : List ARow} {R : AV → List (List AV) → List ARow → Prop} (hf : P.funcs[f]? = some fn) (hb : fn.body = some c) (hnm : (fn.name == "runtime.NumGoroutine") = false) (n : Nat) (hn : fn.ntmps = n) (hlen : args.length ≤ n) (rs : List ResultVar) (hrs : fn.results.toList = rs)
    (h64 : bx.length < 64) (h : wpA P c (retPostX T rs R) (entryG n args bx rw)) : FnX P f args bx rw R := by
  subst hrs
  refine ⟨⟨fn, hf, hnm, by rw [hb]; rfl⟩, fun G0 w vs htb hto hM hr => ?_⟩
  have hvl := AV.relL_length hr
  let C : Ctx P := ⟨none, (0, []), tabBlk P, W0 P w, G0.imm, G0, w, fun _ _ i => i, W0_stable htb, W0_y, W0_tabs htb⟩
  have hs : Sat C G0 { tmps := vs.toArray ++ Array.replicate (fn.ntmps - vs.toArray.size) undef, defers := [] } w (entryG n args bx rw) := by
    refine ⟨by simp [entryG, hn]; omega, ⟨by have := hM.lenB; show G0.bx.length = (bx.length + 64 * rw.length) % 64; omega, by have := hM.lenR; show G0.rw.length = (bx.length + 64 * rw.length) / 64; omega⟩, Outside.refl _ _, Gh.Le.refl _ _, fun _ _ i => .inl i, fun _ h => .inl h, fun x hx g hg => .inl ⟨x, hx, hg⟩, ⟨tabBlk P, rfl, ⟨rfl, fun _ => Iff.rfl, fun _ _ => rfl⟩, fun _ h => .inl h, fun _ h => htb.lt h, fun k h hd => (hto k hd).1 h, fun x hx g hg hd => (hto g hd).2 x hx hg, fun _ _ i => .inl i, ⟨[], rfl, by simp, fun _ h => by simp at h⟩, fun _ h => by cases h⟩, hM, ?_⟩
    intro t c x hl
    obtain ⟨j, e1, e2, rfl⟩ := argSl_look hl
    obtain ⟨v, e3, e4⟩ := AV.relL_get hr e2
    have hj : j < vs.length := (List.getElem?_eq_some_iff.1 e3).1
    refine ⟨v, ?_, fun _ => e4, fun h => by cases h⟩
    rw [show t = j from by omega, Array.getElem?_append_left (by simpa using hj)]
    simpa using e3
  refine callsIn_wide.1 (callsIn_of_wp_marks (n := 0) hf hb trivial (wpIn_mono (h _ _ _ _ hs) ?_))
  rintro e a' w1 ⟨G', st', hs1, m, r, bx', rw', hR, he, cs, x, p, h1, h2, hp, h3, hnb, rfl, rfl, h4, h5⟩
  obtain ⟨tm, df⟩ := a'
  obtain ⟨D1, hD1⟩ := hs1.env
  obtain ⟨ml, hml, _⟩ := hD1.marks
  simp only at hml
  subst hml
  have fin := Sat.leaves (F := Fence.wide) (n := 0) (fn := fn) (tmps := tm) (R := fun e w' => ∃ r bx' rw', R r bx' rw' ∧ ∃ v G', e = .returned v ∧ Outside (fun k => k ∈ G0.bx ∨ ∃ x ∈ G0.rw, x.2.ownBlock = some k) w w' ∧ G0.Le w G' w' ∧ (∀ b o, G'.imm b o → G0.imm b o ∨ w.heap.size ≤ b ∨ ∃ x ∈ G0.rw, x.2.ownBlock = some b) ∧
      (∀ k ∈ G'.bx, k ∈ G0.bx ∨ w.heap.size ≤ k) ∧ (∀ x ∈ G'.rw, ∀ g, x.2.ownBlock = some g → (∃ y ∈ G0.rw, y.2.ownBlock = some g) ∨ w.heap.size ≤ g) ∧ MSat G' w' bx' rw' ∧ r.rel G' w' v) (fun w' hs' => by
    have key : ∃ v, (results fn tm).run P w' = .ok v w' ∧ x.rel G' w' v := by
      unfold retA at h1
      split at h1
      · rename_i y p' hy
        simp only [Option.some.injEq, Prod.mk.injEq] at h1
        obtain ⟨rfl, rfl, rfl⟩ := h1
        obtain ⟨us, e1, e2⟩ := resA_sound (P := P) hT hs' hy (fun z hz => h2 z.1 (by simp at hz; subst hz; simp)) hp
        obtain ⟨v, us', rfl, e3, e4⟩ := e1
        rw [show us' = [] from e4] at e2
        exact ⟨v, by rw [results_run e2], e3⟩
      · rename_i ys p' hys hy
        simp only [Option.some.injEq, Prod.mk.injEq] at h1
        obtain ⟨rfl, rfl, rfl⟩ := h1
        obtain ⟨us, e1, e2⟩ := resA_sound (P := P) hT hs' hy (fun z hz => h2 z.1 (List.mem_map.2 ⟨z, hz, rfl⟩)) hp
        refine ⟨.tuple us.toArray, ?_, us, rfl, e1⟩
        rw [results_run e2]
        have hl := AV.relL_length e1
        rw [List.length_map] at hl
        split
        · rename_i v
          exfalso
          match ys, hl with
          | [z], _ => exact hys z rfl
        · rfl
      · cases h1
    obtain ⟨v, k2, k3⟩ := key
    have hlb : G0.bx.length ≤ m := by rw [hs'.callers.1]; exact hnb
    refine ⟨v, k2, r, _, _, hR, v, G'.cut m w', rfl, ⟨hs'.frame.os, hs'.frame.tape, hs'.frame.output, hs'.frame.size, fun k hk hn => (Classical.em (tabBlk P k)).elim (fun ht => let ⟨_, e⟩ := hs'.env; e.cons.2.2 k ht) fun ht => hs'.frame.block k hk fun hm => by
      rcases hm with hm | hm
      · exact ht hm
      · exact hn hm⟩, ⟨fun b o i => .inl (hs'.le.imm b o i), hs'.le.cell, fun k x hx => cut_bx (Nat.lt_of_lt_of_le (List.getElem?_eq_some_iff.1 hx).1 hlb) (hs'.le.bx k x hx), hs'.le.rw⟩, fun b o i => ?_, fun k hk => hs'.ownB k (List.mem_of_mem_take hk), hs'.ownR, msat_cut hs'.mem h4 h5, h3 _ _ _ hs'.mem k3⟩
    rcases i with i | ⟨i, _⟩
    · exact hs'.fresh b o i
    · rcases hs'.ownB b (List.mem_of_mem_drop i) with hb2 | hb2
      · exfalso
        obtain ⟨q, hq⟩ := List.getElem?_of_mem hb2
        have h6 := hs'.le.bx q b hq
        obtain ⟨q2, hq2⟩ := List.getElem?_of_mem i
        rw [List.getElem?_drop] at hq2
        have hl : q < G'.bx.length := (List.getElem?_eq_some_iff.1 h6).1
        have := (List.getElem?_inj hl hs'.mem.nodup).1 (h6.trans hq2.symm)
        have hql : q < G0.bx.length := (List.getElem?_eq_some_iff.1 hq).1
        omega
      · exact .inr (.inl hb2)) ml w1 hs1
  rcases he with rfl | rfl <;> exact fin
/-- A contract among more variables and rows, under other numbers. -/
theorem FnX.frame {P : Program} {f : FuncId} {args : List AV} {bx sub : List (List AV)} {rw rsub : List ARow} {R : AV → List (List AV) → List ARow → Prop} (F : FnX P f args sub rsub R) (ib ir : List Nat)
    (H : HandOk ib ir bx sub rw rsub (idx ib bx.length) (idx ir rw.length)) (ha : AV.subL ib.length ir.length args) (hl : ∀ r sub' rsub', R r sub' rsub' → ib.length ≤ sub'.length ∧ ir.length ≤ rsub'.length) :
    FnX P f (AV.renL (idx ib bx.length) (idx ir rw.length) args) bx rw fun r1 bx1 rw1 => ∃ r sub' rsub', R r sub' rsub' ∧ r1 = r.ren (idx ib bx.length) (idx ir rw.length) ∧ bx1 = setAll bx ib (sub'.map (AV.renL (idx ib bx.length) (idx ir rw.length))) ∧ rw1 = setAll rw ir (rsub'.map (ARow.ren (idx ib bx.length) (idx ir rw.length))) := by
  refine ⟨F.ok, fun G w vs htb hto hm hr => ?_⟩
  obtain ⟨hp, down⟩ := msat_pick hm H
  have inB : ∀ k, k ∈ (pickG G ib ir).bx → k ∈ G.bx := fun k hk => by
    obtain ⟨q, hq⟩ := List.getElem?_of_mem hk
    obtain ⟨j, _, j2⟩ := pick_bx hm H hq
    exact List.mem_of_getElem? j2
  have inR : ∀ x, x ∈ (pickG G ib ir).rw → x ∈ G.rw := fun k hk => by
    obtain ⟨q, hq⟩ := List.getElem?_of_mem hk
    obtain ⟨j, _, j2⟩ := pick_rw hm H hq
    exact List.mem_of_getElem? j2
  refine (F.calls _ w vs htb (fun g hg => ⟨fun h => (hto g hg).1 (inB g h), fun x hx => (hto g hg).2 x (inR x hx)⟩) hp (down _ _ ha hr)).mono ?_
  rintro e w' ⟨r, sub', rsub', hR, v, G1, rfl, hout, hle, hfr, hoB, hoR, hm1, hv⟩
  obtain ⟨l1, l2⟩ := hl r sub' rsub' hR
  obtain ⟨G2, hi, m2, le2, b2, r2, up⟩ := msat_back hm H hout hle hfr hoB hoR hm1 (setAll_upd (AV.renL (idx ib bx.length) (idx ir rw.length)) ib bx sub' H.hb.nodup H.hb.lt l1) (setAll_upd (ARow.ren (idx ib bx.length) (idx ir rw.length)) ir rw rsub' H.hr.nodup H.hr.lt l2)
  refine ⟨_, _, _, ⟨r, sub', rsub', hR, rfl, rfl, rfl⟩, v, G2, rfl, hout.mono fun k _ h => h.elim (fun h => .inl (inB k h)) fun ⟨x, hx, hg⟩ => .inr ⟨x, inR x hx, hg⟩, le2, fun b o i => ?_, b2, r2, m2, up _ _ hv⟩
  rw [hi] at i
  rcases hfr b o i with h | h | ⟨x, hx, hg⟩
  · exact .inl h
  · exact .inr (.inl h)
  · exact .inr (.inr ⟨x, inR x hx, hg⟩)
section runs
variable {P : Program} {ops : Array Oper} {rest : List Oper} {o : Oper} {cs : List Bool} {f : FuncId} {args : List AV} {R : AV → List (List AV) → List ARow → Prop}
theorem callX_walk {st : ASt} (hg : o.guard = none) (h : callA st o.op = some (cs, f, args)) (hc : ∀ c ∈ cs, c = true) (F : FnX P f args st.bx st.rw R) {C : Ctx P} {G : Gh} {a : Act} {w : World} {Q : Exit → Act → World → Prop} (hs : Sat C G a w st)
    (hQ : ∀ r bx' rw', R r bx' rw' → ∀ v G' w', Sat C G' a w' { st with bx := bx', rw := rw' } → r.rel G' w' v → wpListIn (fen C.round) 0 P ops Q rest (a.put o.dst v) w') : wpListIn (fen C.round) 0 P ops Q (o :: rest) a w := by
  obtain ⟨vs, h1, h2⟩ := callA_sound (P := P) (a := a) h (fun y hy => evOk_of fun t ht => hs.slot t) hc F.ok
  refine wpListIn_plain hg fun K hK => ?_
  refine wpIn_of_run (fun c hc => by rw [hc] at h; simp [callA] at h) ?_
  rw [h2, Oper.uponIn_enter]
  refine ⟨fun h => by simp [fen] at h, callsIn_fen ?_⟩
  refine (F.calls G w vs hs.tabs hs.tabs_own hs.mem h1).mono ?_
  rintro e w' ⟨r, bx', rw', hR, v, G', rfl, hout, hle, hfr, hB, hR', hm1, hv⟩
  exact hK _ _ (hQ r bx' rw' hR v G' w' (hs.called hout hle hfr hB hR' hm1) hv)
variable {K : ASt → Prop} {nt nb : Nat} {sl : List (Nat × (Bool × AV))} {bx : List (List AV)} {rw : List ARow} {ys : (Nat × List (List AV)) × List (List AV) × Bool} {d : Nat}
/-- A call of a function that writes, ready for evaluation. -/
theorem sCallX (ib ir : List Nat) {sub : List (List AV)} {rsub : List ARow} (F : FnX P f args sub rsub R) (hg : o.guard = none) (hd : o.dst = some d) (hn : Nat.blt d nt = true)
    (h : ∃ m, bx.length = m ∧ ∃ n, rw.length = n ∧ ∃ cs, callA ⟨nt, nb, sl, bx, rw, ys⟩ o.op = some (cs, f, AV.renL (idx ib m) (idx ir n) args) ∧ (∀ c ∈ cs, c = true) ∧ ib.Nodup ∧ ir.Nodup ∧ handL bx (AV.renL (idx ib m) (idx ir n)) ib sub ∧ handL rw (ARow.ren (idx ib m) (idx ir n)) ir rsub ∧
      ((∀ cs ∈ sub, AV.subL ib.length ir.length cs) ∧ (∀ r ∈ rsub, ∀ q, q < r.n → AV.subL ib.length ir.length (r.el q)) ∧ AV.subL ib.length ir.length args) ∧ (∀ r sub' rsub', R r sub' rsub' → ib.length ≤ sub'.length ∧ ir.length ≤ rsub'.length) ∧
      ∀ r sub' rsub', R r sub' rsub' → ∃ r1, r.ren (idx ib m) (idx ir n) = r1 ∧ ∃ bx1, setAll bx ib (sub'.map (AV.renL (idx ib m) (idx ir n))) = bx1 ∧ ∃ rw1, setAll rw ir (rsub'.map (ARow.ren (idx ib m) (idx ir n))) = rw1 ∧
      runS P ops rest K ⟨nt, nb, (d, (true, r1)) :: sl, bx1, rw1, ys⟩) : runS P ops (o :: rest) K ⟨nt, nb, sl, bx, rw, ys⟩ := by
  obtain ⟨m, rfl, n, rfl, cs, h1, h2, h3, h4, h5, h6, ⟨h7, h8, h9⟩, hl, h12⟩ := h
  intro C G a w Q hs hQ
  refine callX_walk hg h1 h2 (F.frame ib ir (handOk_of h3 h4 h5 h6 h7 h8) h9 hl) hs ?_
  rintro r1 bx1 rw1 ⟨r, sub', rsub', hR, rfl, rfl, rfl⟩ v G' w' hs' hv
  obtain ⟨_, rfl, _, rfl, _, rfl, hk⟩ := h12 r sub' rsub' hR
  rw [hd]
  exact hk C G' _ w' Q (hs'.put (by simpa [Nat.blt_eq] using hn) (fun _ => hv) (fun h => by cases h)) hQ
end runs
/-! ### Cells of lists -/
theorem freeL_append {a b : List AV} : AV.freeL a → AV.freeL b → AV.freeL (a ++ b) := by
  induction a with
  | nil => intro _ h; exact h
  | cons x a ih => intro h1 h2; exact ⟨h1.1, ih h1.2 h2⟩
theorem freeL_flat {α : Type} {enc : α → List AV} (h : ∀ x, AV.freeL (enc x)) : ∀ l : List α, AV.freeL (l.flatMap enc)
  | [] => trivial
  | x :: l => by rw [List.flatMap_cons]; exact freeL_append (h x) (freeL_flat h l)
theorem freeL_raws : ∀ z : List Value, AV.freeL (z.map .raw)
  | [] => trivial
  | _ :: z => ⟨trivial, freeL_raws z⟩
theorem freeL_zeros (n : Nat) (z : List Value) : AV.freeL (zerosA n z) := by
  induction n with
  | zero => trivial
  | succ n ih => exact freeL_append (freeL_raws z) ih
theorem flat_len {α : Type} {enc : α → List AV} {sz : Nat} (h : ∀ x, (enc x).length = sz) : ∀ l : List α, (l.flatMap enc).length = l.length * sz
  | [] => by simp
  | x :: l => by rw [List.flatMap_cons, List.length_append, h, flat_len h l, List.length_cons, Nat.add_mul, Nat.one_mul, Nat.add_comm]
theorem chunk_flat {α : Type} [Inhabited α] {enc : α → List AV} {sz : Nat} (h : ∀ x, (enc x).length = sz) {l : List α} {r : List AV} {i : Nat} (hi : i < l.length) : chunkA sz (l.flatMap enc ++ r) i = els enc l i := by
  rw [← chunk_els h hi]
  unfold chunkA
  have hle : (i + 1) * sz ≤ l.length * sz := Nat.mul_le_mul_right _ hi
  rw [Nat.add_mul, Nat.one_mul] at hle
  rw [List.drop_append_of_le_length (by rw [flat_len h]; omega), List.take_append_of_le_length (by rw [List.length_drop, flat_len h]; omega)]
end Go.Proofs.YtihnjbnlbedpaaaDoor
