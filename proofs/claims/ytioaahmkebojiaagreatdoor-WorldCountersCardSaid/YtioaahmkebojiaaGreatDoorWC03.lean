import Derived.Test.YtioaahmkebojiaaGreatDoorWC01
import Derived.RangeFuncNested
import Derived.Test.YtioaahmkebojiaaGreatDoorWC02
namespace Go.Proofs.YtioaahmkebojiaaGreatDoor
set_option linter.unusedVariables false
set_option linter.unusedSimpArgs false
set_option maxHeartbeats 4000000
set_option maxRecDepth 100000
open Go.RowKit

structure zIe (w : World) (blk : Nat) (vs : List Value) (T : TypeId) (w' : World) : Prop where
  os : w'.os = w.os
  tape : w'.tape = w.tape
  output : w'.output = w.output
  size : w'.heap.size = w.heap.size
  other : ∀ k, k ≠ blk → w'.heap[k]? = w.heap[k]?
  here : w'.heap[blk]? = some (.cells vs.toArray T (0, 0))

theorem zOz {w : World} {blk : Nat} {vs : List Value} {T : TypeId} (h : w.heap[blk]? = some (.cells vs.toArray T (0, 0))) (o : Nat) (u : Value) : zIe w blk (vs.set o u) T (w.setCell ⟨blk, o, none⟩ u) := by
  refine ⟨rfl, rfl, rfl, by simp [World.setCell], fun k hk => Below.heap_setCell _ _ _ _ hk, ?_⟩
  simp [World.setCell, Array.getElem?_modify, h]
theorem zIe.trans {w w' w'' : World} {blk : Nat} {vs us : List Value} {T T' : TypeId} (h : zIe w blk vs T w') (h' : zIe w' blk us T' w'') : zIe w blk us T' w'' :=
  ⟨h'.os.trans h.os, h'.tape.trans h.tape, h'.output.trans h.output, h'.size.trans h.size, fun k hk => (h'.other k hk).trans (h.other k hk), h'.here⟩

theorem qY {P : Program} {blk off : Nat} {T : TypeId} {vs : List Value} : ∀ (us done : List Value) (w : World), w.heap[blk]? = some (.cells (wT vs off done).toArray T (0, 0)) → off + done.length + us.length ≤ vs.length → (∀ u ∈ us, u.oneCell' = true) →
    ∃ w', (storeCells ⟨blk, off, none⟩ us done.length).run P w = .ok () w' ∧ zIe w blk (wT vs off (done ++ us)) T w'
  | [], done, w, h, _, _ => ⟨w, rfl, rfl, rfl, rfl, rfl, fun _ _ => rfl, by simpa using h⟩
  | u :: us, done, w, h, hl, h1 => by
    have hlen : (wT vs off done).length = vs.length := kU (by simp at hl; omega)
    have hu := h1 u sq
    have hadd : (⟨blk, off, none⟩ : Addr).add done.length = ⟨blk, off + done.length, none⟩ := by
      unfold Addr.add; split
      · rename_i e; simp [e]
      · rfl
    have hc : w.cell? ⟨blk, off + done.length, none⟩ = some ((wT vs off done)[off + done.length]'(by simp at hl; omega)) := by
      simp only [World.cell?, h]
      simp
    have hf : w.frozen? ⟨blk, off + done.length, none⟩ = false := by simp [World.frozen?, h]
    have s1 := zOz h (off + done.length) u
    rw [← zEc (by simp at hl; omega)] at s1
    obtain ⟨w', e1, e2⟩ := qY us (done ++ [u]) _ s1.here (by simp at hl ⊢; omega) (fun x hx => h1 x (by simp [hx]))
    refine ⟨w', ?_, ?_⟩
    · simp only [storeCells, Sem.run_bind, hadd]
      have : (store ⟨blk, off + done.length, none⟩ u).run P w = .ok () (w.setCell ⟨blk, off + done.length, none⟩ u) := by
        cases u <;> simp [Value.oneCell'] at hu <;> simp [store, Sem.run, hc, hf]
      rw [this]
      simpa using e1
    · have := s1.trans e2
      simpa using this

theorem zGm {G : Gh} {w w' : World} {bx : List (List AV)} {rw' : List zV} (h : xU G w bx rw') {b blk : Nat} {cs cs' : List AV} {vs' : List Value} {T : TypeId} (hb : bx[b]? = some cs) (hg : G.bx[b]? = some blk)
    (hs : zIe w blk vs' T w') (hr : AV.relL G w cs' vs') : xU G w' (bx.set b cs') rw' ∧ G.Le w G w' := by
  obtain ⟨b2, vs, T0, b3, b4⟩ := h.box b cs blk hb hg
  have hcell : ∀ k o, k ≠ blk → w'.cell? ⟨k, o, none⟩ = w.cell? ⟨k, o, none⟩ := fun k o hk => World.cell?_of_block (w := w) (hs.other k hk)
  have hne : ∀ k o, G.imm k o → k ≠ blk := fun k o i e => b2 o (e ▸ i)
  have le : G.Le w G w' := ⟨fun _ _ i => i, fun k o i => hcell k o (hne k o i), fun _ _ h => h, fun _ e h => ⟨e, h, .inl rfl⟩⟩
  refine ⟨⟨fun k o i => by rw [hcell k o (hne k o i)]; exact h.immOk k o i, by simp [h.lenB], h.lenR, h.nodup, ?_, ?_, h.sepB, h.sepR⟩, le⟩
  · intro k ds blk' hk hg'
    rw [List.getElem?_set] at hk
    by_cases hbk : b = k
    · subst hbk
      rw [hg] at hg'
      cases hg'
      simp only [if_true] at hk
      split at hk
      · cases hk
        exact ⟨b2, vs', T, hs.here, AV.relL_mono le _ _ hr⟩
      · cases hk
    · rw [if_neg hbk] at hk
      obtain ⟨e2, us, T', e3, e4⟩ := h.box k ds blk' hk hg'
      have hbb : blk' ≠ blk := by
        intro e; subst e
        have hl1 : b < G.bx.length := (yNd.1 hg).1
        exact hbk ((yO3 hl1 h.nodup).1 (hg.trans hg'.symm))
      exact ⟨e2, us, T', by rw [hs.other _ hbb]; exact e3, AV.relL_mono le _ _ e4⟩
  · intro k r x hk hx
    have ro := h.row k r x hk hx
    obtain ⟨xs, ho, hel⟩ := ro.own
    refine ⟨ro.len, ⟨xs, ?_, fun i hi => ?_⟩, ro.imm⟩
    · refine ho.keep fun g h1 _ => hs.other g fun e => ?_
      subst e
      exact h.sepB k x g hx h1 (yNr hg)
    · obtain ⟨us, e1, e2⟩ := hel i hi
      exact ⟨us, AV.relL_mono le _ _ e1, e2⟩

section runs
variable {P : Program} {ops : Array Oper} {r : List Oper} {k : ASt → Prop} {st : ASt} {o : Oper}

theorem zP0 {T : TT} (hT : TOk P T) {t : TypeId} {i : TI} {p x : Operand} {y : AV} {b off : Nat} {cs : List AV} (hop : o.op = .store t p x) (hg : o.guard = none) (hd : o.dst = none) (hp : st.ev p = some (true, .box b off)) (hb : st.bx[b]? = some cs)
    (hi : T t = some i) (hx : st.ev x = some (true, y)) (h1 : AV.oneL st (yE y)) (hl : (yE y).length = i.size ∧ off + i.size ≤ cs.length)
    (h : yZ P ops r k { st with bx := st.bx.set b (wT cs off (yE y)) }) : yZ P ops (o :: r) k st := by
  intro C G a w Q hs hQ
  obtain ⟨blk, e1, e2⟩ := (yN (x := p) fun t _ => hs.slot t) _ _ hp rfl
  have e3 := (yN (x := x) fun t _ => hs.slot t) _ _ hx rfl
  have e4 := zF6 h1 hs.mem e3
  have e5 := zA6 hs.mem h1 e4
  have hlen := AV.relL_length e4
  obtain ⟨_, vs, T0, e6, e7⟩ := hs.mem.box b cs blk hb e1
  have hl2 := AV.relL_length e7
  obtain ⟨w', e8, e9⟩ := qY (P := P) (off := off) (vs := vs) (a.eval x).cells.toList [] w (by
    have : wT vs off ([] : List Value) = vs := by
      have : ∀ (n : Nat) (l : List Value), wT l n ([] : List Value) = l := by
        intro n; induction n with
        | zero => intro l; cases l <;> rfl
        | succ n ih => intro l; cases l <;> simp [wT, ih]
      exact this _ _
    rw [this]; exact e6) (by simp only [yO4]; omega) e5
  simp only [yN8] at e9
  have hlen3 : (wT vs off (a.eval x).cells.toList).length = cs.length := by rw [kU oq]; omega
  obtain ⟨m, le⟩ := zGm hs.mem hb e1 e9 (relL_put e7 e4)
  have hbm : blk ∈ C.G0.bx ∨ C.w0.heap.size ≤ blk := hs.ownB blk (yNr e1)
  have hfr : zR C.may C.w0 w' := ⟨e9.os.trans hs.frame.os, e9.tape.trans hs.frame.tape, e9.output.trans hs.frame.output, by rw [e9.size]; exact hs.frame.size, fun k hk hm =>
    (e9.other k fun e => by
      subst e
      rcases hbm with h | h
      · exact hm (.inr (.inl h))
      · omega).trans (hs.frame.block k hk hm)⟩
  have hco : ∃ D, EnvD C G a.defers st.ys D w' := by
    obtain ⟨D, hD⟩ := hs.env
    exact ⟨D, hD.step hs.mem le (fun _ _ i => .inl i) (fun _ h => .inl h) (fun x hx g hg => .inl ⟨x, hx, hg⟩) ⟨e9.os, e9.tape, e9.output, Nat.le_of_eq e9.size.symm, fun k _ hk => e9.other k fun e => hk (.inl (e ▸ yNr e1))⟩⟩
  refine wpListIn_plain hg fun K hK => ?_
  refine zJ (fun c hc => by rw [hop] at hc; cases hc) ?_
  have hrun : (execOp a.eval o).run P w = .ok .skip w' := by
    obtain ⟨dst, op, type, pos, after, guard⟩ := o
    simp only at hop
    subst hop
    have hsz := (hT t i hi).size_run w
    simp only [execOp, Instr.storeAt, e2, Instr.sureAddr, Sem.run_bind, Sem.run_pure, Result.andThen_ok, storeVar, hsz]
    rw [if_neg (by simp only [yNn] at hlen; omega)]
    simp only [yO4] at e8
    rw [e8]
    rfl
  rw [hrun, Oper.uponIn_skip, hd]
  refine hK _ _ (h C G a w' Q ⟨hs.size, hs.callers, hfr, hs.le.trans le, hs.fresh, hs.ownB, hs.ownR, hco, m, fun t c y hl => ?_⟩ hQ)
  obtain ⟨v, h1, h2, h3⟩ := hs.slot t c y hl
  exact ⟨v, h1, fun hc => AV.rel_mono le _ _ (h2 hc), h3⟩
end runs

def zIa : Nat → List AV → List (Nat × (Bool × AV))
  | _, [] => []
  | k, x :: xs => (k, (true, x)) :: zIa (k + 1) xs
theorem zA9 {t c x} : ∀ {k : Nat} {xs : List AV}, yL t (zIa k xs) = some (c, x) → ∃ j, t = k + j ∧ xs[j]? = some x ∧ c = true
  | k, y :: ys, h => by
    rw [zIa, zL] at h
    split at h
    · rename_i e; subst e; cases h; exact ⟨0, rfl, rfl, rfl⟩
    · obtain ⟨j, e1, e2, e3⟩ := zA9 (k := k + 1) (xs := ys) h
      exact ⟨j + 1, by omega, by simpa using e2, e3⟩

def zWp (T : TT) (st : ASt) : List ResultVar → Option (List (Bool × AV) × Prop)
  | [] => some ([], True)
  | .tmp t :: r => match st.look t, zWp T st r with
    | some x, some (xs, p) => some (x :: xs, p)
    | _, _ => none
  | .cell a t :: r => match st.look a, T t, zWp T st r with
    | some (g, .box b off), some i, some (xs, p) => match st.bx[b]? with
      | some cs => some ((g, zW4 i.k.agg i.size cs off) :: xs, (0 < i.size ∧ off + i.size ≤ cs.length) ∧ p)
      | none => none
    | _, _, _ => none
def zUs (T : TT) (st : ASt) (rs : List ResultVar) : Option (List Bool × AV × Prop) :=
  match zWp T st rs with
  | some ([x], p) => some ([x.1], x.2, p)
  | some (xs, p) => some (xs.map (·.1), .tup (xs.map (·.2)), p)
  | none => none

def zD3 (tmps : Array Value) : ResultVar → Sem Value
  | .tmp t => pure (tmps.getD t undef)
  | .cell a t => do loadVar t (← asAddr (tmps.getD a undef))

theorem wK {P : Program} {T : TT} (hT : TOk P T) {C : Ctx P} {G : Gh} {a : Act} {w : World} {st : ASt} (hs : Sat C G a w st) : ∀ {rs : List ResultVar} {xs : List (Bool × AV)} {p : Prop}, zWp T st rs = some (xs, p) → (∀ x ∈ xs, x.1 = true) → p →
    ∃ vs : List Value, AV.relL G w (xs.map (·.2)) vs ∧ (rs.mapM (zD3 a.tmps)).run P w = .ok vs w
  | [], xs, p, h, _, _ => by simp only [zWp, yMc, yMu] at h; obtain ⟨rfl, rfl⟩ := h; exact ⟨[], rfl, rfl⟩
  | .tmp t :: r, xs, p, h, hc, hp => by
    simp only [zWp] at h
    split at h
    · rename_i x xs' p' h1 h2
      simp only [yMc, yMu] at h
      obtain ⟨rfl, rfl⟩ := h
      obtain ⟨v, e1, e2, _⟩ := hs.slot t x.1 x.2 h1
      obtain ⟨vs, e3, e4⟩ := wK hT hs h2 (fun y hy => hc y (by simp [hy])) hp
      refine ⟨v :: vs, ⟨v, vs, rfl, e2 (hc x sq), e3⟩, ?_⟩
      simp only [List.mapM_cons, Sem.run_bind, zD3, Sem.run_pure, Result.andThen_ok, e4, yMt, e1, yN6]
    · cases h
  | .cell c t :: r, xs, p, h, hc, hp => by
    simp only [zWp] at h
    split at h
    · rename_i g b off i xs' p' h1 h2 h3
      split at h
      · rename_i cs h4
        simp only [yMc, yMu] at h
        obtain ⟨rfl, rfl⟩ := h
        obtain ⟨v, e1, e2, _⟩ := hs.slot c _ _ h1
        obtain ⟨vs, e3, e4⟩ := wK hT hs h3 (fun y hy => hc y (by simp [hy])) hp.2
        obtain ⟨blk, e5, rfl⟩ := e2 (hc (g, zW4 i.k.agg i.size cs off) sq)
        obtain ⟨_, us, E, e6, e7⟩ := hs.mem.box _ _ _ h4 e5
        have hl := AV.relL_length e7
        have hload := kY (P := P) (w := w) (hT _ _ h2) (b := blk) (o := 0) (off := off) (vs := us) hp.1.1 oq (fun j u hj => by simpa [World.cell?, e6] using hj)
        rw [yN9] at hload
        simp only [Instr.loadAt, Instr.sureAddr, Sem.run_bind, Sem.run_pure, Result.andThen_ok] at hload
        refine ⟨_ :: vs, ⟨_, vs, rfl, zBs e7 hp.1.1 hp.1.2, e3⟩, ?_⟩
        simp only [List.mapM_cons, Sem.run_bind, zD3, yMt, e1, yN6, asAddr, Sem.run_pure, Result.andThen_ok, hload, e4]
      · cases h
    · cases h

def Gh.all (G : Gh) (w : World) (b o : Nat) : Prop := G.imm b o ∨ (b ∈ G.bx ∧ (w.cell? ⟨b, o, none⟩).isSome = true)
def yP (st : ASt) (x r : AV) : Prop := ∀ (G : Gh) (w : World) (v : Value), xU G w st.bx st.rw → x.rel G w v → r.rel ⟨G.all w, [], []⟩ w v
theorem yP.free {st : ASt} {x : AV} (h : x.free) : yP st x x := fun G w _ _ hr => AV.rel_free (G := G) (G' := ⟨G.all w, [], []⟩) (fun _ _ i => .inl i) _ _ h hr
def kS (T : TT) (rs : List ResultVar) (r : AV) (e : Exit) (st : ASt) : Prop :=
  (e = .normal ∨ e = .ret) ∧ ∃ cs x p, zUs T st rs = some (cs, x, p) ∧ (∀ c ∈ cs, c = true) ∧ p ∧ yP st x r

def zB2 (n : Nat) (args : List AV) : ASt := { nt := n, nb := 0, sl := zIa 0 args, bx := [], rw := [], ys := ((0, []), [], true) }

theorem xH {P : Program} {fn : Func} {tmps : Array Value} {w : World} {vs : List Value} (h : (fn.results.toList.mapM (zD3 tmps)).run P w = .ok vs w) :
    (results fn tmps).run P w = .ok (match vs with | [v] => v | vs => .tuple vs.toArray) w := by
  obtain ⟨l, hl⟩ : ∃ l : List ResultVar, fn.results = l.toArray := ⟨fn.results.toList, by simp⟩
  have e : results fn tmps = (do let vs ← (l.toArray.mapM (zD3 tmps)); pure (if h : vs.size = 1 then vs[0] else .tuple vs) : Sem Value) := by
    unfold results
    rw [hl]
    rfl
  rw [hl] at h
  simp only [List.toList_toArray] at h
  rw [e, List.mapM_toArray, Sem.run_bind, Sem.run_map, h]
  simp only [Result.andThen_ok, Sem.run_pure]
  match vs with
  | [] => rfl
  | [v] => rfl
  | _ :: _ :: _ => rfl

theorem xU.imm_ne {bx : List (List AV)} {rw' : List zV} {G : Gh} {w : World} (h : xU G w bx rw') {m b i : Nat} {o : Obj} (hm : w.heap[m]? = some o) (ho : cellsO o = false) (hi : G.imm b i) : b ≠ m := by
  intro e; subst e
  have := h.immOk b i hi
  unfold World.cell? at this
  simp only [hm] at this
  cases o <;> first | (simp at this; done) | (cases ho)
theorem zNj {bx : List (List AV)} {rw' : List zV} {G : Gh} {w : World} (h : xU G w bx rw') {m : Nat} {o : Obj} (o' : Obj) (hm : w.heap[m]? = some o) (ho : cellsO o = false) : xU G (w.putObj m o') bx rw' ∧ G.Le w G (w.putObj m o') := by
  refine zJh (w' := w.putObj m o') h G.imm (fun k hk => World.putObj_heap_other fun e => h.not_box hm ho (e ▸ hk)) (fun k g x hk hg => World.putObj_heap_other fun e => h.not_row hm ho x (yNr hk) (e ▸ hg)) (fun b i hi => World.cell?_of_block (w := w) (World.putObj_heap_other (h.imm_ne hm ho hi))) (fun _ _ i => i) (fun _ _ i => .inl i) fun b i hi => ?_
  rw [World.cell?_of_block (w := w) (World.putObj_heap_other (h.imm_ne hm ho hi))]
  exact h.immOk b i hi
theorem EnvD.non {P : Program} {C : Ctx P} {G : Gh} {ds ds' : List Deferred} {ys : (Nat × List (List AV)) × List (List AV) × Bool} {D : Nat → Prop} {w : World} {bx : List (List AV)} {rw' : List zV} (e : EnvD C G ds ys D w) (h : xU G w bx rw') {m : Nat} {o : Obj} (o' : Obj) (hm : w.heap[m]? = some o) (ho : cellsO o = false) (hD : ¬ D m) (hr : C.round = some m → ∃ L, o' = .loop L)
    (hds : ∃ l : List Nat, ds' = l.map zNl ∧ l.Nodup ∧ ∀ k ∈ l, k ≠ m ∧ w.heap[k]? = some (.deferred (some [])) ∧ ¬ D k ∧ C.w0.heap.size ≤ k) : EnvD C G ds' ys D (w.putObj m o') := by
  obtain ⟨_, le⟩ := zNj h o' hm ho
  refine ⟨e.l, C.stable _ _ _ _ _ _ _ e.cons ⟨rfl, rfl, rfl, by simp, fun k _ hk => World.putObj_heap_other fun e' => hk (e' ▸ hD)⟩ (fun b o i => ⟨i, le.cell b o i⟩), e.sub, fun k hk => by simpa using e.lt k hk, e.bx, e.rw, e.imm, ?_, fun r hr' => ?_⟩
  rotate_left
  · obtain ⟨⟨L, hL⟩, h2⟩ := e.record r hr'
    refine ⟨?_, h2⟩
    by_cases hrm : r = m
    · subst hrm
      obtain ⟨L', rfl⟩ := hr hr'
      exact ⟨L', World.putObj_heap_same (yMi.1 hm).1⟩
    · exact ⟨L, (World.putObj_heap_other hrm).trans hL⟩
  obtain ⟨l, h1, h2, h3⟩ := hds
  exact ⟨l, h1, h2, fun k hk => ⟨(World.putObj_heap_other (h3 k hk).1).trans (h3 k hk).2.1, (h3 k hk).2.2⟩⟩
theorem Sat.non {P : Program} {C : Ctx P} {G : Gh} {a a' : Act} {w : World} {st : ASt} (hs : Sat C G a w st) {m : Nat} {o : Obj} (o' : Obj) (hm : w.heap[m]? = some o) (ho : cellsO o = false) (hge : C.w0.heap.size ≤ m) (ha : a'.tmps = a.tmps)
    (he : ∃ D, EnvD C G a'.defers st.ys D (w.putObj m o')) : Sat C G a' (w.putObj m o') st := by
  obtain ⟨hm', le⟩ := zNj hs.mem o' hm ho
  refine ⟨ha ▸ hs.size, hs.callers, ⟨hs.frame.os, hs.frame.tape, hs.frame.output, by simpa using hs.frame.size, fun k hk h => (World.putObj_heap_other oq).trans (hs.frame.block k hk h)⟩, hs.le.trans le, hs.fresh, hs.ownB, hs.ownR, he, hm', fun t c x hl => ?_⟩
  · obtain ⟨v, h1, h2, h3⟩ := hs.slot t c x hl
    exact ⟨v, by rw [ha]; exact h1, fun hc => AV.rel_mono le _ _ (h2 hc), h3⟩
theorem Sat.leaves {P : Program} {C : Ctx P} {G : Gh} {st : ASt} {fn : Func} {F : Fence} {n : Nat} {tmps : Array Value} {R : Ending → World → Prop} (hR : ∀ w', Sat C G ⟨tmps, []⟩ w' st → ∃ v, (results fn tmps).run P w' = .ok v w' ∧ R (.returned v) w') :
    ∀ (l : List Nat) (w : World), Sat C G ⟨tmps, l.map zNl⟩ w st → LeavesInM F n P fn tmps R (l.map zNl) .returning w
  | [], w, hs => hR w hs
  | m :: l, w, hs => by
    obtain ⟨D, hD⟩ := hs.env
    obtain ⟨l', h1, h2, h3⟩ := hD.marks
    have : l' = m :: l := ((List.map_inj_right (f := zNl) (fun x y h => by simpa [zNl] using h)).1 h1).symm
    subst this
    obtain ⟨h4, h5, h6⟩ := h3 m sq
    refine ⟨by simp, .inl ⟨m, _, rfl, run_takeDeferred h4, Sat.leaves hR l _ ?_⟩⟩
    refine hs.non _ h4 rfl h6 rfl ⟨D, hD.non hs.mem _ h4 rfl h5 (fun hr => by obtain ⟨⟨L, hL⟩, _⟩ := hD.record m hr; rw [h4] at hL; cases hL) ⟨l, rfl, (List.nodup_cons.1 h2).2, fun k hk => ⟨fun e => (List.nodup_cons.1 h2).1 (e ▸ hk), h3 k (by simp [hk])⟩⟩⟩
theorem yBu {P : Program} {T : TT} (hT : TOk P T) {f : FuncId} {fn : Func} {c : Code} {args : List AV} {r : AV} (hf : P.funcs[f]? = some fn) (hb : fn.body = some c) (hnm : (fn.name == "runtime.NumGoroutine") = false) (n : Nat) (hn : fn.ntmps = n) (hlen : args.length ≤ n) (rs : List ResultVar) (hrs : fn.results.toList = rs)
    (h : wpA P c (kS T rs r) (zB2 n args)) : FnA P f args r := by
  subst hrs
  refine ⟨⟨fn, hf, hnm, by rw [hb]; rfl⟩, fun imm w vs htb hi hr => ?_⟩
  have hvl := AV.relL_length hr
  let C : Ctx P := ⟨none, (0, []), vC P, W0 P w, imm, ⟨imm, [], []⟩, w, fun _ _ i => i, zFe htb, yM0, zMm htb⟩
  have hs : Sat C ⟨imm, [], []⟩ { tmps := vs.toArray ++ Array.replicate (fn.ntmps - vs.toArray.size) undef, defers := [] } w (zB2 n args) := by
    refine ⟨by simp [zB2,hn]; omega,⟨by show (0 : Nat) = 0 % 64; rfl,by show (0 : Nat) = 0 / 64; rfl⟩,zR.refl _ _,Gh.Le.refl _ _,fun _ _ i => .inl i,fun _ h => by simp at h,fun _ h => by simp at h,⟨vC P,rfl,⟨rfl,fun _ => Iff.rfl,fun _ _ => rfl⟩,fun _ h => .inl h,fun _ h => htb.lt h,fun _ h => by simp at h,fun _ h => by simp at h,fun _ _ i => .inl i,⟨[],rfl,by simp,fun _ h => by simp at h⟩,fun _ h => by cases h⟩,⟨hi,rfl,rfl,by simp,fun k cs blk hk _ => by simp [zB2] at hk,fun k r x hk _ => by simp [zB2] at hk,fun k x g hk _ => by simp at hk,fun k k' x x' g hk _ _ _ => by simp at hk⟩,?_⟩
    intro t c x hl
    obtain ⟨j, e1, e2, rfl⟩ := zA9 hl
    obtain ⟨v, e3, e4⟩ := AV.relL_get hr e2
    have hj : j < vs.length := (yNd.1 e3).1
    refine ⟨v, ?_, fun _ => e4, fun h => by cases h⟩
    rw [show t = j from by omega, yO5 (by simpa using hj)]
    simpa using e3
  refine callsIn_wide.1 (callsIn_of_wp_marks (n := 0) hf hb trivial (wpIn_mono (h _ _ _ _ hs) ?_))
  rintro e a' w1 ⟨G', st', hs1, he, cs, x, p, h1, h2, hp, h3⟩
  obtain ⟨tm, df⟩ := a'
  obtain ⟨D1, hD1⟩ := hs1.env
  obtain ⟨ml, hml, _⟩ := hD1.marks
  simp only at hml
  subst hml
  have fin := Sat.leaves (F := Fence.wide) (n := 0) (fn := fn) (tmps := tm) (R := fun e w' => ∃ v imm', e = .returned v ∧ Below w.heap.size w w' ∧ (∀ b o, imm b o → imm' b o) ∧ (∀ b o, imm' b o → imm b o ∨ w.heap.size ≤ b) ∧
      (∀ b o, imm' b o → (w'.cell? ⟨b, o, none⟩).isSome = true) ∧ r.rel ⟨imm', [], []⟩ w' v) (fun w' hs' => by
    have key : ∃ v, (results fn tm).run P w' = .ok v w' ∧ x.rel G' w' v := by
      unfold zUs at h1
      split at h1
      · rename_i y p' hy
        simp only [yMc, yMu] at h1
        obtain ⟨rfl, rfl, rfl⟩ := h1
        obtain ⟨us, e1, e2⟩ := wK (P := P) hT hs' hy (fun z hz => h2 z.1 (by simp at hz; subst hz; simp)) hp
        obtain ⟨v, us', rfl, e3, e4⟩ := e1
        rw [show us' = [] from e4] at e2
        exact ⟨v, by rw [xH e2], e3⟩
      · rename_i ys p' hys hy
        simp only [yMc, yMu] at h1
        obtain ⟨rfl, rfl, rfl⟩ := h1
        obtain ⟨us, e1, e2⟩ := wK (P := P) hT hs' hy (fun z hz => h2 z.1 (yO6.2 ⟨z, hz, rfl⟩)) hp
        refine ⟨.tuple us.toArray, ?_, us, rfl, e1⟩
        rw [xH e2]
        have hl := AV.relL_length e1
        rw [yO7] at hl
        split
        · rename_i v
          exfalso
          match ys, hl with
          | [z], _ => exact hys z rfl
        · rfl
      · cases h1
    have hbel : Below w.heap.size w w' := ⟨hs'.frame.os, hs'.frame.tape, hs'.frame.output, hs'.frame.size, fun k hk => (Classical.em (vC P k)).elim (fun ht => let ⟨_, e⟩ := hs'.env; e.cons.2.2 k ht) fun ht => hs'.frame.block k hk fun hm => by
      rcases hm with hm | hm | ⟨x, hx, _⟩
      · exact ht hm
      · simp [C] at hm
      · simp [C] at hx⟩
    obtain ⟨v, k2, k3⟩ := key
    refine ⟨v, k2, v, G'.all w', rfl, hbel, fun b o i => .inl (hs'.le.imm b o i), fun b o i => ?_, fun b o i => ?_, h3 _ _ _ hs'.mem k3⟩
    · rcases i with i | ⟨i, _⟩
      · rcases hs'.fresh b o i with i | i | ⟨x, hx, _⟩
        · exact .inl i
        · exact .inr i
        · simp [C] at hx
      · exact (hs'.ownB b i).elim (fun h => by simp [C] at h) .inr
    · rcases i with i | ⟨_, i⟩
      · exact hs'.mem.immOk b o i
      · exact i) ml w1 hs1
  rcases he with rfl | rfl <;> exact fin

section walk
variable {P : Program} {Q : Exit → ASt → Prop} {k : ASt → Prop} {st : ASt}
theorem zCb (h : k st) : zIl k Q .normal st := h
theorem zCa (h : Q .ret st) : zIl k Q .ret st := h
theorem zCc {i : Nat} (h : Q (.exit i) st) : zIl k Q (.exit i) st := h
theorem qG {id : Nat} (h : Q .normal st) : zA7 id Q .normal st := h
theorem qF {id : Nat} (h : Q .ret st) : zA7 id Q .ret st := h
theorem wP {id : Nat} (h : Q .normal st) : zA7 id Q (.exit id) st := by
  show bif Nat.beq id id then _ else _
  rw [yMr]; exact h
theorem xR {id i : Nat} (hb : Nat.beq i id = false) (h : Q (.exit i) st) : zA7 id Q (.exit i) st := by
  show bif Nat.beq i id then _ else _
  rw [hb]; exact h
theorem j9 {x y : Code} (h : wpA P x (zIl (wpA P y Q) Q) st) : wpA P (.seq x y) Q st :=
  zX8 fun _ hK => zMr h fun e s hq => by cases e <;> first | exact hK _ hq | exact hq
theorem zB {x y : Code} {c : Operand} (h : ∃ b, st.ev c = some (true, .raw (.bool b)) ∧ (b = true → wpA P x Q st) ∧ (b = false → wpA P y Q st)) : wpA P (.cond c x y) Q st :=
  let ⟨_, h1, h2, h3⟩ := h
  zUc h1 h2 h3
theorem yA {T : TT} {rs : List ResultVar} {r : AV} {e : Exit} (he : e = .normal ∨ e = .ret) (h : ∃ cs x p, zUs T st rs = some (cs, x, p) ∧ ((∀ c ∈ cs, c = true) ∧ p) ∧ yP st x r) : kS T rs r e st :=
  let ⟨cs, x, p, h1, h2, h3⟩ := h
  ⟨he, cs, x, p, h1, h2.1, h2.2, h3⟩
theorem yP.eq {x r : AV} (h : x = r) (hf : x.free) : yP st x r := h ▸ yP.free hf
end walk

section steps
variable {P : Program} {T : TT} {ops : Array Oper} {r : List Oper} {k : ASt → Prop} {nt nb : Nat} {sl : List (Nat × (Bool × AV))} {bx : List (List AV)} {rw : List zV} {ys : (Nat × List (List AV)) × List (List AV) × Bool} {st' : ASt} {o : Oper} {d : Nat}
theorem vR (hT : TOk P T) (hd : o.dst = some d) (hn : Nat.blt d nt = true)
    (h : ∃ g, y9 ops ⟨nt, nb, sl, bx, rw, ys⟩ o = some g ∧ ∃ cs x p, opA T ⟨nt, nb, sl, bx, rw, ys⟩ o.op = some (cs, x, p) ∧ (g = true → (∀ c ∈ cs, c = true) ∧ p) ∧ yZ P ops r k ⟨nt, nb, (d, (g, x)) :: sl, bx, rw, ys⟩) : yZ P ops (o :: r) k ⟨nt, nb, sl, bx, rw, ys⟩ :=
  let ⟨_, hg, _, _, _, h, hp, hk⟩ := h
  qI hd (vI hT hg h hp) hn hk
theorem zL7 (hT : TOk P T) (hd : o.dst = some d) (hn : Nat.blt d nt = true)
    (h : ∃ g, y9 ops ⟨nt, nb, sl, bx, rw, ys⟩ o = some g ∧ ∃ cs x p, mkA T ⟨nt, nb, sl, bx, rw, ys⟩ o.op = some (cs, x, p) ∧ (g = true → (∀ c ∈ cs, c = true) ∧ p) ∧ yZ P ops r k ⟨nt, nb, (d, (g, x)) :: sl, bx, rw, ys⟩) : yZ P ops (o :: r) k ⟨nt, nb, sl, bx, rw, ys⟩ :=
  let ⟨_, hg, _, _, _, h, hp, hk⟩ := h
  qI hd (zJ8 hT hg h hp) hn hk
theorem yD (hd : o.dst = some d) (hn : Nat.blt d nt = true)
    (h : ∃ g, y9 ops ⟨nt, nb, sl, bx, rw, ys⟩ o = some g ∧ ∃ cs f args, kL ⟨nt, nb, sl, bx, rw, ys⟩ o.op = some (cs, f, args) ∧ (g = true → (∀ c ∈ cs, c = true) ∧ AV.freeL args) ∧ ∃ x, (g = true → FnA P f args x) ∧ yZ P ops r k ⟨nt, nb, (d, (g, x)) :: sl, bx, rw, ys⟩) : yZ P ops (o :: r) k ⟨nt, nb, sl, bx, rw, ys⟩ :=
  let ⟨_, hg, _, _, _, h, hp, _, hf, hk⟩ := h
  qI hd (zEg hg h hp hf) hn hk
theorem zQy {t : TypeId} {x : Operand} (hop : o.op = .box t x) (hg : o.guard = none) (hd : o.dst = some d) (hn : Nat.blt d nt = true)
    (h : ∃ y, (ASt.mk nt nb sl bx rw ys).ev x = some (true, y) ∧ AV.oneL ⟨nt, nb, sl, bx, rw, ys⟩ (yE y) ∧ yZ P ops r k ⟨nt, nb, (d, (true, .box bx.length 0)) :: sl, bx ++ [yE y], rw, ys⟩) : yZ P ops (o :: r) k ⟨nt, nb, sl, bx, rw, ys⟩ :=
  let ⟨_, h1, h2, h3⟩ := h
  zUo (T := fun _ => none) hop hg hd h1 h2 hn h3
theorem zL8 (hT : TOk P T) {t : TypeId} (hop : o.op = .alloc t) (hg : o.guard = none) (hd : o.dst = some d) (hn : Nat.blt d nt = true)
    (h : ∃ i, T t = some i ∧ yZ P ops r k ⟨nt, nb, (d, (true, .box bx.length 0)) :: sl, bx ++ [i.zero.map .raw], rw, ys⟩) : yZ P ops (o :: r) k ⟨nt, nb, sl, bx, rw, ys⟩ :=
  let ⟨_, h1, h2⟩ := h
  zP4 hT hop hg hd h1 hn h2
theorem zL6 (hT : TOk P T) {t : TypeId} {p x : Operand} (hop : o.op = .store t p x) (hg : o.guard = none) (hd : o.dst = none)
    (h : ∃ b off, (ASt.mk nt nb sl bx rw ys).ev p = some (true, .box b off) ∧ ∃ cs, bx[b]? = some cs ∧ ∃ i, T t = some i ∧ ∃ y, (ASt.mk nt nb sl bx rw ys).ev x = some (true, y) ∧
      (AV.oneL ⟨nt, nb, sl, bx, rw, ys⟩ (yE y) ∧ (yE y).length = i.size ∧ off + i.size ≤ cs.length) ∧ yZ P ops r k ⟨nt, nb, sl, bx.set b (wT cs off (yE y)), rw, ys⟩) : yZ P ops (o :: r) k ⟨nt, nb, sl, bx, rw, ys⟩ :=
  let ⟨_, _, h1, _, h2, _, h3, _, h4, h5, h6⟩ := h
  zP0 hT hop hg hd h1 h2 h3 h4 h5.1 h5.2 h6
end steps

mutual
/-- Only the first m own variables are needed. -/
def AV.bel (m : Nat) : AV → Prop
  | .raw _ => True
  | .agg cs => AV.belL m cs
  | .tup cs => AV.belL m cs
  | .lst _ n el => ∀ i, i < n → AV.belL m (el i)
  | .elt cs _ => AV.belL m cs
  | .box b _ => b < m
  | .fn _ first cap => AV.belL m first ∧ AV.belL m cap
  | .row _ _ => True
  | .bsl _ b _ _ _ => b < m
  | .ifc _ x => AV.bel m x
  | .ful x => AV.bel m x
def AV.belL (m : Nat) : List AV → Prop
  | [] => True
  | c :: cs => AV.bel m c ∧ AV.belL m cs
end
mutual
theorem AV.rel_bel {G G' : Gh} {w : World} {m : Nat} (h0 : ∀ b o, G.imm b o → G'.imm b o) (hb : ∀ (k x : Nat), k < m → G.bx[k]? = some x → G'.bx[k]? = some x) (hr : G'.rw = G.rw) : ∀ (x : AV) (v : Value), x.bel m → x.rel G w v → x.rel G' w v
  | .raw _, _, _, h => h
  | .agg cs, _, f, h => by
    obtain ⟨vs, e, h⟩ := h
    exact ⟨vs, e, AV.relL_bel h0 hb hr cs vs f h⟩
  | .tup cs, _, f, h => by
    obtain ⟨vs, e, h⟩ := h
    exact ⟨vs, e, AV.relL_bel h0 hb hr cs vs f h⟩
  | .lst sz n el, _, f, h => by
    obtain ⟨A, cap, e, h1, h2, h3⟩ := h
    refine ⟨A, cap, e, h1, h2, fun hn => ?_⟩
    obtain ⟨b, o, hA, h4⟩ := h3 hn
    refine ⟨b, o, hA, fun i hi => ?_⟩
    obtain ⟨vs, h5, h6, h7⟩ := h4 i hi
    exact ⟨vs, AV.relL_bel h0 hb hr (el i) vs (f i hi) h5, h6, fun j u hj => ⟨h0 _ _ (h7 j u hj).1, (h7 j u hj).2⟩⟩
  | .elt cs off, _, f, h => by
    obtain ⟨b, o, vs, e, h1, h2⟩ := h
    exact ⟨b, o, vs, e, AV.relL_bel h0 hb hr cs vs f h1, fun j u hj => ⟨h0 _ _ (h2 j u hj).1, (h2 j u hj).2⟩⟩
  | .box b off, _, f, h => by
    obtain ⟨blk, h1, h2⟩ := h
    exact ⟨blk, hb _ _ f h1, h2⟩
  | .fn _ first cap, _, f, h => by
    obtain ⟨fs, cs, e, h1, h2⟩ := h
    exact ⟨fs, cs, e, AV.relL_bel h0 hb hr first fs f.1 h1, AV.relL_bel h0 hb hr cap cs f.2 h2⟩
  | .row k n, _, f, h => by
    obtain ⟨e, h1, h2⟩ := h
    exact ⟨e, by rw [hr]; exact h1, h2⟩
  | .bsl _ b off n cap, _, f, h => by
    obtain ⟨blk, A, h1, h2⟩ := h
    exact ⟨blk, A, hb _ _ f h1, h2⟩
  | .ifc t x, _, f, h => by
    obtain ⟨u, e, h⟩ := h
    exact ⟨u, e, AV.rel_bel h0 hb hr x u f h⟩
  | .ful x, v, f, h => ⟨AV.rel_bel h0 hb hr x v f h.1, h.2⟩
theorem AV.relL_bel {G G' : Gh} {w : World} {m : Nat} (h0 : ∀ b o, G.imm b o → G'.imm b o) (hb : ∀ (k x : Nat), k < m → G.bx[k]? = some x → G'.bx[k]? = some x) (hr : G'.rw = G.rw) : ∀ (xs : List AV) (vs : List Value), AV.belL m xs → AV.relL G w xs vs → AV.relL G' w xs vs
  | [], _, _, h => h
  | x :: xs, _, f, h => by
    obtain ⟨v, r, e, h1, h2⟩ := h
    exact ⟨v, r, e, AV.rel_bel h0 hb hr x v f.1 h1, AV.relL_bel h0 hb hr xs r f.2 h2⟩
end

def zB6 : List (Nat × (Bool × AV)) → List (Nat × (Bool × AV)) → Prop
  | [], _ => True
  | (t, e) :: r, sl => yL t sl = some e ∧ zB6 r sl
theorem zB6.look {t : Nat} {e : Bool × AV} {sl : List (Nat × (Bool × AV))} : ∀ {sl' : List (Nat × (Bool × AV))}, zB6 sl' sl → yL t sl' = some e → yL t sl = some e
  | (u, x) :: r, h, hl => by
    rw [zL] at hl
    split at hl
    · rename_i e'; subst e'; cases hl; exact h.1
    · exact zB6.look h.2 hl
theorem xT.sl {nt nb : Nat} {sl sl' : List (Nat × (Bool × AV))} {bx : List (List AV)} {rw : List zV} {ys : (Nat × List (List AV)) × List (List AV) × Bool} (h : zB6 sl' sl) : xT ⟨nt, nb, sl, bx, rw, ys⟩ ⟨nt, nb, sl', bx, rw, ys⟩ :=
  fun _ _ G _ _ hs => ⟨G, hs.size, hs.callers, hs.frame, hs.le, hs.fresh, hs.ownB, hs.ownR, hs.env, hs.mem, fun t c x hl => hs.slot t c x (h.look hl)⟩
def zU7 (m : Nat) : List (Nat × (Bool × AV)) → Prop
  | [] => True
  | (_, (_, x)) :: r => x.bel m ∧ zU7 m r
theorem zU7.look {m t : Nat} {c : Bool} {x : AV} : ∀ {sl : List (Nat × (Bool × AV))}, zU7 m sl → yL t sl = some (c, x) → x.bel m
  | (u, (_, y)) :: r, h, hl => by
    rw [zL] at hl
    split at hl
    · cases hl; exact h.1
    · exact zU7.look h.2 hl
def zFk (m : Nat) : List (List AV) → Prop
  | [] => True
  | cs :: r => AV.belL m cs ∧ zFk m r
theorem zFk.get {m k : Nat} {cs : List AV} : ∀ {bx : List (List AV)}, zFk m bx → bx[k]? = some cs → AV.belL m cs := by
  induction k with
  | zero => intro bx h hk; cases bx with
    | nil => cases hk
    | cons x r => simp only [yMb, yMc] at hk; subst hk; exact h.1
  | succ k ih => intro bx h hk; cases bx with
    | nil => cases hk
    | cons x r => exact ih h.2 (by simpa using hk)
theorem xT.bx {nt nb : Nat} {sl : List (Nat × (Bool × AV))} {bx ex : List (List AV)} {ys : (Nat × List (List AV)) × List (List AV) × Bool} (h : nb % 64 ≤ bx.length ∧ zU7 bx.length sl ∧ zFk bx.length bx) : xT ⟨nt, nb, sl, bx ++ ex, [], ys⟩ ⟨nt, nb, sl, bx, [], ys⟩ := by
  intro P C G a w hs
  obtain ⟨hnb, h⟩ := h
  have hc : C.G0.bx.length ≤ bx.length := by rw [hs.callers.1]; exact hnb
  have hlen := hs.mem.lenB
  simp only [yN1] at hlen
  have hg : ∀ (k x : Nat), k < bx.length → G.bx[k]? = some x → (G.bx.take bx.length)[k]? = some x := fun k x hk hx => by rw [yMg, if_pos hk]; exact hx
  have hg' : ∀ (k x : Nat), (G.bx.take bx.length)[k]? = some x → G.bx[k]? = some x ∧ k < bx.length := fun k x hx => by
    rw [yMg] at hx
    split at hx
    · rename_i h; exact ⟨hx, h⟩
    · cases hx
  refine ⟨⟨G.imm,G.bx.take bx.length,G.rw⟩,hs.size,hs.callers,hs.frame,⟨hs.le.imm,hs.le.cell,fun k x hx => ?_,hs.le.rw⟩,hs.fresh,fun blk hm => hs.ownB blk (yO8 hm),hs.ownR,⟨hs.env.choose,hs.env.choose_spec.l,hs.env.choose_spec.cons,hs.env.choose_spec.sub,hs.env.choose_spec.lt,fun k hk => hs.env.choose_spec.bx k (yO8 hk),hs.env.choose_spec.rw,hs.env.choose_spec.imm,hs.env.choose_spec.marks,hs.env.choose_spec.record⟩,⟨hs.mem.immOk,by simp; omega,hs.mem.lenR,hs.mem.nodup.sublist (List.take_sublist _ _),fun k cs blk hk hb => ?_,fun k r x hk _ => by simp at hk,fun k x g hk hg2 hm => hs.mem.sepB k x g hk hg2 (yO8 hm),hs.mem.sepR⟩,fun t c x hl => ?_⟩
  · exact hg k x (by have := (yNd.1 hx).1; omega) (hs.le.bx k x hx)
  · obtain ⟨h1, h2⟩ := hg' k blk hb
    obtain ⟨e2, vs, T, e3, e4⟩ := hs.mem.box k cs blk (by rw [yNt h2]; exact hk) h1
    exact ⟨e2, vs, T, e3, AV.relL_bel (G := G) (G' := ⟨G.imm, G.bx.take bx.length, G.rw⟩) (fun _ _ i => i) hg rfl _ _ (h.2.get hk) e4⟩
  · obtain ⟨v, h1, h2, h3⟩ := hs.slot t c x hl
    exact ⟨v, h1, fun hc => AV.rel_bel (G := G) (G' := ⟨G.imm, G.bx.take bx.length, G.rw⟩) (fun _ _ i => i) hg rfl _ _ (h.1.look hl) (h2 hc), h3⟩
theorem xT.mk {nt nb : Nat} {sl sl' : List (Nat × (Bool × AV))} {bx bx' ex : List (List AV)} {ys : (Nat × List (List AV)) × List (List AV) × Bool} (hb : bx = bx' ++ ex) (h : zB6 sl' sl) (h2 : nb % 64 ≤ bx'.length ∧ zU7 bx'.length sl' ∧ zFk bx'.length bx') :
    xT ⟨nt, nb, sl, bx, [], ys⟩ ⟨nt, nb, sl', bx', [], ys⟩ := by
  subst hb
  exact (xT.sl h).trans (xT.bx h2)

section yields
variable {P : Program} {C : Ctx P} {G : Gh} {a : Act} {w : World} {nt nb : Nat} {sl : List (Nat × (Bool × AV))} {bx : List (List AV)} {rw : List zV} {l : Nat} {items : List (List AV)} {h : List (List AV)} {item : List AV}
end yields

theorem zCs {t : Nat} : ∀ (ps : List Nat) (vs : List Value) (tmps : Array Value), t ∉ ps → ((ps.zip vs).foldl (fun (t : Array Value) (p : Nat × Value) => t.setIfInBounds p.1 p.2) tmps)[t]? = tmps[t]?
  | [], _, _, _ => by simp
  | _ :: _, [], _, _ => by simp
  | p :: ps, v :: vs, tmps, h => by
    simp only [List.zip_cons_cons, yN0]
    rw [zCs ps vs _ (fun hm => h (by simp [hm])), yNs, if_neg (fun e => h (by simp [e]))]
theorem zJu : ∀ (ps : List Nat) (vs : List Value) (tmps : Array Value), ((ps.zip vs).foldl (fun (t : Array Value) (p : Nat × Value) => t.setIfInBounds p.1 p.2) tmps).size = tmps.size
  | [], _, _ => by simp
  | _ :: _, [], _ => by simp
  | p :: ps, v :: vs, tmps => by
    simp only [List.zip_cons_cons, yN0]
    rw [zJu ps vs]; simp
def jc : Option Nat → Code
  | none => .ret
  | some id => .exit id
abbrev LInv := List (List AV) → Option (Option Nat) → List (List AV) → List zV → (Nat × List (List AV)) × List (List AV) × Bool → Prop

section loops
variable {P : Program} {C : Ctx P} {Gl : Gh} {wl : World} {a1 : Act} {nt nb : Nat} {sl : List (Nat × (Bool × AV))} {m L : Nat} {E : Nat → Prop} {rec : LoopState → Option Code → Loop} {Inv : LInv}

theorem EnvD.same {G : Gh} {ds : List Deferred} {ys : (Nat × List (List AV)) × List (List AV) × Bool} {D : Nat → Prop} {w w' : World} (e : EnvD C G ds ys D w) (ho : zR (fun k => ¬ D k) w w') (hc : ∀ b o, G.imm b o → w'.cell? ⟨b, o, none⟩ = w.cell? ⟨b, o, none⟩)
    (hm : ∀ k, zNl k ∈ ds → w'.heap[k]? = w.heap[k]?) (hr : ∀ r, C.round = some r → w'.heap[r]? = w.heap[r]?) : EnvD C G ds ys D w' := by
  refine ⟨e.l, C.stable _ _ _ _ _ _ _ e.cons ho (fun b o i => ⟨i, hc b o i⟩), e.sub, fun k hk => yMl (e.lt k hk) ho.size, e.bx, e.rw, e.imm, ?_, fun r hr' => ?_⟩
  · obtain ⟨l, h1, h2, h3⟩ := e.marks
    exact ⟨l, h1, h2, fun k hk => ⟨by rw [hm k (by rw [h1]; exact yO6.2 ⟨k, hk, rfl⟩)]; exact (h3 k hk).1, (h3 k hk).2⟩⟩
  · obtain ⟨⟨L, h1⟩, h2⟩ := e.record r hr'
    exact ⟨⟨L, by rw [hr r hr']; exact h1⟩, h2⟩

end loops

section drawE
variable {P : Program} {Q : Exit → ASt → Prop} {k : ASt → Prop} {T : TT} {full : List Oper} {m : Nat} {r l : List Oper} {nt nb : Nat} {sl : List (Nat × (Bool × AV))} {bx : List (List AV)} {rw : List zV} {ys : (Nat × List (List AV)) × List (List AV) × Bool} {st : ASt} {o : Oper} {d : Nat}
end drawE
attribute [go_sem] opA mkA zU wI eqC zZx jS zK7 zX6 zX5 List.isEmpty_cons List.isEmpty_nil jQ zG0 ASt.ev ASt.evL ASt.look zL
  zZc yCb unA yD1 yL1 yL2 ASt.asL zRs loI hiI zFj yC0 zW4 zY2 TK.agg y9 kL zK5 zPt yE zUs zWp zRn zUu zXx
  zXy wT qS List.getElem?_toArray yMb yMd List.drop_succ_cons List.drop_zero List.take_succ_cons
  List.take_zero List.set_cons_zero List.set_cons_succ yMy yO4 yN8 yO9 yMz
  yMm yMq yN5 yNq yNm yOa List.toList_toArray decide_true decide_false Bool.true_and
  Bool.and_true Bool.false_and Bool.and_false Bool.true_or Bool.or_true yNi Bool.or_false yOb yOc yN9
  Nat.add_zero

theorem evl {α : Type} {a b : α} (h : a = b := by first | ((conv => lhs; simp only [go_sem, ↓reduceIte, Nat.reduceEqDiff, Nat.reduceAdd, Nat.reduceMul]) <;> rfl) | rfl) : a = b := h
theorem obl {p : Prop} (h : p := by
    intro hg
    first
      | (simp only [yOd, yOe, yOf, yOg, yOh, yMv, yOi, yOj, yOk, imp_self, or_false, AV.freeL, AV.free, AV.oneL, AV.one, Value.oneCell', inK, yE, yMy, yO4, yNm, yOa, reduceCtorEq, ne_eq, yOl, yN9]; done)
      | (simp only [yOd, yOe, yOf, yOg, yOh, yMv, yOi, yOj, yOk, imp_self, or_false, AV.freeL, AV.free, AV.oneL, AV.one, Value.oneCell', inK, yE, yMy, yO4, yNm, yOa, reduceCtorEq, ne_eq, yOl, yN9, yNl, yOm]; done)
      | (simp only [yOd, yOe, yOf, yOg, yOh, yMv, yOi, yOj, yOk, imp_self, or_false, AV.freeL, AV.free, AV.oneL, AV.one, Value.oneCell', inK, yE, yMy, yO4, yNm, yOa, reduceCtorEq, ne_eq, yOl, yN9]; omega)
      | (simp only [yOd,yOe,yOf,yOg,yOh,yMv,yOi,yOj,yOk,imp_self,or_false,AV.freeL,AV.free,AV.oneL,AV.one,Value.oneCell',inK,yE,yMy,yO4,yNm,yOa,reduceCtorEq,ne_eq,yOl,yN9]; (repeat' refine And.intro ?_ ?_) <;> (intro _ _; refine qL ?_; simp only [yOd,yOe,yOf,yOg,yOh,yMv,yOi,yOj,yOk,imp_self,or_false,AV.freeL,AV.free,AV.oneL,AV.one,Value.oneCell',inK,yE,yMy,yO4,yNm,yOa,reduceCtorEq,ne_eq,yOl,yN9]; done))
      | ((try simp only [yNj, yOn, yNl, yNk, yOo, yOp, yOq, yOm] at hg)
         (try simp only [yOd,yOe,yOf,yOg,yOh,yMv,yOi,yOj,yOk,imp_self,or_false,AV.freeL,AV.free,AV.oneL,AV.one,Value.oneCell',inK,yE,yMy,yO4,yNm,yOa,reduceCtorEq,ne_eq,yOl,yN9,yNj,yOn,yNl,yNk,yOo,yOp,yOq,yOm])
         (repeat' apply And.intro) <;> first | omega | (intro _ _; refine qL ?_; simp only [yOd, yOe, yOf, yOg, yOh, yMv, yOi, yOj, yOk, imp_self, or_false, AV.freeL, AV.free, AV.oneL, AV.one, Value.oneCell', inK, yE, yMy, yO4, yNm, yOa, reduceCtorEq, ne_eq, yOl, yN9]; done) | (simp [hg]; done) | (simp_all; done))
      | (simp only [yOd,yOe,yOf,yOg,yOh,yMv,yOi,yOj,yOk,imp_self,or_false,AV.freeL,AV.free,AV.oneL,AV.one,Value.oneCell',inK,yE,yMy,yO4,yNm,yOa,reduceCtorEq,ne_eq,yOl,yN9,yNj,yOn,yNl,yNk,yOo,yOp,yOq,yOm] at hg ⊢; omega)
      | (simp_all; done)
      | (simp_all; omega)) : p := h
theorem ob0 {p : Prop} (h : p := by first | (simp only [yOd,yOe,yOf,yOg,yOh,yMv,yOi,yOj,yOk,imp_self,or_false,AV.freeL,AV.free,AV.oneL,AV.one,Value.oneCell',inK,yE,yMy,yO4,yNm,yOa,reduceCtorEq,ne_eq,yOl,yN9]; done) | (simp only [yOd,yOe,yOf,yOg,yOh,yMv,yOi,yOj,yOk,imp_self,or_false,AV.freeL,AV.free,AV.oneL,AV.one,Value.oneCell',inK,yE,yMy,yO4,yNm,yOa,reduceCtorEq,ne_eq,yOl,yN9]; omega) | (simp; done) | (simp_all; done) | (simp_all; omega)) : p := h
theorem ob1 {p : Prop} (h : p := by first | (simp only [yOd, yOe, yOf, yOg, yOh, yMv, yOi, yOj, yOk, imp_self, or_false, AV.freeL, AV.free, AV.oneL, AV.one, Value.oneCell', inK, yE, yMy, yO4, yNm, yOa, reduceCtorEq, ne_eq, yOl, yN9]; done) | (simp [AV.oneL, AV.one, Value.oneCell', yE]; done) | fail) : p := h
section
variable {P : Program} {T : TT} {ops : Array Oper} {r : List Oper} {k : ASt → Prop} {nt nb : Nat} {sl : List (Nat × (Bool × AV))} {bx : List (List AV)} {rw : List zV} {ys : (Nat × List (List AV)) × List (List AV) × Bool} {o : Oper} {d : Nat}
theorem yKv {t : TypeId} {x : Operand} (hop : o.op = .box t x) (hg : o.guard = none) (hd : o.dst = some d) (hn : Nat.blt d nt = true)
    (h : ∃ y, (ASt.mk nt nb sl bx rw ys).ev x = some (true, y) ∧ AV.oneL ⟨nt, nb, sl, bx, rw, ys⟩ (yE y) ∧ ∃ m, bx.length = m ∧ ∃ bx', bx ++ [yE y] = bx' ∧ yZ P ops r k ⟨nt, nb, (d, (true, .box m 0)) :: sl, bx', rw, ys⟩) : yZ P ops (o :: r) k ⟨nt, nb, sl, bx, rw, ys⟩ := by
  obtain ⟨y, h1, h2, m, rfl, bx', rfl, h3⟩ := h
  exact zQy hop hg hd hn ⟨y, h1, h2, h3⟩
theorem zIv (hT : TOk P T) {t : TypeId} (hop : o.op = .alloc t) (hg : o.guard = none) (hd : o.dst = some d) (hn : Nat.blt d nt = true)
    (h : ∃ i, T t = some i ∧ ∃ m, bx.length = m ∧ ∃ bx', bx ++ [i.zero.map .raw] = bx' ∧ yZ P ops r k ⟨nt, nb, (d, (true, .box m 0)) :: sl, bx', rw, ys⟩) : yZ P ops (o :: r) k ⟨nt, nb, sl, bx, rw, ys⟩ := by
  obtain ⟨i, h1, m, rfl, bx', rfl, h3⟩ := h
  exact zL8 hT hop hg hd hn ⟨i, h1, h3⟩
theorem zD1 (hT : TOk P T) {t : TypeId} {p x : Operand} (hop : o.op = .store t p x) (hg : o.guard = none) (hd : o.dst = none)
    (h : ∃ b off, (ASt.mk nt nb sl bx rw ys).ev p = some (true, .box b off) ∧ ∃ cs, bx[b]? = some cs ∧ ∃ i, T t = some i ∧ ∃ y, (ASt.mk nt nb sl bx rw ys).ev x = some (true, y) ∧
      (AV.oneL ⟨nt, nb, sl, bx, rw, ys⟩ (yE y) ∧ (yE y).length = i.size ∧ off + i.size ≤ cs.length) ∧ ∃ bx', bx.set b (wT cs off (yE y)) = bx' ∧ yZ P ops r k ⟨nt, nb, sl, bx', rw, ys⟩) : yZ P ops (o :: r) k ⟨nt, nb, sl, bx, rw, ys⟩ := by
  obtain ⟨b, off, h1, cs, h2, i, h3, y, h4, h5, bx', rfl, h6⟩ := h
  exact zL6 hT hop hg hd ⟨b, off, h1, cs, h2, i, h3, y, h4, h5, h6⟩
end
theorem zUb {P : Program} {Q : Exit → ASt → Prop} {st : ASt} {x y : Code} (st1 : ASt) (h : wpA P x (zIl (fun s => xT s st1) Q) st) (h2 : wpA P y Q st1) : wpA P x (zIl (wpA P y Q) Q) st :=
  zMr h fun e s hq => by cases e <;> first | exact y6 hq h2 | exact hq
end Go.Proofs.YtioaahmkebojiaaGreatDoor
