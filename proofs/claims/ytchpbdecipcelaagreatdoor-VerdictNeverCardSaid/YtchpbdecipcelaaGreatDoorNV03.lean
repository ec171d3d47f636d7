import Derived.RangeFuncNested
import Derived.Test.YtchpbdecipcelaaGreatDoorNV02
namespace Go.Proofs.YtchpbdecipcelaaGreatDoor
set_option linter.unusedVariables false
set_option linter.unusedSimpArgs false
set_option maxHeartbeats 4000000
set_option maxRecDepth 100000
open Go.RowKit

structure SetTo (w : World) (blk : Nat) (vs : List Value) (T : TypeId) (w' : World) : Prop where
  os : w'.os = w.os
  tape : w'.tape = w.tape
  output : w'.output = w.output
  size : w'.heap.size = w.heap.size
  other : ∀ k, k ≠ blk → w'.heap[k]? = w.heap[k]?
  here : w'.heap[blk]? = some (.cells vs.toArray T (0, 0))

theorem setCell_to {w : World} {blk : Nat} {vs : List Value} {T : TypeId} (h : w.heap[blk]? = some (.cells vs.toArray T (0, 0))) (o : Nat) (u : Value) : SetTo w blk (vs.set o u) T (w.setCell ⟨blk, o, none⟩ u) := by
  refine ⟨rfl, rfl, rfl, by simp [World.setCell], fun k hk => Below.heap_setCell _ _ _ _ hk, ?_⟩
  simp [World.setCell, Array.getElem?_modify, h]
theorem SetTo.trans {w w' w'' : World} {blk : Nat} {vs us : List Value} {T T' : TypeId} (h : SetTo w blk vs T w') (h' : SetTo w' blk us T' w'') : SetTo w blk us T' w'' :=
  ⟨h'.os.trans h.os, h'.tape.trans h.tape, h'.output.trans h.output, h'.size.trans h.size, fun k hk => (h'.other k hk).trans (h.other k hk), h'.here⟩

theorem storeCells_run {P : Program} {blk off : Nat} {T : TypeId} {vs : List Value} : ∀ (us done : List Value) (w : World), w.heap[blk]? = some (.cells (putL vs off done).toArray T (0, 0)) → off + done.length + us.length ≤ vs.length → (∀ u ∈ us, u.oneCell' = true) →
    ∃ w', (storeCells ⟨blk, off, none⟩ us done.length).run P w = .ok () w' ∧ SetTo w blk (putL vs off (done ++ us)) T w'
  | [], done, w, h, _, _ => ⟨w, rfl, rfl, rfl, rfl, rfl, fun _ _ => rfl, by simpa using h⟩
  | u :: us, done, w, h, hl, h1 => by
    have hlen : (putL vs off done).length = vs.length := putL_length (by simp at hl; omega)
    have hu := h1 u (by simp)
    have hadd : (⟨blk, off, none⟩ : Addr).add done.length = ⟨blk, off + done.length, none⟩ := by
      unfold Addr.add; split
      · rename_i e; simp [e]
      · rfl
    have hc : w.cell? ⟨blk, off + done.length, none⟩ = some ((putL vs off done)[off + done.length]'(by simp at hl; omega)) := by
      simp only [World.cell?, h]
      simp
    have hf : w.frozen? ⟨blk, off + done.length, none⟩ = false := by simp [World.frozen?, h]
    have s1 := setCell_to h (off + done.length) u
    rw [← putL_snoc (by simp at hl; omega)] at s1
    obtain ⟨w', e1, e2⟩ := storeCells_run us (done ++ [u]) _ s1.here (by simp at hl ⊢; omega) (fun x hx => h1 x (by simp [hx]))
    refine ⟨w', ?_, ?_⟩
    · simp only [storeCells, Sem.run_bind, hadd]
      have : (store ⟨blk, off + done.length, none⟩ u).run P w = .ok () (w.setCell ⟨blk, off + done.length, none⟩ u) := by
        cases u <;> simp [Value.oneCell'] at hu <;> simp [store, Sem.run, hc, hf]
      rw [this]
      simpa using e1
    · have := s1.trans e2
      simpa using this

theorem msat_store {G : Gh} {w w' : World} {bx : List (List AV)} {rw' : List ARow} (h : MSat G w bx rw') {b blk : Nat} {cs cs' : List AV} {vs' : List Value} {T : TypeId} (hb : bx[b]? = some cs) (hg : G.bx[b]? = some blk)
    (hs : SetTo w blk vs' T w') (hr : AV.relL G w cs' vs') : MSat G w' (bx.set b cs') rw' ∧ G.Le w G w' := by
  obtain ⟨b2, vs, T0, b3, b4⟩ := h.box b cs blk hb hg
  have hcell : ∀ k o, k ≠ blk → w'.cell? ⟨k, o, none⟩ = w.cell? ⟨k, o, none⟩ := fun k o hk => World.cell?_of_block (w := w) (hs.other k hk)
  have hne : ∀ k o, G.imm k o → k ≠ blk := fun k o i e => b2 o (e ▸ i)
  have le : G.Le w G w' := ⟨fun _ _ i => i, fun k o i => hcell k o (hne k o i), fun _ _ h => h, fun _ e h => ⟨e, h, .inl rfl⟩⟩
  refine ⟨⟨fun k o i => by rw [hcell k o (hne k o i)]; exact h.immOk k o i, by simp [h.lenB], h.lenR, h.nodup, ?_, ?_, h.sepB, h.sepR⟩, le⟩
  · intro k ds blk' hk hg'
    rw [List.getElem?_set] at hk
    by_cases hbk : b = k
    · subst hbk
      rw [hg] at hg'
      cases hg'
      simp only [if_true] at hk
      split at hk
      · cases hk
        exact ⟨b2, vs', T, hs.here, AV.relL_mono le _ _ hr⟩
      · cases hk
    · rw [if_neg hbk] at hk
      obtain ⟨e2, us, T', e3, e4⟩ := h.box k ds blk' hk hg'
      have hbb : blk' ≠ blk := by
        intro e; subst e
        have hl1 : b < G.bx.length := (List.getElem?_eq_some_iff.1 hg).1
        exact hbk ((List.getElem?_inj hl1 h.nodup).1 (hg.trans hg'.symm))
      exact ⟨e2, us, T', by rw [hs.other _ hbb]; exact e3, AV.relL_mono le _ _ e4⟩
  · intro k r x hk hx
    have ro := h.row k r x hk hx
    obtain ⟨xs, ho, hel⟩ := ro.own
    refine ⟨ro.len, ⟨xs, ?_, fun i hi => ?_⟩, ro.imm⟩
    · refine ho.keep fun g h1 _ => hs.other g fun e => ?_
      subst e
      exact h.sepB k x g hx h1 (List.mem_of_getElem? hg)
    · obtain ⟨us, e1, e2⟩ := hel i hi
      exact ⟨us, AV.relL_mono le _ _ e1, e2⟩

section runs
variable {P : Program} {ops : Array Oper} {r : List Oper} {k : ASt → Prop} {st : ASt} {o : Oper}

theorem runS_store {T : TT} (hT : TOk P T) {t : TypeId} {i : TI} {p x : Operand} {y : AV} {b off : Nat} {cs : List AV} (hop : o.op = .store t p x) (hg : o.guard = none) (hd : o.dst = none) (hp : st.ev p = some (true, .box b off)) (hb : st.bx[b]? = some cs)
    (hi : T t = some i) (hx : st.ev x = some (true, y)) (h1 : AV.oneL st (cellsA y)) (hl : (cellsA y).length = i.size ∧ off + i.size ≤ cs.length)
    (h : runS P ops r k { st with bx := st.bx.set b (putL cs off (cellsA y)) }) : runS P ops (o :: r) k st := by
  intro C G a w Q hs hQ
  obtain ⟨blk, e1, e2⟩ := (evOk_of (x := p) fun t _ => hs.slot t) _ _ hp rfl
  have e3 := (evOk_of (x := x) fun t _ => hs.slot t) _ _ hx rfl
  have e4 := cells_rel h1 hs.mem e3
  have e5 := oneL_sound hs.mem h1 e4
  have hlen := AV.relL_length e4
  obtain ⟨_, vs, T0, e6, e7⟩ := hs.mem.box b cs blk hb e1
  have hl2 := AV.relL_length e7
  obtain ⟨w', e8, e9⟩ := storeCells_run (P := P) (off := off) (vs := vs) (a.eval x).cells.toList [] w (by
    have : putL vs off ([] : List Value) = vs := by
      have : ∀ (n : Nat) (l : List Value), putL l n ([] : List Value) = l := by
        intro n; induction n with
        | zero => intro l; cases l <;> rfl
        | succ n ih => intro l; cases l <;> simp [putL, ih]
      exact this _ _
    rw [this]; exact e6) (by simp only [List.length_nil]; omega) e5
  simp only [List.nil_append] at e9
  have hlen3 : (putL vs off (a.eval x).cells.toList).length = cs.length := by rw [putL_length (by omega)]; omega
  obtain ⟨m, le⟩ := msat_store hs.mem hb e1 e9 (relL_put e7 e4)
  have hbm : blk ∈ C.G0.bx ∨ C.w0.heap.size ≤ blk := hs.ownB blk (List.mem_of_getElem? e1)
  have hfr : Outside C.may C.w0 w' := ⟨e9.os.trans hs.frame.os, e9.tape.trans hs.frame.tape, e9.output.trans hs.frame.output, by rw [e9.size]; exact hs.frame.size, fun k hk hm =>
    (e9.other k fun e => by
      subst e
      rcases hbm with h | h
      · exact hm (.inr (.inl h))
      · omega).trans (hs.frame.block k hk hm)⟩
  have hco : ∃ D, EnvD C G a.defers st.ys D w' := by
    obtain ⟨D, hD⟩ := hs.env
    exact ⟨D, hD.step hs.mem le (fun _ _ i => .inl i) (fun _ h => .inl h) (fun x hx g hg => .inl ⟨x, hx, hg⟩) ⟨e9.os, e9.tape, e9.output, Nat.le_of_eq e9.size.symm, fun k _ hk => e9.other k fun e => hk (.inl (e ▸ List.mem_of_getElem? e1))⟩⟩
  refine wpListIn_plain hg fun K hK => ?_
  refine wpIn_of_run (fun c hc => by rw [hop] at hc; cases hc) ?_
  have hrun : (execOp a.eval o).run P w = .ok .skip w' := by
    obtain ⟨dst, op, type, pos, after, guard⟩ := o
    simp only at hop
    subst hop
    have hsz := (hT t i hi).size_run w
    simp only [execOp, Instr.storeAt, e2, Instr.sureAddr, Sem.run_bind, Sem.run_pure, Result.andThen_ok, storeVar, hsz]
    rw [if_neg (by simp only [Array.length_toList] at hlen; omega)]
    simp only [List.length_nil] at e8
    rw [e8]
    rfl
  rw [hrun, Oper.uponIn_skip, hd]
  refine hK _ _ (h C G a w' Q ⟨hs.size, hs.callers, hfr, hs.le.trans le, hs.fresh, hs.ownB, hs.ownR, hco, m, fun t c y hl => ?_⟩ hQ)
  obtain ⟨v, h1, h2, h3⟩ := hs.slot t c y hl
  exact ⟨v, h1, fun hc => AV.rel_mono le _ _ (h2 hc), h3⟩
end runs

def argSl : Nat → List AV → List (Nat × (Bool × AV))
  | _, [] => []
  | k, x :: xs => (k, (true, x)) :: argSl (k + 1) xs
theorem argSl_look {t c x} : ∀ {k : Nat} {xs : List AV}, lookN t (argSl k xs) = some (c, x) → ∃ j, t = k + j ∧ xs[j]? = some x ∧ c = true
  | k, y :: ys, h => by
    rw [argSl, lookN_cons] at h
    split at h
    · rename_i e; subst e; cases h; exact ⟨0, rfl, rfl, rfl⟩
    · obtain ⟨j, e1, e2, e3⟩ := argSl_look (k := k + 1) (xs := ys) h
      exact ⟨j + 1, by omega, by simpa using e2, e3⟩

def resA (T : TT) (st : ASt) : List ResultVar → Option (List (Bool × AV) × Prop)
  | [] => some ([], True)
  | .tmp t :: r => match st.look t, resA T st r with
    | some x, some (xs, p) => some (x :: xs, p)
    | _, _ => none
  | .cell a t :: r => match st.look a, T t, resA T st r with
    | some (g, .box b off), some i, some (xs, p) => match st.bx[b]? with
      | some cs => some ((g, cutA i.k.agg i.size cs off) :: xs, (0 < i.size ∧ off + i.size ≤ cs.length) ∧ p)
      | none => none
    | _, _, _ => none
def retA (T : TT) (st : ASt) (rs : List ResultVar) : Option (List Bool × AV × Prop) :=
  match resA T st rs with
  | some ([x], p) => some ([x.1], x.2, p)
  | some (xs, p) => some (xs.map (·.1), .tup (xs.map (·.2)), p)
  | none => none

def resRun (tmps : Array Value) : ResultVar → Sem Value
  | .tmp t => pure (tmps.getD t undef)
  | .cell a t => do loadVar t (← asAddr (tmps.getD a undef))

theorem resA_sound {P : Program} {T : TT} (hT : TOk P T) {C : Ctx P} {G : Gh} {a : Act} {w : World} {st : ASt} (hs : Sat C G a w st) : ∀ {rs : List ResultVar} {xs : List (Bool × AV)} {p : Prop}, resA T st rs = some (xs, p) → (∀ x ∈ xs, x.1 = true) → p →
    ∃ vs : List Value, AV.relL G w (xs.map (·.2)) vs ∧ (rs.mapM (resRun a.tmps)).run P w = .ok vs w
  | [], xs, p, h, _, _ => by simp only [resA, Option.some.injEq, Prod.mk.injEq] at h; obtain ⟨rfl, rfl⟩ := h; exact ⟨[], rfl, rfl⟩
  | .tmp t :: r, xs, p, h, hc, hp => by
    simp only [resA] at h
    split at h
    · rename_i x xs' p' h1 h2
      simp only [Option.some.injEq, Prod.mk.injEq] at h
      obtain ⟨rfl, rfl⟩ := h
      obtain ⟨v, e1, e2, _⟩ := hs.slot t x.1 x.2 h1
      obtain ⟨vs, e3, e4⟩ := resA_sound hT hs h2 (fun y hy => hc y (by simp [hy])) hp
      refine ⟨v :: vs, ⟨v, vs, rfl, e2 (hc x (by simp)), e3⟩, ?_⟩
      simp only [List.mapM_cons, Sem.run_bind, resRun, Sem.run_pure, Result.andThen_ok, e4, Array.getD_eq_getD_getElem?, e1, Option.getD_some]
    · cases h
  | .cell c t :: r, xs, p, h, hc, hp => by
    simp only [resA] at h
    split at h
    · rename_i g b off i xs' p' h1 h2 h3
      split at h
      · rename_i cs h4
        simp only [Option.some.injEq, Prod.mk.injEq] at h
        obtain ⟨rfl, rfl⟩ := h
        obtain ⟨v, e1, e2, _⟩ := hs.slot c _ _ h1
        obtain ⟨vs, e3, e4⟩ := resA_sound hT hs h3 (fun y hy => hc y (by simp [hy])) hp.2
        obtain ⟨blk, e5, rfl⟩ := e2 (hc (g, cutA i.k.agg i.size cs off) (by simp))
        obtain ⟨_, us, E, e6, e7⟩ := hs.mem.box _ _ _ h4 e5
        have hl := AV.relL_length e7
        have hload := load_run (P := P) (w := w) (hT _ _ h2) (b := blk) (o := 0) (off := off) (vs := us) hp.1.1 (by omega) (fun j u hj => by simpa [World.cell?, e6] using hj)
        rw [Nat.zero_add] at hload
        simp only [Instr.loadAt, Instr.sureAddr, Sem.run_bind, Sem.run_pure, Result.andThen_ok] at hload
        refine ⟨_ :: vs, ⟨_, vs, rfl, cutA_rel e7 hp.1.1 hp.1.2, e3⟩, ?_⟩
        simp only [List.mapM_cons, Sem.run_bind, resRun, Array.getD_eq_getD_getElem?, e1, Option.getD_some, asAddr, Sem.run_pure, Result.andThen_ok, hload, e4]
      · cases h
    · cases h

def Gh.all (G : Gh) (w : World) (b o : Nat) : Prop := G.imm b o ∨ (b ∈ G.bx ∧ (w.cell? ⟨b, o, none⟩).isSome = true)
def OutOk (st : ASt) (x r : AV) : Prop := ∀ (G : Gh) (w : World) (v : Value), MSat G w st.bx st.rw → x.rel G w v → r.rel ⟨G.all w, [], []⟩ w v
theorem OutOk.free {st : ASt} {x : AV} (h : x.free) : OutOk st x x := fun G w _ _ hr => AV.rel_free (G := G) (G' := ⟨G.all w, [], []⟩) (fun _ _ i => .inl i) _ _ h hr
def OutL (st : ASt) : List AV → List AV → Prop
  | [], rs => rs = []
  | x :: xs, rs => ∃ r rs', rs = r :: rs' ∧ OutOk st x r ∧ OutL st xs rs'
theorem OutL.rel {st : ASt} {G : Gh} {w : World} (hm : MSat G w st.bx st.rw) : ∀ {xs rs : List AV} {vs : List Value}, OutL st xs rs → AV.relL G w xs vs → AV.relL ⟨G.all w, [], []⟩ w rs vs
  | [], _, _, h, h' => by rw [show _ = [] from h]; exact h'
  | x :: xs, _, _, h, h' => by
    obtain ⟨r, rs, rfl, h1, h2⟩ := h
    obtain ⟨v, vs, rfl, h3, h4⟩ := h'
    exact ⟨v, vs, rfl, h1 _ _ _ hm h3, OutL.rel hm h2 h4⟩
theorem OutOk.box {st : ASt} {b off : Nat} {cs rs : List AV} (h : st.bx[b]? = some cs) (hr : OutL st cs rs) : OutOk st (.box b off) (.elt rs off) := by
  intro G w v hm hv
  obtain ⟨blk, h1, rfl⟩ := hv
  obtain ⟨_, vs, T, h2, h3⟩ := hm.box b cs blk h h1
  refine ⟨blk, 0, vs, by simp, OutL.rel hm hr h3, fun j u hj => ?_⟩
  have hc : w.cell? ⟨blk, 0 + j, none⟩ = some u := by simp [World.cell?, h2, hj]
  exact ⟨.inr ⟨List.mem_of_getElem? h1, by rw [hc]; rfl⟩, hc⟩
theorem OutOk.fn {st : ASt} {f : Fn} {first cap first' cap' : List AV} (h : OutL st first first') (h' : OutL st cap cap') : OutOk st (.fn f first cap) (.fn f first' cap') := by
  intro G w v hm hv
  obtain ⟨fs, cs, rfl, h1, h2⟩ := hv
  exact ⟨fs, cs, rfl, OutL.rel hm h h1, OutL.rel hm h' h2⟩

def retPost (T : TT) (rs : List ResultVar) (r : AV) (e : Exit) (st : ASt) : Prop :=
  (e = .normal ∨ e = .ret) ∧ ∃ cs x p, retA T st rs = some (cs, x, p) ∧ (∀ c ∈ cs, c = true) ∧ p ∧ OutOk st x r

def entrySt (n : Nat) (args : List AV) : ASt := { nt := n, nb := 0, sl := argSl 0 args, bx := [], rw := [], ys := ((0, []), [], true) }

theorem results_run {P : Program} {fn : Func} {tmps : Array Value} {w : World} {vs : List Value} (h : (fn.results.toList.mapM (resRun tmps)).run P w = .ok vs w) :
    (results fn tmps).run P w = .ok (match vs with | [v] => v | vs => .tuple vs.toArray) w := by
  obtain ⟨l, hl⟩ : ∃ l : List ResultVar, fn.results = l.toArray := ⟨fn.results.toList, by simp⟩
  have e : results fn tmps = (do let vs ← (l.toArray.mapM (resRun tmps)); pure (if h : vs.size = 1 then vs[0] else .tuple vs) : Sem Value) := by
    unfold results
    rw [hl]
    rfl
  rw [hl] at h
  simp only [List.toList_toArray] at h
  rw [e, List.mapM_toArray, Sem.run_bind, Sem.run_map, h]
  simp only [Result.andThen_ok, Sem.run_pure]
  match vs with
  | [] => rfl
  | [v] => rfl
  | _ :: _ :: _ => rfl

theorem MSat.imm_ne {bx : List (List AV)} {rw' : List ARow} {G : Gh} {w : World} (h : MSat G w bx rw') {m b i : Nat} {o : Obj} (hm : w.heap[m]? = some o) (ho : cellsO o = false) (hi : G.imm b i) : b ≠ m := by
  intro e; subst e
  have := h.immOk b i hi
  unfold World.cell? at this
  simp only [hm] at this
  cases o <;> first | (simp at this; done) | (cases ho)
theorem msat_non {bx : List (List AV)} {rw' : List ARow} {G : Gh} {w : World} (h : MSat G w bx rw') {m : Nat} {o : Obj} (o' : Obj) (hm : w.heap[m]? = some o) (ho : cellsO o = false) : MSat G (w.putObj m o') bx rw' ∧ G.Le w G (w.putObj m o') := by
  refine msat_keep (w' := w.putObj m o') h G.imm (fun k hk => World.putObj_heap_other fun e => h.not_box hm ho (e ▸ hk)) (fun k g x hk hg => World.putObj_heap_other fun e => h.not_row hm ho x (List.mem_of_getElem? hk) (e ▸ hg)) (fun b i hi => World.cell?_of_block (w := w) (World.putObj_heap_other (h.imm_ne hm ho hi))) (fun _ _ i => i) (fun _ _ i => .inl i) fun b i hi => ?_
  rw [World.cell?_of_block (w := w) (World.putObj_heap_other (h.imm_ne hm ho hi))]
  exact h.immOk b i hi
theorem EnvD.non {P : Program} {C : Ctx P} {G : Gh} {ds ds' : List Deferred} {ys : (Nat × List (List AV)) × List (List AV) × Bool} {D : Nat → Prop} {w : World} {bx : List (List AV)} {rw' : List ARow} (e : EnvD C G ds ys D w) (h : MSat G w bx rw') {m : Nat} {o : Obj} (o' : Obj) (hm : w.heap[m]? = some o) (ho : cellsO o = false) (hD : ¬ D m) (hr : C.round = some m → ∃ L, o' = .loop L)
    (hds : ∃ l : List Nat, ds' = l.map mark ∧ l.Nodup ∧ ∀ k ∈ l, k ≠ m ∧ w.heap[k]? = some (.deferred (some [])) ∧ ¬ D k ∧ C.w0.heap.size ≤ k) : EnvD C G ds' ys D (w.putObj m o') := by
  obtain ⟨_, le⟩ := msat_non h o' hm ho
  refine ⟨e.l, C.stable _ _ _ _ _ _ _ e.cons ⟨rfl, rfl, rfl, by simp, fun k _ hk => World.putObj_heap_other fun e' => hk (e' ▸ hD)⟩ (fun b o i => ⟨i, le.cell b o i⟩), e.sub, fun k hk => by simpa using e.lt k hk, e.bx, e.rw, e.imm, ?_, fun r hr' => ?_⟩
  rotate_left
  · obtain ⟨⟨L, hL⟩, h2⟩ := e.record r hr'
    refine ⟨?_, h2⟩
    by_cases hrm : r = m
    · subst hrm
      obtain ⟨L', rfl⟩ := hr hr'
      exact ⟨L', World.putObj_heap_same (Array.getElem?_eq_some_iff.1 hm).1⟩
    · exact ⟨L, (World.putObj_heap_other hrm).trans hL⟩
  obtain ⟨l, h1, h2, h3⟩ := hds
  exact ⟨l, h1, h2, fun k hk => ⟨(World.putObj_heap_other (h3 k hk).1).trans (h3 k hk).2.1, (h3 k hk).2.2⟩⟩
theorem Sat.non {P : Program} {C : Ctx P} {G : Gh} {a a' : Act} {w : World} {st : ASt} (hs : Sat C G a w st) {m : Nat} {o : Obj} (o' : Obj) (hm : w.heap[m]? = some o) (ho : cellsO o = false) (hge : C.w0.heap.size ≤ m) (ha : a'.tmps = a.tmps)
    (he : ∃ D, EnvD C G a'.defers st.ys D (w.putObj m o')) : Sat C G a' (w.putObj m o') st := by
  obtain ⟨hm', le⟩ := msat_non hs.mem o' hm ho
  refine ⟨ha ▸ hs.size, hs.callers, ⟨hs.frame.os, hs.frame.tape, hs.frame.output, by simpa using hs.frame.size, fun k hk h => (World.putObj_heap_other (by omega)).trans (hs.frame.block k hk h)⟩, hs.le.trans le, hs.fresh, hs.ownB, hs.ownR, he, hm', fun t c x hl => ?_⟩
  · obtain ⟨v, h1, h2, h3⟩ := hs.slot t c x hl
    exact ⟨v, by rw [ha]; exact h1, fun hc => AV.rel_mono le _ _ (h2 hc), h3⟩
theorem Sat.leaves {P : Program} {C : Ctx P} {G : Gh} {st : ASt} {fn : Func} {F : Fence} {n : Nat} {tmps : Array Value} {R : Ending → World → Prop} (hR : ∀ w', Sat C G ⟨tmps, []⟩ w' st → ∃ v, (results fn tmps).run P w' = .ok v w' ∧ R (.returned v) w') :
    ∀ (l : List Nat) (w : World), Sat C G ⟨tmps, l.map mark⟩ w st → LeavesInM F n P fn tmps R (l.map mark) .returning w
  | [], w, hs => hR w hs
  | m :: l, w, hs => by
    obtain ⟨D, hD⟩ := hs.env
    obtain ⟨l', h1, h2, h3⟩ := hD.marks
    have : l' = m :: l := ((List.map_inj_right (f := mark) (fun x y h => by simpa [mark] using h)).1 h1).symm
    subst this
    obtain ⟨h4, h5, h6⟩ := h3 m (by simp)
    refine ⟨by simp, .inl ⟨m, _, rfl, run_takeDeferred h4, Sat.leaves hR l _ ?_⟩⟩
    refine hs.non _ h4 rfl h6 rfl ⟨D, hD.non hs.mem _ h4 rfl h5 (fun hr => by obtain ⟨⟨L, hL⟩, _⟩ := hD.record m hr; rw [h4] at hL; cases hL) ⟨l, rfl, (List.nodup_cons.1 h2).2, fun k hk => ⟨fun e => (List.nodup_cons.1 h2).1 (e ▸ hk), h3 k (by simp [hk])⟩⟩⟩
theorem fnA_of {P : Program} {T : TT} (hT : TOk P T) {f : FuncId} {fn : Func} {c : Code} {args : List AV} {r : AV} (hf : P.funcs[f]? = some fn) (hb : fn.body = some c) (hnm : (fn.name == "runtime.NumGoroutine") = false) (n : Nat) (hn : fn.ntmps = n) (hlen : args.length ≤ n) (rs : List ResultVar) (hrs : fn.results.toList = rs)
    (h : wpA P c (retPost T rs r) (entrySt n args)) : FnA P f args r := by
  subst hrs
  refine ⟨⟨fn, hf, hnm, by rw [hb]; rfl⟩, fun imm w vs htb hi hr => ?_⟩
  have hvl := AV.relL_length hr
  let C : Ctx P := ⟨none, (0, []), tabBlk P, W0 P w, imm, ⟨imm, [], []⟩, w, fun _ _ i => i, W0_stable htb, W0_y, W0_tabs htb⟩
  have hs : Sat C ⟨imm, [], []⟩ { tmps := vs.toArray ++ Array.replicate (fn.ntmps - vs.toArray.size) undef, defers := [] } w (entrySt n args) := by
    refine ⟨by simp [entrySt, hn]; omega, ⟨by show (0 : Nat) = 0 % 64; rfl, by show (0 : Nat) = 0 / 64; rfl⟩, Outside.refl _ _, Gh.Le.refl _ _, fun _ _ i => .inl i, fun _ h => by simp at h, fun _ h => by simp at h, ⟨tabBlk P, rfl, ⟨rfl, fun _ => Iff.rfl, fun _ _ => rfl⟩, fun _ h => .inl h, fun _ h => htb.lt h, fun _ h => by simp at h, fun _ h => by simp at h, fun _ _ i => .inl i, ⟨[], rfl, by simp, fun _ h => by simp at h⟩, fun _ h => by cases h⟩, ⟨hi, rfl, rfl, by simp, fun k cs blk hk _ => by simp [entrySt] at hk, fun k r x hk _ => by simp [entrySt] at hk, fun k x g hk _ => by simp at hk, fun k k' x x' g hk _ _ _ => by simp at hk⟩, ?_⟩
    intro t c x hl
    obtain ⟨j, e1, e2, rfl⟩ := argSl_look hl
    obtain ⟨v, e3, e4⟩ := AV.relL_get hr e2
    have hj : j < vs.length := (List.getElem?_eq_some_iff.1 e3).1
    refine ⟨v, ?_, fun _ => e4, fun h => by cases h⟩
    rw [show t = j from by omega, Array.getElem?_append_left (by simpa using hj)]
    simpa using e3
  refine callsIn_wide.1 (callsIn_of_wp_marks (n := 0) hf hb trivial (wpIn_mono (h _ _ _ _ hs) ?_))
  rintro e a' w1 ⟨G', st', hs1, he, cs, x, p, h1, h2, hp, h3⟩
  obtain ⟨tm, df⟩ := a'
  obtain ⟨D1, hD1⟩ := hs1.env
  obtain ⟨ml, hml, _⟩ := hD1.marks
  simp only at hml
  subst hml
  have fin := Sat.leaves (F := Fence.wide) (n := 0) (fn := fn) (tmps := tm) (R := fun e w' => ∃ v imm', e = .returned v ∧ Below w.heap.size w w' ∧ (∀ b o, imm b o → imm' b o) ∧ (∀ b o, imm' b o → imm b o ∨ w.heap.size ≤ b) ∧
      (∀ b o, imm' b o → (w'.cell? ⟨b, o, none⟩).isSome = true) ∧ r.rel ⟨imm', [], []⟩ w' v) (fun w' hs' => by
    have key : ∃ v, (results fn tm).run P w' = .ok v w' ∧ x.rel G' w' v := by
      unfold retA at h1
      split at h1
      · rename_i y p' hy
        simp only [Option.some.injEq, Prod.mk.injEq] at h1
        obtain ⟨rfl, rfl, rfl⟩ := h1
        obtain ⟨us, e1, e2⟩ := resA_sound (P := P) hT hs' hy (fun z hz => h2 z.1 (by simp at hz; subst hz; simp)) hp
        obtain ⟨v, us', rfl, e3, e4⟩ := e1
        rw [show us' = [] from e4] at e2
        exact ⟨v, by rw [results_run e2], e3⟩
      · rename_i ys p' hys hy
        simp only [Option.some.injEq, Prod.mk.injEq] at h1
        obtain ⟨rfl, rfl, rfl⟩ := h1
        obtain ⟨us, e1, e2⟩ := resA_sound (P := P) hT hs' hy (fun z hz => h2 z.1 (List.mem_map.2 ⟨z, hz, rfl⟩)) hp
        refine ⟨.tuple us.toArray, ?_, us, rfl, e1⟩
        rw [results_run e2]
        have hl := AV.relL_length e1
        rw [List.length_map] at hl
        split
        · rename_i v
          exfalso
          match ys, hl with
          | [z], _ => exact hys z rfl
        · rfl
      · cases h1
    have hbel : Below w.heap.size w w' := ⟨hs'.frame.os, hs'.frame.tape, hs'.frame.output, hs'.frame.size, fun k hk => (Classical.em (tabBlk P k)).elim (fun ht => let ⟨_, e⟩ := hs'.env; e.cons.2.2 k ht) fun ht => hs'.frame.block k hk fun hm => by
      rcases hm with hm | hm | ⟨x, hx, _⟩
      · exact ht hm
      · simp [C] at hm
      · simp [C] at hx⟩
    obtain ⟨v, k2, k3⟩ := key
    refine ⟨v, k2, v, G'.all w', rfl, hbel, fun b o i => .inl (hs'.le.imm b o i), fun b o i => ?_, fun b o i => ?_, h3 _ _ _ hs'.mem k3⟩
    · rcases i with i | ⟨i, _⟩
      · rcases hs'.fresh b o i with i | i | ⟨x, hx, _⟩
        · exact .inl i
        · exact .inr i
        · simp [C] at hx
      · exact (hs'.ownB b i).elim (fun h => by simp [C] at h) .inr
    · rcases i with i | ⟨_, i⟩
      · exact hs'.mem.immOk b o i
      · exact i) ml w1 hs1
  rcases he with rfl | rfl <;> exact fin

section walk
variable {P : Program} {Q : Exit → ASt → Prop} {k : ASt → Prop} {st : ASt}
theorem thenA_n (h : k st) : thenA k Q .normal st := h
theorem thenA_r (h : Q .ret st) : thenA k Q .ret st := h
theorem thenA_e {i : Nat} (h : Q (.exit i) st) : thenA k Q (.exit i) st := h
theorem inBlockA_n {id : Nat} (h : Q .normal st) : inBlockA id Q .normal st := h
theorem inBlockA_r {id : Nat} (h : Q .ret st) : inBlockA id Q .ret st := h
theorem inBlockA_hit {id : Nat} (h : Q .normal st) : inBlockA id Q (.exit id) st := by
  show bif Nat.beq id id then _ else _
  rw [Nat.beq_refl]; exact h
theorem inBlockA_miss {id i : Nat} (hb : Nat.beq i id = false) (h : Q (.exit i) st) : inBlockA id Q (.exit i) st := by
  show bif Nat.beq i id then _ else _
  rw [hb]; exact h
theorem wpA_seq' {x y : Code} (h : wpA P x (thenA (wpA P y Q) Q) st) : wpA P (.seq x y) Q st :=
  wpA_seq fun _ hK => wpA_mono h fun e s hq => by cases e <;> first | exact hK _ hq | exact hq
theorem wpA_cond' {x y : Code} {c : Operand} (h : ∃ b, st.ev c = some (true, .raw (.bool b)) ∧ (b = true → wpA P x Q st) ∧ (b = false → wpA P y Q st)) : wpA P (.cond c x y) Q st :=
  let ⟨_, h1, h2, h3⟩ := h
  wpA_cond h1 h2 h3
theorem ret_of {T : TT} {rs : List ResultVar} {r : AV} {e : Exit} (he : e = .normal ∨ e = .ret) (h : ∃ cs x p, retA T st rs = some (cs, x, p) ∧ ((∀ c ∈ cs, c = true) ∧ p) ∧ OutOk st x r) : retPost T rs r e st :=
  let ⟨cs, x, p, h1, h2, h3⟩ := h
  ⟨he, cs, x, p, h1, h2.1, h2.2, h3⟩
theorem OutOk.eq {x r : AV} (h : x = r) (hf : x.free) : OutOk st x r := h ▸ OutOk.free hf
end walk

section steps
variable {P : Program} {T : TT} {ops : Array Oper} {r : List Oper} {k : ASt → Prop} {nt nb : Nat} {sl : List (Nat × (Bool × AV))} {bx : List (List AV)} {rw : List ARow} {ys : (Nat × List (List AV)) × List (List AV) × Bool} {st' : ASt} {o : Oper} {d : Nat}
theorem runS_pure (hT : TOk P T) (hd : o.dst = some d) (hn : Nat.blt d nt = true)
    (h : ∃ g, guardA ops ⟨nt, nb, sl, bx, rw, ys⟩ o = some g ∧ ∃ cs x p, opA T ⟨nt, nb, sl, bx, rw, ys⟩ o.op = some (cs, x, p) ∧ (g = true → (∀ c ∈ cs, c = true) ∧ p) ∧ runS P ops r k ⟨nt, nb, (d, (g, x)) :: sl, bx, rw, ys⟩) : runS P ops (o :: r) k ⟨nt, nb, sl, bx, rw, ys⟩ :=
  let ⟨_, hg, _, _, _, h, hp, hk⟩ := h
  runS_op hd (opSpec_pure hT hg h hp) hn hk
theorem runS_mk (hT : TOk P T) (hd : o.dst = some d) (hn : Nat.blt d nt = true)
    (h : ∃ g, guardA ops ⟨nt, nb, sl, bx, rw, ys⟩ o = some g ∧ ∃ cs x p, mkA T ⟨nt, nb, sl, bx, rw, ys⟩ o.op = some (cs, x, p) ∧ (g = true → (∀ c ∈ cs, c = true) ∧ p) ∧ runS P ops r k ⟨nt, nb, (d, (g, x)) :: sl, bx, rw, ys⟩) : runS P ops (o :: r) k ⟨nt, nb, sl, bx, rw, ys⟩ :=
  let ⟨_, hg, _, _, _, h, hp, hk⟩ := h
  runS_op hd (opSpec_mk hT hg h hp) hn hk
theorem runS_call (hd : o.dst = some d) (hn : Nat.blt d nt = true)
    (h : ∃ g, guardA ops ⟨nt, nb, sl, bx, rw, ys⟩ o = some g ∧ ∃ cs f args, callA ⟨nt, nb, sl, bx, rw, ys⟩ o.op = some (cs, f, args) ∧ (g = true → (∀ c ∈ cs, c = true) ∧ AV.freeL args) ∧ ∃ x, (g = true → FnA P f args x) ∧ runS P ops r k ⟨nt, nb, (d, (g, x)) :: sl, bx, rw, ys⟩) : runS P ops (o :: r) k ⟨nt, nb, sl, bx, rw, ys⟩ :=
  let ⟨_, hg, _, _, _, h, hp, _, hf, hk⟩ := h
  runS_op hd (opSpec_call hg h hp hf) hn hk
theorem runS_box' {t : TypeId} {x : Operand} (hop : o.op = .box t x) (hg : o.guard = none) (hd : o.dst = some d) (hn : Nat.blt d nt = true)
    (h : ∃ y, (ASt.mk nt nb sl bx rw ys).ev x = some (true, y) ∧ AV.oneL ⟨nt, nb, sl, bx, rw, ys⟩ (cellsA y) ∧ runS P ops r k ⟨nt, nb, (d, (true, .box bx.length 0)) :: sl, bx ++ [cellsA y], rw, ys⟩) : runS P ops (o :: r) k ⟨nt, nb, sl, bx, rw, ys⟩ :=
  let ⟨_, h1, h2, h3⟩ := h
  runS_box (T := fun _ => none) hop hg hd h1 h2 hn h3
theorem runS_alloc' (hT : TOk P T) {t : TypeId} (hop : o.op = .alloc t) (hg : o.guard = none) (hd : o.dst = some d) (hn : Nat.blt d nt = true)
    (h : ∃ i, T t = some i ∧ runS P ops r k ⟨nt, nb, (d, (true, .box bx.length 0)) :: sl, bx ++ [i.zero.map .raw], rw, ys⟩) : runS P ops (o :: r) k ⟨nt, nb, sl, bx, rw, ys⟩ :=
  let ⟨_, h1, h2⟩ := h
  runS_alloc hT hop hg hd h1 hn h2
theorem runS_store' (hT : TOk P T) {t : TypeId} {p x : Operand} (hop : o.op = .store t p x) (hg : o.guard = none) (hd : o.dst = none)
    (h : ∃ b off, (ASt.mk nt nb sl bx rw ys).ev p = some (true, .box b off) ∧ ∃ cs, bx[b]? = some cs ∧ ∃ i, T t = some i ∧ ∃ y, (ASt.mk nt nb sl bx rw ys).ev x = some (true, y) ∧
      (AV.oneL ⟨nt, nb, sl, bx, rw, ys⟩ (cellsA y) ∧ (cellsA y).length = i.size ∧ off + i.size ≤ cs.length) ∧ runS P ops r k ⟨nt, nb, sl, bx.set b (putL cs off (cellsA y)), rw, ys⟩) : runS P ops (o :: r) k ⟨nt, nb, sl, bx, rw, ys⟩ :=
  let ⟨_, _, h1, _, h2, _, h3, _, h4, h5, h6⟩ := h
  runS_store hT hop hg hd h1 h2 h3 h4 h5.1 h5.2 h6
end steps

mutual
/-- Only the first m own variables are needed. -/
def AV.bel (m : Nat) : AV → Prop
  | .raw _ => True
  | .agg cs => AV.belL m cs
  | .tup cs => AV.belL m cs
  | .lst _ n el => ∀ i, i < n → AV.belL m (el i)
  | .elt cs _ => AV.belL m cs
  | .box b _ => b < m
  | .fn _ first cap => AV.belL m first ∧ AV.belL m cap
  | .row _ _ => True
  | .bsl _ b _ _ _ => b < m
  | .ifc _ x => AV.bel m x
  | .ful x => AV.bel m x
def AV.belL (m : Nat) : List AV → Prop
  | [] => True
  | c :: cs => AV.bel m c ∧ AV.belL m cs
end
mutual
theorem AV.rel_bel {G G' : Gh} {w : World} {m : Nat} (h0 : ∀ b o, G.imm b o → G'.imm b o) (hb : ∀ (k x : Nat), k < m → G.bx[k]? = some x → G'.bx[k]? = some x) (hr : G'.rw = G.rw) : ∀ (x : AV) (v : Value), x.bel m → x.rel G w v → x.rel G' w v
  | .raw _, _, _, h => h
  | .agg cs, _, f, h => by
    obtain ⟨vs, e, h⟩ := h
    exact ⟨vs, e, AV.relL_bel h0 hb hr cs vs f h⟩
  | .tup cs, _, f, h => by
    obtain ⟨vs, e, h⟩ := h
    exact ⟨vs, e, AV.relL_bel h0 hb hr cs vs f h⟩
  | .lst sz n el, _, f, h => by
    obtain ⟨A, cap, e, h1, h2, h3⟩ := h
    refine ⟨A, cap, e, h1, h2, fun hn => ?_⟩
    obtain ⟨b, o, hA, h4⟩ := h3 hn
    refine ⟨b, o, hA, fun i hi => ?_⟩
    obtain ⟨vs, h5, h6, h7⟩ := h4 i hi
    exact ⟨vs, AV.relL_bel h0 hb hr (el i) vs (f i hi) h5, h6, fun j u hj => ⟨h0 _ _ (h7 j u hj).1, (h7 j u hj).2⟩⟩
  | .elt cs off, _, f, h => by
    obtain ⟨b, o, vs, e, h1, h2⟩ := h
    exact ⟨b, o, vs, e, AV.relL_bel h0 hb hr cs vs f h1, fun j u hj => ⟨h0 _ _ (h2 j u hj).1, (h2 j u hj).2⟩⟩
  | .box b off, _, f, h => by
    obtain ⟨blk, h1, h2⟩ := h
    exact ⟨blk, hb _ _ f h1, h2⟩
  | .fn _ first cap, _, f, h => by
    obtain ⟨fs, cs, e, h1, h2⟩ := h
    exact ⟨fs, cs, e, AV.relL_bel h0 hb hr first fs f.1 h1, AV.relL_bel h0 hb hr cap cs f.2 h2⟩
  | .row k n, _, f, h => by
    obtain ⟨e, h1, h2⟩ := h
    exact ⟨e, by rw [hr]; exact h1, h2⟩
  | .bsl _ b off n cap, _, f, h => by
    obtain ⟨blk, A, h1, h2⟩ := h
    exact ⟨blk, A, hb _ _ f h1, h2⟩
  | .ifc t x, _, f, h => by
    obtain ⟨u, e, h⟩ := h
    exact ⟨u, e, AV.rel_bel h0 hb hr x u f h⟩
  | .ful x, v, f, h => ⟨AV.rel_bel h0 hb hr x v f h.1, h.2⟩
theorem AV.relL_bel {G G' : Gh} {w : World} {m : Nat} (h0 : ∀ b o, G.imm b o → G'.imm b o) (hb : ∀ (k x : Nat), k < m → G.bx[k]? = some x → G'.bx[k]? = some x) (hr : G'.rw = G.rw) : ∀ (xs : List AV) (vs : List Value), AV.belL m xs → AV.relL G w xs vs → AV.relL G' w xs vs
  | [], _, _, h => h
  | x :: xs, _, f, h => by
    obtain ⟨v, r, e, h1, h2⟩ := h
    exact ⟨v, r, e, AV.rel_bel h0 hb hr x v f.1 h1, AV.relL_bel h0 hb hr xs r f.2 h2⟩
end

def SubSl : List (Nat × (Bool × AV)) → List (Nat × (Bool × AV)) → Prop
  | [], _ => True
  | (t, e) :: r, sl => lookN t sl = some e ∧ SubSl r sl
theorem SubSl.look {t : Nat} {e : Bool × AV} {sl : List (Nat × (Bool × AV))} : ∀ {sl' : List (Nat × (Bool × AV))}, SubSl sl' sl → lookN t sl' = some e → lookN t sl = some e
  | (u, x) :: r, h, hl => by
    rw [lookN_cons] at hl
    split at hl
    · rename_i e'; subst e'; cases hl; exact h.1
    · exact SubSl.look h.2 hl
theorem Weak.sl {nt nb : Nat} {sl sl' : List (Nat × (Bool × AV))} {bx : List (List AV)} {rw : List ARow} {ys : (Nat × List (List AV)) × List (List AV) × Bool} (h : SubSl sl' sl) : Weak ⟨nt, nb, sl, bx, rw, ys⟩ ⟨nt, nb, sl', bx, rw, ys⟩ :=
  fun _ _ G _ _ hs => ⟨G, hs.size, hs.callers, hs.frame, hs.le, hs.fresh, hs.ownB, hs.ownR, hs.env, hs.mem, fun t c x hl => hs.slot t c x (h.look hl)⟩
def belS (m : Nat) : List (Nat × (Bool × AV)) → Prop
  | [] => True
  | (_, (_, x)) :: r => x.bel m ∧ belS m r
theorem belS.look {m t : Nat} {c : Bool} {x : AV} : ∀ {sl : List (Nat × (Bool × AV))}, belS m sl → lookN t sl = some (c, x) → x.bel m
  | (u, (_, y)) :: r, h, hl => by
    rw [lookN_cons] at hl
    split at hl
    · cases hl; exact h.1
    · exact belS.look h.2 hl
def belB (m : Nat) : List (List AV) → Prop
  | [] => True
  | cs :: r => AV.belL m cs ∧ belB m r
theorem belB.get {m k : Nat} {cs : List AV} : ∀ {bx : List (List AV)}, belB m bx → bx[k]? = some cs → AV.belL m cs := by
  induction k with
  | zero => intro bx h hk; cases bx with
    | nil => cases hk
    | cons x r => simp only [List.getElem?_cons_zero, Option.some.injEq] at hk; subst hk; exact h.1
  | succ k ih => intro bx h hk; cases bx with
    | nil => cases hk
    | cons x r => exact ih h.2 (by simpa using hk)
theorem Weak.bx {nt nb : Nat} {sl : List (Nat × (Bool × AV))} {bx ex : List (List AV)} {ys : (Nat × List (List AV)) × List (List AV) × Bool} (h : nb % 64 ≤ bx.length ∧ belS bx.length sl ∧ belB bx.length bx) : Weak ⟨nt, nb, sl, bx ++ ex, [], ys⟩ ⟨nt, nb, sl, bx, [], ys⟩ := by
  intro P C G a w hs
  obtain ⟨hnb, h⟩ := h
  have hc : C.G0.bx.length ≤ bx.length := by rw [hs.callers.1]; exact hnb
  have hlen := hs.mem.lenB
  simp only [List.length_append] at hlen
  have hg : ∀ (k x : Nat), k < bx.length → G.bx[k]? = some x → (G.bx.take bx.length)[k]? = some x := fun k x hk hx => by rw [List.getElem?_take, if_pos hk]; exact hx
  have hg' : ∀ (k x : Nat), (G.bx.take bx.length)[k]? = some x → G.bx[k]? = some x ∧ k < bx.length := fun k x hx => by
    rw [List.getElem?_take] at hx
    split at hx
    · rename_i h; exact ⟨hx, h⟩
    · cases hx
  refine ⟨⟨G.imm, G.bx.take bx.length, G.rw⟩, hs.size, hs.callers, hs.frame, ⟨hs.le.imm, hs.le.cell, fun k x hx => ?_, hs.le.rw⟩, hs.fresh, fun blk hm => hs.ownB blk (List.mem_of_mem_take hm), hs.ownR, ⟨hs.env.choose, hs.env.choose_spec.l, hs.env.choose_spec.cons, hs.env.choose_spec.sub, hs.env.choose_spec.lt, fun k hk => hs.env.choose_spec.bx k (List.mem_of_mem_take hk), hs.env.choose_spec.rw, hs.env.choose_spec.imm, hs.env.choose_spec.marks, hs.env.choose_spec.record⟩, ⟨hs.mem.immOk, by simp; omega, hs.mem.lenR, hs.mem.nodup.sublist (List.take_sublist _ _), fun k cs blk hk hb => ?_, fun k r x hk _ => by simp at hk, fun k x g hk hg2 hm => hs.mem.sepB k x g hk hg2 (List.mem_of_mem_take hm), hs.mem.sepR⟩, fun t c x hl => ?_⟩
  · exact hg k x (by have := (List.getElem?_eq_some_iff.1 hx).1; omega) (hs.le.bx k x hx)
  · obtain ⟨h1, h2⟩ := hg' k blk hb
    obtain ⟨e2, vs, T, e3, e4⟩ := hs.mem.box k cs blk (by rw [List.getElem?_append_left h2]; exact hk) h1
    exact ⟨e2, vs, T, e3, AV.relL_bel (G := G) (G' := ⟨G.imm, G.bx.take bx.length, G.rw⟩) (fun _ _ i => i) hg rfl _ _ (h.2.get hk) e4⟩
  · obtain ⟨v, h1, h2, h3⟩ := hs.slot t c x hl
    exact ⟨v, h1, fun hc => AV.rel_bel (G := G) (G' := ⟨G.imm, G.bx.take bx.length, G.rw⟩) (fun _ _ i => i) hg rfl _ _ (h.1.look hl) (h2 hc), h3⟩
theorem Weak.mk {nt nb : Nat} {sl sl' : List (Nat × (Bool × AV))} {bx bx' ex : List (List AV)} {ys : (Nat × List (List AV)) × List (List AV) × Bool} (hb : bx = bx' ++ ex) (h : SubSl sl' sl) (h2 : nb % 64 ≤ bx'.length ∧ belS bx'.length sl' ∧ belB bx'.length bx') :
    Weak ⟨nt, nb, sl, bx, [], ys⟩ ⟨nt, nb, sl', bx', [], ys⟩ := by
  subst hb
  exact (Weak.sl h).trans (Weak.bx h2)
end Go.Proofs.YtchpbdecipcelaaGreatDoor
namespace Go.Proofs.YtchpbdecipcelaaGreatDoor
set_option linter.unusedVariables false
set_option linter.unusedSimpArgs false
set_option maxHeartbeats 4000000
set_option maxRecDepth 100000
open Go.RowKit

section yields
variable {P : Program} {C : Ctx P} {G : Gh} {a : Act} {w : World} {nt nb : Nat} {sl : List (Nat × (Bool × AV))} {bx : List (List AV)} {rw : List ARow} {l : Nat} {items : List (List AV)} {h : List (List AV)} {item : List AV}
theorem Sat.yield {vs : List Value} (hs : Sat C G a w ⟨nt, nb, sl, bx, rw, ((l, items), h, false)⟩) (hf : AV.freeL item) (hr : AV.relL G w item vs) (hp : (h ++ [item]) <+: items) (ro : Option Nat) :
    ∃ f tmps assign body, (Instr.yield l vs.toArray).run P w = .ok (.round l f tmps assign body) w ∧
      RoundIn (fen ro) 0 P l f tmps assign body w fun e w' => ∃ b, e = .returned (.bool b) ∧ Sat C G a w' ⟨nt, nb, sl, bx, rw, ((l, items), h ++ [item], !b)⟩ := by
  obtain ⟨D, e⟩ := hs.env
  have hl : C.l = (l, items) := e.l
  obtain ⟨f, tmps, assign, body, h1, h2⟩ := C.y ro h item G.imm D w vs e.cons (by rw [hl]; exact hp) e.lt (fun b o i => ⟨hs.mem.immOk b o i, e.imm b o i⟩) (fun b o i => hs.le.imm b o (C.base b o i)) (AV.relL_free (G := G) (G' := ⟨G.imm, [], []⟩) (fun _ _ i => i) _ _ hf hr)
  rw [hl] at h1 h2
  refine ⟨f, tmps, assign, body, h1, h2.mono ?_⟩
  rintro e' w' ⟨b, D', rfl, hW, ho, hI, hD'⟩
  have hB : ∀ k, k ∈ G.bx → w'.heap[k]? = w.heap[k]? := fun k hk => ho.block k (hs.mem.lt_box hk) (e.bx k hk)
  have hR : ∀ (k g : Nat) (x : Nat × Value), G.rw[k]? = some x → (ownBlk x.2) = some g → w'.heap[g]? = w.heap[g]? := fun k g x hk hg => ho.block g (hs.mem.lt_row hk hg) (e.rw x (List.mem_of_getElem? hk) g hg)
  obtain ⟨m, le⟩ := msat_keep (w' := w') hs.mem G.imm hB hR hI (fun _ _ i => i) (fun _ _ i => .inl i) fun b o i => by rw [hI b o i]; exact hs.mem.immOk b o i
  refine ⟨b, rfl, hs.size, hs.callers, ⟨ho.os.trans hs.frame.os, ho.tape.trans hs.frame.tape, ho.output.trans hs.frame.output, Nat.le_trans hs.frame.size ho.size, fun k hk hm => ?_⟩, hs.le.trans le, hs.fresh, hs.ownB, hs.ownR, ⟨D', hl, hW, fun k hk => ?_, fun k hk => (hD' k hk).2, fun k hk hd => ?_, fun x hx g hg hd => ?_, fun b o i => ?_, ?_, fun r hr => ?_⟩, m, fun t c x hlk => ?_⟩
  · refine (ho.block k (Nat.lt_of_lt_of_le hk hs.frame.size) fun hd => ?_).trans (hs.frame.block k hk hm)
    rcases e.sub k hd with h | h
    · exact hm (.inl h)
    · omega
  · rcases (hD' k hk).1 with h | h
    · exact e.sub k h
    · exact .inr (Nat.le_trans hs.frame.size h)
  · rcases (hD' k hd).1 with h | h
    · exact e.bx k hk h
    · have := hs.mem.lt_box hk; omega
  · rcases (hD' g hd).1 with h | h
    · exact e.rw x hx g hg h
    · obtain ⟨k, hk⟩ := List.mem_iff_getElem?.1 hx
      have := hs.mem.lt_row hk hg; omega
  · rcases e.imm b o i with h | h
    · exact .inl h
    · exact .inr fun hd => (hD' b hd).1.elim h fun hge => by have := hs.mem.lt_imm i; omega
  · obtain ⟨ml, q1, q2, q3⟩ := e.marks
    refine ⟨ml, q1, q2, fun m hm => ?_⟩
    obtain ⟨q4, q5, q6⟩ := q3 m hm
    have hlt : m < w.heap.size := (Array.getElem?_eq_some_iff.1 q4).1
    exact ⟨(ho.block m hlt q5).trans q4, fun hd => (hD' m hd).1.elim q5 fun hge => by omega, q6⟩
  · obtain ⟨⟨L, hL⟩, q5⟩ := e.record r hr
    have hlt : r < w.heap.size := (Array.getElem?_eq_some_iff.1 hL).1
    exact ⟨⟨L, (ho.block r hlt q5).trans hL⟩, fun hd => (hD' r hd).1.elim q5 fun hge => by omega⟩
  · obtain ⟨v, h1, h2, h3⟩ := hs.slot t c x hlk
    exact ⟨v, h1, fun hc => AV.rel_mono le _ _ (h2 hc), h3⟩

def yieldA (st : ASt) (o : Op) : Option (List Bool × Nat × List AV) :=
  match o with
  | .call c => match c.callee with
    | .value fo => match st.ev fo, st.evL c.args.toList with
      | some (g, .raw (.func (.yield l) ⟨[]⟩ ⟨[]⟩)), some (cs, vs) => some (g :: cs, l, vs)
      | _, _ => none
    | _ => none
  | _ => none

theorem yieldA_sound {st : ASt} {o : Oper} {cs : List Bool} {item : List AV} (h : yieldA st o.op = some (cs, l, item)) (hev : ∀ x ∈ o.op.operands.toList, EvOk G w a st x) (hc : ∀ c ∈ cs, c = true) :
    (∀ c, o.op ≠ .defer c) ∧ ∃ vs : List Value, AV.relL G w item vs ∧ ∀ w', (execOp a.eval o).run P w' = (Instr.yield l vs.toArray).run P w' := by
  obtain ⟨dst, op, type, pos, after, guard⟩ := o
  simp only at h hev
  unfold yieldA at h
  split at h
  · rename_i c
    obtain ⟨callee, args', argTypes⟩ := c
    obtain ⟨args'⟩ := args'
    simp only at h
    split at h
    · rename_i fo
      split at h
      · rename_i g l' cs' vs h1 h2
        simp only [Option.some.injEq, Prod.mk.injEq] at h
        obtain ⟨rfl, rfl, rfl⟩ := h
        have e1 := hev fo (by simp [Op.operands, Call.operands]) _ _ h1 (hc g (by simp))
        have e2 := evL_sound (fun x hx => hev x (by simp [Op.operands, Call.operands]; exact .inr hx)) h2 (fun c hc' => hc c (by simp [hc']))
        refine ⟨by simp, _, by simpa using e2, fun w' => ?_⟩
        simp only [execOp, resolve, rel_raw e1, Deferred.ofValue, Sem.run_bind, Sem.run_pure, Result.andThen_ok, invoke]
        simp
      · cases h
    · cases h
  · cases h

theorem runS_yield {ops : Array Oper} {r : List Oper} {k : ASt → Prop} {o : Oper} {d : Nat} (hd : o.dst = some d) (hn : Nat.blt d nt = true)
    (hh : ∃ g, guardA ops ⟨nt, nb, sl, bx, rw, ((l, items), h, false)⟩ o = some g ∧ ∃ cs item, yieldA ⟨nt, nb, sl, bx, rw, ((l, items), h, false)⟩ o.op = some (cs, l, item) ∧ (g = true → (∀ c ∈ cs, c = true) ∧ AV.freeL item ∧ (h ++ [item]) <+: items) ∧
      (g = false → runS P ops r k ⟨nt, nb, (d, (false, .raw (.bool false))) :: sl, bx, rw, ((l, items), h, false)⟩) ∧ (g = true → ∀ b, runS P ops r k ⟨nt, nb, (d, (true, .raw (.bool b))) :: sl, bx, rw, ((l, items), h ++ [item], !b)⟩)) :
    runS P ops (o :: r) k ⟨nt, nb, sl, bx, rw, ((l, items), h, false)⟩ := by
  obtain ⟨g, hg, cs, item, hy, hp, hf, ht⟩ := hh
  intro C G a w Q hs hQ
  have hdlt : d < nt := by simpa [Nat.blt_eq] using hn
  refine wpListIn_step fun K hK => ?_
  rw [guardA_sound hg (fun t _ => hs.slot t)]
  cases g
  · simp only [Bool.false_eq_true, if_false]
    rw [hd]
    exact ⟨fun _ _ => trivial, hK _ _ (hf rfl C G _ w Q (hs.put hdlt (fun h => by cases h) (fun _ => rfl)) hQ)⟩
  · simp only [if_true]
    obtain ⟨h1, h2⟩ := hp rfl
    obtain ⟨e0, vs, e1, e2⟩ := yieldA_sound (P := P) hy (fun x _ => evOk_of fun t _ => hs.slot t) h1
    obtain ⟨f, tmps, assign, body, e3, e4⟩ := hs.yield h2.1 e1 h2.2 C.round
    refine wpIn_of_run e0 ?_
    rw [e2, e3, Oper.uponIn_round]
    refine ⟨(fun h => by cases h), e4.mono ?_⟩
    rintro e' w' ⟨b, rfl, hs'⟩
    show K (a.put o.dst (.bool b)) w'
    rw [hd]
    exact hK _ _ (ht rfl b C G _ w' Q (hs'.put hdlt (fun _ => rfl) (fun h => by cases h)) hQ)
end yields
end Go.Proofs.YtchpbdecipcelaaGreatDoor
namespace Go.Proofs.YtchpbdecipcelaaGreatDoor
set_option linter.unusedVariables false
set_option linter.unusedSimpArgs false
set_option maxHeartbeats 4000000
set_option maxRecDepth 100000
open Go.RowKit

structure SeqA (P : Program) (f : FuncId) (cap : List AV) (items : List (List AV)) : Prop where
  ok : CallOk P f
  calls : ∀ (l : Nat) (I0 : Nat → Nat → Prop) (D : Nat → Prop) (W : Env) (w : World) (vs : List Value), (∀ b o, I0 b o → (w.cell? ⟨b, o, none⟩).isSome = true) → StableW W → (∀ h s I D w, W h s I D w → Tabs P w ∧ ∀ g, tabBlk P g → D g) → YOk P (l, items) I0 W → W [] false I0 D w → (∀ k, D k → k < w.heap.size) →
    AV.relL ⟨I0, [], []⟩ w ([.raw (.func (.yield l) #[] #[])] ++ cap) vs →
    Calls P f vs.toArray w fun e w' => ∃ v I' D' pre s, e = .returned v ∧ Outside D w w' ∧ (∀ k, D' k → k < w'.heap.size) ∧ W pre s I' D' w' ∧ pre <+: items ∧ (s = false → pre = items)

def seqPost (items : List (List AV)) (e : Exit) (st : ASt) : Prop := (e = .normal ∨ e = .ret) ∧ st.ys.2.1 <+: items ∧ (st.ys.2.2 = false → st.ys.2.1 = items)

theorem seqA_of {P : Program} {f : FuncId} {fn : Func} {c : Code} {cap : List AV} {items : List (List AV)} (hf : P.funcs[f]? = some fn) (hb : fn.body = some c) (hnm : (fn.name == "runtime.NumGoroutine") = false) (n : Nat) (hn : fn.ntmps = n) (hlen : cap.length + 1 ≤ n) (hrs : fn.results.toList = [])
    (h : ∀ l, wpA P c (seqPost items) ⟨n, 0, argSl 0 ([.raw (.func (.yield l) #[] #[])] ++ cap), [], [], ((l, items), [], false)⟩) : SeqA P f cap items := by
  refine ⟨⟨fn, hf, hnm, by rw [hb]; rfl⟩, fun l I0 D W w vs hi hst htb hy hW hD hr => ?_⟩
  have hvl := AV.relL_length hr
  let C : Ctx P := ⟨none, (l, items), D, W, I0, ⟨I0, [], []⟩, w, fun _ _ i => i, hst, hy, htb⟩
  have hs : Sat C ⟨I0, [], []⟩ { tmps := vs.toArray ++ Array.replicate (fn.ntmps - vs.toArray.size) undef, defers := [] } w ⟨n, 0, argSl 0 ([.raw (.func (.yield l) #[] #[])] ++ cap), [], [], ((l, items), [], false)⟩ := by
    refine ⟨by simp [hn]; simp at hvl; omega, ⟨by show (0 : Nat) = 0 % 64; rfl, by show (0 : Nat) = 0 / 64; rfl⟩, Outside.refl _ _, Gh.Le.refl _ _, fun _ _ i => .inl i, fun _ h => by simp at h, fun _ h => by simp at h, ⟨D, rfl, hW, fun _ h => .inl h, hD, fun _ h => by simp at h, fun _ h => by simp at h, fun _ _ i => .inl i, ⟨[], rfl, by simp, fun _ h => by simp at h⟩, fun _ h => by cases h⟩, ⟨hi, rfl, rfl, by simp, fun k cs blk hk _ => by simp at hk, fun k r x hk _ => by simp at hk, fun k x g hk _ => by simp at hk, fun k k' x x' g hk _ _ _ => by simp at hk⟩, ?_⟩
    intro t c x hl
    obtain ⟨j, e1, e2, rfl⟩ := argSl_look hl
    obtain ⟨v, e3, e4⟩ := AV.relL_get hr e2
    have hj : j < vs.length := (List.getElem?_eq_some_iff.1 e3).1
    refine ⟨v, ?_, fun _ => e4, fun h => by cases h⟩
    rw [show t = j from by omega, Array.getElem?_append_left (by simpa using hj)]
    simpa using e3
  refine callsIn_wide.1 (callsIn_of_wp_marks (n := 0) hf hb trivial (wpIn_mono (h l C _ _ _ hs) ?_))
  rintro e a' w1 ⟨G', st', hs1, he, h1, h2⟩
  obtain ⟨tm, df⟩ := a'
  obtain ⟨D1, hD1⟩ := hs1.env
  obtain ⟨ml, hml, _⟩ := hD1.marks
  simp only at hml
  subst hml
  have fin := Sat.leaves (F := Fence.wide) (n := 0) (fn := fn) (tmps := tm) (R := fun e w' => ∃ v I' D' pre s, e = .returned v ∧ Outside D w w' ∧ (∀ k, D' k → k < w'.heap.size) ∧ W pre s I' D' w' ∧ pre <+: items ∧ (s = false → pre = items)) (fun w' hs' => by
    obtain ⟨D2, hD2⟩ := hs'.env
    refine ⟨_, results_run (vs := []) (by rw [hrs]; rfl), _, _, D2, _, _, rfl, hs'.frame.mono fun k _ hm => ?_, hD2.lt, hD2.cons, h1, h2⟩
    rcases hm with hm | hm | ⟨x, hx, _⟩
    · exact hm
    · simp [C] at hm
    · simp [C] at hx) ml w1 hs1
  rcases he with rfl | rfl <;> exact fin

def zipSl : List Nat → List AV → List (Nat × (Bool × AV))
  | p :: ps, x :: xs => (p, (true, x)) :: zipSl ps xs
  | _, _ => []
theorem fold_other {t : Nat} : ∀ (ps : List Nat) (vs : List Value) (tmps : Array Value), t ∉ ps → ((ps.zip vs).foldl (fun (t : Array Value) (p : Nat × Value) => t.setIfInBounds p.1 p.2) tmps)[t]? = tmps[t]?
  | [], _, _, _ => by simp
  | _ :: _, [], _, _ => by simp
  | p :: ps, v :: vs, tmps, h => by
    simp only [List.zip_cons_cons, List.foldl_cons]
    rw [fold_other ps vs _ (fun hm => h (by simp [hm])), Array.getElem?_setIfInBounds, if_neg (fun e => h (by simp [e]))]
theorem fold_size : ∀ (ps : List Nat) (vs : List Value) (tmps : Array Value), ((ps.zip vs).foldl (fun (t : Array Value) (p : Nat × Value) => t.setIfInBounds p.1 p.2) tmps).size = tmps.size
  | [], _, _ => by simp
  | _ :: _, [], _ => by simp
  | p :: ps, v :: vs, tmps => by
    simp only [List.zip_cons_cons, List.foldl_cons]
    rw [fold_size ps vs]; simp
theorem zip_look {G : Gh} {w : World} {sl : List (Nat × (Bool × AV))} {t : Nat} {c : Bool} {x : AV} : ∀ (ps : List Nat) (xs : List AV) (vs : List Value) (tmps : Array Value), ps.length = xs.length → AV.relL G w xs vs → ps.Nodup → (∀ p ∈ ps, p < tmps.size) → lookN t (zipSl ps xs ++ sl) = some (c, x) →
    (t ∉ ps → lookN t sl = some (c, x) → ∃ v, tmps[t]? = some v ∧ (c = true → x.rel G w v) ∧ (c = false → v = undef)) → ∃ v, ((ps.zip vs).foldl (fun (t : Array Value) (p : Nat × Value) => t.setIfInBounds p.1 p.2) tmps)[t]? = some v ∧ (c = true → x.rel G w v) ∧ (c = false → v = undef)
  | [], [], _, _, _, _, _, _, hl, h => by simpa using h (by simp) (by simpa [zipSl] using hl)
  | p :: ps, y :: ys, vs, tmps, hlen, hr, hn, hp, hl, h => by
    obtain ⟨v, r, rfl, h1, h2⟩ := hr
    simp only [zipSl, List.cons_append, lookN_cons] at hl
    simp only [List.zip_cons_cons, List.foldl_cons]
    split at hl
    · rename_i e
      subst e
      cases hl
      refine ⟨v, ?_, fun _ => h1, fun h => by cases h⟩
      rw [fold_other ps r _ (List.nodup_cons.1 hn).1, Array.getElem?_setIfInBounds, if_pos rfl, if_pos (hp t (by simp))]
    · rename_i hne
      refine zip_look ps ys r _ (by simpa using hlen) h2 (List.nodup_cons.1 hn).2 (fun q hq => by simpa using hp q (by simp [hq])) hl fun hm hls => ?_
      rw [Array.getElem?_setIfInBounds, if_neg (Ne.symm hne)]
      exact h (by simp [hne, hm]) hls

def jc : Option Nat → Code
  | none => .ret
  | some id => .exit id
def je : Option Nat → Exit
  | none => .ret
  | some id => .exit id
abbrev LInv := List (List AV) → Option (Option Nat) → List (List AV) → List ARow → (Nat × List (List AV)) × List (List AV) × Bool → Prop

structure LoopS {P : Program} (C : Ctx P) (Gl : Gh) (wl : World) (a1 : Act) (nt nb : Nat) (sl : List (Nat × (Bool × AV))) (m L : Nat) (E : Nat → Prop) (I : Nat → Nat → Prop) (D : Nat → Prop) (w : World) (G' : Gh) (bx' : List (List AV)) (rw' : List ARow) (ys' : (Nat × List (List AV)) × List (List AV) × Bool) (Do : Nat → Prop) : Prop where
  sat : Sat C G' a1 w ⟨nt, nb, sl, bx', rw', ys'⟩
  env : EnvD C G' a1.defers ys' Do w
  len : bx'.length = m
  bx : G'.bx = Gl.bx
  le : Gl.Le wl G' w
  imm : ∀ b o, G'.imm b o → I b o ∨ D b
  old : ∀ k, k < wl.heap.size → ¬ E k → D k
  exc : ∀ k, E k → C.w0.heap.size ≤ k ∧ k ∉ Gl.bx ∧ k ≠ L ∧ mark k ∉ a1.defers ∧ C.round ≠ some k
  rowD : ∀ x ∈ G'.rw, ∀ g, (ownBlk x.2) = some g → D g
  outD : ∀ k, Do k → D k
  notL : ¬ Do L
  lL : L < wl.heap.size
  c0 : C.w0.heap.size ≤ L
  bxl : ∀ k ∈ Gl.bx, k < wl.heap.size
  size : wl.heap.size ≤ w.heap.size
  marksL : ∀ k, mark k ∈ a1.defers → k < wl.heap.size
  recL : ∀ r, C.round = some r → r < wl.heap.size

def LoopW {P : Program} (C : Ctx P) (Gl : Gh) (wl : World) (a1 : Act) (nt nb : Nat) (sl : List (Nat × (Bool × AV))) (m L : Nat) (E : Nat → Prop) (rec : LoopState → Option Code → Loop) (Inv : LInv) : Env := fun h s I D w =>
  ∃ G' j bx' rw' ys' Do, LoopS C Gl wl a1 nt nb sl m L E I D w G' bx' rw' ys' Do ∧ Inv h j bx' rw' ys' ∧ s = j.isSome ∧ w.heap[L]? = some (.loop (rec (if j.isNone then .ready else .done) (j.map jc)))

section loops
variable {P : Program} {C : Ctx P} {Gl : Gh} {wl : World} {a1 : Act} {nt nb : Nat} {sl : List (Nat × (Bool × AV))} {m L : Nat} {E : Nat → Prop} {rec : LoopState → Option Code → Loop} {Inv : LInv}

theorem EnvD.same {G : Gh} {ds : List Deferred} {ys : (Nat × List (List AV)) × List (List AV) × Bool} {D : Nat → Prop} {w w' : World} (e : EnvD C G ds ys D w) (ho : Outside (fun k => ¬ D k) w w') (hc : ∀ b o, G.imm b o → w'.cell? ⟨b, o, none⟩ = w.cell? ⟨b, o, none⟩)
    (hm : ∀ k, mark k ∈ ds → w'.heap[k]? = w.heap[k]?) (hr : ∀ r, C.round = some r → w'.heap[r]? = w.heap[r]?) : EnvD C G ds ys D w' := by
  refine ⟨e.l, C.stable _ _ _ _ _ _ _ e.cons ho (fun b o i => ⟨i, hc b o i⟩), e.sub, fun k hk => Nat.lt_of_lt_of_le (e.lt k hk) ho.size, e.bx, e.rw, e.imm, ?_, fun r hr' => ?_⟩
  · obtain ⟨l, h1, h2, h3⟩ := e.marks
    exact ⟨l, h1, h2, fun k hk => ⟨by rw [hm k (by rw [h1]; exact List.mem_map.2 ⟨k, hk, rfl⟩)]; exact (h3 k hk).1, (h3 k hk).2⟩⟩
  · obtain ⟨⟨L, h1⟩, h2⟩ := e.record r hr'
    exact ⟨⟨L, by rw [hr r hr']; exact h1⟩, h2⟩

theorem loopW_stable : StableW (LoopW C Gl wl a1 nt nb sl m L E rec Inv) := by
  rintro h s I I' D w w' ⟨G', j, bx', rw', ys', Do, S, hi, hs, hr⟩ ho hI
  have hD : ∀ k, D k → k < w.heap.size → w'.heap[k]? = w.heap[k]? := fun k hk hlt => ho.block k hlt fun h => h hk
  have hcell : ∀ b o, G'.imm b o → w'.cell? ⟨b, o, none⟩ = w.cell? ⟨b, o, none⟩ := fun b o i => by
    rcases S.imm b o i with h | h
    · exact (hI b o h).2
    · exact World.cell?_of_block (w := w) (hD b h (S.sat.mem.lt_imm i))
  have hwl := S.size
  have old : ∀ k, k < wl.heap.size → ¬ E k → w'.heap[k]? = w.heap[k]? := fun k hk he => hD k (S.old k hk he) (Nat.lt_of_lt_of_le hk hwl)
  obtain ⟨ms, le⟩ := msat_keep (w' := w') S.sat.mem G'.imm (fun k hk => old k (S.bxl k (S.bx ▸ hk)) fun he => (S.exc k he).2.1 (S.bx ▸ hk)) (fun k g x hk hg => hD g (S.rowD x (List.mem_of_getElem? hk) g hg) (S.sat.mem.lt_row hk hg)) hcell (fun _ _ i => i) (fun _ _ i => .inl i) fun b o i => by rw [hcell b o i]; exact S.sat.mem.immOk b o i
  have env : EnvD C G' a1.defers ys' Do w' := S.env.same (ho.mono fun k _ h hd => h (S.outD k hd)) hcell (fun k hk => old k (S.marksL k hk) fun he => (S.exc k he).2.2.2.1 hk) fun r hr => old r (S.recL r hr) fun he => (S.exc r he).2.2.2.2 hr
  refine ⟨G', j, bx', rw', ys', Do, ⟨⟨S.sat.size, S.sat.callers, ⟨ho.os.trans S.sat.frame.os, ho.tape.trans S.sat.frame.tape, ho.output.trans S.sat.frame.output, Nat.le_trans S.sat.frame.size ho.size, fun k hk hm => ?_⟩, S.sat.le.trans le, S.sat.fresh, S.sat.ownB, S.sat.ownR, ⟨Do, env⟩, ms, fun t c x hl => ?_⟩, env, S.len, S.bx, S.le.trans le, fun b o i => (S.imm b o i).elim (fun i => .inl (hI b o i).1) .inr, S.old, S.exc, S.rowD, S.outD, S.notL, S.lL, S.c0, S.bxl, Nat.le_trans S.size ho.size, S.marksL, S.recL⟩, hi, hs, ?_⟩
  · have := S.lL; have := S.c0
    exact (old k (by omega) fun he => by have := (S.exc k he).1; omega).trans (S.sat.frame.block k hk hm)
  · obtain ⟨v, h1, h2, h3⟩ := S.sat.slot t c x hl
    exact ⟨v, h1, fun hc => AV.rel_mono le _ _ (h2 hc), h3⟩
  · rw [old L S.lL fun he => (S.exc L he).2.2.1 rfl]; exact hr

theorem loopW_tabs {h : List (List AV)} {s : Bool} {I : Nat → Nat → Prop} {D : Nat → Prop} {w : World} (hW : LoopW C Gl wl a1 nt nb sl m L E rec Inv h s I D w) : Tabs P w ∧ ∀ g, tabBlk P g → D g := by
  obtain ⟨G', j, bx', rw', ys', Do, S, _⟩ := hW
  obtain ⟨h1, h2⟩ := C.tabs _ _ _ _ _ S.env.cons
  exact ⟨h1, fun g hg => S.outD g (h2 g hg)⟩

def roundEnd (m : Nat) (Inv : LInv) (h : List (List AV)) (e : Exit) (st : ASt) : Prop :=
  ∃ nt nb sl bx rw ys, Weak st ⟨nt, nb, sl, bx, rw, ys⟩ ∧ bx.length = m ∧ (match e with
    | .normal => Inv h none bx rw ys
    | .ret => Inv h (some none) bx rw ys
    | .exit id => Inv h (some (some id)) bx rw ys
    | _ => False)

theorem Sat.rebase {G : Gh} {a : Act} {w : World} {st : ASt} (hs : Sat C G a w st) {L : Nat} {L0 L1 : Loop} (hm : w.heap[L]? = some (.loop L0)) (hr : C.round = some L) (hL : L < C.w0.heap.size) (hn : ¬ C.may L) :
    Sat { C with w0 := C.w0.putObj L (.loop L1) } G a (w.putObj L (.loop L1)) st := by
  obtain ⟨m, le⟩ := msat_non hs.mem (.loop L1) hm rfl
  obtain ⟨D, e⟩ := hs.env
  have hD : ¬ D L := (e.record L hr).2
  have e' := e.non (ds' := a.defers) hs.mem (.loop L1) hm rfl hD (fun _ => ⟨_, rfl⟩) (by
    obtain ⟨l, h1, h2, h3⟩ := e.marks
    exact ⟨l, h1, h2, fun k hk => ⟨fun e => (by subst e; rw [(h3 k hk).1] at hm; cases hm), h3 k hk⟩⟩)
  refine ⟨hs.size, hs.callers, ⟨hs.frame.os, hs.frame.tape, hs.frame.output, by simpa using hs.frame.size, fun k hk hm' => ?_⟩, ⟨hs.le.imm, fun b o i => ?_, hs.le.bx, hs.le.rw⟩, by simpa using hs.fresh, by simpa using hs.ownB, by simpa using hs.ownR, ⟨D, e'.l, e'.cons, by simpa using e'.sub, e'.lt, e'.bx, e'.rw, e'.imm, by simpa using e'.marks, e'.record⟩, m, fun t c x hl => ?_⟩
  · by_cases hk' : k = L
    · subst hk'
      rw [World.putObj_heap_same (Array.getElem?_eq_some_iff.1 hm).1]
      exact (World.putObj_heap_same hL).symm
    · rw [World.putObj_heap_other hk']
      show _ = (C.w0.putObj L (.loop L1)).heap[k]?
      rw [World.putObj_heap_other hk']
      exact hs.frame.block k (by simpa using hk) hm'
  · have hne : b ≠ L := hs.mem.imm_ne hm rfl (hs.le.imm b o i)
    rw [le.cell b o (hs.le.imm b o i), hs.le.cell b o i]
    exact (World.cell?_of_block (w := C.w0) (World.putObj_heap_other hne)).symm
  · obtain ⟨v, h1, h2, h3⟩ := hs.slot t c x hl
    exact ⟨v, h1, fun hc => AV.rel_mono le _ _ (h2 hc), h3⟩

theorem loopW_yOk (hm64 : m < 64) {items : List (List AV)} {ps : Array Tmp} {assign body : Code} {fn : FuncId} {dB : Nat} (hrec : rec = fun st pe => { state := st, pending := pe, fn, tmps := a1.tmps, params := ps, assign, body, defers := dB })
    (hps : ps.toList.Nodup ∧ ∀ p ∈ ps.toList, p < nt)
    (hround : ∀ h item bx' rw' ys', Inv h none bx' rw' ys' → (h ++ [item]) <+: items → bx'.length = m → item.length = ps.toList.length ∧ wpA P assign (fun e s => e = .normal ∧ wpA P body (roundEnd m Inv (h ++ [item])) s) ⟨nt, m + 64 * rw'.length, zipSl ps.toList item ++ sl, bx', rw', ys'⟩) :
    YOk P (L, items) Gl.imm (LoopW C Gl wl a1 nt nb sl m L E rec Inv) := by
  rintro ro h item I D w vs ⟨G', j, bx', rw', ys', Do, S, hi, hs, hr⟩ hpre hlt hI hI0 hrel
  cases j with
  | some j => cases hs
  | none =>
  change w.heap[L]? = some (.loop (rec .ready none)) at hr
  obtain ⟨hlen, hw⟩ := hround h item bx' rw' ys' hi hpre S.len
  have hvl := AV.relL_length hrel
  have hy := run_yield (P := P) (args := vs.toArray) hr (by rw [hrec]; simp [hvl, hlen])
  let Gb : Gh := ⟨fun b o => G'.imm b o ∨ I b o, G'.bx, G'.rw⟩
  have hDI : ∀ b o, I b o → D b → G'.imm b o := fun b o i hd => by
    rcases (hI b o i).2 with h | h
    · exact S.le.imm b o h
    · exact absurd hd h
  have leb : G'.Le w Gb w := ⟨fun _ _ i => .inl i, fun _ _ _ => rfl, fun _ _ h => h, fun _ e h => ⟨e, h, .inl rfl⟩⟩
  have bxD : ∀ k ∈ G'.bx, D k := fun k hk => S.old k (S.bxl k (S.bx ▸ hk)) fun he => (S.exc k he).2.1 (S.bx ▸ hk)
  have mb : MSat Gb w bx' rw' := by
    refine ⟨fun b o i => i.elim (S.sat.mem.immOk b o) fun i => (hI b o i).1, S.sat.mem.lenB, S.sat.mem.lenR, S.sat.mem.nodup, fun k cs blk hk hg => ?_, fun k r x hk hg => ?_, S.sat.mem.sepB, S.sat.mem.sepR⟩
    · obtain ⟨e2, vs', T, e3, e4⟩ := S.sat.mem.box k cs blk hk hg
      exact ⟨fun o i => i.elim (e2 o) fun i => e2 o (hDI blk o i (bxD blk (List.mem_of_getElem? hg))), vs', T, e3, AV.relL_mono leb _ _ e4⟩
    · have ro' := S.sat.mem.row k r x hk hg
      obtain ⟨xs, ho, hel⟩ := ro'.own
      refine ⟨ro'.len, ⟨xs, ho, fun i hi => by obtain ⟨us, e1, e2⟩ := hel i hi; exact ⟨us, AV.relL_mono leb _ _ e1, e2⟩⟩, fun g hg' o => ?_⟩
      rw [← ro'.imm g hg' o]
      exact ⟨fun i => i.elim id fun i => hDI g o i (S.rowD x (List.mem_of_getElem? hg) g hg'), .inl⟩
  let Cb : Ctx P := ⟨some L, C.l, Do, C.W, C.I0, Gb, w, fun b o i => .inl (S.sat.le.imm b o (C.base b o i)), C.stable, C.y, C.tabs⟩
  have hLw : L < w.heap.size := Nat.lt_of_lt_of_le S.lL S.size
  have notmay : ¬ Cb.may L := by
    rintro (h | h | ⟨x, h1, h2⟩)
    · exact S.notL h
    · exact S.sat.mem.not_box hr rfl h
    · exact S.sat.mem.not_row hr rfl x h1 h2
  have hfold : ((rec .ready none).params.zip vs.toArray).foldl (fun tmps (t, a) => tmps.setIfInBounds t a) (rec .ready none).tmps = (ps.toList.zip vs).foldl (fun (t : Array Value) (p : Nat × Value) => t.setIfInBounds p.1 p.2) a1.tmps := by
    rw [hrec]
    obtain ⟨pl⟩ := ps
    simp only [List.zip_toArray, List.foldl_toArray]
  have sb : Sat Cb Gb ⟨(ps.toList.zip vs).foldl (fun (t : Array Value) (p : Nat × Value) => t.setIfInBounds p.1 p.2) a1.tmps, []⟩ w ⟨nt, m + 64 * rw'.length, zipSl ps.toList item ++ sl, bx', rw', ys'⟩ := by
    refine ⟨by rw [fold_size]; exact S.sat.size, ?_, Outside.refl _ _, Gh.Le.refl _ _, fun _ _ i => .inl i, fun _ h => .inl h, fun x hx g hg => .inl ⟨x, hx, hg⟩, ⟨Do, S.env.l, C.stable _ _ _ _ _ _ _ S.env.cons (Outside.refl _ _) (fun b o i => ⟨.inl i, rfl⟩), fun _ h => .inl h, S.env.lt, S.env.bx, S.env.rw, fun b o i => ?_, ⟨[], rfl, by simp, fun _ h => by simp at h⟩, fun r hr' => ?_⟩, mb, fun t c x hl => ?_⟩
    · have e1 : G'.bx.length = m := by rw [S.sat.mem.lenB]; exact S.len
      have e2 : G'.rw.length = rw'.length := S.sat.mem.lenR
      refine ⟨?_, ?_⟩
      · show G'.bx.length = (m + 64 * rw'.length) % 64
        omega
      · show G'.rw.length = (m + 64 * rw'.length) / 64
        omega
    · rcases i with i | i
      · exact S.env.imm b o i
      · rcases (hI b o i).2 with h | h
        · exact S.env.imm b o (S.le.imm b o h)
        · exact .inr fun hd => h (S.outD b hd)
    · cases hr'
      exact ⟨⟨_, hr⟩, S.notL⟩
    · refine zip_look _ _ _ _ hlen.symm (AV.relL_mono (G := ⟨I, [], []⟩) (G' := Gb) ⟨fun _ _ i => .inr i, fun _ _ _ => rfl, fun _ _ h => by simp at h, fun _ e h => by simp at h⟩ _ _ hrel) hps.1 (fun p hp => by rw [S.sat.size]; exact hps.2 p hp) hl fun _ hl' => ?_
      obtain ⟨v, h1, h2, h3⟩ := S.sat.slot t c x hl'
      exact ⟨v, h1, fun hc => AV.rel_mono leb _ _ (h2 hc), h3⟩
  rw [hfold] at hy
  have hrc : (rec .ready none).fn = fn ∧ (rec .ready none).assign = assign ∧ (rec .ready none).body = body := by rw [hrec]; exact ⟨rfl, rfl, rfl⟩
  rw [hrc.1, hrc.2.1, hrc.2.2] at hy
  refine ⟨fn, _, assign, body, hy, roundIn_of_wpIn trivial (wpIn_mono (hw Cb Gb _ w sb) ?_)⟩
  rintro e a1' w1 ⟨G1, s1, hs1, rfl, hbody⟩
  have hL1 : w1.heap[L]? = some (.loop (rec .ready none)) := (hs1.frame.block L hLw notmay).trans hr
  obtain ⟨busy, hbusy⟩ : ∃ b : Loop, b = { rec .ready none with state := .busy } := ⟨_, rfl⟩
  refine ⟨_, run_beginRound hL1 (by rw [hrec]), ?_⟩
  rw [← hbusy]
  have hs2 := hs1.rebase (L1 := busy) hL1 rfl hLw notmay
  refine wpIn_mono (hbody { Cb with w0 := Cb.w0.putObj L (.loop busy) } G1 a1' _ hs2) ?_
  rintro e a3 w3 ⟨G3, s3, hs3, nt4, nb4, sl4, bx4, rw4, ys4, hwk, hlen4, hend⟩
  obtain ⟨G4, hs4⟩ := hwk P _ G3 a3 w3 hs3
  have hL3 : w3.heap[L]? = some (.loop busy) := (hs4.frame.block L (by simpa [Cb] using hLw) notmay).trans (World.putObj_heap_same hLw)
  have fin : ∀ j : Option (Option Nat), Inv (h ++ [item]) j bx4 rw4 ys4 → ∃ v w', (Instr.endRound L (j.map jc)).run P w3 = .ok v w' ∧ ∃ b D', Ending.returned v = .returned (.bool b) ∧ LoopW C Gl wl a1 nt nb sl m L E rec Inv (h ++ [item]) (!b) I D' w' ∧ Outside D w w' ∧ (∀ b o, I b o → w'.cell? ⟨b, o, none⟩ = w.cell? ⟨b, o, none⟩) ∧ (∀ k, D' k → (D k ∨ w.heap.size ≤ k) ∧ k < w'.heap.size) := by
    intro j hj
    obtain ⟨w4, hw4⟩ : ∃ w4, w4 = w3.putObj L (.loop (rec (if j.isNone then .ready else .done) (j.map jc))) := ⟨_, rfl⟩
    have hend' : (Instr.endRound L (j.map jc)).run P w3 = .ok (.bool j.isNone) w4 := by
      rw [run_endRound _ hL3, hw4, hbusy, hrec]
      cases j <;> rfl
    have hsz4 : w4.heap.size = w3.heap.size := by rw [hw4]; simp
    have hsz3 : w.heap.size ≤ w3.heap.size := by simpa [Cb] using hs4.frame.size
    have mayD : ∀ k, Cb.may k → D k := by
      rintro k (h | h | ⟨x, h1, h2⟩)
      · exact S.outD k h
      · exact bxD k h
      · exact S.rowD x h1 k h2
    have blk : ∀ k, k < w.heap.size → ¬ Cb.may k → k ≠ L → w4.heap[k]? = w.heap[k]? := fun k hk hm hne => by
      rw [hw4, World.putObj_heap_other hne]
      exact (hs4.frame.block k (by simpa [Cb] using hk) hm).trans (World.putObj_heap_other hne)
    have ow : Outside Cb.may (w.putObj L (.loop busy)) w3 := hs4.frame
    have os4 : w4.os = w.os ∧ w4.tape = w.tape ∧ w4.output = w.output := by rw [hw4]; exact ⟨ow.os, ow.tape, ow.output⟩
    obtain ⟨m4, le4⟩ := msat_non hs4.mem (.loop (rec (if j.isNone then .ready else .done) (j.map jc))) hL3 rfl
    rw [← hw4] at m4 le4
    have cell4 : ∀ b o, Gb.imm b o → w4.cell? ⟨b, o, none⟩ = w.cell? ⟨b, o, none⟩ := fun b o i => by
      rw [le4.cell b o (hs4.le.imm b o i), hs4.le.cell b o i]
      exact World.cell?_of_block (w := w) (World.putObj_heap_other (mb.imm_ne hr rfl i))
    have leW : G'.Le w G4 w4 := ⟨fun b o i => hs4.le.imm b o (.inl i), fun b o i => cell4 b o (.inl i), hs4.le.bx, hs4.le.rw⟩
    obtain ⟨D3, e3⟩ := hs4.env
    have hD3 : ∀ k, D3 k → Do k ∨ w.heap.size ≤ k := fun k hk => by simpa [Cb] using e3.sub k hk
    have notL3 : ¬ D3 L := fun hd => (hD3 L hd).elim S.notL fun hge => by omega
    have hbx4 : G4.bx = G'.bx := by
      refine List.ext_getElem? fun k => ?_
      rcases Nat.lt_or_ge k G'.bx.length with hk | hk
      · rw [List.getElem?_eq_getElem hk]
        exact hs4.le.bx k _ (List.getElem?_eq_getElem hk)
      · rw [List.getElem?_eq_none hk, List.getElem?_eq_none]
        rw [hs4.mem.lenB, hlen4, ← S.len, ← S.sat.mem.lenB]; exact hk
    have hC0 : C.w0.heap.size ≤ w.heap.size := S.sat.frame.size
    have hrow4 : ∀ x ∈ G4.rw, ∀ g, (ownBlk x.2) = some g → (∃ y ∈ G'.rw, (ownBlk y.2) = some g) ∨ w.heap.size ≤ g := fun x hx g hg => by simpa [Cb] using hs4.ownR x hx g hg
    have env4 : EnvD C G4 a1.defers ys4 D3 w4 := by
      refine ⟨e3.l, C.stable _ _ _ _ _ _ _ e3.cons ?_ (fun b o i => ⟨i, le4.cell b o i⟩), fun k hk => ?_, fun k hk => by rw [hsz4]; exact e3.lt k hk, e3.bx, e3.rw, e3.imm, ?_, fun r hr' => ?_⟩
      · rw [hw4]
        exact ⟨rfl, rfl, rfl, by simp, fun k _ hk => World.putObj_heap_other fun e => hk (e ▸ notL3)⟩
      · rcases hD3 k hk with h | h
        · exact S.env.sub k h
        · exact .inr (Nat.le_trans hC0 h)
      · obtain ⟨l, q1, q2, q3⟩ := S.env.marks
        refine ⟨l, q1, q2, fun k hk => ?_⟩
        obtain ⟨q4, q5, q6⟩ := q3 k hk
        have hlt' : k < w.heap.size := (Array.getElem?_eq_some_iff.1 q4).1
        refine ⟨(blk k hlt' ?_ ?_).trans q4, fun hd => (hD3 k hd).elim q5 fun h => by omega, q6⟩
        · rintro (h | h | ⟨x, h1, h2⟩)
          · exact q5 h
          · exact S.sat.mem.not_box q4 rfl h
          · exact S.sat.mem.not_row q4 rfl x h1 h2
        · intro e; subst e; rw [q4] at hr; cases hr
      · obtain ⟨⟨L', q4⟩, q5⟩ := S.env.record r hr'
        have hlt' : r < w.heap.size := (Array.getElem?_eq_some_iff.1 q4).1
        refine ⟨?_, fun hd => (hD3 r hd).elim q5 fun h => by omega⟩
        by_cases hrL : r = L
        · subst hrL
          rw [hw4]
          exact ⟨_, World.putObj_heap_same (Array.getElem?_eq_some_iff.1 hL3).1⟩
        · refine ⟨L', (blk r hlt' ?_ hrL).trans q4⟩
          rintro (h | h | ⟨x, h1, h2⟩)
          · exact q5 h
          · exact S.sat.mem.not_box q4 rfl h
          · exact S.sat.mem.not_row q4 rfl x h1 h2
    have hL4 : w4.heap[L]? = some (.loop (rec (if j.isNone then .ready else .done) (j.map jc))) := by rw [hw4]; exact World.putObj_heap_same (Array.getElem?_eq_some_iff.1 hL3).1
    have freshG : ∀ b o, G4.imm b o → (G'.imm b o ∨ I b o) ∨ w.heap.size ≤ b ∨ ∃ x ∈ G'.rw, (ownBlk x.2) = some b := fun b o i => by simpa [Cb, Gb] using hs4.fresh b o i
    refine ⟨_, w4, hend', j.isNone, fun k => D k ∨ (w.heap.size ≤ k ∧ k < w4.heap.size), rfl, ⟨G4, j, bx4, rw4, ys4, D3, ⟨⟨S.sat.size, S.sat.callers, ?_, S.sat.le.trans leW, fun b o i => ?_, ?_, fun x hx g hg => ?_, ⟨D3, env4⟩, m4, fun t c x hl => ?_⟩, env4, hlen4, hbx4.trans S.bx, S.le.trans leW, fun b o i => ?_, fun k hk he => .inl (S.old k hk he), S.exc, fun x hx g hg => ?_, fun k hk => ?_, notL3, S.lL, S.c0, S.bxl, ?_, S.marksL, S.recL⟩, hj, by cases j <;> rfl, hL4⟩, ?_, fun b o i => cell4 b o (.inr i), fun k hk => ?_⟩
    · refine ⟨os4.1.trans S.sat.frame.os, os4.2.1.trans S.sat.frame.tape, os4.2.2.trans S.sat.frame.output, by omega, fun k hk hm => (blk k (by omega) ?_ ?_).trans (S.sat.frame.block k hk hm)⟩
      · rintro (h | h | ⟨x, h1, h2⟩)
        · rcases S.env.sub k h with h | h
          · exact hm (.inl h)
          · omega
        · rcases S.sat.ownB k h with h | h
          · exact hm (.inr (.inl h))
          · omega
        · rcases S.sat.ownR x h1 k h2 with h | h
          · exact hm (.inr (.inr h))
          · omega
      · have := S.c0; omega
    · rcases freshG b o i with (i | i) | i | ⟨x, h1, h2⟩
      · exact S.sat.fresh b o i
      · by_cases hd : D b
        · exact S.sat.fresh b o (hDI b o i hd)
        · refine .inr (.inl ?_)
          rcases Nat.lt_or_ge b wl.heap.size with hlt' | hge
          · exact (Classical.em (E b)).elim (fun he => (S.exc b he).1) fun he => absurd (S.old b hlt' he) hd
          · have := S.c0; have := S.lL; omega
      · exact .inr (.inl (Nat.le_trans hC0 i))
      · rcases S.sat.ownR x h1 b h2 with h | h
        · exact .inr (.inr h)
        · exact .inr (.inl h)
    · rw [hbx4]; exact S.sat.ownB
    · rcases hrow4 x hx g hg with ⟨y, h1, h2⟩ | h
      · exact S.sat.ownR y h1 g h2
      · exact .inr (Nat.le_trans hC0 h)
    · obtain ⟨v, h1, h2, h3⟩ := S.sat.slot t c x hl
      exact ⟨v, h1, fun hc => AV.rel_mono leW _ _ (h2 hc), h3⟩
    · rcases freshG b o i with (i' | i') | h | ⟨x, h1, h2⟩
      · exact (S.imm b o i').elim .inl fun h => .inr (.inl h)
      · exact .inl i'
      · exact .inr (.inr ⟨h, m4.lt_imm i⟩)
      · exact .inr (.inl (S.rowD x h1 b h2))
    · rcases hrow4 x hx g hg with ⟨y, h1, h2⟩ | h
      · exact .inl (S.rowD y h1 g h2)
      · obtain ⟨k, hk⟩ := List.mem_iff_getElem?.1 hx
        exact .inr ⟨h, m4.lt_row hk hg⟩
    · rcases hD3 k hk with h | h
      · exact .inl (S.outD k h)
      · exact .inr ⟨h, env4.lt k hk⟩
    · have := S.size; omega
    · refine ⟨os4.1, os4.2.1, os4.2.2, by omega, fun k hk hd => blk k hk (fun h => hd (mayD k h)) fun e => hd (e ▸ S.old L S.lL fun he => (S.exc L he).2.2.1 rfl)⟩
    · rcases hk with h | h
      · exact ⟨.inl h, by have := hlt k h; omega⟩
      · exact ⟨.inr h.1, h.2⟩
  cases e with
  | normal => exact fin none hend
  | ret => exact fin (some none) hend
  | exit id => exact fin (some (some id)) hend
  | goto l => exact hend.elim
  | panic ch => exact hend.elim
  | outgrown => exact hend.elim

theorem Sat.allocObj {G : Gh} {a : Act} {w : World} {st : ASt} (hs : Sat C G a w st) (o : Obj) : Ext st.bx st.rw G w G (w.alloc o) := by
  have hb := (Below.refl w.heap.size w).alloc (Nat.le_refl _) o
  exact msat_ext hs.mem hb G.imm (fun _ _ i => i) (fun _ _ i => .inl i) fun b i hi => by rw [World.cell?_of_block (w := w) (hb.block b (hs.mem.lt_imm hi))]; exact hs.mem.immOk b i hi
theorem Sat.reEnv {G : Gh} {a a' : Act} {w : World} {st : ASt} (hs : Sat C G a w st) (ht : a'.tmps = a.tmps) (he : ∃ D, EnvD C G a'.defers st.ys D w) : Sat C G a' w st :=
  ⟨ht ▸ hs.size, hs.callers, hs.frame, hs.le, hs.fresh, hs.ownB, hs.ownR, he, hs.mem, fun t c x hl => by rw [ht]; exact hs.slot t c x hl⟩

theorem Sat.enterLoop {G : Gh} {a : Act} {w : World} {st : ASt} (hs : Sat C G a w st) (fn : FuncId) (ps : Array Tmp) (assign body : Code) :
    ∃ L mk w1 D dB, (Instr.enterLoop fn a.tmps ps assign body C.round).run P w = .ok (L, mk) w1 ∧ Sat C G ⟨a.tmps, mk ++ a.defers⟩ w1 st ∧ EnvD C G (mk ++ a.defers) st.ys D w1 ∧ ¬ D L ∧ L < w1.heap.size ∧ C.w0.heap.size ≤ L ∧ (∀ k, mark k ∈ mk ++ a.defers → k < w1.heap.size) ∧ (∀ r, C.round = some r → r < w1.heap.size) ∧
      G.Le w G w1 ∧ w1.heap[L]? = some (.loop { state := .ready, pending := none, fn, tmps := a.tmps, params := ps, assign, body, defers := dB }) := by
  obtain ⟨D, e⟩ := hs.env
  have hC := hs.frame.size
  cases hr : C.round with
  | none =>
    have x1 := hs.allocObj (.deferred (some []))
    have s1 := hs.ext x1
    have e1 := e.ext hs.mem x1
    obtain ⟨rec, hrec⟩ : ∃ r : Loop, r = { state := .ready, pending := none, fn, tmps := a.tmps, params := ps, assign, body, defers := w.heap.size } := ⟨_, rfl⟩
    have x2 := s1.allocObj (.loop rec)
    have s2 := s1.ext x2
    have e2 := e1.ext s1.mem x2
    have hD : ∀ k, w.heap.size ≤ k → ¬ D k := fun k hk hd => by have := e.lt k hd; omega
    have hsz : ((w.alloc (.deferred (some []))).alloc (.loop rec)).heap.size = w.heap.size + 2 := by simp
    have e3 : EnvD C G ([mark w.heap.size] ++ a.defers) st.ys D ((w.alloc (.deferred (some []))).alloc (.loop rec)) := by
      refine ⟨e2.l, e2.cons, e2.sub, e2.lt, e2.bx, e2.rw, e2.imm, ?_, e2.record⟩
      obtain ⟨l, h1, h2, h3⟩ := e2.marks
      obtain ⟨l', h1', _, h3'⟩ := e.marks
      refine ⟨w.heap.size :: l, by rw [h1]; rfl, ?_, fun k hk => ?_⟩
      · rw [List.nodup_cons]
        refine ⟨fun hm => ?_, h2⟩
        have : l = l' := (List.map_inj_right (f := mark) (fun x y h => by simpa [mark] using h)).1 (h1.symm.trans h1')
        have h4 := (h3' w.heap.size (this ▸ hm)).1
        rw [Array.getElem?_eq_none (Nat.le_refl _)] at h4; cases h4
      · rcases List.mem_cons.1 hk with rfl | hk
        · exact ⟨(Below.heap_alloc _ _ _ (by simp)).trans (World.alloc_heap_new w _), hD _ (Nat.le_refl _), hC⟩
        · exact h3 k hk
    refine ⟨w.heap.size + 1, [mark w.heap.size], (w.alloc (.deferred (some []))).alloc (.loop rec), D, w.heap.size, ?_, s2.reEnv rfl ⟨D, e3⟩, e3, hD _ (by omega), by omega, by omega, fun k hk => ?_, fun r h => (by cases h), x1.le.trans x2.le, ?_⟩
    · rw [hrec]; exact run_enterLoop_outer _ _ _ _ _
    · obtain ⟨l, h1, _, h3⟩ := e3.marks
      rw [h1] at hk
      obtain ⟨k', hk', he⟩ := List.mem_map.1 hk
      have : k' = k := by simpa [mark] using he
      subst this
      exact (Array.getElem?_eq_some_iff.1 (h3 k' hk').1).1
    · rw [← hrec]
      have := World.alloc_heap_new (w.alloc (.deferred (some []))) (.loop rec)
      rwa [World.size_alloc] at this
  | some r =>
    obtain ⟨⟨L0, hL0⟩, _⟩ := e.record r hr
    obtain ⟨rec, hrec⟩ : ∃ q : Loop, q = { state := .ready, pending := none, fn, tmps := a.tmps, params := ps, assign, body, defers := L0.defers } := ⟨_, rfl⟩
    have x2 := hs.allocObj (.loop rec)
    have s2 := hs.ext x2
    have e2 := e.ext hs.mem x2
    have hsz : (w.alloc (.loop rec)).heap.size = w.heap.size + 1 := by simp
    refine ⟨w.heap.size, [], w.alloc (.loop rec), D, L0.defers, ?_, s2, e2, fun hd => by have := e.lt _ hd; omega, by omega, hC, fun k hk => ?_, fun q h => ?_, x2.le, ?_⟩
    · rw [hrec]; exact run_enterLoop_inner hL0 _ _ _ _ _
    · obtain ⟨l, h1, _, h3⟩ := e2.marks
      rw [List.nil_append, h1] at hk
      obtain ⟨k', hk', he⟩ := List.mem_map.1 hk
      have : k' = k := by simpa [mark] using he
      subst this
      exact (Array.getElem?_eq_some_iff.1 (h3 k' hk').1).1
    · cases h
      have := (Array.getElem?_eq_some_iff.1 hL0).1; omega
    · rw [← hrec]; exact World.alloc_heap_new w _

theorem wpA_rangeFunc {g : Operand} {ps : Array Tmp} {assign body : Code} {Q : Exit → ASt → Prop} {x : AV} {f : FuncId} {cap : List AV} {items : List (List AV)} {bx : List (List AV)} {rw : List ARow} {ys : (Nat × List (List AV)) × List (List AV) × Bool} (Inv : LInv)
    (hg : (ASt.mk nt nb sl bx rw ys).ev g = some (true, x)) (hx : calleeA x = some (f, [], cap)) (hcap : AV.freeL cap) (hseq : SeqA P f cap items) (hps : ps.toList.Nodup ∧ ∀ p ∈ ps.toList, p < nt) (hm64 : bx.length < 64) (h0 : Inv [] none bx rw ys)
    (hround : ∀ h item bx' rw' ys', Inv h none bx' rw' ys' → (h ++ [item]) <+: items → bx'.length = bx.length → item.length = ps.toList.length ∧ wpA P assign (fun e s => e = .normal ∧ wpA P body (roundEnd bx.length Inv (h ++ [item])) s) ⟨nt, bx.length + 64 * rw'.length, zipSl ps.toList item ++ sl, bx', rw', ys'⟩)
    (hdone : ∀ bx' rw' ys', Inv items none bx' rw' ys' → Q .normal ⟨nt, nb, sl, bx', rw', ys'⟩)
    (hjump : ∀ h j bx' rw' ys', h <+: items → Inv h (some j) bx' rw' ys' → Q (je j) ⟨nt, nb, sl, bx', rw', ys'⟩) : wpA P (.rangeFunc g ps assign body) Q ⟨nt, nb, sl, bx, rw, ys⟩ := by
  intro C G a w hs
  refine wpIn_rangeFunc fun fn _ => ?_
  obtain ⟨L, mk, w1, D, dB, q1, hs1, e1, q2, q3, q4, q5, q6, q7, q8⟩ := hs.enterLoop fn ps assign body
  obtain ⟨rec, hrec⟩ : ∃ r : LoopState → Option Code → Loop, r = fun st pe => { state := st, pending := pe, fn, tmps := a.tmps, params := ps, assign, body, defers := dB } := ⟨_, rfl⟩
  have e2 := (evOk_of (x := g) fun t _ => hs1.slot t) _ _ hg rfl
  have hval : ∃ cs : List Value, a.eval g = .func (.func f) #[] cs.toArray ∧ AV.relL G w1 cap cs := by
    have e2' : x.rel G w1 (a.eval g) := e2
    unfold calleeA at hx
    split at hx
    · simp only [Option.some.injEq, Prod.mk.injEq] at hx
      obtain ⟨rfl, _, rfl⟩ := hx
      exact ⟨[], rel_raw e2', rfl⟩
    · simp only [Option.some.injEq, Prod.mk.injEq] at hx
      obtain ⟨rfl, rfl, rfl⟩ := hx
      obtain ⟨fs, cs, r1, r2, r3⟩ := e2'
      exact ⟨cs, by rw [r1, show fs = [] from r2], r3⟩
    · cases hx
  obtain ⟨cs, hv, hcs⟩ := hval
  have hcs' := AV.relL_free (G := G) (G' := ⟨G.imm, [], []⟩) (fun _ _ i => i) _ _ hcap hcs
  refine ⟨L, mk, w1, { target := .fn (.func f) cs.toArray, args := #[.func (.yield L) #[] #[]] }, w1, f, #[.func (.yield L) #[] #[]] ++ cs.toArray, w1, q1, ?_, fun _ _ => trivial, ?_, (fun h => by cases h), callsIn_fen ?_⟩
  · simp only [resolve, hv]
    simp [go_sem]
  · have := hseq.ok.run (#[.func (.yield L) #[] #[]] ++ cs.toArray) w1
    simp only [invoke]
    simpa using this
  have hlw : LoopS C G w1 ⟨a.tmps, mk ++ a.defers⟩ nt nb sl bx.length L (fun _ => False) G.imm (fun k => k < w1.heap.size) w1 G bx rw ys D :=
    ⟨hs1, e1, rfl, rfl, Gh.Le.refl _ _, fun _ _ i => .inl i, fun _ h _ => h, fun _ h => h.elim, fun x hx g hg => by
      obtain ⟨k, hk⟩ := List.mem_iff_getElem?.1 hx
      exact hs1.mem.lt_row hk hg, fun k hk => e1.lt k hk, q2, q3, q4, fun k hk => hs1.mem.lt_box hk, Nat.le_refl _, q5, q6⟩
  have hcall := hseq.calls L G.imm (fun k => k < w1.heap.size) (LoopW C G w1 ⟨a.tmps, mk ++ a.defers⟩ nt nb sl bx.length L (fun _ => False) rec Inv) w1 ([.func (.yield L) #[] #[]] ++ cs) (fun b o i => hs1.mem.immOk b o i) loopW_stable (fun _ _ _ _ _ hW => loopW_tabs hW)
    (loopW_yOk hm64 (a1 := ⟨a.tmps, mk ++ a.defers⟩) hrec hps fun h item bx' rw' ys' hi hp hl => hround h item bx' rw' ys' hi hp hl) ⟨G, none, bx, rw, ys, D, hlw, h0, rfl, by rw [hrec]; exact q8⟩ (fun _ h => h) ⟨_, _, rfl, rfl, hcs'⟩
  rw [show #[Value.func (.yield L) #[] #[]] ++ cs.toArray = ([Value.func (.yield L) #[] #[]] ++ cs).toArray from by simp]
  refine hcall.mono ?_
  rintro e w3 ⟨v, I', D', pre, s, rfl, ho, _, ⟨G', j, bx', rw', ys', Do, S, hi, rfl, hr⟩, hpre, hall⟩
  have hb : (rec (if j.isNone then .ready else .done) (j.map jc)).state ≠ .busy := by rw [hrec]; cases j <;> simp
  refine ⟨_, _, run_endLoop hr hb, ?_⟩
  have hpend : (rec (if j.isNone then .ready else .done) (j.map jc)).pending = j.map jc := by rw [hrec]
  rw [hpend]
  have fin : ∀ o : Loop, Sat C G' ⟨a.tmps, mk ++ a.defers⟩ (w3.putObj L (.loop o)) ⟨nt, nb, sl, bx', rw', ys'⟩ := fun o => by
    refine S.sat.non _ hr rfl S.c0 rfl ⟨Do, S.env.non S.sat.mem _ hr rfl S.notL (fun _ => ⟨_, rfl⟩) ?_⟩
    obtain ⟨l, h1, h2, h3⟩ := S.env.marks
    exact ⟨l, h1, h2, fun k hk => ⟨fun e => (by subst e; rw [(h3 k hk).1] at hr; cases hr), h3 k hk⟩⟩
  cases j with
  | none =>
    have : pre = items := hall rfl
    subst this
    exact ⟨G', _, fin _, hdone _ _ _ hi⟩
  | some j =>
    have hQ := hjump pre j bx' rw' ys' hpre hi
    cases j with
    | none => exact wpIn_ret ⟨G', _, fin _, hQ⟩
    | some id => exact wpIn_exit ⟨G', _, fin _, hQ⟩
end loops
end Go.Proofs.YtchpbdecipcelaaGreatDoor
namespace Go.Proofs.YtchpbdecipcelaaGreatDoor
set_option linter.unusedVariables false
set_option linter.unusedSimpArgs false
set_option maxHeartbeats 4000000
set_option maxRecDepth 100000
open Go.RowKit

section drawE
variable {P : Program} {Q : Exit → ASt → Prop} {k : ASt → Prop} {T : TT} {full : List Oper} {m : Nat} {r l : List Oper} {nt nb : Nat} {sl : List (Nat × (Bool × AV))} {bx : List (List AV)} {rw : List ARow} {ys : (Nat × List (List AV)) × List (List AV) × Bool} {st : ASt} {o : Oper} {d : Nat}
end drawE
end Go.Proofs.YtchpbdecipcelaaGreatDoor
namespace Go.Proofs.YtchpbdecipcelaaGreatDoor
set_option linter.unusedVariables false
set_option linter.unusedSimpArgs false
set_option maxHeartbeats 4000000
set_option maxRecDepth 100000
open Go.RowKit
attribute [go_sem] opA mkA chunkA zerosA eqC eqA2 negIf byteA wrapA wrapP List.isEmpty_cons List.isEmpty_nil placesA fillA ASt.ev ASt.evL ASt.look lookN_cons
  avOf binA unA lenA minA maxA ASt.asL optI loI hiI cutN cutE cutA nthA TK.agg guardA callA calleeA_func calleeA_fn cellsA retA resA pickB_and pickB_or pickB_t
  pickB_f putL overL List.getElem?_toArray List.getElem?_cons_zero List.getElem?_cons_succ List.drop_succ_cons List.drop_zero List.take_succ_cons
  List.take_zero List.set_cons_zero List.set_cons_succ List.length_cons List.length_nil List.nil_append List.append_nil List.cons_append
  Option.bind_some cond_true cond_false Int.toNat_natCast List.map_cons List.map_nil List.toList_toArray decide_true decide_false Bool.true_and
  Bool.and_true Bool.false_and Bool.and_false Bool.true_or Bool.or_true Bool.false_or Bool.or_false Bool.not_true Bool.not_false Nat.zero_add
  Nat.add_zero

theorem evl {α : Type} {a b : α} (h : a = b := by first | ((conv => lhs; simp only [go_sem, ↓reduceIte, Nat.reduceEqDiff, Nat.reduceAdd, Nat.reduceMul]) <;> rfl) | rfl) : a = b := h
theorem obl {p : Prop} (h : p := by
    intro hg
    first
      | (simp only [List.forall_mem_cons, List.not_mem_nil, false_implies, implies_true, forall_const, true_and, and_true, and_self, true_implies, imp_self, or_false, AV.freeL, AV.free, AV.oneL, AV.one, Value.oneCell', inK, cellsA, List.length_cons, List.length_nil, List.map_cons, List.map_nil, reduceCtorEq, ne_eq, not_false_eq_true, Nat.zero_add]; done)
      | (simp only [List.forall_mem_cons, List.not_mem_nil, false_implies, implies_true, forall_const, true_and, and_true, and_self, true_implies, imp_self, or_false, AV.freeL, AV.free, AV.oneL, AV.one, Value.oneCell', inK, cellsA, List.length_cons, List.length_nil, List.map_cons, List.map_nil, reduceCtorEq, ne_eq, not_false_eq_true, Nat.zero_add, Bool.not_eq_true', Bool.not_eq_false']; done)
      | (simp only [List.forall_mem_cons, List.not_mem_nil, false_implies, implies_true, forall_const, true_and, and_true, and_self, true_implies, imp_self, or_false, AV.freeL, AV.free, AV.oneL, AV.one, Value.oneCell', inK, cellsA, List.length_cons, List.length_nil, List.map_cons, List.map_nil, reduceCtorEq, ne_eq, not_false_eq_true, Nat.zero_add]; omega)
      | (simp only [List.forall_mem_cons, List.not_mem_nil, false_implies, implies_true, forall_const, true_and, and_true, and_self, true_implies, imp_self, or_false, AV.freeL, AV.free, AV.oneL, AV.one, Value.oneCell', inK, cellsA, List.length_cons, List.length_nil, List.map_cons, List.map_nil, reduceCtorEq, ne_eq, not_false_eq_true, Nat.zero_add]; (repeat' refine And.intro ?_ ?_) <;> (intro _ _; refine freeL_chunk ?_; simp only [List.forall_mem_cons, List.not_mem_nil, false_implies, implies_true, forall_const, true_and, and_true, and_self, true_implies, imp_self, or_false, AV.freeL, AV.free, AV.oneL, AV.one, Value.oneCell', inK, cellsA, List.length_cons, List.length_nil, List.map_cons, List.map_nil, reduceCtorEq, ne_eq, not_false_eq_true, Nat.zero_add]; done))
      | ((try simp only [Bool.and_eq_true, Bool.or_eq_true, Bool.not_eq_true', decide_eq_true_eq, decide_eq_false_iff_not, Bool.and_eq_false_iff, Bool.or_eq_false_iff, Bool.not_eq_false'] at hg)
         (try simp only [List.forall_mem_cons, List.not_mem_nil, false_implies, implies_true, forall_const, true_and, and_true, and_self, true_implies, imp_self, or_false, AV.freeL, AV.free, AV.oneL, AV.one, Value.oneCell', inK, cellsA, List.length_cons, List.length_nil, List.map_cons, List.map_nil, reduceCtorEq, ne_eq, not_false_eq_true, Nat.zero_add, Bool.and_eq_true, Bool.or_eq_true, Bool.not_eq_true', decide_eq_true_eq, decide_eq_false_iff_not, Bool.and_eq_false_iff, Bool.or_eq_false_iff, Bool.not_eq_false'])
         (repeat' apply And.intro) <;> first | omega | (intro _ _; refine freeL_chunk ?_; simp only [List.forall_mem_cons, List.not_mem_nil, false_implies, implies_true, forall_const, true_and, and_true, and_self, true_implies, imp_self, or_false, AV.freeL, AV.free, AV.oneL, AV.one, Value.oneCell', inK, cellsA, List.length_cons, List.length_nil, List.map_cons, List.map_nil, reduceCtorEq, ne_eq, not_false_eq_true, Nat.zero_add]; done) | (simp [hg]; done) | (simp_all; done))
      | (simp only [List.forall_mem_cons, List.not_mem_nil, false_implies, implies_true, forall_const, true_and, and_true, and_self, true_implies, imp_self, or_false, AV.freeL, AV.free, AV.oneL, AV.one, Value.oneCell', inK, cellsA, List.length_cons, List.length_nil, List.map_cons, List.map_nil, reduceCtorEq, ne_eq, not_false_eq_true, Nat.zero_add, Bool.and_eq_true, Bool.or_eq_true, Bool.not_eq_true', decide_eq_true_eq, decide_eq_false_iff_not, Bool.and_eq_false_iff, Bool.or_eq_false_iff, Bool.not_eq_false'] at hg ⊢; omega)
      | (simp_all; done)
      | (simp_all; omega)) : p := h
theorem ob0 {p : Prop} (h : p := by first | (simp only [List.forall_mem_cons, List.not_mem_nil, false_implies, implies_true, forall_const, true_and, and_true, and_self, true_implies, imp_self, or_false, AV.freeL, AV.free, AV.oneL, AV.one, Value.oneCell', inK, cellsA, List.length_cons, List.length_nil, List.map_cons, List.map_nil, reduceCtorEq, ne_eq, not_false_eq_true, Nat.zero_add]; done) | (simp only [List.forall_mem_cons, List.not_mem_nil, false_implies, implies_true, forall_const, true_and, and_true, and_self, true_implies, imp_self, or_false, AV.freeL, AV.free, AV.oneL, AV.one, Value.oneCell', inK, cellsA, List.length_cons, List.length_nil, List.map_cons, List.map_nil, reduceCtorEq, ne_eq, not_false_eq_true, Nat.zero_add]; omega) | (simp; done) | (simp_all; done) | (simp_all; omega)) : p := h
theorem ob1 {p : Prop} (h : p := by first | (simp only [List.forall_mem_cons, List.not_mem_nil, false_implies, implies_true, forall_const, true_and, and_true, and_self, true_implies, imp_self, or_false, AV.freeL, AV.free, AV.oneL, AV.one, Value.oneCell', inK, cellsA, List.length_cons, List.length_nil, List.map_cons, List.map_nil, reduceCtorEq, ne_eq, not_false_eq_true, Nat.zero_add]; done) | (simp [AV.oneL, AV.one, Value.oneCell', cellsA]; done) | fail) : p := h
section
variable {P : Program} {T : TT} {ops : Array Oper} {r : List Oper} {k : ASt → Prop} {nt nb : Nat} {sl : List (Nat × (Bool × AV))} {bx : List (List AV)} {rw : List ARow} {ys : (Nat × List (List AV)) × List (List AV) × Bool} {o : Oper} {d : Nat}
theorem sBox {t : TypeId} {x : Operand} (hop : o.op = .box t x) (hg : o.guard = none) (hd : o.dst = some d) (hn : Nat.blt d nt = true)
    (h : ∃ y, (ASt.mk nt nb sl bx rw ys).ev x = some (true, y) ∧ AV.oneL ⟨nt, nb, sl, bx, rw, ys⟩ (cellsA y) ∧ ∃ m, bx.length = m ∧ ∃ bx', bx ++ [cellsA y] = bx' ∧ runS P ops r k ⟨nt, nb, (d, (true, .box m 0)) :: sl, bx', rw, ys⟩) : runS P ops (o :: r) k ⟨nt, nb, sl, bx, rw, ys⟩ := by
  obtain ⟨y, h1, h2, m, rfl, bx', rfl, h3⟩ := h
  exact runS_box' hop hg hd hn ⟨y, h1, h2, h3⟩
theorem sAlloc (hT : TOk P T) {t : TypeId} (hop : o.op = .alloc t) (hg : o.guard = none) (hd : o.dst = some d) (hn : Nat.blt d nt = true)
    (h : ∃ i, T t = some i ∧ ∃ m, bx.length = m ∧ ∃ bx', bx ++ [i.zero.map .raw] = bx' ∧ runS P ops r k ⟨nt, nb, (d, (true, .box m 0)) :: sl, bx', rw, ys⟩) : runS P ops (o :: r) k ⟨nt, nb, sl, bx, rw, ys⟩ := by
  obtain ⟨i, h1, m, rfl, bx', rfl, h3⟩ := h
  exact runS_alloc' hT hop hg hd hn ⟨i, h1, h3⟩
theorem sStore (hT : TOk P T) {t : TypeId} {p x : Operand} (hop : o.op = .store t p x) (hg : o.guard = none) (hd : o.dst = none)
    (h : ∃ b off, (ASt.mk nt nb sl bx rw ys).ev p = some (true, .box b off) ∧ ∃ cs, bx[b]? = some cs ∧ ∃ i, T t = some i ∧ ∃ y, (ASt.mk nt nb sl bx rw ys).ev x = some (true, y) ∧
      (AV.oneL ⟨nt, nb, sl, bx, rw, ys⟩ (cellsA y) ∧ (cellsA y).length = i.size ∧ off + i.size ≤ cs.length) ∧ ∃ bx', bx.set b (putL cs off (cellsA y)) = bx' ∧ runS P ops r k ⟨nt, nb, sl, bx', rw, ys⟩) : runS P ops (o :: r) k ⟨nt, nb, sl, bx, rw, ys⟩ := by
  obtain ⟨b, off, h1, cs, h2, i, h3, y, h4, h5, bx', rfl, h6⟩ := h
  exact runS_store' hT hop hg hd ⟨b, off, h1, cs, h2, i, h3, y, h4, h5, h6⟩
end
end Go.Proofs.YtchpbdecipcelaaGreatDoor
namespace Go.Proofs.YtchpbdecipcelaaGreatDoor
set_option linter.unusedVariables false
set_option linter.unusedSimpArgs false
set_option maxHeartbeats 4000000
set_option maxRecDepth 100000
open Go.RowKit
theorem wpA_join {P : Program} {Q : Exit → ASt → Prop} {st : ASt} {x y : Code} (st1 : ASt) (h : wpA P x (thenA (fun s => Weak s st1) Q) st) (h2 : wpA P y Q st1) : wpA P x (thenA (wpA P y Q) Q) st :=
  wpA_mono h fun e s hq => by cases e <;> first | exact wpA_weak hq h2 | exact hq
end Go.Proofs.YtchpbdecipcelaaGreatDoor
