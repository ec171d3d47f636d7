/- The abstract logic: iterators and loops over them. -/
import Derived.Test.YticlpcgkaffdmaaAlSeq
namespace Go.Proofs.Yticlpcgkaffdmaa
set_option linter.unusedSectionVars false
set_option linter.unusedVariables false
set_option linter.unusedSimpArgs false
open Go.RowKit

/-- An iterator: whoever ranges over it gets these items, one by one, as long as he wants more. -/
structure SeqA (P : Program) (f : FuncId) (cap : List AV) (items : List (List AV)) : Prop where
  ok : CallOk P f
  calls : ∀ (l : Nat) (I0 : Nat → Nat → Prop) (D : Nat → Prop) (W : Env) (w : World) (vs : List Value), (∀ b o, I0 b o → (w.cell? ⟨b, o, none⟩).isSome = true) → StableW W → YOk P (l, items) I0 W → W [] false I0 D w → (∀ k, D k → k < w.heap.size) →
    AV.relL ⟨I0, [], []⟩ w ([.raw (.func (.yield l) #[] #[])] ++ cap) vs →
    Calls P f vs.toArray w fun e w' => ∃ v I' D' pre s, e = .returned v ∧ Outside D w w' ∧ (∀ k, D' k → k < w'.heap.size) ∧ W pre s I' D' w' ∧ pre <+: items ∧ (s = false → pre = items)

/-- What stands at the end of an iterator's body. -/
def seqPost (items : List (List AV)) (e : Exit) (st : ASt) : Prop := (e = .normal ∨ e = .ret) ∧ st.ys.2.1 <+: items ∧ (st.ys.2.2 = false → st.ys.2.1 = items)

theorem seqA_of {P : Program} {f : FuncId} {fn : Func} {c : Code} {cap : List AV} {items : List (List AV)} (hf : P.funcs[f]? = some fn) (hb : fn.body = some c) (hnm : (fn.name == "runtime.NumGoroutine") = false) (n : Nat) (hn : fn.ntmps = n) (hlen : cap.length + 1 ≤ n) (hrs : fn.results.toList = [])
    (h : ∀ l, wpA P c (seqPost items) ⟨n, 0, argSl 0 ([.raw (.func (.yield l) #[] #[])] ++ cap), [], [], ((l, items), [], false)⟩) : SeqA P f cap items := by
  refine ⟨⟨fn, hf, hnm, by rw [hb]; rfl⟩, fun l I0 D W w vs hi hst hy hW hD hr => ?_⟩
  have hvl := AV.relL_length hr
  let C : Ctx P := ⟨none, (l, items), D, W, I0, ⟨I0, [], []⟩, w, fun _ _ i => i, hst, hy⟩
  have hs : Sat C ⟨I0, [], []⟩ { tmps := vs.toArray ++ Array.replicate (fn.ntmps - vs.toArray.size) undef, defers := [] } w ⟨n, 0, argSl 0 ([.raw (.func (.yield l) #[] #[])] ++ cap), [], [], ((l, items), [], false)⟩ := by
    refine ⟨by simp [hn]; simp at hvl; omega, rfl, Outside.refl _ _, Gh.Le.refl _ _, fun _ _ i => .inl i, fun _ h => by simp at h, fun _ h => by simp at h, ⟨D, rfl, hW, fun _ h => .inl h, hD, fun _ h => by simp at h, fun _ h => by simp at h, fun _ _ i => .inl i, ⟨[], rfl, by simp, fun _ h => by simp at h⟩, fun _ h => by cases h⟩, ⟨hi, rfl, rfl, by simp, fun k cs blk hk _ => by simp at hk, fun k r x hk _ => by simp at hk, fun k x g hk _ => by simp at hk, fun k k' x x' g hk _ _ _ => by simp at hk⟩, ?_⟩
    intro t c x hl
    obtain ⟨j, e1, e2, rfl⟩ := argSl_look hl
    obtain ⟨v, e3, e4⟩ := AV.relL_get hr e2
    have hj : j < vs.length := (List.getElem?_eq_some_iff.1 e3).1
    refine ⟨v, ?_, fun _ => e4, fun h => by cases h⟩
    rw [show t = j from by omega, Array.getElem?_append_left (by simpa using hj)]
    simpa using e3
  refine callsIn_wide.1 (callsIn_of_wp_marks (n := 0) hf hb trivial (wpIn_mono (h l C _ _ _ hs) ?_))
  rintro e a' w1 ⟨G', st', hs1, he, h1, h2⟩
  obtain ⟨tm, df⟩ := a'
  obtain ⟨D1, hD1⟩ := hs1.env
  obtain ⟨ml, hml, _⟩ := hD1.marks
  simp only at hml
  subst hml
  have fin := Sat.leaves (F := Fence.wide) (n := 0) (fn := fn) (tmps := tm) (R := fun e w' => ∃ v I' D' pre s, e = .returned v ∧ Outside D w w' ∧ (∀ k, D' k → k < w'.heap.size) ∧ W pre s I' D' w' ∧ pre <+: items ∧ (s = false → pre = items)) (fun w' hs' => by
    obtain ⟨D2, hD2⟩ := hs'.env
    refine ⟨_, results_run (vs := []) (by rw [hrs]; rfl), _, _, D2, _, _, rfl, hs'.frame.mono fun k _ hm => ?_, hD2.lt, hD2.cons, h1, h2⟩
    rcases hm with hm | hm | ⟨x, hx, _⟩
    · exact hm
    · simp [C] at hm
    · simp [C] at hx) ml w1 hs1
  rcases he with rfl | rfl <;> exact fin

/-! ### What a round begins with -/
def zipSl : List Nat → List AV → List (Nat × (Bool × AV))
  | p :: ps, x :: xs => (p, (true, x)) :: zipSl ps xs
  | _, _ => []
theorem fold_other {t : Nat} : ∀ (ps : List Nat) (vs : List Value) (tmps : Array Value), t ∉ ps → ((ps.zip vs).foldl (fun (t : Array Value) (p : Nat × Value) => t.setIfInBounds p.1 p.2) tmps)[t]? = tmps[t]?
  | [], _, _, _ => by simp
  | _ :: _, [], _, _ => by simp
  | p :: ps, v :: vs, tmps, h => by
    simp only [List.zip_cons_cons, List.foldl_cons]
    rw [fold_other ps vs _ (fun hm => h (by simp [hm])), Array.getElem?_setIfInBounds, if_neg (fun e => h (by simp [e]))]
theorem fold_size : ∀ (ps : List Nat) (vs : List Value) (tmps : Array Value), ((ps.zip vs).foldl (fun (t : Array Value) (p : Nat × Value) => t.setIfInBounds p.1 p.2) tmps).size = tmps.size
  | [], _, _ => by simp
  | _ :: _, [], _ => by simp
  | p :: ps, v :: vs, tmps => by
    simp only [List.zip_cons_cons, List.foldl_cons]
    rw [fold_size ps vs]; simp
theorem zip_look {G : Gh} {w : World} {sl : List (Nat × (Bool × AV))} {t : Nat} {c : Bool} {x : AV} : ∀ (ps : List Nat) (xs : List AV) (vs : List Value) (tmps : Array Value), ps.length = xs.length → AV.relL G w xs vs → ps.Nodup → (∀ p ∈ ps, p < tmps.size) → lookN t (zipSl ps xs ++ sl) = some (c, x) →
    (t ∉ ps → lookN t sl = some (c, x) → ∃ v, tmps[t]? = some v ∧ (c = true → x.rel G w v) ∧ (c = false → v = undef)) → ∃ v, ((ps.zip vs).foldl (fun (t : Array Value) (p : Nat × Value) => t.setIfInBounds p.1 p.2) tmps)[t]? = some v ∧ (c = true → x.rel G w v) ∧ (c = false → v = undef)
  | [], [], _, _, _, _, _, _, hl, h => by simpa using h (by simp) (by simpa [zipSl] using hl)
  | p :: ps, y :: ys, vs, tmps, hlen, hr, hn, hp, hl, h => by
    obtain ⟨v, r, rfl, h1, h2⟩ := hr
    simp only [zipSl, List.cons_append, lookN_cons] at hl
    simp only [List.zip_cons_cons, List.foldl_cons]
    split at hl
    · rename_i e
      subst e
      cases hl
      refine ⟨v, ?_, fun _ => h1, fun h => by cases h⟩
      rw [fold_other ps r _ (List.nodup_cons.1 hn).1, Array.getElem?_setIfInBounds, if_pos rfl, if_pos (hp t (by simp))]
    · rename_i hne
      refine zip_look ps ys r _ (by simpa using hlen) h2 (List.nodup_cons.1 hn).2 (fun q hq => by simpa using hp q (by simp [hq])) hl fun hm hls => ?_
      rw [Array.getElem?_setIfInBounds, if_neg (Ne.symm hne)]
      exact h (by simp [hne, hm]) hls

def jc : Option Nat → Code
  | none => .ret
  | some id => .exit id
def je : Option Nat → Exit
  | none => .ret
  | some id => .exit id
abbrev LInv := List (List AV) → Option (Option Nat) → List (List AV) → List ARow → (Nat × List (List AV)) × List (List AV) × Bool → Prop

/-- Between two rounds. -/
structure LoopS {P : Program} (C : Ctx P) (Gl : Gh) (wl : World) (a1 : Act) (nt nb : Nat) (sl : List (Nat × (Bool × AV))) (m L : Nat) (I : Nat → Nat → Prop) (D : Nat → Prop) (w : World) (G' : Gh) (bx' : List (List AV)) (rw' : List ARow) (ys' : (Nat × List (List AV)) × List (List AV) × Bool) (Do : Nat → Prop) : Prop where
  sat : Sat C G' a1 w ⟨nt, nb, sl, bx', rw', ys'⟩
  env : EnvD C G' a1.defers ys' Do w
  len : bx'.length = m
  bx : G'.bx = Gl.bx
  le : Gl.Le wl G' w
  imm : ∀ b o, G'.imm b o → I b o ∨ D b
  old : ∀ k, k < wl.heap.size → D k
  rowD : ∀ x ∈ G'.rw, ∀ g, x.2.ownBlock = some g → D g
  outD : ∀ k, Do k → D k
  notL : ¬ Do L
  lL : L < wl.heap.size
  c0 : C.w0.heap.size ≤ L
  bxl : ∀ k ∈ Gl.bx, k < wl.heap.size
  size : wl.heap.size ≤ w.heap.size
  marksL : ∀ k, mark k ∈ a1.defers → k < wl.heap.size
  recL : ∀ r, C.round = some r → r < wl.heap.size

def LoopW {P : Program} (C : Ctx P) (Gl : Gh) (wl : World) (a1 : Act) (nt nb : Nat) (sl : List (Nat × (Bool × AV))) (m L : Nat) (rec : LoopState → Option Code → Loop) (Inv : LInv) : Env := fun h s I D w =>
  ∃ G' j bx' rw' ys' Do, LoopS C Gl wl a1 nt nb sl m L I D w G' bx' rw' ys' Do ∧ Inv h j bx' rw' ys' ∧ s = j.isSome ∧ w.heap[L]? = some (.loop (rec (if j.isNone then .ready else .done) (j.map jc)))

section loops
variable {P : Program} {C : Ctx P} {Gl : Gh} {wl : World} {a1 : Act} {nt nb : Nat} {sl : List (Nat × (Bool × AV))} {m L : Nat} {rec : LoopState → Option Code → Loop} {Inv : LInv}

theorem EnvD.same {G : Gh} {ds : List Deferred} {ys : (Nat × List (List AV)) × List (List AV) × Bool} {D : Nat → Prop} {w w' : World} (e : EnvD C G ds ys D w) (ho : Outside (fun k => ¬ D k) w w') (hc : ∀ b o, G.imm b o → w'.cell? ⟨b, o, none⟩ = w.cell? ⟨b, o, none⟩)
    (hm : ∀ k, mark k ∈ ds → w'.heap[k]? = w.heap[k]?) (hr : ∀ r, C.round = some r → w'.heap[r]? = w.heap[r]?) : EnvD C G ds ys D w' := by
  refine ⟨e.l, C.stable _ _ _ _ _ _ _ e.cons ho (fun b o i => ⟨i, hc b o i⟩), e.sub, fun k hk => Nat.lt_of_lt_of_le (e.lt k hk) ho.size, e.bx, e.rw, e.imm, ?_, fun r hr' => ?_⟩
  · obtain ⟨l, h1, h2, h3⟩ := e.marks
    exact ⟨l, h1, h2, fun k hk => ⟨by rw [hm k (by rw [h1]; exact List.mem_map.2 ⟨k, hk, rfl⟩)]; exact (h3 k hk).1, (h3 k hk).2⟩⟩
  · obtain ⟨⟨L, h1⟩, h2⟩ := e.record r hr'
    exact ⟨⟨L, by rw [hr r hr']; exact h1⟩, h2⟩

theorem loopW_stable : StableW (LoopW C Gl wl a1 nt nb sl m L rec Inv) := by
  rintro h s I I' D w w' ⟨G', j, bx', rw', ys', Do, S, hi, hs, hr⟩ ho hI
  have hD : ∀ k, D k → k < w.heap.size → w'.heap[k]? = w.heap[k]? := fun k hk hlt => ho.block k hlt fun h => h hk
  have hcell : ∀ b o, G'.imm b o → w'.cell? ⟨b, o, none⟩ = w.cell? ⟨b, o, none⟩ := fun b o i => by
    rcases S.imm b o i with h | h
    · exact (hI b o h).2
    · exact World.cell?_of_block (w := w) (hD b h (S.sat.mem.lt_imm i))
  have hwl := S.size
  have old : ∀ k, k < wl.heap.size → w'.heap[k]? = w.heap[k]? := fun k hk => hD k (S.old k hk) (Nat.lt_of_lt_of_le hk hwl)
  obtain ⟨ms, le⟩ := msat_keep (w' := w') S.sat.mem G'.imm (fun k hk => old k (S.bxl k (S.bx ▸ hk))) (fun k g x hk hg => hD g (S.rowD x (List.mem_of_getElem? hk) g hg) (S.sat.mem.lt_row hk hg)) hcell (fun _ _ i => i) (fun _ _ i => .inl i) fun b o i => by rw [hcell b o i]; exact S.sat.mem.immOk b o i
  have env : EnvD C G' a1.defers ys' Do w' := S.env.same (ho.mono fun k _ h hd => h (S.outD k hd)) hcell (fun k hk => old k (S.marksL k hk)) fun r hr => old r (S.recL r hr)
  refine ⟨G', j, bx', rw', ys', Do, ⟨⟨S.sat.size, S.sat.callers, ⟨ho.os.trans S.sat.frame.os, ho.tape.trans S.sat.frame.tape, ho.output.trans S.sat.frame.output, Nat.le_trans S.sat.frame.size ho.size, fun k hk hm => ?_⟩, S.sat.le.trans le, S.sat.fresh, S.sat.ownB, S.sat.ownR, ⟨Do, env⟩, ms, fun t c x hl => ?_⟩, env, S.len, S.bx, S.le.trans le, fun b o i => (S.imm b o i).elim (fun i => .inl (hI b o i).1) .inr, S.old, S.rowD, S.outD, S.notL, S.lL, S.c0, S.bxl, Nat.le_trans S.size ho.size, S.marksL, S.recL⟩, hi, hs, ?_⟩
  · have := S.lL; have := S.c0
    exact (old k (by omega)).trans (S.sat.frame.block k hk hm)
  · obtain ⟨v, h1, h2, h3⟩ := S.sat.slot t c x hl
    exact ⟨v, h1, fun hc => AV.rel_mono le _ _ (h2 hc), h3⟩
  · rw [old L S.lL]; exact hr

/-- How a round may end. -/
def roundEnd (m : Nat) (Inv : LInv) (h : List (List AV)) (e : Exit) (st : ASt) : Prop :=
  ∃ nt nb sl bx rw ys, Weak st ⟨nt, nb, sl, bx, rw, ys⟩ ∧ bx.length = m ∧ (match e with
    | .normal => Inv h none bx rw ys
    | .ret => Inv h (some none) bx rw ys
    | .exit id => Inv h (some (some id)) bx rw ys
    | _ => False)

theorem Sat.rebase {G : Gh} {a : Act} {w : World} {st : ASt} (hs : Sat C G a w st) {L : Nat} {L0 L1 : Loop} (hm : w.heap[L]? = some (.loop L0)) (hr : C.round = some L) (hL : L < C.w0.heap.size) (hn : ¬ C.may L) :
    Sat { C with w0 := C.w0.putObj L (.loop L1) } G a (w.putObj L (.loop L1)) st := by
  obtain ⟨m, le⟩ := msat_non hs.mem (.loop L1) hm rfl
  obtain ⟨D, e⟩ := hs.env
  have hD : ¬ D L := (e.record L hr).2
  have e' := e.non (ds' := a.defers) hs.mem (.loop L1) hm rfl hD (fun _ => ⟨_, rfl⟩) (by
    obtain ⟨l, h1, h2, h3⟩ := e.marks
    exact ⟨l, h1, h2, fun k hk => ⟨fun e => (by subst e; rw [(h3 k hk).1] at hm; cases hm), h3 k hk⟩⟩)
  refine ⟨hs.size, hs.callers, ⟨hs.frame.os, hs.frame.tape, hs.frame.output, by simpa using hs.frame.size, fun k hk hm' => ?_⟩, ⟨hs.le.imm, fun b o i => ?_, hs.le.bx, hs.le.rw⟩, by simpa using hs.fresh, by simpa using hs.ownB, by simpa using hs.ownR, ⟨D, e'.l, e'.cons, by simpa using e'.sub, e'.lt, e'.bx, e'.rw, e'.imm, by simpa using e'.marks, e'.record⟩, m, fun t c x hl => ?_⟩
  · by_cases hk' : k = L
    · subst hk'
      rw [World.putObj_heap_same (Array.getElem?_eq_some_iff.1 hm).1]
      exact (World.putObj_heap_same hL).symm
    · rw [World.putObj_heap_other hk']
      show _ = (C.w0.putObj L (.loop L1)).heap[k]?
      rw [World.putObj_heap_other hk']
      exact hs.frame.block k (by simpa using hk) hm'
  · have hne : b ≠ L := hs.mem.imm_ne hm rfl (hs.le.imm b o i)
    rw [le.cell b o (hs.le.imm b o i), hs.le.cell b o i]
    exact (World.cell?_of_block (w := C.w0) (World.putObj_heap_other hne)).symm
  · obtain ⟨v, h1, h2, h3⟩ := hs.slot t c x hl
    exact ⟨v, h1, fun hc => AV.rel_mono le _ _ (h2 hc), h3⟩

theorem loopW_yOk {items : List (List AV)} {ps : Array Tmp} {assign body : Code} {fn : FuncId} {dB : Nat} (hrec : rec = fun st pe => { state := st, pending := pe, fn, tmps := a1.tmps, params := ps, assign, body, defers := dB })
    (hps : ps.toList.Nodup ∧ ∀ p ∈ ps.toList, p < nt)
    (hround : ∀ h item bx' rw' ys', Inv h none bx' rw' ys' → (h ++ [item]) <+: items → bx'.length = m → item.length = ps.toList.length ∧ wpA P assign (fun e s => e = .normal ∧ wpA P body (roundEnd m Inv (h ++ [item])) s) ⟨nt, m, zipSl ps.toList item ++ sl, bx', rw', ys'⟩) :
    YOk P (L, items) Gl.imm (LoopW C Gl wl a1 nt nb sl m L rec Inv) := by
  rintro ro h item I D w vs ⟨G', j, bx', rw', ys', Do, S, hi, hs, hr⟩ hpre hlt hI hI0 hrel
  cases j with
  | some j => cases hs
  | none =>
  change w.heap[L]? = some (.loop (rec .ready none)) at hr
  obtain ⟨hlen, hw⟩ := hround h item bx' rw' ys' hi hpre S.len
  have hvl := AV.relL_length hrel
  have hy := run_yield (P := P) (args := vs.toArray) hr (by rw [hrec]; simp [hvl, hlen])
  let Gb : Gh := ⟨fun b o => G'.imm b o ∨ I b o, G'.bx, G'.rw⟩
  have hDI : ∀ b o, I b o → D b → G'.imm b o := fun b o i hd => by
    rcases (hI b o i).2 with h | h
    · exact S.le.imm b o h
    · exact absurd hd h
  have leb : G'.Le w Gb w := ⟨fun _ _ i => .inl i, fun _ _ _ => rfl, fun _ _ h => h, fun _ e h => ⟨e, h, .inl rfl⟩⟩
  have bxD : ∀ k ∈ G'.bx, D k := fun k hk => S.old k (S.bxl k (S.bx ▸ hk))
  have mb : MSat Gb w bx' rw' := by
    refine ⟨fun b o i => i.elim (S.sat.mem.immOk b o) fun i => (hI b o i).1, S.sat.mem.lenB, S.sat.mem.lenR, S.sat.mem.nodup, fun k cs blk hk hg => ?_, fun k r x hk hg => ?_, S.sat.mem.sepB, S.sat.mem.sepR⟩
    · obtain ⟨e2, vs', T, e3, e4⟩ := S.sat.mem.box k cs blk hk hg
      exact ⟨fun o i => i.elim (e2 o) fun i => e2 o (hDI blk o i (bxD blk (List.mem_of_getElem? hg))), vs', T, e3, AV.relL_mono leb _ _ e4⟩
    · have ro' := S.sat.mem.row k r x hk hg
      obtain ⟨xs, ho, hel⟩ := ro'.own
      refine ⟨ro'.len, ⟨xs, ho, fun i hi => by obtain ⟨us, e1, e2⟩ := hel i hi; exact ⟨us, AV.relL_mono leb _ _ e1, e2⟩⟩, fun g hg' o => ?_⟩
      rw [← ro'.imm g hg' o]
      exact ⟨fun i => i.elim id fun i => hDI g o i (S.rowD x (List.mem_of_getElem? hg) g hg'), .inl⟩
  let Cb : Ctx P := ⟨some L, C.l, Do, C.W, C.I0, Gb, w, fun b o i => .inl (S.sat.le.imm b o (C.base b o i)), C.stable, C.y⟩
  have hLw : L < w.heap.size := Nat.lt_of_lt_of_le S.lL S.size
  have notmay : ¬ Cb.may L := by
    rintro (h | h | ⟨x, h1, h2⟩)
    · exact S.notL h
    · exact S.sat.mem.not_box hr rfl h
    · exact S.sat.mem.not_row hr rfl x h1 h2
  have hfold : ((rec .ready none).params.zip vs.toArray).foldl (fun tmps (t, a) => tmps.setIfInBounds t a) (rec .ready none).tmps = (ps.toList.zip vs).foldl (fun (t : Array Value) (p : Nat × Value) => t.setIfInBounds p.1 p.2) a1.tmps := by
    rw [hrec]
    obtain ⟨pl⟩ := ps
    simp only [List.zip_toArray, List.foldl_toArray]
  have sb : Sat Cb Gb ⟨(ps.toList.zip vs).foldl (fun (t : Array Value) (p : Nat × Value) => t.setIfInBounds p.1 p.2) a1.tmps, []⟩ w ⟨nt, m, zipSl ps.toList item ++ sl, bx', rw', ys'⟩ := by
    refine ⟨by rw [fold_size]; exact S.sat.size, ?_, Outside.refl _ _, Gh.Le.refl _ _, fun _ _ i => .inl i, fun _ h => .inl h, fun x hx g hg => .inl ⟨x, hx, hg⟩, ⟨Do, S.env.l, C.stable _ _ _ _ _ _ _ S.env.cons (Outside.refl _ _) (fun b o i => ⟨.inl i, rfl⟩), fun _ h => .inl h, S.env.lt, S.env.bx, S.env.rw, fun b o i => ?_, ⟨[], rfl, by simp, fun _ h => by simp at h⟩, fun r hr' => ?_⟩, mb, fun t c x hl => ?_⟩
    · show G'.bx.length = m
      rw [S.sat.mem.lenB]; exact S.len
    · rcases i with i | i
      · exact S.env.imm b o i
      · rcases (hI b o i).2 with h | h
        · exact S.env.imm b o (S.le.imm b o h)
        · exact .inr fun hd => h (S.outD b hd)
    · cases hr'
      exact ⟨⟨_, hr⟩, S.notL⟩
    · refine zip_look _ _ _ _ hlen.symm (AV.relL_mono (G := ⟨I, [], []⟩) (G' := Gb) ⟨fun _ _ i => .inr i, fun _ _ _ => rfl, fun _ _ h => by simp at h, fun _ e h => by simp at h⟩ _ _ hrel) hps.1 (fun p hp => by rw [S.sat.size]; exact hps.2 p hp) hl fun _ hl' => ?_
      obtain ⟨v, h1, h2, h3⟩ := S.sat.slot t c x hl'
      exact ⟨v, h1, fun hc => AV.rel_mono leb _ _ (h2 hc), h3⟩
  rw [hfold] at hy
  have hrc : (rec .ready none).fn = fn ∧ (rec .ready none).assign = assign ∧ (rec .ready none).body = body := by rw [hrec]; exact ⟨rfl, rfl, rfl⟩
  rw [hrc.1, hrc.2.1, hrc.2.2] at hy
  refine ⟨fn, _, assign, body, hy, roundIn_of_wpIn trivial (wpIn_mono (hw Cb Gb _ w sb) ?_)⟩
  rintro e a1' w1 ⟨G1, s1, hs1, rfl, hbody⟩
  have hL1 : w1.heap[L]? = some (.loop (rec .ready none)) := (hs1.frame.block L hLw notmay).trans hr
  obtain ⟨busy, hbusy⟩ : ∃ b : Loop, b = { rec .ready none with state := .busy } := ⟨_, rfl⟩
  refine ⟨_, run_beginRound hL1 (by rw [hrec]), ?_⟩
  rw [← hbusy]
  have hs2 := hs1.rebase (L1 := busy) hL1 rfl hLw notmay
  refine wpIn_mono (hbody { Cb with w0 := Cb.w0.putObj L (.loop busy) } G1 a1' _ hs2) ?_
  rintro e a3 w3 ⟨G3, s3, hs3, nt4, nb4, sl4, bx4, rw4, ys4, hwk, hlen4, hend⟩
  obtain ⟨G4, hs4⟩ := hwk P _ G3 a3 w3 hs3
  have hL3 : w3.heap[L]? = some (.loop busy) := (hs4.frame.block L (by simpa [Cb] using hLw) notmay).trans (World.putObj_heap_same hLw)
  have fin : ∀ j : Option (Option Nat), Inv (h ++ [item]) j bx4 rw4 ys4 → ∃ v w', (Instr.endRound L (j.map jc)).run P w3 = .ok v w' ∧ ∃ b D', Ending.returned v = .returned (.bool b) ∧ LoopW C Gl wl a1 nt nb sl m L rec Inv (h ++ [item]) (!b) I D' w' ∧ Outside D w w' ∧ (∀ b o, I b o → w'.cell? ⟨b, o, none⟩ = w.cell? ⟨b, o, none⟩) ∧ (∀ k, D' k → (D k ∨ w.heap.size ≤ k) ∧ k < w'.heap.size) := by
    intro j hj
    obtain ⟨w4, hw4⟩ : ∃ w4, w4 = w3.putObj L (.loop (rec (if j.isNone then .ready else .done) (j.map jc))) := ⟨_, rfl⟩
    have hend' : (Instr.endRound L (j.map jc)).run P w3 = .ok (.bool j.isNone) w4 := by
      rw [run_endRound _ hL3, hw4, hbusy, hrec]
      cases j <;> rfl
    have hsz4 : w4.heap.size = w3.heap.size := by rw [hw4]; simp
    have hsz3 : w.heap.size ≤ w3.heap.size := by simpa [Cb] using hs4.frame.size
    have mayD : ∀ k, Cb.may k → D k := by
      rintro k (h | h | ⟨x, h1, h2⟩)
      · exact S.outD k h
      · exact bxD k h
      · exact S.rowD x h1 k h2
    have blk : ∀ k, k < w.heap.size → ¬ Cb.may k → k ≠ L → w4.heap[k]? = w.heap[k]? := fun k hk hm hne => by
      rw [hw4, World.putObj_heap_other hne]
      exact (hs4.frame.block k (by simpa [Cb] using hk) hm).trans (World.putObj_heap_other hne)
    have ow : Outside Cb.may (w.putObj L (.loop busy)) w3 := hs4.frame
    have os4 : w4.os = w.os ∧ w4.tape = w.tape ∧ w4.output = w.output := by rw [hw4]; exact ⟨ow.os, ow.tape, ow.output⟩
    obtain ⟨m4, le4⟩ := msat_non hs4.mem (.loop (rec (if j.isNone then .ready else .done) (j.map jc))) hL3 rfl
    rw [← hw4] at m4 le4
    have cell4 : ∀ b o, Gb.imm b o → w4.cell? ⟨b, o, none⟩ = w.cell? ⟨b, o, none⟩ := fun b o i => by
      rw [le4.cell b o (hs4.le.imm b o i), hs4.le.cell b o i]
      exact World.cell?_of_block (w := w) (World.putObj_heap_other (mb.imm_ne hr rfl i))
    have leW : G'.Le w G4 w4 := ⟨fun b o i => hs4.le.imm b o (.inl i), fun b o i => cell4 b o (.inl i), hs4.le.bx, hs4.le.rw⟩
    obtain ⟨D3, e3⟩ := hs4.env
    have hD3 : ∀ k, D3 k → Do k ∨ w.heap.size ≤ k := fun k hk => by simpa [Cb] using e3.sub k hk
    have notL3 : ¬ D3 L := fun hd => (hD3 L hd).elim S.notL fun hge => by omega
    have hbx4 : G4.bx = G'.bx := by
      refine List.ext_getElem? fun k => ?_
      rcases Nat.lt_or_ge k G'.bx.length with hk | hk
      · rw [List.getElem?_eq_getElem hk]
        exact hs4.le.bx k _ (List.getElem?_eq_getElem hk)
      · rw [List.getElem?_eq_none hk, List.getElem?_eq_none]
        rw [hs4.mem.lenB, hlen4, ← S.len, ← S.sat.mem.lenB]; exact hk
    have hC0 : C.w0.heap.size ≤ w.heap.size := S.sat.frame.size
    have hrow4 : ∀ x ∈ G4.rw, ∀ g, x.2.ownBlock = some g → (∃ y ∈ G'.rw, y.2.ownBlock = some g) ∨ w.heap.size ≤ g := fun x hx g hg => by simpa [Cb] using hs4.ownR x hx g hg
    have env4 : EnvD C G4 a1.defers ys4 D3 w4 := by
      refine ⟨e3.l, C.stable _ _ _ _ _ _ _ e3.cons ?_ (fun b o i => ⟨i, le4.cell b o i⟩), fun k hk => ?_, fun k hk => by rw [hsz4]; exact e3.lt k hk, e3.bx, e3.rw, e3.imm, ?_, fun r hr' => ?_⟩
      · rw [hw4]
        exact ⟨rfl, rfl, rfl, by simp, fun k _ hk => World.putObj_heap_other fun e => hk (e ▸ notL3)⟩
      · rcases hD3 k hk with h | h
        · exact S.env.sub k h
        · exact .inr (Nat.le_trans hC0 h)
      · obtain ⟨l, q1, q2, q3⟩ := S.env.marks
        refine ⟨l, q1, q2, fun k hk => ?_⟩
        obtain ⟨q4, q5, q6⟩ := q3 k hk
        have hlt' : k < w.heap.size := (Array.getElem?_eq_some_iff.1 q4).1
        refine ⟨(blk k hlt' ?_ ?_).trans q4, fun hd => (hD3 k hd).elim q5 fun h => by omega, q6⟩
        · rintro (h | h | ⟨x, h1, h2⟩)
          · exact q5 h
          · exact S.sat.mem.not_box q4 rfl h
          · exact S.sat.mem.not_row q4 rfl x h1 h2
        · intro e; subst e; rw [q4] at hr; cases hr
      · obtain ⟨⟨L', q4⟩, q5⟩ := S.env.record r hr'
        have hlt' : r < w.heap.size := (Array.getElem?_eq_some_iff.1 q4).1
        refine ⟨?_, fun hd => (hD3 r hd).elim q5 fun h => by omega⟩
        by_cases hrL : r = L
        · subst hrL
          rw [hw4]
          exact ⟨_, World.putObj_heap_same (Array.getElem?_eq_some_iff.1 hL3).1⟩
        · refine ⟨L', (blk r hlt' ?_ hrL).trans q4⟩
          rintro (h | h | ⟨x, h1, h2⟩)
          · exact q5 h
          · exact S.sat.mem.not_box q4 rfl h
          · exact S.sat.mem.not_row q4 rfl x h1 h2
    have hL4 : w4.heap[L]? = some (.loop (rec (if j.isNone then .ready else .done) (j.map jc))) := by rw [hw4]; exact World.putObj_heap_same (Array.getElem?_eq_some_iff.1 hL3).1
    have freshG : ∀ b o, G4.imm b o → (G'.imm b o ∨ I b o) ∨ w.heap.size ≤ b ∨ ∃ x ∈ G'.rw, x.2.ownBlock = some b := fun b o i => by simpa [Cb, Gb] using hs4.fresh b o i
    refine ⟨_, w4, hend', j.isNone, fun k => D k ∨ (w.heap.size ≤ k ∧ k < w4.heap.size), rfl, ⟨G4, j, bx4, rw4, ys4, D3, ⟨⟨S.sat.size, S.sat.callers, ?_, S.sat.le.trans leW, fun b o i => ?_, ?_, fun x hx g hg => ?_, ⟨D3, env4⟩, m4, fun t c x hl => ?_⟩, env4, hlen4, hbx4.trans S.bx, S.le.trans leW, fun b o i => ?_, fun k hk => .inl (S.old k hk), fun x hx g hg => ?_, fun k hk => ?_, notL3, S.lL, S.c0, S.bxl, ?_, S.marksL, S.recL⟩, hj, by cases j <;> rfl, hL4⟩, ?_, fun b o i => cell4 b o (.inr i), fun k hk => ?_⟩
    · refine ⟨os4.1.trans S.sat.frame.os, os4.2.1.trans S.sat.frame.tape, os4.2.2.trans S.sat.frame.output, by omega, fun k hk hm => (blk k (by omega) ?_ ?_).trans (S.sat.frame.block k hk hm)⟩
      · rintro (h | h | ⟨x, h1, h2⟩)
        · rcases S.env.sub k h with h | h
          · exact hm (.inl h)
          · omega
        · rcases S.sat.ownB k h with h | h
          · exact hm (.inr (.inl h))
          · omega
        · rcases S.sat.ownR x h1 k h2 with h | h
          · exact hm (.inr (.inr h))
          · omega
      · have := S.c0; omega
    · rcases freshG b o i with (i | i) | i | ⟨x, h1, h2⟩
      · exact S.sat.fresh b o i
      · by_cases hd : D b
        · exact S.sat.fresh b o (hDI b o i hd)
        · refine .inr (.inl ?_)
          rcases Nat.lt_or_ge b wl.heap.size with hlt' | hge
          · exact absurd (S.old b hlt') hd
          · have := S.c0; have := S.lL; omega
      · exact .inr (.inl (Nat.le_trans hC0 i))
      · rcases S.sat.ownR x h1 b h2 with h | h
        · exact .inr (.inr h)
        · exact .inr (.inl h)
    · rw [hbx4]; exact S.sat.ownB
    · rcases hrow4 x hx g hg with ⟨y, h1, h2⟩ | h
      · exact S.sat.ownR y h1 g h2
      · exact .inr (Nat.le_trans hC0 h)
    · obtain ⟨v, h1, h2, h3⟩ := S.sat.slot t c x hl
      exact ⟨v, h1, fun hc => AV.rel_mono leW _ _ (h2 hc), h3⟩
    · rcases freshG b o i with (i' | i') | h | ⟨x, h1, h2⟩
      · exact (S.imm b o i').elim .inl fun h => .inr (.inl h)
      · exact .inl i'
      · exact .inr (.inr ⟨h, m4.lt_imm i⟩)
      · exact .inr (.inl (S.rowD x h1 b h2))
    · rcases hrow4 x hx g hg with ⟨y, h1, h2⟩ | h
      · exact .inl (S.rowD y h1 g h2)
      · obtain ⟨k, hk⟩ := List.mem_iff_getElem?.1 hx
        exact .inr ⟨h, m4.lt_row hk hg⟩
    · rcases hD3 k hk with h | h
      · exact .inl (S.outD k h)
      · exact .inr ⟨h, env4.lt k hk⟩
    · have := S.size; omega
    · refine ⟨os4.1, os4.2.1, os4.2.2, by omega, fun k hk hd => blk k hk (fun h => hd (mayD k h)) fun e => hd (e ▸ S.old L S.lL)⟩
    · rcases hk with h | h
      · exact ⟨.inl h, by have := hlt k h; omega⟩
      · exact ⟨.inr h.1, h.2⟩
  cases e with
  | normal => exact fin none hend
  | ret => exact fin (some none) hend
  | exit id => exact fin (some (some id)) hend
  | goto l => exact hend.elim
  | panic ch => exact hend.elim
  | outgrown => exact hend.elim

theorem Sat.allocObj {G : Gh} {a : Act} {w : World} {st : ASt} (hs : Sat C G a w st) (o : Obj) : Ext st.bx st.rw G w G (w.alloc o) := by
  have hb := (Below.refl w.heap.size w).alloc (Nat.le_refl _) o
  exact msat_ext hs.mem hb G.imm (fun _ _ i => i) (fun _ _ i => .inl i) fun b i hi => by rw [World.cell?_of_block (w := w) (hb.block b (hs.mem.lt_imm hi))]; exact hs.mem.immOk b i hi
theorem Sat.reEnv {G : Gh} {a a' : Act} {w : World} {st : ASt} (hs : Sat C G a w st) (ht : a'.tmps = a.tmps) (he : ∃ D, EnvD C G a'.defers st.ys D w) : Sat C G a' w st :=
  ⟨ht ▸ hs.size, hs.callers, hs.frame, hs.le, hs.fresh, hs.ownB, hs.ownR, he, hs.mem, fun t c x hl => by rw [ht]; exact hs.slot t c x hl⟩

/-- The record of a loop is laid. -/
theorem Sat.enterLoop {G : Gh} {a : Act} {w : World} {st : ASt} (hs : Sat C G a w st) (fn : FuncId) (ps : Array Tmp) (assign body : Code) :
    ∃ L mk w1 D dB, (Instr.enterLoop fn a.tmps ps assign body C.round).run P w = .ok (L, mk) w1 ∧ Sat C G ⟨a.tmps, mk ++ a.defers⟩ w1 st ∧ EnvD C G (mk ++ a.defers) st.ys D w1 ∧ ¬ D L ∧ L < w1.heap.size ∧ C.w0.heap.size ≤ L ∧ (∀ k, mark k ∈ mk ++ a.defers → k < w1.heap.size) ∧ (∀ r, C.round = some r → r < w1.heap.size) ∧
      G.Le w G w1 ∧ w1.heap[L]? = some (.loop { state := .ready, pending := none, fn, tmps := a.tmps, params := ps, assign, body, defers := dB }) := by
  obtain ⟨D, e⟩ := hs.env
  have hC := hs.frame.size
  cases hr : C.round with
  | none =>
    have x1 := hs.allocObj (.deferred (some []))
    have s1 := hs.ext x1
    have e1 := e.ext hs.mem x1
    obtain ⟨rec, hrec⟩ : ∃ r : Loop, r = { state := .ready, pending := none, fn, tmps := a.tmps, params := ps, assign, body, defers := w.heap.size } := ⟨_, rfl⟩
    have x2 := s1.allocObj (.loop rec)
    have s2 := s1.ext x2
    have e2 := e1.ext s1.mem x2
    have hD : ∀ k, w.heap.size ≤ k → ¬ D k := fun k hk hd => by have := e.lt k hd; omega
    have hsz : ((w.alloc (.deferred (some []))).alloc (.loop rec)).heap.size = w.heap.size + 2 := by simp
    have e3 : EnvD C G ([mark w.heap.size] ++ a.defers) st.ys D ((w.alloc (.deferred (some []))).alloc (.loop rec)) := by
      refine ⟨e2.l, e2.cons, e2.sub, e2.lt, e2.bx, e2.rw, e2.imm, ?_, e2.record⟩
      obtain ⟨l, h1, h2, h3⟩ := e2.marks
      obtain ⟨l', h1', _, h3'⟩ := e.marks
      refine ⟨w.heap.size :: l, by rw [h1]; rfl, ?_, fun k hk => ?_⟩
      · rw [List.nodup_cons]
        refine ⟨fun hm => ?_, h2⟩
        have : l = l' := (List.map_inj_right (f := mark) (fun x y h => by simpa [mark] using h)).1 (h1.symm.trans h1')
        have h4 := (h3' w.heap.size (this ▸ hm)).1
        rw [Array.getElem?_eq_none (Nat.le_refl _)] at h4; cases h4
      · rcases List.mem_cons.1 hk with rfl | hk
        · exact ⟨(Below.heap_alloc _ _ _ (by simp)).trans (World.alloc_heap_new w _), hD _ (Nat.le_refl _), hC⟩
        · exact h3 k hk
    refine ⟨w.heap.size + 1, [mark w.heap.size], (w.alloc (.deferred (some []))).alloc (.loop rec), D, w.heap.size, ?_, s2.reEnv rfl ⟨D, e3⟩, e3, hD _ (by omega), by omega, by omega, fun k hk => ?_, fun r h => (by cases h), x1.le.trans x2.le, ?_⟩
    · rw [hrec]; exact run_enterLoop_outer _ _ _ _ _
    · obtain ⟨l, h1, _, h3⟩ := e3.marks
      rw [h1] at hk
      obtain ⟨k', hk', he⟩ := List.mem_map.1 hk
      have : k' = k := by simpa [mark] using he
      subst this
      exact (Array.getElem?_eq_some_iff.1 (h3 k' hk').1).1
    · rw [← hrec]
      have := World.alloc_heap_new (w.alloc (.deferred (some []))) (.loop rec)
      rwa [World.size_alloc] at this
  | some r =>
    obtain ⟨⟨L0, hL0⟩, _⟩ := e.record r hr
    obtain ⟨rec, hrec⟩ : ∃ q : Loop, q = { state := .ready, pending := none, fn, tmps := a.tmps, params := ps, assign, body, defers := L0.defers } := ⟨_, rfl⟩
    have x2 := hs.allocObj (.loop rec)
    have s2 := hs.ext x2
    have e2 := e.ext hs.mem x2
    have hsz : (w.alloc (.loop rec)).heap.size = w.heap.size + 1 := by simp
    refine ⟨w.heap.size, [], w.alloc (.loop rec), D, L0.defers, ?_, s2, e2, fun hd => by have := e.lt _ hd; omega, by omega, hC, fun k hk => ?_, fun q h => ?_, x2.le, ?_⟩
    · rw [hrec]; exact run_enterLoop_inner hL0 _ _ _ _ _
    · obtain ⟨l, h1, _, h3⟩ := e2.marks
      rw [List.nil_append, h1] at hk
      obtain ⟨k', hk', he⟩ := List.mem_map.1 hk
      have : k' = k := by simpa [mark] using he
      subst this
      exact (Array.getElem?_eq_some_iff.1 (h3 k' hk').1).1
    · cases h
      have := (Array.getElem?_eq_some_iff.1 hL0).1; omega
    · rw [← hrec]; exact World.alloc_heap_new w _

/-- A loop over an iterator: an invariant on what was got, the jump that is pending, own variables and rows. -/
theorem wpA_rangeFunc {g : Operand} {ps : Array Tmp} {assign body : Code} {Q : Exit → ASt → Prop} {x : AV} {f : FuncId} {cap : List AV} {items : List (List AV)} {bx : List (List AV)} {rw : List ARow} {ys : (Nat × List (List AV)) × List (List AV) × Bool} (Inv : LInv)
    (hg : (ASt.mk nt nb sl bx rw ys).ev g = some (true, x)) (hx : calleeA x = some (f, [], cap)) (hcap : AV.freeL cap) (hseq : SeqA P f cap items) (hps : ps.toList.Nodup ∧ ∀ p ∈ ps.toList, p < nt) (h0 : Inv [] none bx rw ys)
    (hround : ∀ h item bx' rw' ys', Inv h none bx' rw' ys' → (h ++ [item]) <+: items → bx'.length = bx.length → item.length = ps.toList.length ∧ wpA P assign (fun e s => e = .normal ∧ wpA P body (roundEnd bx.length Inv (h ++ [item])) s) ⟨nt, bx.length, zipSl ps.toList item ++ sl, bx', rw', ys'⟩)
    (hdone : ∀ bx' rw' ys', Inv items none bx' rw' ys' → Q .normal ⟨nt, nb, sl, bx', rw', ys'⟩)
    (hjump : ∀ h j bx' rw' ys', h <+: items → Inv h (some j) bx' rw' ys' → Q (je j) ⟨nt, nb, sl, bx', rw', ys'⟩) : wpA P (.rangeFunc g ps assign body) Q ⟨nt, nb, sl, bx, rw, ys⟩ := by
  intro C G a w hs
  refine wpIn_rangeFunc fun fn _ => ?_
  obtain ⟨L, mk, w1, D, dB, q1, hs1, e1, q2, q3, q4, q5, q6, q7, q8⟩ := hs.enterLoop fn ps assign body
  obtain ⟨rec, hrec⟩ : ∃ r : LoopState → Option Code → Loop, r = fun st pe => { state := st, pending := pe, fn, tmps := a.tmps, params := ps, assign, body, defers := dB } := ⟨_, rfl⟩
  have e2 := (evOk_of (x := g) fun t _ => hs1.slot t) _ _ hg rfl
  have hval : ∃ cs : List Value, a.eval g = .func (.func f) #[] cs.toArray ∧ AV.relL G w1 cap cs := by
    have e2' : x.rel G w1 (a.eval g) := e2
    unfold calleeA at hx
    split at hx
    · simp only [Option.some.injEq, Prod.mk.injEq] at hx
      obtain ⟨rfl, _, rfl⟩ := hx
      exact ⟨[], rel_raw e2', rfl⟩
    · simp only [Option.some.injEq, Prod.mk.injEq] at hx
      obtain ⟨rfl, rfl, rfl⟩ := hx
      obtain ⟨fs, cs, r1, r2, r3⟩ := e2'
      exact ⟨cs, by rw [r1, show fs = [] from r2], r3⟩
    · cases hx
  obtain ⟨cs, hv, hcs⟩ := hval
  have hcs' := AV.relL_free (G := G) (G' := ⟨G.imm, [], []⟩) (fun _ _ i => i) _ _ hcap hcs
  refine ⟨L, mk, w1, { target := .fn (.func f) cs.toArray, args := #[.func (.yield L) #[] #[]] }, w1, f, #[.func (.yield L) #[] #[]] ++ cs.toArray, w1, q1, ?_, fun _ _ => trivial, ?_, (fun h => by cases h), callsIn_fen ?_⟩
  · simp only [resolve, hv]
    simp [go_sem]
  · have := hseq.ok.run (#[.func (.yield L) #[] #[]] ++ cs.toArray) w1
    simp only [invoke]
    simpa using this
  have hlw : LoopS C G w1 ⟨a.tmps, mk ++ a.defers⟩ nt nb sl bx.length L G.imm (fun k => k < w1.heap.size) w1 G bx rw ys D :=
    ⟨hs1, e1, rfl, rfl, Gh.Le.refl _ _, fun _ _ i => .inl i, fun _ h => h, fun x hx g hg => by
      obtain ⟨k, hk⟩ := List.mem_iff_getElem?.1 hx
      exact hs1.mem.lt_row hk hg, fun k hk => e1.lt k hk, q2, q3, q4, fun k hk => hs1.mem.lt_box hk, Nat.le_refl _, q5, q6⟩
  have hcall := hseq.calls L G.imm (fun k => k < w1.heap.size) (LoopW C G w1 ⟨a.tmps, mk ++ a.defers⟩ nt nb sl bx.length L rec Inv) w1 ([.func (.yield L) #[] #[]] ++ cs) (fun b o i => hs1.mem.immOk b o i) loopW_stable
    (loopW_yOk (a1 := ⟨a.tmps, mk ++ a.defers⟩) hrec hps fun h item bx' rw' ys' hi hp hl => hround h item bx' rw' ys' hi hp hl) ⟨G, none, bx, rw, ys, D, hlw, h0, rfl, by rw [hrec]; exact q8⟩ (fun _ h => h) ⟨_, _, rfl, rfl, hcs'⟩
  rw [show #[Value.func (.yield L) #[] #[]] ++ cs.toArray = ([Value.func (.yield L) #[] #[]] ++ cs).toArray from by simp]
  refine hcall.mono ?_
  rintro e w3 ⟨v, I', D', pre, s, rfl, ho, _, ⟨G', j, bx', rw', ys', Do, S, hi, rfl, hr⟩, hpre, hall⟩
  have hb : (rec (if j.isNone then .ready else .done) (j.map jc)).state ≠ .busy := by rw [hrec]; cases j <;> simp
  refine ⟨_, _, run_endLoop hr hb, ?_⟩
  have hpend : (rec (if j.isNone then .ready else .done) (j.map jc)).pending = j.map jc := by rw [hrec]
  rw [hpend]
  have fin : ∀ o : Loop, Sat C G' ⟨a.tmps, mk ++ a.defers⟩ (w3.putObj L (.loop o)) ⟨nt, nb, sl, bx', rw', ys'⟩ := fun o => by
    refine S.sat.non _ hr rfl S.c0 rfl ⟨Do, S.env.non S.sat.mem _ hr rfl S.notL (fun _ => ⟨_, rfl⟩) ?_⟩
    obtain ⟨l, h1, h2, h3⟩ := S.env.marks
    exact ⟨l, h1, h2, fun k hk => ⟨fun e => (by subst e; rw [(h3 k hk).1] at hr; cases hr), h3 k hk⟩⟩
  cases j with
  | none =>
    have : pre = items := hall rfl
    subst this
    exact ⟨G', _, fin _, hdone _ _ _ hi⟩
  | some j =>
    have hQ := hjump pre j bx' rw' ys' hpre hi
    cases j with
    | none => exact wpIn_ret ⟨G', _, fin _, hQ⟩
    | some id => exact wpIn_exit ⟨G', _, fin _, hQ⟩
end loops
end Go.Proofs.Yticlpcgkaffdmaa
