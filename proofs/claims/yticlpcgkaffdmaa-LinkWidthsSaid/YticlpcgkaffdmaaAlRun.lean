/- The abstract logic: one operation, a call, a region in the order of the text and in any order. -/
import Derived.Test.YticlpcgkaffdmaaAlSound
import Derived.Great.BuildSlice
namespace Go.Proofs.Yticlpcgkaffdmaa
set_option linter.unusedSectionVars false
set_option linter.unusedVariables false
set_option linter.unusedSimpArgs false
open Go.RowKit

def cellsO : Obj → Bool
  | .cells .. => true
  | _ => false
def SlotOk (G : Gh) (w : World) (a : Act) (st : ASt) (t : Nat) : Prop := ∀ c x, st.look t = some (c, x) → ∃ v, a.tmps[t]? = some v ∧ (c = true → x.rel G w v) ∧ (c = false → v = undef)

theorem avOf_rel (G : Gh) (w : World) (v : Value) : (avOf v).rel G w v := by
  cases v <;> first | rfl | skip
  rename_i cs
  obtain ⟨cs⟩ := cs
  refine ⟨cs, rfl, ?_⟩
  induction cs with
  | nil => rfl
  | cons c r ih => exact ⟨c, r, rfl, rfl, ih⟩

theorem evOk_of {G : Gh} {w : World} {a : Act} {st : ASt} {x : Operand} (h : ∀ t, x = .tmp t → SlotOk G w a st t) : EvOk G w a st x := by
  intro c av he hc
  cases x with
  | tmp t =>
    obtain ⟨v, h1, h2, _⟩ := h t rfl c av he
    simp only [Act.eval, Array.getD_eq_getD_getElem?, h1, Option.getD_some]
    exact h2 hc
  | const v =>
    simp only [ASt.ev, Option.some.injEq, Prod.mk.injEq] at he
    rw [← he.2]; exact avOf_rel _ _ _
  | global g => simp [ASt.ev] at he
  | func f =>
    simp only [ASt.ev, Option.some.injEq, Prod.mk.injEq] at he
    rw [← he.2]; rfl

/-- Memory has only grown; own variables and rows are as they were. -/
structure Ext (bx : List (List AV)) (rw : List ARow) (G : Gh) (w : World) (G' : Gh) (w' : World) : Prop where
  le : G.Le w G' w'
  below : Below w.heap.size w w'
  gbx : G'.bx = G.bx
  grw : G'.rw = G.rw
  mem : MSat G' w' bx rw
  fresh : ∀ b o, G'.imm b o → G.imm b o ∨ w.heap.size ≤ b

theorem Ext.refl {bx : List (List AV)} {rw : List ARow} {G : Gh} {w : World} (h : MSat G w bx rw) : Ext bx rw G w G w :=
  ⟨Gh.Le.refl _ _, Below.refl _ _, rfl, rfl, h, fun _ _ i => .inl i⟩

theorem MSat.lt_imm {bx : List (List AV)} {rw : List ARow} {G : Gh} {w : World} (h : MSat G w bx rw) {b o : Nat} (i : G.imm b o) : b < w.heap.size := by
  have := h.immOk b o i
  cases hc : w.cell? ⟨b, o, none⟩ with
  | none => rw [hc] at this; cases this
  | some v => exact World.block_lt_of_cell? w ⟨b, o, none⟩ hc
theorem MSat.lt_box {bx : List (List AV)} {rw : List ARow} {G : Gh} {w : World} (h : MSat G w bx rw) {blk : Nat} (hb : blk ∈ G.bx) : blk < w.heap.size := by
  obtain ⟨k, hk⟩ := List.mem_iff_getElem?.1 hb
  have hkl : k < bx.length := by have := (List.getElem?_eq_some_iff.1 hk).1; have := h.lenB; omega
  obtain ⟨_, vs', T', h3, _⟩ := h.box k bx[k] blk (List.getElem?_eq_getElem hkl) hk
  rcases Nat.lt_or_ge blk w.heap.size with hl | hl
  · exact hl
  · rw [Array.getElem?_eq_none hl] at h3; cases h3
theorem MSat.lt_row {bx : List (List AV)} {rw' : List ARow} {G : Gh} {w : World} (h : MSat G w bx rw') {k g : Nat} {x : Nat × Value} (hk : G.rw[k]? = some x) (hg : x.2.ownBlock = some g) : g < w.heap.size := by
  have hkl : k < rw'.length := by have := (List.getElem?_eq_some_iff.1 hk).1; have := h.lenR; omega
  obtain ⟨xs, ho, _⟩ := (h.row k rw'[k] x (List.getElem?_eq_getElem hkl) hk).own
  rcases ho.2 with ⟨hv, _⟩ | ⟨g', cap, cur, hv, _, hh, _⟩
  · rw [hv] at hg; cases hg
  · rw [hv] at hg
    simp only [Value.ownBlock, Option.some.injEq] at hg
    subst hg
    rcases Nat.lt_or_ge g' w.heap.size with hl | hl
    · exact hl
    · rw [Array.getElem?_eq_none hl] at hh; cases hh

/-- Whatever leaves the blocks of own variables, of rows and of fixed cells alone keeps what is known. -/
theorem msat_keep {bx : List (List AV)} {rw : List ARow} {G : Gh} {w w' : World} (h : MSat G w bx rw) (imm' : Nat → Nat → Prop) (hB : ∀ k, k ∈ G.bx → w'.heap[k]? = w.heap[k]?) (hR : ∀ (k g : Nat) (x : Nat × Value), G.rw[k]? = some x → x.2.ownBlock = some g → w'.heap[g]? = w.heap[g]?)
    (hI : ∀ b o, G.imm b o → w'.cell? ⟨b, o, none⟩ = w.cell? ⟨b, o, none⟩) (h1 : ∀ b o, G.imm b o → imm' b o) (h2 : ∀ b o, imm' b o → G.imm b o ∨ w.heap.size ≤ b) (h3 : ∀ b o, imm' b o → (w'.cell? ⟨b, o, none⟩).isSome = true) :
    MSat ⟨imm', G.bx, G.rw⟩ w' bx rw ∧ G.Le w ⟨imm', G.bx, G.rw⟩ w' := by
  have le : G.Le w ⟨imm', G.bx, G.rw⟩ w' := ⟨h1, hI, fun _ _ h => h, fun _ e h => ⟨e, h, .inl rfl⟩⟩
  refine ⟨⟨h3, h.lenB, h.lenR, h.nodup, ?_, ?_, h.sepB, h.sepR⟩, le⟩
  · intro k cs blk hk hg
    obtain ⟨e2, vs, T, e3, e4⟩ := h.box k cs blk hk hg
    have hmem := List.mem_of_getElem? hg
    have hl := h.lt_box hmem
    exact ⟨fun o i => (h2 blk o i).elim (e2 o) (fun hge => by omega), vs, T, by rw [hB blk hmem]; exact e3, AV.relL_mono le _ _ e4⟩
  · intro k r x hk hg
    have ro := h.row k r x hk hg
    obtain ⟨xs, ho, hel⟩ := ro.own
    refine ⟨ro.len, ⟨xs, ?_, fun i hi => ?_⟩, fun g hg' o => ?_⟩
    · obtain ⟨ho1, ho2⟩ := ho
      refine ⟨ho1, ?_⟩
      rcases ho2 with ho2 | ⟨g, cap, cur, hv, hbg, hh, hr⟩
      · exact .inl ho2
      · exact .inr ⟨g, cap, cur, hv, hbg, by rw [hR k g x hg (by rw [hv]; rfl)]; exact hh, hr⟩
    · obtain ⟨vs, e1, e2⟩ := hel i hi
      exact ⟨vs, AV.relL_mono le _ _ e1, e2⟩
    · rw [← ro.imm g hg' o]
      have := h.lt_row hg hg'
      exact ⟨fun i => (h2 g o i).elim id (fun hge => by omega), h1 g o⟩

theorem msat_ext {bx : List (List AV)} {rw : List ARow} {G : Gh} {w w' : World} (h : MSat G w bx rw) (hb : Below w.heap.size w w') (imm' : Nat → Nat → Prop)
    (h1 : ∀ b o, G.imm b o → imm' b o) (h2 : ∀ b o, imm' b o → G.imm b o ∨ w.heap.size ≤ b) (h3 : ∀ b o, imm' b o → (w'.cell? ⟨b, o, none⟩).isSome = true) : Ext bx rw G w ⟨imm', G.bx, G.rw⟩ w' := by
  obtain ⟨m, le⟩ := msat_keep h imm' (fun k hk => hb.block k (h.lt_box hk)) (fun k g x hk hg => hb.block g (h.lt_row hk hg)) (fun b o i => World.cell?_of_block (w := w) (hb.block b (h.lt_imm i))) h1 h2 h3
  exact ⟨le, hb, rfl, rfl, m, h2⟩

theorem MSat.not_box {bx : List (List AV)} {rw : List ARow} {G : Gh} {w : World} (h : MSat G w bx rw) {m : Nat} {o : Obj} (hm : w.heap[m]? = some o) (ho : cellsO o = false) : m ∉ G.bx := by
  intro hb
  obtain ⟨k, hk⟩ := List.mem_iff_getElem?.1 hb
  have hkl : k < bx.length := by have := (List.getElem?_eq_some_iff.1 hk).1; have := h.lenB; omega
  obtain ⟨_, vs', T', h3, _⟩ := h.box k bx[k] m (List.getElem?_eq_getElem hkl) hk
  rw [hm] at h3; cases h3; cases ho
theorem MSat.not_row {bx : List (List AV)} {rw' : List ARow} {G : Gh} {w : World} (h : MSat G w bx rw') {m : Nat} {o : Obj} (hm : w.heap[m]? = some o) (ho : cellsO o = false) : ∀ x ∈ G.rw, x.2.ownBlock ≠ some m := by
  intro x hx hg
  obtain ⟨k, hk⟩ := List.mem_iff_getElem?.1 hx
  have hkl : k < rw'.length := by have := (List.getElem?_eq_some_iff.1 hk).1; have := h.lenR; omega
  obtain ⟨xs, ho', _⟩ := (h.row k rw'[k] x (List.getElem?_eq_getElem hkl) hk).own
  rcases ho'.2 with ⟨hv, _⟩ | ⟨g', cap, cur, hv, _, hh, _⟩
  · rw [hv] at hg; cases hg
  · rw [hv] at hg
    simp only [Value.ownBlock, Option.some.injEq] at hg
    subst hg
    rw [hm] at hh; cases hh; cases ho
theorem EnvD.step {P : Program} {C : Ctx P} {G G' : Gh} {ds : List Deferred} {ys : (Nat × List (List AV)) × List (List AV) × Bool} {D : Nat → Prop} {w w' : World} {bx : List (List AV)} {rw' : List ARow} (e : EnvD C G ds ys D w) (hm : MSat G w bx rw') (le : G.Le w G' w')
    (fresh : ∀ b o, G'.imm b o → G.imm b o ∨ w.heap.size ≤ b ∨ ∃ x ∈ G.rw, x.2.ownBlock = some b) (hbx : ∀ k ∈ G'.bx, k ∈ G.bx ∨ w.heap.size ≤ k)
    (hrw : ∀ x ∈ G'.rw, ∀ g, x.2.ownBlock = some g → (∃ y ∈ G.rw, y.2.ownBlock = some g) ∨ w.heap.size ≤ g) (ho : Outside (fun k => k ∈ G.bx ∨ ∃ x ∈ G.rw, x.2.ownBlock = some k) w w') : EnvD C G' ds ys D w' := by
  have size := ho.size
  have other : ∀ k, k < w.heap.size → k ∉ G.bx → (∀ x ∈ G.rw, x.2.ownBlock ≠ some k) → w'.heap[k]? = w.heap[k]? := fun k hk h1 h2 => ho.block k hk fun h => h.elim h1 fun ⟨x, hx, hg⟩ => h2 x hx hg
  refine ⟨e.l, C.stable _ _ _ _ _ _ _ e.cons (ho.mono fun k _ h hd => h.elim (fun h => e.bx k h hd) fun ⟨x, hx, hg⟩ => e.rw x hx k hg hd) (fun b o i => ⟨le.imm b o i, le.cell b o i⟩), e.sub, fun k hk => Nat.lt_of_lt_of_le (e.lt k hk) size, fun k hk hd => ?_, fun x hx g hg hd => ?_, fun b o i => ?_, ?_, fun r hr => ?_⟩
  · rcases hbx k hk with h | h
    · exact e.bx k h hd
    · have := e.lt k hd; omega
  · rcases hrw x hx g hg with ⟨y, h1, h2⟩ | h
    · exact e.rw y h1 g h2 hd
    · have := e.lt g hd; omega
  · rcases fresh b o i with h | h | ⟨x, h1, h2⟩
    · exact e.imm b o h
    · exact .inr fun hd => by have := e.lt b hd; omega
    · exact .inr (e.rw x h1 b h2)
  · obtain ⟨l, h1, h2, h3⟩ := e.marks
    refine ⟨l, h1, h2, fun m hml => ?_⟩
    obtain ⟨h4, h5, h6⟩ := h3 m hml
    have hlt : m < w.heap.size := (Array.getElem?_eq_some_iff.1 h4).1
    exact ⟨by rw [other m hlt (hm.not_box h4 rfl) (hm.not_row h4 rfl)]; exact h4, h5, h6⟩
  · obtain ⟨⟨L, hL⟩, h2⟩ := e.record r hr
    have hlt : r < w.heap.size := (Array.getElem?_eq_some_iff.1 hL).1
    exact ⟨⟨L, by rw [other r hlt (hm.not_box hL rfl) (hm.not_row hL rfl)]; exact hL⟩, h2⟩

theorem EnvD.ext {P : Program} {C : Ctx P} {G G' : Gh} {ds : List Deferred} {ys : (Nat × List (List AV)) × List (List AV) × Bool} {D : Nat → Prop} {w w' : World} {bx : List (List AV)} {rw' : List ARow} (h : EnvD C G ds ys D w) (hm : MSat G w bx rw') (e : Ext bx rw' G w G' w') : EnvD C G' ds ys D w' :=
  h.step hm e.le (fun b o i => (e.fresh b o i).elim .inl fun h => .inr (.inl h)) (fun k hk => .inl (by rw [e.gbx] at hk; exact hk)) (fun x hx g hg => .inl ⟨x, by rw [e.grw] at hx; exact hx, hg⟩) ((Outside.of_below e.below).mono fun _ _ h => h)

theorem Sat.ext {P : Program} {C : Ctx P} {G G' : Gh} {a : Act} {w w' : World} {st : ASt} (h : Sat C G a w st) (e : Ext st.bx st.rw G w G' w') : Sat C G' a w' st := by
  refine ⟨h.size, h.callers, h.frame.trans (.of_below e.below), h.le.trans e.le, fun b o i => ?_, by rw [e.gbx]; exact h.ownB, by rw [e.grw]; exact h.ownR, ?_, e.mem, fun t c x hl => ?_⟩
  · rcases e.fresh b o i with i | i
    · exact h.fresh b o i
    · exact .inr (.inl (Nat.le_trans h.frame.size i))
  · obtain ⟨D, hD⟩ := h.env
    exact ⟨D, hD.ext h.mem e⟩
  · obtain ⟨v, h1, h2, h3⟩ := h.slot t c x hl
    exact ⟨v, h1, fun hc => AV.rel_mono e.le _ _ (h2 hc), h3⟩

theorem lookN_cons {β : Type} (t d : Nat) (x : β) (l : List (Nat × β)) : lookN t ((d, x) :: l) = if t = d then some x else lookN t l := by
  simp only [lookN]
  by_cases h : t = d
  · subst h; simp
  · have : Nat.beq t d = false := by
      cases hb : Nat.beq t d
      · rfl
      · exact absurd (Nat.eq_of_beq_eq_true hb) h
    simp [this, h]

theorem Act.put_get {a : Act} {d : Tmp} {v : Value} {t : Nat} : (a.put (some d) v).tmps[t]? = if d = t then (a.tmps[t]?).map (fun _ => v) else a.tmps[t]? := by
  simp only [Act.put, Array.getElem?_setIfInBounds]
  split
  · split
    · rename_i h; rw [Array.getElem?_eq_getElem (by omega)]; rfl
    · rename_i h; rw [Array.getElem?_eq_none (by omega)]; rfl
  · rfl

theorem Sat.put {P : Program} {C : Ctx P} {G : Gh} {a : Act} {w : World} {st : ASt} (h : Sat C G a w st) {d : Nat} {g : Bool} {x : AV} {v : Value} (hd : d < st.nt) (h1 : g = true → x.rel G w v) (h2 : g = false → v = undef) :
    Sat C G (a.put (some d) v) w (st.put d (g, x)) := by
  have hd : d < a.tmps.size := by rw [h.size]; exact hd
  refine ⟨by simpa [Act.put, ASt.put] using h.size, h.callers, h.frame, h.le, h.fresh, h.ownB, h.ownR, h.env, h.mem, fun t c y hl => ?_⟩
  simp only [ASt.look, ASt.put, lookN_cons] at hl
  rw [Act.put_get]
  by_cases htd : t = d
  · subst htd
    simp only [if_true, Option.some.injEq, Prod.mk.injEq] at hl
    obtain ⟨rfl, rfl⟩ := hl
    exact ⟨v, by simp [Array.getElem?_eq_getElem hd], h1, h2⟩
  · rw [if_neg htd] at hl
    rw [if_neg (Ne.symm htd)]
    exact h.slot t c y hl

/-- Under which condition an operation is carried out. -/
def guardA (ops : Array Oper) (st : ASt) (o : Oper) : Option Bool :=
  match o.guard with
  | none => some true
  | some (j, want) => match (ops[j]?).bind (·.dst) with
    | some d => match st.look d with
      | some (c, .raw (.bool b)) => some (c && (bif want then b else !b))
      | _ => none
    | none => none

theorem looks_guard {ops : Array Oper} {o : Oper} {j : Nat} {want : Bool} {d : Nat} (hg : o.guard = some (j, want)) (hd : (ops[j]?).bind (·.dst) = some d) : d ∈ o.looksAt ops := by
  unfold Oper.looksAt
  rw [hg]
  refine List.mem_append_right _ ?_
  simp only [hd]
  simp

theorem guardA_sound {ops : Array Oper} {st : ASt} {o : Oper} {g : Bool} (h : guardA ops st o = some g) {G : Gh} {w : World} {a : Act} (hs : ∀ t ∈ o.looksAt ops, SlotOk G w a st t) : Region.wanted o (yielded ops a.tmps) = g := by
  unfold guardA at h
  unfold Region.wanted
  split at h
  · rename_i hg
    rw [hg]
    simpa using h
  · rename_i j want hg
    rw [hg]
    split at h
    · rename_i d hd
      split at h
      · rename_i c b hl
        simp only [Option.some.injEq] at h
        obtain ⟨v, h1, h2, h3⟩ := hs d (looks_guard hg hd) c _ hl
        simp only [yielded, hd, Option.bind_some, h1]
        subst h
        cases c
        · rw [h3 rfl]; simp [undef]
        · rw [rel_raw (h2 rfl)]
          cases b <;> cases want <;> rfl
      · cases h
    · cases h

theorem semAt_fen (ro : Option Nat) (ρ : Operand → Value) (o : Oper) (h : ∀ c, o.op ≠ .defer c) : Oper.semAt ro ρ o = execOp ρ o := by
  cases ro with
  | none => rfl
  | some l => exact Oper.semAt_some l ρ o h
theorem wpIn_of_run {P : Program} {o : Oper} {a : Act} {w : World} {ro : Option Nat} {K : Act → World → Prop} {Q : Exit → Act → World → Prop} (hd : ∀ c, o.op ≠ .defer c) (h : o.uponIn (fen ro) 0 P a K Q ((execOp a.eval o).run P w)) : o.wpIn (fen ro) 0 P a w K Q :=
  ⟨fun _ _ => trivial, by rw [show (fen ro).round = ro from rfl, semAt_fen ro _ _ hd]; exact h⟩

/-- What an operation that leaves own variables and rows alone does: its value under a condition. -/
def OpSpec (P : Program) (ops : Array Oper) (o : Oper) (st : ASt) (g : Bool) (x : AV) : Prop :=
  ∀ (G : Gh) (a : Act) (w : World), MSat G w st.bx st.rw → (∀ t ∈ o.looksAt ops, SlotOk G w a st t) →
    Region.wanted o (yielded ops a.tmps) = g ∧
    (g = true → ∀ (ro : Option Nat) (K : Act → World → Prop) (Q : Exit → Act → World → Prop), (∀ v G' w', Ext st.bx st.rw G w G' w' → x.rel G' w' v → K (a.put o.dst v) w') → o.wpIn (fen ro) 0 P a w K Q)

theorem looks_operand {ops : Array Oper} {o : Oper} {t : Nat} (h : Operand.tmp t ∈ o.op.operands.toList) : t ∈ o.looksAt ops :=
  List.mem_append_left _ (List.mem_filterMap.2 ⟨_, h, rfl⟩)

theorem opSpec_pure {P : Program} {T : TT} (hT : TOk P T) {ops : Array Oper} {o : Oper} {st : ASt} {g : Bool} {cs : List Bool} {x : AV} {p : Prop} (hg : guardA ops st o = some g) (h : opA T st o.op = some (cs, x, p))
    (hp : g = true → (∀ c ∈ cs, c = true) ∧ p) : OpSpec P ops o st g x := by
  intro G a w hm hs
  refine ⟨guardA_sound hg hs, fun hgt ro K Q hK => ?_⟩
  obtain ⟨v, h1, h2⟩ := opA_sound (P := P) (a := a) hT hm (fun y hy => evOk_of fun t ht => hs t (looks_operand (by rw [← ht]; exact hy))) h (hp hgt).1 (hp hgt).2
  refine wpIn_of_run (fun c hc => by rw [hc] at h; simp [opA] at h) ?_
  rw [h1]
  exact hK v G w (Ext.refl hm) h2

/-! ### Contracts -/
def CallOk (P : Program) (f : FuncId) : Prop := ∃ fn, P.funcs[f]? = some fn ∧ (fn.name == "runtime.NumGoroutine") = false ∧ fn.body.isNone = false
theorem CallOk.run {P : Program} {f : FuncId} (h : CallOk P f) (args : Array Value) (w : World) : (callFunc f args).run P w = .ok (.enter f args) w := by
  obtain ⟨fn, h1, h2, h3⟩ := h
  have h2' : ¬ fn.name = "runtime.NumGoroutine" := by simpa using h2
  have h3' : ¬ fn.body = none := by cases hb : fn.body <;> simp_all
  simp [callFunc, program, Sem.run, h1, h2', h3']

/-- A pure function: whatever memory is like, for such arguments it returns such a result, and nothing that there was is changed. -/
structure FnA (P : Program) (f : FuncId) (args : List AV) (r : AV) : Prop where
  ok : CallOk P f
  calls : ∀ (imm : Nat → Nat → Prop) (w : World) (vs : List Value), (∀ b o, imm b o → (w.cell? ⟨b, o, none⟩).isSome = true) → AV.relL ⟨imm, [], []⟩ w args vs →
    Calls P f vs.toArray w fun e w' => ∃ v imm', e = .returned v ∧ Below w.heap.size w w' ∧ (∀ b o, imm b o → imm' b o) ∧ (∀ b o, imm' b o → imm b o ∨ w.heap.size ≤ b) ∧
      (∀ b o, imm' b o → (w'.cell? ⟨b, o, none⟩).isSome = true) ∧ r.rel ⟨imm', [], []⟩ w' v

/-- The function that a value is, and what is put before and behind the arguments. -/
def calleeA : AV → Option (FuncId × List AV × List AV)
  | .raw (.func (.func f) ⟨[]⟩ ⟨[]⟩) => some (f, [], [])
  | .fn (.func f) first cap => some (f, first, cap)
  | _ => none
theorem calleeA_func (f : FuncId) : calleeA (.raw (.func (.func f) #[] #[])) = some (f, [], []) := rfl
theorem calleeA_fn (f : FuncId) (first cap : List AV) : calleeA (.fn (.func f) first cap) = some (f, first, cap) := rfl
def callA (st : ASt) (o : Op) : Option (List Bool × FuncId × List AV) :=
  match o with
  | .call c => match c.callee with
    | .value fo => match st.ev fo, st.evL c.args.toList with
      | some (g, v), some (cs, vs) => match calleeA v with
        | some (f, first, cap) => some (g :: cs, f, first ++ vs ++ cap)
        | none => none
      | _, _ => none
    | _ => none
  | _ => none

theorem callA_sound {P : Program} {G : Gh} {w : World} {a : Act} {st : ASt} {o : Oper} {cs : List Bool} {f : FuncId} {args : List AV} (h : callA st o.op = some (cs, f, args)) (hev : ∀ x ∈ o.op.operands.toList, EvOk G w a st x)
    (hc : ∀ c ∈ cs, c = true) (hok : CallOk P f) : ∃ vs : List Value, AV.relL G w args vs ∧ (execOp a.eval o).run P w = .ok (.enter f vs.toArray) w := by
  obtain ⟨dst, op, type, pos, after, guard⟩ := o
  simp only at h hev
  unfold callA at h
  split at h
  · rename_i c
    obtain ⟨callee, args', argTypes⟩ := c
    obtain ⟨args'⟩ := args'
    simp only at h
    split at h
    · rename_i fo
      split at h
      · rename_i g v cs' vs h1 h2
        split at h
        · rename_i f' first cap h3
          simp only [Option.some.injEq, Prod.mk.injEq] at h
          obtain ⟨rfl, rfl, rfl⟩ := h
          have e1 := hev fo (by simp [Op.operands, Call.operands]) _ _ h1 (hc g (by simp))
          have e2 := evL_sound (fun x hx => hev x (by simp [Op.operands, Call.operands]; exact .inr hx)) h2 (fun c hc' => hc c (by simp [hc']))
          unfold calleeA at h3
          split at h3
          · simp only [Option.some.injEq, Prod.mk.injEq] at h3
            obtain ⟨rfl, rfl, rfl⟩ := h3
            refine ⟨_, by simpa using e2, ?_⟩
            have := hok.run (args'.map a.eval).toArray w
            simp only [execOp, resolve, rel_raw e1, Deferred.ofValue, Sem.run_bind, Sem.run_pure, Result.andThen_ok, invoke]
            simpa using this
          · simp only [Option.some.injEq, Prod.mk.injEq] at h3
            obtain ⟨rfl, rfl, rfl⟩ := h3
            obtain ⟨fs, cs, e3, e4, e5⟩ := e1
            refine ⟨_, AV.relL_append (AV.relL_append e4 e2) e5, ?_⟩
            have := hok.run ((fs ++ args'.map a.eval) ++ cs).toArray w
            simp only [execOp, resolve, e3, Deferred.ofValue, Sem.run_bind, Sem.run_pure, Result.andThen_ok, invoke]
            simpa using this
          · cases h3
        · cases h
      · cases h
    · cases h
  · cases h

theorem opSpec_call {P : Program} {ops : Array Oper} {o : Oper} {st : ASt} {g : Bool} {cs : List Bool} {f : FuncId} {args : List AV} {r : AV} (hg : guardA ops st o = some g) (h : callA st o.op = some (cs, f, args))
    (hp : g = true → (∀ c ∈ cs, c = true) ∧ AV.freeL args) (hf : g = true → FnA P f args r) : OpSpec P ops o st g r := by
  intro G a w hm hs
  refine ⟨guardA_sound hg hs, fun hgt ro K Q hK => ?_⟩
  have F := hf hgt
  obtain ⟨vs, h1, h2⟩ := callA_sound (P := P) (a := a) h (fun y hy => evOk_of fun t ht => hs t (looks_operand (by rw [← ht]; exact hy))) (hp hgt).1 F.ok
  refine wpIn_of_run (fun c hc => by rw [hc] at h; simp [callA] at h) ?_
  rw [h2, Oper.uponIn_enter]
  refine ⟨fun h => by simp [fen] at h, callsIn_fen ?_⟩
  refine (F.calls G.imm w vs hm.immOk (AV.relL_free (G := G) (G' := ⟨G.imm, [], []⟩) (fun _ _ i => i) _ _ (hp hgt).2 h1)).mono ?_
  rintro e w' ⟨v, imm', rfl, hb, i1, i2, i3, hr⟩
  have E := msat_ext hm hb imm' i1 i2 i3
  refine hK v ⟨imm', G.bx, G.rw⟩ w' E (AV.rel_mono (G := ⟨imm', [], []⟩) (G' := ⟨imm', G.bx, G.rw⟩) ⟨fun _ _ i => i, fun _ _ _ => rfl, fun k x hx => by simp at hx, fun k e he => by simp at he⟩ _ _ hr)

/-! ### New slices -/
def zerosA : Nat → List Value → List AV
  | 0, _ => []
  | n + 1, z => z.map .raw ++ zerosA n z
def zerosV : Nat → List Value → List Value
  | 0, _ => []
  | n + 1, z => z ++ zerosV n z
theorem zerosV_length : ∀ (n : Nat) (z : List Value), (zerosV n z).length = n * z.length
  | 0, z => by simp [zerosV]
  | n + 1, z => by rw [zerosV, List.length_append, zerosV_length n z, Nat.succ_mul, Nat.add_comm]
theorem zerosV_get : ∀ (n : Nat) (z : List Value) (j : Nat), j < n * z.length → (zerosV n z)[j]? = z[j % z.length]?
  | 0, z, j, h => by omega
  | n + 1, z, j, h => by
    rw [zerosV]
    by_cases hj : j < z.length
    · rw [List.getElem?_append_left hj, Nat.mod_eq_of_lt hj]
    · rw [List.getElem?_append_right (by omega), zerosV_get n z (j - z.length) (by rw [Nat.succ_mul] at h; omega)]
      congr 1
      rw [Nat.mod_eq_sub_mod (a := j) (by omega)]
theorem zerosA_rel {G : Gh} {w : World} : ∀ (n : Nat) (z : List Value), AV.relL G w (zerosA n z) (zerosV n z)
  | 0, _ => rfl
  | n + 1, z => AV.relL_append (AV.relL_mk (by simp) fun j x v hx hv => by
      rw [List.getElem?_map, hv] at hx
      simp only [Option.map_some, Option.some.injEq] at hx
      subst hx; rfl) (zerosA_rel n z)
theorem foldSet_size {off : Nat} : ∀ (l : List (Value × Nat)) (cs : Array Value), (l.foldl (fun (cs : Array Value) (q : Value × Nat) => cs.setIfInBounds (off + q.2) q.1) cs).size = cs.size
  | [], _ => rfl
  | q :: l, cs => by rw [List.foldl_cons, foldSet_size l]; simp
theorem fill_size {place : Nat → Option (Nat × Nat)} : ∀ (parts : List (Nat × Value)) (cs us : Array Value), Instr.fill place cs parts = some us → us.size = cs.size
  | [], cs, us, h => by simp only [Instr.fill, Option.some.injEq] at h; rw [h]
  | (i, v) :: r, cs, us, h => by
    unfold Instr.fill at h
    split at h
    · cases h
    · split at h
      · cases h
      · have := fill_size r _ _ h
        rw [this, ← Array.foldl_toList]
        exact foldSet_size _ _
/-- The cells of an element. -/
def chunkA (sz : Nat) (cs : List AV) (i : Nat) : List AV := (cs.drop (i * sz)).take sz
theorem freeL_drop : ∀ {cs : List AV} {k : Nat}, AV.freeL cs → AV.freeL (cs.drop k)
  | [], k, h => by simpa using h
  | c :: cs, 0, h => h
  | c :: cs, k + 1, h => by simpa using freeL_drop (k := k) h.2
theorem freeL_take : ∀ {cs : List AV} {k : Nat}, AV.freeL cs → AV.freeL (cs.take k)
  | [], k, h => by simpa using h
  | c :: cs, 0, h => by simp [AV.freeL]
  | c :: cs, k + 1, h => ⟨h.1, freeL_take (k := k) h.2⟩
theorem freeL_chunk {sz i : Nat} {cs : List AV} (h : AV.freeL cs) : AV.freeL (chunkA sz cs i) := freeL_take (freeL_drop h)
def mkA (T : TT) (st : ASt) (o : Op) : Option (List Bool × AV × Prop) :=
  match o with
  | .buildSlice t len parts => match T t with
    | some ⟨.slice e, _, _, _, _⟩ => match T e with
      | some j => match fillA st (fun i => some (i * j.size, j.size)) parts.toList (zerosA len j.zero) with
        | some (gs, cs, p) => some (gs, .lst j.size len (chunkA j.size cs), p ∧ 0 < j.size ∧ len * j.size ≤ 16777216 ∧ j.zero.length = j.size)
        | none => none
      | none => none
    | _ => none
  | _ => none
theorem buildSlice_run {P : Program} {w : World} {t e len : Nat} {i j : TI} (hi : TiOk P t i) (hk : i.k = .slice e) (hj : TiOk P e j) (h0 : 0 < j.size) (hs : len * j.size ≤ 16777216) (hz : j.zero.length = j.size) {parts : Array (Nat × Value)} {us : List Value}
    (hf : Instr.fill (fun i => some (i * j.size, j.size)) (zerosV len j.zero).toArray parts.toList = some us.toArray) :
    (Instr.buildSlice t len parts).run P w = .ok (.slice (some ⟨w.heap.size, 0, none⟩) len len) (w.alloc (.cells us.toArray e)) := by
  obtain ⟨d, h2, h3, hu'⟩ := hi.und_run w
  rw [hk] at h3
  have := tkOf_slice h3
  subst this
  obtain ⟨ie, z, g2, g1, g3, e2⟩ : ∃ ie z, P.info? e = some ie ∧ ie.size = j.size ∧ ie.zero = some z ∧ z.cells.toList = j.zero := by
    have h1 := hj.info
    cases hie : P.info? e with
    | none => rw [hie] at h1; cases h1
    | some x =>
      rw [hie] at h1
      simp only [Option.map_some, Option.some.injEq, Prod.mk.injEq] at h1
      cases hzz : x.zero with
      | none => rw [hzz] at h1; cases h1.1
      | some z =>
        rw [hzz] at h1
        simp only [Option.map_some, Option.some.injEq] at h1
        exact ⟨x, z, rfl, h1.2.1, hzz, h1.1⟩
  rcases Nat.eq_zero_or_pos len with rfl | hpos
  · simp only [zerosV] at hf
    have h0' : (Array.map (fun _ => default) (Array.range 0) : Array Value) = #[] := by simp [Array.range]
    simp [Instr.buildSlice, h2, hj.size_run w, h0', hf, newRow, newObj, Sem.run]
  have hzl : z.cells.size = j.size := by rw [← hz, ← e2]; simp
  have hcells : ((Array.range (len * j.size)).map fun k => z.cells[k % z.cells.size]!) = (zerosV len j.zero).toArray := by
    apply Array.ext'
    simp only [Array.toList_map, Array.toList_range]
    apply List.ext_getElem?
    intro k
    by_cases hk : k < len * j.size
    · rw [zerosV_get _ _ _ (by rw [hz]; exact hk), hz, List.getElem?_map, List.getElem?_range hk]
      simp only [Option.map_some, hzl]
      have hlt : k % j.size < z.cells.size := by rw [hzl]; exact Nat.mod_lt _ h0
      rw [getElem!_pos z.cells _ hlt, ← e2, Array.getElem?_toList, Array.getElem?_eq_getElem hlt]
    · rw [List.getElem?_eq_none (by simp; omega), List.getElem?_eq_none (by rw [zerosV_length, hz]; omega)]
  have h24 : (2 : Nat) ^ 24 = 16777216 := by decide
  have hp1 : 0 < len * j.size := Nat.mul_pos hpos h0
  refine run_buildSlice w t e len parts us.toArray ie z hu' g2 g3 (by rw [g1, h24]; omega) (by rw [g1]; omega) ?_
  rw [g1, hcells]
  exact hf
theorem opSpec_mk {P : Program} {T : TT} (hT : TOk P T) {ops : Array Oper} {o : Oper} {st : ASt} {g : Bool} {cs : List Bool} {x : AV} {p : Prop} (hg : guardA ops st o = some g) (h : mkA T st o.op = some (cs, x, p))
    (hp : g = true → (∀ c ∈ cs, c = true) ∧ p) : OpSpec P ops o st g x := by
  intro G a w hm hs
  refine ⟨guardA_sound hg hs, fun hgt ro K Q hK => ?_⟩
  obtain ⟨hc, hq⟩ := hp hgt
  clear hp
  have hev : ∀ y ∈ o.op.operands.toList, EvOk G w a st y := fun y hy => evOk_of fun t ht => hs t (looks_operand (by rw [← ht]; exact hy))
  refine wpIn_of_run (fun c hc => by rw [hc] at h; simp [mkA] at h) ?_
  obtain ⟨dst, op, type, pos, after, guard⟩ := o
  simp only at h hev
  unfold mkA at h
  split at h
  · rename_i t len parts
    split at h
    · rename_i e _ _ _ _ h1
      split at h
      · rename_i j h2
        split at h
        · rename_i gs cs' p' h3
          simp only [Option.some.injEq, Prod.mk.injEq] at h
          obtain ⟨rfl, rfl, rfl⟩ := h
          obtain ⟨q1, q2, q3, q4⟩ := hq
          have hev' : ∀ q ∈ parts.toList, EvOk G w a st q.2 := fun q hq => hev q.2 (by simp [Op.operands]; exact ⟨q.1, by simpa using hq⟩)
          obtain ⟨us, e1, e2⟩ := fillA_sound (a := a) hm _ _ _ _ _ _ hev' h3 hc q1 (zerosA_rel len j.zero)
          have e3 := buildSlice_run (w := w) (hT _ _ h1) rfl (hT _ _ h2) q2 q3 q4 (parts := parts.map fun q => (q.1, a.eval q.2)) (us := us) (by simpa using e1)
          have hlen : us.length = len * j.size := by
            have := fill_size _ _ _ e1
            simp only [List.size_toArray, zerosV_length, q4] at this
            exact this
          simp only [execOp, Sem.run_bind, e3, Result.andThen_ok, Sem.run_pure]
          have hcell : ∀ k u, us[k]? = some u → (w.alloc (.cells us.toArray e)).cell? ⟨w.heap.size, k, none⟩ = some u := fun k u hk => by
            have := heap_alloc_new w (.cells us.toArray e)
            simp only [World.cell?, this]
            simpa using hk
          have E := msat_ext hm ((Below.refl _ _).alloc (Nat.le_refl _) (.cells us.toArray e)) (fun b o => G.imm b o ∨ (b = w.heap.size ∧ o < us.length)) (fun b o i => .inl i) (fun b o i => i.elim .inl fun i => .inr (by omega))
            (fun b o i => by
              rcases i with i | ⟨rfl, i⟩
              · have := hm.lt_imm i
                rw [World.cell?_of_block (w := w) (heap_alloc_old w _ this)]
                exact hm.immOk b o i
              · rw [hcell o us[o] (List.getElem?_eq_getElem i)]; rfl)
          refine hK _ _ _ E ⟨_, len, rfl, Nat.le_refl _, ?_, fun hn => ⟨w.heap.size, 0, rfl, fun i hi => ?_⟩⟩
          · have : len ≤ len * j.size := Nat.le_mul_of_pos_right _ q2
            simp only [maxLen]; omega
          · refine ⟨(us.drop (i * j.size)).take j.size, AV.relL_take _ (AV.relL_drop _ (AV.relL_mono E.le _ _ e2)), ?_, fun k u hk => ?_⟩
            · have : (i + 1) * j.size ≤ len * j.size := Nat.mul_le_mul_right _ hi
              rw [Nat.succ_mul] at this
              simp; omega
            · rw [List.getElem?_take] at hk
              split at hk
              · rw [List.getElem?_drop] at hk
                have hlt := (List.getElem?_eq_some_iff.1 hk).1
                rw [Nat.zero_add]
                exact ⟨.inr ⟨rfl, hlt⟩, hcell _ _ hk⟩
              · cases hk
        · cases h
      · cases h
    · cases h
  · cases h

/-! ### A region -/
/-- A region's operations, evaluated in the order of the text: each leaves own variables and rows alone. -/
def PRun (P : Program) (ops : Array Oper) : List Oper → ASt → ASt → Prop
  | [], st, st' => st' = st
  | o :: r, st, st' => ∃ d g x, o.dst = some d ∧ OpSpec P ops o st g x ∧ PRun P ops r (st.put d (g, x)) st'
theorem PRun.nil {P : Program} {ops : Array Oper} {st : ASt} : PRun P ops [] st st := rfl

/-- The frame is as large as the slots that a region writes want. -/
def dstsFit (n : Nat) (ops : List Oper) : Bool := ops.all fun o => match o.dst with | some d => decide (d < n) | none => true

/-- What an operation looks at has been made by operations that it waits for. -/
def depOk (ops : List Oper) : Bool :=
  ((ops.filterMap (·.dst)).length == ops.length) && decide (ops.filterMap (·.dst)).Nodup &&
  ops.zipIdx.all fun x => (x.1.after.all fun e => decide (e.on < x.2)) && (x.1.looksAt ops.toArray).all fun t => ops.zipIdx.all fun y => y.1.dst != some t || (decide (y.2 < x.2) && x.1.after.any fun e => e.on == y.2 && Region.binds .any e)

theorem PRun.entries {P : Program} {ops : Array Oper} : ∀ {l : List Oper} {st st' : ASt}, PRun P ops l st st' → ∃ es : List (Nat × (Bool × AV)), es.length = l.length ∧ st' = { st with sl := es.reverse ++ st.sl } ∧
    ∀ (i : Nat) (o : Oper), l[i]? = some o → ∃ d g x, es[i]? = some (d, (g, x)) ∧ o.dst = some d ∧ OpSpec P ops o { st with sl := (es.take i).reverse ++ st.sl } g x
  | [], st, st', h => ⟨[], rfl, by rw [show st' = st from h]; simp, fun i o hi => by simp at hi⟩
  | o :: r, st, st', h => by
    obtain ⟨d, g, x, h1, h2, h3⟩ := h
    obtain ⟨es, e1, e2, e3⟩ := PRun.entries h3
    refine ⟨(d, (g, x)) :: es, by simp [e1], by rw [e2]; simp [ASt.put], fun i o' hi => ?_⟩
    cases i with
    | zero =>
      simp only [List.getElem?_cons_zero, Option.some.injEq] at hi
      subst hi
      exact ⟨d, g, x, rfl, h1, by simpa using h2⟩
    | succ i =>
      simp only [List.getElem?_cons_succ] at hi
      obtain ⟨d', g', x', e4, e5, e6⟩ := e3 i o' hi
      refine ⟨d', g', x', by simpa using e4, e5, ?_⟩
      simpa [ASt.put] using e6

theorem lookN_append {β : Type} (t : Nat) : ∀ (l l' : List (Nat × β)), lookN t (l ++ l') = match lookN t l with | some x => some x | none => lookN t l'
  | [], l' => rfl
  | (d, x) :: l, l' => by
    rw [List.cons_append, lookN_cons, lookN_cons]
    split
    · rfl
    · exact lookN_append t l l'
theorem lookN_none {β : Type} (t : Nat) : ∀ (l : List (Nat × β)), (∀ x ∈ l, x.1 ≠ t) → lookN t l = none
  | [], _ => rfl
  | (d, x) :: l, h => by
    rw [lookN_cons, if_neg (fun e => h (d, x) (by simp) e.symm)]
    exact lookN_none t l fun y hy => h y (by simp [hy])
theorem lookN_mem {β : Type} {t : Nat} {x : β} : ∀ {l : List (Nat × β)}, lookN t l = some x → (t, x) ∈ l
  | (d, y) :: l, h => by
    rw [lookN_cons] at h
    split at h
    · rename_i e; subst e; cases h; simp
    · exact List.mem_cons_of_mem _ (lookN_mem h)
theorem lookN_nodup {β : Type} {t : Nat} {x : β} : ∀ {l : List (Nat × β)}, (l.map (·.1)).Nodup → (t, x) ∈ l → lookN t l = some x
  | (d, y) :: l, hn, h => by
    simp only [List.map_cons, List.nodup_cons] at hn
    rw [lookN_cons]
    rcases List.mem_cons.1 h with e | e
    · cases e; simp
    · have : t ≠ d := fun e' => hn.1 (List.mem_map.2 ⟨(t, x), e, e'⟩)
      rw [if_neg this]
      exact lookN_nodup hn.2 e

theorem nodup_rev {α : Type} {l : List α} (h : l.Nodup) : l.reverse.Nodup := (List.reverse_perm l).nodup_iff.2 h

theorem countP_lt {p q : Nat → Bool} {k : Nat} : ∀ {l : List Nat}, (∀ x ∈ l, q x = true → p x = true) → k ∈ l → p k = true → q k = false → l.countP q < l.countP p
  | x :: l, h, hk, hp, hq => by
    have hle : l.countP q ≤ l.countP p := List.countP_mono_left fun y hy => h y (by simp [hy])
    by_cases hx : x = k
    · subst hx
      rw [List.countP_cons_of_pos hp, List.countP_cons_of_neg (by simp [hq])]
      omega
    · have hk' : k ∈ l := by rcases List.mem_cons.1 hk with e | e; exact absurd e.symm hx; exact e
      have ih := countP_lt (l := l) (fun y hy => h y (by simp [hy])) hk' hp hq
      by_cases hqx : q x = true
      · rw [List.countP_cons_of_pos hqx, List.countP_cons_of_pos (h x (by simp) hqx)]; omega
      · rw [List.countP_cons_of_neg hqx]
        by_cases hpx : p x = true
        · rw [List.countP_cons_of_pos hpx]; omega
        · rw [List.countP_cons_of_neg hpx]; exact ih

/-- While a region is under way, in whatever order. -/
structure Mid {P : Program} (C : Ctx P) (ops : List Oper) (es : List (Nat × (Bool × AV))) (st : ASt) (listed : Array Bool) (G : Gh) (a : Act) (w : World) : Prop where
  frame' : Outside C.may C.w0 w
  le : C.G0.Le C.w0 G w
  fresh : ∀ b o, G.imm b o → C.G0.imm b o ∨ C.w0.heap.size ≤ b ∨ ∃ x ∈ C.G0.rw, x.2.ownBlock = some b
  ownB : ∀ blk ∈ G.bx, blk ∈ C.G0.bx ∨ C.w0.heap.size ≤ blk
  ownR : ∀ x ∈ G.rw, ∀ g, x.2.ownBlock = some g → (∃ y ∈ C.G0.rw, y.2.ownBlock = some g) ∨ C.w0.heap.size ≤ g
  env : ∃ D, EnvD C G a.defers st.ys D w
  mem : MSat G w st.bx st.rw
  fits : dstsFit a.tmps.size ops = true
  frame : a.tmps.size = st.nt
  callers : C.G0.bx.length = st.nb
  size : ops.length ≤ listed.size
  old : ∀ (t : Nat), (∀ (k : Nat) (o : Oper), ops[k]? = some o → o.dst = some t → listed.getD k true = false) → SlotOk G w a st t
  new : ∀ (k d : Nat) (g : Bool) (x : AV), es[k]? = some (d, (g, x)) → listed.getD k false = true → ∃ v, a.tmps[d]? = some v ∧ (g = true → x.rel G w v) ∧ (g = false → v = undef)

theorem getD_set_self {l : Array Bool} {i : Nat} {d : Bool} (h : i < l.size) : (l.setIfInBounds i true).getD i d = true := by
  simp [Array.getD_eq_getD_getElem?, Array.getElem?_setIfInBounds, h]
theorem getD_set_other {l : Array Bool} {i k : Nat} {d : Bool} (h : i ≠ k) : (l.setIfInBounds i true).getD k d = l.getD k d := by
  simp [Array.getD_eq_getD_getElem?, Array.getElem?_setIfInBounds, h]
theorem getD_any {l : Array Bool} {k : Nat} (h : k < l.size) (d d' : Bool) : l.getD k d = l.getD k d' := by
  simp [Array.getD_eq_getD_getElem?, Array.getElem?_eq_getElem h]

theorem wpAny_of_run {P : Program} {C : Ctx P} {opsL : List Oper} {es : List (Nat × (Bool × AV))} {st : ASt} {Q : Exit → Act → World → Prop} (hd : depOk opsL = true) (hes : es.length = opsL.length)
    (hsp : ∀ (i : Nat) (o : Oper), opsL[i]? = some o → ∃ d g x, es[i]? = some (d, (g, x)) ∧ o.dst = some d ∧ OpSpec P opsL.toArray o { st with sl := (es.take i).reverse ++ st.sl } g x)
    (hQ : ∀ G a w, Sat C G a w { st with sl := es.reverse ++ st.sl } → Q .normal a w) :
    ∀ (fuel : Nat) (listed : Array Bool) (G : Gh) (a : Act) (w : World), (List.range opsL.length).countP (fun k => !listed.getD k true) ≤ fuel → Mid C opsL es st listed G a w → wpAnyIn (fen C.round) 0 P .any opsL.toArray Q fuel listed a w := by
  simp only [depOk, Bool.and_eq_true, beq_iff_eq, decide_eq_true_eq, List.all_eq_true] at hd
  obtain ⟨⟨hlen, hnd⟩, hdep⟩ := hd
  have hdst : es.map (·.1) = opsL.filterMap (·.dst) := by
    have h1 : ∀ (l : List Oper), (l.filterMap (·.dst)).length = l.length → ∀ (k : Nat) (o : Oper), l[k]? = some o → ∃ d, o.dst = some d ∧ (l.filterMap (·.dst))[k]? = some d := by
      intro l
      induction l with
      | nil => intro _ k o hk; simp at hk
      | cons x r ih =>
        intro hl k o hk
        have hle := List.length_filterMap_le (fun o : Oper => o.dst) r
        cases hx : x.dst with
        | none =>
          have hc : (List.filterMap (fun o : Oper => o.dst) r).length = r.length + 1 := by (simpa [List.filterMap_cons, hx] using hl)
          exact absurd hc (by omega)
        | some d =>
          rw [List.filterMap_cons_some hx] at hl ⊢
          cases k with
          | zero => simp only [List.getElem?_cons_zero, Option.some.injEq] at hk ⊢; subst hk; exact ⟨d, hx, rfl⟩
          | succ k => simp only [List.getElem?_cons_succ] at hk ⊢; exact ih (by simpa using hl) k o hk
    apply List.ext_getElem?
    intro k
    rw [List.getElem?_map]
    cases hk : opsL[k]? with
    | none =>
      have : opsL.length ≤ k := List.getElem?_eq_none_iff.1 hk
      rw [List.getElem?_eq_none (by omega), List.getElem?_eq_none (by omega)]; rfl
    | some o =>
      obtain ⟨d, g, x, e1, e2, _⟩ := hsp k o hk
      obtain ⟨d', e3, e4⟩ := h1 opsL hlen k o hk
      rw [e1, e4]
      rw [e2] at e3
      simpa using e3
  have hnd' : (es.map (·.1)).Nodup := by rw [hdst]; exact hnd
  -- an operation that is ready has all that it looks at
  have looks : ∀ (listed : Array Bool) (G : Gh) (a : Act) (w : World), Mid C opsL es st listed G a w → ∀ i o, opsL[i]? = some o → listed.getD i true = false → (∀ e ∈ o.after, Region.binds .any e = true → listed.getD e.on false = true) →
      ∀ t ∈ o.looksAt opsL.toArray, SlotOk G w a { st with sl := (es.take i).reverse ++ st.sl } t := by
    intro listed G a w hm i o hi hun hall t ht c x hl
    have hdi := hdep (o, i) (by rw [List.mem_zipIdx_iff_getElem?]; simpa using hi)
    have hdt := hdi.2 t ht
    simp only [ASt.look, lookN_append] at hl
    cases hlk : lookN t (es.take i).reverse with
    | none =>
      rw [hlk] at hl
      refine hm.old t (fun k ok hk hkt => ?_) c x hl
      have h2 := hdt (ok, k) (by rw [List.mem_zipIdx_iff_getElem?]; simpa using hk)
      simp only [hkt, bne_self_eq_false, Bool.false_or, Bool.and_eq_true, decide_eq_true_eq] at h2
      exfalso
      obtain ⟨d, g, y, e1, e2, _⟩ := hsp k ok hk
      rw [hkt] at e2
      cases e2
      have hmem : (t, (g, y)) ∈ (es.take i).reverse := by
        rw [List.mem_reverse, List.mem_iff_getElem?]
        exact ⟨k, by rw [List.getElem?_take, if_pos h2.1]; exact e1⟩
      have hndt : (((es.take i).reverse).map (·.1)).Nodup := by
        rw [List.map_reverse, List.map_take]
        exact nodup_rev (hnd'.sublist (List.take_sublist _ _))
      rw [lookN_nodup hndt hmem] at hlk
      cases hlk
    | some y =>
      rw [hlk] at hl
      cases hl
      have hmem := lookN_mem hlk
      rw [List.mem_reverse, List.mem_iff_getElem?] at hmem
      obtain ⟨k, hk⟩ := hmem
      rw [List.getElem?_take] at hk
      split at hk
      · rename_i hki
        have hklen : k < opsL.length := by
          have := (List.getElem?_eq_some_iff.1 hk).1; omega
        obtain ⟨d, g, y, e1, e2, _⟩ := hsp k opsL[k] (List.getElem?_eq_getElem hklen)
        rw [hk] at e1
        cases e1
        have h2 := hdt (opsL[k], k) (by rw [List.mem_zipIdx_iff_getElem?]; simp [List.getElem?_eq_getElem hklen])
        simp only [e2, bne_self_eq_false, Bool.false_or, Bool.and_eq_true, decide_eq_true_eq, Array.any_eq_true'] at h2
        obtain ⟨_, e, he, h3⟩ := h2
        rw [beq_iff_eq] at h3
        have h4 := hall e he h3.2
        rw [h3.1] at h4
        exact hm.new k t c x hk h4
      · cases hk
  have done : ∀ (listed : Array Bool) (G : Gh) (a : Act) (w : World), Mid C opsL es st listed G a w → Region.ready .any opsL.toArray listed = [] → Q .normal a w := by
    intro listed G a w hm hr
    have hall : ∀ k, k < opsL.length → listed.getD k true = true := by
      intro k
      induction k using Nat.strongRecOn with
      | _ k ih =>
        intro hk
        by_cases hu : listed.getD k true = true
        · exact hu
        · exfalso
          have : k ∈ Region.ready .any opsL.toArray listed := by
            rw [mem_ready]
            refine ⟨by simpa using hu, opsL[k], by simp [List.getElem?_eq_getElem hk], fun e he _ => ?_⟩
            have hdk := hdep (opsL[k], k) (by rw [List.mem_zipIdx_iff_getElem?]; simp [List.getElem?_eq_getElem hk])
            have hlt : e.on < k := by
              have := hdk.1
              rw [Array.all_eq_true_iff_forall_mem] at this
              simpa using this e he
            rw [getD_any (by have := hm.size; omega) false true]
            exact ih e.on hlt (by omega)
          rw [hr] at this
          cases this
    refine hQ G a w ⟨hm.frame, hm.callers, hm.frame', hm.le, hm.fresh, hm.ownB, hm.ownR, hm.env, hm.mem, fun t c x hl => ?_⟩
    simp only [ASt.look, lookN_append] at hl
    cases hlk : lookN t es.reverse with
    | none =>
      rw [hlk] at hl
      refine hm.old t (fun k ok hk hkt => ?_) c x hl
      exfalso
      obtain ⟨d, g, y, e1, e2, _⟩ := hsp k ok hk
      rw [hkt] at e2
      cases e2
      have hndt : ((es.reverse).map (·.1)).Nodup := by rw [List.map_reverse]; exact nodup_rev hnd'
      rw [lookN_nodup hndt (by rw [List.mem_reverse]; exact List.mem_of_getElem? e1)] at hlk
      cases hlk
    | some y =>
      rw [hlk] at hl
      cases hl
      have hmem := lookN_mem hlk
      rw [List.mem_reverse, List.mem_iff_getElem?] at hmem
      obtain ⟨k, hk⟩ := hmem
      have hklen : k < opsL.length := by have := (List.getElem?_eq_some_iff.1 hk).1; omega
      refine hm.new k t c x hk ?_
      rw [getD_any (by have := hm.size; omega) false true]
      exact hall k hklen
  intro fuel
  induction fuel with
  | zero =>
    intro listed G a w hcnt hm
    have hr : Region.ready .any opsL.toArray listed = [] := by
      rw [List.eq_nil_iff_forall_not_mem]
      intro i hi
      obtain ⟨h1, o, h2, _⟩ := mem_ready.1 hi
      have h3 : 0 < (List.range opsL.length).countP (fun k => !listed.getD k true) := by
        rw [List.countP_pos_iff]
        refine ⟨i, ?_, by simp [h1]⟩
        rw [List.mem_range]
        exact (by simpa using (Array.getElem?_eq_some_iff.1 h2).1)
      omega
    exact ⟨hr, done listed G a w hm hr⟩
  | succ fuel ih =>
    intro listed G a w hcnt hm
    refine ⟨done listed G a w hm, fun i hi => ?_⟩
    obtain ⟨h1, o, h2, h3⟩ := mem_ready.1 hi
    have hi' : opsL[i]? = some o := by simpa using h2
    have hilt : i < opsL.length := (List.getElem?_eq_some_iff.1 hi').1
    obtain ⟨d, g, x, e1, e2, e3⟩ := hsp i o hi'
    have hlk := looks listed G a w hm i o hi' h1 h3
    obtain ⟨s1, s2⟩ := e3 G a w hm.mem hlk
    have hdlt : d < a.tmps.size := by
      have := hm.fits
      simp only [dstsFit, List.all_eq_true] at this
      have := this o (List.mem_of_getElem? hi')
      rw [e2] at this
      simpa using this
    have hcnt' : (List.range opsL.length).countP (fun k => !(listed.setIfInBounds i true).getD k true) ≤ fuel := by
      have := countP_lt (p := fun k => !listed.getD k true) (q := fun k => !(listed.setIfInBounds i true).getD k true) (k := i) (l := List.range opsL.length)
        (fun k _ hk => by
          by_cases hik : i = k
          · subst hik; rw [getD_set_self (by have := hm.size; omega)] at hk; simp at hk
          · rwa [getD_set_other hik] at hk) (List.mem_range.2 hilt) (by simp [h1]) (by show (!_) = false; rw [getD_set_self (by have := hm.size; omega)]; rfl)
      omega
    -- the state behind the operation
    have next : ∀ v G' w', Ext st.bx st.rw G w G' w' → (g = true → x.rel G' w' v) → (g = false → v = undef) → Mid C opsL es st (listed.setIfInBounds i true) G' (a.put (some d) v) w' := by
      intro v G' w' E hv1 hv2
      refine ⟨hm.frame'.trans (.of_below E.below), hm.le.trans E.le, fun b o i => ?_, by rw [E.gbx]; exact hm.ownB, by rw [E.grw]; exact hm.ownR, ?_, E.mem, ?_, by simpa [Act.put] using hm.frame, hm.callers, by simpa using hm.size, fun t ht => ?_, fun k d' g' x' hk hl => ?_⟩
      · rcases E.fresh b o i with i | i
        · exact hm.fresh b o i
        · exact .inr (.inl (Nat.le_trans hm.frame'.size i))
      · obtain ⟨D, hD⟩ := hm.env
        exact ⟨D, hD.ext hm.mem E⟩
      · have := hm.fits
        simpa [Act.put, dstsFit] using this
      · intro c y hl
        have htd : d ≠ t := by
          intro e; subst e
          have := ht i o hi' e2
          rw [getD_set_self (by have := hm.size; omega)] at this
          cases this
        rw [Act.put_get, if_neg htd]
        obtain ⟨v', h4, h5, h6⟩ := hm.old t (fun k ok hk hkt => by
          have := ht k ok hk hkt
          by_cases hik : i = k
          · subst hik; rw [hi'] at hk; cases hk; rw [e2] at hkt; cases hkt; exact absurd rfl htd
          · rwa [getD_set_other hik] at this) c y hl
        exact ⟨v', h4, fun hc => AV.rel_mono E.le _ _ (h5 hc), h6⟩
      · by_cases hik : i = k
        · subst hik
          rw [e1] at hk
          cases hk
          rw [Act.put_get]
          exact ⟨v, by simp [Array.getElem?_eq_getElem hdlt], hv1, hv2⟩
        · rw [getD_set_other hik] at hl
          obtain ⟨v', h4, h5, h6⟩ := hm.new k d' g' x' hk hl
          have hne : d ≠ d' := by
            intro e; subst e
            have hk1 : (es.map (·.1))[k]? = some d := by rw [List.getElem?_map, hk]; rfl
            have hk2 : (es.map (·.1))[i]? = some d := by rw [List.getElem?_map, e1]; rfl
            have hl1 : k < (es.map (·.1)).length := (List.getElem?_eq_some_iff.1 hk1).1
            exact hik (((List.getElem?_inj hl1 hnd').1 (hk1.trans hk2.symm)).symm)
          rw [Act.put_get, if_neg hne]
          exact ⟨v', h4, fun hc => AV.rel_mono E.le _ _ (h5 hc), h6⟩
    unfold wpOpIn
    simp only [List.getElem?_toArray, hi']
    rw [s1]
    cases hg : g
    · simp only [Bool.false_eq_true, if_false]
      rw [e2]
      refine ⟨fun _ _ => trivial, ?_⟩
      exact ih _ G _ w hcnt' (next undef G w (Ext.refl hm.mem) (fun h => by rw [hg] at h; cases h) (fun _ => rfl))
    · simp only [if_true]
      refine s2 hg _ _ _ fun v G' w' E hv => ?_
      rw [e2]
      exact ih _ G' _ w' hcnt' (next v G' w' E (fun _ => hv) (fun h => by rw [hg] at h; cases h))

theorem Sat.drew {P : Program} {C : Ctx P} {G : Gh} {a : Act} {w : World} {st : ASt} (h : Sat C G a w st) : Sat C G a w.drew st :=
  h.ext (msat_ext h.mem (Below.refl _ _).drew G.imm (fun _ _ i => i) (fun _ _ i => .inl i) h.mem.immOk)

/-- A region that draws its order, evaluated in the order of the text. -/
theorem wpA_draw {P : Program} {id : Nat} {ops : List Oper} {Q : Exit → ASt → Prop} {st st' : ASt} (hm : P.follows .mixedOrders = true) (hd : depOk ops = true) (hf : dstsFit st.nt ops = true)
    (h : PRun P ops.toArray ops st st') (hq : Q .normal st') : wpA P (.region id ops.toArray true) Q st := by
  intro C G a w hs
  obtain ⟨es, h1, rfl, h3⟩ := h.entries
  have hs' := hs.drew
  refine wpIn_region_any hm (wpAny_of_run (C := C) (es := es) (st := st) hd h1 h3 (fun G a w hs => ⟨G, _, hs, hq⟩) _ _ G a _ ?_ ⟨hs'.frame, hs'.le, hs'.fresh, hs'.ownB, hs'.ownR, hs'.env, hs'.mem, by rw [hs.size]; exact hf, hs.size, hs.callers, by simp, fun t _ => hs'.slot t, ?_⟩)
  · exact Nat.le_trans List.countP_le_length (by simp)
  · intro k d g x _ hl
    simp [Array.getD_eq_getD_getElem?, Array.getElem?_replicate] at hl
    split at hl <;> cases hl

/-! ### A region in the order of the text -/
def runS (P : Program) (ops : Array Oper) (l : List Oper) (k : ASt → Prop) (st : ASt) : Prop :=
  ∀ (C : Ctx P) (G : Gh) (a : Act) (w : World) (Q : Exit → Act → World → Prop), Sat C G a w st → (∀ G' a' w' st', Sat C G' a' w' st' → k st' → Q .normal a' w') → wpListIn (fen C.round) 0 P ops Q l a w

theorem wpA_region {P : Program} {id : Nat} {ops : List Oper} {Q : Exit → ASt → Prop} {st : ASt} (h : ∀ K : ASt → Prop, (∀ s, Q .normal s → K s) → runS P ops.toArray ops K st) : wpA P (.region id ops.toArray false) Q st :=
  fun C G a w hs => wpIn_region_lit (h (Q .normal) (fun _ h => h) C G a w _ hs fun G' _ _ st' hs' hk => ⟨G', st', hs', hk⟩)

section runs
variable {P : Program} {ops : Array Oper} {r : List Oper} {k : ASt → Prop} {st : ASt} {o : Oper}
theorem runS_nil (h : k st) : runS P ops [] k st := fun _ G a w _ hs hQ => wpListIn_nil (hQ G a w st hs h)

theorem runS_op {d : Nat} {g : Bool} {x : AV} (hd : o.dst = some d) (ho : OpSpec P ops o st g x) (hn : Nat.blt d st.nt = true) (h : runS P ops r k (st.put d (g, x))) : runS P ops (o :: r) k st := by
  intro C G a w Q hs hQ
  have hdlt : d < st.nt := by simpa [Nat.blt_eq] using hn
  obtain ⟨h1, h2⟩ := ho G a w hs.mem (fun t _ => hs.slot t)
  refine wpListIn_step fun K hK => ?_
  rw [h1]
  cases hg : g
  · simp only [Bool.false_eq_true, if_false]
    rw [hd]
    exact ⟨fun _ _ => trivial, hK _ _ (h C G _ w Q (hs.put hdlt (fun h => by rw [hg] at h; cases h) (fun _ => rfl)) hQ)⟩
  · simp only [if_true]
    refine h2 hg _ K Q fun v G' w' E hv => ?_
    rw [hd]
    exact hK _ _ (h C G' _ w' Q ((hs.ext E).put hdlt (fun _ => hv) (fun h => by rw [hg] at h; cases h)) hQ)

theorem msat_push {G : Gh} {w : World} {bx : List (List AV)} {rw' : List ARow} (h : MSat G w bx rw') {cs : List AV} {vs : List Value} (T : TypeId) (hr : AV.relL G w cs vs) :
    MSat ⟨G.imm, G.bx ++ [w.heap.size], G.rw⟩ (w.alloc (.cells vs.toArray T)) (bx ++ [cs]) rw' ∧ G.Le w ⟨G.imm, G.bx ++ [w.heap.size], G.rw⟩ (w.alloc (.cells vs.toArray T)) := by
  have hb : Below w.heap.size w (w.alloc (.cells vs.toArray T)) := (Below.refl _ _).alloc (Nat.le_refl _) _
  have E := msat_ext h hb G.imm (fun _ _ i => i) (fun _ _ i => .inl i) (fun b o i => by
    rw [hb.cell (p := ⟨b, o, none⟩) (h.lt_imm i)]; exact h.immOk b o i)
  have le2 : Gh.Le ⟨G.imm, G.bx, G.rw⟩ (w.alloc (.cells vs.toArray T)) ⟨G.imm, G.bx ++ [w.heap.size], G.rw⟩ (w.alloc (.cells vs.toArray T)) :=
    ⟨fun _ _ i => i, fun _ _ _ => rfl, fun k x hx => by
      simp only [] at hx ⊢
      rw [List.getElem?_append_left (List.getElem?_eq_some_iff.1 hx).1]; exact hx, fun _ e h => ⟨e, h, .inl rfl⟩⟩
  have le := E.le.trans le2
  refine ⟨⟨E.mem.immOk, by simp [h.lenB], h.lenR, ?_, ?_, ?_, ?_, h.sepR⟩, le⟩
  · rw [List.nodup_append]
    refine ⟨h.nodup, by simp, fun a ha b hb' e => ?_⟩
    simp only [List.mem_singleton] at hb'
    have := h.lt_box ha
    omega
  · intro k cs' blk hk hg
    simp only [] at hg
    by_cases hkl : k < bx.length
    · rw [List.getElem?_append_left hkl] at hk
      rw [List.getElem?_append_left (by have := h.lenB; omega)] at hg
      obtain ⟨e2, vs', T', e3, e4⟩ := E.mem.box k cs' blk hk hg
      exact ⟨e2, vs', T', e3, AV.relL_mono le2 _ _ e4⟩
    · have hk' : k = bx.length := by
        have := (List.getElem?_eq_some_iff.1 hk).1; simp at this; omega
      subst hk'
      rw [List.getElem?_append_right (Nat.le_refl _)] at hk
      rw [List.getElem?_append_right (by have := h.lenB; omega)] at hg
      simp only [h.lenB, Nat.sub_self, List.getElem?_cons_zero, Option.some.injEq] at hk hg
      subst hk
      subst hg
      exact ⟨fun o i => by have := h.lt_imm i; omega, vs, T, heap_alloc_new w _, AV.relL_mono le _ _ hr⟩
  · intro k r' x hk hg
    have ro := E.mem.row k r' x hk hg
    obtain ⟨xs, ho, hel⟩ := ro.own
    exact ⟨ro.len, ⟨xs, ho, fun i hi => by obtain ⟨vs', e1, e2⟩ := hel i hi; exact ⟨vs', AV.relL_mono le2 _ _ e1, e2⟩⟩, ro.imm⟩
  · intro k x g hk hg
    simp only [List.mem_append, List.mem_singleton, not_or]
    refine ⟨h.sepB k x g hk hg, ?_⟩
    have := h.lt_row hk hg
    omega

theorem Sat.push {C : Ctx P} {G : Gh} {a : Act} {w : World} (hs : Sat C G a w st) {cs : List AV} {vs : List Value} (T : TypeId) (hr : AV.relL G w cs vs) :
    Sat C ⟨G.imm, G.bx ++ [w.heap.size], G.rw⟩ a (w.alloc (.cells vs.toArray T)) { st with bx := st.bx ++ [cs] } := by
  obtain ⟨m, le⟩ := msat_push hs.mem T hr
  have hb : Below w.heap.size w (w.alloc (.cells vs.toArray T)) := (Below.refl _ _).alloc (Nat.le_refl _) _
  refine ⟨hs.size, hs.callers, hs.frame.trans (.of_below hb), hs.le.trans le, hs.fresh, fun blk hblk => ?_, hs.ownR, ?_, m, fun t c x hl => ?_⟩
  · simp only [List.mem_append, List.mem_singleton] at hblk
    rcases hblk with hblk | rfl
    · exact hs.ownB blk hblk
    · exact .inr hs.frame.size
  · obtain ⟨D, hD⟩ := hs.env
    exact ⟨D, hD.step hs.mem le (fun _ _ i => .inl i) (fun k hk => by
      simp only [List.mem_append, List.mem_singleton] at hk
      exact hk.elim .inl fun h => .inr (Nat.le_of_eq h.symm)) (fun x hx g hg => .inl ⟨x, hx, hg⟩) (Outside.of_below hb)⟩
  · obtain ⟨v, h1, h2, h3⟩ := hs.slot t c x hl
    exact ⟨v, h1, fun hc => AV.rel_mono le _ _ (h2 hc), h3⟩

theorem runS_box {T : TT} {d : Nat} {t : TypeId} {x : Operand} {y : AV} (hop : o.op = .box t x) (hg : o.guard = none) (hd : o.dst = some d) (hx : st.ev x = some (true, y)) (h1 : AV.oneL st (cellsA y)) (hn : Nat.blt d st.nt = true)
    (h : runS P ops r k (ASt.put { st with bx := st.bx ++ [cellsA y] } d (true, .box st.bx.length 0))) : runS P ops (o :: r) k st := by
  intro C G a w Q hs hQ
  have hdlt : d < st.nt := by simpa [Nat.blt_eq] using hn
  have e1 := (evOk_of (x := x) fun t _ => hs.slot t) _ _ hx rfl
  have e2 := cells_rel h1 hs.mem e1
  have hs' := hs.push t e2
  refine wpListIn_plain hg fun K hK => ?_
  refine wpIn_of_run (fun c hc => by rw [hop] at hc; cases hc) ?_
  have hrun : (execOp a.eval o).run P w = .ok (.value (.pointer (some ⟨w.heap.size, 0, none⟩))) (w.alloc (.cells (a.eval x).cells t)) := by
    obtain ⟨dst, op, type, pos, after, guard⟩ := o
    simp only at hop
    subst hop
    simp [execOp, Instr.box, newVar, newRow, newObj, Sem.run]
  rw [hrun, Oper.uponIn_value, hd]
  refine hK _ _ (h C _ _ _ Q (hs'.put (st := { st with bx := st.bx ++ [cellsA y] }) hdlt (fun _ => ⟨w.heap.size, ?_, rfl⟩) (fun h => by cases h)) hQ)
  simp only []
  rw [List.getElem?_append_right (by rw [hs.mem.lenB]; exact Nat.le_refl _), hs.mem.lenB]
  simp

theorem runS_alloc {T : TT} (hT : TOk P T) {d : Nat} {t : TypeId} {i : TI} (hop : o.op = .alloc t) (hg : o.guard = none) (hd : o.dst = some d) (hi : T t = some i) (hn : Nat.blt d st.nt = true)
    (h : runS P ops r k (ASt.put { st with bx := st.bx ++ [i.zero.map .raw] } d (true, .box st.bx.length 0))) : runS P ops (o :: r) k st := by
  intro C G a w Q hs hQ
  have hdlt : d < st.nt := by simpa [Nat.blt_eq] using hn
  obtain ⟨z, h1, h2⟩ := (hT t i hi).zero_run w
  have e2 : AV.relL G w (i.zero.map .raw) z.cells.toList := by
    rw [h2]
    refine AV.relL_mk (by simp) fun j x v hx hv => ?_
    rw [List.getElem?_map, hv] at hx
    simp only [Option.map_some, Option.some.injEq] at hx
    subst hx; rfl
  have hs' := hs.push t e2
  refine wpListIn_plain hg fun K hK => ?_
  refine wpIn_of_run (fun c hc => by rw [hop] at hc; cases hc) ?_
  have hrun : (execOp a.eval o).run P w = .ok (.value (.pointer (some ⟨w.heap.size, 0, none⟩))) (w.alloc (.cells z.cells t)) := by
    obtain ⟨dst, op, type, pos, after, guard⟩ := o
    simp only at hop
    subst hop
    simp [execOp, Instr.alloc, h1, newVar, newRow, newObj, Sem.run]
  rw [hrun, Oper.uponIn_value, hd]
  refine hK _ _ (h C _ _ _ Q (hs'.put (st := { st with bx := st.bx ++ [i.zero.map .raw] }) hdlt (fun _ => ⟨w.heap.size, ?_, rfl⟩) (fun h => by cases h)) hQ)
  simp only []
  rw [List.getElem?_append_right (by rw [hs.mem.lenB]; exact Nat.le_refl _), hs.mem.lenB]
  simp
end runs
end Go.Proofs.Yticlpcgkaffdmaa
