/- The abstract logic: regions that draw their order and make variables, or rows that they append to. -/
import Derived.Test.YticlpcgkaffdmaaAlApp
namespace Go.Proofs.Yticlpcgkaffdmaa
set_option linter.unusedSectionVars false
set_option linter.unusedVariables false
set_option linter.unusedSimpArgs false
open Go.RowKit

/-- What an operation of a region makes and nobody else has: a variable, or a row. -/
inductive Tk where
  | box (cs : List AV)
  | row (r : ARow)
def TkOk (G : Gh) (w : World) : Tk → Value → Prop
  | .box cs, v => ∃ (blk : Nat) (vs : List Value) (T : TypeId), v = .pointer (some ⟨blk, 0, none⟩) ∧ w.heap[blk]? = some (.cells vs.toArray T (0, 0)) ∧ AV.relL G w cs vs ∧ ∀ o, ¬ G.imm blk o
  | .row r, v => RowOk G w r (r.n, v)
def tkBlk : Value → Option Nat
  | .pointer (some a) => some a.block
  | v => v.ownBlock
theorem TkOk.lt {G : Gh} {w : World} {t : Tk} {v : Value} {b : Nat} (h : TkOk G w t v) (hb : tkBlk v = some b) : ∃ cs T, w.heap[b]? = some (.cells cs T (0, 0)) := by
  cases t with
  | box cs =>
    obtain ⟨blk, vs, T, rfl, h1, _⟩ := h
    simp only [tkBlk, Option.some.injEq] at hb
    subst hb
    exact ⟨_, _, h1⟩
  | row r =>
    obtain ⟨xs, hown, _⟩ := RowOk.own h
    rcases hown.2 with ⟨e, _⟩ | ⟨g, cap, cur, e, _, h1, _⟩
    · simp only at e
      rw [e] at hb
      simp [tkBlk, Value.ownBlock] at hb
    · simp only at e
      rw [e] at hb
      simp only [tkBlk, Value.ownBlock, Option.some.injEq] at hb
      subst hb
      exact ⟨_, _, h1⟩
theorem TkOk.keep {G G' : Gh} {w w' : World} {t : Tk} {v : Value} (h : TkOk G w t v) (le : G.Le w G' w') (hh : ∀ b, tkBlk v = some b → w'.heap[b]? = w.heap[b]? ∧ ∀ o, G'.imm b o ↔ G.imm b o) : TkOk G' w' t v := by
  cases t with
  | box cs =>
    obtain ⟨blk, vs, T, rfl, h1, h2, h3⟩ := h
    obtain ⟨h4, h5⟩ := hh blk rfl
    exact ⟨blk, vs, T, rfl, by rw [h4]; exact h1, AV.relL_mono le _ _ h2, fun o i => h3 o ((h5 o).1 i)⟩
  | row r =>
    have ro : RowOk G w r (r.n, v) := h
    obtain ⟨xs, hown, hel⟩ := ro.own
    have hblk : ∀ g, v.ownBlock = some g → tkBlk v = some g := fun g hg => by
      rcases hown.2 with ⟨e, _⟩ | ⟨g', cap, cur, e, _⟩
      · simp only at e; subst e; simp [Value.ownBlock] at hg
      · simp only at e; subst e; exact hg
    refine ⟨rfl, ⟨xs, ⟨hown.1, ?_⟩, fun i hi => ?_⟩, fun g hg o => ?_⟩
    · rcases hown.2 with ho2 | ⟨g, cap, cur, hv, hbg, hg, hr⟩
      · exact .inl ho2
      · simp only at hv
        exact .inr ⟨g, cap, cur, hv, hbg, by rw [(hh g (by rw [hv]; rfl)).1]; exact hg, hr⟩
    · obtain ⟨vs, e1, e2⟩ := hel i hi
      exact ⟨vs, AV.relL_mono le _ _ e1, e2⟩
    · rw [← ro.imm g hg o]
      exact (hh g (hblk g hg)).2 o

inductive Kd where
  | pure
  | mk (t : Tk)
  | app (j : Nat) (t : Tk)
def Kd.tk : Kd → Option Tk
  | .pure => none
  | .mk t => some t
  | .app _ t => some t
def Kd.box? : Kd → Option (List AV)
  | .mk (.box cs) => some cs
  | .app _ (.box cs) => some cs
  | _ => none
def Kd.isBox (k : Kd) : Bool := k.box?.isSome
def boxesOf (ks : List Kd) : List (List AV) := ks.filterMap Kd.box?
theorem Kd.tk_box {k : Kd} {cs : List AV} (h : k.box? = some cs) : k.tk = some (.box cs) := by
  unfold Kd.box? at h
  split at h <;> first | (cases h; rfl) | cases h

/-- Memory has grown; besides, one block may have changed. -/
structure Grow (ob : Option Nat) (bx : List (List AV)) (rw : List ARow) (G : Gh) (w : World) (G' : Gh) (w' : World) : Prop where
  le : G.Le w G' w'
  out : Outside (fun k => ob = some k) w w'
  gbx : G'.bx = G.bx
  grw : G'.rw = G.rw
  mem : MSat G' w' bx rw
  fresh : ∀ b o, G'.imm b o → G.imm b o ∨ w.heap.size ≤ b ∨ ob = some b
theorem Grow.of_ext {bx : List (List AV)} {rw : List ARow} {G : Gh} {w : World} {G' : Gh} {w' : World} (E : Ext bx rw G w G' w') : Grow none bx rw G w G' w' :=
  ⟨E.le, .of_below E.below, E.gbx, E.grw, E.mem, fun b o i => (E.fresh b o i).elim .inl fun h => .inr (.inl h)⟩
/-- What is not owned by others. -/
def FreeBlk (G : Gh) (v : Value) : Prop := ∀ b, tkBlk v = some b → b ∉ G.bx ∧ ∀ y ∈ G.rw, y.2.ownBlock ≠ some b
/-- What an operation that makes something does. -/
def CrSpec (P : Program) (ops : Array Oper) (o : Oper) (st : ASt) (x : AV) (use : Option (Nat × Tk)) (t : Tk) : Prop :=
  ∀ (G : Gh) (a : Act) (w : World), MSat G w st.bx st.rw → (∀ t ∈ o.looksAt ops, SlotOk G w a st t) → ∀ (v0 : Value), (∀ s t0, use = some (s, t0) → a.tmps[s]? = some v0 ∧ TkOk G w t0 v0 ∧ FreeBlk G v0) →
    Region.wanted o (yielded ops a.tmps) = true ∧
    ∀ (ro : Option Nat) (K : Act → World → Prop) (Q : Exit → Act → World → Prop), (∀ v G' w', Grow (use.bind fun _ => tkBlk v0) st.bx st.rw G w G' w' → ((∃ cs, t = .box cs) ∨ x.rel G' w' v) → TkOk G' w' t v →
      (∀ b, tkBlk v = some b → w.heap.size ≤ b ∨ (use.bind fun _ => tkBlk v0) = some b) → K (a.put o.dst v) w') → o.wpIn (fen ro) 0 P a w K Q

theorem Sat.adopt {P : Program} {C : Ctx P} {G : Gh} {a : Act} {w : World} {st : ASt} {D : Nat → Prop} (hs : Sat C G a w st) (hD : EnvD C G a.defers st.ys D w) {blk : Nat} {cs : List AV} {vs : List Value} {T : TypeId}
    (h1 : w.heap[blk]? = some (.cells vs.toArray T (0, 0))) (h2 : AV.relL G w cs vs) (h3 : ∀ o, ¬ G.imm blk o) (h4 : blk ∉ G.bx) (h5 : ∀ y ∈ G.rw, y.2.ownBlock ≠ some blk) (h6 : C.w0.heap.size ≤ blk) (h7 : ¬ D blk) :
    Sat C ⟨G.imm, G.bx ++ [blk], G.rw⟩ a w { st with bx := st.bx ++ [cs] } ∧ EnvD C ⟨G.imm, G.bx ++ [blk], G.rw⟩ a.defers st.ys D w ∧ G.Le w ⟨G.imm, G.bx ++ [blk], G.rw⟩ w := by
  have le : Gh.Le G w ⟨G.imm, G.bx ++ [blk], G.rw⟩ w := ⟨fun _ _ i => i, fun _ _ _ => rfl, fun k x hx => by
    show (G.bx ++ [blk])[k]? = some x
    rw [List.getElem?_append_left (List.getElem?_eq_some_iff.1 hx).1]; exact hx, fun _ e h => ⟨e, h, .inl rfl⟩⟩
  have hlenB := hs.mem.lenB
  have hD' : EnvD C ⟨G.imm, G.bx ++ [blk], G.rw⟩ a.defers st.ys D w := ⟨hD.l, hD.cons, hD.sub, hD.lt, fun k hk => by
    simp only [List.mem_append, List.mem_singleton] at hk
    rcases hk with hk | rfl
    · exact hD.bx k hk
    · exact h7, hD.rw, hD.imm, hD.marks, hD.record⟩
  refine ⟨⟨hs.size, hs.callers, hs.frame, hs.le.trans le, hs.fresh, fun b hb => ?_, hs.ownR, ⟨D, hD'⟩, ⟨hs.mem.immOk, by simp [hlenB], hs.mem.lenR, ?_, ?_, ?_, ?_, hs.mem.sepR⟩, fun t c x hl => ?_⟩, hD', le⟩
  · simp only [List.mem_append, List.mem_singleton] at hb
    rcases hb with hb | rfl
    · exact hs.ownB b hb
    · exact .inr h6
  · rw [List.nodup_append]
    refine ⟨hs.mem.nodup, by simp, fun x hx y hy e => ?_⟩
    simp only [List.mem_singleton] at hy
    subst hy; subst e
    exact h4 hx
  · intro k cs' b hk hg
    by_cases hkl : k < st.bx.length
    · rw [List.getElem?_append_left hkl] at hk
      rw [List.getElem?_append_left (by omega)] at hg
      obtain ⟨e1, vs', T', e2, e3⟩ := hs.mem.box k cs' b hk hg
      exact ⟨e1, vs', T', e2, AV.relL_mono le _ _ e3⟩
    · have hk' : k = st.bx.length := by
        have := (List.getElem?_eq_some_iff.1 hk).1; simp at this; omega
      subst hk'
      rw [List.getElem?_append_right (Nat.le_refl _)] at hk
      rw [List.getElem?_append_right (by omega)] at hg
      simp only [hlenB, Nat.sub_self, List.getElem?_cons_zero, Option.some.injEq] at hk hg
      subst hk; subst hg
      exact ⟨h3, vs, T, h1, AV.relL_mono le _ _ h2⟩
  · intro k r x hk hg
    have ro := hs.mem.row k r x hk hg
    obtain ⟨xs, ho, hel⟩ := ro.own
    exact ⟨ro.len, ⟨xs, ho, fun i hi => by obtain ⟨vs', e1, e2⟩ := hel i hi; exact ⟨vs', AV.relL_mono le _ _ e1, e2⟩⟩, ro.imm⟩
  · intro k x g hk hg hm
    simp only [List.mem_append, List.mem_singleton] at hm
    rcases hm with hm | rfl
    · exact hs.mem.sepB k x g hk hg hm
    · exact h5 x (List.mem_of_getElem? hk) hg
  · obtain ⟨v, e1, e2, e3⟩ := hs.slot t c x hl
    exact ⟨v, e1, fun hc => AV.rel_mono le _ _ (e2 hc), e3⟩
def BoxFact (C0 : Nat) (G : Gh) (w : World) (D : Nat → Prop) (q : Nat × List AV) : Prop :=
  (∃ (vs : List Value) (T : TypeId), w.heap[q.1]? = some (.cells vs.toArray T (0, 0)) ∧ AV.relL G w q.2 vs) ∧ (∀ o, ¬ G.imm q.1 o) ∧ q.1 ∉ G.bx ∧ (∀ y ∈ G.rw, y.2.ownBlock ≠ some q.1) ∧ C0 ≤ q.1 ∧ ¬ D q.1
theorem Sat.adopts {P : Program} {C : Ctx P} {a : Act} {w : World} {D : Nat → Prop} : ∀ (l : List (Nat × List AV)) (G : Gh) (st : ASt), Sat C G a w st → EnvD C G a.defers st.ys D w → (∀ q ∈ l, BoxFact C.w0.heap.size G w D q) → (l.map (·.1)).Nodup →
    Sat C ⟨G.imm, G.bx ++ l.map (·.1), G.rw⟩ a w { st with bx := st.bx ++ l.map (·.2) } ∧ G.Le w ⟨G.imm, G.bx ++ l.map (·.1), G.rw⟩ w
  | [], G, st, hs, _, _, _ => by simpa using ⟨hs, Gh.Le.refl G w⟩
  | q :: l, G, st, hs, hD, hf, hn => by
    obtain ⟨⟨vs, T, h1, h2⟩, h3, h4, h5, h6, h7⟩ := hf q (by simp)
    obtain ⟨g1, g2, g3⟩ := hs.adopt hD h1 h2 h3 h4 h5 h6 h7
    simp only [List.map_cons, List.nodup_cons] at hn
    obtain ⟨r1, r2⟩ := Sat.adopts l _ _ g1 g2 (fun q' hq' => by
      obtain ⟨⟨vs', T', e1, e2⟩, e3, e4, e5, e6, e7⟩ := hf q' (by simp [hq'])
      refine ⟨⟨vs', T', e1, AV.relL_mono g3 _ _ e2⟩, e3, ?_, e5, e6, e7⟩
      simp only [List.mem_append, List.mem_singleton, not_or]
      exact ⟨e4, fun e => hn.1 (by rw [← e]; exact List.mem_map.2 ⟨q', hq', rfl⟩)⟩) hn.2
    simp only [List.map_cons]
    have e1 : G.bx ++ [q.1] ++ l.map (·.1) = G.bx ++ q.1 :: l.map (·.1) := by simp
    have e2 : st.bx ++ [q.2] ++ l.map (·.2) = st.bx ++ q.2 :: l.map (·.2) := by simp
    simp only [e1, e2] at r1 r2
    exact ⟨r1, g3.trans r2⟩

def Alive (ks : List Kd) (listed : Array Bool) (k : Nat) : Prop := listed.getD k false = true ∧ ∀ j t, ks[j]? = some (.app k t) → listed.getD j false = false
structure TokS {P : Program} (C : Ctx P) (es : List (Nat × (Bool × AV))) (ks : List Kd) (listed : Array Bool) (G : Gh) (a : Act) (w : World) (D : Nat → Prop) : Prop where
  tok : ∀ (k d : Nat) (e : Bool × AV) (kd : Kd) (t : Tk), es[k]? = some (d, e) → ks[k]? = some kd → kd.tk = some t → Alive ks listed k → ∃ v, a.tmps[d]? = some v ∧ TkOk G w t v ∧ FreeBlk G v ∧ ∀ b, tkBlk v = some b → ¬ D b ∧ C.w0.heap.size ≤ b
  sep : ∀ (k k' d d' : Nat) (e e' : Bool × AV) (kd kd' : Kd) (v v' : Value) (b : Nat), es[k]? = some (d, e) → es[k']? = some (d', e') → ks[k]? = some kd → ks[k']? = some kd' → kd.tk ≠ none → kd'.tk ≠ none → Alive ks listed k → Alive ks listed k' →
    a.tmps[d]? = some v → a.tmps[d']? = some v' → tkBlk v = some b → tkBlk v' = some b → k = k'
structure Mid2 {P : Program} (C : Ctx P) (ops : List Oper) (es : List (Nat × (Bool × AV))) (ks : List Kd) (st : ASt) (listed : Array Bool) (G : Gh) (a : Act) (w : World) : Prop where
  frame' : Outside C.may C.w0 w
  le : C.G0.Le C.w0 G w
  fresh : ∀ b o, G.imm b o → C.G0.imm b o ∨ C.w0.heap.size ≤ b ∨ ∃ x ∈ C.G0.rw, x.2.ownBlock = some b
  ownB : ∀ blk ∈ G.bx, blk ∈ C.G0.bx ∨ C.w0.heap.size ≤ blk
  ownR : ∀ x ∈ G.rw, ∀ g, x.2.ownBlock = some g → (∃ y ∈ C.G0.rw, y.2.ownBlock = some g) ∨ C.w0.heap.size ≤ g
  mem : MSat G w st.bx st.rw
  fits : dstsFit a.tmps.size ops = true
  frame : a.tmps.size = st.nt
  callers : C.G0.bx.length = st.nb
  size : ops.length ≤ listed.size
  old : ∀ (t : Nat), (∀ (k : Nat) (o : Oper), ops[k]? = some o → o.dst = some t → listed.getD k true = false) → SlotOk G w a st t
  new : ∀ (k d : Nat) (g : Bool) (x : AV) (kd : Kd), es[k]? = some (d, (g, x)) → ks[k]? = some kd → kd.isBox = false → listed.getD k false = true → ∃ v, a.tmps[d]? = some v ∧ (g = true → x.rel G w v) ∧ (g = false → v = undef)
  env : ∃ D, EnvD C G a.defers st.ys D w ∧ TokS C es ks listed G a w D

def kdApp : Option Kd → Option Nat
  | some (.app j _) => some j
  | _ => none
def kdBox : Option Kd → Bool
  | some k => k.isBox
  | none => false
def usesOk (ops : List Oper) (ks : List Kd) : Bool :=
  (List.range ks.length).all fun i => match kdApp ks[i]? with
    | some j => decide (j < i) && !kdBox ks[j]? && (match ops[i]? with
        | some o => o.after.any fun e => e.on == j && Region.binds .any e
        | none => false) && (List.range ks.length).all fun i' => kdApp ks[i']? != some j || i' == i
    | none => true
/-- An operation that only takes a part of what lies in a slot. -/
def isFl (o : Oper) : Bool := match o.op with
  | .extract (.tmp _) _ => o.guard.isNone && o.dst.isSome
  | _ => false
def waitsFor (o : Oper) (k : Nat) : Bool := o.after.any fun e => e.on == k && Region.binds .any e
/-- An operation that may be carried out whenever it is ready: nothing that does not wait for it has to do with it. -/
def floatOk (full : List Oper) (k : Nat) : Bool := match full[k]? with
  | some o => isFl o && (List.range full.length).all fun j => j == k || waitsFor o j || (match full[j]? with
    | some oj => waitsFor oj k || o.apart full.toArray oj
    | none => true)
  | none => false
def tail3 (m0 : Nat) (full : List Oper) : Bool := full.zipIdx.all fun x => decide (x.2 < m0) || ((x.1.after.all fun e => !Region.binds .any e || decide (e.on < x.2)) && (List.range x.2).all fun k => waitsFor x.1 k || (decide (k < m0) && floatOk full k))
def plainOps (full : List Oper) : Bool := full.all fun o => match o.op with
  | .defer _ => false
  | .select _ _ => false
  | _ => true
def kdPure : Option Kd → Bool
  | some .pure => true
  | _ => false
def depOk3 (ops : List Oper) (ks : List Kd) (l2 : List Oper) : Bool :=
  (((ops.filterMap (·.dst)).length == ops.length) && decide (ops.filterMap (·.dst)).Nodup &&
  ops.zipIdx.all fun x => (x.1.after.all fun e => !Region.binds .any e || decide (e.on < x.2)) && (x.1.looksAt (ops ++ l2).toArray).all fun t => ops.zipIdx.all fun y => y.1.dst != some t || (decide (y.2 < x.2) && !kdBox ks[y.2]? && x.1.after.any fun e => e.on == y.2 && Region.binds .any e)) &&
  usesOk ops ks && (tail3 ops.length (ops ++ l2) && plainOps (ops ++ l2) && (List.range ops.length).all fun k => !floatOk (ops ++ l2) k || kdPure ks[k]?)
theorem wanted_none' {ops : Array Oper} {o : Oper} {tmps : Array Value} (h : o.guard = none) : Region.wanted o (yielded ops tmps) = true := by simp [Region.wanted, h]
theorem waitsFor_sound {o : Oper} {k : Nat} (h : waitsFor o k = true) : ∃ e ∈ o.after, e.on = k ∧ Region.binds .any e = true := by
  unfold waitsFor at h
  rw [Array.any_eq_true'] at h
  obtain ⟨e, he, h6⟩ := h
  simp only [Bool.and_eq_true, beq_iff_eq] at h6
  exact ⟨e, he, h6.1, h6.2⟩
theorem tail3_sound {m0 : Nat} {full : List Oper} (h : tail3 m0 full = true) : ∀ i o, m0 ≤ i → full[i]? = some o → (∀ e ∈ o.after, Region.binds .any e = true → e.on < i) ∧ ∀ k, k < i → (∃ e ∈ o.after, e.on = k ∧ Region.binds .any e = true) ∨ (k < m0 ∧ floatOk full k = true) := by
  intro i o hi ho
  simp only [tail3, List.all_eq_true] at h
  have := h (o, i) (by rw [List.mem_zipIdx_iff_getElem?]; simpa using ho)
  simp only [Bool.or_eq_true, decide_eq_true_eq, Bool.and_eq_true, List.all_eq_true, List.mem_range] at this
  rcases this with h | ⟨h1, h2⟩
  · omega
  · rw [Array.all_eq_true_iff_forall_mem] at h1
    refine ⟨fun e he hb => by have := h1 e he; simpa [hb] using this, fun k hk => ?_⟩
    rcases h2 k hk with h3 | h3
    · exact .inl (waitsFor_sound h3)
    · exact .inr h3
theorem wpAny_tail3 {F : Fence} {n : Nat} {P : Program} {full : List Oper} {Q : Exit → Act → World → Prop} {m0 : Nat} (htail : ∀ i o, m0 ≤ i → full[i]? = some o → (∀ e ∈ o.after, Region.binds .any e = true → e.on < i) ∧ ∀ k, m0 ≤ k → k < i → ∃ e ∈ o.after, e.on = k ∧ Region.binds .any e = true) :
    ∀ (fuel m : Nat) (listed : Array Bool) (a : Act) (w : World), m0 ≤ m → full.length - m ≤ fuel → listed.size = full.length → (∀ k, k < full.length → listed.getD k false = decide (k < m)) → wpListIn F n P full.toArray Q (full.drop m) a w → wpAnyIn F n P .any full.toArray Q fuel listed a w := by
  have ready : ∀ (m : Nat) (listed : Array Bool), m0 ≤ m → listed.size = full.length → (∀ k, k < full.length → listed.getD k false = decide (k < m)) → (∀ i ∈ Region.ready .any full.toArray listed, i = m) ∧ (m < full.length → m ∈ Region.ready .any full.toArray listed) := by
    intro m listed hm hsz hl
    refine ⟨fun i hi => ?_, fun hlt => ?_⟩
    · obtain ⟨h1, o, h2, h3⟩ := mem_ready.1 hi
      have ho : full[i]? = some o := by simpa using h2
      have hil : i < full.length := (List.getElem?_eq_some_iff.1 ho).1
      rw [getD_any (by omega) true false, hl i hil] at h1
      have h4 : m ≤ i := by simpa using h1
      rcases Nat.lt_or_ge m i with h | h
      · obtain ⟨_, h5⟩ := htail i o (by omega) ho
        obtain ⟨e, he, rfl, hb⟩ := h5 m hm h
        have := h3 e he hb
        rw [hl _ (by omega)] at this
        simp at this
      · omega
    · rw [mem_ready]
      refine ⟨by rw [getD_any (by omega) true false, hl m hlt]; simp, full[m], by simp [List.getElem?_eq_getElem hlt], fun e he hb => ?_⟩
      have := (htail m full[m] hm (List.getElem?_eq_getElem hlt)).1 e he hb
      rw [hl _ (by omega)]; simp [this]
  intro fuel
  induction fuel with
  | zero =>
    intro m listed a w hm hf hsz hl h
    have hnil : full.drop m = [] := List.drop_eq_nil_of_le (by omega)
    rw [hnil] at h
    refine ⟨?_, h⟩
    rw [List.eq_nil_iff_forall_not_mem]
    intro i hi
    have h1 := (ready m listed hm hsz hl).1 i hi
    obtain ⟨_, o, h2, _⟩ := mem_ready.1 hi
    have : i < full.length := by simpa using (Array.getElem?_eq_some_iff.1 h2).1
    omega
  | succ fuel ih =>
    intro m listed a w hm hf hsz hl h
    refine ⟨fun hr => ?_, fun i hi => ?_⟩
    · have hge : full.length ≤ m := by
        rcases Nat.lt_or_ge m full.length with hlt | hge
        · have := (ready m listed hm hsz hl).2 hlt
          rw [hr] at this; cases this
        · exact hge
      rw [List.drop_eq_nil_of_le hge] at h
      exact h
    · obtain rfl := (ready m listed hm hsz hl).1 i hi
      obtain ⟨_, o, h2, _⟩ := mem_ready.1 hi
      have ho : full[i]? = some o := by simpa using h2
      have hil : i < full.length := (List.getElem?_eq_some_iff.1 ho).1
      have hnext : ∀ a w, wpListIn F n P full.toArray Q (full.drop (i + 1)) a w → wpAnyIn F n P .any full.toArray Q fuel (listed.setIfInBounds i true) a w := fun a w h =>
        ih (i + 1) _ a w (by omega) (by omega) (by simpa using hsz) (fun k hk => by
          by_cases hik : i = k
          · subst hik; rw [getD_set_self (by omega)]; simp
          · rw [getD_set_other hik, hl k hk]; simp; omega) h
      rw [List.drop_eq_getElem_cons hil, show full[i] = o from (List.getElem?_eq_some_iff.1 ho).2] at h
      unfold wpOpIn
      simp only [List.getElem?_toArray, ho]
      unfold wpListIn at h
      split
      · rename_i hw
        rw [if_pos hw] at h
        exact Oper.wpIn_mono hnext h
      · rename_i hw
        rw [if_neg hw] at h
        exact ⟨h.1, hnext _ _ h.2⟩

theorem wpOpIn_put' {P : Program} {ops : Array Oper} {ro : Option Nat} {Q : Exit → Act → World → Prop} {j : Nat} {oi oj : Oper} {v : Value} (hj : ops[j]? = some oj) (hdj : ∀ c, oj.op ≠ .defer c) (hap : oi.apart ops oj = true)
    (hsi : ∀ cs b, oi.op ≠ .select cs b) (hsj : ∀ cs b, oj.op ≠ .select cs b)
    (hQ : ∀ c a w, Q (.panic c) (a.put oi.dst v) w → Q (.panic c) a w) {K : Act → World → Prop} {a : Act} {w : World}
    (hy : YieldsFenced P ops oi v a) (h : wpOpIn (fen ro) 0 P ops Q j K (a.put oi.dst v) w) :
    wpOpIn (fen ro) 0 P ops Q j (fun a' w' => YieldsFenced P ops oi v a' ∧ K (a'.put oi.dst v) w') a w := by
  obtain ⟨h1, h2, h3⟩ := Oper.apart_spec hap
  have keep : ∀ (a : Act), YieldsFenced P ops oi v a → ∀ u, YieldsFenced P ops oi v (a.put oj.dst u) := fun a hy u =>
    hy.of_same (execOp_put oi hsi a oj.dst u h3) (wanted_put oi a oj.dst u h3) (fun w => about_put oi w a oj.dst u h3)
  unfold wpOpIn at *
  simp only [hj] at *
  rw [wanted_put oj a oi.dst v h1, about_put oj w a oi.dst v h1] at h
  have hsem : ∀ ρ : Operand → Value, Oper.semAt (fen ro).round ρ oj = execOp ρ oj := fun ρ => semAt_fen ro ρ oj hdj
  split
  · rename_i hw
    simp only [hw, if_true] at h
    unfold Oper.wpIn at *
    rw [about_put oj w a oi.dst v h1] at h
    refine ⟨h.1, ?_⟩
    have h := h.2
    rw [hsem, execOp_put oj hsj a oi.dst v h1] at h
    rw [hsem]
    generalize (execOp a.eval oj).run P w = r at *
    cases r with
    | ok x w' =>
      cases x <;> simp only [Oper.uponIn] at h ⊢
      case value u => exact ⟨keep a hy u, by rw [← Act.put_comm a v u h2]; exact h⟩
      case skip => exact ⟨keep a hy _, by rw [← Act.put_comm a v undef h2]; exact h⟩
      case defer d =>
        refine ⟨keep { a with defers := d :: a.defers } (hy.of_same rfl rfl (fun _ => rfl)) _, ?_⟩
        rw [← Act.put_comm _ v undef h2, ← Act.put_defers]
        exact h
      case enter f args =>
        refine ⟨h.1, CallsIn.mono h.2 fun e w'' he => ?_⟩
        cases e with
        | returned u => exact ⟨keep a hy u, by rw [← Act.put_comm a v u h2]; exact he⟩
        | panicked c => exact hQ _ _ _ he
        | outgrown => exact he
      case row row args => exact ⟨h.1, RowsIn.mono h.2 fun u w'' he => ⟨keep a hy u, by rw [← Act.put_comm a v u h2]; exact he⟩⟩
      case round l f tmps assign body =>
        refine ⟨h.1, RoundIn.mono h.2 fun e w'' he => ?_⟩
        cases e with
        | returned u => exact ⟨keep a hy u, by rw [← Act.put_comm a v u h2]; exact he⟩
        | panicked c => exact hQ _ _ _ he
        | outgrown => exact he
    | halt x w' =>
      cases x <;> simp only [Oper.uponIn] at h ⊢
      case panic u => exact hQ _ _ _ h
  · rename_i hw
    simp only [hw] at h
    exact ⟨h.1, keep a hy _, by rw [← Act.put_comm a v undef h2]; exact h.2⟩
theorem yieldsFenced_op {P : Program} {ops : Array Oper} {ro : Option Nat} {Q : Exit → Act → World → Prop} {i : Nat} {o : Oper} {v : Value} {a : Act} (hdo : ∀ c, o.op ≠ .defer c) (hi : ops[i]? = some o) (hy : YieldsFenced P ops o v a)
    {K : Act → World → Prop} {w : World} (h : K (a.put o.dst v) w) : wpOpIn (fen ro) 0 P ops Q i K a w := by
  unfold Go.wpOpIn
  simp only [hi]
  have hab : ∀ f, o.about P w a.eval = some f → (fen ro).fn f := fun f hf => by rw [hy.2 w] at hf; cases hf
  rcases hy.1 with ⟨hw, hv⟩ | ⟨hw, rfl⟩
  · simp only [hw, if_true, Oper.wpIn]
    refine ⟨hab, ?_⟩
    rw [show Oper.semAt (fen ro).round a.eval o = execOp a.eval o from semAt_fen ro a.eval o hdo, hv w]
    exact h
  · simp only [hw, Bool.false_eq_true, if_false]; exact ⟨hab, h⟩
theorem ready_more {md : Region.Mode} {ops : Array Oper} {listed : Array Bool} {i j : Nat} (hj : j ∈ Region.ready md ops listed) (hji : j ≠ i) : j ∈ Region.ready md ops (listed.setIfInBounds i true) := ready_mono hj hji
theorem wpAnyIn_first' {P : Program} {ops : Array Oper} {ro : Option Nat} {Q : Exit → Act → World → Prop} {i : Nat} {oi : Oper} {v : Value} (hi : ops[i]? = some oi) (hpl : ∀ (j : Nat) (o : Oper), ops[j]? = some o → (∀ c, o.op ≠ .defer c) ∧ ∀ cs b, o.op ≠ .select cs b)
    (hQ : ∀ c a w, Q (.panic c) (a.put oi.dst v) w → Q (.panic c) a w) :
    ∀ (fuel : Nat) (listed : Array Bool) (a : Act) (w : World),
      (∀ j oj, ops[j]? = some oj → j ≠ i → listed.getD j true = false → (∀ e ∈ oj.after, Region.binds .any e = true → e.on ≠ i) → oi.apart ops oj = true) →
      i ∈ Region.ready .any ops listed → YieldsFenced P ops oi v a →
      wpAnyIn (fen ro) 0 P .any ops Q fuel (listed.setIfInBounds i true) (a.put oi.dst v) w → wpAnyIn (fen ro) 0 P .any ops Q (fuel + 1) listed a w := by
  intro fuel
  induction fuel with
  | zero =>
    intro listed a w _ hr hy H
    refine ⟨fun h => (by rw [h] at hr; cases hr), fun j hj => ?_⟩
    by_cases hji : j = i
    · subst hji; exact yieldsFenced_op (hpl j oi hi).1 hi hy H
    · have := ready_mono hj hji
      rw [H.1] at this
      cases this
  | succ fuel ih =>
    intro listed a w hfree hr hy H
    refine ⟨fun h => (by rw [h] at hr; cases hr), fun j hj => ?_⟩
    by_cases hji : j = i
    · subst hji; exact yieldsFenced_op (hpl j oi hi).1 hi hy H
    · have h1 := H.2 j (ready_mono hj hji)
      obtain ⟨hjun, oj, hoj, hall⟩ := mem_ready.1 hj
      have hnot : ∀ e ∈ oj.after, Region.binds .any e = true → e.on ≠ i := fun e he hb heq => by
        have h1 := hall e he hb
        have h0 := (mem_ready.1 hr).1
        rw [heq] at h1
        rcases Nat.lt_or_ge i listed.size with h' | h'
        · simp [h'] at h0 h1; rw [h0] at h1; cases h1
        · simp [Array.getElem?_eq_none h'] at h1
      have h2 := wpOpIn_put' hoj (hpl j oj hoj).1 (hfree j oj hoj hji hjun hnot) (hpl i oi hi).2 (hpl j oj hoj).2 hQ hy h1
      have hfree' : ∀ k ok, ops[k]? = some ok → k ≠ i → (listed.setIfInBounds j true).getD k true = false →
          (∀ e ∈ ok.after, Region.binds .any e = true → e.on ≠ i) → oi.apart ops ok = true := fun k ok hk hki hun hno => by
        refine hfree k ok hk hki ?_ hno
        by_cases hjk : j = k
        · subst hjk; exact hjun
        · rw [getD_set_ne true hjk] at hun; exact hun
      refine wpOpIn_mono (fun a' w' h3 => ih (listed.setIfInBounds j true) a' w' hfree' (ready_mono hr (Ne.symm hji)) h3.1 ?_) h2
      rw [Array.setIfInBounds_comm _ _ hji]
      exact h3.2
theorem least_of {p : Nat → Prop} : ∀ n : Nat, (∃ k, k < n ∧ p k) → ∃ k, k < n ∧ p k ∧ ∀ j, j < k → ¬ p j := by
  intro n
  induction n with
  | zero => rintro ⟨k, hk, _⟩; omega
  | succ n ih =>
    rintro ⟨k, hk, hp⟩
    by_cases h : ∃ k, k < n ∧ p k
    · obtain ⟨k, h1, h2, h3⟩ := ih h
      exact ⟨k, by omega, h2, h3⟩
    · refine ⟨k, hk, hp, fun j hj hpj => h ⟨j, by omega, hpj⟩⟩
/-- What such an operation yields. -/
theorem fl_yields {P : Program} {ops : Array Oper} {o : Oper} {st : ASt} {g : Bool} {x : AV} (hf : isFl o = true) (hs : OpSpec P ops o st g x) {G : Gh} {a : Act} {w : World} (hm : MSat G w st.bx st.rw) (hl : ∀ t ∈ o.looksAt ops, SlotOk G w a st t) {d : Nat} (hd : o.dst = some d) (hdl : d < a.tmps.size) :
    ∃ v, YieldsFenced P ops o v a ∧ g = true ∧ ∃ G', Ext st.bx st.rw G w G' w ∧ x.rel G' w v := by
  obtain ⟨s1, s2⟩ := hs G a w hm hl
  obtain ⟨dst, op, type, pos, after, guard⟩ := o
  simp only at hd
  subst hd
  simp only [isFl] at hf
  split at hf
  · rename_i t i
    simp only [Bool.and_eq_true, Option.isNone_iff_eq_none] at hf
    obtain ⟨hgn, _⟩ := hf
    subst hgn
    have hw : ∀ tm, Region.wanted (⟨some d, .extract (.tmp t) i, type, pos, after, none⟩ : Oper) (yielded ops tm) = true := fun tm => wanted_none' rfl
    rw [hw] at s1
    have h3 := s2 s1.symm none (fun a' w' => ∃ v G', a' = a.put (some d) v ∧ Ext st.bx st.rw G w G' w' ∧ x.rel G' w' v) (fun _ _ _ => False) (fun v G' w' E hx => ⟨v, G', rfl, E, hx⟩)
    have h4 := h3.2
    rw [show Oper.semAt (fen none).round a.eval (⟨some d, .extract (.tmp t) i, type, pos, after, none⟩ : Oper) = execOp a.eval ⟨some d, .extract (.tmp t) i, type, pos, after, none⟩ from semAt_fen none _ _ (fun c h => by cases h)] at h4
    have hex : ∀ w0, (execOp a.eval ⟨some d, .extract (.tmp t) i, type, pos, after, none⟩).run P w0 = ((Instr.extract (a.eval (.tmp t)) i).run P w0).andThen fun v w' => .ok (.value v) w' := fun w0 => by
      simp only [execOp, Sem.run_bind]; rfl
    rw [hex w] at h4
    cases hv : a.eval (.tmp t) with
    | tuple vs =>
      cases hvi : vs[i]? with
      | none => rw [hv] at h4; simp [Instr.extract, hvi, stuck, Sem.run, Result.andThen, Oper.uponIn] at h4
      | some u =>
        rw [hv] at h4
        have hr : ∀ w0, (Instr.extract (.tuple vs) i).run P w0 = .ok u w0 := fun w0 => by simp [Instr.extract, hvi]
        rw [hr w] at h4
        obtain ⟨v', G', e1, e2, e3⟩ := h4
        have huv : u = v' := by
          have h5 : (a.put (some d) u).tmps[d]? = (a.put (some d) v').tmps[d]? := by rw [← e1]
          rw [Act.put_get, Act.put_get, if_pos rfl, if_pos rfl, Array.getElem?_eq_getElem hdl] at h5
          simpa using h5
        subst huv
        exact ⟨u, ⟨.inl ⟨hw _, fun w0 => by rw [hex w0, hv, hr w0]; rfl⟩, fun w0 => rfl⟩, s1.symm, G', e2, e3⟩
    | _ => rw [hv] at h4; simp [Instr.extract, stuck, Sem.run, Result.andThen, Oper.uponIn] at h4
  · cases hf

theorem usesOk_sound {ops : List Oper} {ks : List Kd} (h : usesOk ops ks = true) {i j : Nat} {t : Tk} (hi : ks[i]? = some (.app j t)) : j < i ∧ kdBox ks[j]? = false ∧ (∀ o, ops[i]? = some o → ∃ e ∈ o.after, e.on = j ∧ Region.binds .any e = true) ∧ ∀ i' t', ks[i']? = some (.app j t') → i' = i := by
  simp only [usesOk, List.all_eq_true, List.mem_range] at h
  have hil : i < ks.length := (List.getElem?_eq_some_iff.1 hi).1
  have h1 := h i hil
  rw [hi] at h1
  simp only [kdApp, Bool.and_eq_true, decide_eq_true_eq, Bool.not_eq_true', List.all_eq_true, List.mem_range] at h1
  obtain ⟨⟨⟨h2, h3⟩, h4⟩, h5⟩ := h1
  refine ⟨h2, h3, fun o ho => ?_, fun i' t' hi' => ?_⟩
  · rw [ho] at h4
    simp only at h4
    rw [Array.any_eq_true'] at h4
    obtain ⟨e, he, h6⟩ := h4
    simp only [Bool.and_eq_true, beq_iff_eq] at h6
    exact ⟨e, he, h6.1, h6.2⟩
  · have := h5 i' (List.getElem?_eq_some_iff.1 hi').1
    rw [hi'] at this
    simpa [kdApp] using this

def StepOk (P : Program) (full : Array Oper) (es : List (Nat × (Bool × AV))) (ks : List Kd) (st : ASt) (o : Oper) (g : Bool) (x : AV) : Kd → Prop
  | .pure => OpSpec P full o st g x
  | .mk t => g = true ∧ CrSpec P full o st x none t
  | .app j t => g = true ∧ ∃ dj ej kdj tj, es[j]? = some (dj, ej) ∧ ks[j]? = some kdj ∧ kdj.tk = some tj ∧ CrSpec P full o st x (some (dj, tj)) t

theorem EnvD.grow {P : Program} {C : Ctx P} {G G' : Gh} {ds : List Deferred} {ys : (Nat × List (List AV)) × List (List AV) × Bool} {D : Nat → Prop} {w w' : World} {bx : List (List AV)} {rw' : List ARow} {ob : Option Nat} (e : EnvD C G ds ys D w) (hm : MSat G w bx rw')
    (E : Grow ob bx rw' G w G' w') (hob : ∀ b, ob = some b → ¬ D b ∧ ∃ cs T, w.heap[b]? = some (.cells cs T (0, 0))) : EnvD C G' ds ys D w' := by
  have size := E.out.size
  have other : ∀ k, k < w.heap.size → ob ≠ some k → w'.heap[k]? = w.heap[k]? := fun k hk h => E.out.block k hk h
  have notOb : ∀ m o, w.heap[m]? = some o → cellsO o = false → ob ≠ some m := fun m o hm' ho h => by
    obtain ⟨_, cs, T, hc⟩ := hob m h
    rw [hm'] at hc
    simp only [Option.some.injEq] at hc
    rw [hc] at ho
    cases ho
  refine ⟨e.l, C.stable _ _ _ _ _ _ _ e.cons (E.out.mono fun k _ h hd => (hob k h).1 hd) (fun b o i => ⟨E.le.imm b o i, E.le.cell b o i⟩), e.sub, fun k hk => Nat.lt_of_lt_of_le (e.lt k hk) size, fun k hk => by rw [E.gbx] at hk; exact e.bx k hk, fun x hx => by rw [E.grw] at hx; exact e.rw x hx, fun b o i => ?_, ?_, fun r hr => ?_⟩
  · rcases E.fresh b o i with h | h | h
    · exact e.imm b o h
    · exact .inr fun hd => by have := e.lt b hd; omega
    · exact .inr (hob b h).1
  · obtain ⟨l, h1, h2, h3⟩ := e.marks
    refine ⟨l, h1, h2, fun m hml => ?_⟩
    obtain ⟨h4, h5, h6⟩ := h3 m hml
    exact ⟨by rw [other m (Array.getElem?_eq_some_iff.1 h4).1 (notOb m _ h4 rfl)]; exact h4, h5, h6⟩
  · obtain ⟨⟨L, hL⟩, h2⟩ := e.record r hr
    exact ⟨⟨L, by rw [other r (Array.getElem?_eq_some_iff.1 hL).1 (notOb r _ hL rfl)]; exact hL⟩, h2⟩
theorem wpAny3 {P : Program} {C : Ctx P} {opsL l2 full : List Oper} (hfull : full = opsL ++ l2) {es : List (Nat × (Bool × AV))} {ks : List Kd} {st : ASt} {Q : Exit → Act → World → Prop} (hd : depOk3 opsL ks l2 = true) (hpan : ∀ c a w, ¬ Q (.panic c) a w) (hes : es.length = opsL.length) (hks : ks.length = opsL.length)
    (hsp : ∀ (i : Nat) (o : Oper), opsL[i]? = some o → ∃ d g x kd, es[i]? = some (d, (g, x)) ∧ ks[i]? = some kd ∧ o.dst = some d ∧ StepOk P full.toArray es ks { st with sl := (es.take i).reverse ++ st.sl } o g x kd)
    (hbx : ∀ (i d : Nat) (g : Bool) (x : AV) (kd : Kd) (cs : List AV), es[i]? = some (d, (g, x)) → ks[i]? = some kd → kd.box? = some cs → x = .box (st.bx.length + (boxesOf (ks.take i)).length) 0)
    (hQ : ∀ G a w, Sat C G a w { st with sl := es.reverse ++ st.sl, bx := st.bx ++ boxesOf ks } → wpListIn (fen C.round) 0 P full.toArray Q l2 a w) :
    ∀ (fuel : Nat) (listed : Array Bool) (G : Gh) (a : Act) (w : World), (List.range full.length).countP (fun k => !listed.getD k true) ≤ fuel → listed.size = full.length → (∀ k, opsL.length ≤ k → listed.getD k false = false) → Mid2 C opsL es ks st listed G a w → wpAnyIn (fen C.round) 0 P .any full.toArray Q fuel listed a w := by
  simp only [depOk3, ← hfull, Bool.and_eq_true, beq_iff_eq, decide_eq_true_eq, List.all_eq_true] at hd
  obtain ⟨⟨⟨⟨hlen, hnd⟩, hdep⟩, hus⟩, ⟨htl, hpl⟩, hkp⟩ := hd
  have htail0 := tail3_sound htl
  have htail : ∀ i o, opsL.length ≤ i → full[i]? = some o → (∀ e ∈ o.after, Region.binds .any e = true → e.on < i) ∧ ∀ k, opsL.length ≤ k → k < i → ∃ e ∈ o.after, e.on = k ∧ Region.binds .any e = true := fun i o hi ho => ⟨(htail0 i o hi ho).1, fun k hk hki => ((htail0 i o hi ho).2 k hki).resolve_right (by omega)⟩
  have hplain : ∀ (j : Nat) (o : Oper), full.toArray[j]? = some o → (∀ c, o.op ≠ .defer c) ∧ ∀ cs b, o.op ≠ .select cs b := fun j o ho => by
    have h1 := hpl
    simp only [plainOps, List.all_eq_true] at h1
    have h2 := h1 o (List.mem_of_getElem? (by simpa using ho))
    constructor
    · intro c hc; rw [hc] at h2; cases h2
    · intro cs b hc; rw [hc] at h2; cases h2
  have hfl : full.length = opsL.length + l2.length := by rw [hfull]; simp
  have hfg : ∀ k, k < opsL.length → full[k]? = opsL[k]? := fun k hk => by rw [hfull, List.getElem?_append_left hk]
  have hdst : es.map (·.1) = opsL.filterMap (·.dst) := by
    have h1 : ∀ (l : List Oper), (l.filterMap (·.dst)).length = l.length → ∀ (k : Nat) (o : Oper), l[k]? = some o → ∃ d, o.dst = some d ∧ (l.filterMap (·.dst))[k]? = some d := by
      intro l
      induction l with
      | nil => intro _ k o hk; simp at hk
      | cons x r ih =>
        intro hl k o hk
        have hle := List.length_filterMap_le (fun o : Oper => o.dst) r
        cases hx : x.dst with
        | none =>
          have hc : (List.filterMap (fun o : Oper => o.dst) r).length = r.length + 1 := by (simpa [List.filterMap_cons, hx] using hl)
          exact absurd hc (by omega)
        | some d =>
          rw [List.filterMap_cons_some hx] at hl ⊢
          cases k with
          | zero => simp only [List.getElem?_cons_zero, Option.some.injEq] at hk ⊢; subst hk; exact ⟨d, hx, rfl⟩
          | succ k => simp only [List.getElem?_cons_succ] at hk ⊢; exact ih (by simpa using hl) k o hk
    apply List.ext_getElem?
    intro k
    rw [List.getElem?_map]
    cases hk : opsL[k]? with
    | none =>
      have : opsL.length ≤ k := List.getElem?_eq_none_iff.1 hk
      rw [List.getElem?_eq_none (by omega), List.getElem?_eq_none (by omega)]; rfl
    | some o =>
      obtain ⟨d, g, x, kd, e1, ek, e2, _⟩ := hsp k o hk
      obtain ⟨d', e3, e4⟩ := h1 opsL hlen k o hk
      rw [e1, e4]
      rw [e2] at e3
      simpa using e3
  have hnd' : (es.map (·.1)).Nodup := by rw [hdst]; exact hnd
  -- an operation that is ready has all that it looks at
  have looks : ∀ (listed : Array Bool) (G : Gh) (a : Act) (w : World), Mid2 C opsL es ks st listed G a w → ∀ i o, opsL[i]? = some o → listed.getD i true = false → (∀ e ∈ o.after, Region.binds .any e = true → listed.getD e.on false = true) →
      ∀ t ∈ o.looksAt full.toArray, SlotOk G w a { st with sl := (es.take i).reverse ++ st.sl } t := by
    intro listed G a w hm i o hi hun hall t ht c x hl
    have hdi := hdep (o, i) (by rw [List.mem_zipIdx_iff_getElem?]; simpa using hi)
    have hdt := hdi.2 t ht
    simp only [ASt.look, lookN_append] at hl
    cases hlk : lookN t (es.take i).reverse with
    | none =>
      rw [hlk] at hl
      refine hm.old t (fun k ok hk hkt => ?_) c x hl
      have h2 := hdt (ok, k) (by rw [List.mem_zipIdx_iff_getElem?]; simpa using hk)
      simp only [hkt, bne_self_eq_false, Bool.false_or, Bool.and_eq_true, decide_eq_true_eq] at h2
      exfalso
      obtain ⟨d, g, y, kd, e1, ek, e2, _⟩ := hsp k ok hk
      rw [hkt] at e2
      cases e2
      have hmem : (t, (g, y)) ∈ (es.take i).reverse := by
        rw [List.mem_reverse, List.mem_iff_getElem?]
        exact ⟨k, by rw [List.getElem?_take, if_pos h2.1.1]; exact e1⟩
      have hndt : (((es.take i).reverse).map (·.1)).Nodup := by
        rw [List.map_reverse, List.map_take]
        exact nodup_rev (hnd'.sublist (List.take_sublist _ _))
      rw [lookN_nodup hndt hmem] at hlk
      cases hlk
    | some y =>
      rw [hlk] at hl
      cases hl
      have hmem := lookN_mem hlk
      rw [List.mem_reverse, List.mem_iff_getElem?] at hmem
      obtain ⟨k, hk⟩ := hmem
      rw [List.getElem?_take] at hk
      split at hk
      · rename_i hki
        have hklen : k < opsL.length := by
          have := (List.getElem?_eq_some_iff.1 hk).1; omega
        obtain ⟨d, g, y, kd, e1, ek, e2, _⟩ := hsp k opsL[k] (List.getElem?_eq_getElem hklen)
        rw [hk] at e1
        cases e1
        have h2 := hdt (opsL[k], k) (by rw [List.mem_zipIdx_iff_getElem?]; simp [List.getElem?_eq_getElem hklen])
        simp only [e2, bne_self_eq_false, Bool.false_or, Bool.and_eq_true, decide_eq_true_eq, Array.any_eq_true'] at h2
        obtain ⟨⟨_, hnb⟩, e, he, h3⟩ := h2
        rw [beq_iff_eq] at h3
        have h4 := hall e he h3.2
        rw [h3.1] at h4
        exact hm.new k t c x kd hk ek (by rw [ek] at hnb; simpa [kdBox] using hnb) h4
      · cases hk
  have done2 : ∀ (listed : Array Bool) (G : Gh) (a : Act) (w : World), Mid2 C opsL es ks st listed G a w → (∀ k, k < opsL.length → listed.getD k true = true) → wpListIn (fen C.round) 0 P full.toArray Q l2 a w := by
    intro listed G a w hm hall
    have hal : ∀ k, k < opsL.length → listed.getD k false = true := fun k hk => by
      rw [getD_any (by have := hm.size; omega) false true]; exact hall k hk
    obtain ⟨D, hD, hT⟩ := hm.env
    have hkl : ∀ {k : Nat} {kd : Kd}, ks[k]? = some kd → k < opsL.length := fun h => by
      have := (List.getElem?_eq_some_iff.1 h).1; omega
    have hbal : ∀ (k : Nat) (kd : Kd) (cs : List AV), ks[k]? = some kd → kd.box? = some cs → Alive ks listed k := fun k kd cs hk hb => ⟨hal k (hkl hk), fun j t hj => by
      have h1 := (usesOk_sound hus hj).2.1
      rw [hk] at h1
      simp [kdBox, Kd.isBox, hb] at h1⟩
    have hl : ∀ n, n ≤ ks.length → ∃ l : List (Nat × List AV), l.map (·.2) = boxesOf (ks.take n) ∧ (∀ q ∈ l, BoxFact C.w0.heap.size G w D q) ∧ (l.map (·.1)).Nodup ∧
        (∀ q ∈ l, ∃ (k : Nat) (kd : Kd) (cs : List AV) (d : Nat) (e : Bool × AV) (v : Value), k < n ∧ ks[k]? = some kd ∧ kd.box? = some cs ∧ es[k]? = some (d, e) ∧ a.tmps[d]? = some v ∧ tkBlk v = some q.1) ∧
        (∀ (k : Nat) (kd : Kd) (cs : List AV) (d : Nat) (e : Bool × AV), k < n → ks[k]? = some kd → kd.box? = some cs → es[k]? = some (d, e) → ∃ blk, a.tmps[d]? = some (.pointer (some ⟨blk, 0, none⟩)) ∧ l[(boxesOf (ks.take k)).length]? = some (blk, cs)) := by
      intro n
      induction n with
      | zero => intro _; exact ⟨[], rfl, fun q hq => by simp at hq, by simp, fun q hq => by simp at hq, fun k _ _ _ _ hk => by omega⟩
      | succ n ih =>
        intro hn
        obtain ⟨l, l1, l2', l3, l4, l5⟩ := ih (by omega)
        have hkn : ks[n]? = some (ks[n]'(by omega)) := List.getElem?_eq_getElem (by omega)
        have htk : ks.take (n + 1) = ks.take n ++ [ks[n]'(by omega)] := by rw [List.take_add_one, hkn]; rfl
        have hen : es[n]? = some (es[n]'(by omega)) := List.getElem?_eq_getElem (by omega)
        cases hb : (ks[n]'(by omega)).box? with
        | none =>
          have hbo : boxesOf (ks.take (n + 1)) = boxesOf (ks.take n) := by rw [htk]; unfold boxesOf; rw [List.filterMap_append]; simp only [List.filterMap_cons, hb, List.filterMap_nil, List.append_nil]
          refine ⟨l, by rw [hbo]; exact l1, l2', l3, fun q hq => ?_, fun k kd cs d e hk h1 h2 h3 => ?_⟩
          · obtain ⟨k, kd, cs, d, e, v, g1, g2⟩ := l4 q hq
            exact ⟨k, kd, cs, d, e, v, by omega, g2⟩
          · by_cases hkn' : k = n
            · subst hkn'
              rw [hkn] at h1
              cases h1
              rw [hb] at h2; cases h2
            · exact l5 k kd cs d e (by omega) h1 h2 h3
        | some cs =>
          have hbo : boxesOf (ks.take (n + 1)) = boxesOf (ks.take n) ++ [cs] := by rw [htk]; unfold boxesOf; rw [List.filterMap_append]; simp only [List.filterMap_cons, hb, List.filterMap_nil]
          have hAl := hbal n _ cs hkn hb
          obtain ⟨v, v1, v2, v3, v4⟩ := hT.tok n (es[n]'(by omega)).1 (es[n]'(by omega)).2 _ _ hen hkn (Kd.tk_box hb) hAl
          obtain ⟨blk, vs, Ty, rfl, b1, b2, b3⟩ := v2
          obtain ⟨v5, v6⟩ := v4 blk rfl
          have hll : l.length = (boxesOf (ks.take n)).length := by rw [← l1]; simp
          refine ⟨l ++ [(blk, cs)], by rw [hbo, List.map_append, l1]; rfl, fun q hq => ?_, ?_, fun q hq => ?_, fun k kd cs' d e hk h1 h2 h3 => ?_⟩
          · simp only [List.mem_append, List.mem_singleton] at hq
            rcases hq with hq | rfl
            · exact l2' q hq
            · exact ⟨⟨vs, Ty, b1, b2⟩, b3, (v3 blk rfl).1, (v3 blk rfl).2, v6, v5⟩
          · rw [List.map_append, List.nodup_append]
            refine ⟨l3, by simp, fun x hx y hy e => ?_⟩
            simp only [List.map_cons, List.map_nil, List.mem_singleton] at hy
            have hxb := e.trans hy
            rw [List.mem_map] at hx
            obtain ⟨q, hq, hq1⟩ := hx
            obtain ⟨k, kd, cs', d, e, v, g1, g2, g3, g4, g5, g6⟩ := l4 q hq
            have := hT.sep k n d _ e _ kd _ v _ blk g4 hen g2 hkn (by rw [Kd.tk_box g3]; simp) (by rw [Kd.tk_box hb]; simp) (hbal k kd cs' g2 g3) hAl g5 v1 (by rw [g6, hq1, hxb]) rfl
            omega
          · simp only [List.mem_append, List.mem_singleton] at hq
            rcases hq with hq | rfl
            · obtain ⟨k, kd, cs', d, e, v, g1, g2⟩ := l4 q hq
              exact ⟨k, kd, cs', d, e, v, by omega, g2⟩
            · exact ⟨n, _, cs, _, _, _, by omega, hkn, hb, hen, v1, rfl⟩
          · by_cases hkn' : k = n
            · subst hkn'
              rw [hkn] at h1; cases h1
              rw [hb] at h2; cases h2
              rw [hen] at h3
              simp only [Option.some.injEq] at h3
              refine ⟨blk, by rw [← v1, h3], ?_⟩
              rw [← hll, List.getElem?_append_right (Nat.le_refl _)]; simp
            · obtain ⟨blk', c1, c2⟩ := l5 k kd cs' d e (by omega) h1 h2 h3
              exact ⟨blk', c1, by rw [List.getElem?_append_left (List.getElem?_eq_some_iff.1 c2).1]; exact c2⟩
    obtain ⟨l, l1, l2', l3, _, l5⟩ := hl ks.length (Nat.le_refl _)
    rw [List.take_length] at l1
    have hs0 : Sat C G a w { st with sl := [] } := ⟨hm.frame, hm.callers, hm.frame', hm.le, hm.fresh, hm.ownB, hm.ownR, ⟨D, hD⟩, hm.mem, fun t c x hl => by simp [ASt.look, lookN] at hl⟩
    obtain ⟨s1, le1⟩ := hs0.adopts l G _ hD l2' l3
    simp only [l1] at s1
    refine hQ _ a w ⟨s1.size, s1.callers, s1.frame, s1.le, s1.fresh, s1.ownB, s1.ownR, s1.env, s1.mem, fun t c x hlk0 => ?_⟩
    simp only [ASt.look, lookN_append] at hlk0
    cases hlk : lookN t es.reverse with
    | none =>
      rw [hlk] at hlk0
      obtain ⟨v, e1, e2, e3⟩ := hm.old t (fun k ok hk hkt => by
        exfalso
        obtain ⟨d, g, y, kd, e1, ek, e2, _⟩ := hsp k ok hk
        rw [hkt] at e2
        cases e2
        have hndt : ((es.reverse).map (·.1)).Nodup := by rw [List.map_reverse]; exact nodup_rev hnd'
        rw [lookN_nodup hndt (by rw [List.mem_reverse]; exact List.mem_of_getElem? e1)] at hlk
        cases hlk) c x hlk0
      exact ⟨v, e1, fun hc => AV.rel_mono le1 _ _ (e2 hc), e3⟩
    | some y =>
      rw [hlk] at hlk0
      cases hlk0
      have hmem := lookN_mem hlk
      rw [List.mem_reverse, List.mem_iff_getElem?] at hmem
      obtain ⟨k, hk⟩ := hmem
      have hklen : k < opsL.length := by have := (List.getElem?_eq_some_iff.1 hk).1; omega
      obtain ⟨d, g, y, kd, e1, ek, e2, e3⟩ := hsp k opsL[k] (List.getElem?_eq_getElem hklen)
      rw [hk] at e1
      cases e1
      cases hb : kd.box? with
      | none =>
        obtain ⟨v, e4, e5, e6⟩ := hm.new k t c x kd hk ek (by simp [Kd.isBox, hb]) (hal k hklen)
        exact ⟨v, e4, fun hc => AV.rel_mono le1 _ _ (e5 hc), e6⟩
      | some cs =>
        obtain ⟨blk, c1, c2⟩ := l5 k kd cs t _ (by omega) ek hb hk
        have hx := hbx k t c x kd cs hk ek hb
        have hc : c = true := by
          cases kd with
          | pure => simp [Kd.box?] at hb
          | mk t => exact e3.1
          | app j t => exact e3.1
        refine ⟨_, c1, fun _ => ?_, fun h => by rw [hc] at h; cases h⟩
        rw [hx]
        refine ⟨blk, ?_, rfl⟩
        show (G.bx ++ l.map (·.1))[st.bx.length + (boxesOf (ks.take k)).length]? = some blk
        rw [List.getElem?_append_right (by have := hm.mem.lenB; omega), show st.bx.length + (boxesOf (ks.take k)).length - G.bx.length = (boxesOf (ks.take k)).length from by have := hm.mem.lenB; omega, List.getElem?_map, c2]
        rfl
  have done1 : ∀ (listed : Array Bool) (G : Gh) (a : Act) (w : World), Mid2 C opsL es ks st listed G a w → Region.ready .any full.toArray listed = [] → ∀ k, k < opsL.length → listed.getD k true = true := by
    intro listed G a w hm hr k
    induction k using Nat.strongRecOn with
    | _ k ih =>
      intro hk
      by_cases hu : listed.getD k true = true
      · exact hu
      · exfalso
        have : k ∈ Region.ready .any full.toArray listed := by
          rw [mem_ready]
          refine ⟨by simpa using hu, opsL[k], by rw [List.getElem?_toArray, hfg k hk, List.getElem?_eq_getElem hk], fun e he heb => ?_⟩
          have hdk := hdep (opsL[k], k) (by rw [List.mem_zipIdx_iff_getElem?]; simp [List.getElem?_eq_getElem hk])
          have hlt : e.on < k := by
            have := hdk.1
            rw [Array.all_eq_true_iff_forall_mem] at this
            have := this e he
            simpa [heb] using this
          rw [getD_any (by have := hm.size; omega) false true]
          exact ih e.on hlt (by omega)
        rw [hr] at this
        cases this
  have fin : ∀ (fuel : Nat) (listed : Array Bool) (G : Gh) (a : Act) (w : World), (List.range full.length).countP (fun k => !listed.getD k true) ≤ fuel → listed.size = full.length → (∀ k, opsL.length ≤ k → listed.getD k false = false) → Mid2 C opsL es ks st listed G a w → (∀ k, k < opsL.length → listed.getD k true = true) → wpAnyIn (fen C.round) 0 P .any full.toArray Q fuel listed a w := by
    intro fuel listed G a w hcnt hsz hun hm hall
    refine wpAny_tail3 htail fuel opsL.length listed a w (Nat.le_refl _) ?_ hsz (fun k hk => ?_) ?_
    · have h1 : ((List.range full.length).filter fun k => !listed.getD k true) = (List.range full.length).filter fun k => decide (opsL.length ≤ k) := by
        refine List.filter_congr fun k hk => ?_
        rw [List.mem_range] at hk
        by_cases hkl : k < opsL.length
        · simp [hall k hkl, hkl]
        · rw [getD_any (by omega) true false, hun k (by omega)]; simp; omega
      rw [List.countP_eq_length_filter, h1, hfl] at hcnt
      have h2 : ∀ n m : Nat, ((List.range (n + m)).filter fun k => decide (n ≤ k)).length = m := by
        intro n m
        induction m with
        | zero => simp only [Nat.add_zero, List.length_eq_zero_iff, List.filter_eq_nil_iff, List.mem_range]; intro x hx; simp; omega
        | succ m ih => rw [← Nat.add_assoc, List.range_succ, List.filter_append]; simp [ih]
      rw [h2] at hcnt
      omega
    · by_cases hkl : k < opsL.length
      · rw [getD_any (by omega) false true, hall k hkl]; simp [hkl]
      · rw [hun k (by omega)]; simp [hkl]
    · rw [hfull, List.drop_left]
      rw [← hfull]
      exact done2 listed G a w hm hall
  intro fuel
  induction fuel with
  | zero =>
    intro listed G a w hcnt hsz hun hm
    refine fin 0 listed G a w hcnt hsz hun hm fun k hk => ?_
    by_cases hu : listed.getD k true = true
    · exact hu
    · exfalso
      have h3 : 0 < (List.range full.length).countP (fun k => !listed.getD k true) := by
        rw [List.countP_pos_iff]
        exact ⟨k, List.mem_range.2 (by omega), by simpa using hu⟩
      omega
  | succ fuel ih =>
    intro listed G a w hcnt hsz hun hm
    by_cases hall : ∀ k, k < opsL.length → listed.getD k true = true
    · exact fin _ listed G a w hcnt hsz hun hm hall
    -- the state behind an operation
    obtain ⟨D, hD, hT⟩ := hm.env
    have nextG : ∀ (i : Nat) (o : Oper) (d : Nat) (g : Bool) (x : AV) (kd : Kd), opsL[i]? = some o → es[i]? = some (d, (g, x)) → ks[i]? = some kd → o.dst = some d → i < opsL.length → d < a.tmps.size →
        ∀ v G' w' (ob : Option Nat), Grow ob st.bx st.rw G w G' w' →
        (∀ b, ob = some b → ∃ (j : Nat) (tj : Tk) (dj : Nat) (ej : Bool × AV) (kdj : Kd) (v0 : Value), kd = .app j tj ∧ es[j]? = some (dj, ej) ∧ ks[j]? = some kdj ∧ kdj.tk ≠ none ∧ Alive ks listed j ∧ a.tmps[dj]? = some v0 ∧ tkBlk v0 = some b ∧ ¬ D b ∧ C.w0.heap.size ≤ b ∧ (b ∉ G.bx ∧ ∀ y ∈ G.rw, y.2.ownBlock ≠ some b) ∧ ∃ cs T, w.heap[b]? = some (.cells cs T (0, 0))) →
        (kd.isBox = false → (g = true → x.rel G' w' v) ∧ (g = false → v = undef)) → (∀ t, kd.tk = some t → TkOk G' w' t v ∧ ∀ b, tkBlk v = some b → w.heap.size ≤ b ∨ ob = some b) →
        Mid2 C opsL es ks st (listed.setIfInBounds i true) G' (a.put (some d) v) w' := by
      intro i o d g x kd hi' e1 ek e2 hilt hdlt
      have inj : ∀ (k d' : Nat) (e : Bool × AV), es[k]? = some (d', e) → d' = d → k = i := by
        intro k d' e hk hdd
        subst hdd
        have hk1 : (es.map (·.1))[k]? = some d' := by rw [List.getElem?_map, hk]; rfl
        have hk2 : (es.map (·.1))[i]? = some d' := by rw [List.getElem?_map, e1]; rfl
        have hl1 : k < (es.map (·.1)).length := (List.getElem?_eq_some_iff.1 hk1).1
        exact (List.getElem?_inj hl1 hnd').1 (hk1.trans hk2.symm)
      have hil : i < listed.size := by have := hm.size; omega
      have alive' : ∀ k, k ≠ i → Alive ks (listed.setIfInBounds i true) k → Alive ks listed k ∧ ∀ t, kd ≠ .app k t := by
        intro k hki hal
        have h5 := hal.1
        rw [getD_set_other (fun e => hki e.symm)] at h5
        refine ⟨⟨h5, fun j t hj => ?_⟩, fun t hkd => ?_⟩
        · have h6 := hal.2 j t hj
          by_cases hij : i = j
          · subst hij; rw [getD_set_self hil] at h6; cases h6
          · rwa [getD_set_other hij] at h6
        · have h6 := hal.2 i t (by rw [ek, hkd])
          rw [getD_set_self hil] at h6; cases h6
      intro v G' w' ob E hob hv ht
      have hw0 := hm.frame'.size
      have putOther : ∀ d', d' ≠ d → (a.put (some d) v).tmps[d']? = a.tmps[d']? := fun d' h => by rw [Act.put_get, if_neg (fun e => h e.symm)]
      have putSelf : (a.put (some d) v).tmps[d]? = some v := by rw [Act.put_get]; simp [Array.getElem?_eq_getElem hdlt]
      refine ⟨⟨E.out.os.trans hm.frame'.os, E.out.tape.trans hm.frame'.tape, E.out.output.trans hm.frame'.output, Nat.le_trans hw0 E.out.size, fun k hk hn => (E.out.block k (by omega) (fun h => by
          obtain ⟨_, _, _, _, _, _, _, _, _, _, _, _, _, _, hge, _⟩ := hob k h
          omega)).trans (hm.frame'.block k hk hn)⟩, hm.le.trans E.le, fun b o ib => ?_, by rw [E.gbx]; exact hm.ownB, by rw [E.grw]; exact hm.ownR, E.mem, ?_, by simpa [Act.put] using hm.frame, hm.callers, by simpa using hm.size, fun t ht' => ?_, fun k d' g' x' kd' hk hkd hnb hl => ?_, ⟨D, ?_, ?_, ?_⟩⟩
      · rcases E.fresh b o ib with h | h | h
        · exact hm.fresh b o h
        · exact .inr (.inl (Nat.le_trans hw0 h))
        · obtain ⟨_, _, _, _, _, _, _, _, _, _, _, _, _, _, hge, _⟩ := hob b h
          exact .inr (.inl hge)
      · have := hm.fits
        simpa [Act.put, dstsFit] using this
      · intro c y hl
        have htd : d ≠ t := by
          intro e; subst e
          have := ht' i o hi' e2
          rw [getD_set_self hil] at this
          cases this
        rw [putOther t (fun e => htd e.symm)]
        obtain ⟨v', h4, h5, h6⟩ := hm.old t (fun k ok hk hkt => by
          have := ht' k ok hk hkt
          by_cases hik : i = k
          · subst hik; rw [hi'] at hk; cases hk; rw [e2] at hkt; cases hkt; exact absurd rfl htd
          · rwa [getD_set_other hik] at this) c y hl
        exact ⟨v', h4, fun hc => AV.rel_mono E.le _ _ (h5 hc), h6⟩
      · by_cases hik : k = i
        · subst hik
          rw [e1] at hk
          cases hk
          rw [ek] at hkd
          cases hkd
          exact ⟨v, putSelf, hv hnb⟩
        · rw [getD_set_other (fun e => hik e.symm)] at hl
          obtain ⟨v', h4, h5, h6⟩ := hm.new k d' g' x' kd' hk hkd hnb hl
          rw [putOther d' (fun e => hik (inj k d' _ hk e))]
          exact ⟨v', h4, fun hc => AV.rel_mono E.le _ _ (h5 hc), h6⟩
      · exact hD.grow hm.mem E fun b hb => by
          obtain ⟨_, _, _, _, _, _, _, _, _, _, _, _, _, hnD, _, _, hcs⟩ := hob b hb
          exact ⟨hnD, hcs⟩
      · intro k d' e kd' t hk hkd' htk hal
        by_cases hki : k = i
        · subst hki
          rw [e1] at hk
          cases hk
          rw [ek] at hkd'
          cases hkd'
          obtain ⟨q1, q2⟩ := ht t htk
          refine ⟨v, putSelf, q1, fun b hb => ?_, fun b hb => ?_⟩
          · rw [E.gbx, E.grw]
            rcases q2 b hb with h | h
            · refine ⟨fun hm' => by have := hm.mem.lt_box hm'; omega, fun y hy hy2 => ?_⟩
              obtain ⟨q, hq⟩ := List.getElem?_of_mem hy
              have := hm.mem.lt_row hq hy2; omega
            · obtain ⟨_, _, _, _, _, _, _, _, _, _, _, _, _, _, _, hfr, _⟩ := hob b h
              exact hfr
          · rcases q2 b hb with h | h
            · exact ⟨fun hd => by have := hD.lt b hd; omega, Nat.le_trans hw0 h⟩
            · obtain ⟨_, _, _, _, _, _, _, _, _, _, _, _, _, hnD, hge, _⟩ := hob b h
              exact ⟨hnD, hge⟩
        · obtain ⟨hal', hna⟩ := alive' k hki hal
          obtain ⟨v', a1, a2, a3, a4⟩ := hT.tok k d' e kd' t hk hkd' htk hal'
          refine ⟨v', by rw [putOther d' (fun h => hki (inj k d' _ hk h))]; exact a1, a2.keep E.le (fun b hb => ?_), fun b hb => by rw [E.gbx, E.grw]; exact a3 b hb, a4⟩
          obtain ⟨cs0, T0, hcs0⟩ := a2.lt hb
          have hblt : b < w.heap.size := (Array.getElem?_eq_some_iff.1 hcs0).1
          have hne : ob ≠ some b := fun h => by
            obtain ⟨j, tj, dj, ej, kdj, v0, hkd, f1, f2, f3, f4, f5, f6, _⟩ := hob b h
            have := hT.sep k j d' dj e ej kd' kdj v' v0 b hk f1 hkd' f2 (by rw [htk]; simp) f3 hal' f4 a1 f5 hb f6
            subst this
            exact hna tj hkd
          exact ⟨E.out.block b hblt hne, fun o => ⟨fun ib => (E.fresh b o ib).elim id fun h => h.elim (fun h => by omega) (fun h => absurd h hne), E.le.imm b o⟩⟩
      · intro k k' d1 d2 e1' e2' kd1 kd2 u1 u2 b hk hk' hkd1 hkd2 ht1 ht2 hal1 hal2 hu1 hu2 hb1 hb2
        have one : ∀ (k' d2 : Nat) (e2' : Bool × AV) (kd2 : Kd) (u2 : Value), k' ≠ i → es[k']? = some (d2, e2') → ks[k']? = some kd2 → kd2.tk ≠ none → Alive ks (listed.setIfInBounds i true) k' → (a.put (some d) v).tmps[d2]? = some u2 → tkBlk u2 = some b → kd.tk ≠ none → tkBlk v = some b → False := by
          intro k' d2 e2' kd2 u2 hki hk' hkd2 ht2 hal2 hu2 hb2 hkt hbv
          obtain ⟨hal', hna⟩ := alive' k' hki hal2
          rw [putOther d2 (fun h => hki (inj k' d2 _ hk' h))] at hu2
          obtain ⟨t2, ht2'⟩ := Option.ne_none_iff_exists'.1 ht2
          obtain ⟨v', a1, a2, a3, a4⟩ := hT.tok k' d2 e2' kd2 t2 hk' hkd2 ht2' hal'
          rw [hu2] at a1
          cases a1
          obtain ⟨cs0, T0, hcs0⟩ := a2.lt hb2
          have hblt : b < w.heap.size := (Array.getElem?_eq_some_iff.1 hcs0).1
          obtain ⟨t1, ht1'⟩ := Option.ne_none_iff_exists'.1 hkt
          rcases (ht t1 ht1').2 b hbv with h | h
          · omega
          · obtain ⟨j, tj, dj, ej, kdj, v0, hkd, f1, f2, f3, f4, f5, f6, _⟩ := hob b h
            have := hT.sep k' j d2 dj e2' ej kd2 kdj u2 v0 b hk' f1 hkd2 f2 ht2 f3 hal' f4 hu2 f5 hb2 f6
            subst this
            exact hna tj hkd
        by_cases hki : k = i
        · by_cases hki' : k' = i
          · rw [hki, hki']
          · exfalso
            subst hki
            rw [e1] at hk
            cases hk
            rw [ek] at hkd1
            cases hkd1
            rw [putSelf] at hu1
            cases hu1
            exact one k' d2 e2' kd2 u2 hki' hk' hkd2 ht2 hal2 hu2 hb2 ht1 hb1
        · by_cases hki' : k' = i
          · exfalso
            subst hki'
            rw [e1] at hk'
            cases hk'
            rw [ek] at hkd2
            cases hkd2
            rw [putSelf] at hu2
            cases hu2
            exact one k d1 e1' kd1 u1 hki hk hkd1 ht1 hal1 hu1 hb1 ht2 hb2
          · rw [putOther d1 (fun h => hki (inj k d1 _ hk h))] at hu1
            rw [putOther d2 (fun h => hki' (inj k' d2 _ hk' h))] at hu2
            exact hT.sep k k' d1 d2 e1' e2' kd1 kd2 u1 u2 b hk hk' hkd1 hkd2 ht1 ht2 (alive' k hki hal1).1 (alive' k' hki' hal2).1 hu1 hu2 hb1 hb2
    by_cases hnf : ∀ k, k < opsL.length → floatOk full k = false → listed.getD k true = true
    · -- only operations that may be carried out whenever they are ready are left
      have hex : ∃ k, k < opsL.length ∧ listed.getD k true = false := Classical.byContradiction fun hn => hall fun k hk => by
        cases hc : listed.getD k true
        · exact absurd ⟨k, hk, hc⟩ hn
        · rfl
      obtain ⟨i, hil0, hiu, hmin⟩ := least_of opsL.length hex
      have hfi : floatOk full i = true := by
        cases hc : floatOk full i
        · rw [hnf i hil0 hc] at hiu; cases hiu
        · rfl
      have hi' : opsL[i]? = some opsL[i] := List.getElem?_eq_getElem hil0
      have hi2 : full.toArray[i]? = some opsL[i] := by rw [List.getElem?_toArray, hfg i hil0]; exact hi'
      obtain ⟨d, g, x, kd, e1, ek, e2, e3⟩ := hsp i opsL[i] hi'
      have hkd : kd = .pure := by
        have h1 := hkp i (List.mem_range.2 hil0)
        rw [hfi, ek] at h1
        cases kd <;> simp [kdPure] at h1 ⊢
      subst hkd
      have hdeps : ∀ e ∈ opsL[i].after, Region.binds .any e = true → listed.getD e.on false = true := fun e he heb => by
        have hdi := hdep (opsL[i], i) (by rw [List.mem_zipIdx_iff_getElem?]; simp)
        have hlt : e.on < i := by
          have := hdi.1
          rw [Array.all_eq_true_iff_forall_mem] at this
          have := this e he
          simpa [heb] using this
        have := hmin e.on hlt
        rw [getD_any (by omega) false true]
        simpa using this
      have hready : i ∈ Region.ready .any full.toArray listed := by
        rw [mem_ready]
        exact ⟨hiu, _, hi2, hdeps⟩
      have hlk := looks listed G a w hm i _ hi' hiu hdeps
      have hdlt : d < a.tmps.size := by
        have := hm.fits
        simp only [dstsFit, List.all_eq_true] at this
        have := this opsL[i] (List.mem_of_getElem? hi')
        rw [e2] at this
        simpa using this
      have hff := hfi
      unfold floatOk at hff
      rw [hfg i hil0, hi'] at hff
      simp only [Bool.and_eq_true, List.all_eq_true, List.mem_range] at hff
      obtain ⟨v, hyf, hg, G', E, hx⟩ := fl_yields hff.1 e3 hm.mem hlk e2 hdlt
      have hcnt' : (List.range full.length).countP (fun k => !(listed.setIfInBounds i true).getD k true) ≤ fuel := by
        have := countP_lt (p := fun k => !listed.getD k true) (q := fun k => !(listed.setIfInBounds i true).getD k true) (k := i) (l := List.range full.length)
          (fun k _ hk => by
            by_cases hik : i = k
            · subst hik; rw [getD_set_self (by have := hm.size; omega)] at hk; simp at hk
            · rwa [getD_set_other hik] at hk) (List.mem_range.2 (by omega)) (by simp [hiu]) (by show (!_) = false; rw [getD_set_self (by have := hm.size; omega)]; rfl)
        omega
      have hun' : ∀ k, opsL.length ≤ k → (listed.setIfInBounds i true).getD k false = false := fun k hk => by rw [getD_set_other (by omega)]; exact hun k hk
      refine wpAnyIn_first' hi2 hplain (fun c a w h => absurd h (hpan c _ _)) fuel listed a w (fun j oj hj hji hju hno => ?_) hready hyf ?_
      · have hjl : j < full.length := by simpa using (Array.getElem?_eq_some_iff.1 hj).1
        have h7 := hff.2 j hjl
        rw [show full[j]? = some oj from by simpa using hj] at h7
        simp only [Bool.or_eq_true, beq_iff_eq] at h7
        rcases h7 with (h7 | h7) | h7 | h7
        · exact absurd h7 hji
        · obtain ⟨e, he, he1, he2⟩ := waitsFor_sound h7
          have h8 := hdeps e he he2
          rw [he1, getD_any (by omega) false true, hju] at h8
          cases h8
        · obtain ⟨e, he, he1, he2⟩ := waitsFor_sound h7
          exact absurd he1 (hno e he he2)
        · exact h7
      · rw [e2]
        exact ih _ G' _ w hcnt' (by simpa using hsz) hun' (nextG i _ d g x .pure hi' e1 ek e2 hil0 hdlt v G' w none (.of_ext E) (fun b h => by cases h) (fun _ => ⟨fun _ => hx, (fun h => by rw [hg] at h; cases h)⟩) (fun t h => by cases h))
    refine ⟨fun hr => absurd (done1 listed G a w hm hr) hall, fun i hi => ?_⟩
    obtain ⟨h1, o, h2, h3⟩ := mem_ready.1 hi
    have hi2 : full[i]? = some o := by simpa using h2
    have hilt : i < opsL.length := by
      rcases Nat.lt_or_ge i opsL.length with h | h
      · exact h
      · exfalso
        refine hnf fun k hk hkf => ?_
        obtain ⟨_, h5⟩ := htail0 i o h hi2
        obtain ⟨e, he, rfl, hb⟩ := (h5 k (by omega)).resolve_right (fun h => by rw [hkf] at h; cases h.2)
        rw [getD_any (by omega) true false]
        exact h3 e he hb
    have hi' : opsL[i]? = some o := by rw [← hfg i hilt]; exact hi2
    obtain ⟨d, g, x, kd, e1, ek, e2, e3⟩ := hsp i o hi'
    have hlk := looks listed G a w hm i o hi' h1 h3
    have hdlt : d < a.tmps.size := by
      have := hm.fits
      simp only [dstsFit, List.all_eq_true] at this
      have := this o (List.mem_of_getElem? hi')
      rw [e2] at this
      simpa using this
    have hcnt' : (List.range full.length).countP (fun k => !(listed.setIfInBounds i true).getD k true) ≤ fuel := by
      have := countP_lt (p := fun k => !listed.getD k true) (q := fun k => !(listed.setIfInBounds i true).getD k true) (k := i) (l := List.range full.length)
        (fun k _ hk => by
          by_cases hik : i = k
          · subst hik; rw [getD_set_self (by have := hm.size; omega)] at hk; simp at hk
          · rwa [getD_set_other hik] at hk) (List.mem_range.2 (by omega)) (by simp [h1]) (by show (!_) = false; rw [getD_set_self (by have := hm.size; omega)]; rfl)
      omega
    have hun' : ∀ k, opsL.length ≤ k → (listed.setIfInBounds i true).getD k false = false := fun k hk => by rw [getD_set_other (by omega)]; exact hun k hk
    have next := nextG i o d g x kd hi' e1 ek e2 hilt hdlt
    unfold wpOpIn
    simp only [List.getElem?_toArray, hi2]
    cases kd with
    | pure =>
      obtain ⟨s1, s2⟩ := (e3 : OpSpec _ _ _ _ _ _) G a w hm.mem hlk
      rw [s1]
      cases hg : g
      · simp only [Bool.false_eq_true, if_false]
        rw [e2]
        refine ⟨fun _ _ => trivial, ?_⟩
        exact ih _ G _ w hcnt' (by simpa using hsz) hun' (next undef G w none (.of_ext (Ext.refl hm.mem)) (fun b h => by cases h) (fun _ => ⟨(fun h => by rw [hg] at h; cases h), fun _ => rfl⟩) (fun t h => by cases h))
      · simp only [if_true]
        refine s2 hg _ _ _ fun v G' w' E hv => ?_
        rw [e2]
        exact ih _ G' _ w' hcnt' (by simpa using hsz) hun' (next v G' w' none (.of_ext E) (fun b h => by cases h) (fun _ => ⟨fun _ => hv, fun h => by rw [hg] at h; cases h⟩) (fun t h => by cases h))
    | mk t =>
      obtain ⟨hg, hc⟩ := e3
      obtain ⟨s1, s2⟩ := hc G a w hm.mem hlk undef (fun s t0 h => by cases h)
      rw [s1]
      simp only [if_true]
      refine s2 _ _ _ fun v G' w' E hx ht hb => ?_
      rw [e2]
      exact ih _ G' _ w' hcnt' (by simpa using hsz) hun' (next v G' w' none E (fun b h => by cases h) (fun hnb => ⟨fun _ => hx.resolve_left (by rintro ⟨cs, rfl⟩; simp [Kd.isBox, Kd.box?] at hnb), fun h => by rw [hg] at h; cases h⟩) (fun t' ht' => by
        simp only [Kd.tk, Option.some.injEq] at ht'
        subst ht'
        exact ⟨ht, hb⟩))
    | app j t =>
      obtain ⟨hg, dj, ej, kdj, tj, f1, f2, f3, hc⟩ := e3
      obtain ⟨hji, hnb, hedge, huniq⟩ := usesOk_sound hus ek
      have hAl : Alive ks listed j := by
        refine ⟨?_, fun j' t' hj' => ?_⟩
        · obtain ⟨e, he, he1, he2⟩ := hedge o hi'
          rw [← he1]; exact h3 e he he2
        · rw [huniq j' t' hj', getD_any (by have := hm.size; omega) false true]; exact h1
      obtain ⟨v0, a1, a2, a3, a4⟩ := hT.tok j dj ej kdj tj f1 f2 f3 hAl
      obtain ⟨s1, s2⟩ := hc G a w hm.mem hlk v0 (fun s t0 h => by
        simp only [Option.some.injEq, Prod.mk.injEq] at h
        obtain ⟨rfl, rfl⟩ := h
        exact ⟨a1, a2, a3⟩)
      rw [s1]
      simp only [if_true]
      refine s2 _ _ _ fun v G' w' E hx ht hb => ?_
      rw [e2]
      exact ih _ G' _ w' hcnt' (by simpa using hsz) hun' (next v G' w' (tkBlk v0) E (fun b hb => ⟨j, t, dj, ej, kdj, v0, rfl, f1, f2, by rw [f3]; simp, hAl, a1, hb, (a4 b hb).1, (a4 b hb).2, a3 b hb, a2.lt hb⟩) (fun hnb => ⟨fun _ => hx.resolve_left (by rintro ⟨cs, rfl⟩; simp [Kd.isBox, Kd.box?] at hnb), fun h => by rw [hg] at h; cases h⟩) (fun t' ht' => by
        simp only [Kd.tk, Option.some.injEq] at ht'
        subst ht'
        exact ⟨ht, hb⟩))
end Go.Proofs.Yticlpcgkaffdmaa
