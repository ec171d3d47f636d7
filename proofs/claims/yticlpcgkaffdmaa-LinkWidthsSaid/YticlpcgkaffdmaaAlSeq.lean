/- The abstract logic: yielding, iterators. -/
import Derived.Test.YticlpcgkaffdmaaAlFn
import Derived.RangeFuncNested
namespace Go.Proofs.Yticlpcgkaffdmaa
set_option linter.unusedSectionVars false
set_option linter.unusedVariables false
set_option linter.unusedSimpArgs false
open Go.RowKit

section yields
variable {P : Program} {C : Ctx P} {G : Gh} {a : Act} {w : World} {nt nb : Nat} {sl : List (Nat × (Bool × AV))} {bx : List (List AV)} {rw : List ARow} {l : Nat} {items : List (List AV)} {h : List (List AV)} {item : List AV}
theorem Sat.yield {vs : List Value} (hs : Sat C G a w ⟨nt, nb, sl, bx, rw, ((l, items), h, false)⟩) (hf : AV.freeL item) (hr : AV.relL G w item vs) (hp : (h ++ [item]) <+: items) (ro : Option Nat) :
    ∃ f tmps assign body, (Instr.yield l vs.toArray).run P w = .ok (.round l f tmps assign body) w ∧
      RoundIn (fen ro) 0 P l f tmps assign body w fun e w' => ∃ b, e = .returned (.bool b) ∧ Sat C G a w' ⟨nt, nb, sl, bx, rw, ((l, items), h ++ [item], !b)⟩ := by
  obtain ⟨D, e⟩ := hs.env
  have hl : C.l = (l, items) := e.l
  obtain ⟨f, tmps, assign, body, h1, h2⟩ := C.y ro h item G.imm D w vs e.cons (by rw [hl]; exact hp) e.lt (fun b o i => ⟨hs.mem.immOk b o i, e.imm b o i⟩) (fun b o i => hs.le.imm b o (C.base b o i)) (AV.relL_free (G := G) (G' := ⟨G.imm, [], []⟩) (fun _ _ i => i) _ _ hf hr)
  rw [hl] at h1 h2
  refine ⟨f, tmps, assign, body, h1, h2.mono ?_⟩
  rintro e' w' ⟨b, D', rfl, hW, ho, hI, hD'⟩
  have hB : ∀ k, k ∈ G.bx → w'.heap[k]? = w.heap[k]? := fun k hk => ho.block k (hs.mem.lt_box hk) (e.bx k hk)
  have hR : ∀ (k g : Nat) (x : Nat × Value), G.rw[k]? = some x → x.2.ownBlock = some g → w'.heap[g]? = w.heap[g]? := fun k g x hk hg => ho.block g (hs.mem.lt_row hk hg) (e.rw x (List.mem_of_getElem? hk) g hg)
  obtain ⟨m, le⟩ := msat_keep (w' := w') hs.mem G.imm hB hR hI (fun _ _ i => i) (fun _ _ i => .inl i) fun b o i => by rw [hI b o i]; exact hs.mem.immOk b o i
  refine ⟨b, rfl, hs.size, hs.callers, ⟨ho.os.trans hs.frame.os, ho.tape.trans hs.frame.tape, ho.output.trans hs.frame.output, Nat.le_trans hs.frame.size ho.size, fun k hk hm => ?_⟩, hs.le.trans le, hs.fresh, hs.ownB, hs.ownR, ⟨D', hl, hW, fun k hk => ?_, fun k hk => (hD' k hk).2, fun k hk hd => ?_, fun x hx g hg hd => ?_, fun b o i => ?_, ?_, fun r hr => ?_⟩, m, fun t c x hlk => ?_⟩
  · refine (ho.block k (Nat.lt_of_lt_of_le hk hs.frame.size) fun hd => ?_).trans (hs.frame.block k hk hm)
    rcases e.sub k hd with h | h
    · exact hm (.inl h)
    · omega
  · rcases (hD' k hk).1 with h | h
    · exact e.sub k h
    · exact .inr (Nat.le_trans hs.frame.size h)
  · rcases (hD' k hd).1 with h | h
    · exact e.bx k hk h
    · have := hs.mem.lt_box hk; omega
  · rcases (hD' g hd).1 with h | h
    · exact e.rw x hx g hg h
    · obtain ⟨k, hk⟩ := List.mem_iff_getElem?.1 hx
      have := hs.mem.lt_row hk hg; omega
  · rcases e.imm b o i with h | h
    · exact .inl h
    · exact .inr fun hd => (hD' b hd).1.elim h fun hge => by have := hs.mem.lt_imm i; omega
  · obtain ⟨ml, q1, q2, q3⟩ := e.marks
    refine ⟨ml, q1, q2, fun m hm => ?_⟩
    obtain ⟨q4, q5, q6⟩ := q3 m hm
    have hlt : m < w.heap.size := (Array.getElem?_eq_some_iff.1 q4).1
    exact ⟨(ho.block m hlt q5).trans q4, fun hd => (hD' m hd).1.elim q5 fun hge => by omega, q6⟩
  · obtain ⟨⟨L, hL⟩, q5⟩ := e.record r hr
    have hlt : r < w.heap.size := (Array.getElem?_eq_some_iff.1 hL).1
    exact ⟨⟨L, (ho.block r hlt q5).trans hL⟩, fun hd => (hD' r hd).1.elim q5 fun hge => by omega⟩
  · obtain ⟨v, h1, h2, h3⟩ := hs.slot t c x hlk
    exact ⟨v, h1, fun hc => AV.rel_mono le _ _ (h2 hc), h3⟩

def yieldA (st : ASt) (o : Op) : Option (List Bool × Nat × List AV) :=
  match o with
  | .call c => match c.callee with
    | .value fo => match st.ev fo, st.evL c.args.toList with
      | some (g, .raw (.func (.yield l) ⟨[]⟩ ⟨[]⟩)), some (cs, vs) => some (g :: cs, l, vs)
      | _, _ => none
    | _ => none
  | _ => none

theorem yieldA_sound {st : ASt} {o : Oper} {cs : List Bool} {item : List AV} (h : yieldA st o.op = some (cs, l, item)) (hev : ∀ x ∈ o.op.operands.toList, EvOk G w a st x) (hc : ∀ c ∈ cs, c = true) :
    (∀ c, o.op ≠ .defer c) ∧ ∃ vs : List Value, AV.relL G w item vs ∧ ∀ w', (execOp a.eval o).run P w' = (Instr.yield l vs.toArray).run P w' := by
  obtain ⟨dst, op, type, pos, after, guard⟩ := o
  simp only at h hev
  unfold yieldA at h
  split at h
  · rename_i c
    obtain ⟨callee, args', argTypes⟩ := c
    obtain ⟨args'⟩ := args'
    simp only at h
    split at h
    · rename_i fo
      split at h
      · rename_i g l' cs' vs h1 h2
        simp only [Option.some.injEq, Prod.mk.injEq] at h
        obtain ⟨rfl, rfl, rfl⟩ := h
        have e1 := hev fo (by simp [Op.operands, Call.operands]) _ _ h1 (hc g (by simp))
        have e2 := evL_sound (fun x hx => hev x (by simp [Op.operands, Call.operands]; exact .inr hx)) h2 (fun c hc' => hc c (by simp [hc']))
        refine ⟨by simp, _, by simpa using e2, fun w' => ?_⟩
        simp only [execOp, resolve, rel_raw e1, Deferred.ofValue, Sem.run_bind, Sem.run_pure, Result.andThen_ok, invoke]
        simp
      · cases h
    · cases h
  · cases h

theorem runS_yield {ops : Array Oper} {r : List Oper} {k : ASt → Prop} {o : Oper} {d : Nat} (hd : o.dst = some d) (hn : Nat.blt d nt = true)
    (hh : ∃ g, guardA ops ⟨nt, nb, sl, bx, rw, ((l, items), h, false)⟩ o = some g ∧ ∃ cs item, yieldA ⟨nt, nb, sl, bx, rw, ((l, items), h, false)⟩ o.op = some (cs, l, item) ∧ (g = true → (∀ c ∈ cs, c = true) ∧ AV.freeL item ∧ (h ++ [item]) <+: items) ∧
      (g = false → runS P ops r k ⟨nt, nb, (d, (false, .raw (.bool false))) :: sl, bx, rw, ((l, items), h, false)⟩) ∧ (g = true → ∀ b, runS P ops r k ⟨nt, nb, (d, (true, .raw (.bool b))) :: sl, bx, rw, ((l, items), h ++ [item], !b)⟩)) :
    runS P ops (o :: r) k ⟨nt, nb, sl, bx, rw, ((l, items), h, false)⟩ := by
  obtain ⟨g, hg, cs, item, hy, hp, hf, ht⟩ := hh
  intro C G a w Q hs hQ
  have hdlt : d < nt := by simpa [Nat.blt_eq] using hn
  refine wpListIn_step fun K hK => ?_
  rw [guardA_sound hg (fun t _ => hs.slot t)]
  cases g
  · simp only [Bool.false_eq_true, if_false]
    rw [hd]
    exact ⟨fun _ _ => trivial, hK _ _ (hf rfl C G _ w Q (hs.put hdlt (fun h => by cases h) (fun _ => rfl)) hQ)⟩
  · simp only [if_true]
    obtain ⟨h1, h2⟩ := hp rfl
    obtain ⟨e0, vs, e1, e2⟩ := yieldA_sound (P := P) hy (fun x _ => evOk_of fun t _ => hs.slot t) h1
    obtain ⟨f, tmps, assign, body, e3, e4⟩ := hs.yield h2.1 e1 h2.2 C.round
    refine wpIn_of_run e0 ?_
    rw [e2, e3, Oper.uponIn_round]
    refine ⟨(fun h => by cases h), e4.mono ?_⟩
    rintro e' w' ⟨b, rfl, hs'⟩
    show K (a.put o.dst (.bool b)) w'
    rw [hd]
    exact hK _ _ (ht rfl b C G _ w' Q (hs'.put hdlt (fun _ => rfl) (fun h => by cases h)) hQ)
end yields
end Go.Proofs.Yticlpcgkaffdmaa
