/- The abstract logic: calls of functions that write variables of their callers, in the caller's numbers; the step. -/
import Derived.Test.YtihnjbnlbedpaaaDoorAlG3
namespace Go.Proofs.YtihnjbnlbedpaaaDoor
set_option linter.unusedVariables false
set_option linter.unusedSimpArgs false
set_option maxHeartbeats 4000000
set_option maxRecDepth 100000
open Go.RowKit
/-- A contract among more variables and rows, under other numbers. -/
theorem FnG.frame {P : Program} {f : FuncId} {args : List AV} {bx sub sub' : List (List AV)} {rw rsub rsub' : List ARow} {r : AV} (F : FnG P f args sub rsub r sub' rsub') (ib ir : List Nat)
    (H : HandOk ib ir bx sub rw rsub (idx ib bx.length) (idx ir rw.length)) (ha : AV.subL ib.length ir.length args) (hl : ib.length ≤ sub'.length) (hlr : ir.length ≤ rsub'.length) :
    FnG P f (AV.renL (idx ib bx.length) (idx ir rw.length) args) bx rw (r.ren (idx ib bx.length) (idx ir rw.length)) (setAll bx ib (sub'.map (AV.renL (idx ib bx.length) (idx ir rw.length)))) (setAll rw ir (rsub'.map (ARow.ren (idx ib bx.length) (idx ir rw.length)))) := by
  refine ⟨F.ok, fun G w vs htb hto hm hr => ?_⟩
  obtain ⟨hp, down⟩ := msat_pick hm H
  have inB : ∀ k, k ∈ (pickG G ib ir).bx → k ∈ G.bx := fun k hk => by
    obtain ⟨q, hq⟩ := List.getElem?_of_mem hk
    obtain ⟨j, _, j2⟩ := pick_bx hm H hq
    exact List.mem_of_getElem? j2
  have inR : ∀ x, x ∈ (pickG G ib ir).rw → x ∈ G.rw := fun k hk => by
    obtain ⟨q, hq⟩ := List.getElem?_of_mem hk
    obtain ⟨j, _, j2⟩ := pick_rw hm H hq
    exact List.mem_of_getElem? j2
  refine (F.calls _ w vs htb (fun g hg => ⟨fun h => (hto g hg).1 (inB g h), fun x hx => (hto g hg).2 x (inR x hx)⟩) hp (down _ _ ha hr)).mono ?_
  rintro e w' ⟨v, G1, rfl, hout, hle, hfr, hoB, hoR, hm1, hv⟩
  obtain ⟨G2, hi, m2, le2, b2, r2, up⟩ := msat_back hm H hout hle hfr hoB hoR hm1 (setAll_upd (AV.renL (idx ib bx.length) (idx ir rw.length)) ib bx sub' H.hb.nodup H.hb.lt hl) (setAll_upd (ARow.ren (idx ib bx.length) (idx ir rw.length)) ir rw rsub' H.hr.nodup H.hr.lt hlr)
  refine ⟨v, G2, rfl, hout.mono fun k _ h => h.elim (fun h => .inl (inB k h)) fun ⟨x, hx, hg⟩ => .inr ⟨x, inR x hx, hg⟩, le2, fun b o i => ?_, b2, r2, m2, up _ _ hv⟩
  rw [hi] at i
  rcases hfr b o i with h | h | ⟨x, hx, hg⟩
  · exact .inl h
  · exact .inr (.inl h)
  · exact .inr (.inr ⟨x, inR x hx, hg⟩)
theorem Sat.called {P : Program} {C : Ctx P} {G G' : Gh} {a : Act} {w w' : World} {st : ASt} {bx' : List (List AV)} {rw' : List ARow} (hs : Sat C G a w st) (hout : Outside (fun k => k ∈ G.bx ∨ ∃ x ∈ G.rw, x.2.ownBlock = some k) w w') (le : G.Le w G' w')
    (hfr : ∀ b o, G'.imm b o → G.imm b o ∨ w.heap.size ≤ b ∨ ∃ x ∈ G.rw, x.2.ownBlock = some b) (hB : ∀ k ∈ G'.bx, k ∈ G.bx ∨ w.heap.size ≤ k)
    (hR : ∀ x ∈ G'.rw, ∀ g, x.2.ownBlock = some g → (∃ y ∈ G.rw, y.2.ownBlock = some g) ∨ w.heap.size ≤ g) (hm : MSat G' w' bx' rw') : Sat C G' a w' { st with bx := bx', rw := rw' } := by
  have hsz := hs.frame.size
  obtain ⟨D, hD⟩ := hs.env
  have hfrm : Outside C.may C.w0 w' := ⟨hout.os.trans hs.frame.os, hout.tape.trans hs.frame.tape, hout.output.trans hs.frame.output, Nat.le_trans hsz hout.size, fun k hk hn => by
    refine (hout.block k (by omega) fun h => ?_).trans (hs.frame.block k hk hn)
    rcases h with h | ⟨x, hx, hg⟩
    · rcases hs.ownB k h with h | h
      · exact hn (.inr (.inl h))
      · omega
    · rcases hs.ownR x hx k hg with h | h
      · exact hn (.inr (.inr h))
      · omega⟩
  refine ⟨hs.size, hs.callers, hfrm, hs.le.trans le, fun b o i => ?_, fun k hk => ?_, fun x hx g hg => ?_, ⟨D, hD.step hs.mem le hfr hB hR hout⟩, hm, fun t c y hl => ?_⟩
  · rcases hfr b o i with h | h | ⟨x, hx, hg⟩
    · exact hs.fresh b o h
    · exact .inr (.inl (by omega))
    · rcases hs.ownR x hx b hg with h | h
      · exact .inr (.inr h)
      · exact .inr (.inl h)
  · rcases hB k hk with h | h
    · exact hs.ownB k h
    · exact .inr (by omega)
  · rcases hR x hx g hg with ⟨y, hy, hyg⟩ | h
    · exact hs.ownR y hy g hyg
    · exact .inr (by omega)
  · obtain ⟨v, h1, h2, h3⟩ := hs.slot t c y hl
    exact ⟨v, h1, fun hc => AV.rel_mono le _ _ (h2 hc), h3⟩
section runs
variable {P : Program} {ops : Array Oper} {rest : List Oper} {k : ASt → Prop} {st : ASt} {o : Oper} {cs : List Bool} {f : FuncId} {args : List AV} {r : AV} {bx' : List (List AV)} {rw' : List ARow}
theorem callG_walk (hg : o.guard = none) (h : callA st o.op = some (cs, f, args)) (hc : ∀ c ∈ cs, c = true) (F : FnG P f args st.bx st.rw r bx' rw') {C : Ctx P} {G : Gh} {a : Act} {w : World} {Q : Exit → Act → World → Prop} (hs : Sat C G a w st)
    (hQ : ∀ v G' w', Sat C G' a w' { st with bx := bx', rw := rw' } → r.rel G' w' v → wpListIn (fen C.round) 0 P ops Q rest (a.put o.dst v) w') : wpListIn (fen C.round) 0 P ops Q (o :: rest) a w := by
  obtain ⟨vs, h1, h2⟩ := callA_sound (P := P) (a := a) h (fun y hy => evOk_of fun t ht => hs.slot t) hc F.ok
  refine wpListIn_plain hg fun K hK => ?_
  refine wpIn_of_run (fun c hc => by rw [hc] at h; simp [callA] at h) ?_
  rw [h2, Oper.uponIn_enter]
  refine ⟨fun h => by simp [fen] at h, callsIn_fen ?_⟩
  refine (F.calls G w vs hs.tabs hs.tabs_own hs.mem h1).mono ?_
  rintro e w' ⟨v, G', rfl, hout, hle, hfr, hB, hR, hm1, hv⟩
  exact hK _ _ (hQ v G' w' (hs.called hout hle hfr hB hR hm1) hv)
theorem runS_callG {d : Nat} (hg : o.guard = none) (hd : o.dst = some d) (hn : Nat.blt d st.nt = true) (h : callA st o.op = some (cs, f, args)) (hc : ∀ c ∈ cs, c = true) (F : FnG P f args st.bx st.rw r bx' rw')
    (hk : runS P ops rest k { st with sl := (d, (true, r)) :: st.sl, bx := bx', rw := rw' }) : runS P ops (o :: rest) k st := by
  intro C G a w Q hs hQ
  refine callG_walk hg h hc F hs fun v G' w' hs' hv => ?_
  rw [hd]
  exact hk C G' _ w' Q (hs'.put (by simpa [Nat.blt_eq] using hn) (fun _ => hv) (fun h => by cases h)) hQ
theorem runS_callG0 (hg : o.guard = none) (hd : o.dst = none) (h : callA st o.op = some (cs, f, args)) (hc : ∀ c ∈ cs, c = true) (F : FnG P f args st.bx st.rw r bx' rw')
    (hk : runS P ops rest k { st with bx := bx', rw := rw' }) : runS P ops (o :: rest) k st := by
  intro C G a w Q hs hQ
  refine callG_walk hg h hc F hs fun v G' w' hs' hv => ?_
  rw [hd]
  exact hk C G' a w' Q hs' hQ
end runs
end Go.Proofs.YtihnjbnlbedpaaaDoor
