/- The abstract logic: rows handed to functions as lists; calls that write the caller's variables, ready for evaluation. -/
import Derived.Test.YtihnjbnlbedpaaaDoorAlR
namespace Go.Proofs.YtihnjbnlbedpaaaDoor
set_option linter.unusedVariables false
set_option linter.unusedSimpArgs false
set_option maxHeartbeats 4000000
set_option maxRecDepth 100000
open Go.RowKit
/-- Rows as lists. -/
def unrow (st : ASt) : List AV → Option (List AV × Prop)
  | [] => some ([], True)
  | .row k n :: xs => match st.rw[k]?, unrow st xs with
    | some r, some (ys, p) => some (.lst r.sz r.n r.el :: ys, n = r.n ∧ p)
    | _, _ => none
  | x :: xs => match unrow st xs with
    | some (ys, p) => some (x :: ys, p)
    | none => none
theorem unrow_sound {st : ASt} {G : Gh} {w : World} (hm : MSat G w st.bx st.rw) : ∀ {xs ys : List AV} {p : Prop} {vs : List Value}, unrow st xs = some (ys, p) → p → AV.relL G w xs vs → AV.relL G w ys vs
  | [], ys, p, vs, h, _, hr => by
    simp only [unrow, Option.some.injEq, Prod.mk.injEq] at h
    obtain ⟨rfl, _⟩ := h
    exact hr
  | x :: xs, ys, p, vs, h, hp, hr => by
    obtain ⟨v, r, rfl, h1, h2⟩ := hr
    unfold unrow at h
    split at h
    · cases ‹_ :: _ = []›
    · rename_i k n xs' heq
      cases heq
      split at h
      · rename_i rr ys' p' hk hu
        simp only [Option.some.injEq, Prod.mk.injEq] at h
        obtain ⟨rfl, rfl⟩ := h
        exact ⟨v, r, rfl, asL_sound hm (v := .row k n) (by simp only [ASt.asL, hk]) hp.1 h1, unrow_sound hm hu hp.2 h2⟩
      · cases h
    · rename_i xs' _ heq
      cases heq
      split at h
      · rename_i ys' p' hu
        simp only [Option.some.injEq, Prod.mk.injEq] at h
        obtain ⟨rfl, rfl⟩ := h
        exact ⟨v, r, rfl, h1, unrow_sound hm hu hp h2⟩
      · cases h
theorem opSpec_callR {P : Program} {ops : Array Oper} {o : Oper} {st : ASt} {g : Bool} {cs : List Bool} {f : FuncId} {args args' : List AV} {p : Prop} {r : AV} (hg : guardA ops st o = some g) (h : callA st o.op = some (cs, f, args)) (hu : unrow st args = some (args', p))
    (hp : g = true → (∀ c ∈ cs, c = true) ∧ p ∧ AV.freeL args') (hf : g = true → FnA P f args' r) : OpSpec P ops o st g r := by
  intro G a w htb hm hs
  refine ⟨guardA_sound hg hs, fun hgt ro K Q hK => ?_⟩
  have F := hf hgt
  obtain ⟨hp1, hp2, hp3⟩ := hp hgt
  obtain ⟨vs, h1, h2⟩ := callA_sound (P := P) (a := a) h (fun y hy => evOk_of fun t ht => hs t (looks_operand (by rw [← ht]; exact hy))) hp1 F.ok
  have h1 := unrow_sound hm hu hp2 h1
  refine wpIn_of_run (fun c hc => by rw [hc] at h; simp [callA] at h) ?_
  rw [h2, Oper.uponIn_enter]
  refine ⟨fun h => by simp [fen] at h, callsIn_fen ?_⟩
  refine (F.calls G.imm w vs htb hm.immOk (AV.relL_free (G := G) (G' := ⟨G.imm, [], []⟩) (fun _ _ i => i) _ _ hp3 h1)).mono ?_
  rintro e w' ⟨v, imm', rfl, hb, i1, i2, i3, hr⟩
  have E := msat_ext hm hb imm' i1 i2 i3
  refine hK v ⟨imm', G.bx, G.rw⟩ w' E (AV.rel_mono (G := ⟨imm', [], []⟩) (G' := ⟨imm', G.bx, G.rw⟩) ⟨fun _ _ i => i, fun _ _ _ => rfl, fun k x hx => by simp at hx, fun k e he => by simp at he⟩ _ _ hr)
section runs
variable {P : Program} {T : TT} {ops : Array Oper} {rest : List Oper} {K : ASt → Prop} {nt nb : Nat} {sl : List (Nat × (Bool × AV))} {bx : List (List AV)} {rw : List ARow} {ys : (Nat × List (List AV)) × List (List AV) × Bool} {o : Oper} {d : Nat}
theorem runS_callR (hd : o.dst = some d) (hn : Nat.blt d nt = true)
    (h : ∃ g, guardA ops ⟨nt, nb, sl, bx, rw, ys⟩ o = some g ∧ ∃ cs f args, callA ⟨nt, nb, sl, bx, rw, ys⟩ o.op = some (cs, f, args) ∧ ∃ args' p, unrow ⟨nt, nb, sl, bx, rw, ys⟩ args = some (args', p) ∧ (g = true → (∀ c ∈ cs, c = true) ∧ p ∧ AV.freeL args') ∧ ∃ x, (g = true → FnA P f args' x) ∧ runS P ops rest K ⟨nt, nb, (d, (g, x)) :: sl, bx, rw, ys⟩) : runS P ops (o :: rest) K ⟨nt, nb, sl, bx, rw, ys⟩ := by
  obtain ⟨_, hg, _, _, _, h, _, _, hu, hp, _, hf, hk⟩ := h
  exact runS_op hd (opSpec_callR hg h hu hp hf) hn hk
end runs
/-- What is handed over, ready for evaluation. -/
def handL {α : Type} (bx : List α) (rn : α → α) : List Nat → List α → Prop
  | [], [] => True
  | j :: ib, c :: sub => bx[j]? = some (rn c) ∧ handL bx rn ib sub
  | _, _ => False
theorem handL_ok {α : Type} {bx : List α} {rn : α → α} : ∀ {ib : List Nat} {sub : List α}, handL bx rn ib sub → sub.length = ib.length ∧ ∀ (k j : Nat), ib[k]? = some j → ∃ c, sub[k]? = some c ∧ bx[j]? = some (rn c)
  | [], [], _ => ⟨rfl, fun k j h => by simp at h⟩
  | j :: ib, c :: sub, h => by
    obtain ⟨h1, h2⟩ := handL_ok h.2
    refine ⟨by simp [h1], fun k j' hk => ?_⟩
    cases k with
    | zero =>
      simp only [List.getElem?_cons_zero, Option.some.injEq] at hk
      subst hk
      exact ⟨c, rfl, h.1⟩
    | succ k => simpa using h2 k j' (by simpa using hk)
  | [], _ :: _, h => h.elim
  | _ :: _, [], h => h.elim
theorem handOk_of {ib ir : List Nat} {bx sub : List (List AV)} {rw rsub : List ARow} {m n : Nat} (h1 : ib.Nodup) (h2 : ir.Nodup) (h3 : handL bx (AV.renL (idx ib m) (idx ir n)) ib sub) (h4 : handL rw (ARow.ren (idx ib m) (idx ir n)) ir rsub)
    (h5 : ∀ cs ∈ sub, AV.subL ib.length ir.length cs) (h6 : ∀ r ∈ rsub, ∀ q, q < r.n → AV.subL ib.length ir.length (r.el q)) : HandOk ib ir bx sub rw rsub (idx ib m) (idx ir n) :=
  ⟨⟨h1, (handL_ok h3).1, (handL_ok h3).2⟩, ⟨h2, (handL_ok h4).1, (handL_ok h4).2⟩, fun _ _ h => idx_old h, fun _ _ h => idx_old h, h5, h6⟩
theorem retG_of {T : TT} {rs : List ResultVar} {m : Nat} {r : AV} {bx' : List (List AV)} {rw' : List ARow} {e : Exit} {st : ASt} (he : e = .normal ∨ e = .ret)
    (h : ∃ cs x p, retA T st rs = some (cs, x, p) ∧ ((∀ c ∈ cs, c = true) ∧ p) ∧ OutG m st x r ∧ st.nb % 64 ≤ m ∧ st.bx.take m = bx' ∧ st.rw = rw' ∧ belB m bx' ∧ belR m rw') : retPostG T rs m r bx' rw' e st := by
  obtain ⟨cs, x, p, h1, ⟨h2, h3⟩, h4⟩ := h
  exact ⟨he, cs, x, p, h1, h2, h3, h4⟩
section
variable {P : Program} {T : TT} {ops : Array Oper} {rest : List Oper} {K : ASt → Prop} {nt nb : Nat} {sl : List (Nat × (Bool × AV))} {bx : List (List AV)} {rw : List ARow} {ys : (Nat × List (List AV)) × List (List AV) × Bool} {o : Oper} {d : Nat}
/-- A call of a function that writes, ready for evaluation. -/
theorem sCallG (ib ir : List Nat) {f : FuncId} {args : List AV} {sub sub' : List (List AV)} {rsub rsub' : List ARow} {r : AV} (F : FnG P f args sub rsub r sub' rsub') (hg : o.guard = none) (hd : o.dst = some d) (hn : Nat.blt d nt = true)
    (h : ∃ m, bx.length = m ∧ ∃ n, rw.length = n ∧ ∃ cs, callA ⟨nt, nb, sl, bx, rw, ys⟩ o.op = some (cs, f, AV.renL (idx ib m) (idx ir n) args) ∧ (∀ c ∈ cs, c = true) ∧ ib.Nodup ∧ ir.Nodup ∧ handL bx (AV.renL (idx ib m) (idx ir n)) ib sub ∧ handL rw (ARow.ren (idx ib m) (idx ir n)) ir rsub ∧
      ((∀ cs ∈ sub, AV.subL ib.length ir.length cs) ∧ (∀ r ∈ rsub, ∀ q, q < r.n → AV.subL ib.length ir.length (r.el q)) ∧ AV.subL ib.length ir.length args ∧ ib.length ≤ sub'.length ∧ ir.length ≤ rsub'.length) ∧
      ∃ r1, r.ren (idx ib m) (idx ir n) = r1 ∧ ∃ bx1, setAll bx ib (sub'.map (AV.renL (idx ib m) (idx ir n))) = bx1 ∧ ∃ rw1, setAll rw ir (rsub'.map (ARow.ren (idx ib m) (idx ir n))) = rw1 ∧
      runS P ops rest K ⟨nt, nb, (d, (true, r1)) :: sl, bx1, rw1, ys⟩) : runS P ops (o :: rest) K ⟨nt, nb, sl, bx, rw, ys⟩ := by
  obtain ⟨m, rfl, n, rfl, cs, h1, h2, h3, h4, h5, h6, ⟨h7, h8, h9, h10, h11⟩, r1, rfl, bx1, rfl, rw1, rfl, h12⟩ := h
  exact runS_callG hg hd hn h1 h2 (F.frame ib ir (handOk_of h3 h4 h5 h6 h7 h8) h9 h10 h11) h12
end
attribute [go_sem] unrow idx appS appStrS appEl mkRowA setAll handL AV.renL AV.ren ARow.ren
end Go.Proofs.YtihnjbnlbedpaaaDoor
