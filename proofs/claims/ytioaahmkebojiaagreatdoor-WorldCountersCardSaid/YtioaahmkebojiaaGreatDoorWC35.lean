import Derived.Test.YtioaahmkebojiaaGreatDoorWC01
import Derived.Test.YtioaahmkebojiaaGreatDoorWC09
import Derived.Test.YtioaahmkebojiaaGreatDoorWC34
namespace Go.Proofs.YtioaahmkebojiaaGreatDoor
set_option linter.unusedVariables false
set_option linter.unusedSimpArgs false
set_option maxHeartbeats 4000000
set_option maxRecDepth 100000
set_option linter.unusedSectionVars false
open Go.RowKit
variable [SpT]
def zV3 {β : Type} : List (Nat × β) → Tr β
 | [] => .e
 | e :: r => (zV3 r).put e.1 (some e.2)
theorem zHp {β : Type} {k : Nat} {x : β} : ∀ {l : List (Nat × β)}, (zV3 l).get k = some x → (k, x) ∈ l
 | [], h => by cases h
 | e :: r, h => by
  simp only [zV3, Tr.get_put] at h
  cases hb : Nat.beq k e.1 with
  | true =>
   rw [hb] at h
   cases h
   rw [yMs hb]
   simp
  | false =>
   rw [hb] at h
   exact yNy _ (zHp h)
def yKr (T : TT) (ks : List Nat) : List (Nat × TI) := ks.filterMap fun k => (T k).map fun i => (k, i)
theorem zXj {P : Program} {T : TT} (hT : TOk P T) (ks : List Nat) : TOk P (zV3 (yKr T ks)).get := fun t i h => by
 have := zHp h
 obtain ⟨k, _, h2⟩ := List.mem_filterMap.1 this
 obtain ⟨j, h3, h4⟩ := yMx.1 h2
 cases h4
 exact hT _ _ h3
def fnE (fn : Func) : Option FnE := fn.body.map fun c => ⟨fn.ntmps, fn.results.toList, c⟩
def fnF (l : List (Nat × Func)) : FuncId → Option FnE := fun f => ((zV3 l).get f).bind fnE
theorem yBt {P : Program} {l : List (Nat × Func)} (h : ∀ e ∈ l, P.funcs[e.1]? = some e.2 ∧ (e.2.name == "runtime.NumGoroutine") = false) : zU9 P (fnF l) := fun f x hx => by
 obtain ⟨fn, h1, h2⟩ := Option.bind_eq_some_iff.1 hx
 obtain ⟨c, h3, rfl⟩ := yMx.1 h2
 obtain ⟨h4, h5⟩ := h _ (zHp h1)
 exact ⟨fn, h4, h3, h5, rfl, rfl⟩
def zKg (P : Program) : List (Nat × Func) → Prop
 | [] => True
 | e :: r => (P.funcs[e.1]? = some e.2 ∧ (e.2.name == "runtime.NumGoroutine") = false) ∧ zKg P r
theorem zA {P : Program} {f : Nat} {fn : Func} {r : List (Nat × Func)} (h1 : P.funcs[f]? = some fn) (h2 : (fn.name == "runtime.NumGoroutine") = false) (h : zKg P r) : zKg P ((f, fn) :: r) := ⟨⟨h1, h2⟩, h⟩
theorem zKg.all {P : Program} : ∀ {l : List (Nat × Func)}, zKg P l → ∀ e ∈ l, P.funcs[e.1]? = some e.2 ∧ (e.2.name == "runtime.NumGoroutine") = false
 | e :: r, h, x, hx => (yNa.1 hx).elim (fun e => e ▸ h.1) (zKg.all h.2 x)
def runsE (O : FuncId → List CV → CH → Option CV) (T : TT) (F : FuncId → Option FnE) (m f : Nat) : Option Bool := match xV O T F (drawE T) m (.fn f) [] .e 0 with
 | some (.raw (.bool b), _, _) => some b
 | _ => none
theorem zQw {P : Program} {O : FuncId → List CV → CH → Option CV} {T : TT} {F : FuncId → Option FnE} (hM : MOk P) (hO : v8 P O) (hT : TOk P T) (hF : zU9 P F) {dr : z6 → Nat → Array Oper → ES → Option ES} (hD : ∀ call n, wH P call → zDd P n (dr call n)) (hg : P.globalNamed "internal/strconv.uint64pow10" = some zKz ∧ ∀ t z, zU1 t = some z → (P.info? t).bind (·.zero) = some z)
  {w : World} (ht : zBx P w) {m f : Nat} {args : List CV} {vs : List Value} {r : CV} {h' : CH} {nx' : Nat} (he : xV O T F dr m (.fn f) args .e 0 = some (r, h', nx')) (hr : CV.relL (fun _ => none) w args vs) (hp : r.plain = true) :
  wS P f ∧ Calls P f vs.toArray w fun e w' => ∃ v, e = .returned v ∧ Below w.heap.size w w' ∧ r.rel (fun _ => none) w' v := by
 have hC := qM hM hO hT hF hD m
 obtain ⟨k1, k2⟩ := hC.fn _ _ _ _ _ _ _ he
 refine ⟨k1, ?_⟩
 refine (k2 ⟨w, w.heap.size, fun _ => False, 0, fun _ => False, yMj _, fun _ h => h.elim, fun _ h => h.elim⟩ (fun _ => none) w vs ⟨⟨rfl, rfl, rfl, yMj _, fun _ _ => rfl⟩, ⟨fun k blk hk => (by cases hk), fun k k' b1 b2 b hk => (by cases hk), fun _ _ => rfl⟩, fun w' h => ht.keep fun g hg => h g hg, hg, yMh _, fun _ _ => rfl⟩ hr).mono ?_
 rintro e w' ⟨v, φ', rfl, E, hs, hv⟩
 exact ⟨v, rfl, ⟨hs.below.os, hs.below.tape, hs.below.output, hs.below.size, fun b hb => hs.below.block b fun h => by have : w.heap.size ≤ b := h.1; omega⟩, CV.plain_rel _ _ hp hv⟩
theorem yB5 {P : Program} {O : FuncId → List CV → CH → Option CV} {T : TT} {F : FuncId → Option FnE} (hM : MOk P) (hO : v8 P O) (hT : TOk P T) (hF : zU9 P F) {dr : z6 → Nat → Array Oper → ES → Option ES} (hD : ∀ call n, wH P call → zDd P n (dr call n)) (hg : P.globalNamed "internal/strconv.uint64pow10" = some zKz ∧ ∀ t z, zU1 t = some z → (P.info? t).bind (·.zero) = some z) {m f : Nat} {b : Bool} (h : (match xV O T F dr m (.fn f) [] .e 0 with
 | some (.raw (.bool b), _, _) => some b
 | _ => none) = some b) : wS P f ∧ ∀ (imm : Nat → Nat → Prop) (w : World), zBx P w → (∀ b o, imm b o → (w.cell? ⟨b, o, none⟩).isSome = true) →
  Calls P f #[] w fun e w' => ∃ v imm', e = .returned v ∧ Below w.heap.size w w' ∧ (∀ b o, imm b o → imm' b o) ∧ (∀ b o, imm' b o → imm b o ∨ w.heap.size ≤ b) ∧ (∀ b o, imm' b o → (w'.cell? ⟨b, o, none⟩).isSome = true) ∧ (AV.raw (.bool b)).rel ⟨imm', [], []⟩ w' v := by
 split at h
 ·rename_i b' h' nx' he
  cases h
  have hC := qM hM hO hT hF hD m
  refine ⟨(hC.fn _ _ _ _ _ _ _ he).1, fun imm w htb hi => ?_⟩
  refine (zQw hM hO hT hF hD hg htb he (vs := []) rfl rfl).2.mono ?_
  rintro e w' ⟨v, rfl, hbl, hv⟩
  have hlt : ∀ b o, imm b o → b < w.heap.size := fun b o i => by
   have := hi b o i
   unfold World.cell? at this
   rcases yMn b w.heap.size with h | h
   ·exact h
   ·rw [yMo h] at this; simp at this
  refine ⟨v, imm, rfl, hbl, fun _ _ i => i, fun _ _ i => .inl i, fun b o i => ?_, hv⟩
  rw [World.cell?_of_block (w := w) (a := ⟨b, o, none⟩) (hbl.block b (hlt b o i))]
  exact hi b o i
 ·cases h
def zJf : FuncId → List CV → CH → Option CV := fun _ _ _ => none
theorem zBf {P : Program} : v8 P zJf := fun _ _ _ _ h => by cases h
end Go.Proofs.YtioaahmkebojiaaGreatDoor
