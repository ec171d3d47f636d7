/- The abstract logic: the walk through a region that draws its order, by XAlB. -/
import Derived.Test.YtihnjbnlbedpaaaDoorAlB
import Derived.Test.YtihnjbnlbedpaaaDoorAlBsm
namespace Go.Proofs.YtihnjbnlbedpaaaDoor
set_option linter.unusedVariables false
set_option linter.unusedSimpArgs false
set_option maxHeartbeats 4000000
set_option maxRecDepth 100000
open Go.RowKit

def inN (t : Nat) : List Nat → Bool
  | [] => false
  | a :: L => if t = a then true else inN t L
theorem inN_eq (t : Nat) : ∀ L : List Nat, L.contains t = inN t L
  | [] => rfl
  | a :: L => by
    rw [List.contains_cons, inN_eq t L, inN]
    by_cases h : t = a
    · simp [h]
    · simp [h]
@[go_sem] theorem lookN_restr' (t : Nat) (L : List Nat) (sl : List (Nat × (Bool × AV))) : lookN t (restr L sl) = if inN t L = true then lookN t sl else none := by
  rw [lookN_restr, inN_eq]
  cases inN t L <;> rfl
@[go_sem] theorem mskB_f (bx ext : List (List AV)) : mskB false bx ext = bx ++ ext := rfl
@[go_sem] theorem mskB_t (bx ext : List (List AV)) : mskB true bx ext = ext := rfl
theorem inN_nil (t : Nat) : inN t [] = false := rfl
theorem inN_cons (t a : Nat) (L : List Nat) : inN t (a :: L) = if t = a then true else inN t L := rfl
attribute [go_sem] inN_nil inN_cons
/-- What an operation looks at, to be evaluated. -/
def tmpsL : List Operand → List Nat
  | [] => []
  | x :: r => match x with
    | .tmp t => t :: tmpsL r
    | _ => tmpsL r
def grdL (full : Array Oper) : Option (Nat × Bool) → List Nat
  | none => []
  | some (j, _) => match (full[j]?).bind (·.dst) with
    | some d => [d]
    | none => []
theorem looksAt_eq (full : Array Oper) (o : Oper) : o.looksAt full = tmpsL o.op.operands.toList ++ grdL full o.guard := by
  unfold Oper.looksAt
  congr 1
  · generalize o.op.operands.toList = l
    induction l with
    | nil => rfl
    | cons x r ih => cases x <;> simp [tmpsL, ih]
  · cases o.guard with
    | none => rfl
    | some g =>
      obtain ⟨j, b⟩ := g
      simp only [grdL]
      cases (full[j]?).bind (·.dst) <;> rfl
theorem tmpsL_nil : tmpsL [] = [] := rfl
theorem tmpsL_tmp (t : Nat) (r : List Operand) : tmpsL (.tmp t :: r) = t :: tmpsL r := rfl
theorem tmpsL_const (v : Value) (r : List Operand) : tmpsL (.const v :: r) = tmpsL r := rfl
theorem tmpsL_func (f : FuncId) (r : List Operand) : tmpsL (.func f :: r) = tmpsL r := rfl
theorem tmpsL_global (g : Nat) (r : List Operand) : tmpsL (.global g :: r) = tmpsL r := rfl
theorem grdL_none (full : Array Oper) : grdL full none = [] := rfl
theorem grdL_some (full : Array Oper) (j : Nat) (b : Bool) : grdL full (some (j, b)) = (match (full[j]?).bind (·.dst) with | some d => [d] | none => []) := rfl
theorem tl_app {α : Type} (a b : Array α) : (a ++ b).toList = a.toList ++ b.toList := by simp
theorem tl_mk {α : Type} (l : List α) : l.toArray.toList = l := by simp
theorem tl_nil {α : Type} : (#[] : Array α).toList = [] := rfl
attribute [go_sem] tl_app tl_mk tl_nil List.nil_append List.cons_append looksAt_eq tmpsL_nil tmpsL_tmp tmpsL_const tmpsL_func tmpsL_global grdL_none grdL_some Op.operands Call.operands
/-- As evl, where what is to be shown names no variables and rows. -/
theorem evlA {α : Type} {a b : α} (h : a = b := by first | ((conv => lhs; simp only [go_sem, AV.oneL, AV.one, Value.oneCell', cellsA, ↓reduceIte, Nat.reduceEqDiff, Nat.reduceAdd, Nat.reduceMul]) <;> rfl) | fail) : a = b := h
/-- Whether an operation looks at what none of some others makes. -/
def lookFree (full : List Oper) (ib : List Nat) (o : Oper) : Bool := (o.looksAt full.toArray).all fun t => ib.all fun j => match full[j]? with
  | some o' => o'.dst != some t
  | none => true
def isStore (o : Oper) : Bool := match o.op with
  | .store _ _ _ => true
  | .call c => match c.callee with
    | .builtin .copy => true
    | .builtin .append => true
    | _ => false
  | _ => false
def hasStore (l : List Oper) : Bool := l.any isStore
def pickOps (full : List Oper) : List Nat → List Oper
  | [] => []
  | i :: r => match full[i]? with
    | some o => o :: pickOps full r
    | none => pickOps full r
theorem pickOps_eq (full : List Oper) : ∀ ib, ib.filterMap (full[·]?) = pickOps full ib
  | [] => rfl
  | i :: r => by
    rw [List.filterMap_cons, pickOps, pickOps_eq full r]
    cases full[i]? <;> rfl
/-- The walk: what only computes, in the order of the text; the others are put by. -/
def runA (P : Program) (full : List Oper) (all : Bool) (m : Nat) (ia : List (Nat × AK)) (es : List AEn) (ib : List Nat) (l : List Oper) (k : ASt → Prop) (sl0 : List (Nat × (Bool × AV))) (st : ASt) : Prop :=
  full.drop m = l → st.sl = slA es ++ sl0 → ia = iaOf es → ∃ (es' : List AEn) (ib' : List Nat),
    (∀ (p : Nat) (e : AEn), es'[p]? = some e → ∃ o, full[e.1]? = some o ∧ o.dst = some e.2.2.1 ∧ AStep P full.toArray all st o (slA (es'.take p) ++ st.sl) e.2.2.2.1 e.2.2.2.2 e.2.1) ∧
    depOk4 full (iaOf (es ++ es')) (ib ++ ib') = true ∧ runB P full.toArray all st.bx ((ib ++ ib').filterMap (full[·]?)) k { st with sl := slA es' ++ st.sl }
/-- What stands at the end of an operation of the chain. -/
def KB (P : Program) (full : Array Oper) (all : Bool) (bx0 : List (List AV)) (o : Oper) (r : List Oper) (k : ASt → Prop) (nt nb0 nb : Nat) (L : List Nat) (sl : List (Nat × (Bool × AV))) (bx : List (List AV)) (rw : List ARow) (ys : (Nat × List (List AV)) × List (List AV) × Bool) (st' : ASt) : Prop :=
  ∃ ent bx' rw', st' = ⟨nt, nb, dl o.dst ent ++ restr L sl, bx', rw', ys⟩ ∧ KeepB all bx0 bx' ∧ (hrm o = true → rw' = rw ∧ ∃ ext, bx' = bx ++ ext) ∧ runB P full all bx0 r k ⟨nt, nb0, dl o.dst ent ++ sl, bx', rw', ys⟩
section
variable {P : Program} {Q : Exit → ASt → Prop} {T : TT} {full : List Oper} {all : Bool} {m : Nat} {ia : List (Nat × AK)} {es : List AEn} {ib : List Nat} {r : List Oper} {k : ASt → Prop} {nt nb : Nat} {sl sl0 : List (Nat × (Bool × AV))} {bx bx0 : List (List AV)} {rw : List ARow} {ys : (Nat × List (List AV)) × List (List AV) × Bool} {o : Oper} {d : Nat}
theorem slA_append (a b : List AEn) : slA (a ++ b) = slA b ++ slA a := by simp [slA]
theorem iaOf_append (a b : List AEn) : iaOf (a ++ b) = iaOf a ++ iaOf b := by simp [iaOf]
theorem drop_succ {l : List Oper} {m : Nat} {o : Oper} {r : List Oper} (h : l.drop m = o :: r) : l.drop (m + 1) = r ∧ l[m]? = some o := by
  have h1 : l[m]? = some o := by
    have := congrArg (·[0]?) h
    simpa using this
  refine ⟨?_, h1⟩
  rw [← List.drop_drop, h]; rfl
theorem runA_put (h : runA P full all (m + 1) ia es (ib ++ [m]) r k sl0 ⟨nt, nb, sl, bx, rw, ys⟩) : runA P full all m ia es ib (o :: r) k sl0 ⟨nt, nb, sl, bx, rw, ys⟩ := by
  intro h1 h2 h3
  obtain ⟨es', ib', h4, h5, h6⟩ := h (drop_succ h1).1 h2 h3
  exact ⟨es', m :: ib', h4, by simpa using h5, by simpa using h6⟩
/-- An operation that looks at what one of the chain makes is of the chain. -/
theorem runA_dep (_ : lookFree full ib o = false) (h : runA P full all (m + 1) ia es (ib ++ [m]) r k sl0 ⟨nt, nb, sl, bx, rw, ys⟩) : runA P full all m ia es ib (o :: r) k sl0 ⟨nt, nb, sl, bx, rw, ys⟩ := runA_put h
theorem runA_step {kd : AK} {g : Bool} {x : AV} (hd : o.dst = some d) (hok : AStep P full.toArray all ⟨nt, nb, sl, bx, rw, ys⟩ o sl g x kd)
    (h : runA P full all (m + 1) (ia ++ [(m, kd)]) (es ++ [(m, kd, (d, (g, x)))]) ib r k sl0 ⟨nt, nb, (d, (g, x)) :: sl, bx, rw, ys⟩) : runA P full all m ia es ib (o :: r) k sl0 ⟨nt, nb, sl, bx, rw, ys⟩ := by
  intro h1 h2 h3
  have h2 : sl = slA es ++ sl0 := h2
  obtain ⟨es', ib', h4, h5, h6⟩ := h (drop_succ h1).1 (by rw [slA_append, h2]; rfl) (by rw [iaOf_append, h3]; rfl)
  refine ⟨(m, kd, (d, (g, x))) :: es', ib', fun p e hp => ?_, by simpa [List.append_assoc] using h5, ?_⟩
  · cases p with
    | zero =>
      simp only [List.getElem?_cons_zero, Option.some.injEq] at hp
      subst hp
      exact ⟨o, (drop_succ h1).2, hd, hok⟩
    | succ p =>
      obtain ⟨o', g1, g2, g3⟩ := h4 p e (by simpa using hp)
      refine ⟨o', g1, g2, ?_⟩
      have : slA (((m, kd, (d, (g, x))) :: es').take (p + 1)) ++ sl = slA (es'.take p) ++ ((d, (g, x)) :: sl) := by
        simp [slA]
      simp only at g3 ⊢
      rw [this]
      exact g3
  · have : slA ((m, kd, (d, (g, x))) :: es') ++ sl = slA es' ++ ((d, (g, x)) :: sl) := by simp [slA]
    simp only at h6 ⊢
    rw [this]
    exact h6
theorem runA_any (hT : TOk P T) (hd : o.dst = some d)
    (h : ∃ g, guardA full.toArray ⟨nt, nb, sl, bx, rw, ys⟩ o = some g ∧ ∃ cs x p, (∀ ext rw', opA T ⟨nt, nb, sl, mskB all bx ext, rw', ys⟩ o.op = some (cs, x, p)) ∧ (g = true → (∀ c ∈ cs, c = true) ∧ p) ∧ runA P full all (m + 1) (ia ++ [(m, .any)]) (es ++ [(m, .any, (d, (g, x)))]) ib r k sl0 ⟨nt, nb, (d, (g, x)) :: sl, bx, rw, ys⟩) : runA P full all m ia es ib (o :: r) k sl0 ⟨nt, nb, sl, bx, rw, ys⟩ := by
  obtain ⟨g, hg, cs, x, p, h1, h2, h3⟩ := h
  exact runA_step (kd := .any) (g := g) (x := x) hd (fun ext rw' => opSpec_pure hT (st := ⟨nt, nb, sl, mskB all bx ext, rw', ys⟩) hg (h1 ext rw') h2) h3
theorem runA_first (hT : TOk P T) (hd : o.dst = some d)
    (h : ∃ g, guardA full.toArray ⟨nt, nb, sl, bx, rw, ys⟩ o = some g ∧ ∃ cs x p, (∀ ext, opA T ⟨nt, nb, sl, bx ++ ext, rw, ys⟩ o.op = some (cs, x, p)) ∧ (g = true → (∀ c ∈ cs, c = true) ∧ p) ∧ runA P full all (m + 1) (ia ++ [(m, .first)]) (es ++ [(m, .first, (d, (g, x)))]) ib r k sl0 ⟨nt, nb, (d, (g, x)) :: sl, bx, rw, ys⟩) : runA P full all m ia es ib (o :: r) k sl0 ⟨nt, nb, sl, bx, rw, ys⟩ := by
  obtain ⟨g, hg, cs, x, p, h1, h2, h3⟩ := h
  exact runA_step (kd := .first) (g := g) (x := x) hd (fun ext => opSpec_pure hT (st := ⟨nt, nb, sl, bx ++ ext, rw, ys⟩) hg (h1 ext) h2) h3
theorem runA_anyB (hT : TOk P T) (hd : o.dst = some d)
    (h : ∃ g, guardA full.toArray ⟨nt, nb, sl, bx, rw, ys⟩ o = some g ∧ ∃ cs x p, (∀ ext rw', opB T ⟨nt, nb, sl, mskB all bx ext, rw', ys⟩ o.op = some (cs, x, p)) ∧ (g = true → (∀ c ∈ cs, c = true) ∧ p) ∧ runA P full all (m + 1) (ia ++ [(m, .any)]) (es ++ [(m, .any, (d, (g, x)))]) ib r k sl0 ⟨nt, nb, (d, (g, x)) :: sl, bx, rw, ys⟩) : runA P full all m ia es ib (o :: r) k sl0 ⟨nt, nb, sl, bx, rw, ys⟩ := by
  obtain ⟨g, hg, cs, x, p, h1, h2, h3⟩ := h
  exact runA_step (kd := .any) (g := g) (x := x) hd (fun ext rw' => opSpec_B hT (st := ⟨nt, nb, sl, mskB all bx ext, rw', ys⟩) hg (h1 ext rw') h2) h3
theorem runA_mk (hT : TOk P T) (hd : o.dst = some d)
    (h : ∃ g, guardA full.toArray ⟨nt, nb, sl, bx, rw, ys⟩ o = some g ∧ ∃ cs x p, (∀ ext rw', mkA T ⟨nt, nb, sl, mskB all bx ext, rw', ys⟩ o.op = some (cs, x, p)) ∧ (g = true → (∀ c ∈ cs, c = true) ∧ p) ∧ runA P full all (m + 1) (ia ++ [(m, .any)]) (es ++ [(m, .any, (d, (g, x)))]) ib r k sl0 ⟨nt, nb, (d, (g, x)) :: sl, bx, rw, ys⟩) : runA P full all m ia es ib (o :: r) k sl0 ⟨nt, nb, sl, bx, rw, ys⟩ := by
  obtain ⟨g, hg, cs, x, p, h1, h2, h3⟩ := h
  exact runA_step (kd := .any) (g := g) (x := x) hd (fun ext rw' => opSpec_mk hT (st := ⟨nt, nb, sl, mskB all bx ext, rw', ys⟩) hg (h1 ext rw') h2) h3
theorem runA_call (hd : o.dst = some d)
    (h : ∃ g, guardA full.toArray ⟨nt, nb, sl, bx, rw, ys⟩ o = some g ∧ ∃ cs f args, (∀ ext rw', callA ⟨nt, nb, sl, mskB all bx ext, rw', ys⟩ o.op = some (cs, f, args)) ∧ (g = true → (∀ c ∈ cs, c = true) ∧ AV.freeL args) ∧ ∃ x, (g = true → FnA P f args x) ∧ runA P full all (m + 1) (ia ++ [(m, .any)]) (es ++ [(m, .any, (d, (g, x)))]) ib r k sl0 ⟨nt, nb, (d, (g, x)) :: sl, bx, rw, ys⟩) : runA P full all m ia es ib (o :: r) k sl0 ⟨nt, nb, sl, bx, rw, ys⟩ := by
  obtain ⟨g, hg, cs, f, args, h1, h2, x, h3, h4⟩ := h
  exact runA_step (kd := .any) (g := g) (x := x) hd (fun ext rw' => opSpec_call (st := ⟨nt, nb, sl, mskB all bx ext, rw', ys⟩) hg (h1 ext rw') h2 h3) h4
theorem runA_nil (h : ∃ ia', ia = ia' ∧ ∃ ib', ib = ib' ∧ depOk4 full ia' ib' = true ∧ runB P full.toArray all bx (pickOps full ib') k ⟨nt, nb, sl, bx, rw, ys⟩) : runA P full all m ia es ib [] k sl0 ⟨nt, nb, sl, bx, rw, ys⟩ := by
  obtain ⟨_, rfl, _, rfl, h1, h2⟩ := h
  rintro _ _ rfl
  exact ⟨[], [], fun p e h => by simp at h, by simpa using h1, by simpa [pickOps_eq, slA] using h2⟩
theorem runB_nil (h : k ⟨nt, nb, sl, bx, rw, ys⟩) : runB P full.toArray all bx0 [] k ⟨nt, nb, sl, bx, rw, ys⟩ := h
theorem runB_op (h64 : Nat.blt bx.length 64 = true) (h : ∃ L, o.looksAt full.toArray = L ∧ ∀ nb', runS P full.toArray [o] (KB P full.toArray all bx0 o r k nt nb nb' L sl bx rw ys) ⟨nt, nb', restr L sl, bx, rw, ys⟩) : runB P full.toArray all bx0 (o :: r) k ⟨nt, nb, sl, bx, rw, ys⟩ := by
  obtain ⟨_, rfl, h⟩ := h
  exact ⟨Nat.le_of_ble_eq_true h64, h⟩
theorem runB_end {nb' : Nat} {L : List Nat} {ent : Bool × AV} {bx' : List (List AV)} {rw' : List ARow} (hd : o.dst = some d) (h1 : KeepB all bx0 bx') (h2 : hrm o = true → rw' = rw ∧ ∃ ext, bx' = bx ++ ext)
    (h : runB P full.toArray all bx0 r k ⟨nt, nb, (d, ent) :: sl, bx', rw', ys⟩) : runS P full.toArray [] (KB P full.toArray all bx0 o r k nt nb nb' L sl bx rw ys) ⟨nt, nb', (d, ent) :: restr L sl, bx', rw', ys⟩ :=
  runS_nil ⟨ent, bx', rw', by rw [hd]; rfl, h1, h2, by rw [hd]; exact h⟩
theorem runB_endN {nb' : Nat} {L : List Nat} {bx' : List (List AV)} {rw' : List ARow} (hd : o.dst = none) (h1 : KeepB all bx0 bx') (h2 : hrm o = true → rw' = rw ∧ ∃ ext, bx' = bx ++ ext)
    (h : runB P full.toArray all bx0 r k ⟨nt, nb, sl, bx', rw', ys⟩) : runS P full.toArray [] (KB P full.toArray all bx0 o r k nt nb nb' L sl bx rw ys) ⟨nt, nb', restr L sl, bx', rw', ys⟩ :=
  runS_nil ⟨(true, .raw undef), bx', rw', by rw [hd]; rfl, h1, h2, by rw [hd]; exact h⟩
theorem keepT (bx0 bx' : List (List AV)) : KeepB true bx0 bx' := ⟨bx', rfl⟩
theorem keepF {bx0 bx' : List (List AV)} (ext : List (List AV)) (h : bx' = bx0 ++ ext) : KeepB false bx0 bx' := ⟨ext, h⟩
theorem wpA_drawA (all : Bool) {id : Nat} {ops : List Oper} (hm : P.follows .mixedOrders = true) (hf : dstsFit nt ops = true) (h : ∀ K : ASt → Prop, (∀ s, Q .normal s → K s) → runA P ops all 0 [] [] [] ops K sl ⟨nt, nb, sl, bx, rw, ys⟩) : wpA P (.region id ops.toArray true) Q ⟨nt, nb, sl, bx, rw, ys⟩ := by
  obtain ⟨es, ib, h1, h2, h3⟩ := h (Q .normal) (fun _ h => h) rfl rfl rfl
  intro C G a w hs
  have hs' := hs.drew
  simp only [List.nil_append] at h2 h3
  have hz : ∀ j, (Array.replicate ops.toArray.size false).getD j false = false := fun j => by
    simp only [Array.getD_eq_getD_getElem?, Array.getElem?_replicate]
    split <;> rfl
  have hz' : ∀ j, j < ops.length → (Array.replicate ops.toArray.size false).getD j true = false := fun j hj => by
    simp only [Array.getD_eq_getD_getElem?, Array.getElem?_replicate]
    rw [if_pos (by simpa using hj)]; rfl
  refine wpIn_mono (Q := fun e a w => e = .normal ∧ down C Q .normal a w) (wpIn_region_any hm (wpAny4 (C := C) (es := es) (ib := ib) (st := ⟨nt, nb, sl, bx, rw, ys⟩) (k := Q .normal) h2 h1 (fun G a w st' hs hk => ⟨rfl, G, st', hs, hk⟩) _ _ G a _ ?_ ⟨hs'.frame, hs'.le, hs'.fresh, hs'.ownB, hs'.ownR, by rw [hs.size]; exact hf, hs.size, hs.callers, by simp, fun i o ho hl => ?_, fun t e _ hl => hs'.slot t e.1 e.2 hl, fun e he hl => ?_, hs'.env,
    ⟨0, [], bx, rw, fun p i hp => ?_, Nat.zero_le _, ?_, fun _ => ⟨rfl, [], by simp⟩, hs'.mem, fun t e h => (by cases h), fun i o t _ hl => ?_, ?_⟩⟩)) (fun e a w h => by obtain ⟨rfl, h⟩ := h; exact h)
  · exact Nat.le_trans List.countP_le_length (by simp)
  · have hil : i < ops.length := (List.getElem?_eq_some_iff.1 ho).1
    rw [hz' i hil] at hl; cases hl
  · rw [hz] at hl; cases hl
  · rw [hz]; simp
  · cases all
    · exact ⟨[], by simp [mskB]⟩
    · exact ⟨bx, rfl⟩
  · rw [hz] at hl; cases hl
  · simpa using h3
theorem wpA_drawG (all : Bool) {id : Nat} {ops : List Oper} (_ : hasStore ops = all) (hm : P.follows .mixedOrders = true) (hf : dstsFit nt ops = true) (h : ∀ K : ASt → Prop, (∀ s, Q .normal s → K s) → runA P ops all 0 [] [] [] ops K sl ⟨nt, nb, sl, bx, rw, ys⟩) : wpA P (.region id ops.toArray true) Q ⟨nt, nb, sl, bx, rw, ys⟩ := wpA_drawA all hm hf h
theorem gateAc (h : runA P full all m ia es ib (o :: r) k sl0 ⟨nt, nb, sl, bx, rw, ys⟩) : runA P full all m ia es ib (o :: r) k sl0 ⟨nt, nb, sl, bx, rw, ys⟩ := h
theorem gateAn (h : runA P full all m ia es ib [] k sl0 ⟨nt, nb, sl, bx, rw, ys⟩) : runA P full all m ia es ib [] k sl0 ⟨nt, nb, sl, bx, rw, ys⟩ := h
theorem gateBc {l : List Oper} (h : runB P full.toArray all bx0 l k ⟨nt, nb, sl, bx, rw, ys⟩) : runB P full.toArray all bx0 l k ⟨nt, nb, sl, bx, rw, ys⟩ := h
theorem gateD {id : Nat} {ops : Array Oper} (h : wpA P (.region id ops true) Q ⟨nt, nb, sl, bx, rw, ys⟩) : wpA P (.region id ops true) Q ⟨nt, nb, sl, bx, rw, ys⟩ := h
/-- A contract, where the function is looked at first. -/
theorem FnA.at_ {P : Program} {f f' : FuncId} {args args' : List AV} {r : AV} (h : FnA P f' args' r) (hf : f' = f) (ha : args' = args) : FnA P f args r := by
  subst hf; subst ha; exact h
theorem FnA.at_s {P : Program} {f f' : FuncId} {args args' : List AV} {r : AV} (h : FnA P f' args' r) (hf : f' = f) (hs : SimL args args') : FnA P f args r := by
  subst hf; exact FnA.sim h hs
end
theorem gateA {P : Program} {full : List Oper} {all : Bool} {m : Nat} {ia : List (Nat × AK)} {es : List AEn} {ib : List Nat} {o : Oper} {r : List Oper} {k : ASt → Prop} {sl0 : List (Nat × (Bool × AV))} {st : ASt} (n : Nat) (hc : opCls o.op = n) (h : runA P full all m ia es ib (o :: r) k sl0 st) : runA P full all m ia es ib (o :: r) k sl0 st := h
end Go.Proofs.YtihnjbnlbedpaaaDoor
