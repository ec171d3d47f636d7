/- The abstract logic: the operations that only compute and read do what is said of them. -/
import Derived.Test.YticlpcgkaffdmaaAlEq
import Derived.Laws.Tables
namespace Go.Proofs.Yticlpcgkaffdmaa
set_option linter.unusedSectionVars false
set_option linter.unusedVariables false
set_option linter.unusedSimpArgs false
open Go.RowKit

def EvOk (G : Gh) (w : World) (a : Act) (st : ASt) (x : Operand) : Prop := ∀ c av, st.ev x = some (c, av) → c = true → av.rel G w (a.eval x)

theorem rel_raw {G : Gh} {w : World} {x v : Value} (h : (AV.raw x).rel G w v) : v = x := h
theorem eqC_sound {G : Gh} {w : World} : ∀ {ks : List CK} {xs ys : List AV} {vs us : List Value} {b : Bool} {p : Prop}, eqC ks xs ys = some (b, p) → p → AV.relL G w xs vs → AV.relL G w ys us → eqW ks vs us = some b := by
  intro ks
  induction ks with
  | nil =>
    intro xs ys vs us b p h hp h1 h2
    cases xs <;> cases ys <;> simp only [eqC, Option.some.injEq, Prod.mk.injEq, reduceCtorEq] at h
    rw [show vs = [] from h1, show us = [] from h2, ← h.1]; rfl
  | cons k ks ih =>
    intro xs ys vs us b p h hp h1 h2
    unfold eqC at h
    split at h
    · cases ‹_ :: _ = []›
    · rename_i ks' k1 a xs' k2 c ys' e
      cases e
      split at h
      · rename_i c' p' he
        simp only [Option.some.injEq, Prod.mk.injEq] at h
        obtain ⟨rfl, rfl⟩ := h
        obtain ⟨v, r, rfl, e1, e2⟩ := h1
        obtain ⟨v', r', rfl, e3, e4⟩ := h2
        rw [rel_raw e1, rel_raw e3]
        simp [eqW, hp.1, ih he hp.2 e2 e4]
      · cases h
    · rename_i ks' a xs' c ys' e
      cases e
      split at h
      · rename_i c' p' he
        simp only [Option.some.injEq, Prod.mk.injEq] at h
        obtain ⟨rfl, rfl⟩ := h
        obtain ⟨v, r, rfl, e1, e2⟩ := h1
        obtain ⟨v', r', rfl, e3, e4⟩ := h2
        rw [rel_raw e1, rel_raw e3]
        simp [eqW, ih he hp e2 e4]
      · cases h
    · rename_i ks' a xs' c ys' e
      cases e
      split at h
      · rename_i c' p' he
        simp only [Option.some.injEq, Prod.mk.injEq] at h
        obtain ⟨rfl, rfl⟩ := h
        obtain ⟨v, r, rfl, e1, e2⟩ := h1
        obtain ⟨v', r', rfl, e3, e4⟩ := h2
        rw [rel_raw e1, rel_raw e3]
        simp [eqW, ih he hp e2 e4]
      · cases h
    · cases h
theorem int_beq (a b : Int) : (a == b) = decide (a = b) := by by_cases h : a = b <;> simp [h]
theorem int_bne (a b : Int) : (a != b) = !decide (a = b) := by by_cases h : a = b <;> simp [bne, h]

theorem relL_over {G : Gh} {w : World} : ∀ {us cs : List AV} {ys vs : List Value}, AV.relL G w us ys → AV.relL G w cs vs → AV.relL G w (overL us cs) (overL ys vs)
  | [], _, _, _, h, h' => by rw [show _ = [] from h]; exact h'
  | u :: us, [], _, _, h, h' => by
    obtain ⟨y, ys, rfl, _, _⟩ := h
    rw [show _ = [] from h']; exact rfl
  | u :: us, c :: cs, _, _, h, h' => by
    obtain ⟨y, ys, rfl, h1, h2⟩ := h
    obtain ⟨v, vs, rfl, _, h4⟩ := h'
    exact ⟨y, _, rfl, h1, relL_over h2 h4⟩
theorem relL_put {G : Gh} {w : World} : ∀ {cs : List AV} {vs : List Value} {n : Nat} {us : List AV} {ys : List Value}, AV.relL G w cs vs → AV.relL G w us ys → AV.relL G w (putL cs n us) (putL vs n ys)
  | cs, vs, 0, us, ys, h, h' => by
    have : putL cs 0 us = overL us cs := by cases cs <;> rfl
    have : putL vs 0 ys = overL ys vs := by cases vs <;> rfl
    simp only [*]
    exact relL_over h' h
  | [], _, n + 1, _, _, h, _ => by rw [show _ = [] from h]; exact rfl
  | c :: cs, _, n + 1, _, _, h, h' => by
    obtain ⟨v, vs, rfl, h1, h2⟩ := h
    exact ⟨v, _, rfl, h1, relL_put h2 h'⟩
theorem overL_snoc {α : Type} : ∀ {us : List α} {u : α} {cs : List α}, us.length < cs.length → overL (us ++ [u]) cs = (overL us cs).set us.length u
  | [], u, c :: cs, _ => rfl
  | x :: us, u, c :: cs, h => by simp only [List.cons_append, overL, List.length_cons, List.set_cons_succ]; rw [overL_snoc (by simpa using h)]
theorem putL_snoc {α : Type} : ∀ {cs : List α} {n : Nat} {us : List α} {u : α}, n + us.length < cs.length → putL cs n (us ++ [u]) = (putL cs n us).set (n + us.length) u
  | cs, 0, us, u, h => by
    have h1 : ∀ ys : List α, putL cs 0 ys = overL ys cs := by intro ys; cases cs <;> rfl
    rw [h1, h1, overL_snoc (by omega), Nat.zero_add]
  | c :: cs, n + 1, us, u, h => by
    simp only [putL]
    rw [putL_snoc (by simp at h; omega), show n + 1 + us.length = (n + us.length) + 1 from by omega, List.set_cons_succ]
theorem overL_length {α : Type} : ∀ {us cs : List α}, us.length ≤ cs.length → (overL us cs).length = cs.length
  | [], cs, _ => rfl
  | u :: us, c :: cs, h => by simp only [overL, List.length_cons]; rw [overL_length (by simpa using h)]
theorem putL_length {α : Type} : ∀ {cs : List α} {n : Nat} {us : List α}, n + us.length ≤ cs.length → (putL cs n us).length = cs.length
  | cs, 0, us, h => by
    have : putL cs 0 us = overL us cs := by cases cs <;> rfl
    rw [this, overL_length (by omega)]
  | [], n + 1, us, h => rfl
  | c :: cs, n + 1, us, h => by simp only [putL, List.length_cons]; rw [putL_length (by simp at h; omega)]

section
variable {st : ASt}
theorem one_sound {G : Gh} {w : World} (hm : MSat G w st.bx st.rw) {x : AV} {v : Value} (h : x.one st) (hr : x.rel G w v) : v.oneCell' = true := by
  cases x with
  | raw u => rw [rel_raw hr]; exact h
  | lst sz n el => obtain ⟨A, cap, rfl, _⟩ := hr; rfl
  | elt cs off => obtain ⟨b, o, vs, rfl, _⟩ := hr; rfl
  | box b off => obtain ⟨blk, _, rfl⟩ := hr; rfl
  | fn f a b => obtain ⟨fs, cs, rfl, _⟩ := hr; rfl
  | row k n =>
    simp only [AV.one] at h
    split at h
    · rename_i r hr'
      obtain ⟨e, h1, h2, h3⟩ := hr
      have ro := hm.row k r e hr' h1
      rw [h3 (ro.len.trans h.symm)]
      obtain ⟨xs, ho, _⟩ := ro.own
      rcases ho.2 with ⟨hv, _⟩ | ⟨g, cap, cur, hv, _⟩ <;> rw [hv] <;> rfl
    · exact h.elim
  | _ => exact h.elim
theorem oneL_sound {G : Gh} {w : World} (hm : MSat G w st.bx st.rw) : ∀ {xs : List AV} {vs : List Value}, AV.oneL st xs → AV.relL G w xs vs → ∀ v ∈ vs, v.oneCell' = true
  | [], _, _, h, v, hv => by rw [show _ = [] from h] at hv; cases hv
  | x :: xs, _, h, hr, v, hv => by
    obtain ⟨u, rr, rfl, h1, h2⟩ := hr
    rcases List.mem_cons.1 hv with e | e
    · subst e; exact one_sound hm h.1 h1
    · exact oneL_sound hm h.2 h2 v e
theorem cells_rel {G : Gh} {w : World} {x : AV} {v : Value} (h1 : AV.oneL st (cellsA x)) (hm : MSat G w st.bx st.rw) (h : x.rel G w v) : AV.relL G w (cellsA x) v.cells.toList := by
  by_cases hx : ∃ cs, x = .agg cs
  · obtain ⟨cs, rfl⟩ := hx
    obtain ⟨vs, rfl, h2⟩ := h
    exact h2
  · have e : cellsA x = [x] := by
      cases x <;> first | rfl | exact absurd ⟨_, rfl⟩ hx
    rw [e] at h1 ⊢
    have h3 := one_sound hm h1.1 h
    refine ⟨v, [], ?_, h, rfl⟩
    cases v <;> first | rfl | simp [Value.oneCell'] at h3

end
section
variable {P : Program} {T : TT} {G : Gh} {w : World} {a : Act} {st : ASt}

theorem eqGuard_int (op : BinOp) (t : TypeId) (x y : Operand) (k k' : IntKind) (m n : Int) : (eqGuard op t x y (.int k m) (.int k' n)).run P w = .ok () w := by
  unfold eqGuard; cases op <;> simp
theorem eqGuard_bool (op : BinOp) (t : TypeId) (x y : Operand) (m n : Bool) : (eqGuard op t x y (.bool m) (.bool n)).run P w = .ok () w := by
  unfold eqGuard; cases op <;> simp
theorem eqGuard_str (op : BinOp) (t : TypeId) (x y : Operand) (m n : ByteArray) : (eqGuard op t x y (.string m) (.string n)).run P w = .ok () w := by
  unfold eqGuard; cases op <;> simp

theorem binA_sound {op : BinOp} {v v' r : AV} {p : Prop} (h : binA op v v' = some (r, p)) (hp : p) {x y : Value} (hx : v.rel G w x) (hy : v'.rel G w y) (t : TypeId) (ox oy : Operand) :
    ∃ u, (do eqGuard op t ox oy x y; binOp op t x y : Sem Value).run P w = .ok u w ∧ r.rel G w u := by
  unfold binA at h
  split at h
  · rename_i k m k' n
    rw [rel_raw hx, rel_raw hy]
    simp only [Sem.run_bind, eqGuard_int, Result.andThen_ok]
    cases op <;> simp only [Option.some.injEq, Prod.mk.injEq, reduceCtorEq] at h
    case add => 
      obtain ⟨rfl, rfl⟩ := h
      obtain ⟨rfl, h2⟩ := hp
      refine ⟨_, by simp only [binOp, Op.intArith]; simp; rfl, ?_⟩
      cases k <;> simp only [AV.rel] <;> first | rfl | (rw [inK_wrap h2])
    case sub => 
      obtain ⟨rfl, rfl⟩ := h
      obtain ⟨rfl, h2⟩ := hp
      refine ⟨_, by simp only [binOp, Op.intArith]; simp; rfl, ?_⟩
      cases k <;> simp only [AV.rel] <;> first | rfl | (rw [inK_wrap h2])
    case mul => 
      obtain ⟨rfl, rfl⟩ := h
      obtain ⟨rfl, h2⟩ := hp
      refine ⟨_, by simp only [binOp, Op.intArith]; simp; rfl, ?_⟩
      cases k <;> simp only [AV.rel] <;> first | rfl | (rw [inK_wrap h2])
    case quo =>
      obtain ⟨rfl, rfl⟩ := h
      obtain ⟨rfl, h2, h3⟩ := hp
      exact ⟨_, by simp only [binOp, Op.intDiv, h3]; simp [h2], rfl⟩
    case rem =>
      obtain ⟨rfl, rfl⟩ := h
      obtain ⟨rfl, h2⟩ := hp
      exact ⟨_, by simp only [binOp, Op.intDiv]; simp [h2], rfl⟩
    all_goals
      obtain ⟨rfl, rfl⟩ := h
      cases hp
      exact ⟨_, by simp only [binOp, Op.intCmp]; first | (simp; done) | (simp; rfl), by simp only [AV.rel] <;> first | rfl | rw [int_beq] | rw [int_bne]⟩
  · rename_i m n
    rw [rel_raw hx, rel_raw hy]
    simp only [Sem.run_bind, eqGuard_str, Result.andThen_ok]
    cases op <;> simp only [Option.some.injEq, Prod.mk.injEq, reduceCtorEq] at h
    all_goals
      obtain ⟨rfl, rfl⟩ := h
      exact ⟨_, by simp only [binOp, Op.stringOp]; first | (simp; done) | (simp; rfl), rfl⟩
  · cases h

theorem unA_sound {op : UnOp} {v r : AV} {p : Prop} (h : unA op v = some (r, p)) (hp : p) {x : Value} (hx : v.rel G w x) : ∃ u, (Op.unary op x).run P w = .ok u w ∧ r.rel G w u := by
  unfold unA at h
  split at h
  · rw [rel_raw hx]
    cases op <;> simp only [Option.some.injEq, Prod.mk.injEq, reduceCtorEq] at h
    obtain ⟨rfl, rfl⟩ := h
    exact ⟨_, rfl, rfl⟩
  · rw [rel_raw hx]
    cases op <;> simp only [Option.some.injEq, Prod.mk.injEq, reduceCtorEq] at h
    obtain ⟨rfl, rfl⟩ := h
    exact ⟨_, rfl, by simp only [AV.rel]; rw [Int.zero_sub, hp]⟩
  · cases h

theorem asL_sound (hm : MSat G w st.bx st.rw) {v : AV} {sz n : Nat} {el : Nat → List AV} {p : Prop} (h : st.asL v = some (sz, n, el, p)) (hp : p) {x : Value} (hx : v.rel G w x) : (AV.lst sz n el).rel G w x := by
  unfold ASt.asL at h
  split at h
  · simp only [Option.some.injEq, Prod.mk.injEq] at h
    obtain ⟨rfl, rfl, rfl, rfl⟩ := h
    exact hx
  · rename_i k m
    split at h
    · rename_i r hr
      simp only [Option.some.injEq, Prod.mk.injEq] at h
      obtain ⟨rfl, rfl, rfl, rfl⟩ := h
      subst hp
      obtain ⟨e, he, h1, h2⟩ := hx
      have ro := hm.row k r e hr he
      have hv := h2 ro.len
      subst hv
      obtain ⟨xs, ⟨ho1, ho2⟩, hel⟩ := ro.own
      rcases ho2 with ⟨ho, hn0⟩ | ⟨g, cap, cur, ho, hg, hh, hnc, hcm, hcs, hct⟩
      · rw [ho]
        exact ⟨none, 0, by rw [hn0], by omega, by unfold maxLen; omega, fun h => by omega⟩
      · rw [ho]
        refine ⟨_, cap, rfl, hnc, hcm, fun _ => ⟨g, 0, rfl, fun i hi => ?_⟩⟩
        obtain ⟨vs, h3, h4, h5⟩ := hel i hi
        refine ⟨vs, h3, h4, fun j u hj => ?_⟩
        have hjl : j < r.sz := by
          have := (List.getElem?_eq_some_iff.1 hj).1; omega
        have hlt : i * r.sz + j < r.n * r.sz := by
          have : (i + 1) * r.sz ≤ r.n * r.sz := Nat.mul_le_mul_right _ hi
          rw [Nat.add_mul] at this; omega
        refine ⟨(ro.imm g (by rw [ho]; rfl) _).2 (by omega), ?_⟩
        have h6 := h5 j u hj
        rw [← hct, List.getElem?_take, if_pos hlt] at h6
        simp only [World.cell?, hh, Nat.zero_add]
        simpa using h6
    · cases h
  · cases h

theorem evL_sound {xs : List Operand} {cs : List Bool} {vs : List AV} (hev : ∀ x ∈ xs, EvOk G w a st x) (h : st.evL xs = some (cs, vs)) (hc : ∀ c ∈ cs, c = true) : AV.relL G w vs (xs.map a.eval) := by
  induction xs generalizing cs vs with
  | nil => simp only [ASt.evL, Option.some.injEq, Prod.mk.injEq] at h; obtain ⟨rfl, rfl⟩ := h; rfl
  | cons x r ih =>
    simp only [ASt.evL] at h
    split at h
    · rename_i c v cs' vs' h1 h2
      simp only [Option.some.injEq, Prod.mk.injEq] at h
      obtain ⟨rfl, rfl⟩ := h
      exact ⟨_, _, rfl, hev x (by simp) c v h1 (hc c (by simp)), ih (fun y hy => hev y (by simp [hy])) h2 fun c hc' => hc c (by simp [hc'])⟩
    · cases h

theorem cutA_rel {agg : Bool} {sz off : Nat} {cs : List AV} {vs : List Value} (h : AV.relL G w cs vs) (h0 : 0 < sz) (hl : off + sz ≤ cs.length) :
    (cutA agg sz cs off).rel G w (bif agg then .agg ((vs.drop off).take sz).toArray else (vs[off]?).getD undef) := by
  unfold cutA
  cases agg
  · obtain ⟨v, h1, h2⟩ := AV.relL_get h (nthA_get (cs := cs) (k := off) (by omega))
    simp only [cond_false, h1, Option.getD_some]
    exact h2
  · simp only [cond_true]
    exact ⟨_, rfl, AV.relL_take _ (AV.relL_drop _ h)⟩

theorem load_run {t : Nat} {i : TI} (hi : TiOk P t i) {b o off : Nat} {vs : List Value} (h0 : 0 < i.size) (hl : off + i.size ≤ vs.length) (hc : ∀ j u, vs[j]? = some u → w.cell? ⟨b, o + j, none⟩ = some u) :
    (Instr.loadAt t (.pointer (some ⟨b, o + off, none⟩))).run P w = .ok (bif i.k.agg then .agg ((vs.drop off).take i.size).toArray else (vs[off]?).getD undef) w := by
  simp only [Instr.loadAt, Instr.sureAddr, loadVar, Sem.run_bind, Sem.run_pure, Result.andThen_ok, hi.agg_run w]
  cases hk : i.k.agg
  · have h1 : vs[off]? = some (vs[off]'(by omega)) := List.getElem?_eq_getElem (by omega)
    simp [load, Sem.run, hc off _ h1, h1]
  · have hcs := run_loadCells_list (P := P) (w := w) ⟨b, o + off, none⟩ ((vs.drop off).take i.size) (fun j v hj => by
      have hj' : vs[off + j]? = some v := by
        rw [List.getElem?_take] at hj
        split at hj
        · rwa [List.getElem?_drop] at hj
        · cases hj
      have := hc (off + j) v hj'
      unfold Addr.add
      by_cases hj0 : j = 0
      · subst hj0; simpa using this
      · rw [if_neg hj0]; simpa [Nat.add_assoc] using this)
    have hlen : ((vs.drop off).take i.size).length = i.size := by simp; omega
    rw [hlen] at hcs
    simp only [if_true, Sem.run_bind, hi.size_run w, Result.andThen_ok, hcs, Sem.run_pure, cond_true]

theorem fieldAt_run {t ft f : Nat} {fs : List (Nat × Nat)} {i j : TI} {fo : Nat} (hi : TiOk P t i) (hk : i.k = .struct fs) (hf : fs[f]? = some (fo, ft)) (hj : TiOk P ft j) (h0 : 0 < j.size) (b o : Nat) :
    (Instr.fieldAt t (.pointer (some ⟨b, o, none⟩)) f).run P w = .ok (.pointer (some ⟨b, o + fo, none⟩)) w := by
  obtain ⟨d, h1, h2, _⟩ := hi.und_run w
  rw [hk] at h2
  obtain ⟨A, rfl, hA⟩ := tkOf_struct h2
  have h3 : ∃ x, A[f]? = some x ∧ x.offset = fo ∧ x.type = ft := by
    rw [← hA, List.getElem?_map] at hf
    cases hx : A.toList[f]? with
    | none => rw [hx] at hf; cases hf
    | some x =>
      rw [hx] at hf
      simp only [Option.map_some, Option.some.injEq, Prod.mk.injEq] at hf
      exact ⟨x, by simpa using hx, hf.1, hf.2⟩
  obtain ⟨x, h4, h5, h6⟩ := h3
  subst h5
  subst h6
  have h7 : ((sizeOf x.type).run P w) = .ok j.size w := hj.size_run w
  simp only [Instr.fieldAt, Sem.run_bind, h1, Result.andThen_ok, h4, Instr.sureAddr, Sem.run_pure, fieldPlace, h7]
  rw [if_neg (by omega)]
  simp only [Sem.run_pure, Result.andThen_ok, Addr.add]
  by_cases h8 : x.offset = 0
  · simp [h8]
  · simp [h8]

theorem part_run {t : Nat} {i : TI} (hi : TiOk P t i) {off : Nat} {vs : List Value} (h0 : 0 < i.size) (hl : off + i.size ≤ vs.length) :
    (part t vs.toArray off).run P w = .ok (bif i.k.agg then .agg ((vs.drop off).take i.size).toArray else (vs[off]?).getD undef) w := by
  simp only [part, Sem.run_bind, hi.agg_run w, Result.andThen_ok]
  cases hk : i.k.agg
  · have h1 : vs[off]? = some (vs[off]'(by omega)) := List.getElem?_eq_getElem (by omega)
    simp [h1]
  · simp only [if_true, Sem.run_bind, hi.size_run w, Result.andThen_ok, Sem.run_pure, cond_true]
    congr 2
    simp [List.extract_eq_take_drop]

theorem field_run {t ft f : Nat} {fs : List (Nat × Nat)} {i j : TI} {fo : Nat} (hi : TiOk P t i) (hk : i.k = .struct fs) (hf : fs[f]? = some (fo, ft)) (hj : TiOk P ft j) (h0 : 0 < j.size) {vs : List Value} (hl : fo + j.size ≤ vs.length) :
    (Instr.field t (.agg vs.toArray) f).run P w = .ok (bif j.k.agg then .agg ((vs.drop fo).take j.size).toArray else (vs[fo]?).getD undef) w := by
  obtain ⟨d, h1, h2, _⟩ := hi.und_run w
  rw [hk] at h2
  obtain ⟨A, rfl, hA⟩ := tkOf_struct h2
  have h3 : ∃ x, A[f]? = some x ∧ x.offset = fo ∧ x.type = ft := by
    rw [← hA, List.getElem?_map] at hf
    cases hx : A.toList[f]? with
    | none => rw [hx] at hf; cases hf
    | some x =>
      rw [hx] at hf
      simp only [Option.map_some, Option.some.injEq, Prod.mk.injEq] at hf
      exact ⟨x, by simpa using hx, hf.1, hf.2⟩
  obtain ⟨x, h4, h5, h6⟩ := h3
  subst h5
  subst h6
  simp only [Instr.field, Sem.run_bind, h1, Result.andThen_ok, h4, asAgg, Sem.run_pure]
  exact part_run hj h0 hl

theorem indexAt_run {t e : Nat} {i j : TI} (hi : TiOk P t i) (hk : i.k = .slice e) (hj : TiOk P e j) {b o n cap : Nat} {k : IntKind} {x : Int} (h0 : 0 ≤ x) (h1 : x < n) :
    (Instr.indexAt t (.slice (some ⟨b, o, none⟩) n cap) (.int k x)).run P w = .ok (.pointer (some ⟨b, o + x.toNat * j.size, none⟩)) w := by
  obtain ⟨d, h2, h3, _⟩ := hi.und_run w
  rw [hk] at h3
  have := tkOf_slice h3
  subst this
  simp only [Instr.indexAt, Sem.run_bind, asIntOf, Sem.run_pure, Result.andThen_ok, h2]
  rw [if_pos ⟨h0, h1⟩]
  simp only [Sem.run_bind, hj.size_run w, Result.andThen_ok, Sem.run_pure, Addr.add]
  by_cases h8 : x.toNat * j.size = 0
  · rw [if_pos h8, h8]; rfl
  · rw [if_neg h8]

theorem indexArr_run {t e m : Nat} {i j : TI} (hi : TiOk P t i) (hk : i.k = .array m e) (hj : TiOk P e j) {b o : Nat} {k : IntKind} {x : Int} (h0 : 0 ≤ x) (h1 : x < m) :
    (Instr.indexAt t (.pointer (some ⟨b, o, none⟩)) (.int k x)).run P w = .ok (.pointer (some ⟨b, o + x.toNat * j.size, none⟩)) w := by
  obtain ⟨d, h2, h3, _⟩ := hi.und_run w
  rw [hk] at h3
  have := tkOf_array h3
  subst this
  have hs : (Instr.sureAddr (.pointer (some ⟨b, o, none⟩))).run P w = .ok ⟨b, o, none⟩ w := rfl
  simp only [Instr.indexAt, Sem.run_bind, asIntOf, Sem.run_pure, Result.andThen_ok, h2, hs]
  rw [if_pos ⟨h0, h1⟩]
  simp only [Sem.run_bind, hj.size_run w, Result.andThen_ok, Sem.run_pure, Addr.add]
  by_cases h8 : x.toNat * j.size = 0
  · rw [if_pos h8, h8]; rfl
  · rw [if_neg h8]
theorem index_run {t e m : Nat} {i j : TI} (hi : TiOk P t i) (hk : i.k = .array m e) (hj : TiOk P e j) {vs : List Value} {k : IntKind} {x : Int} (h0 : 0 ≤ x) (h1 : x < m) (hz : 0 < j.size) (hl : x.toNat * j.size + j.size ≤ vs.length) :
    (Instr.index t (.agg vs.toArray) (.int k x)).run P w = .ok (bif j.k.agg then .agg ((vs.drop (x.toNat * j.size)).take j.size).toArray else (vs[x.toNat * j.size]?).getD undef) w := by
  obtain ⟨d, h2, h3, _⟩ := hi.und_run w
  rw [hk] at h3
  have := tkOf_array h3
  subst this
  simp only [Instr.index, Sem.run_bind, asIntOf, Sem.run_pure, Result.andThen_ok, h2]
  rw [if_pos ⟨h0, h1⟩]
  simp only [Sem.run_bind, hj.size_run w, Result.andThen_ok]
  exact part_run hj hz hl
theorem indexStr_run {t : Nat} {i : TI} (hi : TiOk P t i) (hk : i.k = .str) {s : ByteArray} {k : IntKind} {x : Int} (h0 : 0 ≤ x) (h1 : x < s.size) :
    (Instr.index t (.string s) (.int k x)).run P w = .ok (.int .u8 (byteA s x.toNat)) w := by
  obtain ⟨d, h2, h3, _⟩ := hi.und_run w
  rw [hk] at h3
  have := tkOf_str h3
  subst this
  simp only [Instr.index, Sem.run_bind, asIntOf, Sem.run_pure, Result.andThen_ok, h2]
  have hlt : x.toNat < s.size := by omega
  rw [if_pos h0, getElem?_pos s x.toNat hlt]
  simp only [Sem.run_pure, byteA]
  have : s.data.toList.getD x.toNat 0 = s[x.toNat] := by
    have h9 : x.toNat < s.data.toList.length := by simpa using hlt
    rw [List.getD_eq_getElem?_getD, List.getElem?_eq_getElem h9]; rfl
  rw [this]
theorem eqA2_sound (hT : TOk P T) {op : BinOp} {v v' r : AV} {p : Prop} {t : TypeId} (h : eqA2 op T t v v' = some (r, p)) (hp : p) {x y : Value} (hx : v.rel G w x) (hy : v'.rel G w y) (ox oy : Operand) :
    ∃ u, (do eqGuard op t ox oy x y; binOp op t x y : Sem Value).run P w = .ok u w ∧ r.rel G w u := by
  unfold eqA2 at h
  split at h
  · rename_i m n
    rw [rel_raw hx, rel_raw hy]
    split at h
    · rename_i h1
      have hu : P.underlying t = some .bool := by
        obtain ⟨d, e1, e2⟩ := (hT _ _ h1).und_some
        rw [e1, tkOf_bool e2]
      simp only [Sem.run_bind, eqGuard_bool, Result.andThen_ok]
      split at h
      · rename_i r' h2
        simp only [Option.some.injEq, Prod.mk.injEq] at h
        obtain ⟨rfl, rfl⟩ := h
        unfold negIf at h2
        have e3 := run_equalIn_bool' w 9999 t m n hu
        have e4 : (m == n) = decide (m = n) := by rw [Bool.eq_iff_iff]; simp
        split at h2
        · cases h2
          refine ⟨_, ?_, rfl⟩
          simp only [binOp, Sem.run_bind, Op.equal, Op.maxDepth, e3, Result.andThen_ok, Sem.run_pure, e4]
        · cases h2
          refine ⟨_, ?_, rfl⟩
          simp only [binOp, Sem.run_bind, Op.equal, Op.maxDepth, e3, Result.andThen_ok, Sem.run_pure, e4]
        · cases h2
      · cases h
    · cases h
  · rename_i xs ys
    split at h
    · rename_i i h1
      cases hem : i.eq.isEmpty
      · rw [hem] at h
        simp only [cond_false] at h
        split at h
        · rename_i c q h2
          split at h
          · rename_i r' h3
            simp only [Option.some.injEq, Prod.mk.injEq] at h
            obtain ⟨rfl, rfl⟩ := h
            obtain ⟨hq, hagg⟩ := hp
            obtain ⟨vs, rfl, e1⟩ := hx
            obtain ⟨us, rfl, e2⟩ := hy
            have e3 := eqC_sound h2 hq e1 e2
            have e4 := (hT _ _ h1).eq
            rw [hem] at e4
            simp only [Bool.false_or, Bool.and_eq_true, decide_eq_true_eq, Bool.not_eq_true'] at e4
            have ha : aggT P t = true := by
              obtain ⟨d, e5, e6⟩ := (hT _ _ h1).und_some
              rw [aggT, e5]; simp only [e6, hagg]
            have e7 := (eqKs_sound 30 t i.eq e4.1).2 10000 vs us c w (by omega) e3
            rw [ha] at e7
            simp only [valOf, cond_true] at e7
            simp only [Sem.run_bind, run_eqGuard_agg w op t ox oy vs.toArray us.toArray e4.2, Result.andThen_ok]
            unfold negIf at h3
            split at h3
            · cases h3
              exact ⟨_, by rw [run_eql_struct, e7]; rfl, rfl⟩
            · cases h3
              exact ⟨_, by rw [run_neq_struct, e7]; rfl, rfl⟩
            · cases h3
          · cases h
        · cases h
      · rw [hem] at h; cases h
    · cases h
  · cases h

theorem len_slice_run {t : Nat} {i : TI} {e : Nat} (hi : TiOk P t i) (hk : i.k = .slice e) (A : Option Addr) (n cap ty : Nat) :
    (Builtin.len_ #[t] ty #[.slice A n cap]).run P w = .ok (.int .i64 n) w := by
  obtain ⟨d, h2, h3, _⟩ := hi.und_run w
  rw [hk] at h3
  have := tkOf_slice h3
  subst this
  simp [Builtin.len_, h2, goInt]
theorem len_str_run {t : Nat} {i : TI} (hi : TiOk P t i) (hk : i.k = .str) (s : ByteArray) (ty : Nat) :
    (Builtin.len_ #[t] ty #[.string s]).run P w = .ok (.int .i64 s.size) w := by
  obtain ⟨d, h2, h3, _⟩ := hi.und_run w
  rw [hk] at h3
  have := tkOf_str h3
  subst this
  simp [Builtin.len_, h2, goInt]

theorem lenA_sound (hT : TOk P T) (hm : MSat G w st.bx st.rw) {t ty : Nat} {v r : AV} {p : Prop} (h : lenA T st t v = some (r, p)) (hp : p) {x : Value} (hx : v.rel G w x) :
    ∃ u, (Builtin.len_ #[t] ty #[x]).run P w = .ok u w ∧ r.rel G w u := by
  unfold lenA at h
  split at h
  · split at h
    · rename_i hl
      simp only [Option.some.injEq, Prod.mk.injEq] at h
      obtain ⟨rfl, rfl⟩ := h
      rw [rel_raw hx]
      exact ⟨_, len_str_run (hT _ _ hl) rfl _ _, rfl⟩
    · cases h
  · split at h
    · rename_i hl
      simp only [Option.some.injEq, Prod.mk.injEq] at h
      obtain ⟨rfl, rfl⟩ := h
      rw [rel_raw hx]
      exact ⟨_, len_slice_run (hT _ _ hl) rfl _ _ _ _, rfl⟩
    · cases h
  · split at h
    · rename_i hl1 hl2
      simp only [Option.some.injEq, Prod.mk.injEq] at h
      obtain ⟨rfl, rfl⟩ := h
      obtain ⟨A, cap, rfl, _⟩ := asL_sound hm hl1 hp hx
      exact ⟨_, len_slice_run (hT _ _ hl2) rfl _ _ _ _, rfl⟩
    · cases h

theorem min_run (k k' : IntKind) (x y : Int) (ts : Array TypeId) (ty : TypeId) : (Builtin.min_ ts ty #[.int k x, .int k' y]).run P w = .ok (.int k (min x y)) w := by
  simp only [Builtin.min_, List.foldlM, Builtin.min2, Sem.run_bind, Sem.run_pure, Result.andThen_ok]
  congr 2; split <;> omega
theorem max_run (k k' : IntKind) (x y : Int) (ts : Array TypeId) (ty : TypeId) : (Builtin.max_ ts ty #[.int k x, .int k' y]).run P w = .ok (.int k (max x y)) w := by
  simp only [Builtin.max_, List.foldlM, Builtin.max2, Sem.run_bind, Sem.run_pure, Result.andThen_ok]
  congr 2; split <;> omega

theorem fold_put' {off : Nat} : ∀ (us done cs : List Value), off + done.length + us.length ≤ cs.length → ((us.zipIdx done.length).foldl (fun (cs : Array Value) (q : Value × Nat) => cs.setIfInBounds (off + q.2) q.1) (putL cs off done).toArray) = (putL cs off (done ++ us)).toArray
  | [], done, cs, _ => by simp
  | u :: us, done, cs, h => by
    simp only [List.length_cons] at h
    have ih := fold_put' (off := off) us (done ++ [u]) cs (by simp; omega)
    simp only [List.zipIdx_cons, List.foldl_cons]
    rw [show done ++ u :: us = (done ++ [u]) ++ us from by simp, ← ih, putL_snoc (cs := cs) (n := off) (us := done) (u := u) (by omega)]
    simp
theorem fold_put {off : Nat} (us cs : List Value) (h : off + us.length ≤ cs.length) : (us.toArray.zipIdx.foldl (fun (cs : Array Value) (q : Value × Nat) => cs.setIfInBounds (off + q.2) q.1) cs.toArray) = (putL cs off us).toArray := by
  have h0 : ∀ (n : Nat) (l : List Value), putL l n ([] : List Value) = l := by
    intro n; induction n with
    | zero => intro l; cases l <;> rfl
    | succ n ih => intro l; cases l <;> simp [putL, ih]
  have := fold_put' (off := off) us [] cs (by simpa using h)
  rw [h0] at this
  rw [← Array.foldl_toList, Array.toList_zipIdx]
  exact this
theorem fillA_sound (hm : MSat G w st.bx st.rw) {place : Nat → Option (Nat × Nat)} : ∀ (parts : List (Nat × Operand)) (cs cs' : List AV) (vs : List Value) (gs : List Bool) (p : Prop), (∀ q ∈ parts, EvOk G w a st q.2) → fillA st place parts cs = some (gs, cs', p) → (∀ c ∈ gs, c = true) → p → AV.relL G w cs vs →
    ∃ us : List Value, Instr.fill place vs.toArray (parts.map fun q => (q.1, a.eval q.2)) = some us.toArray ∧ AV.relL G w cs' us
  | [], cs, cs', vs, gs, p, _, h, _, _, hr => by
    simp only [fillA, Option.some.injEq, Prod.mk.injEq] at h
    obtain ⟨_, rfl, _⟩ := h
    exact ⟨vs, rfl, hr⟩
  | q :: r, cs, cs', vs, gs, p, hev, h, hc, hp, hr => by
    simp only [fillA] at h
    split at h
    · rename_i off sz g v h1 h2
      split at h
      · rename_i gs' cs2 p' h3
        simp only [Option.some.injEq, Prod.mk.injEq] at h
        obtain ⟨rfl, rfl, rfl⟩ := h
        have e1 := hev q (by simp) _ _ h2 (hc g (by simp))
        have e2 := cells_rel hp.1.1 hm e1
        have hl := AV.relL_length e2
        have hl2 := AV.relL_length hr
        have hsz : (a.eval q.2).cells.size = sz := by rw [← hp.1.2.1, ← hl]; simp
        obtain ⟨us, e3, e4⟩ := fillA_sound hm r _ _ _ _ _ (fun q hq => hev q (by simp [hq])) h3 (fun c hc' => hc c (by simp [hc'])) hp.2 (relL_put (n := off) hr e2)
        refine ⟨us, ?_, e4⟩
        simp only [List.map_cons, Instr.fill, h1]
        have hp2 := hp.1.2.2
        rw [if_neg (by simp [hsz]; omega)]
        have := fold_put (off := off) (a.eval q.2).cells.toList vs (by simp only [Array.length_toList]; omega)
        rw [show (a.eval q.2).cells.toList.toArray = (a.eval q.2).cells from by simp] at this
        rw [this]; exact e3
      · cases h
    · cases h
theorem placesA_sound (hT : TOk P T) : ∀ (fs : List Field) (ps : List (Nat × Nat)), placesA T (fs.map fun f => (f.offset, f.type)) = some ps → fs.mapM (fun f => (P.info? f.type).map fun i => (f.offset, i.size)) = some ps
  | [], ps, h => by simpa [placesA] using h
  | f :: fs, ps, h => by
    simp only [List.map_cons, placesA] at h
    split at h
    · rename_i j ps' h1 h2
      simp only [Option.some.injEq] at h
      subst h
      obtain ⟨x, _, e1, _, e2⟩ := (hT _ _ h1).bytes_run default
      simp [e2, placesA_sound hT fs ps' h2, e1]
    · cases h
theorem build_run {t : Nat} {i : TI} (hi : TiOk P t i) {parts : Array (Nat × Value)} {us : List Value}
    (h : (∃ fs ps, i.k = .struct fs ∧ (∀ l : List Field, l.map (fun f => (f.offset, f.type)) = fs → l.mapM (fun f => (P.info? f.type).map fun i => (f.offset, i.size)) = some ps) ∧ Instr.fill (fun k => ps[k]?) i.zero.toArray parts.toList = some us.toArray) ∨
      (∃ n e j, i.k = .array n e ∧ TiOk P e j ∧ Instr.fill (fun k => some (k * j.size, j.size)) i.zero.toArray parts.toList = some us.toArray)) : (Instr.build t parts).run P w = .ok (.agg us.toArray) w := by
  refine run_build w t parts us.toArray ?_
  obtain ⟨d, h1, h2⟩ := hi.und_some
  have h3 := hi.info
  unfold Program.built
  cases hit : P.info? t with
  | none => rw [hit] at h3; cases h3
  | some it =>
    rw [hit] at h3
    simp only [Option.map_some, Option.some.injEq, Prod.mk.injEq] at h3
    cases hz : it.zero with
    | none => rw [hz] at h3; cases h3.1
    | some z =>
      rw [hz] at h3
      simp only [Option.map_some, Option.some.injEq] at h3
      have hzz : z.cells = i.zero.toArray := by rw [← h3.1]
      rcases h with ⟨fs, ps, e1, e2, e3⟩ | ⟨n, e, j, e1, e2, e3⟩
      · rw [e1] at h2
        obtain ⟨A, rfl, hA⟩ := tkOf_struct h2
        simp only [h1, hz, e2 A.toList hA, hzz]
        rw [← e3]
        first | done | rfl | (congr 1; funext k; simp)
      · rw [e1] at h2
        have := tkOf_array h2
        subst this
        obtain ⟨x, _, q1, _, q2⟩ := e2.bytes_run default
        simp only [h1, hz, q2, hzz, q1]
        exact e3
theorem opA_sound (hT : TOk P T) (hm : MSat G w st.bx st.rw) {o : Oper} (hev : ∀ x ∈ o.op.operands.toList, EvOk G w a st x) {cs : List Bool} {r : AV} {p : Prop}
    (h : opA T st o.op = some (cs, r, p)) (hc : ∀ c ∈ cs, c = true) (hp : p) : ∃ v, (execOp a.eval o).run P w = .ok (.value v) w ∧ r.rel G w v := by
  obtain ⟨dst, op, type, pos, after, guard⟩ := o
  simp only at h hev
  cases op with
  | move x =>
    simp only [opA] at h
    split at h
    · rename_i g v he
      simp only [Option.some.injEq, Prod.mk.injEq] at h
      obtain ⟨rfl, rfl, rfl⟩ := h
      exact ⟨a.eval x, by simp [execOp], hev x (by simp [Op.operands]) _ _ he (hc g (by simp))⟩
    · cases h
  | assign x =>
    simp only [opA] at h
    split at h
    · rename_i g v he
      simp only [Option.some.injEq, Prod.mk.injEq] at h
      obtain ⟨rfl, rfl, rfl⟩ := h
      exact ⟨a.eval x, by simp [execOp], hev x (by simp [Op.operands]) _ _ he (hc g (by simp))⟩
    · cases h
  | pick c x y =>
    simp only [opA] at h
    split at h
    · rename_i gc vc ga va gb vb h1 h2 h3
      simp only [Option.some.injEq, Prod.mk.injEq] at h
      obtain ⟨rfl, rfl, rfl⟩ := h
      have e1 := rel_raw (hev c (by simp [Op.operands]) _ _ h1 (hc gc (by simp)))
      cases vc
      · have e3 := rel_raw (hev y (by simp [Op.operands]) _ _ h3 (hp.2 rfl))
        exact ⟨_, by simp only [execOp, e1, asBool]; simp; rfl, by simp only [AV.rel]; exact e3⟩
      · have e2 := rel_raw (hev x (by simp [Op.operands]) _ _ h2 (hp.1 rfl))
        exact ⟨_, by simp only [execOp, e1, asBool]; simp; rfl, by simp only [AV.rel]; exact e2⟩
    · cases h
  | load t x =>
    simp only [opA] at h
    split at h
    · rename_i g cs' off i h1 h2
      simp only [Option.some.injEq, Prod.mk.injEq] at h
      obtain ⟨rfl, rfl, rfl⟩ := h
      obtain ⟨b, o, vs, e1, e2, e3⟩ := hev x (by simp [Op.operands]) _ _ h1 (hc g (by simp))
      have hl := AV.relL_length e2
      refine ⟨_, ?_, cutA_rel e2 hp.1 hp.2⟩
      simp only [execOp, e1, Sem.run_bind]
      rw [load_run (hT _ _ h2) hp.1 (by omega) (fun j u hj => (e3 j u hj).2)]
      rfl
    · rename_i g b off i h1 h2
      split at h
      · rename_i cs' h3
        simp only [Option.some.injEq, Prod.mk.injEq] at h
        obtain ⟨rfl, rfl, rfl⟩ := h
        obtain ⟨blk, e1, e2⟩ := hev x (by simp [Op.operands]) _ _ h1 (hc g (by simp))
        obtain ⟨_, vs, E, e3, e4⟩ := hm.box _ _ _ h3 e1
        have hl := AV.relL_length e4
        refine ⟨_, ?_, cutA_rel e4 hp.1 hp.2⟩
        simp only [execOp, e2, Sem.run_bind]
        have := load_run (P := P) (w := w) (hT _ _ h2) (b := blk) (o := 0) (off := off) (vs := vs) hp.1 (by omega) (fun j u hj => by simpa [World.cell?, e3] using hj)
        rw [Nat.zero_add] at this
        rw [this]
        rfl
      · cases h
    · cases h
  | fieldAddr s x f =>
    simp only [opA] at h
    split at h
    · rename_i g cs' off fs _ _ _ _ h1 h2
      split at h
      · rename_i fo ft h3
        split at h
        · rename_i j h4
          simp only [Option.some.injEq, Prod.mk.injEq] at h
          obtain ⟨rfl, rfl, rfl⟩ := h
          obtain ⟨b, o, vs, e1, e2, e3⟩ := hev x (by simp [Op.operands]) _ _ h1 (hc g (by simp))
          refine ⟨.pointer (some ⟨b, o + (off + fo), none⟩), ?_, b, o, vs, rfl, e2, e3⟩
          simp only [execOp, e1, Sem.run_bind]
          rw [fieldAt_run (hT _ _ h2) rfl h3 (hT _ _ h4) hp, ← Nat.add_assoc]
          rfl
        · cases h
      · cases h
    · rename_i g b off fs _ _ _ _ h1 h2
      split at h
      · rename_i fo ft h3
        split at h
        · rename_i j h4
          simp only [Option.some.injEq, Prod.mk.injEq] at h
          obtain ⟨rfl, rfl, rfl⟩ := h
          obtain ⟨blk, e1, e2⟩ := hev x (by simp [Op.operands]) _ _ h1 (hc g (by simp))
          refine ⟨.pointer (some ⟨blk, off + fo, none⟩), ?_, blk, e1, rfl⟩
          simp only [execOp, e2, Sem.run_bind]
          rw [fieldAt_run (hT _ _ h2) rfl h3 (hT _ _ h4) hp]
          rfl
        · cases h
      · cases h
    · cases h
  | field s x f =>
    simp only [opA] at h
    split at h
    · rename_i g cs' fs _ _ _ _ h1 h2
      split at h
      · rename_i fo ft h3
        split at h
        · rename_i j h4
          simp only [Option.some.injEq, Prod.mk.injEq] at h
          obtain ⟨rfl, rfl, rfl⟩ := h
          obtain ⟨vs, e1, e2⟩ := hev x (by simp [Op.operands]) _ _ h1 (hc g (by simp))
          have hl := AV.relL_length e2
          refine ⟨_, ?_, cutA_rel e2 hp.1 hp.2⟩
          simp only [execOp, e1, Sem.run_bind]
          rw [field_run (hT _ _ h2) rfl h3 (hT _ _ h4) hp.1 (by omega)]
          rfl
        · cases h
      · cases h
    · cases h
  | indexAddr t x ix =>
    simp only [opA] at h
    split at h
    · rename_i e _ _ _ _ h4
      split at h
      · rename_i g v g' k i h1 h2
        split at h
        · rename_i sz n el q j h3 h5
          simp only [Option.some.injEq, Prod.mk.injEq] at h
          obtain ⟨rfl, rfl, rfl⟩ := h
          obtain ⟨p1, p2, p3, p4⟩ := hp
          obtain ⟨A, cap, e1, _, _, e2⟩ := asL_sound hm h3 p4 (hev x (by simp [Op.operands]) _ _ h1 (hc g (by simp)))
          have e3 := rel_raw (hev ix (by simp [Op.operands]) _ _ h2 (hc g' (by simp)))
          obtain ⟨b, o, rfl, e4⟩ := e2 (by omega)
          obtain ⟨vs, e5, e6, e7⟩ := e4 i.toNat (by omega)
          refine ⟨.pointer (some ⟨b, o + i.toNat * sz, none⟩), ?_, b, o + i.toNat * sz, vs, rfl, e5, e7⟩
          simp only [execOp, e1, e3, Sem.run_bind]
          rw [indexAt_run (hT _ _ h4) rfl (hT _ _ h5) p1 p2, p3]
          rfl
        · cases h
      · cases h
    · rename_i m e _ _ _ _ h4
      split at h
      · rename_i g cs' off g' k i j h1 h2 h3
        simp only [Option.some.injEq, Prod.mk.injEq] at h
        obtain ⟨rfl, rfl, rfl⟩ := h
        obtain ⟨b, o, vs, e1, e2, e3⟩ := hev x (by simp [Op.operands]) _ _ h1 (hc g (by simp))
        have e4 := rel_raw (hev ix (by simp [Op.operands]) _ _ h2 (hc g' (by simp)))
        refine ⟨.pointer (some ⟨b, o + (off + i.toNat * j.size), none⟩), ?_, b, o, vs, rfl, e2, e3⟩
        simp only [execOp, e1, e4, Sem.run_bind]
        rw [indexArr_run (hT _ _ h4) rfl (hT _ _ h3) hp.1 hp.2, ← Nat.add_assoc]
        rfl
      · rename_i g b off g' k i j h1 h2 h3
        simp only [Option.some.injEq, Prod.mk.injEq] at h
        obtain ⟨rfl, rfl, rfl⟩ := h
        obtain ⟨blk, e1, e2⟩ := hev x (by simp [Op.operands]) _ _ h1 (hc g (by simp))
        have e4 := rel_raw (hev ix (by simp [Op.operands]) _ _ h2 (hc g' (by simp)))
        refine ⟨.pointer (some ⟨blk, off + i.toNat * j.size, none⟩), ?_, blk, e1, rfl⟩
        simp only [execOp, e2, e4, Sem.run_bind]
        rw [indexArr_run (hT _ _ h4) rfl (hT _ _ h3) hp.1 hp.2]
        rfl
      · cases h
    · cases h
  | index t x ix =>
    simp only [opA] at h
    split at h
    · rename_i m e _ _ _ _ h4
      split at h
      · rename_i g cs' g' k i j h1 h2 h3
        simp only [Option.some.injEq, Prod.mk.injEq] at h
        obtain ⟨rfl, rfl, rfl⟩ := h
        obtain ⟨vs, e1, e2⟩ := hev x (by simp [Op.operands]) _ _ h1 (hc g (by simp))
        have e4 := rel_raw (hev ix (by simp [Op.operands]) _ _ h2 (hc g' (by simp)))
        have hl := AV.relL_length e2
        refine ⟨_, ?_, cutA_rel e2 hp.2.1 hp.2.2⟩
        simp only [execOp, e1, e4, Sem.run_bind]
        rw [index_run (hT _ _ h4) rfl (hT _ _ h3) hp.1.1 hp.1.2 hp.2.1 (by rw [hl]; exact hp.2.2)]
        rfl
      · cases h
    · rename_i h4
      split at h
      · rename_i g s g' k i h1 h2
        simp only [Option.some.injEq, Prod.mk.injEq] at h
        obtain ⟨rfl, rfl, rfl⟩ := h
        have e1 := rel_raw (hev x (by simp [Op.operands]) _ _ h1 (hc g (by simp)))
        have e4 := rel_raw (hev ix (by simp [Op.operands]) _ _ h2 (hc g' (by simp)))
        refine ⟨_, ?_, rfl⟩
        simp only [execOp, e1, e4, Sem.run_bind]
        rw [indexStr_run (hT _ _ h4) rfl hp.1 hp.2]
        rfl
      · cases h
    · cases h
  | convert s t x =>
    simp only [opA] at h
    split at h
    · rename_i i k _ _ _ _ h1 h2
      split at h
      · rename_i g k' n h3
        simp only [Option.some.injEq, Prod.mk.injEq] at h
        obtain ⟨rfl, rfl, rfl⟩ := h
        have e1 := rel_raw (hev x (by simp [Op.operands]) _ _ h3 (hc g (by simp)))
        obtain ⟨d, e2, e3⟩ := (hT _ _ h2).und_some
        have e4 : P.intKind t = k := by simp [Program.intKind, e2, tkOf_int e3]
        obtain ⟨d', e5, _⟩ := (hT _ _ h1).und_some
        have e6 := run_convert_int (P := P) w s t k' n (by rw [e5]; rfl) (by rw [e2, tkOf_int e3, e4])
        refine ⟨.int k (k.wrap n), ?_, ?_⟩
        · simp only [execOp, e1, Sem.run_bind, e6, e4]
          rfl
        · simp only [AV.rel]
          unfold wrapA
          unfold wrapP at hp
          split <;> first | rfl | (rw [inK_wrap hp])
      · cases h
    · cases h
  | binOp op t x y t' =>
    simp only [opA] at h
    split at h
    · rename_i g v g' v' h1 h2
      split at h
      · rename_i r' q h3
        simp only [Option.some.injEq, Prod.mk.injEq] at h
        obtain ⟨rfl, rfl, rfl⟩ := h
        obtain ⟨u, e1, e2⟩ := binA_sound (P := P) h3 hp (hev x (by simp [Op.operands]) _ _ h1 (hc g (by simp))) (hev y (by simp [Op.operands]) _ _ h2 (hc g' (by simp))) t x y
        refine ⟨u, ?_, e2⟩
        simp only [execOp, Sem.run_bind] at e1 ⊢
        rw [e1]
        rfl
      · split at h
        · rename_i r' q h3
          simp only [Option.some.injEq, Prod.mk.injEq] at h
          obtain ⟨rfl, rfl, rfl⟩ := h
          obtain ⟨u, e1, e2⟩ := eqA2_sound hT h3 hp (hev x (by simp [Op.operands]) _ _ h1 (hc g (by simp))) (hev y (by simp [Op.operands]) _ _ h2 (hc g' (by simp))) x y
          refine ⟨u, ?_, e2⟩
          simp only [execOp, Sem.run_bind] at e1 ⊢
          rw [e1]
          rfl
        · cases h
    · cases h
  | unOp op t x =>
    simp only [opA] at h
    split at h
    · rename_i g v h1
      split at h
      · rename_i r' q h3
        simp only [Option.some.injEq, Prod.mk.injEq] at h
        obtain ⟨rfl, rfl, rfl⟩ := h
        obtain ⟨u, e1, e2⟩ := unA_sound (P := P) h3 hp (hev x (by simp [Op.operands]) _ _ h1 (hc g (by simp)))
        refine ⟨u, ?_, e2⟩
        simp only [execOp, Sem.run_bind, e1]
        rfl
      · cases h
    · cases h
  | extract x i =>
    simp only [opA] at h
    split at h
    · rename_i g vs h1
      simp only [Option.some.injEq, Prod.mk.injEq] at h
      obtain ⟨rfl, rfl, rfl⟩ := h
      obtain ⟨us, e1, e2⟩ := hev x (by simp [Op.operands]) _ _ h1 (hc g (by simp))
      obtain ⟨v, e3, e4⟩ := AV.relL_get e2 (nthA_get hp)
      refine ⟨v, ?_, e4⟩
      simp [execOp, e1, Instr.extract, e3]
    · cases h
  | call c =>
    obtain ⟨callee, args, argTypes⟩ := c
    obtain ⟨args⟩ := args
    obtain ⟨argTypes⟩ := argTypes
    cases callee with
    | builtin b =>
      cases b <;> simp only [opA, reduceCtorEq] at h
      case len =>
        split at h
        · split at h
          · rename_i g v h3
            split at h
            · rename_i r' q h4
              simp only [Option.some.injEq, Prod.mk.injEq] at h
              obtain ⟨rfl, rfl, rfl⟩ := h
              obtain ⟨u, e1, e2⟩ := lenA_sound (ty := type) hT hm h4 hp (hev _ (by simp [Op.operands, Call.operands]) _ _ h3 (hc g (by simp)))
              refine ⟨u, ?_, e2⟩
              simp [execOp, resolve, invoke, builtin, e1]
            · cases h
          · cases h
        · cases h
      case min =>
        split at h
        · rename_i cs' vs h1
          split at h
          · rename_i r' q h2
            simp only [Option.some.injEq, Prod.mk.injEq] at h
            obtain ⟨rfl, rfl, rfl⟩ := h
            have e1 := evL_sound (fun x hx => hev x (by simp [Op.operands, Call.operands]; exact hx)) h1 hc
            unfold minA at h2
            split at h2
            · simp only [Option.some.injEq, Prod.mk.injEq] at h2
              obtain ⟨rfl, rfl⟩ := h2
              obtain ⟨v1, r1, e2, e3, v2, r2, e4, e5, e6⟩ := e1
              rw [rel_raw e3] at e2
              rw [rel_raw e5, show r2 = [] from e6] at e4
              rw [e4] at e2
              refine ⟨_, ?_, rfl⟩
              simp [execOp, resolve, invoke, builtin, e2, min_run]
            · cases h2
          · cases h
        · cases h
      case max =>
        split at h
        · rename_i cs' vs h1
          split at h
          · rename_i r' q h2
            simp only [Option.some.injEq, Prod.mk.injEq] at h
            obtain ⟨rfl, rfl, rfl⟩ := h
            have e1 := evL_sound (fun x hx => hev x (by simp [Op.operands, Call.operands]; exact hx)) h1 hc
            unfold maxA at h2
            split at h2
            · simp only [Option.some.injEq, Prod.mk.injEq] at h2
              obtain ⟨rfl, rfl⟩ := h2
              obtain ⟨v1, r1, e2, e3, v2, r2, e4, e5, e6⟩ := e1
              rw [rel_raw e3] at e2
              rw [rel_raw e5, show r2 = [] from e6] at e4
              rw [e4] at e2
              refine ⟨_, ?_, rfl⟩
              simp [execOp, resolve, invoke, builtin, e2, max_run]
            · cases h2
          · cases h
        · cases h
    | _ => simp only [opA, reduceCtorEq] at h
  | makeFunc f first cap =>
    obtain ⟨first⟩ := first
    obtain ⟨cap⟩ := cap
    simp only [opA] at h
    split at h
    · rename_i c1 v1 c2 v2 h1 h2
      simp only [Option.some.injEq, Prod.mk.injEq] at h
      obtain ⟨rfl, rfl, rfl⟩ := h
      have e1 := evL_sound (fun x hx => hev x (by simp [Op.operands] at hx ⊢; exact .inl hx)) h1 fun c hc' => hc c (by simp [hc'])
      have e2 := evL_sound (fun x hx => hev x (by simp [Op.operands] at hx ⊢; exact .inr hx)) h2 fun c hc' => hc c (by simp [hc'])
      exact ⟨.func f (first.map a.eval).toArray (cap.map a.eval).toArray, by simp [execOp, Instr.makeFunc], _, _, rfl, e1, e2⟩
    · cases h
  | build t parts =>
    simp only [opA] at h
    have zr : ∀ z : List Value, AV.relL G w (z.map .raw) z := fun z => AV.relL_mk (by simp) fun j x v hx hv => by
      rw [List.getElem?_map, hv] at hx
      simp only [Option.map_some, Option.some.injEq] at hx
      subst hx; rfl
    have hev' : ∀ q ∈ parts.toList, EvOk G w a st q.2 := fun q hq => hev q.2 (by simp [Op.operands]; exact ⟨q.1, by simpa using hq⟩)
    split at h
    · rename_i fs _ _ z _ h1
      split at h
      · rename_i ps h2
        split at h
        · rename_i gs cs' p' h3
          simp only [Option.some.injEq, Prod.mk.injEq] at h
          obtain ⟨rfl, rfl, rfl⟩ := h
          obtain ⟨us, e1, e2⟩ := fillA_sound (a := a) hm _ _ _ _ _ _ hev' h3 hc hp (zr z)
          refine ⟨.agg us.toArray, ?_, us, rfl, e2⟩
          have := build_run (w := w) (hT _ _ h1) (parts := parts.map fun q => (q.1, a.eval q.2)) (us := us) (.inl ⟨fs, ps, rfl, fun l hl => placesA_sound hT l ps (by rw [hl]; exact h2), by simpa using e1⟩)
          simp only [execOp, Sem.run_bind, this]
          rfl
        · cases h
      · cases h
    · rename_i n e _ _ z _ h1
      split at h
      · rename_i j h2
        split at h
        · rename_i gs cs' p' h3
          simp only [Option.some.injEq, Prod.mk.injEq] at h
          obtain ⟨rfl, rfl, rfl⟩ := h
          obtain ⟨us, e1, e2⟩ := fillA_sound (a := a) hm _ _ _ _ _ _ hev' h3 hc hp (zr z)
          refine ⟨.agg us.toArray, ?_, us, rfl, e2⟩
          have := build_run (w := w) (hT _ _ h1) (parts := parts.map fun q => (q.1, a.eval q.2)) (us := us) (.inr ⟨n, e, j, rfl, hT _ _ h2, by simpa using e1⟩)
          simp only [execOp, Sem.run_bind, this]
          rfl
        · cases h
      · cases h
    · cases h
  | _ => simp only [opA, reduceCtorEq] at h
end
end Go.Proofs.Yticlpcgkaffdmaa
