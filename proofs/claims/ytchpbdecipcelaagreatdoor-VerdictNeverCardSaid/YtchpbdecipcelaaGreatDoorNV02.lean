import Derived.Great.BuildSlice
import Derived.Laws.Cover3
import Derived.Laws.Pointers
import Derived.Laws.Slices
import Derived.Laws.Tables
import Derived.Test.YtchpbdecipcelaaGreatDoorNV01
namespace Go.Proofs.YtchpbdecipcelaaGreatDoor
set_option linter.unusedVariables false
set_option linter.unusedSimpArgs false
set_option maxHeartbeats 4000000
set_option maxRecDepth 100000
open Go.RowKit

def EvOk (G : Gh) (w : World) (a : Act) (st : ASt) (x : Operand) : Prop := ∀ c av, st.ev x = some (c, av) → c = true → av.rel G w (a.eval x)

theorem rel_raw {G : Gh} {w : World} {x v : Value} (h : (AV.raw x).rel G w v) : v = x := h
theorem eqC_sound {G : Gh} {w : World} : ∀ {ks : List CK} {xs ys : List AV} {vs us : List Value} {b : Bool} {p : Prop}, eqC ks xs ys = some (b, p) → p → AV.relL G w xs vs → AV.relL G w ys us → eqW ks vs us = some b := by
  intro ks
  induction ks with
  | nil =>
    intro xs ys vs us b p h hp h1 h2
    cases xs <;> cases ys <;> simp only [eqC, Option.some.injEq, Prod.mk.injEq, reduceCtorEq] at h
    rw [show vs = [] from h1, show us = [] from h2, ← h.1]; rfl
  | cons k ks ih =>
    intro xs ys vs us b p h hp h1 h2
    unfold eqC at h
    split at h
    · cases ‹_ :: _ = []›
    · rename_i ks' k1 a xs' k2 c ys' e
      cases e
      split at h
      · rename_i c' p' he
        simp only [Option.some.injEq, Prod.mk.injEq] at h
        obtain ⟨rfl, rfl⟩ := h
        obtain ⟨v, r, rfl, e1, e2⟩ := h1
        obtain ⟨v', r', rfl, e3, e4⟩ := h2
        rw [rel_raw e1, rel_raw e3]
        simp [eqW, hp.1, ih he hp.2 e2 e4]
      · cases h
    · rename_i ks' a xs' c ys' e
      cases e
      split at h
      · rename_i c' p' he
        simp only [Option.some.injEq, Prod.mk.injEq] at h
        obtain ⟨rfl, rfl⟩ := h
        obtain ⟨v, r, rfl, e1, e2⟩ := h1
        obtain ⟨v', r', rfl, e3, e4⟩ := h2
        rw [rel_raw e1, rel_raw e3]
        simp [eqW, ih he hp e2 e4]
      · cases h
    · rename_i ks' a xs' c ys' e
      cases e
      split at h
      · rename_i c' p' he
        simp only [Option.some.injEq, Prod.mk.injEq] at h
        obtain ⟨rfl, rfl⟩ := h
        obtain ⟨v, r, rfl, e1, e2⟩ := h1
        obtain ⟨v', r', rfl, e3, e4⟩ := h2
        rw [rel_raw e1, rel_raw e3]
        simp [eqW, ih he hp e2 e4]
      · cases h
    · cases h
theorem int_beq (a b : Int) : (a == b) = decide (a = b) := by by_cases h : a = b <;> simp [h]
theorem int_bne (a b : Int) : (a != b) = !decide (a = b) := by by_cases h : a = b <;> simp [bne, h]

theorem relL_over {G : Gh} {w : World} : ∀ {us cs : List AV} {ys vs : List Value}, AV.relL G w us ys → AV.relL G w cs vs → AV.relL G w (overL us cs) (overL ys vs)
  | [], _, _, _, h, h' => by rw [show _ = [] from h]; exact h'
  | u :: us, [], _, _, h, h' => by
    obtain ⟨y, ys, rfl, _, _⟩ := h
    rw [show _ = [] from h']; exact rfl
  | u :: us, c :: cs, _, _, h, h' => by
    obtain ⟨y, ys, rfl, h1, h2⟩ := h
    obtain ⟨v, vs, rfl, _, h4⟩ := h'
    exact ⟨y, _, rfl, h1, relL_over h2 h4⟩
theorem relL_put {G : Gh} {w : World} : ∀ {cs : List AV} {vs : List Value} {n : Nat} {us : List AV} {ys : List Value}, AV.relL G w cs vs → AV.relL G w us ys → AV.relL G w (putL cs n us) (putL vs n ys)
  | cs, vs, 0, us, ys, h, h' => by
    have : putL cs 0 us = overL us cs := by cases cs <;> rfl
    have : putL vs 0 ys = overL ys vs := by cases vs <;> rfl
    simp only [*]
    exact relL_over h' h
  | [], _, n + 1, _, _, h, _ => by rw [show _ = [] from h]; exact rfl
  | c :: cs, _, n + 1, _, _, h, h' => by
    obtain ⟨v, vs, rfl, h1, h2⟩ := h
    exact ⟨v, _, rfl, h1, relL_put h2 h'⟩
theorem overL_snoc {α : Type} : ∀ {us : List α} {u : α} {cs : List α}, us.length < cs.length → overL (us ++ [u]) cs = (overL us cs).set us.length u
  | [], u, c :: cs, _ => rfl
  | x :: us, u, c :: cs, h => by simp only [List.cons_append, overL, List.length_cons, List.set_cons_succ]; rw [overL_snoc (by simpa using h)]
theorem putL_snoc {α : Type} : ∀ {cs : List α} {n : Nat} {us : List α} {u : α}, n + us.length < cs.length → putL cs n (us ++ [u]) = (putL cs n us).set (n + us.length) u
  | cs, 0, us, u, h => by
    have h1 : ∀ ys : List α, putL cs 0 ys = overL ys cs := by intro ys; cases cs <;> rfl
    rw [h1, h1, overL_snoc (by omega), Nat.zero_add]
  | c :: cs, n + 1, us, u, h => by
    simp only [putL]
    rw [putL_snoc (by simp at h; omega), show n + 1 + us.length = (n + us.length) + 1 from by omega, List.set_cons_succ]
theorem overL_length {α : Type} : ∀ {us cs : List α}, us.length ≤ cs.length → (overL us cs).length = cs.length
  | [], cs, _ => rfl
  | u :: us, c :: cs, h => by simp only [overL, List.length_cons]; rw [overL_length (by simpa using h)]
theorem putL_length {α : Type} : ∀ {cs : List α} {n : Nat} {us : List α}, n + us.length ≤ cs.length → (putL cs n us).length = cs.length
  | cs, 0, us, h => by
    have : putL cs 0 us = overL us cs := by cases cs <;> rfl
    rw [this, overL_length (by omega)]
  | [], n + 1, us, h => rfl
  | c :: cs, n + 1, us, h => by simp only [putL, List.length_cons]; rw [putL_length (by simp at h; omega)]

section
variable {st : ASt}
theorem one_sound {G : Gh} {w : World} (hm : MSat G w st.bx st.rw) {x : AV} {v : Value} (h : x.one st) (hr : x.rel G w v) : v.oneCell' = true := by
  cases x with
  | raw u => rw [rel_raw hr]; exact h
  | lst sz n el => obtain ⟨A, cap, rfl, _⟩ := hr; rfl
  | elt cs off => obtain ⟨b, o, vs, rfl, _⟩ := hr; rfl
  | box b off => obtain ⟨blk, _, rfl⟩ := hr; rfl
  | fn f a b => obtain ⟨fs, cs, rfl, _⟩ := hr; rfl
  | bsl sz b off n cap => obtain ⟨blk, A, _, rfl, _⟩ := hr; rfl
  | ifc t x => obtain ⟨u, rfl, _⟩ := hr; rfl
  | ful x => obtain ⟨_, A, n, rfl⟩ := hr; rfl
  | row k n =>
    simp only [AV.one] at h
    split at h
    · rename_i r hr'
      obtain ⟨e, h1, h2, h3⟩ := hr
      have ro := hm.row k r e hr' h1
      rw [h3 (ro.len.trans h.symm)]
      obtain ⟨xs, ho, _⟩ := ro.own
      rcases ho.2 with ⟨hv, _⟩ | ⟨g, cap, cur, hv, _⟩ | ⟨m, es, ck, hv, _⟩ <;> rw [hv] <;> rfl
    · exact h.elim
  | _ => exact h.elim
theorem oneL_sound {G : Gh} {w : World} (hm : MSat G w st.bx st.rw) : ∀ {xs : List AV} {vs : List Value}, AV.oneL st xs → AV.relL G w xs vs → ∀ v ∈ vs, v.oneCell' = true
  | [], _, _, h, v, hv => by rw [show _ = [] from h] at hv; cases hv
  | x :: xs, _, h, hr, v, hv => by
    obtain ⟨u, rr, rfl, h1, h2⟩ := hr
    rcases List.mem_cons.1 hv with e | e
    · subst e; exact one_sound hm h.1 h1
    · exact oneL_sound hm h.2 h2 v e
theorem cells_rel {G : Gh} {w : World} {x : AV} {v : Value} (h1 : AV.oneL st (cellsA x)) (hm : MSat G w st.bx st.rw) (h : x.rel G w v) : AV.relL G w (cellsA x) v.cells.toList := by
  by_cases hx : ∃ cs, x = .agg cs
  · obtain ⟨cs, rfl⟩ := hx
    obtain ⟨vs, rfl, h2⟩ := h
    exact h2
  · have e : cellsA x = [x] := by
      cases x <;> first | rfl | exact absurd ⟨_, rfl⟩ hx
    rw [e] at h1 ⊢
    have h3 := one_sound hm h1.1 h
    refine ⟨v, [], ?_, h, rfl⟩
    cases v <;> first | rfl | simp [Value.oneCell'] at h3

end
section
variable {P : Program} {T : TT} {G : Gh} {w : World} {a : Act} {st : ASt}

theorem eqGuard_int (op : BinOp) (t : TypeId) (x y : Operand) (k k' : IntKind) (m n : Int) : (eqGuard op t x y (.int k m) (.int k' n)).run P w = .ok () w := by
  unfold eqGuard; cases op <;> simp
theorem eqGuard_bool (op : BinOp) (t : TypeId) (x y : Operand) (m n : Bool) : (eqGuard op t x y (.bool m) (.bool n)).run P w = .ok () w := by
  unfold eqGuard; cases op <;> simp
theorem eqGuard_str (op : BinOp) (t : TypeId) (x y : Operand) (m n : ByteArray) : (eqGuard op t x y (.string m) (.string n)).run P w = .ok () w := by
  unfold eqGuard; cases op <;> simp

theorem binA_sound {op : BinOp} {v v' r : AV} {p : Prop} (h : binA op v v' = some (r, p)) (hp : p) {x y : Value} (hx : v.rel G w x) (hy : v'.rel G w y) (t : TypeId) (ox oy : Operand) :
    ∃ u, (do eqGuard op t ox oy x y; binOp op t x y : Sem Value).run P w = .ok u w ∧ r.rel G w u := by
  unfold binA at h
  split at h
  · rename_i k m k' n
    rw [rel_raw hx, rel_raw hy]
    simp only [Sem.run_bind, eqGuard_int, Result.andThen_ok]
    cases op <;> simp only [Option.some.injEq, Prod.mk.injEq, reduceCtorEq] at h
    case add => 
      obtain ⟨rfl, rfl⟩ := h
      obtain ⟨rfl, h2⟩ := hp
      refine ⟨_, by simp only [binOp, Op.intArith]; simp; rfl, ?_⟩
      cases k <;> simp only [AV.rel] <;> first | rfl | (rw [inK_wrap h2])
    case sub => 
      obtain ⟨rfl, rfl⟩ := h
      obtain ⟨rfl, h2⟩ := hp
      refine ⟨_, by simp only [binOp, Op.intArith]; simp; rfl, ?_⟩
      cases k <;> simp only [AV.rel] <;> first | rfl | (rw [inK_wrap h2])
    case mul => 
      obtain ⟨rfl, rfl⟩ := h
      obtain ⟨rfl, h2⟩ := hp
      refine ⟨_, by simp only [binOp, Op.intArith]; simp; rfl, ?_⟩
      cases k <;> simp only [AV.rel] <;> first | rfl | (rw [inK_wrap h2])
    case quo =>
      obtain ⟨rfl, rfl⟩ := h
      obtain ⟨rfl, h2, h3⟩ := hp
      have h3 := inK_tdiv h2 h3
      have h2 : n ≠ 0 := by omega
      exact ⟨_, by simp only [binOp, Op.intDiv, h3]; simp [h2], rfl⟩
    case rem =>
      obtain ⟨rfl, rfl⟩ := h
      obtain ⟨rfl, h2⟩ := hp
      exact ⟨_, by simp only [binOp, Op.intDiv]; simp [h2], rfl⟩
    case and =>
      obtain ⟨rfl, rfl⟩ := h
      cases hp
      exact ⟨.int k (bitI .and k m n), by simp only [binOp, Op.intBits, ne_eq, not_true_eq_false, if_false]; rfl, rfl⟩
    case or =>
      obtain ⟨rfl, rfl⟩ := h
      cases hp
      exact ⟨.int k (bitI .or k m n), by simp only [binOp, Op.intBits, ne_eq, not_true_eq_false, if_false]; rfl, rfl⟩
    case xor =>
      obtain ⟨rfl, rfl⟩ := h
      cases hp
      exact ⟨.int k (bitI .xor k m n), by simp only [binOp, Op.intBits, ne_eq, not_true_eq_false, if_false]; rfl, rfl⟩
    case andNot =>
      obtain ⟨rfl, rfl⟩ := h
      cases hp
      exact ⟨.int k (bitI .andNot k m n), by simp only [binOp, Op.intBits, ne_eq, not_true_eq_false, if_false]; rfl, rfl⟩
    case shl =>
      obtain ⟨rfl, rfl⟩ := h
      exact ⟨_, by simp only [binOp, Op.shift, if_neg (Int.not_lt.2 hp)]; rfl, rfl⟩
    case shr =>
      obtain ⟨rfl, rfl⟩ := h
      exact ⟨_, by simp only [binOp, Op.shift, if_neg (Int.not_lt.2 hp)]; rfl, rfl⟩
    all_goals
      obtain ⟨rfl, rfl⟩ := h
      cases hp
      exact ⟨_, by simp only [binOp, Op.intCmp]; first | (simp; done) | (simp; rfl), by simp only [AV.rel] <;> first | rfl | rw [int_beq] | rw [int_bne]⟩
  · rename_i m n
    rw [rel_raw hx, rel_raw hy]
    simp only [Sem.run_bind, eqGuard_str, Result.andThen_ok]
    cases op <;> simp only [Option.some.injEq, Prod.mk.injEq, reduceCtorEq] at h
    all_goals
      obtain ⟨rfl, rfl⟩ := h
      exact ⟨_, by simp only [binOp, Op.stringOp]; first | (simp; done) | (simp; rfl) | (rw [if_neg (by simp only [show IntKind.i64.max = 9223372036854775807 from rfl]; omega)]; rfl), rfl⟩
  · cases h

theorem unA_sound {op : UnOp} {v r : AV} {p : Prop} (h : unA op v = some (r, p)) (hp : p) {x : Value} (hx : v.rel G w x) : ∃ u, (Op.unary op x).run P w = .ok u w ∧ r.rel G w u := by
  unfold unA at h
  split at h
  · rw [rel_raw hx]
    cases op <;> simp only [Option.some.injEq, Prod.mk.injEq, reduceCtorEq] at h
    obtain ⟨rfl, rfl⟩ := h
    exact ⟨_, rfl, rfl⟩
  · rw [rel_raw hx]
    cases op <;> simp only [Option.some.injEq, Prod.mk.injEq, reduceCtorEq] at h
    obtain ⟨rfl, rfl⟩ := h
    exact ⟨_, rfl, by simp only [AV.rel]; rw [Int.zero_sub, hp]⟩
  · cases h

theorem asL_row {k n : Nat} {r : ARow} (h : st.rw[k]? = some r) (hz : 0 < r.sz) : st.asL (.row k n) = some (r.sz, r.n, r.el, n = r.n) := by
  simp only [ASt.asL, h]
  rw [show Nat.beq r.sz 0 = false from by rw [← Bool.not_eq_true, Nat.beq_eq]; omega]
  rfl
theorem asL_sound (hm : MSat G w st.bx st.rw) {v : AV} {sz n : Nat} {el : Nat → List AV} {p : Prop} (h : st.asL v = some (sz, n, el, p)) (hp : p) {x : Value} (hx : v.rel G w x) : (AV.lst sz n el).rel G w x := by
  unfold ASt.asL at h
  split at h
  · simp only [Option.some.injEq, Prod.mk.injEq] at h
    obtain ⟨rfl, rfl, rfl, rfl⟩ := h
    exact hx
  · rename_i k m
    split at h
    · rename_i r hr
      have hz : 0 < r.sz := by
        rcases Nat.eq_zero_or_pos r.sz with h0 | h0
        · rw [h0] at h; cases h
        · exact h0
      rw [show Nat.beq r.sz 0 = false from by rw [← Bool.not_eq_true, Nat.beq_eq]; omega] at h
      simp only [cond_false, Option.some.injEq, Prod.mk.injEq] at h
      obtain ⟨rfl, rfl, rfl, rfl⟩ := h
      subst hp
      obtain ⟨e, he, h1, h2⟩ := hx
      have ro := hm.row k r e hr he
      have hv := h2 ro.len
      subst hv
      obtain ⟨xs, ho0, hel⟩ := ro.own
      obtain ⟨ho1, ho2⟩ := ho0.row hz
      rcases ho2 with ⟨ho, hn0⟩ | ⟨g, cap, cur, ho, hg, hh, hnc, hcm, hcs, hct⟩
      · rw [ho]
        exact ⟨none, 0, by rw [hn0], by omega, by unfold maxLen; omega, fun h => by omega⟩
      · rw [ho]
        refine ⟨_, cap, rfl, hnc, hcm, fun _ => ⟨g, 0, rfl, fun i hi => ?_⟩⟩
        obtain ⟨vs, h3, h4, h5⟩ := hel i hi
        refine ⟨vs, h3, h4, fun j u hj => ?_⟩
        have hjl : j < r.sz := by
          have := (List.getElem?_eq_some_iff.1 hj).1; omega
        have hlt : i * r.sz + j < r.n * r.sz := by
          have : (i + 1) * r.sz ≤ r.n * r.sz := Nat.mul_le_mul_right _ hi
          rw [Nat.add_mul] at this; omega
        refine ⟨(ro.imm g (by rw [ho]; rfl) _).2 (by omega), ?_⟩
        have h6 := h5 j u hj
        rw [← hct, List.getElem?_take, if_pos hlt] at h6
        simp only [World.cell?, hh, Nat.zero_add]
        simpa using h6
    · cases h
  · cases h

theorem evL_sound {xs : List Operand} {cs : List Bool} {vs : List AV} (hev : ∀ x ∈ xs, EvOk G w a st x) (h : st.evL xs = some (cs, vs)) (hc : ∀ c ∈ cs, c = true) : AV.relL G w vs (xs.map a.eval) := by
  induction xs generalizing cs vs with
  | nil => simp only [ASt.evL, Option.some.injEq, Prod.mk.injEq] at h; obtain ⟨rfl, rfl⟩ := h; rfl
  | cons x r ih =>
    simp only [ASt.evL] at h
    split at h
    · rename_i c v cs' vs' h1 h2
      simp only [Option.some.injEq, Prod.mk.injEq] at h
      obtain ⟨rfl, rfl⟩ := h
      exact ⟨_, _, rfl, hev x (by simp) c v h1 (hc c (by simp)), ih (fun y hy => hev y (by simp [hy])) h2 fun c hc' => hc c (by simp [hc'])⟩
    · cases h

theorem cutA_rel {agg : Bool} {sz off : Nat} {cs : List AV} {vs : List Value} (h : AV.relL G w cs vs) (h0 : 0 < sz) (hl : off + sz ≤ cs.length) :
    (cutA agg sz cs off).rel G w (bif agg then .agg ((vs.drop off).take sz).toArray else (vs[off]?).getD undef) := by
  unfold cutA
  cases agg
  · obtain ⟨v, h1, h2⟩ := AV.relL_get h (nthA_get (cs := cs) (k := off) (by omega))
    simp only [cond_false, h1, Option.getD_some]
    exact h2
  · simp only [cond_true]
    exact ⟨_, rfl, AV.relL_take _ (AV.relL_drop _ h)⟩

theorem load_run {t : Nat} {i : TI} (hi : TiOk P t i) {b o off : Nat} {vs : List Value} (h0 : 0 < i.size) (hl : off + i.size ≤ vs.length) (hc : ∀ j u, vs[j]? = some u → w.cell? ⟨b, o + j, none⟩ = some u) :
    (Instr.loadAt t (.pointer (some ⟨b, o + off, none⟩))).run P w = .ok (bif i.k.agg then .agg ((vs.drop off).take i.size).toArray else (vs[off]?).getD undef) w := by
  simp only [Instr.loadAt, Instr.sureAddr, loadVar, Sem.run_bind, Sem.run_pure, Result.andThen_ok, hi.agg_run w]
  cases hk : i.k.agg
  · have h1 : vs[off]? = some (vs[off]'(by omega)) := List.getElem?_eq_getElem (by omega)
    simp [load, Sem.run, hc off _ h1, h1]
  · have hcs := run_loadCells_list (P := P) (w := w) ⟨b, o + off, none⟩ ((vs.drop off).take i.size) (fun j v hj => by
      have hj' : vs[off + j]? = some v := by
        rw [List.getElem?_take] at hj
        split at hj
        · rwa [List.getElem?_drop] at hj
        · cases hj
      have := hc (off + j) v hj'
      unfold Addr.add
      by_cases hj0 : j = 0
      · subst hj0; simpa using this
      · rw [if_neg hj0]; simpa [Nat.add_assoc] using this)
    have hlen : ((vs.drop off).take i.size).length = i.size := by simp; omega
    rw [hlen] at hcs
    simp only [if_true, Sem.run_bind, hi.size_run w, Result.andThen_ok, hcs, Sem.run_pure, cond_true]

theorem fieldAt_run {t ft f : Nat} {fs : List (Nat × Nat)} {i j : TI} {fo : Nat} (hi : TiOk P t i) (hk : i.k = .struct fs) (hf : fs[f]? = some (fo, ft)) (hj : TiOk P ft j) (h0 : 0 < j.size) (b o : Nat) :
    (Instr.fieldAt t (.pointer (some ⟨b, o, none⟩)) f).run P w = .ok (.pointer (some ⟨b, o + fo, none⟩)) w := by
  obtain ⟨d, h1, h2, _⟩ := hi.und_run w
  rw [hk] at h2
  obtain ⟨A, rfl, hA⟩ := tkOf_struct h2
  have h3 : ∃ x, A[f]? = some x ∧ x.offset = fo ∧ x.type = ft := by
    rw [← hA, List.getElem?_map] at hf
    cases hx : A.toList[f]? with
    | none => rw [hx] at hf; cases hf
    | some x =>
      rw [hx] at hf
      simp only [Option.map_some, Option.some.injEq, Prod.mk.injEq] at hf
      exact ⟨x, by simpa using hx, hf.1, hf.2⟩
  obtain ⟨x, h4, h5, h6⟩ := h3
  subst h5
  subst h6
  have h7 : ((sizeOf x.type).run P w) = .ok j.size w := hj.size_run w
  simp only [Instr.fieldAt, Sem.run_bind, h1, Result.andThen_ok, h4, Instr.sureAddr, Sem.run_pure, fieldPlace, h7]
  rw [if_neg (by omega)]
  simp only [Sem.run_pure, Result.andThen_ok, Addr.add]
  by_cases h8 : x.offset = 0
  · simp [h8]
  · simp [h8]

theorem part_run {t : Nat} {i : TI} (hi : TiOk P t i) {off : Nat} {vs : List Value} (h0 : 0 < i.size) (hl : off + i.size ≤ vs.length) :
    (part t vs.toArray off).run P w = .ok (bif i.k.agg then .agg ((vs.drop off).take i.size).toArray else (vs[off]?).getD undef) w := by
  simp only [part, Sem.run_bind, hi.agg_run w, Result.andThen_ok]
  cases hk : i.k.agg
  · have h1 : vs[off]? = some (vs[off]'(by omega)) := List.getElem?_eq_getElem (by omega)
    simp [h1]
  · simp only [if_true, Sem.run_bind, hi.size_run w, Result.andThen_ok, Sem.run_pure, cond_true]
    congr 2
    simp [List.extract_eq_take_drop]

theorem field_run {t ft f : Nat} {fs : List (Nat × Nat)} {i j : TI} {fo : Nat} (hi : TiOk P t i) (hk : i.k = .struct fs) (hf : fs[f]? = some (fo, ft)) (hj : TiOk P ft j) (h0 : 0 < j.size) {vs : List Value} (hl : fo + j.size ≤ vs.length) :
    (Instr.field t (.agg vs.toArray) f).run P w = .ok (bif j.k.agg then .agg ((vs.drop fo).take j.size).toArray else (vs[fo]?).getD undef) w := by
  obtain ⟨d, h1, h2, _⟩ := hi.und_run w
  rw [hk] at h2
  obtain ⟨A, rfl, hA⟩ := tkOf_struct h2
  have h3 : ∃ x, A[f]? = some x ∧ x.offset = fo ∧ x.type = ft := by
    rw [← hA, List.getElem?_map] at hf
    cases hx : A.toList[f]? with
    | none => rw [hx] at hf; cases hf
    | some x =>
      rw [hx] at hf
      simp only [Option.map_some, Option.some.injEq, Prod.mk.injEq] at hf
      exact ⟨x, by simpa using hx, hf.1, hf.2⟩
  obtain ⟨x, h4, h5, h6⟩ := h3
  subst h5
  subst h6
  simp only [Instr.field, Sem.run_bind, h1, Result.andThen_ok, h4, asAgg, Sem.run_pure]
  exact part_run hj h0 hl

theorem indexAt_run {t e : Nat} {i j : TI} (hi : TiOk P t i) (hk : i.k = .slice e) (hj : TiOk P e j) {b o n cap : Nat} {k : IntKind} {x : Int} (h0 : 0 ≤ x) (h1 : x < n) :
    (Instr.indexAt t (.slice (some ⟨b, o, none⟩) n cap) (.int k x)).run P w = .ok (.pointer (some ⟨b, o + x.toNat * j.size, none⟩)) w := by
  obtain ⟨d, h2, h3, _⟩ := hi.und_run w
  rw [hk] at h3
  have := tkOf_slice h3
  subst this
  simp only [Instr.indexAt, Sem.run_bind, asIntOf, Sem.run_pure, Result.andThen_ok, h2]
  rw [if_pos ⟨h0, h1⟩]
  simp only [Sem.run_bind, hj.size_run w, Result.andThen_ok, Sem.run_pure, Addr.add]
  by_cases h8 : x.toNat * j.size = 0
  · rw [if_pos h8, h8]; rfl
  · rw [if_neg h8]

theorem indexArr_run {t e m : Nat} {i j : TI} (hi : TiOk P t i) (hk : i.k = .array m e) (hj : TiOk P e j) {b o : Nat} {k : IntKind} {x : Int} (h0 : 0 ≤ x) (h1 : x < m) :
    (Instr.indexAt t (.pointer (some ⟨b, o, none⟩)) (.int k x)).run P w = .ok (.pointer (some ⟨b, o + x.toNat * j.size, none⟩)) w := by
  obtain ⟨d, h2, h3, _⟩ := hi.und_run w
  rw [hk] at h3
  have := tkOf_array h3
  subst this
  have hs : (Instr.sureAddr (.pointer (some ⟨b, o, none⟩))).run P w = .ok ⟨b, o, none⟩ w := rfl
  simp only [Instr.indexAt, Sem.run_bind, asIntOf, Sem.run_pure, Result.andThen_ok, h2, hs]
  rw [if_pos ⟨h0, h1⟩]
  simp only [Sem.run_bind, hj.size_run w, Result.andThen_ok, Sem.run_pure, Addr.add]
  by_cases h8 : x.toNat * j.size = 0
  · rw [if_pos h8, h8]; rfl
  · rw [if_neg h8]
theorem index_run {t e m : Nat} {i j : TI} (hi : TiOk P t i) (hk : i.k = .array m e) (hj : TiOk P e j) {vs : List Value} {k : IntKind} {x : Int} (h0 : 0 ≤ x) (h1 : x < m) (hz : 0 < j.size) (hl : x.toNat * j.size + j.size ≤ vs.length) :
    (Instr.index t (.agg vs.toArray) (.int k x)).run P w = .ok (bif j.k.agg then .agg ((vs.drop (x.toNat * j.size)).take j.size).toArray else (vs[x.toNat * j.size]?).getD undef) w := by
  obtain ⟨d, h2, h3, _⟩ := hi.und_run w
  rw [hk] at h3
  have := tkOf_array h3
  subst this
  simp only [Instr.index, Sem.run_bind, asIntOf, Sem.run_pure, Result.andThen_ok, h2]
  rw [if_pos ⟨h0, h1⟩]
  simp only [Sem.run_bind, hj.size_run w, Result.andThen_ok]
  exact part_run hj hz hl
theorem indexStr_run {t : Nat} {i : TI} (hi : TiOk P t i) (hk : i.k = .str) {s : ByteArray} {k : IntKind} {x : Int} (h0 : 0 ≤ x) (h1 : x < s.size) :
    (Instr.index t (.string s) (.int k x)).run P w = .ok (.int .u8 (byteA s x.toNat)) w := by
  obtain ⟨d, h2, h3, _⟩ := hi.und_run w
  rw [hk] at h3
  have := tkOf_str h3
  subst this
  simp only [Instr.index, Sem.run_bind, asIntOf, Sem.run_pure, Result.andThen_ok, h2]
  have hlt : x.toNat < s.size := by omega
  rw [if_pos h0, getElem?_pos s x.toNat hlt]
  simp only [Sem.run_pure, byteA]
  have : s.data.toList.getD x.toNat 0 = s[x.toNat] := by
    have h9 : x.toNat < s.data.toList.length := by simpa using hlt
    rw [List.getD_eq_getElem?_getD, List.getElem?_eq_getElem h9]; rfl
  rw [this]
theorem eqGuard_ptr (op : BinOp) (t : TypeId) (x y : Operand) (m n : Option Addr) : (eqGuard op t x y (.pointer m) (.pointer n)).run P w = .ok () w := by
  cases op <;> simp [eqGuard]
theorem eqGuard_slc (op : BinOp) (t : TypeId) (x y : Operand) (m n : Option Addr) (a b c d : Nat) : (eqGuard op t x y (.slice m a b) (.slice n c d)).run P w = .ok () w := by
  cases op <;> simp [eqGuard]
theorem eq_ptr (hT : TOk P T) {op : BinOp} {t e sz by_ : Nat} {z : List Value} {q : List CK} {r : AV} {c : Bool} (h1 : T t = some ⟨.ptr e, sz, by_, z, q⟩) (h2 : negIf op c = some r) (p : Option Addr) (hc : p.isNone = c) (ox oy : Operand) :
    ∃ u, (do eqGuard op t ox oy (.pointer p) (.pointer none); binOp op t (.pointer p) (.pointer none) : Sem Value).run P w = .ok u w ∧ r.rel G w u := by
  obtain ⟨d, e1, e2⟩ := (hT _ _ h1).und_some
  have hu : P.underlying t = some (.pointer (P.pointee t)) := by
    cases d <;> simp [tkOf] at e2
    simp [Program.pointee, e1]
  simp only [Sem.run_bind, eqGuard_ptr, Result.andThen_ok]
  subst hc
  unfold negIf at h2
  split at h2
  · cases h2; exact ⟨_, run_eql_pointer_nil w t p hu, rfl⟩
  · cases h2; exact ⟨_, run_neq_pointer_nil w t p hu, rfl⟩
  · cases h2
theorem eq_slc (hT : TOk P T) {op : BinOp} {t e sz by_ : Nat} {z : List Value} {q : List CK} {r : AV} {c : Bool} (h1 : T t = some ⟨.slice e, sz, by_, z, q⟩) (h2 : negIf op c = some r) (p : Option Addr) (l k : Nat) (hc : p.isNone = c) (ox oy : Operand) :
    ∃ u, (do eqGuard op t ox oy (.slice p l k) (.slice none 0 0); binOp op t (.slice p l k) (.slice none 0 0) : Sem Value).run P w = .ok u w ∧ r.rel G w u := by
  obtain ⟨d, e1, e2⟩ := (hT _ _ h1).und_some
  have hu : P.underlying t = some (.slice e) := by rw [e1, tkOf_slice e2]
  simp only [Sem.run_bind, eqGuard_slc, Result.andThen_ok]
  subst hc
  unfold negIf at h2
  split at h2
  · cases h2
    refine ⟨_, ?_, rfl⟩
    simp only [binOp]
    simp [run_equal_slice_nil w t e p l k hu]
  · cases h2; exact ⟨_, run_neq_slice_nil w t e p l k hu, rfl⟩
  · cases h2
theorem eqA2_sound (hT : TOk P T) {op : BinOp} {v v' r : AV} {p : Prop} {t : TypeId} (h : eqA2 op T t v v' = some (r, p)) (hp : p) {x y : Value} (hx : v.rel G w x) (hy : v'.rel G w y) (ox oy : Operand) :
    ∃ u, (do eqGuard op t ox oy x y; binOp op t x y : Sem Value).run P w = .ok u w ∧ r.rel G w u := by
  unfold eqA2 at h
  split at h
  · rename_i m n
    rw [rel_raw hx, rel_raw hy]
    split at h
    · rename_i h1
      have hu : P.underlying t = some .bool := by
        obtain ⟨d, e1, e2⟩ := (hT _ _ h1).und_some
        rw [e1, tkOf_bool e2]
      simp only [Sem.run_bind, eqGuard_bool, Result.andThen_ok]
      split at h
      · rename_i r' h2
        simp only [Option.some.injEq, Prod.mk.injEq] at h
        obtain ⟨rfl, rfl⟩ := h
        unfold negIf at h2
        have e3 := run_equalIn_bool' w 9999 t m n hu
        have e4 : (m == n) = decide (m = n) := by rw [Bool.eq_iff_iff]; simp
        split at h2
        · cases h2
          refine ⟨_, ?_, rfl⟩
          simp only [binOp, Sem.run_bind, Op.equal, Op.maxDepth, e3, Result.andThen_ok, Sem.run_pure, e4]
        · cases h2
          refine ⟨_, ?_, rfl⟩
          simp only [binOp, Sem.run_bind, Op.equal, Op.maxDepth, e3, Result.andThen_ok, Sem.run_pure, e4]
        · cases h2
      · cases h
    · cases h
  · rename_i xs ys
    split at h
    · rename_i i h1
      cases hem : i.eq.isEmpty
      · rw [hem] at h
        simp only [cond_false] at h
        split at h
        · rename_i c q h2
          split at h
          · rename_i r' h3
            simp only [Option.some.injEq, Prod.mk.injEq] at h
            obtain ⟨rfl, rfl⟩ := h
            obtain ⟨hq, hagg⟩ := hp
            obtain ⟨vs, rfl, e1⟩ := hx
            obtain ⟨us, rfl, e2⟩ := hy
            have e3 := eqC_sound h2 hq e1 e2
            have e4 := (hT _ _ h1).eq
            rw [hem] at e4
            simp only [Bool.false_or, Bool.and_eq_true, decide_eq_true_eq, Bool.not_eq_true'] at e4
            have ha : aggT P t = true := by
              obtain ⟨d, e5, e6⟩ := (hT _ _ h1).und_some
              rw [aggT, e5]; simp only [e6, hagg]
            have e7 := (eqKs_sound 30 t i.eq e4.1).2 10000 vs us c w (by omega) e3
            rw [ha] at e7
            simp only [valOf, cond_true] at e7
            simp only [Sem.run_bind, run_eqGuard_agg w op t ox oy vs.toArray us.toArray e4.2, Result.andThen_ok]
            unfold negIf at h3
            split at h3
            · cases h3
              exact ⟨_, by rw [run_eql_struct, e7]; rfl, rfl⟩
            · cases h3
              exact ⟨_, by rw [run_neq_struct, e7]; rfl, rfl⟩
            · cases h3
          · cases h
        · cases h
      · rw [hem] at h; cases h
    · cases h
  · split at h
    · rename_i r1 h1 h2
      simp only [Option.some.injEq, Prod.mk.injEq] at h
      obtain ⟨rfl, rfl⟩ := h
      obtain ⟨b, o, vs, rfl, _⟩ := hx
      rw [rel_raw hy]
      exact eq_ptr hT h1 h2 _ rfl ox oy
    · cases h
  · split at h
    · rename_i r1 h1 h2
      simp only [Option.some.injEq, Prod.mk.injEq] at h
      obtain ⟨rfl, rfl⟩ := h
      obtain ⟨b, _, rfl⟩ := hx
      rw [rel_raw hy]
      exact eq_ptr hT h1 h2 _ rfl ox oy
    · cases h
  · split at h
    · rename_i r1 h1 h2
      simp only [Option.some.injEq, Prod.mk.injEq] at h
      obtain ⟨rfl, rfl⟩ := h
      rw [rel_raw hx, rel_raw hy]
      exact eq_ptr hT h1 h2 _ rfl ox oy
    · cases h
  · split at h
    · rename_i r1 h1 h2
      simp only [Option.some.injEq, Prod.mk.injEq] at h
      obtain ⟨rfl, rfl⟩ := h
      obtain ⟨A, cap, rfl, _, _, hA⟩ := hx
      obtain ⟨b, o, rfl, _⟩ := hA hp
      rw [rel_raw hy]
      exact eq_slc hT h1 h2 _ _ _ rfl ox oy
    · cases h
  · split at h
    · rename_i r1 h1 h2
      simp only [Option.some.injEq, Prod.mk.injEq] at h
      obtain ⟨rfl, rfl⟩ := h
      rw [rel_raw hx, rel_raw hy]
      exact eq_slc hT h1 h2 _ _ _ rfl ox oy
    · cases h
  · cases h

theorem len_slice_run {t : Nat} {i : TI} {e : Nat} (hi : TiOk P t i) (hk : i.k = .slice e) (A : Option Addr) (n cap ty : Nat) :
    (Builtin.len_ #[t] ty #[.slice A n cap]).run P w = .ok (.int .i64 n) w := by
  obtain ⟨d, h2, h3, _⟩ := hi.und_run w
  rw [hk] at h3
  have := tkOf_slice h3
  subst this
  simp [Builtin.len_, h2, goInt]
theorem len_str_run {t : Nat} {i : TI} (hi : TiOk P t i) (hk : i.k = .str) (s : ByteArray) (ty : Nat) :
    (Builtin.len_ #[t] ty #[.string s]).run P w = .ok (.int .i64 s.size) w := by
  obtain ⟨d, h2, h3, _⟩ := hi.und_run w
  rw [hk] at h3
  have := tkOf_str h3
  subst this
  simp [Builtin.len_, h2, goInt]

theorem lenA_sound (hT : TOk P T) (hm : MSat G w st.bx st.rw) {t ty : Nat} {v r : AV} {p : Prop} (h : lenA T st t v = some (r, p)) (hp : p) {x : Value} (hx : v.rel G w x) :
    ∃ u, (Builtin.len_ #[t] ty #[x]).run P w = .ok u w ∧ r.rel G w u := by
  unfold lenA at h
  split at h
  · split at h
    · rename_i hl
      simp only [Option.some.injEq, Prod.mk.injEq] at h
      obtain ⟨rfl, rfl⟩ := h
      rw [rel_raw hx]
      exact ⟨_, len_str_run (hT _ _ hl) rfl _ _, rfl⟩
    · cases h
  · split at h
    · rename_i hl
      simp only [Option.some.injEq, Prod.mk.injEq] at h
      obtain ⟨rfl, rfl⟩ := h
      rw [rel_raw hx]
      exact ⟨_, len_slice_run (hT _ _ hl) rfl _ _ _ _, rfl⟩
    · cases h
  · split at h
    · rename_i hl1 hl2
      simp only [Option.some.injEq, Prod.mk.injEq] at h
      obtain ⟨rfl, rfl⟩ := h
      obtain ⟨A, cap, rfl, _⟩ := asL_sound hm hl1 hp hx
      exact ⟨_, len_slice_run (hT _ _ hl2) rfl _ _ _ _, rfl⟩
    · cases h

theorem min_run (k k' : IntKind) (x y : Int) (ts : Array TypeId) (ty : TypeId) : (Builtin.min_ ts ty #[.int k x, .int k' y]).run P w = .ok (.int k (min x y)) w := by
  simp only [Builtin.min_, List.foldlM, Builtin.min2, Sem.run_bind, Sem.run_pure, Result.andThen_ok]
  congr 2; split <;> omega
theorem max_run (k k' : IntKind) (x y : Int) (ts : Array TypeId) (ty : TypeId) : (Builtin.max_ ts ty #[.int k x, .int k' y]).run P w = .ok (.int k (max x y)) w := by
  simp only [Builtin.max_, List.foldlM, Builtin.max2, Sem.run_bind, Sem.run_pure, Result.andThen_ok]
  congr 2; split <;> omega

theorem fold_put' {off : Nat} : ∀ (us done cs : List Value), off + done.length + us.length ≤ cs.length → ((us.zipIdx done.length).foldl (fun (cs : Array Value) (q : Value × Nat) => cs.setIfInBounds (off + q.2) q.1) (putL cs off done).toArray) = (putL cs off (done ++ us)).toArray
  | [], done, cs, _ => by simp
  | u :: us, done, cs, h => by
    simp only [List.length_cons] at h
    have ih := fold_put' (off := off) us (done ++ [u]) cs (by simp; omega)
    simp only [List.zipIdx_cons, List.foldl_cons]
    rw [show done ++ u :: us = (done ++ [u]) ++ us from by simp, ← ih, putL_snoc (cs := cs) (n := off) (us := done) (u := u) (by omega)]
    simp
theorem fold_put {off : Nat} (us cs : List Value) (h : off + us.length ≤ cs.length) : (us.toArray.zipIdx.foldl (fun (cs : Array Value) (q : Value × Nat) => cs.setIfInBounds (off + q.2) q.1) cs.toArray) = (putL cs off us).toArray := by
  have h0 : ∀ (n : Nat) (l : List Value), putL l n ([] : List Value) = l := by
    intro n; induction n with
    | zero => intro l; cases l <;> rfl
    | succ n ih => intro l; cases l <;> simp [putL, ih]
  have := fold_put' (off := off) us [] cs (by simpa using h)
  rw [h0] at this
  rw [← Array.foldl_toList, Array.toList_zipIdx]
  exact this
theorem fillA_sound (hm : MSat G w st.bx st.rw) {place : Nat → Option (Nat × Nat)} : ∀ (parts : List (Nat × Operand)) (cs cs' : List AV) (vs : List Value) (gs : List Bool) (p : Prop), (∀ q ∈ parts, EvOk G w a st q.2) → fillA st place parts cs = some (gs, cs', p) → (∀ c ∈ gs, c = true) → p → AV.relL G w cs vs →
    ∃ us : List Value, Instr.fill place vs.toArray (parts.map fun q => (q.1, a.eval q.2)) = some us.toArray ∧ AV.relL G w cs' us
  | [], cs, cs', vs, gs, p, _, h, _, _, hr => by
    simp only [fillA, Option.some.injEq, Prod.mk.injEq] at h
    obtain ⟨_, rfl, _⟩ := h
    exact ⟨vs, rfl, hr⟩
  | q :: r, cs, cs', vs, gs, p, hev, h, hc, hp, hr => by
    simp only [fillA] at h
    split at h
    · rename_i off sz g v h1 h2
      split at h
      · rename_i gs' cs2 p' h3
        simp only [Option.some.injEq, Prod.mk.injEq] at h
        obtain ⟨rfl, rfl, rfl⟩ := h
        have e1 := hev q (by simp) _ _ h2 (hc g (by simp))
        have e2 := cells_rel hp.1.1 hm e1
        have hl := AV.relL_length e2
        have hl2 := AV.relL_length hr
        have hsz : (a.eval q.2).cells.size = sz := by rw [← hp.1.2.1, ← hl]; simp
        obtain ⟨us, e3, e4⟩ := fillA_sound hm r _ _ _ _ _ (fun q hq => hev q (by simp [hq])) h3 (fun c hc' => hc c (by simp [hc'])) hp.2 (relL_put (n := off) hr e2)
        refine ⟨us, ?_, e4⟩
        simp only [List.map_cons, Instr.fill, h1]
        have hp2 := hp.1.2.2
        rw [if_neg (by simp [hsz]; omega)]
        have := fold_put (off := off) (a.eval q.2).cells.toList vs (by simp only [Array.length_toList]; omega)
        rw [show (a.eval q.2).cells.toList.toArray = (a.eval q.2).cells from by simp] at this
        rw [this]; exact e3
      · cases h
    · cases h
theorem placesA_sound (hT : TOk P T) : ∀ (fs : List Field) (ps : List (Nat × Nat)), placesA T (fs.map fun f => (f.offset, f.type)) = some ps → fs.mapM (fun f => (P.info? f.type).map fun i => (f.offset, i.size)) = some ps
  | [], ps, h => by simpa [placesA] using h
  | f :: fs, ps, h => by
    simp only [List.map_cons, placesA] at h
    split at h
    · rename_i j ps' h1 h2
      simp only [Option.some.injEq] at h
      subst h
      obtain ⟨x, _, e1, _, e2⟩ := (hT _ _ h1).bytes_run default
      simp [e2, placesA_sound hT fs ps' h2, e1]
    · cases h
theorem build_run {t : Nat} {i : TI} (hi : TiOk P t i) {parts : Array (Nat × Value)} {us : List Value}
    (h : (∃ fs ps, i.k = .struct fs ∧ (∀ l : List Field, l.map (fun f => (f.offset, f.type)) = fs → l.mapM (fun f => (P.info? f.type).map fun i => (f.offset, i.size)) = some ps) ∧ Instr.fill (fun k => ps[k]?) i.zero.toArray parts.toList = some us.toArray) ∨
      (∃ n e j, i.k = .array n e ∧ TiOk P e j ∧ Instr.fill (fun k => some (k * j.size, j.size)) i.zero.toArray parts.toList = some us.toArray)) : (Instr.build t parts).run P w = .ok (.agg us.toArray) w := by
  refine run_build w t parts us.toArray ?_
  obtain ⟨d, h1, h2⟩ := hi.und_some
  have h3 := hi.info
  unfold Program.built
  cases hit : P.info? t with
  | none => rw [hit] at h3; cases h3
  | some it =>
    rw [hit] at h3
    simp only [Option.map_some, Option.some.injEq, Prod.mk.injEq] at h3
    cases hz : it.zero with
    | none => rw [hz] at h3; cases h3.1
    | some z =>
      rw [hz] at h3
      simp only [Option.map_some, Option.some.injEq] at h3
      have hzz : z.cells = i.zero.toArray := by rw [← h3.1]
      rcases h with ⟨fs, ps, e1, e2, e3⟩ | ⟨n, e, j, e1, e2, e3⟩
      · rw [e1] at h2
        obtain ⟨A, rfl, hA⟩ := tkOf_struct h2
        simp only [h1, hz, e2 A.toList hA, hzz]
        rw [← e3]
        first | done | rfl | (congr 1; funext k; simp)
      · rw [e1] at h2
        have := tkOf_array h2
        subst this
        obtain ⟨x, _, q1, _, q2⟩ := e2.bytes_run default
        simp only [h1, hz, q2, hzz, q1]
        exact e3
theorem conv_str {s t e sz n : Nat} {el : Nat → List AV} (hsz : sz = 1) (hel : ∀ i, i < n → isU8 (el i)) (u1 : P.underlying s = some (.slice e)) (u3 : P.underlying e = some (.int .u8)) (u2 : P.underlying t = some .string) {x : Value} (h : (AV.lst sz n el).rel G w x) :
    (convert s t x).run P w = .ok (.string (strOf n el)) w := by
  subst hsz
  obtain ⟨A, cap, rfl, _, _, hA⟩ := h
  rcases Nat.eq_zero_or_pos n with rfl | hn
  · cases A with
    | none => exact run_convert_bytes_nil w s e u1 u3 0 cap t u2
    | some a => 
      rw [run_convert_bytes_string w s t e (some a) 0 cap u1 u3 u2]
      simp [Conv.bytesToString, loadCells, loadCellsFrom]
      rfl
  · obtain ⟨b, o, rfl, hc⟩ := hA hn
    have := run_convert_bytes_arg w s e u1 u3 b o n cap ((List.range n).map fun i => u8Of (el i)) (by simp) (fun i hi => by
      obtain ⟨vs, h1, h2, h3⟩ := hc i hi
      have h4 := hel i hi
      match hE : el i, h4 with
      | [.raw (.int .u8 k)], _ =>
        rw [hE] at h1
        obtain ⟨v, r, rfl, hv, rfl⟩ := h1
        have h5 := (h3 0 v rfl).2
        rw [show v = .int .u8 k from hv] at h5
        simp only [Nat.mul_one, Nat.add_zero] at h5
        rw [h5]
        simp [hi, hE, u8Of]) t u2
    exact this
theorem optI_sound {lo : Option Operand} {gl : List Bool} {l : Option Int} (hev : ∀ y, lo = some y → EvOk G w a st y) (h : optI st lo = some (gl, l)) (hc : ∀ c ∈ gl, c = true) : (lo = none ∧ l = none) ∨ ∃ k i, l = some i ∧ lo.map a.eval = some (.int k i) := by
  unfold optI at h
  split at h
  · simp only [Option.some.injEq, Prod.mk.injEq] at h
    obtain ⟨rfl, rfl⟩ := h
    exact .inl ⟨rfl, rfl⟩
  · rename_i y
    split at h
    · rename_i g k i he
      simp only [Option.some.injEq, Prod.mk.injEq] at h
      obtain ⟨rfl, rfl⟩ := h
      have := rel_raw (hev y rfl _ _ he (hc g (by simp)))
      exact .inr ⟨k, i, rfl, by simp [this]⟩
    · cases h
theorem slice_lst {t sz n : Nat} {el : Nat → List AV} {lo hi : Option Operand} {l h : Option Int} (u1 : P.underlying t = some (.slice (P.elem t))) (hs : (sizeOf (P.elem t)).run P w = .ok sz w)
    (o1 : (lo = none ∧ l = none) ∨ ∃ k i, l = some i ∧ lo.map a.eval = some (.int k i)) (o2 : (hi = none ∧ h = none) ∨ ∃ k i, h = some i ∧ hi.map a.eval = some (.int k i)) (hb : 0 ≤ loI l ∧ loI l ≤ hiI n h ∧ hiI n h ≤ n) {x : Value} (hx : (AV.lst sz n el).rel G w x) :
    ∃ u, (Instr.slice t x (lo.map a.eval) (hi.map a.eval) none).run P w = .ok u w ∧ (AV.lst sz (cutN n l h) (cutE el l)).rel G w u := by
  obtain ⟨A, cap, rfl, hnc, hcm, hA⟩ := hx
  obtain ⟨b1, b2, b3⟩ := hb
  have run : (Instr.slice t (.slice A n cap) (lo.map a.eval) (hi.map a.eval) none).run P w = .ok (sliced A (loI l).toNat (hiI n h).toNat cap sz) w := by
    rcases o1 with ⟨rfl, rfl⟩ | ⟨k, i, rfl, e1⟩ <;> rcases o2 with ⟨rfl, rfl⟩ | ⟨k', i', rfl, e2⟩
    · simp only [Option.map_none, run_slice_all w t A n cap u1, hs, loI, hiI, Int.toNat_natCast]; rfl
    · simp only [loI, hiI] at b1 b2 b3
      simp only [Option.map_none, e2, run_slice_h w t A n cap u1 k' i' (by omega) (by omega), hs, loI, hiI]; rfl
    · simp only [loI, hiI] at b1 b2 b3
      simp only [Option.map_none, e1, run_slice_l w t A n cap u1 k i (by omega) (by omega), hs, loI, hiI, Int.toNat_natCast]; rfl
    · simp only [loI, hiI] at b1 b2 b3
      simp only [e1, e2, run_slice_lh w t A n cap u1 k k' i i' (by omega) (by omega) (by omega), hs, loI, hiI]; rfl
  refine ⟨_, run, ?_⟩
  have hN : cutN n l h = (hiI n h).toNat - (loI l).toNat := by
    cases l <;> cases h <;> simp [cutN, loI, hiI]
  have hE : ∀ i, cutE el l i = el ((loI l).toNat + i) := by
    intro i; cases l <;> simp [cutE, loI]
  rw [hN]
  refine ⟨_, _, rfl, by omega, by omega, fun hn => ?_⟩
  obtain ⟨b, o, rfl, hc⟩ := hA (by omega)
  rw [if_neg (by omega)]
  have hadd : (⟨b, o, none⟩ : Addr).add ((loI l).toNat * sz) = ⟨b, o + (loI l).toNat * sz, none⟩ := by
    unfold Addr.add; split
    · rename_i h0; rw [h0]; rfl
    · rfl
  refine ⟨b, o + (loI l).toNat * sz, by simp [hadd], fun i hi => ?_⟩
  obtain ⟨vs, h1, h2, h3⟩ := hc ((loI l).toNat + i) (by omega)
  rw [hE]
  refine ⟨vs, h1, h2, fun j u hj => ?_⟩
  have := h3 j u hj
  rwa [Nat.add_mul, ← Nat.add_assoc] at this
theorem slice_str {t : Nat} {s : ByteArray} {lo hi : Option Operand} {l h : Option Int} (u1 : P.underlying t = some .string)
    (o1 : (lo = none ∧ l = none) ∨ ∃ k i, l = some i ∧ lo.map a.eval = some (.int k i)) (o2 : (hi = none ∧ h = none) ∨ ∃ k i, h = some i ∧ hi.map a.eval = some (.int k i)) (hb : 0 ≤ loI l ∧ loI l ≤ hiI s.size h ∧ hiI s.size h ≤ s.size) :
    (Instr.slice t (.string s) (lo.map a.eval) (hi.map a.eval) none).run P w = .ok (.string (s.extract (loI l).toNat (hiI s.size h).toNat)) w := by
  obtain ⟨b1, b2, b3⟩ := hb
  rcases o1 with ⟨rfl, rfl⟩ | ⟨k, i, rfl, e1⟩ <;> rcases o2 with ⟨rfl, rfl⟩ | ⟨k', i', rfl, e2⟩ <;> simp only [loI, hiI] at b1 b2 b3 ⊢
  · simp [Instr.slice, run_underlying u1, Instr.sliceBounds]
  · simp [Instr.slice, run_underlying u1, Instr.sliceBounds, e2, run_sliceBound w k' i' s.size _ (by omega) (by omega)]
  · simp [Instr.slice, run_underlying u1, Instr.sliceBounds, e1, run_sliceBound w k i s.size _ (by omega) (by omega)]
  · simp [Instr.slice, run_underlying u1, Instr.sliceBounds, e1, e2, run_sliceBound w k' i' s.size _ (by omega) (by omega), run_sliceBound w k i i'.toNat _ (by omega) (by omega)]
theorem opA_sound (hT : TOk P T) (hm : MSat G w st.bx st.rw) {o : Oper} (hev : ∀ x ∈ o.op.operands.toList, EvOk G w a st x) {cs : List Bool} {r : AV} {p : Prop}
    (h : opA T st o.op = some (cs, r, p)) (hc : ∀ c ∈ cs, c = true) (hp : p) : ∃ v, (execOp a.eval o).run P w = .ok (.value v) w ∧ r.rel G w v := by
  obtain ⟨dst, op, type, pos, after, guard⟩ := o
  simp only at h hev
  cases op with
  | move x =>
    simp only [opA] at h
    split at h
    · rename_i g v he
      simp only [Option.some.injEq, Prod.mk.injEq] at h
      obtain ⟨rfl, rfl, rfl⟩ := h
      exact ⟨a.eval x, by simp [execOp], hev x (by simp [Op.operands]) _ _ he (hc g (by simp))⟩
    · cases h
  | assign x =>
    simp only [opA] at h
    split at h
    · rename_i g v he
      simp only [Option.some.injEq, Prod.mk.injEq] at h
      obtain ⟨rfl, rfl, rfl⟩ := h
      exact ⟨a.eval x, by simp [execOp], hev x (by simp [Op.operands]) _ _ he (hc g (by simp))⟩
    · cases h
  | pick c x y =>
    simp only [opA] at h
    split at h
    · rename_i gc vc ga va gb vb h1 h2 h3
      simp only [Option.some.injEq, Prod.mk.injEq] at h
      obtain ⟨rfl, rfl, rfl⟩ := h
      have e1 := rel_raw (hev c (by simp [Op.operands]) _ _ h1 (hc gc (by simp)))
      cases vc
      · have e3 := rel_raw (hev y (by simp [Op.operands]) _ _ h3 (hp.2 rfl))
        exact ⟨_, by simp only [execOp, e1, asBool]; simp; rfl, by simp only [AV.rel]; exact e3⟩
      · have e2 := rel_raw (hev x (by simp [Op.operands]) _ _ h2 (hp.1 rfl))
        exact ⟨_, by simp only [execOp, e1, asBool]; simp; rfl, by simp only [AV.rel]; exact e2⟩
    · cases h
  | nilCheck x =>
    simp only [opA] at h
    split at h
    · rename_i g b off he
      simp only [Option.some.injEq, Prod.mk.injEq] at h
      obtain ⟨rfl, rfl, rfl⟩ := h
      have hx := hev x (by simp [Op.operands]) _ _ he (hc g (by simp))
      obtain ⟨blk, h1, h2⟩ := id hx
      exact ⟨a.eval x, by simp [execOp, h2], hx⟩
    · rename_i g cs' off he
      simp only [Option.some.injEq, Prod.mk.injEq] at h
      obtain ⟨rfl, rfl, rfl⟩ := h
      have hx := hev x (by simp [Op.operands]) _ _ he (hc g (by simp))
      obtain ⟨b, o, vs, h1, h2⟩ := id hx
      exact ⟨a.eval x, by simp [execOp, h1], hx⟩
    · cases h
  | load t x =>
    simp only [opA] at h
    split at h
    · rename_i g cs' off i h1 h2
      simp only [Option.some.injEq, Prod.mk.injEq] at h
      obtain ⟨rfl, rfl, rfl⟩ := h
      obtain ⟨b, o, vs, e1, e2, e3⟩ := hev x (by simp [Op.operands]) _ _ h1 (hc g (by simp))
      have hl := AV.relL_length e2
      refine ⟨_, ?_, cutA_rel e2 hp.1 hp.2⟩
      simp only [execOp, e1, Sem.run_bind]
      rw [load_run (hT _ _ h2) hp.1 (by omega) (fun j u hj => (e3 j u hj).2)]
      rfl
    · rename_i g b off i h1 h2
      split at h
      · rename_i cs' h3
        simp only [Option.some.injEq, Prod.mk.injEq] at h
        obtain ⟨rfl, rfl, rfl⟩ := h
        obtain ⟨blk, e1, e2⟩ := hev x (by simp [Op.operands]) _ _ h1 (hc g (by simp))
        obtain ⟨_, vs, E, e3, e4⟩ := hm.box _ _ _ h3 e1
        have hl := AV.relL_length e4
        refine ⟨_, ?_, cutA_rel e4 hp.1 hp.2⟩
        simp only [execOp, e2, Sem.run_bind]
        have := load_run (P := P) (w := w) (hT _ _ h2) (b := blk) (o := 0) (off := off) (vs := vs) hp.1 (by omega) (fun j u hj => by simpa [World.cell?, e3] using hj)
        rw [Nat.zero_add] at this
        rw [this]
        rfl
      · cases h
    · cases h
  | fieldAddr s x f =>
    simp only [opA] at h
    split at h
    · rename_i g cs' off fs _ _ _ _ h1 h2
      split at h
      · rename_i fo ft h3
        split at h
        · rename_i j h4
          simp only [Option.some.injEq, Prod.mk.injEq] at h
          obtain ⟨rfl, rfl, rfl⟩ := h
          obtain ⟨b, o, vs, e1, e2, e3⟩ := hev x (by simp [Op.operands]) _ _ h1 (hc g (by simp))
          refine ⟨.pointer (some ⟨b, o + (off + fo), none⟩), ?_, b, o, vs, rfl, e2, e3⟩
          simp only [execOp, e1, Sem.run_bind]
          rw [fieldAt_run (hT _ _ h2) rfl h3 (hT _ _ h4) hp, ← Nat.add_assoc]
          rfl
        · cases h
      · cases h
    · rename_i g b off fs _ _ _ _ h1 h2
      split at h
      · rename_i fo ft h3
        split at h
        · rename_i j h4
          simp only [Option.some.injEq, Prod.mk.injEq] at h
          obtain ⟨rfl, rfl, rfl⟩ := h
          obtain ⟨blk, e1, e2⟩ := hev x (by simp [Op.operands]) _ _ h1 (hc g (by simp))
          refine ⟨.pointer (some ⟨blk, off + fo, none⟩), ?_, blk, e1, rfl⟩
          simp only [execOp, e2, Sem.run_bind]
          rw [fieldAt_run (hT _ _ h2) rfl h3 (hT _ _ h4) hp]
          rfl
        · cases h
      · cases h
    · cases h
  | field s x f =>
    simp only [opA] at h
    split at h
    · rename_i g cs' fs _ _ _ _ h1 h2
      split at h
      · rename_i fo ft h3
        split at h
        · rename_i j h4
          simp only [Option.some.injEq, Prod.mk.injEq] at h
          obtain ⟨rfl, rfl, rfl⟩ := h
          obtain ⟨vs, e1, e2⟩ := hev x (by simp [Op.operands]) _ _ h1 (hc g (by simp))
          have hl := AV.relL_length e2
          refine ⟨_, ?_, cutA_rel e2 hp.1 hp.2⟩
          simp only [execOp, e1, Sem.run_bind]
          rw [field_run (hT _ _ h2) rfl h3 (hT _ _ h4) hp.1 (by omega)]
          rfl
        · cases h
      · cases h
    · cases h
  | indexAddr t x ix =>
    simp only [opA] at h
    split at h
    · rename_i e _ _ _ _ h4
      split at h
      · rename_i g v g' k i h1 h2
        split at h
        · rename_i sz n el q j h3 h5
          simp only [Option.some.injEq, Prod.mk.injEq] at h
          obtain ⟨rfl, rfl, rfl⟩ := h
          obtain ⟨p1, p2, p3, p4⟩ := hp
          obtain ⟨A, cap, e1, _, _, e2⟩ := asL_sound hm h3 p4 (hev x (by simp [Op.operands]) _ _ h1 (hc g (by simp)))
          have e3 := rel_raw (hev ix (by simp [Op.operands]) _ _ h2 (hc g' (by simp)))
          obtain ⟨b, o, rfl, e4⟩ := e2 (by omega)
          obtain ⟨vs, e5, e6, e7⟩ := e4 i.toNat (by omega)
          refine ⟨.pointer (some ⟨b, o + i.toNat * sz, none⟩), ?_, b, o + i.toNat * sz, vs, rfl, e5, e7⟩
          simp only [execOp, e1, e3, Sem.run_bind]
          rw [indexAt_run (hT _ _ h4) rfl (hT _ _ h5) p1 p2, p3]
          rfl
        · cases h
      · cases h
    · rename_i m e _ _ _ _ h4
      split at h
      · rename_i g cs' off g' k i j h1 h2 h3
        simp only [Option.some.injEq, Prod.mk.injEq] at h
        obtain ⟨rfl, rfl, rfl⟩ := h
        obtain ⟨b, o, vs, e1, e2, e3⟩ := hev x (by simp [Op.operands]) _ _ h1 (hc g (by simp))
        have e4 := rel_raw (hev ix (by simp [Op.operands]) _ _ h2 (hc g' (by simp)))
        refine ⟨.pointer (some ⟨b, o + (off + i.toNat * j.size), none⟩), ?_, b, o, vs, rfl, e2, e3⟩
        simp only [execOp, e1, e4, Sem.run_bind]
        rw [indexArr_run (hT _ _ h4) rfl (hT _ _ h3) hp.1 hp.2, ← Nat.add_assoc]
        rfl
      · rename_i g b off g' k i j h1 h2 h3
        simp only [Option.some.injEq, Prod.mk.injEq] at h
        obtain ⟨rfl, rfl, rfl⟩ := h
        obtain ⟨blk, e1, e2⟩ := hev x (by simp [Op.operands]) _ _ h1 (hc g (by simp))
        have e4 := rel_raw (hev ix (by simp [Op.operands]) _ _ h2 (hc g' (by simp)))
        refine ⟨.pointer (some ⟨blk, off + i.toNat * j.size, none⟩), ?_, blk, e1, rfl⟩
        simp only [execOp, e2, e4, Sem.run_bind]
        rw [indexArr_run (hT _ _ h4) rfl (hT _ _ h3) hp.1 hp.2]
        rfl
      · cases h
    · cases h
  | index t x ix =>
    simp only [opA] at h
    split at h
    · rename_i m e _ _ _ _ h4
      split at h
      · rename_i g cs' g' k i j h1 h2 h3
        simp only [Option.some.injEq, Prod.mk.injEq] at h
        obtain ⟨rfl, rfl, rfl⟩ := h
        obtain ⟨vs, e1, e2⟩ := hev x (by simp [Op.operands]) _ _ h1 (hc g (by simp))
        have e4 := rel_raw (hev ix (by simp [Op.operands]) _ _ h2 (hc g' (by simp)))
        have hl := AV.relL_length e2
        refine ⟨_, ?_, cutA_rel e2 hp.2.1 hp.2.2⟩
        simp only [execOp, e1, e4, Sem.run_bind]
        rw [index_run (hT _ _ h4) rfl (hT _ _ h3) hp.1.1 hp.1.2 hp.2.1 (by rw [hl]; exact hp.2.2)]
        rfl
      · cases h
    · rename_i h4
      split at h
      · rename_i g s g' k i h1 h2
        simp only [Option.some.injEq, Prod.mk.injEq] at h
        obtain ⟨rfl, rfl, rfl⟩ := h
        have e1 := rel_raw (hev x (by simp [Op.operands]) _ _ h1 (hc g (by simp)))
        have e4 := rel_raw (hev ix (by simp [Op.operands]) _ _ h2 (hc g' (by simp)))
        refine ⟨_, ?_, rfl⟩
        simp only [execOp, e1, e4, Sem.run_bind]
        rw [indexStr_run (hT _ _ h4) rfl hp.1 hp.2]
        rfl
      · cases h
    · cases h
  | convert s t x =>
    simp only [opA] at h
    split at h
    · rename_i i k _ _ _ _ h1 h2
      split at h
      · rename_i g k' n h3
        simp only [Option.some.injEq, Prod.mk.injEq] at h
        obtain ⟨rfl, rfl, rfl⟩ := h
        have e1 := rel_raw (hev x (by simp [Op.operands]) _ _ h3 (hc g (by simp)))
        obtain ⟨d, e2, e3⟩ := (hT _ _ h2).und_some
        have e4 : P.intKind t = k := by simp [Program.intKind, e2, tkOf_int e3]
        obtain ⟨d', e5, _⟩ := (hT _ _ h1).und_some
        have e6 := run_convert_int (P := P) w s t k' n (by rw [e5]; rfl) (by rw [e2, tkOf_int e3, e4])
        refine ⟨.int k (k.wrap n), ?_, ?_⟩
        · simp only [execOp, e1, Sem.run_bind, e6, e4]
          rfl
        · simp only [AV.rel]
          unfold wrapA
          unfold wrapP at hp
          split <;> first | rfl | (rw [inK_wrap hp])
      · cases h
    · rename_i e _ _ _ _ _ _ _ _ h1 h2
      split at h
      · rename_i g v h3 h4
        split at h
        · rename_i sz n el p' h5
          simp only [Option.some.injEq, Prod.mk.injEq] at h
          obtain ⟨rfl, rfl, rfl⟩ := h
          obtain ⟨hp', hsz, hel⟩ := hp
          have e1 := asL_sound hm h5 hp' (hev x (by simp [Op.operands]) _ _ h4 (hc g (by simp)))
          obtain ⟨d1, q1, q2⟩ := (hT _ _ h1).und_some
          obtain ⟨d2, q3, q4⟩ := (hT _ _ h2).und_some
          obtain ⟨d3, q5, q6⟩ := (hT _ _ h3).und_some
          have u1 : P.underlying s = some (.slice e) := by rw [q1, tkOf_slice q2]
          have u2 : P.underlying t = some .string := by rw [q3, tkOf_str q4]
          have u3 : P.underlying e = some (.int .u8) := by rw [q5, tkOf_int q6]
          exact ⟨_, by simp only [execOp, Sem.run_bind, conv_str hsz hel u1 u3 u2 e1]; rfl, rfl⟩
        · cases h
      · cases h
    · cases h
  | slice t x lo hi mx =>
    cases mx with
    | some mx =>
      cases lo with
      | some _ => simp [opA] at h
      | none =>
      cases hi with
      | none => simp [opA] at h
      | some hi =>
      simp only [opA] at h
      split at h
      · rename_i e _ _ _ _ g v gh k h' gm k' m h1 h2 h3 h4
        split at h
        · rename_i j sz n el p' h5 h6
          simp only [Option.some.injEq, Prod.mk.injEq] at h
          obtain ⟨rfl, rfl, rfl⟩ := h
          obtain ⟨⟨b1, b2, b3⟩, hsz, hp'⟩ := hp
          subst b3
          have e1 := asL_sound hm h6 hp' (hev x (by simp [Op.operands]) _ _ h2 (hc g (by simp)))
          have e2 := rel_raw (hev hi (by simp [Op.operands]) _ _ h3 (hc gh (by simp)))
          have e3 := rel_raw (hev mx (by simp [Op.operands]) _ _ h4 (hc gm (by simp)))
          obtain ⟨d1, q1, q2⟩ := (hT _ _ h1).und_some
          have u1 : P.underlying t = some (.slice (P.elem t)) := by rw [q1, tkOf_slice q2]; simp [Program.elem, q1, tkOf_slice q2]
          have u2 : P.elem t = e := by simp [Program.elem, q1, tkOf_slice q2]
          have s1 := (hT _ _ h5).size_run w
          rw [← u2] at s1
          obtain ⟨A, cap, hx, hnc, hcm, hA⟩ := id e1
          rw [hx] at e1
          refine ⟨.slice A m.toNat m.toNat, ?_, ⟨A, m.toNat, rfl, Nat.le_refl _, by omega, fun hn => ?_⟩, A, m.toNat, rfl⟩
          · have r1 : (Instr.slice t (.slice A n cap) none (some (.int k m)) (some (.int k' m))).run P w = .ok (.slice A m.toNat m.toNat) w := by
              cases A with
              | none => simp [Instr.slice, run_underlying u1, Instr.sliceBounds, run_sliceBound w k m m.toNat _ b1 (by omega), run_sliceBound w k' m cap _ b1 (by omega), s1, sliced]
              | some a => simp [Instr.slice, run_underlying u1, Instr.sliceBounds, run_sliceBound w k m m.toNat _ b1 (by omega), run_sliceBound w k' m cap _ b1 (by omega), s1, sliced, Addr.add]
            simp only [execOp, Sem.run_bind, run_sliceAt_slice w t _ _ _ _ u1, Option.map_none, Option.map_some, hx, e2, e3, r1]
            rfl
          · obtain ⟨b, o, hA1, hc1⟩ := hA (by omega)
            exact ⟨b, o, hA1, fun i hi => hc1 i (by omega)⟩
        · cases h
      · cases h
    | none =>
    simp only [opA] at h
    split at h
    · rename_i e _ _ _ _ h1
      split at h
      · rename_i g v j gl l gh hh h2 h3 h4 h5
        split at h
        · rename_i sz n el p' h6
          simp only [Option.some.injEq, Prod.mk.injEq] at h
          obtain ⟨rfl, rfl, rfl⟩ := h
          obtain ⟨hb, hsz, hp'⟩ := hp
          have e1 := asL_sound hm h6 hp' (hev x (by simp [Op.operands]) _ _ h2 (hc g (by simp)))
          obtain ⟨d1, q1, q2⟩ := (hT _ _ h1).und_some
          have u1 : P.underlying t = some (.slice (P.elem t)) := by rw [q1, tkOf_slice q2]; simp [Program.elem, q1, tkOf_slice q2]
          have u2 : P.elem t = e := by simp [Program.elem, q1, tkOf_slice q2]
          have o1 := optI_sound (fun y hy => hev y (by simp [Op.operands, hy])) h4 (fun c hcc => hc c (by simp [hcc]))
          have o2 := optI_sound (fun y hy => hev y (by simp [Op.operands, hy])) h5 (fun c hcc => hc c (by simp [hcc]))
          have s1 := (hT _ _ h3).size_run w
          rw [← u2] at s1
          obtain ⟨u, r1, r2⟩ := slice_lst u1 (by rw [s1, hsz]) o1 o2 hb e1
          exact ⟨u, by simp only [execOp, Sem.run_bind, run_sliceAt_slice w t _ _ _ _ u1, Option.map_none, r1]; rfl, r2⟩
        · cases h
      · cases h
    · rename_i h1
      split at h
      · rename_i g b gl l gh hh h2 h4 h5
        simp only [Option.some.injEq, Prod.mk.injEq] at h
        obtain ⟨rfl, rfl, rfl⟩ := h
        have e1 := rel_raw (hev x (by simp [Op.operands]) _ _ h2 (hc g (by simp)))
        obtain ⟨d1, q1, q2⟩ := (hT _ _ h1).und_some
        have u1 : P.underlying t = some .string := by rw [q1, tkOf_str q2]
        have o1 := optI_sound (fun y hy => hev y (by simp [Op.operands, hy])) h4 (fun c hcc => hc c (by simp [hcc]))
        have o2 := optI_sound (fun y hy => hev y (by simp [Op.operands, hy])) h5 (fun c hcc => hc c (by simp [hcc]))
        exact ⟨_, by simp only [execOp, Sem.run_bind, run_sliceAt_string w t _ _ _ _ u1, Option.map_none, e1, slice_str u1 o1 o2 hp]; rfl, rfl⟩
      · cases h
    · cases h
  | binOp op t x y t' =>
    simp only [opA] at h
    split at h
    · rename_i g v g' v' h1 h2
      split at h
      · rename_i r' q h3
        simp only [Option.some.injEq, Prod.mk.injEq] at h
        obtain ⟨rfl, rfl, rfl⟩ := h
        obtain ⟨u, e1, e2⟩ := binA_sound (P := P) h3 hp (hev x (by simp [Op.operands]) _ _ h1 (hc g (by simp))) (hev y (by simp [Op.operands]) _ _ h2 (hc g' (by simp))) t x y
        refine ⟨u, ?_, e2⟩
        simp only [execOp, Sem.run_bind] at e1 ⊢
        rw [e1]
        rfl
      · split at h
        · rename_i r' q h3
          simp only [Option.some.injEq, Prod.mk.injEq] at h
          obtain ⟨rfl, rfl, rfl⟩ := h
          obtain ⟨u, e1, e2⟩ := eqA2_sound hT h3 hp (hev x (by simp [Op.operands]) _ _ h1 (hc g (by simp))) (hev y (by simp [Op.operands]) _ _ h2 (hc g' (by simp))) x y
          refine ⟨u, ?_, e2⟩
          simp only [execOp, Sem.run_bind] at e1 ⊢
          rw [e1]
          rfl
        · cases h
    · cases h
  | makeInterface t x =>
    simp only [opA] at h
    split at h
    · rename_i i g v hi he
      cases hk : i.k.isIface with
      | true => rw [hk] at h; cases h
      | false =>
        rw [hk] at h
        simp only [cond_false, Option.some.injEq, Prod.mk.injEq] at h
        obtain ⟨rfl, rfl, rfl⟩ := h
        obtain ⟨d, h1, h2, _⟩ := (hT t i hi).und_run w
        have hd : ∀ ms, d ≠ .interface ms := fun ms e => by subst e; rw [← h2] at hk; cases hk
        refine ⟨.iface t (a.eval x), ?_, a.eval x, rfl, hev x (by simp [Op.operands]) _ _ he (hc g (by simp))⟩
        simp only [execOp, Instr.makeInterface, Sem.run_bind, h1, Result.andThen_ok]
        cases d with
        | interface ms => exact absurd rfl (hd ms)
        | _ => rfl
    · cases h
  | unOp op t x =>
    simp only [opA] at h
    split at h
    · rename_i g v h1
      split at h
      · rename_i r' q h3
        simp only [Option.some.injEq, Prod.mk.injEq] at h
        obtain ⟨rfl, rfl, rfl⟩ := h
        obtain ⟨u, e1, e2⟩ := unA_sound (P := P) h3 hp (hev x (by simp [Op.operands]) _ _ h1 (hc g (by simp)))
        refine ⟨u, ?_, e2⟩
        simp only [execOp, Sem.run_bind, e1]
        rfl
      · cases h
    · cases h
  | extract x i =>
    simp only [opA] at h
    split at h
    · rename_i g vs h1
      simp only [Option.some.injEq, Prod.mk.injEq] at h
      obtain ⟨rfl, rfl, rfl⟩ := h
      obtain ⟨us, e1, e2⟩ := hev x (by simp [Op.operands]) _ _ h1 (hc g (by simp))
      obtain ⟨v, e3, e4⟩ := AV.relL_get e2 (nthA_get hp)
      refine ⟨v, ?_, e4⟩
      simp [execOp, e1, Instr.extract, e3]
    · cases h
  | call c =>
    obtain ⟨callee, args, argTypes⟩ := c
    obtain ⟨args⟩ := args
    obtain ⟨argTypes⟩ := argTypes
    cases callee with
    | builtin b =>
      cases b <;> simp only [opA, reduceCtorEq] at h
      case len =>
        split at h
        · split at h
          · rename_i g v h3
            split at h
            · rename_i r' q h4
              simp only [Option.some.injEq, Prod.mk.injEq] at h
              obtain ⟨rfl, rfl, rfl⟩ := h
              obtain ⟨u, e1, e2⟩ := lenA_sound (ty := type) hT hm h4 hp (hev _ (by simp [Op.operands, Call.operands]) _ _ h3 (hc g (by simp)))
              refine ⟨u, ?_, e2⟩
              simp [execOp, resolve, invoke, builtin, e1]
            · cases h
          · cases h
        · cases h
      case min =>
        split at h
        · rename_i cs' vs h1
          split at h
          · rename_i r' q h2
            simp only [Option.some.injEq, Prod.mk.injEq] at h
            obtain ⟨rfl, rfl, rfl⟩ := h
            have e1 := evL_sound (fun x hx => hev x (by simp [Op.operands, Call.operands]; exact hx)) h1 hc
            unfold minA at h2
            split at h2
            · simp only [Option.some.injEq, Prod.mk.injEq] at h2
              obtain ⟨rfl, rfl⟩ := h2
              obtain ⟨v1, r1, e2, e3, v2, r2, e4, e5, e6⟩ := e1
              rw [rel_raw e3] at e2
              rw [rel_raw e5, show r2 = [] from e6] at e4
              rw [e4] at e2
              refine ⟨_, ?_, rfl⟩
              simp [execOp, resolve, invoke, builtin, e2, min_run]
            · cases h2
          · cases h
        · cases h
      case max =>
        split at h
        · rename_i cs' vs h1
          split at h
          · rename_i r' q h2
            simp only [Option.some.injEq, Prod.mk.injEq] at h
            obtain ⟨rfl, rfl, rfl⟩ := h
            have e1 := evL_sound (fun x hx => hev x (by simp [Op.operands, Call.operands]; exact hx)) h1 hc
            unfold maxA at h2
            split at h2
            · simp only [Option.some.injEq, Prod.mk.injEq] at h2
              obtain ⟨rfl, rfl⟩ := h2
              obtain ⟨v1, r1, e2, e3, v2, r2, e4, e5, e6⟩ := e1
              rw [rel_raw e3] at e2
              rw [rel_raw e5, show r2 = [] from e6] at e4
              rw [e4] at e2
              refine ⟨_, ?_, rfl⟩
              simp [execOp, resolve, invoke, builtin, e2, max_run]
            · cases h2
          · cases h
        · cases h
    | _ => simp only [opA, reduceCtorEq] at h
  | makeFunc f first cap =>
    obtain ⟨first⟩ := first
    obtain ⟨cap⟩ := cap
    simp only [opA] at h
    split at h
    · rename_i c1 v1 c2 v2 h1 h2
      simp only [Option.some.injEq, Prod.mk.injEq] at h
      obtain ⟨rfl, rfl, rfl⟩ := h
      have e1 := evL_sound (fun x hx => hev x (by simp [Op.operands] at hx ⊢; exact .inl hx)) h1 fun c hc' => hc c (by simp [hc'])
      have e2 := evL_sound (fun x hx => hev x (by simp [Op.operands] at hx ⊢; exact .inr hx)) h2 fun c hc' => hc c (by simp [hc'])
      exact ⟨.func f (first.map a.eval).toArray (cap.map a.eval).toArray, by simp [execOp, Instr.makeFunc], _, _, rfl, e1, e2⟩
    · cases h
  | build t parts =>
    simp only [opA] at h
    have zr : ∀ z : List Value, AV.relL G w (z.map .raw) z := fun z => AV.relL_mk (by simp) fun j x v hx hv => by
      rw [List.getElem?_map, hv] at hx
      simp only [Option.map_some, Option.some.injEq] at hx
      subst hx; rfl
    have hev' : ∀ q ∈ parts.toList, EvOk G w a st q.2 := fun q hq => hev q.2 (by simp [Op.operands]; exact ⟨q.1, by simpa using hq⟩)
    split at h
    · rename_i fs _ _ z _ h1
      split at h
      · rename_i ps h2
        split at h
        · rename_i gs cs' p' h3
          simp only [Option.some.injEq, Prod.mk.injEq] at h
          obtain ⟨rfl, rfl, rfl⟩ := h
          obtain ⟨us, e1, e2⟩ := fillA_sound (a := a) hm _ _ _ _ _ _ hev' h3 hc hp (zr z)
          refine ⟨.agg us.toArray, ?_, us, rfl, e2⟩
          have := build_run (w := w) (hT _ _ h1) (parts := parts.map fun q => (q.1, a.eval q.2)) (us := us) (.inl ⟨fs, ps, rfl, fun l hl => placesA_sound hT l ps (by rw [hl]; exact h2), by simpa using e1⟩)
          simp only [execOp, Sem.run_bind, this]
          rfl
        · cases h
      · cases h
    · rename_i n e _ _ z _ h1
      split at h
      · rename_i j h2
        split at h
        · rename_i gs cs' p' h3
          simp only [Option.some.injEq, Prod.mk.injEq] at h
          obtain ⟨rfl, rfl, rfl⟩ := h
          obtain ⟨us, e1, e2⟩ := fillA_sound (a := a) hm _ _ _ _ _ _ hev' h3 hc hp (zr z)
          refine ⟨.agg us.toArray, ?_, us, rfl, e2⟩
          have := build_run (w := w) (hT _ _ h1) (parts := parts.map fun q => (q.1, a.eval q.2)) (us := us) (.inr ⟨n, e, j, rfl, hT _ _ h2, by simpa using e1⟩)
          simp only [execOp, Sem.run_bind, this]
          rfl
        · cases h
      · cases h
    · cases h
  | _ => simp only [opA, reduceCtorEq] at h
end
end Go.Proofs.YtchpbdecipcelaaGreatDoor
namespace Go.Proofs.YtchpbdecipcelaaGreatDoor
set_option linter.unusedVariables false
set_option linter.unusedSimpArgs false
set_option maxHeartbeats 4000000
set_option maxRecDepth 100000
open Go.RowKit

def cellsO : Obj → Bool
  | .cells .. => true
  | .map .. => true
  | _ => false
def SlotOk (G : Gh) (w : World) (a : Act) (st : ASt) (t : Nat) : Prop := ∀ c x, st.look t = some (c, x) → ∃ v, a.tmps[t]? = some v ∧ (c = true → x.rel G w v) ∧ (c = false → v = undef)

theorem avOf_rel (G : Gh) (w : World) (v : Value) : (avOf v).rel G w v := by
  cases v <;> first | rfl | skip
  rename_i cs
  obtain ⟨cs⟩ := cs
  refine ⟨cs, rfl, ?_⟩
  induction cs with
  | nil => rfl
  | cons c r ih => exact ⟨c, r, rfl, rfl, ih⟩

theorem evOk_of {G : Gh} {w : World} {a : Act} {st : ASt} {x : Operand} (h : ∀ t, x = .tmp t → SlotOk G w a st t) : EvOk G w a st x := by
  intro c av he hc
  cases x with
  | tmp t =>
    obtain ⟨v, h1, h2, _⟩ := h t rfl c av he
    simp only [Act.eval, Array.getD_eq_getD_getElem?, h1, Option.getD_some]
    exact h2 hc
  | const v =>
    simp only [ASt.ev, Option.some.injEq, Prod.mk.injEq] at he
    rw [← he.2]; exact avOf_rel _ _ _
  | global g => simp [ASt.ev] at he
  | func f =>
    simp only [ASt.ev, Option.some.injEq, Prod.mk.injEq] at he
    rw [← he.2]; rfl

structure Ext (bx : List (List AV)) (rw : List ARow) (G : Gh) (w : World) (G' : Gh) (w' : World) : Prop where
  le : G.Le w G' w'
  below : Below w.heap.size w w'
  gbx : G'.bx = G.bx
  grw : G'.rw = G.rw
  mem : MSat G' w' bx rw
  fresh : ∀ b o, G'.imm b o → G.imm b o ∨ w.heap.size ≤ b

theorem Ext.refl {bx : List (List AV)} {rw : List ARow} {G : Gh} {w : World} (h : MSat G w bx rw) : Ext bx rw G w G w :=
  ⟨Gh.Le.refl _ _, Below.refl _ _, rfl, rfl, h, fun _ _ i => .inl i⟩

theorem MSat.lt_imm {bx : List (List AV)} {rw : List ARow} {G : Gh} {w : World} (h : MSat G w bx rw) {b o : Nat} (i : G.imm b o) : b < w.heap.size := by
  have := h.immOk b o i
  cases hc : w.cell? ⟨b, o, none⟩ with
  | none => rw [hc] at this; cases this
  | some v => exact World.block_lt_of_cell? w ⟨b, o, none⟩ hc
theorem MSat.lt_box {bx : List (List AV)} {rw : List ARow} {G : Gh} {w : World} (h : MSat G w bx rw) {blk : Nat} (hb : blk ∈ G.bx) : blk < w.heap.size := by
  obtain ⟨k, hk⟩ := List.mem_iff_getElem?.1 hb
  have hkl : k < bx.length := by have := (List.getElem?_eq_some_iff.1 hk).1; have := h.lenB; omega
  obtain ⟨_, vs', T', h3, _⟩ := h.box k bx[k] blk (List.getElem?_eq_getElem hkl) hk
  rcases Nat.lt_or_ge blk w.heap.size with hl | hl
  · exact hl
  · rw [Array.getElem?_eq_none hl] at h3; cases h3
theorem MSat.lt_row {bx : List (List AV)} {rw' : List ARow} {G : Gh} {w : World} (h : MSat G w bx rw') {k g : Nat} {x : Nat × Value} (hk : G.rw[k]? = some x) (hg : (ownBlk x.2) = some g) : g < w.heap.size := by
  have hkl : k < rw'.length := by have := (List.getElem?_eq_some_iff.1 hk).1; have := h.lenR; omega
  obtain ⟨xs, ho, _⟩ := (h.row k rw'[k] x (List.getElem?_eq_getElem hkl) hk).own
  exact ho.lt hg

theorem msat_keep {bx : List (List AV)} {rw : List ARow} {G : Gh} {w w' : World} (h : MSat G w bx rw) (imm' : Nat → Nat → Prop) (hB : ∀ k, k ∈ G.bx → w'.heap[k]? = w.heap[k]?) (hR : ∀ (k g : Nat) (x : Nat × Value), G.rw[k]? = some x → (ownBlk x.2) = some g → w'.heap[g]? = w.heap[g]?)
    (hI : ∀ b o, G.imm b o → w'.cell? ⟨b, o, none⟩ = w.cell? ⟨b, o, none⟩) (h1 : ∀ b o, G.imm b o → imm' b o) (h2 : ∀ b o, imm' b o → G.imm b o ∨ w.heap.size ≤ b) (h3 : ∀ b o, imm' b o → (w'.cell? ⟨b, o, none⟩).isSome = true) :
    MSat ⟨imm', G.bx, G.rw⟩ w' bx rw ∧ G.Le w ⟨imm', G.bx, G.rw⟩ w' := by
  have le : G.Le w ⟨imm', G.bx, G.rw⟩ w' := ⟨h1, hI, fun _ _ h => h, fun _ e h => ⟨e, h, .inl rfl⟩⟩
  refine ⟨⟨h3, h.lenB, h.lenR, h.nodup, ?_, ?_, h.sepB, h.sepR⟩, le⟩
  · intro k cs blk hk hg
    obtain ⟨e2, vs, T, e3, e4⟩ := h.box k cs blk hk hg
    have hmem := List.mem_of_getElem? hg
    have hl := h.lt_box hmem
    exact ⟨fun o i => (h2 blk o i).elim (e2 o) (fun hge => by omega), vs, T, by rw [hB blk hmem]; exact e3, AV.relL_mono le _ _ e4⟩
  · intro k r x hk hg
    have ro := h.row k r x hk hg
    obtain ⟨xs, ho, hel⟩ := ro.own
    refine ⟨ro.len, ⟨xs, ?_, fun i hi => ?_⟩, fun g hg' o => ?_⟩
    · exact ho.keep fun g h _ => hR k g x hg h
    · obtain ⟨vs, e1, e2⟩ := hel i hi
      exact ⟨vs, AV.relL_mono le _ _ e1, e2⟩
    · rw [← ro.imm g hg' o]
      have := h.lt_row hg hg'
      exact ⟨fun i => (h2 g o i).elim id (fun hge => by omega), h1 g o⟩

theorem msat_ext {bx : List (List AV)} {rw : List ARow} {G : Gh} {w w' : World} (h : MSat G w bx rw) (hb : Below w.heap.size w w') (imm' : Nat → Nat → Prop)
    (h1 : ∀ b o, G.imm b o → imm' b o) (h2 : ∀ b o, imm' b o → G.imm b o ∨ w.heap.size ≤ b) (h3 : ∀ b o, imm' b o → (w'.cell? ⟨b, o, none⟩).isSome = true) : Ext bx rw G w ⟨imm', G.bx, G.rw⟩ w' := by
  obtain ⟨m, le⟩ := msat_keep h imm' (fun k hk => hb.block k (h.lt_box hk)) (fun k g x hk hg => hb.block g (h.lt_row hk hg)) (fun b o i => World.cell?_of_block (w := w) (hb.block b (h.lt_imm i))) h1 h2 h3
  exact ⟨le, hb, rfl, rfl, m, h2⟩

theorem MSat.not_box {bx : List (List AV)} {rw : List ARow} {G : Gh} {w : World} (h : MSat G w bx rw) {m : Nat} {o : Obj} (hm : w.heap[m]? = some o) (ho : cellsO o = false) : m ∉ G.bx := by
  intro hb
  obtain ⟨k, hk⟩ := List.mem_iff_getElem?.1 hb
  have hkl : k < bx.length := by have := (List.getElem?_eq_some_iff.1 hk).1; have := h.lenB; omega
  obtain ⟨_, vs', T', h3, _⟩ := h.box k bx[k] m (List.getElem?_eq_getElem hkl) hk
  rw [hm] at h3; cases h3; cases ho
theorem MSat.not_row {bx : List (List AV)} {rw' : List ARow} {G : Gh} {w : World} (h : MSat G w bx rw') {m : Nat} {o : Obj} (hm : w.heap[m]? = some o) (ho : cellsO o = false) : ∀ x ∈ G.rw, (ownBlk x.2) ≠ some m := by
  intro x hx hg
  obtain ⟨k, hk⟩ := List.mem_iff_getElem?.1 hx
  have hkl : k < rw'.length := by have := (List.getElem?_eq_some_iff.1 hk).1; have := h.lenR; omega
  obtain ⟨xs, ho', _⟩ := (h.row k rw'[k] x (List.getElem?_eq_getElem hkl) hk).own
  rcases ho'.2 with ⟨hv, _⟩ | ⟨g', cap, cur, hv, _, hh, _⟩ | ⟨g', es, ck, hv, _, hh, _⟩
  · rw [hv] at hg; cases hg
  · rw [hv] at hg
    simp only [ownBlk, Option.some.injEq] at hg
    subst hg
    rw [hm] at hh; cases hh; cases ho
  · rw [hv] at hg
    simp only [ownBlk, Option.some.injEq] at hg
    subst hg
    rw [hm] at hh; cases hh; cases ho
theorem EnvD.step {P : Program} {C : Ctx P} {G G' : Gh} {ds : List Deferred} {ys : (Nat × List (List AV)) × List (List AV) × Bool} {D : Nat → Prop} {w w' : World} {bx : List (List AV)} {rw' : List ARow} (e : EnvD C G ds ys D w) (hm : MSat G w bx rw') (le : G.Le w G' w')
    (fresh : ∀ b o, G'.imm b o → G.imm b o ∨ w.heap.size ≤ b ∨ ∃ x ∈ G.rw, (ownBlk x.2) = some b) (hbx : ∀ k ∈ G'.bx, k ∈ G.bx ∨ w.heap.size ≤ k)
    (hrw : ∀ x ∈ G'.rw, ∀ g, (ownBlk x.2) = some g → (∃ y ∈ G.rw, (ownBlk y.2) = some g) ∨ w.heap.size ≤ g) (ho : Outside (fun k => k ∈ G.bx ∨ ∃ x ∈ G.rw, (ownBlk x.2) = some k) w w') : EnvD C G' ds ys D w' := by
  have size := ho.size
  have other : ∀ k, k < w.heap.size → k ∉ G.bx → (∀ x ∈ G.rw, (ownBlk x.2) ≠ some k) → w'.heap[k]? = w.heap[k]? := fun k hk h1 h2 => ho.block k hk fun h => h.elim h1 fun ⟨x, hx, hg⟩ => h2 x hx hg
  refine ⟨e.l, C.stable _ _ _ _ _ _ _ e.cons (ho.mono fun k _ h hd => h.elim (fun h => e.bx k h hd) fun ⟨x, hx, hg⟩ => e.rw x hx k hg hd) (fun b o i => ⟨le.imm b o i, le.cell b o i⟩), e.sub, fun k hk => Nat.lt_of_lt_of_le (e.lt k hk) size, fun k hk hd => ?_, fun x hx g hg hd => ?_, fun b o i => ?_, ?_, fun r hr => ?_⟩
  · rcases hbx k hk with h | h
    · exact e.bx k h hd
    · have := e.lt k hd; omega
  · rcases hrw x hx g hg with ⟨y, h1, h2⟩ | h
    · exact e.rw y h1 g h2 hd
    · have := e.lt g hd; omega
  · rcases fresh b o i with h | h | ⟨x, h1, h2⟩
    · exact e.imm b o h
    · exact .inr fun hd => by have := e.lt b hd; omega
    · exact .inr (e.rw x h1 b h2)
  · obtain ⟨l, h1, h2, h3⟩ := e.marks
    refine ⟨l, h1, h2, fun m hml => ?_⟩
    obtain ⟨h4, h5, h6⟩ := h3 m hml
    have hlt : m < w.heap.size := (Array.getElem?_eq_some_iff.1 h4).1
    exact ⟨by rw [other m hlt (hm.not_box h4 rfl) (hm.not_row h4 rfl)]; exact h4, h5, h6⟩
  · obtain ⟨⟨L, hL⟩, h2⟩ := e.record r hr
    have hlt : r < w.heap.size := (Array.getElem?_eq_some_iff.1 hL).1
    exact ⟨⟨L, by rw [other r hlt (hm.not_box hL rfl) (hm.not_row hL rfl)]; exact hL⟩, h2⟩

theorem EnvD.ext {P : Program} {C : Ctx P} {G G' : Gh} {ds : List Deferred} {ys : (Nat × List (List AV)) × List (List AV) × Bool} {D : Nat → Prop} {w w' : World} {bx : List (List AV)} {rw' : List ARow} (h : EnvD C G ds ys D w) (hm : MSat G w bx rw') (e : Ext bx rw' G w G' w') : EnvD C G' ds ys D w' :=
  h.step hm e.le (fun b o i => (e.fresh b o i).elim .inl fun h => .inr (.inl h)) (fun k hk => .inl (by rw [e.gbx] at hk; exact hk)) (fun x hx g hg => .inl ⟨x, by rw [e.grw] at hx; exact hx, hg⟩) ((Outside.of_below e.below).mono fun _ _ h => h)

theorem Sat.ext {P : Program} {C : Ctx P} {G G' : Gh} {a : Act} {w w' : World} {st : ASt} (h : Sat C G a w st) (e : Ext st.bx st.rw G w G' w') : Sat C G' a w' st := by
  refine ⟨h.size, h.callers, h.frame.trans (.of_below e.below), h.le.trans e.le, fun b o i => ?_, by rw [e.gbx]; exact h.ownB, by rw [e.grw]; exact h.ownR, ?_, e.mem, fun t c x hl => ?_⟩
  · rcases e.fresh b o i with i | i
    · exact h.fresh b o i
    · exact .inr (.inl (Nat.le_trans h.frame.size i))
  · obtain ⟨D, hD⟩ := h.env
    exact ⟨D, hD.ext h.mem e⟩
  · obtain ⟨v, h1, h2, h3⟩ := h.slot t c x hl
    exact ⟨v, h1, fun hc => AV.rel_mono e.le _ _ (h2 hc), h3⟩

theorem lookN_cons {β : Type} (t d : Nat) (x : β) (l : List (Nat × β)) : lookN t ((d, x) :: l) = if t = d then some x else lookN t l := by
  simp only [lookN]
  by_cases h : t = d
  · subst h; simp
  · have : Nat.beq t d = false := by
      cases hb : Nat.beq t d
      · rfl
      · exact absurd (Nat.eq_of_beq_eq_true hb) h
    simp [this, h]

theorem Act.put_get {a : Act} {d : Tmp} {v : Value} {t : Nat} : (a.put (some d) v).tmps[t]? = if d = t then (a.tmps[t]?).map (fun _ => v) else a.tmps[t]? := by
  simp only [Act.put, Array.getElem?_setIfInBounds]
  split
  · split
    · rename_i h; rw [Array.getElem?_eq_getElem (by omega)]; rfl
    · rename_i h; rw [Array.getElem?_eq_none (by omega)]; rfl
  · rfl

theorem Sat.put {P : Program} {C : Ctx P} {G : Gh} {a : Act} {w : World} {st : ASt} (h : Sat C G a w st) {d : Nat} {g : Bool} {x : AV} {v : Value} (hd : d < st.nt) (h1 : g = true → x.rel G w v) (h2 : g = false → v = undef) :
    Sat C G (a.put (some d) v) w (st.put d (g, x)) := by
  have hd : d < a.tmps.size := by rw [h.size]; exact hd
  refine ⟨by simpa [Act.put, ASt.put] using h.size, h.callers, h.frame, h.le, h.fresh, h.ownB, h.ownR, h.env, h.mem, fun t c y hl => ?_⟩
  simp only [ASt.look, ASt.put, lookN_cons] at hl
  rw [Act.put_get]
  by_cases htd : t = d
  · subst htd
    simp only [if_true, Option.some.injEq, Prod.mk.injEq] at hl
    obtain ⟨rfl, rfl⟩ := hl
    exact ⟨v, by simp [Array.getElem?_eq_getElem hd], h1, h2⟩
  · rw [if_neg htd] at hl
    rw [if_neg (Ne.symm htd)]
    exact h.slot t c y hl

def guardA (ops : Array Oper) (st : ASt) (o : Oper) : Option Bool :=
  match o.guard with
  | none => some true
  | some (j, want) => match (ops[j]?).bind (·.dst) with
    | some d => match st.look d with
      | some (c, .raw (.bool b)) => some (c && (bif want then b else !b))
      | _ => none
    | none => none

theorem looks_guard {ops : Array Oper} {o : Oper} {j : Nat} {want : Bool} {d : Nat} (hg : o.guard = some (j, want)) (hd : (ops[j]?).bind (·.dst) = some d) : d ∈ o.looksAt ops := by
  unfold Oper.looksAt
  rw [hg]
  refine List.mem_append_right _ ?_
  simp only [hd]
  simp

theorem guardA_sound {ops : Array Oper} {st : ASt} {o : Oper} {g : Bool} (h : guardA ops st o = some g) {G : Gh} {w : World} {a : Act} (hs : ∀ t ∈ o.looksAt ops, SlotOk G w a st t) : Region.wanted o (yielded ops a.tmps) = g := by
  unfold guardA at h
  unfold Region.wanted
  split at h
  · rename_i hg
    rw [hg]
    simpa using h
  · rename_i j want hg
    rw [hg]
    split at h
    · rename_i d hd
      split at h
      · rename_i c b hl
        simp only [Option.some.injEq] at h
        obtain ⟨v, h1, h2, h3⟩ := hs d (looks_guard hg hd) c _ hl
        simp only [yielded, hd, Option.bind_some, h1]
        subst h
        cases c
        · rw [h3 rfl]; simp [undef]
        · rw [rel_raw (h2 rfl)]
          cases b <;> cases want <;> rfl
      · cases h
    · cases h

theorem semAt_fen (ro : Option Nat) (ρ : Operand → Value) (o : Oper) (h : ∀ c, o.op ≠ .defer c) : Oper.semAt ro ρ o = execOp ρ o := by
  cases ro with
  | none => rfl
  | some l => exact Oper.semAt_some l ρ o h
theorem wpIn_of_run {P : Program} {o : Oper} {a : Act} {w : World} {ro : Option Nat} {K : Act → World → Prop} {Q : Exit → Act → World → Prop} (hd : ∀ c, o.op ≠ .defer c) (h : o.uponIn (fen ro) 0 P a K Q ((execOp a.eval o).run P w)) : o.wpIn (fen ro) 0 P a w K Q :=
  ⟨fun _ _ => trivial, by rw [show (fen ro).round = ro from rfl, semAt_fen ro _ _ hd]; exact h⟩

def OpSpec (P : Program) (ops : Array Oper) (o : Oper) (st : ASt) (g : Bool) (x : AV) : Prop :=
  ∀ (G : Gh) (a : Act) (w : World), Tabs P w → MSat G w st.bx st.rw → (∀ t ∈ o.looksAt ops, SlotOk G w a st t) →
    Region.wanted o (yielded ops a.tmps) = g ∧
    (g = true → ∀ (ro : Option Nat) (K : Act → World → Prop) (Q : Exit → Act → World → Prop), (∀ v G' w', Ext st.bx st.rw G w G' w' → x.rel G' w' v → K (a.put o.dst v) w') → o.wpIn (fen ro) 0 P a w K Q)

theorem looks_operand {ops : Array Oper} {o : Oper} {t : Nat} (h : Operand.tmp t ∈ o.op.operands.toList) : t ∈ o.looksAt ops :=
  List.mem_append_left _ (List.mem_filterMap.2 ⟨_, h, rfl⟩)

theorem opSpec_pure {P : Program} {T : TT} (hT : TOk P T) {ops : Array Oper} {o : Oper} {st : ASt} {g : Bool} {cs : List Bool} {x : AV} {p : Prop} (hg : guardA ops st o = some g) (h : opA T st o.op = some (cs, x, p))
    (hp : g = true → (∀ c ∈ cs, c = true) ∧ p) : OpSpec P ops o st g x := by
  intro G a w htb hm hs
  refine ⟨guardA_sound hg hs, fun hgt ro K Q hK => ?_⟩
  obtain ⟨v, h1, h2⟩ := opA_sound (P := P) (a := a) hT hm (fun y hy => evOk_of fun t ht => hs t (looks_operand (by rw [← ht]; exact hy))) h (hp hgt).1 (hp hgt).2
  refine wpIn_of_run (fun c hc => by rw [hc] at h; simp [opA] at h) ?_
  rw [h1]
  exact hK v G w (Ext.refl hm) h2

def CallOk (P : Program) (f : FuncId) : Prop := ∃ fn, P.funcs[f]? = some fn ∧ (fn.name == "runtime.NumGoroutine") = false ∧ fn.body.isNone = false
theorem CallOk.run {P : Program} {f : FuncId} (h : CallOk P f) (args : Array Value) (w : World) : (callFunc f args).run P w = .ok (.enter f args) w := by
  obtain ⟨fn, h1, h2, h3⟩ := h
  have h2' : ¬ fn.name = "runtime.NumGoroutine" := by simpa using h2
  have h3' : ¬ fn.body = none := by cases hb : fn.body <;> simp_all
  simp [callFunc, program, Sem.run, h1, h2', h3']

structure FnA (P : Program) (f : FuncId) (args : List AV) (r : AV) : Prop where
  ok : CallOk P f
  calls : ∀ (imm : Nat → Nat → Prop) (w : World) (vs : List Value), Tabs P w → (∀ b o, imm b o → (w.cell? ⟨b, o, none⟩).isSome = true) → AV.relL ⟨imm, [], []⟩ w args vs →
    Calls P f vs.toArray w fun e w' => ∃ v imm', e = .returned v ∧ Below w.heap.size w w' ∧ (∀ b o, imm b o → imm' b o) ∧ (∀ b o, imm' b o → imm b o ∨ w.heap.size ≤ b) ∧
      (∀ b o, imm' b o → (w'.cell? ⟨b, o, none⟩).isSome = true) ∧ r.rel ⟨imm', [], []⟩ w' v

def calleeA : AV → Option (FuncId × List AV × List AV)
  | .raw (.func (.func f) ⟨[]⟩ ⟨[]⟩) => some (f, [], [])
  | .fn (.func f) first cap => some (f, first, cap)
  | _ => none
theorem calleeA_func (f : FuncId) : calleeA (.raw (.func (.func f) #[] #[])) = some (f, [], []) := rfl
theorem calleeA_fn (f : FuncId) (first cap : List AV) : calleeA (.fn (.func f) first cap) = some (f, first, cap) := rfl
def callA (st : ASt) (o : Op) : Option (List Bool × FuncId × List AV) :=
  match o with
  | .call c => match c.callee with
    | .value fo => match st.ev fo, st.evL c.args.toList with
      | some (g, v), some (cs, vs) => match calleeA v with
        | some (f, first, cap) => some (g :: cs, f, first ++ vs ++ cap)
        | none => none
      | _, _ => none
    | _ => none
  | _ => none

theorem callA_sound {P : Program} {G : Gh} {w : World} {a : Act} {st : ASt} {o : Oper} {cs : List Bool} {f : FuncId} {args : List AV} (h : callA st o.op = some (cs, f, args)) (hev : ∀ x ∈ o.op.operands.toList, EvOk G w a st x)
    (hc : ∀ c ∈ cs, c = true) (hok : CallOk P f) : ∃ vs : List Value, AV.relL G w args vs ∧ (execOp a.eval o).run P w = .ok (.enter f vs.toArray) w := by
  obtain ⟨dst, op, type, pos, after, guard⟩ := o
  simp only at h hev
  unfold callA at h
  split at h
  · rename_i c
    obtain ⟨callee, args', argTypes⟩ := c
    obtain ⟨args'⟩ := args'
    simp only at h
    split at h
    · rename_i fo
      split at h
      · rename_i g v cs' vs h1 h2
        split at h
        · rename_i f' first cap h3
          simp only [Option.some.injEq, Prod.mk.injEq] at h
          obtain ⟨rfl, rfl, rfl⟩ := h
          have e1 := hev fo (by simp [Op.operands, Call.operands]) _ _ h1 (hc g (by simp))
          have e2 := evL_sound (fun x hx => hev x (by simp [Op.operands, Call.operands]; exact .inr hx)) h2 (fun c hc' => hc c (by simp [hc']))
          unfold calleeA at h3
          split at h3
          · simp only [Option.some.injEq, Prod.mk.injEq] at h3
            obtain ⟨rfl, rfl, rfl⟩ := h3
            refine ⟨_, by simpa using e2, ?_⟩
            have := hok.run (args'.map a.eval).toArray w
            simp only [execOp, resolve, rel_raw e1, Deferred.ofValue, Sem.run_bind, Sem.run_pure, Result.andThen_ok, invoke]
            simpa using this
          · simp only [Option.some.injEq, Prod.mk.injEq] at h3
            obtain ⟨rfl, rfl, rfl⟩ := h3
            obtain ⟨fs, cs, e3, e4, e5⟩ := e1
            refine ⟨_, AV.relL_append (AV.relL_append e4 e2) e5, ?_⟩
            have := hok.run ((fs ++ args'.map a.eval) ++ cs).toArray w
            simp only [execOp, resolve, e3, Deferred.ofValue, Sem.run_bind, Sem.run_pure, Result.andThen_ok, invoke]
            simpa using this
          · cases h3
        · cases h
      · cases h
    · cases h
  · cases h

theorem opSpec_call {P : Program} {ops : Array Oper} {o : Oper} {st : ASt} {g : Bool} {cs : List Bool} {f : FuncId} {args : List AV} {r : AV} (hg : guardA ops st o = some g) (h : callA st o.op = some (cs, f, args))
    (hp : g = true → (∀ c ∈ cs, c = true) ∧ AV.freeL args) (hf : g = true → FnA P f args r) : OpSpec P ops o st g r := by
  intro G a w htb hm hs
  refine ⟨guardA_sound hg hs, fun hgt ro K Q hK => ?_⟩
  have F := hf hgt
  obtain ⟨vs, h1, h2⟩ := callA_sound (P := P) (a := a) h (fun y hy => evOk_of fun t ht => hs t (looks_operand (by rw [← ht]; exact hy))) (hp hgt).1 F.ok
  refine wpIn_of_run (fun c hc => by rw [hc] at h; simp [callA] at h) ?_
  rw [h2, Oper.uponIn_enter]
  refine ⟨fun h => by simp [fen] at h, callsIn_fen ?_⟩
  refine (F.calls G.imm w vs htb hm.immOk (AV.relL_free (G := G) (G' := ⟨G.imm, [], []⟩) (fun _ _ i => i) _ _ (hp hgt).2 h1)).mono ?_
  rintro e w' ⟨v, imm', rfl, hb, i1, i2, i3, hr⟩
  have E := msat_ext hm hb imm' i1 i2 i3
  refine hK v ⟨imm', G.bx, G.rw⟩ w' E (AV.rel_mono (G := ⟨imm', [], []⟩) (G' := ⟨imm', G.bx, G.rw⟩) ⟨fun _ _ i => i, fun _ _ _ => rfl, fun k x hx => by simp at hx, fun k e he => by simp at he⟩ _ _ hr)

def zerosA : Nat → List Value → List AV
  | 0, _ => []
  | n + 1, z => z.map .raw ++ zerosA n z
def zerosV : Nat → List Value → List Value
  | 0, _ => []
  | n + 1, z => z ++ zerosV n z
theorem zerosV_length : ∀ (n : Nat) (z : List Value), (zerosV n z).length = n * z.length
  | 0, z => by simp [zerosV]
  | n + 1, z => by rw [zerosV, List.length_append, zerosV_length n z, Nat.succ_mul, Nat.add_comm]
theorem zerosV_get : ∀ (n : Nat) (z : List Value) (j : Nat), j < n * z.length → (zerosV n z)[j]? = z[j % z.length]?
  | 0, z, j, h => by omega
  | n + 1, z, j, h => by
    rw [zerosV]
    by_cases hj : j < z.length
    · rw [List.getElem?_append_left hj, Nat.mod_eq_of_lt hj]
    · rw [List.getElem?_append_right (by omega), zerosV_get n z (j - z.length) (by rw [Nat.succ_mul] at h; omega)]
      congr 1
      rw [Nat.mod_eq_sub_mod (a := j) (by omega)]
theorem zerosA_rel {G : Gh} {w : World} : ∀ (n : Nat) (z : List Value), AV.relL G w (zerosA n z) (zerosV n z)
  | 0, _ => rfl
  | n + 1, z => AV.relL_append (AV.relL_mk (by simp) fun j x v hx hv => by
      rw [List.getElem?_map, hv] at hx
      simp only [Option.map_some, Option.some.injEq] at hx
      subst hx; rfl) (zerosA_rel n z)
theorem foldSet_size {off : Nat} : ∀ (l : List (Value × Nat)) (cs : Array Value), (l.foldl (fun (cs : Array Value) (q : Value × Nat) => cs.setIfInBounds (off + q.2) q.1) cs).size = cs.size
  | [], _ => rfl
  | q :: l, cs => by rw [List.foldl_cons, foldSet_size l]; simp
theorem fill_size {place : Nat → Option (Nat × Nat)} : ∀ (parts : List (Nat × Value)) (cs us : Array Value), Instr.fill place cs parts = some us → us.size = cs.size
  | [], cs, us, h => by simp only [Instr.fill, Option.some.injEq] at h; rw [h]
  | (i, v) :: r, cs, us, h => by
    unfold Instr.fill at h
    split at h
    · cases h
    · split at h
      · cases h
      · have := fill_size r _ _ h
        rw [this, ← Array.foldl_toList]
        exact foldSet_size _ _
def chunkA (sz : Nat) (cs : List AV) (i : Nat) : List AV := (cs.drop (i * sz)).take sz
theorem freeL_drop : ∀ {cs : List AV} {k : Nat}, AV.freeL cs → AV.freeL (cs.drop k)
  | [], k, h => by simpa using h
  | c :: cs, 0, h => h
  | c :: cs, k + 1, h => by simpa using freeL_drop (k := k) h.2
theorem freeL_take : ∀ {cs : List AV} {k : Nat}, AV.freeL cs → AV.freeL (cs.take k)
  | [], k, h => by simpa using h
  | c :: cs, 0, h => by simp [AV.freeL]
  | c :: cs, k + 1, h => ⟨h.1, freeL_take (k := k) h.2⟩
theorem freeL_chunk {sz i : Nat} {cs : List AV} (h : AV.freeL cs) : AV.freeL (chunkA sz cs i) := freeL_take (freeL_drop h)
def mkA (T : TT) (st : ASt) (o : Op) : Option (List Bool × AV × Prop) :=
  match o with
  | .buildSlice t len parts => match T t with
    | some ⟨.slice e, _, _, _, _⟩ => match T e with
      | some j => match fillA st (fun i => some (i * j.size, j.size)) parts.toList (zerosA len j.zero) with
        | some (gs, cs, p) => some (gs, .lst j.size len (chunkA j.size cs), p ∧ 0 < j.size ∧ len * j.size ≤ 16777216 ∧ j.zero.length = j.size)
        | none => none
      | none => none
    | _ => none
  | _ => none
theorem buildSlice_run {P : Program} {w : World} {t e len : Nat} {i j : TI} (hi : TiOk P t i) (hk : i.k = .slice e) (hj : TiOk P e j) (h0 : 0 < j.size) (hs : len * j.size ≤ 16777216) (hz : j.zero.length = j.size) {parts : Array (Nat × Value)} {us : List Value}
    (hf : Instr.fill (fun i => some (i * j.size, j.size)) (zerosV len j.zero).toArray parts.toList = some us.toArray) :
    (Instr.buildSlice t len parts).run P w = .ok (.slice (some ⟨w.heap.size, 0, none⟩) len len) (w.alloc (.cells us.toArray e)) := by
  obtain ⟨d, h2, h3, hu'⟩ := hi.und_run w
  rw [hk] at h3
  have := tkOf_slice h3
  subst this
  obtain ⟨ie, z, g2, g1, g3, e2⟩ : ∃ ie z, P.info? e = some ie ∧ ie.size = j.size ∧ ie.zero = some z ∧ z.cells.toList = j.zero := by
    have h1 := hj.info
    cases hie : P.info? e with
    | none => rw [hie] at h1; cases h1
    | some x =>
      rw [hie] at h1
      simp only [Option.map_some, Option.some.injEq, Prod.mk.injEq] at h1
      cases hzz : x.zero with
      | none => rw [hzz] at h1; cases h1.1
      | some z =>
        rw [hzz] at h1
        simp only [Option.map_some, Option.some.injEq] at h1
        exact ⟨x, z, rfl, h1.2.1, hzz, h1.1⟩
  rcases Nat.eq_zero_or_pos len with rfl | hpos
  · simp only [zerosV] at hf
    have h0' : (Array.map (fun _ => default) (Array.range 0) : Array Value) = #[] := by simp [Array.range]
    simp [Instr.buildSlice, h2, hj.size_run w, h0', hf, newRow, newObj, Sem.run]
  have hzl : z.cells.size = j.size := by rw [← hz, ← e2]; simp
  have hcells : ((Array.range (len * j.size)).map fun k => z.cells[k % z.cells.size]!) = (zerosV len j.zero).toArray := by
    apply Array.ext'
    simp only [Array.toList_map, Array.toList_range]
    apply List.ext_getElem?
    intro k
    by_cases hk : k < len * j.size
    · rw [zerosV_get _ _ _ (by rw [hz]; exact hk), hz, List.getElem?_map, List.getElem?_range hk]
      simp only [Option.map_some, hzl]
      have hlt : k % j.size < z.cells.size := by rw [hzl]; exact Nat.mod_lt _ h0
      rw [getElem!_pos z.cells _ hlt, ← e2, Array.getElem?_toList, Array.getElem?_eq_getElem hlt]
    · rw [List.getElem?_eq_none (by simp; omega), List.getElem?_eq_none (by rw [zerosV_length, hz]; omega)]
  have h24 : (2 : Nat) ^ 24 = 16777216 := by decide
  have hp1 : 0 < len * j.size := Nat.mul_pos hpos h0
  refine run_buildSlice w t e len parts us.toArray ie z hu' g2 g3 (by rw [g1, h24]; omega) (by rw [g1]; omega) ?_
  rw [g1, hcells]
  exact hf
theorem opSpec_mk {P : Program} {T : TT} (hT : TOk P T) {ops : Array Oper} {o : Oper} {st : ASt} {g : Bool} {cs : List Bool} {x : AV} {p : Prop} (hg : guardA ops st o = some g) (h : mkA T st o.op = some (cs, x, p))
    (hp : g = true → (∀ c ∈ cs, c = true) ∧ p) : OpSpec P ops o st g x := by
  intro G a w htb hm hs
  refine ⟨guardA_sound hg hs, fun hgt ro K Q hK => ?_⟩
  obtain ⟨hc, hq⟩ := hp hgt
  clear hp
  have hev : ∀ y ∈ o.op.operands.toList, EvOk G w a st y := fun y hy => evOk_of fun t ht => hs t (looks_operand (by rw [← ht]; exact hy))
  refine wpIn_of_run (fun c hc => by rw [hc] at h; simp [mkA] at h) ?_
  obtain ⟨dst, op, type, pos, after, guard⟩ := o
  simp only at h hev
  unfold mkA at h
  split at h
  · rename_i t len parts
    split at h
    · rename_i e _ _ _ _ h1
      split at h
      · rename_i j h2
        split at h
        · rename_i gs cs' p' h3
          simp only [Option.some.injEq, Prod.mk.injEq] at h
          obtain ⟨rfl, rfl, rfl⟩ := h
          obtain ⟨q1, q2, q3, q4⟩ := hq
          have hev' : ∀ q ∈ parts.toList, EvOk G w a st q.2 := fun q hq => hev q.2 (by simp [Op.operands]; exact ⟨q.1, by simpa using hq⟩)
          obtain ⟨us, e1, e2⟩ := fillA_sound (a := a) hm _ _ _ _ _ _ hev' h3 hc q1 (zerosA_rel len j.zero)
          have e3 := buildSlice_run (w := w) (hT _ _ h1) rfl (hT _ _ h2) q2 q3 q4 (parts := parts.map fun q => (q.1, a.eval q.2)) (us := us) (by simpa using e1)
          have hlen : us.length = len * j.size := by
            have := fill_size _ _ _ e1
            simp only [List.size_toArray, zerosV_length, q4] at this
            exact this
          simp only [execOp, Sem.run_bind, e3, Result.andThen_ok, Sem.run_pure]
          have hcell : ∀ k u, us[k]? = some u → (w.alloc (.cells us.toArray e)).cell? ⟨w.heap.size, k, none⟩ = some u := fun k u hk => by
            have := heap_alloc_new w (.cells us.toArray e)
            simp only [World.cell?, this]
            simpa using hk
          have E := msat_ext hm ((Below.refl _ _).alloc (Nat.le_refl _) (.cells us.toArray e)) (fun b o => G.imm b o ∨ (b = w.heap.size ∧ o < us.length)) (fun b o i => .inl i) (fun b o i => i.elim .inl fun i => .inr (by omega))
            (fun b o i => by
              rcases i with i | ⟨rfl, i⟩
              · have := hm.lt_imm i
                rw [World.cell?_of_block (w := w) (heap_alloc_old w _ this)]
                exact hm.immOk b o i
              · rw [hcell o us[o] (List.getElem?_eq_getElem i)]; rfl)
          refine hK _ _ _ E ⟨_, len, rfl, Nat.le_refl _, ?_, fun hn => ⟨w.heap.size, 0, rfl, fun i hi => ?_⟩⟩
          · have : len ≤ len * j.size := Nat.le_mul_of_pos_right _ q2
            simp only [maxLen]; omega
          · refine ⟨(us.drop (i * j.size)).take j.size, AV.relL_take _ (AV.relL_drop _ (AV.relL_mono E.le _ _ e2)), ?_, fun k u hk => ?_⟩
            · have : (i + 1) * j.size ≤ len * j.size := Nat.mul_le_mul_right _ hi
              rw [Nat.succ_mul] at this
              simp; omega
            · rw [List.getElem?_take] at hk
              split at hk
              · rw [List.getElem?_drop] at hk
                have hlt := (List.getElem?_eq_some_iff.1 hk).1
                rw [Nat.zero_add]
                exact ⟨.inr ⟨rfl, hlt⟩, hcell _ _ hk⟩
              · cases hk
        · cases h
      · cases h
    · cases h
  · cases h

def dstsFit (n : Nat) (ops : List Oper) : Bool := ops.all fun o => match o.dst with | some d => decide (d < n) | none => true

theorem lookN_append {β : Type} (t : Nat) : ∀ (l l' : List (Nat × β)), lookN t (l ++ l') = match lookN t l with | some x => some x | none => lookN t l'
  | [], l' => rfl
  | (d, x) :: l, l' => by
    rw [List.cons_append, lookN_cons, lookN_cons]
    split
    · rfl
    · exact lookN_append t l l'
theorem lookN_mem {β : Type} {t : Nat} {x : β} : ∀ {l : List (Nat × β)}, lookN t l = some x → (t, x) ∈ l
  | (d, y) :: l, h => by
    rw [lookN_cons] at h
    split at h
    · rename_i e; subst e; cases h; simp
    · exact List.mem_cons_of_mem _ (lookN_mem h)
theorem countP_lt {p q : Nat → Bool} {k : Nat} : ∀ {l : List Nat}, (∀ x ∈ l, q x = true → p x = true) → k ∈ l → p k = true → q k = false → l.countP q < l.countP p
  | x :: l, h, hk, hp, hq => by
    have hle : l.countP q ≤ l.countP p := List.countP_mono_left fun y hy => h y (by simp [hy])
    by_cases hx : x = k
    · subst hx
      rw [List.countP_cons_of_pos hp, List.countP_cons_of_neg (by simp [hq])]
      omega
    · have hk' : k ∈ l := by rcases List.mem_cons.1 hk with e | e; exact absurd e.symm hx; exact e
      have ih := countP_lt (l := l) (fun y hy => h y (by simp [hy])) hk' hp hq
      by_cases hqx : q x = true
      · rw [List.countP_cons_of_pos hqx, List.countP_cons_of_pos (h x (by simp) hqx)]; omega
      · rw [List.countP_cons_of_neg hqx]
        by_cases hpx : p x = true
        · rw [List.countP_cons_of_pos hpx]; omega
        · rw [List.countP_cons_of_neg hpx]; exact ih

theorem getD_set_self {l : Array Bool} {i : Nat} {d : Bool} (h : i < l.size) : (l.setIfInBounds i true).getD i d = true := by
  simp [Array.getD_eq_getD_getElem?, Array.getElem?_setIfInBounds, h]
theorem getD_set_other {l : Array Bool} {i k : Nat} {d : Bool} (h : i ≠ k) : (l.setIfInBounds i true).getD k d = l.getD k d := by
  simp [Array.getD_eq_getD_getElem?, Array.getElem?_setIfInBounds, h]
theorem getD_any {l : Array Bool} {k : Nat} (h : k < l.size) (d d' : Bool) : l.getD k d = l.getD k d' := by
  simp [Array.getD_eq_getD_getElem?, Array.getElem?_eq_getElem h]

theorem Sat.drew {P : Program} {C : Ctx P} {G : Gh} {a : Act} {w : World} {st : ASt} (h : Sat C G a w st) : Sat C G a w.drew st :=
  h.ext (msat_ext h.mem (Below.refl _ _).drew G.imm (fun _ _ i => i) (fun _ _ i => .inl i) h.mem.immOk)

def runS (P : Program) (ops : Array Oper) (l : List Oper) (k : ASt → Prop) (st : ASt) : Prop :=
  ∀ (C : Ctx P) (G : Gh) (a : Act) (w : World) (Q : Exit → Act → World → Prop), Sat C G a w st → (∀ G' a' w' st', Sat C G' a' w' st' → k st' → Q .normal a' w') → wpListIn (fen C.round) 0 P ops Q l a w

theorem wpA_region {P : Program} {id : Nat} {ops : List Oper} {Q : Exit → ASt → Prop} {st : ASt} (h : ∀ K : ASt → Prop, (∀ s, Q .normal s → K s) → runS P ops.toArray ops K st) : wpA P (.region id ops.toArray false) Q st :=
  fun C G a w hs => wpIn_region_lit (h (Q .normal) (fun _ h => h) C G a w _ hs fun G' _ _ st' hs' hk => ⟨G', st', hs', hk⟩)

section runs
variable {P : Program} {ops : Array Oper} {r : List Oper} {k : ASt → Prop} {st : ASt} {o : Oper}
theorem runS_nil (h : k st) : runS P ops [] k st := fun _ G a w _ hs hQ => wpListIn_nil (hQ G a w st hs h)

theorem runS_op {d : Nat} {g : Bool} {x : AV} (hd : o.dst = some d) (ho : OpSpec P ops o st g x) (hn : Nat.blt d st.nt = true) (h : runS P ops r k (st.put d (g, x))) : runS P ops (o :: r) k st := by
  intro C G a w Q hs hQ
  have hdlt : d < st.nt := by simpa [Nat.blt_eq] using hn
  obtain ⟨h1, h2⟩ := ho G a w hs.tabs hs.mem (fun t _ => hs.slot t)
  refine wpListIn_step fun K hK => ?_
  rw [h1]
  cases hg : g
  · simp only [Bool.false_eq_true, if_false]
    rw [hd]
    exact ⟨fun _ _ => trivial, hK _ _ (h C G _ w Q (hs.put hdlt (fun h => by rw [hg] at h; cases h) (fun _ => rfl)) hQ)⟩
  · simp only [if_true]
    refine h2 hg _ K Q fun v G' w' E hv => ?_
    rw [hd]
    exact hK _ _ (h C G' _ w' Q ((hs.ext E).put hdlt (fun _ => hv) (fun h => by rw [hg] at h; cases h)) hQ)

theorem msat_push {G : Gh} {w : World} {bx : List (List AV)} {rw' : List ARow} (h : MSat G w bx rw') {cs : List AV} {vs : List Value} (T : TypeId) (hr : AV.relL G w cs vs) :
    MSat ⟨G.imm, G.bx ++ [w.heap.size], G.rw⟩ (w.alloc (.cells vs.toArray T)) (bx ++ [cs]) rw' ∧ G.Le w ⟨G.imm, G.bx ++ [w.heap.size], G.rw⟩ (w.alloc (.cells vs.toArray T)) := by
  have hb : Below w.heap.size w (w.alloc (.cells vs.toArray T)) := (Below.refl _ _).alloc (Nat.le_refl _) _
  have E := msat_ext h hb G.imm (fun _ _ i => i) (fun _ _ i => .inl i) (fun b o i => by
    rw [hb.cell (p := ⟨b, o, none⟩) (h.lt_imm i)]; exact h.immOk b o i)
  have le2 : Gh.Le ⟨G.imm, G.bx, G.rw⟩ (w.alloc (.cells vs.toArray T)) ⟨G.imm, G.bx ++ [w.heap.size], G.rw⟩ (w.alloc (.cells vs.toArray T)) :=
    ⟨fun _ _ i => i, fun _ _ _ => rfl, fun k x hx => by
      simp only [] at hx ⊢
      rw [List.getElem?_append_left (List.getElem?_eq_some_iff.1 hx).1]; exact hx, fun _ e h => ⟨e, h, .inl rfl⟩⟩
  have le := E.le.trans le2
  refine ⟨⟨E.mem.immOk, by simp [h.lenB], h.lenR, ?_, ?_, ?_, ?_, h.sepR⟩, le⟩
  · rw [List.nodup_append]
    refine ⟨h.nodup, by simp, fun a ha b hb' e => ?_⟩
    simp only [List.mem_singleton] at hb'
    have := h.lt_box ha
    omega
  · intro k cs' blk hk hg
    simp only [] at hg
    by_cases hkl : k < bx.length
    · rw [List.getElem?_append_left hkl] at hk
      rw [List.getElem?_append_left (by have := h.lenB; omega)] at hg
      obtain ⟨e2, vs', T', e3, e4⟩ := E.mem.box k cs' blk hk hg
      exact ⟨e2, vs', T', e3, AV.relL_mono le2 _ _ e4⟩
    · have hk' : k = bx.length := by
        have := (List.getElem?_eq_some_iff.1 hk).1; simp at this; omega
      subst hk'
      rw [List.getElem?_append_right (Nat.le_refl _)] at hk
      rw [List.getElem?_append_right (by have := h.lenB; omega)] at hg
      simp only [h.lenB, Nat.sub_self, List.getElem?_cons_zero, Option.some.injEq] at hk hg
      subst hk
      subst hg
      exact ⟨fun o i => by have := h.lt_imm i; omega, vs, T, heap_alloc_new w _, AV.relL_mono le _ _ hr⟩
  · intro k r' x hk hg
    have ro := E.mem.row k r' x hk hg
    obtain ⟨xs, ho, hel⟩ := ro.own
    exact ⟨ro.len, ⟨xs, ho, fun i hi => by obtain ⟨vs', e1, e2⟩ := hel i hi; exact ⟨vs', AV.relL_mono le2 _ _ e1, e2⟩⟩, ro.imm⟩
  · intro k x g hk hg
    simp only [List.mem_append, List.mem_singleton, not_or]
    refine ⟨h.sepB k x g hk hg, ?_⟩
    have := h.lt_row hk hg
    omega

theorem Sat.push {C : Ctx P} {G : Gh} {a : Act} {w : World} (hs : Sat C G a w st) {cs : List AV} {vs : List Value} (T : TypeId) (hr : AV.relL G w cs vs) :
    Sat C ⟨G.imm, G.bx ++ [w.heap.size], G.rw⟩ a (w.alloc (.cells vs.toArray T)) { st with bx := st.bx ++ [cs] } := by
  obtain ⟨m, le⟩ := msat_push hs.mem T hr
  have hb : Below w.heap.size w (w.alloc (.cells vs.toArray T)) := (Below.refl _ _).alloc (Nat.le_refl _) _
  refine ⟨hs.size, hs.callers, hs.frame.trans (.of_below hb), hs.le.trans le, hs.fresh, fun blk hblk => ?_, hs.ownR, ?_, m, fun t c x hl => ?_⟩
  · simp only [List.mem_append, List.mem_singleton] at hblk
    rcases hblk with hblk | rfl
    · exact hs.ownB blk hblk
    · exact .inr hs.frame.size
  · obtain ⟨D, hD⟩ := hs.env
    exact ⟨D, hD.step hs.mem le (fun _ _ i => .inl i) (fun k hk => by
      simp only [List.mem_append, List.mem_singleton] at hk
      exact hk.elim .inl fun h => .inr (Nat.le_of_eq h.symm)) (fun x hx g hg => .inl ⟨x, hx, hg⟩) (Outside.of_below hb)⟩
  · obtain ⟨v, h1, h2, h3⟩ := hs.slot t c x hl
    exact ⟨v, h1, fun hc => AV.rel_mono le _ _ (h2 hc), h3⟩

theorem runS_box {T : TT} {d : Nat} {t : TypeId} {x : Operand} {y : AV} (hop : o.op = .box t x) (hg : o.guard = none) (hd : o.dst = some d) (hx : st.ev x = some (true, y)) (h1 : AV.oneL st (cellsA y)) (hn : Nat.blt d st.nt = true)
    (h : runS P ops r k (ASt.put { st with bx := st.bx ++ [cellsA y] } d (true, .box st.bx.length 0))) : runS P ops (o :: r) k st := by
  intro C G a w Q hs hQ
  have hdlt : d < st.nt := by simpa [Nat.blt_eq] using hn
  have e1 := (evOk_of (x := x) fun t _ => hs.slot t) _ _ hx rfl
  have e2 := cells_rel h1 hs.mem e1
  have hs' := hs.push t e2
  refine wpListIn_plain hg fun K hK => ?_
  refine wpIn_of_run (fun c hc => by rw [hop] at hc; cases hc) ?_
  have hrun : (execOp a.eval o).run P w = .ok (.value (.pointer (some ⟨w.heap.size, 0, none⟩))) (w.alloc (.cells (a.eval x).cells t)) := by
    obtain ⟨dst, op, type, pos, after, guard⟩ := o
    simp only at hop
    subst hop
    simp [execOp, Instr.box, newVar, newRow, newObj, Sem.run]
  rw [hrun, Oper.uponIn_value, hd]
  refine hK _ _ (h C _ _ _ Q (hs'.put (st := { st with bx := st.bx ++ [cellsA y] }) hdlt (fun _ => ⟨w.heap.size, ?_, rfl⟩) (fun h => by cases h)) hQ)
  simp only []
  rw [List.getElem?_append_right (by rw [hs.mem.lenB]; exact Nat.le_refl _), hs.mem.lenB]
  simp

theorem runS_alloc {T : TT} (hT : TOk P T) {d : Nat} {t : TypeId} {i : TI} (hop : o.op = .alloc t) (hg : o.guard = none) (hd : o.dst = some d) (hi : T t = some i) (hn : Nat.blt d st.nt = true)
    (h : runS P ops r k (ASt.put { st with bx := st.bx ++ [i.zero.map .raw] } d (true, .box st.bx.length 0))) : runS P ops (o :: r) k st := by
  intro C G a w Q hs hQ
  have hdlt : d < st.nt := by simpa [Nat.blt_eq] using hn
  obtain ⟨z, h1, h2⟩ := (hT t i hi).zero_run w
  have e2 : AV.relL G w (i.zero.map .raw) z.cells.toList := by
    rw [h2]
    refine AV.relL_mk (by simp) fun j x v hx hv => ?_
    rw [List.getElem?_map, hv] at hx
    simp only [Option.map_some, Option.some.injEq] at hx
    subst hx; rfl
  have hs' := hs.push t e2
  refine wpListIn_plain hg fun K hK => ?_
  refine wpIn_of_run (fun c hc => by rw [hop] at hc; cases hc) ?_
  have hrun : (execOp a.eval o).run P w = .ok (.value (.pointer (some ⟨w.heap.size, 0, none⟩))) (w.alloc (.cells z.cells t)) := by
    obtain ⟨dst, op, type, pos, after, guard⟩ := o
    simp only at hop
    subst hop
    simp [execOp, Instr.alloc, h1, newVar, newRow, newObj, Sem.run]
  rw [hrun, Oper.uponIn_value, hd]
  refine hK _ _ (h C _ _ _ Q (hs'.put (st := { st with bx := st.bx ++ [i.zero.map .raw] }) hdlt (fun _ => ⟨w.heap.size, ?_, rfl⟩) (fun h => by cases h)) hQ)
  simp only []
  rw [List.getElem?_append_right (by rw [hs.mem.lenB]; exact Nat.le_refl _), hs.mem.lenB]
  simp
end runs
end Go.Proofs.YtchpbdecipcelaaGreatDoor
