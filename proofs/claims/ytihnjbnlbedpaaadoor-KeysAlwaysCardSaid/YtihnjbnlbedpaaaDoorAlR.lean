/- The abstract logic: rows in regions of one order: a new one, append. -/
import Derived.Test.YtihnjbnlbedpaaaDoorAlG4
namespace Go.Proofs.YtihnjbnlbedpaaaDoor
set_option linter.unusedVariables false
set_option linter.unusedSimpArgs false
set_option maxHeartbeats 4000000
set_option maxRecDepth 100000
open Go.RowKit
/-- What append leaves of memory. -/
theorem msat_app {G : Gh} {w w' : World} {bx : List (List AV)} {rw : List ARow} (hm : MSat G w bx rw) {k : Nat} {r r' : ARow} {v v' : Value} (hk : rw[k]? = some r) (hg : G.rw[k]? = some (r.n, v)) {imm' : Nat → Nat → Prop} {m : Nat}
    (hA : ∀ b o, G.imm b o → imm' b o ∧ w'.cell? ⟨b, o, none⟩ = w.cell? ⟨b, o, none⟩) (hB : ∀ b o, imm' b o → G.imm b o ∨ v'.ownBlock = some b) (hC : ∀ b o, imm' b o → (w'.cell? ⟨b, o, none⟩).isSome = true)
    (hD : RowOk ⟨imm', G.bx, G.rw⟩ w' r' (r.n + m, v')) (hE : m = 0 → v' = v) (hH : (v'.ownBlock = v.ownBlock ∧ w.grownBy w' v.ownBlock) ∨ (v'.ownBlock = some w.heap.size ∧ Below w.heap.size w w')) :
    MSat ⟨imm', G.bx, G.rw.set k (r.n + m, v')⟩ w' bx (rw.set k r') ∧ G.Le w ⟨imm', G.bx, G.rw.set k (r.n + m, v')⟩ w' ∧ Outside (fun q => q ∈ G.bx ∨ ∃ x ∈ G.rw, x.2.ownBlock = some q) w w' ∧
      (∀ b o, imm' b o → G.imm b o ∨ w.heap.size ≤ b ∨ ∃ x ∈ G.rw, x.2.ownBlock = some b) ∧ (∀ x ∈ G.rw.set k (r.n + m, v'), ∀ g, x.2.ownBlock = some g → (∃ y ∈ G.rw, y.2.ownBlock = some g) ∨ w.heap.size ≤ g) := by
  have hkl : k < G.rw.length := (List.getElem?_eq_some_iff.1 hg).1
  have hmem := List.mem_of_getElem? hg
  have own : ∀ g, v'.ownBlock = some g → v.ownBlock = some g ∨ g = w.heap.size := fun g h => by
    rcases hH with ⟨h1, _⟩ | ⟨h1, _⟩
    · exact .inl (h1.symm.trans h)
    · rw [h1] at h; exact .inr (by simpa using h.symm)
  have same : ∀ q, q < w.heap.size → v.ownBlock ≠ some q → w'.heap[q]? = w.heap[q]? := fun q hq hn => by
    rcases hH with ⟨_, h2⟩ | ⟨_, h2⟩
    · exact h2.block q hq fun e => hn e.symm
    · exact h2.block q hq
  have size : w.heap.size ≤ w'.heap.size := by
    rcases hH with ⟨_, h2⟩ | ⟨_, h2⟩
    · exact h2.size
    · exact h2.size
  have le1 : G.Le w ⟨imm', G.bx, G.rw⟩ w' := ⟨fun b o i => (hA b o i).1, fun b o i => (hA b o i).2, fun _ _ h => h, fun _ e h => ⟨e, h, .inl rfl⟩⟩
  have le2 : (⟨imm', G.bx, G.rw⟩ : Gh).Le w' ⟨imm', G.bx, G.rw.set k (r.n + m, v')⟩ w' := by
    refine ⟨fun _ _ i => i, fun _ _ _ => rfl, fun _ _ h => h, fun j e he => ?_⟩
    by_cases hj : k = j
    · subst hj
      have he' : G.rw[k]? = some e := he
      rw [hg] at he'
      cases he'
      refine ⟨(r.n + m, v'), by simp [hkl], ?_⟩
      rcases Nat.eq_zero_or_pos m with rfl | hp
      · exact .inl (by rw [hE rfl]; rfl)
      · exact .inr (by simp; omega)
    · exact ⟨e, by rw [List.getElem?_set_ne hj]; exact he, .inl rfl⟩
  have le := le1.trans le2
  refine ⟨⟨hC, hm.lenB, by simp [hm.lenR], hm.nodup, fun q cs blk hq hgq => ?_, fun j r1 x hj hx => ?_, fun j x g hx hxg hmem => ?_, fun j j' x x' g hx hx' hxg hxg' => ?_⟩, le, ⟨?_, ?_, ?_, size, fun q hq hn => same q hq fun e => hn (.inr ⟨_, hmem, e⟩)⟩, fun b o i => ?_, fun x hx g hxg => ?_⟩
  · obtain ⟨e1, vs, T, e2, e3⟩ := hm.box q cs blk hq hgq
    have hmb := List.mem_of_getElem? hgq
    have hlt := hm.lt_box hmb
    refine ⟨fun o i => ?_, vs, T, by rw [same blk hlt fun e => hm.sepB k _ blk hg e hmb]; exact e2, AV.relL_mono le _ _ e3⟩
    rcases hB blk o i with i | i
    · exact e1 o i
    · rcases own blk i with h | h
      · exact hm.sepB k _ blk hg h hmb
      · omega
  · by_cases hjk : k = j
    · subst hjk
      have hx' : (G.rw.set k (r.n + m, v'))[k]? = some x := hx
      rw [List.getElem?_set_self hkl] at hx'
      cases hx'
      rw [List.getElem?_set_self (by rw [← hm.lenR]; exact hkl)] at hj
      cases hj
      obtain ⟨xs, ho, hel⟩ := hD.own
      exact ⟨hD.len, ⟨xs, ho, fun i hi => by
        obtain ⟨vs, e1, e2⟩ := hel i hi
        exact ⟨vs, AV.relL_mono le2 _ _ e1, e2⟩⟩, hD.imm⟩
    · have hx' : G.rw[j]? = some x := by rw [← List.getElem?_set_ne hjk (a := (r.n + m, v'))]; exact hx
      rw [List.getElem?_set_ne hjk] at hj
      have ro := hm.row j r1 x hj hx'
      obtain ⟨xs, ho, hel⟩ := ro.own
      have hne : ∀ g, x.2.ownBlock = some g → v.ownBlock ≠ some g := fun g hgx e => hjk (hm.sepR k j _ x g hg hx' e hgx)
      refine ⟨ro.len, ⟨xs, ⟨ho.1, ?_⟩, fun i hi => by
        obtain ⟨vs, e1, e2⟩ := hel i hi
        exact ⟨vs, AV.relL_mono le _ _ e1, e2⟩⟩, fun g hgx o => ?_⟩
      · rcases ho.2 with ho2 | ⟨gq, cap, cur, hv, hbg, hh, hr⟩
        · exact .inl ho2
        · exact .inr ⟨gq, cap, cur, hv, hbg, by rw [same gq (Array.getElem?_eq_some_iff.1 hh).1 (hne gq (by rw [hv]; rfl))]; exact hh, hr⟩
      · rw [← ro.imm g hgx o]
        refine ⟨fun i => ?_, fun i => (hA g o i).1⟩
        rcases hB g o i with i | i
        · exact i
        · rcases own g i with h | h
          · exact absurd h (hne g hgx)
          · have := hm.lt_row hx' hgx
            omega
  · by_cases hjk : k = j
    · subst hjk
      have hx' : (G.rw.set k (r.n + m, v'))[k]? = some x := hx
      rw [List.getElem?_set_self hkl] at hx'
      cases hx'
      rcases own g hxg with h | h
      · exact hm.sepB k _ g hg h hmem
      · have := hm.lt_box hmem
        omega
    · have hx' : G.rw[j]? = some x := by rw [← List.getElem?_set_ne hjk (a := (r.n + m, v'))]; exact hx
      exact hm.sepB j x g hx' hxg hmem
  · have key : ∀ (j : Nat) (x : Nat × Value), (G.rw.set k (r.n + m, v'))[j]? = some x → x.2.ownBlock = some g → (k = j ∧ x = (r.n + m, v') ∧ (v.ownBlock = some g ∨ g = w.heap.size)) ∨ (k ≠ j ∧ G.rw[j]? = some x ∧ g < w.heap.size) := fun j x hx hxg => by
      by_cases hjk : k = j
      · subst hjk
        rw [List.getElem?_set_self hkl] at hx
        cases hx
        exact .inl ⟨rfl, rfl, own g hxg⟩
      · rw [List.getElem?_set_ne hjk] at hx
        exact .inr ⟨hjk, hx, hm.lt_row hx hxg⟩
    rcases key j x hx hxg with ⟨h1, _, h2⟩ | ⟨h1, h2, h3⟩
    · rcases key j' x' hx' hxg' with ⟨h1', _⟩ | ⟨h1', h2', h3'⟩
      · rw [← h1, ← h1']
      · rcases h2 with h2 | h2
        · exact h1.symm.trans (hm.sepR k j' _ x' g hg h2' h2 hxg')
        · omega
    · rcases key j' x' hx' hxg' with ⟨h1', _, h2'⟩ | ⟨h1', h2', h3'⟩
      · rcases h2' with h2' | h2'
        · exact (hm.sepR j k x _ g h2 hg hxg h2').trans h1'
        · omega
      · exact hm.sepR j j' x x' g h2 h2' hxg hxg'
  · rcases hH with ⟨_, h2⟩ | ⟨_, h2⟩ <;> exact h2.os
  · rcases hH with ⟨_, h2⟩ | ⟨_, h2⟩ <;> exact h2.tape
  · rcases hH with ⟨_, h2⟩ | ⟨_, h2⟩ <;> exact h2.output
  · rcases hB b o i with i | i
    · exact .inl i
    · rcases own b i with h | h
      · exact .inr (.inr ⟨_, hmem, h⟩)
      · exact .inr (.inl (by omega))
  · rcases List.mem_or_eq_of_mem_set hx with h | h
    · exact .inl ⟨x, h, hxg⟩
    · subst h
      rcases own g hxg with h | h
      · exact .inl ⟨_, hmem, h⟩
      · exact .inr (by omega)
/-- One row more. -/
theorem msat_addRow {G : Gh} {w : World} {bx : List (List AV)} {rw : List ARow} (hm : MSat G w bx rw) {r : ARow} {x : Nat × Value} (hR : RowOk G w r x) (hn : ∀ g, x.2.ownBlock = some g → g ∉ G.bx ∧ ∀ y ∈ G.rw, y.2.ownBlock ≠ some g) :
    MSat ⟨G.imm, G.bx, G.rw ++ [x]⟩ w bx (rw ++ [r]) ∧ G.Le w ⟨G.imm, G.bx, G.rw ++ [x]⟩ w := by
  have le : G.Le w ⟨G.imm, G.bx, G.rw ++ [x]⟩ w := ⟨fun _ _ i => i, fun _ _ _ => rfl, fun _ _ h => h, fun j e he => ⟨e, by rw [List.getElem?_append_left (List.getElem?_eq_some_iff.1 he).1]; exact he, .inl rfl⟩⟩
  have cls : ∀ (j : Nat) (y : Nat × Value), (G.rw ++ [x])[j]? = some y → G.rw[j]? = some y ∨ (j = G.rw.length ∧ y = x) := fun j y hy => by
    by_cases hj : j < G.rw.length
    · rw [List.getElem?_append_left hj] at hy; exact .inl hy
    · rw [List.getElem?_append_right (by omega)] at hy
      have : j - G.rw.length = 0 := by
        rcases Nat.eq_zero_or_pos (j - G.rw.length) with h | h
        · exact h
        · rw [List.getElem?_eq_none (by simp; omega)] at hy; cases hy
      rw [this] at hy
      simp only [List.getElem?_cons_zero, Option.some.injEq] at hy
      exact .inr ⟨by omega, hy.symm⟩
  have rok : ∀ {r1 : ARow} {y : Nat × Value}, RowOk G w r1 y → RowOk ⟨G.imm, G.bx, G.rw ++ [x]⟩ w r1 y := fun h => by
    obtain ⟨xs, ho, hel⟩ := h.own
    exact ⟨h.len, ⟨xs, ho, fun i hi => by
      obtain ⟨vs, e1, e2⟩ := hel i hi
      exact ⟨vs, AV.relL_mono le _ _ e1, e2⟩⟩, h.imm⟩
  refine ⟨⟨hm.immOk, hm.lenB, by simp [hm.lenR], hm.nodup, fun q cs blk hq hg => ?_, fun j r1 y hj hy => ?_, fun j y g hy hyg hmem => ?_, fun j j' y y' g hy hy' hyg hyg' => ?_⟩, le⟩
  · obtain ⟨e1, vs, T, e2, e3⟩ := hm.box q cs blk hq hg
    exact ⟨e1, vs, T, e2, AV.relL_mono le _ _ e3⟩
  · rcases cls j y hy with h | ⟨rfl, rfl⟩
    · rw [List.getElem?_append_left (by rw [← hm.lenR]; exact (List.getElem?_eq_some_iff.1 h).1)] at hj
      exact rok (hm.row j r1 y hj h)
    · rw [hm.lenR, List.getElem?_append_right (Nat.le_refl _), Nat.sub_self] at hj
      simp only [List.getElem?_cons_zero, Option.some.injEq] at hj
      subst hj
      exact rok hR
  · rcases cls j y hy with h | ⟨rfl, rfl⟩
    · exact hm.sepB j y g h hyg hmem
    · exact (hn g hyg).1 hmem
  · rcases cls j y hy with h | ⟨h1, rfl⟩
    · rcases cls j' y' hy' with h' | ⟨h1', rfl⟩
      · exact hm.sepR j j' y y' g h h' hyg hyg'
      · exact absurd hyg ((hn g hyg').2 y (List.mem_of_getElem? h))
    · rcases cls j' y' hy' with h' | ⟨h1', rfl⟩
      · exact absurd hyg' ((hn g hyg).2 y' (List.mem_of_getElem? h'))
      · omega
/-- A slice that is nil is a row in which nothing lies. -/
theorem Weak.nilRow {nt nb : Nat} {sl : List (Nat × (Bool × AV))} {bx : List (List AV)} {rw : List ARow} {ys : (Nat × List (List AV)) × List (List AV) × Bool} (d : Nat) (e : TypeId) (sz : Nat) (hd : lookN d sl = some (true, .raw (.slice none 0 0))) :
    Weak ⟨nt, nb, sl, bx, rw, ys⟩ ⟨nt, nb, (d, (true, .row rw.length 0)) :: sl, bx, rw ++ [⟨e, sz, 0, fun _ => []⟩], ys⟩ := by
  intro P C G a w hs
  have hR : RowOk G w ⟨e, sz, 0, fun _ => []⟩ (0, .slice none 0 0) := ⟨rfl, ⟨[], ⟨by simp, .inl ⟨rfl, rfl⟩⟩, fun i hi => by simp at hi⟩, fun g hg => by simp [Value.ownBlock] at hg⟩
  obtain ⟨m2, le⟩ := msat_addRow hs.mem hR (fun g hg => by simp [Value.ownBlock] at hg)
  refine ⟨⟨G.imm, G.bx, G.rw ++ [(0, .slice none 0 0)]⟩, ?_⟩
  have hs' := hs.called (Outside.refl _ _) le (fun _ _ i => .inl i) (fun _ h => .inl h) (fun x hx g hg => by
    rw [List.mem_append, List.mem_singleton] at hx
    rcases hx with hx | rfl
    · exact .inl ⟨x, hx, hg⟩
    · simp [Value.ownBlock] at hg) m2
  refine ⟨hs'.size, hs'.callers, hs'.frame, hs'.le, hs'.fresh, hs'.ownB, hs'.ownR, hs'.env, hs'.mem, fun t c x hl => ?_⟩
  simp only [ASt.look, lookN_cons] at hl
  by_cases htd : t = d
  · subst htd
    simp only [if_true, Option.some.injEq, Prod.mk.injEq] at hl
    obtain ⟨rfl, rfl⟩ := hl
    obtain ⟨v, h1, h2, h3⟩ := hs.slot t true _ hd
    refine ⟨v, h1, fun _ => ⟨(0, .slice none 0 0), ?_, Nat.le_refl _, fun _ => h2 rfl⟩, fun h => by cases h⟩
    have hl : rw.length = G.rw.length := hs.mem.lenR.symm
    show (G.rw ++ [(0, Value.slice none 0 0)])[rw.length]? = _
    rw [hl, List.getElem?_append_right (Nat.le_refl _), Nat.sub_self]; rfl
  · rw [if_neg htd] at hl
    exact hs'.slot t c x hl
/-- What is appended to what. -/
def appS (st : ASt) (o : Op) : Option (List Bool × Nat × Nat × Nat × Nat × (Nat → List AV) × Prop × TypeId) :=
  match o with
  | .call c => match c.callee with
    | .builtin .append => match c.args.toList, c.argTypes.toList with
      | [x, y], [t, t'] => bif Nat.beq t t' then match st.ev x, st.ev y with
        | some (g1, .row k n), some (g2, v) => match st.asL v with
          | some (sz, m, el, p) => some ([g1, g2], k, n, sz, m, el, p, t)
          | none => none
        | _, _ => none
      else none
      | _, _ => none
    | _ => none
  | _ => none
/-- What is appended to what: a string. -/
def appStrS (st : ASt) (o : Op) : Option (List Bool × Nat × Nat × ByteArray × TypeId × TypeId) :=
  match o with
  | .call c => match c.callee with
    | .builtin .append => match c.args.toList, c.argTypes.toList with
      | [x, y], [t, t'] => match st.ev x, st.ev y with
        | some (g1, .row k n), some (g2, .raw (.string s)) => some ([g1, g2], k, n, s, t, t')
        | _, _ => none
      | _, _ => none
    | _ => none
  | _ => none
section runs
variable {P : Program} {T : TT} {ops : Array Oper} {rest : List Oper} {K : ASt → Prop} {nt nb : Nat} {sl : List (Nat × (Bool × AV))} {bx : List (List AV)} {rw : List ARow} {ys : (Nat × List (List AV)) × List (List AV) × Bool} {o : Oper} {d : Nat}
theorem runS_app (hT : TOk P T) (hg : o.guard = none) (hd : o.dst = some d) (hn : Nat.blt d nt = true)
    (h : ∃ cs k n sz m el p t, appS ⟨nt, nb, sl, bx, rw, ys⟩ o.op = some (cs, k, n, sz, m, el, p, t) ∧ ((∀ c ∈ cs, c = true) ∧ p) ∧ ∃ i, T t = some i ∧ ∃ e, i.k = .slice e ∧ ∃ jj, T e = some jj ∧ ∃ rr, rw[k]? = some rr ∧ (rr.n = n ∧ rr.e = e ∧ rr.sz = jj.size ∧ sz = jj.size ∧ 0 < jj.size ∧ jj.zero.length = jj.size) ∧
      (∀ q, q < m → AV.oneL ⟨nt, nb, sl, bx, rw, ys⟩ (el q)) ∧ (n + m ≤ maxLen ∧ (n + m) * jj.bytes ≤ 140737488355328) ∧ ∃ n', n + m = n' ∧ ∃ rw', rw.set k ⟨e, sz, n', appEl n rr.el el⟩ = rw' ∧
      runS P ops rest K ⟨nt, nb, (d, (true, .row k n')) :: sl, bx, rw', ys⟩) : runS P ops (o :: rest) K ⟨nt, nb, sl, bx, rw, ys⟩ := by
  obtain ⟨cs, k, n, sz, m, el, p, t, h1, ⟨h2, hp⟩, i, hi, e, hk, j, hj, rr, hrr, ⟨c0, c1, c2, c3, c4, c5⟩, hone, hmax, n', rfl, rw', rfl, h3⟩ := h
  subst c0
  subst c3
  intro C G a w Q hs hQ
  have hev : ∀ y ∈ o.op.operands.toList, EvOk G w a ⟨nt, nb, sl, bx, rw, ys⟩ y := fun y hy => evOk_of fun t ht => hs.slot t
  refine wpListIn_plain hg fun K' hK => ?_
  refine wpIn_of_run (fun c hc => by rw [hc] at h1; simp [appS] at h1) ?_
  obtain ⟨dst, op, type, pos, after, guard⟩ := o
  simp only at h1 hev hd
  subst hd
  unfold appS at h1
  split at h1
  · rename_i c
    obtain ⟨callee, args, argTypes⟩ := c
    obtain ⟨args⟩ := args
    obtain ⟨argTypes⟩ := argTypes
    simp only at h1
    split at h1
    · split at h1
      · rename_i x y t1 t2
        cases hbt : Nat.beq t1 t2
        · rw [hbt] at h1; cases h1
        · rw [hbt] at h1
          simp only [cond_true] at h1
          obtain rfl := Nat.eq_of_beq_eq_true hbt
          split at h1
          · rename_i g1 k' n' g2 v' hx hy
            split at h1
            · rename_i sz' m' el' p' hl
              simp only [Option.some.injEq, Prod.mk.injEq] at h1
              obtain ⟨rfl, rfl, hnn, rfl, rfl, rfl, rfl, rfl⟩ := h1
              subst hnn
              have hxr := hev x (by simp [Op.operands, Call.operands]) _ _ hx (h2 g1 (by simp))
              have hyr := asL_sound hs.mem hl hp (hev y (by simp [Op.operands, Call.operands]) _ _ hy (h2 g2 (by simp)))
              obtain ⟨⟨ne, v⟩, hge, _, hv⟩ := hxr
              have ro := hs.mem.row k' rr _ hrr hge
              have hne : ne = rr.n := ro.len
              subst hne
              have hv : a.eval x = v := hv rfl
              obtain ⟨v', w', imm', k1, k2, k3, k4, k5, k6, k7, k8⟩ := append_core hT (ty := type) (hT _ _ hi) hk (hT _ _ hj) c4 c5 hs.mem.immOk ro c1 c2 hyr (fun q hq vs hvs u hu => oneL_sound hs.mem (hone q hq) hvs u hu) hmax.1 hmax.2
              have hrun : (execOp a.eval ⟨some d, .call ⟨.builtin .append, ⟨[x, y]⟩, ⟨[t1, t1]⟩⟩, type, pos, after, guard⟩).run P w = .ok (.value v') w' := by
                simp [execOp, resolve, invoke, builtin, hv, k1]
              rw [hrun, Oper.uponIn_value]
              obtain ⟨q1, q2, q3, q4, q5⟩ := msat_app hs.mem hrr hge k2 k3 k4 k5 (fun h => (k6 h).1) k8
              have hs' := hs.called q3 q2 q4 (fun _ h => .inl h) q5 q1
              refine hK _ _ (h3 C _ _ _ Q (hs'.put (by simpa [Nat.blt_eq] using hn) (fun _ => ⟨(rr.n + m', v'), ?_, Nat.le_refl _, fun _ => rfl⟩) (fun h => by cases h)) hQ)
              show (G.rw.set k' (rr.n + m', v'))[k']? = _
              rw [List.getElem?_set_self (List.getElem?_eq_some_iff.1 hge).1]
            · cases h1
          · cases h1
      · cases h1
    · cases h1
  · cases h1
theorem runS_appStr (hT : TOk P T) (hg : o.guard = none) (hd : o.dst = some d) (hn : Nat.blt d nt = true)
    (h : ∃ cs k n s t t', appStrS ⟨nt, nb, sl, bx, rw, ys⟩ o.op = some (cs, k, n, s, t, t') ∧ (∀ c ∈ cs, c = true) ∧ ∃ i, T t = some i ∧ ∃ e, i.k = .slice e ∧ ∃ iu, T t' = some iu ∧ iu.k = .str ∧ ∃ jj, T e = some jj ∧ ∃ rr, rw[k]? = some rr ∧ (rr.n = n ∧ rr.e = e ∧ rr.sz = 1 ∧ jj.size = 1 ∧ jj.bytes = 1 ∧ jj.zero.length = 1) ∧
      (n + s.size ≤ maxLen ∧ n + s.size ≤ 140737488355328) ∧ ∃ n', n + s.size = n' ∧ ∃ rw', rw.set k ⟨e, 1, n', appEl n rr.el (strEl s)⟩ = rw' ∧
      runS P ops rest K ⟨nt, nb, (d, (true, .row k n')) :: sl, bx, rw', ys⟩) : runS P ops (o :: rest) K ⟨nt, nb, sl, bx, rw, ys⟩ := by
  obtain ⟨cs, k, n, s, t, t', h1, h2, i, hi, e, hk, iu, hiu, hku, j, hj, rr, hrr, ⟨c0, c1, c2, c3, c4, c5⟩, hmax, n', rfl, rw', rfl, h3⟩ := h
  subst c0
  intro C G a w Q hs hQ
  have hev : ∀ y ∈ o.op.operands.toList, EvOk G w a ⟨nt, nb, sl, bx, rw, ys⟩ y := fun y hy => evOk_of fun t ht => hs.slot t
  refine wpListIn_plain hg fun K' hK => ?_
  refine wpIn_of_run (fun c hc => by rw [hc] at h1; simp [appStrS] at h1) ?_
  obtain ⟨dst, op, type, pos, after, guard⟩ := o
  simp only at h1 hev hd
  subst hd
  unfold appStrS at h1
  split at h1
  · rename_i c
    obtain ⟨callee, args, argTypes⟩ := c
    obtain ⟨args⟩ := args
    obtain ⟨argTypes⟩ := argTypes
    simp only at h1
    split at h1
    · split at h1
      · rename_i x y t1 t2
        split at h1
        · rename_i g1 k' n' g2 s' hx hy
          simp only [Option.some.injEq, Prod.mk.injEq] at h1
          obtain ⟨rfl, rfl, hnn, rfl, rfl, rfl⟩ := h1
          subst hnn
          have hxr := hev x (by simp [Op.operands, Call.operands]) _ _ hx (h2 g1 (by simp))
          have hyr := rel_raw (hev y (by simp [Op.operands, Call.operands]) _ _ hy (h2 g2 (by simp)))
          obtain ⟨⟨ne, v⟩, hge, _, hv⟩ := hxr
          have ro := hs.mem.row k' rr _ hrr hge
          have hne : ne = rr.n := ro.len
          subst hne
          have hv : a.eval x = v := hv rfl
          obtain ⟨v', w', imm', k1, k2, k3, k4, k5, k6, k7, k8⟩ := append_core_str hT (ty := type) (hT _ _ hi) hk (hT _ _ hiu) hku (hT _ _ hj) c3 c4 c5 hs.mem.immOk ro c1 (by rw [c2, c3]) s' hmax.1 hmax.2
          rw [c3] at k5 k7
          have hrun : (execOp a.eval ⟨some d, .call ⟨.builtin .append, ⟨[x, y]⟩, ⟨[t1, t2]⟩⟩, type, pos, after, guard⟩).run P w = .ok (.value v') w' := by
            simp [execOp, resolve, invoke, builtin, hv, hyr, k1]
          rw [hrun, Oper.uponIn_value]
          obtain ⟨q1, q2, q3, q4, q5⟩ := msat_app hs.mem hrr hge k2 k3 k4 k5 (fun h => (k6 h).1) k8
          have hs' := hs.called q3 q2 q4 (fun _ h => .inl h) q5 q1
          refine hK _ _ (h3 C _ _ _ Q (hs'.put (by simpa [Nat.blt_eq] using hn) (fun _ => ⟨(rr.n + s'.size, v'), ?_, Nat.le_refl _, fun _ => rfl⟩) (fun h => by cases h)) hQ)
          show (G.rw.set k' (rr.n + s'.size, v'))[k']? = _
          rw [List.getElem?_set_self (List.getElem?_eq_some_iff.1 hge).1]
        · cases h1
      · cases h1
    · cases h1
  · cases h1
/-- Whether a list is nil: if something lies in it, it is not. -/
theorem runS_isnil (hT : TOk P T) {op : BinOp} {t t' : TypeId} {x y : Operand} (hop : o.op = .binOp op t x y t') (hg : o.guard = none) (hd : o.dst = some d) (hn : Nat.blt d nt = true)
    (h : ∃ sz n el, (ASt.mk nt nb sl bx rw ys).ev x = some (true, .lst sz n el) ∧ (ASt.mk nt nb sl bx rw ys).ev y = some (true, .raw (.slice none 0 0)) ∧ (∃ e s b z q, T t = some ⟨.slice e, s, b, z, q⟩) ∧
      ∀ b : Bool, (b = true → n = 0) → ∃ r, negIf op b = some r ∧ runS P ops rest K ⟨nt, nb, (d, (true, r)) :: sl, bx, rw, ys⟩) : runS P ops (o :: rest) K ⟨nt, nb, sl, bx, rw, ys⟩ := by
  obtain ⟨sz, n, el, h1, h2, ⟨e, q1, q2, q3, q4, hti⟩, h3⟩ := h
  intro C G a w Q hs hQ
  have ev1 := (evOk_of (x := x) fun t ht => hs.slot t) _ _ h1 rfl
  have ev2 := rel_raw ((evOk_of (x := y) fun t ht => hs.slot t) _ _ h2 rfl)
  obtain ⟨A, cap, hx, _, _, hA⟩ := ev1
  obtain ⟨r, hr, hk⟩ := h3 A.isNone (fun hnn => by
    rcases Nat.eq_zero_or_pos n with h | h
    · exact h
    · obtain ⟨b, o, rfl, _⟩ := hA h
      cases hnn)
  refine wpListIn_plain hg fun K' hK => ?_
  refine wpIn_of_run (fun c hc => by rw [hc] at hop; cases hop) ?_
  obtain ⟨u, e1, e2⟩ := eq_slc (G := G) (w := w) hT hti hr A n cap rfl x y
  obtain ⟨dst, op', type, pos, after, guard⟩ := o
  simp only at hop hd
  subst hop
  subst hd
  have hrun : (execOp a.eval ⟨some d, .binOp op t x y t', type, pos, after, guard⟩).run P w = .ok (.value u) w := by
    simp only [execOp, Sem.run_bind, hx, ev2] at e1 ⊢
    rw [e1]
    rfl
  rw [hrun, Oper.uponIn_value]
  exact hK _ _ (hk C G _ w Q (hs.put (by simpa [Nat.blt_eq] using hn) (fun _ => e2) (fun h => by cases h)) hQ)
theorem runS_mkRow (hT : TOk P T) (hg : o.guard = none) (hd : o.dst = some d) (hn : Nat.blt d nt = true)
    (h : ∃ cs rr p, mkRowA T ⟨nt, nb, sl, bx, rw, ys⟩ o.op = some (cs, rr, p) ∧ ((∀ c ∈ cs, c = true) ∧ p) ∧ ∃ k, rw.length = k ∧ ∃ rw', rw ++ [rr] = rw' ∧
      runS P ops rest K ⟨nt, nb, (d, (true, .row k rr.n)) :: sl, bx, rw', ys⟩) : runS P ops (o :: rest) K ⟨nt, nb, sl, bx, rw, ys⟩ := by
  obtain ⟨cs, rr, p, h1, ⟨h2, hp⟩, k, rfl, rw', rfl, h3⟩ := h
  intro C G a w Q hs hQ
  have hev : ∀ y ∈ o.op.operands.toList, EvOk G w a ⟨nt, nb, sl, bx, rw, ys⟩ y := fun y hy => evOk_of fun t ht => hs.slot t
  refine wpListIn_plain hg fun K' hK => ?_
  refine wpIn_of_run (fun c hc => by rw [hc] at h1; simp [mkRowA] at h1) ?_
  obtain ⟨us, e, g1, g2, g3, g4⟩ := mkRow_sound hT hs.mem h1 h2 hp (a := a) hev
  rw [g1, Oper.uponIn_value, hd]
  obtain ⟨m2, le2⟩ := msat_addRow g2.mem g4 (fun g hg => by
    simp only [Value.ownBlock, Option.some.injEq] at hg
    subst hg
    refine ⟨fun h => ?_, fun y hy e => ?_⟩
    · have := hs.mem.lt_box h
      omega
    · obtain ⟨q, hq⟩ := List.getElem?_of_mem hy
      have := hs.mem.lt_row hq e
      omega)
  have hs' := hs.called ((Outside.of_below g2.below).mono fun _ _ h => h) (g2.le.trans le2) (fun b o i => (g2.fresh b o i).elim .inl fun h => .inr (.inl h)) (fun _ h => .inl h) (fun x hx g hg => by
    have hx : x ∈ G.rw ++ [_] := hx
    rw [List.mem_append, List.mem_singleton] at hx
    rcases hx with hx | rfl
    · exact .inl ⟨x, hx, hg⟩
    · simp only [Value.ownBlock, Option.some.injEq] at hg
      exact .inr (by omega)) m2
  refine hK _ _ (h3 C _ _ _ Q (hs'.put (by simpa [Nat.blt_eq] using hn) (fun _ => ⟨(rr.n, .slice (some ⟨w.heap.size, 0, none⟩) rr.n rr.n), ?_, Nat.le_refl _, fun _ => rfl⟩) (fun h => by cases h)) hQ)
  · show (G.rw ++ [_])[rw.length]? = _
    rw [← hs.mem.lenR, List.getElem?_append_right (Nat.le_refl _), Nat.sub_self]; rfl
end runs
end Go.Proofs.YtihnjbnlbedpaaaDoor
