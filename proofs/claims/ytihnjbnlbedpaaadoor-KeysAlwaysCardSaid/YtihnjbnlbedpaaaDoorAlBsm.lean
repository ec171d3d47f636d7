/- The abstract logic: slices of own variables are made. -/
import Derived.Test.YtihnjbnlbedpaaaDoorAlBsl
namespace Go.Proofs.YtihnjbnlbedpaaaDoor
set_option linter.unusedVariables false
set_option linter.unusedSimpArgs false
set_option maxHeartbeats 4000000
set_option maxRecDepth 100000
open Go.RowKit
theorem relL_flat {G : Gh} {w : World} {sz : Nat} {el : Nat → List AV} : ∀ {m : Nat} {news : List Value}, news.length = m * sz → (∀ i, i < m → ∃ vs, AV.relL G w (el i) vs ∧ vs.length = sz ∧ ∀ q u, vs[q]? = some u → news[i * sz + q]? = some u) → AV.relL G w ((List.range m).flatMap el) news
  | 0, news, hl, _ => by
    have : news = [] := List.eq_nil_of_length_eq_zero (by simpa using hl)
    subst this
    rfl
  | m + 1, news, hl, h => by
    rw [List.range_succ, List.flatMap_append]
    have hl1 : news.length = m * sz + sz := by rw [hl, Nat.add_mul, Nat.one_mul]
    obtain ⟨vs, h1, h2, h3⟩ := h m (by omega)
    have e : news = news.take (m * sz) ++ vs := by
      refine List.ext_getElem (by simp; omega) fun k k1 k2 => ?_
      by_cases hk : k < m * sz
      · rw [List.getElem_append_left (by simp; omega), List.getElem_take]
      · rw [List.getElem_append_right (by simp; omega)]
        have hq : k - (news.take (m * sz)).length = k - m * sz := by simp; omega
        have := h3 (k - m * sz) (vs[k - m * sz]'(by omega)) (List.getElem?_eq_getElem (by omega))
        rw [show m * sz + (k - m * sz) = k from by omega, List.getElem?_eq_getElem k1] at this
        simp only [Option.some.injEq] at this
        rw [this]
        congr 1
        exact hq.symm
    rw [e]
    refine AV.relL_append (relL_flat (sz := sz) (by simp; omega) fun i hi => ?_) (by simpa using h1)
    obtain ⟨us, g1, g2, g3⟩ := h i (by omega)
    refine ⟨us, g1, g2, fun q u hq => ?_⟩
    have hql : q < sz := by rw [← g2]; exact (List.getElem?_eq_some_iff.1 hq).1
    have hle : (i + 1) * sz ≤ m * sz := Nat.mul_le_mul_right _ hi
    rw [Nat.add_mul, Nat.one_mul] at hle
    rw [List.getElem?_take, if_pos (by omega)]
    exact g3 q u hq
theorem flat_els {α : Type} [Inhabited α] (enc : α → List AV) (l : List α) : (List.range l.length).flatMap (els enc l) = l.flatMap enc := by
  have : (List.range l.length).map (els enc l) = l.map enc := by
    refine List.ext_getElem (by simp) fun i h1 h2 => ?_
    simp at h1
    simp [els, h1]
  rw [List.flatMap_def, List.flatMap_def, this]
/-- A literal, as a slice of an own variable. -/
theorem runS_mkBsl {P : Program} {T : TT} (hT : TOk P T) {ops : Array Oper} {rest : List Oper} {K : ASt → Prop} {nt nb : Nat} {sl : List (Nat × (Bool × AV))} {bx : List (List AV)} {rw : List ARow} {ys : (Nat × List (List AV)) × List (List AV) × Bool} {o : Oper} {d : Nat}
    {t len : Nat} {parts : Array (Nat × Operand)} (hop : o.op = .buildSlice t len parts) (hg : o.guard = none) (hd : o.dst = some d) (hn : Nat.blt d nt = true)
    (h : ∃ e s1 b1 z1 q1, T t = some ⟨.slice e, s1, b1, z1, q1⟩ ∧ ∃ j, T e = some j ∧ ∃ gs cs p, fillA ⟨nt, nb, sl, bx, rw, ys⟩ (fun i => some (i * j.size, j.size)) parts.toList (zerosA len j.zero) = some (gs, cs, p) ∧ ((∀ c ∈ gs, c = true) ∧ p) ∧ (0 < j.size ∧ len * j.size ≤ 16777216 ∧ j.zero.length = j.size) ∧
      ∃ m, bx.length = m ∧ ∃ bx', bx ++ [cs] = bx' ∧ runS P ops rest K ⟨nt, nb, (d, (true, .bsl j.size m 0 len len)) :: sl, bx', rw, ys⟩) : runS P ops (o :: rest) K ⟨nt, nb, sl, bx, rw, ys⟩ := by
  obtain ⟨e, s1, b1, z1, q1, h1, j, h2, gs, cs, p, h3, ⟨hc, hp⟩, ⟨p2, p3, p4⟩, m, rfl, bx', rfl, hk⟩ := h
  intro C G a w Q hs hQ
  refine wpListIn_plain hg fun K' hK => ?_
  refine wpIn_of_run (fun c hc => by rw [hop] at hc; cases hc) ?_
  obtain ⟨dst, op, type, pos, after, guard⟩ := o
  simp only at hop hd
  subst hop
  subst hd
  obtain ⟨us, e1, e2⟩ := fillA_sound (a := a) hs.mem _ _ _ _ _ _ (fun q hq => evOk_of fun t ht => hs.slot t) h3 hc hp (zerosA_rel len j.zero)
  have e3 := buildSlice_run (w := w) (hT _ _ h1) rfl (hT _ _ h2) p2 p3 p4 (parts := parts.map fun q => (q.1, a.eval q.2)) (us := us) (by simpa using e1)
  have hrun : (execOp a.eval ⟨some d, .buildSlice t len parts, type, pos, after, guard⟩).run P w = .ok (.value (.slice (some ⟨w.heap.size, 0, none⟩) len len)) (w.alloc (.cells us.toArray e)) := by
    simp only [execOp, Sem.run_bind, e3, Result.andThen_ok]; rfl
  rw [hrun, Oper.uponIn_value]
  have hml : len ≤ maxLen := by
    have : len ≤ len * j.size := Nat.le_mul_of_pos_right _ p2
    simp only [maxLen]; omega
  refine hK _ _ (hk C _ _ _ Q ((hs.push e e2).put (by simpa [Nat.blt_eq] using hn) (fun _ => ⟨w.heap.size, _, ?_, rfl, Nat.le_refl _, hml, fun _ => rfl⟩) (fun h => by cases h)) hQ)
  show (G.bx ++ [w.heap.size])[bx.length]? = _
  rw [← hs.mem.lenB, List.getElem?_append_right (Nat.le_refl _), Nat.sub_self]
  rfl
theorem zeroCells_list (z : Array Value) (k : Nat) : (Builtin.zeroCells z k).toList = zerosV k z.toList := by
  refine List.ext_getElem? fun j => ?_
  by_cases h : j < k * z.size
  · rw [zerosV_get k z.toList j (by simpa using h)]
    have hz : 0 < z.size := by
      rcases Nat.eq_zero_or_pos z.size with h0 | h0
      · rw [h0] at h; omega
      · exact h0
    have hm : j % z.size < z.size := Nat.mod_lt _ hz
    simp [Builtin.zeroCells, h, hm]
  · rw [List.getElem?_eq_none (by simp [Builtin.zeroCells]; omega), List.getElem?_eq_none (by rw [zerosV_length]; simp; omega)]
/-- What is appended to an empty slice of an own variable. -/
def appBS (st : ASt) (o : Op) : Option (List Bool × Nat × Nat × Nat × (Nat → List AV) × Prop × TypeId) :=
  match o with
  | .call c => match c.callee with
    | .builtin .append => match c.args.toList, c.argTypes.toList with
      | [x, y], [t, t'] => bif Nat.beq t t' then match st.ev x, st.ev y with
        | some (g1, .bsl sz _ _ 0 0), some (g2, v) => match st.asL v with
          | some (sz', m, el, p) => some ([g1, g2], sz, sz', m, el, p, t)
          | none => none
        | _, _ => none
      else none
      | _, _ => none
    | _ => none
  | _ => none
/-- What is appended to an empty slice lies in an own variable. -/
theorem runS_appBsl {P : Program} {T : TT} (hT : TOk P T) {ops : Array Oper} {rest : List Oper} {K : ASt → Prop} {nt nb : Nat} {sl : List (Nat × (Bool × AV))} {bx : List (List AV)} {rw : List ARow} {ys : (Nat × List (List AV)) × List (List AV) × Bool} {o : Oper} {d : Nat}
    (hg : o.guard = none) (hd : o.dst = some d) (hn : Nat.blt d nt = true)
    (h : ∃ cs sz sz' m el p t, appBS ⟨nt, nb, sl, bx, rw, ys⟩ o.op = some (cs, sz, sz', m, el, p, t) ∧ ((∀ c ∈ cs, c = true) ∧ p) ∧ ∃ e s1 b1 z1 q1, T t = some ⟨.slice e, s1, b1, z1, q1⟩ ∧ ∃ j, T e = some j ∧ (sz = j.size ∧ sz' = j.size ∧ 0 < j.size ∧ j.zero.length = j.size) ∧
      (∀ q, q < m → AV.oneL ⟨nt, nb, sl, bx, rw, ys⟩ (el q)) ∧ (0 < m ∧ m ≤ maxLen ∧ m * j.bytes ≤ 140737488355328) ∧ ∃ bn, bx.length = bn ∧
      ∀ c, m ≤ c → c ≤ maxLen → ∃ bx', bx ++ [(List.range m).flatMap el ++ zerosA (c - m) j.zero] = bx' ∧ runS P ops rest K ⟨nt, nb, (d, (true, .bsl j.size bn 0 m c)) :: sl, bx', rw, ys⟩) : runS P ops (o :: rest) K ⟨nt, nb, sl, bx, rw, ys⟩ := by
  obtain ⟨cs, sz, sz', m, el, p, t, h1, ⟨hc, hp⟩, e, s1, b1, z1, q1, h2, j, h3, ⟨rfl, rfl, j0, jz⟩, hone, ⟨m0, m1, m2⟩, bn, rfl, hk⟩ := h
  intro C G a w Q hs hQ
  refine wpListIn_plain hg fun K' hK => ?_
  refine wpIn_of_run (fun c hc => by rw [hc] at h1; simp [appBS] at h1) ?_
  have hev : ∀ y ∈ o.op.operands.toList, EvOk G w a ⟨nt, nb, sl, bx, rw, ys⟩ y := fun y hy => evOk_of fun t ht => hs.slot t
  obtain ⟨dst, op, type, pos, after, guard⟩ := o
  simp only at h1 hev hd
  subst hd
  unfold appBS at h1
  split at h1
  · rename_i cl
    obtain ⟨callee, args, argTypes⟩ := cl
    obtain ⟨args⟩ := args
    obtain ⟨argTypes⟩ := argTypes
    simp only at h1
    split at h1
    · split at h1
      · rename_i x y t1 t2
        cases hbt : Nat.beq t1 t2
        · rw [hbt] at h1; cases h1
        · rw [hbt] at h1
          simp only [cond_true] at h1
          obtain rfl := Nat.eq_of_beq_eq_true hbt
          split at h1
          · rename_i g1 szx b off g2 v' hx hy
            split at h1
            · rename_i sz' m' el' p' hl
              simp only [Option.some.injEq, Prod.mk.injEq] at h1
              obtain ⟨rfl, rfl, rfl, rfl, rfl, rfl, rfl⟩ := h1
              obtain ⟨blk, A, hA0, ex, _, _, _⟩ := hev x (by simp [Op.operands, Call.operands]) _ _ hx (hc g1 (by simp))
              have hyr := asL_sound hs.mem hl hp (hev y (by simp [Op.operands, Call.operands]) _ _ hy (hc g2 (by simp)))
              obtain ⟨A', cap', ey, _⟩ := id hyr
              rw [ey] at hyr
              obtain ⟨news, hnl, hna, hnw, _⟩ := lst_cells j0 hyr
              obtain ⟨a', rfl, hsrc⟩ := hna m0
              obtain ⟨d1, u1, u2⟩ := (hT _ _ h2).und_some
              have hu : P.underlying t1 = some (.slice e) := by rw [u1, tkOf_slice u2]
              obtain ⟨ie, z, g2', g1', g3, g4, e2⟩ : ∃ ie z, P.info? e = some ie ∧ ie.size = j.size ∧ ie.zero = some z ∧ ie.bytes = j.bytes ∧ z.cells.toList = j.zero := by
                have h1 := (hT _ _ h3).info
                cases hie : P.info? e with
                | none => rw [hie] at h1; cases h1
                | some x =>
                  rw [hie] at h1
                  simp only [Option.map_some, Option.some.injEq, Prod.mk.injEq] at h1
                  cases hzz : x.zero with
                  | none => rw [hzz] at h1; cases h1.1
                  | some z =>
                    rw [hzz] at h1
                    simp only [Option.map_some, Option.some.injEq] at h1
                    exact ⟨x, z, rfl, h1.2.1, hzz, h1.2.2, h1.1⟩
              have hm63 : ((0 + m' : Nat) : Int) ≤ 9223372036854775807 := by simp only [maxLen] at m1; omega
              have hfit : Builtin.nextslicecap (0 + m') 0 * ie.bytes ≤ 281474976710656 := growslice_fits (by omega) (by rw [g4, Nat.zero_add]; exact m2)
              have hrun : (Builtin.append_ #[t1, t1] type #[.slice A 0 0, .slice (some a') m' cap']).run P w = .ok (.slice (some ⟨w.heap.size, 0, none⟩) m' (grownCap w m' 0 e)) (w.drew.alloc (.cells (news.toArray ++ Builtin.zeroCells z.cells (grownCap w m' 0 e - m')) e)) := by
                cases A with
                | none => exact run_append_nil (P := P) w t1 type e ie z hu g2' g3 a' m' cap' news (by rw [g1']; exact hnl) hsrc (by omega) (by omega) (by rw [g4]; omega)
                | some A =>
                  have := run_append_grow (P := P) w t1 type e ie z hu g2' g3 A 0 0 [] (by simp) (by simp) a' m' cap' news (by rw [g1']; exact hnl) hsrc (by omega) hm63 hfit
                  simpa using this
              have hge := grownCap_ge w m' 0 e
              have hcm : grownCap w m' 0 e ≤ maxLen := grownCap_le_maxLen w m' 0 e m1
              obtain ⟨bx', rfl, hk⟩ := hk (grownCap w m' 0 e) hge hcm
              generalize grownCap w m' 0 e = c at *
              have hexec : (execOp a.eval ⟨some d, .call ⟨.builtin .append, ⟨[x, y]⟩, ⟨[t1, t1]⟩⟩, type, pos, after, guard⟩).run P w = .ok (.value (.slice (some ⟨w.heap.size, 0, none⟩) m' c)) (w.drew.alloc (.cells (news.toArray ++ Builtin.zeroCells z.cells (c - m')) e)) := by
                simp [execOp, resolve, invoke, builtin, ex, ey, hrun]
              rw [hexec, Oper.uponIn_value]
              have hb1 : Below w.heap.size w w.drew := (Below.refl _ _).drew
              have E := msat_ext hs.mem hb1 G.imm (fun _ _ i => i) (fun _ _ i => .inl i) (fun b o i => hs.mem.immOk b o i)
              have hs1 : Sat C G a w.drew ⟨nt, nb, sl, bx, rw, ys⟩ := hs.called (Outside.of_below hb1) E.le (fun _ _ i => .inl i) (fun _ h => .inl h) (fun x hx g hg => .inl ⟨x, hx, hg⟩) E.mem
              have hcells : AV.relL G w.drew ((List.range m').flatMap el' ++ zerosA (c - m') j.zero) (news ++ zerosV (c - m') j.zero) := AV.relL_append (AV.relL_mono E.le _ _ (relL_flat hnl hnw)) (zerosA_rel _ _)
              have hs2 := hs1.push e hcells
              have harr : (news ++ zerosV (c - m') j.zero).toArray = news.toArray ++ Builtin.zeroCells z.cells (c - m') := by
                apply Array.ext'
                simp [zeroCells_list, e2]
              rw [harr] at hs2
              refine hK _ _ (hk C _ _ _ Q (hs2.put (by simpa [Nat.blt_eq] using hn) (fun _ => ⟨w.heap.size, _, ?_, rfl, hge, hcm, fun _ => rfl⟩) (fun h => by cases h)) hQ)
              show (G.bx ++ [w.heap.size])[bx.length]? = _
              rw [← hs.mem.lenB, List.getElem?_append_right (Nat.le_refl _), Nat.sub_self]
              rfl
            · cases h1
          · cases h1
      · cases h1
    · cases h1
  · cases h1
attribute [go_sem] appBS
/-- One of the elements is another. -/
theorem putL_flat {α : Type} {enc : α → List AV} {sz : Nat} (hsz : ∀ x, (enc x).length = sz) : ∀ (l : List α) (i : Nat) (x : α) (r : List AV), i < l.length → putL (l.flatMap enc ++ r) (i * sz) (enc x) = (l.set i x).flatMap enc ++ r
  | [], i, x, r, h => by simp at h
  | y :: l, 0, x, r, _ => by
    have over : ∀ (us vs cs : List AV), us.length = vs.length → overL us (vs ++ cs) = us ++ cs := by
      intro us
      induction us with
      | nil => intro vs cs h; have : vs = [] := List.eq_nil_of_length_eq_zero (by simpa using h.symm); subst this; rfl
      | cons u us ih => intro vs cs h; cases vs with
        | nil => simp at h
        | cons v vs => simp only [List.cons_append, overL]; rw [ih vs cs (by simpa using h)]
    have p0 : ∀ cs us : List AV, putL cs 0 us = overL us cs := fun cs us => by cases cs <;> rfl
    simp only [Nat.zero_mul, p0, List.set_cons_zero, List.flatMap_cons, List.append_assoc]
    exact over _ _ _ ((hsz x).trans (hsz y).symm)
  | y :: l, i + 1, x, r, h => by
    have skip : ∀ (vs cs us : List AV) (k : Nat), putL (vs ++ cs) (vs.length + k) us = vs ++ putL cs k us := by
      intro vs
      induction vs with
      | nil => intro cs us k; simp
      | cons v vs ih => intro cs us k; rw [List.length_cons, show vs.length + 1 + k = vs.length + k + 1 from by omega, List.cons_append, putL, ih]; rfl
    rw [List.flatMap_cons, List.append_assoc, List.set_cons_succ, List.flatMap_cons, List.append_assoc, Nat.add_mul, Nat.one_mul, Nat.add_comm, ← hsz y, skip, hsz y, putL_flat hsz l i x r (by simpa using h)]
end Go.Proofs.YtihnjbnlbedpaaaDoor
