/- The abstract logic: the rules for regions that draw their order and make variables, or rows. -/
import Derived.Test.YticlpcgkaffdmaaAlTok
namespace Go.Proofs.Yticlpcgkaffdmaa
set_option linter.unusedSectionVars false
set_option linter.unusedVariables false
set_option linter.unusedSimpArgs false
open Go.RowKit

theorem wanted_none {ops : Array Oper} {o : Oper} {tmps : Array Value} (h : o.guard = none) : Region.wanted o (yielded ops tmps) = true := by simp [Region.wanted, h]
section specs
variable {P : Program} {T : TT} {ops : Array Oper} {o : Oper} {st : ASt} {x : AV}
theorem crSpec_alloc (hT : TOk P T) {t : TypeId} {i : TI} (hop : o.op = .alloc t) (hg : o.guard = none) (hi : T t = some i) : CrSpec P ops o st x none (.box (i.zero.map .raw)) := by
  intro G a w hm hs v0 hv0
  refine ⟨wanted_none hg, fun ro K Q hK => ?_⟩
  obtain ⟨z, h1, h2⟩ := (hT t i hi).zero_run w
  refine wpIn_of_run (fun c hc => by rw [hop] at hc; cases hc) ?_
  have hrun : (execOp a.eval o).run P w = .ok (.value (.pointer (some ⟨w.heap.size, 0, none⟩))) (w.alloc (.cells z.cells t)) := by
    obtain ⟨dst, op, type, pos, after, guard⟩ := o
    simp only at hop
    subst hop
    simp [execOp, Instr.alloc, h1, newVar, newRow, newObj, Sem.run]
  rw [hrun, Oper.uponIn_value]
  have hb : Below w.heap.size w (w.alloc (.cells z.cells t)) := (Below.refl _ _).alloc (Nat.le_refl _) _
  have E := msat_ext hm hb G.imm (fun _ _ i => i) (fun _ _ i => .inl i) (fun b o i => by
    rw [hb.cell (p := ⟨b, o, none⟩) (hm.lt_imm i)]; exact hm.immOk b o i)
  refine hK _ _ _ (Grow.of_ext E) (.inl ⟨_, rfl⟩) ⟨w.heap.size, z.cells.toList, t, rfl, heap_alloc_new w _, ?_, fun o i => by have := hm.lt_imm i; omega⟩ (fun b hb => ?_)
  · rw [h2]
    refine AV.relL_mk (by simp) fun j x v hx hv => ?_
    rw [List.getElem?_map, hv] at hx
    simp only [Option.map_some, Option.some.injEq] at hx
    subst hx; rfl
  · simp only [tkBlk, Option.some.injEq] at hb
    exact .inl (by omega)
/-- A slice that is made of parts: a row that nobody else has. -/
def mkRowA (T : TT) (st : ASt) (o : Op) : Option (List Bool × ARow × Prop) :=
  match o with
  | .buildSlice t len parts => match T t with
    | some ⟨.slice e, _, _, _, _⟩ => match T e with
      | some j => match fillA st (fun i => some (i * j.size, j.size)) parts.toList (zerosA len j.zero) with
        | some (gs, cs, p) => some (gs, ⟨e, j.size, len, chunkA j.size cs⟩, p ∧ 0 < j.size ∧ len * j.size ≤ 16777216 ∧ j.zero.length = j.size)
        | none => none
      | none => none
    | _ => none
  | _ => none
theorem mkRow_sound (hT : TOk P T) {G : Gh} {a : Act} {w : World} (hm : MSat G w st.bx st.rw) {cs : List Bool} {r : ARow} {p : Prop} (h : mkRowA T st o.op = some (cs, r, p)) (hc : ∀ c ∈ cs, c = true) (hp : p)
    (hev : ∀ y ∈ o.op.operands.toList, EvOk G w a st y) : ∃ (us : List Value) (e : TypeId), (execOp a.eval o).run P w = .ok (.value (.slice (some ⟨w.heap.size, 0, none⟩) r.n r.n)) (w.alloc (.cells us.toArray e)) ∧
      Ext st.bx st.rw G w ⟨fun b q => G.imm b q ∨ (b = w.heap.size ∧ q < us.length), G.bx, G.rw⟩ (w.alloc (.cells us.toArray e)) ∧
      (AV.lst r.sz r.n r.el).rel ⟨fun b q => G.imm b q ∨ (b = w.heap.size ∧ q < us.length), G.bx, G.rw⟩ (w.alloc (.cells us.toArray e)) (.slice (some ⟨w.heap.size, 0, none⟩) r.n r.n) ∧
      RowOk ⟨fun b q => G.imm b q ∨ (b = w.heap.size ∧ q < us.length), G.bx, G.rw⟩ (w.alloc (.cells us.toArray e)) r (r.n, .slice (some ⟨w.heap.size, 0, none⟩) r.n r.n) := by
  obtain ⟨dst, op, type, pos, after, guard⟩ := o
  simp only at h hev
  unfold mkRowA at h
  split at h
  · rename_i t len parts
    split at h
    · rename_i e _ _ _ _ h1
      split at h
      · rename_i j h2
        split at h
        · rename_i gs cs' p' h3
          simp only [Option.some.injEq, Prod.mk.injEq] at h
          obtain ⟨rfl, rfl, rfl⟩ := h
          obtain ⟨q1, q2, q3, q4⟩ := hp
          have hev' : ∀ q ∈ parts.toList, EvOk G w a st q.2 := fun q hq => hev q.2 (by simp [Op.operands]; exact ⟨q.1, by simpa using hq⟩)
          obtain ⟨us, e1, e2⟩ := fillA_sound (a := a) hm _ _ _ _ _ _ hev' h3 hc q1 (zerosA_rel len j.zero)
          have e3 := buildSlice_run (w := w) (hT _ _ h1) rfl (hT _ _ h2) q2 q3 q4 (parts := parts.map fun q => (q.1, a.eval q.2)) (us := us) (by simpa using e1)
          have hlen : us.length = len * j.size := by
            have := fill_size _ _ _ e1
            simp only [List.size_toArray, zerosV_length, q4] at this
            exact this
          have hcell : ∀ k u, us[k]? = some u → (w.alloc (.cells us.toArray e)).cell? ⟨w.heap.size, k, none⟩ = some u := fun k u hk => by
            have := heap_alloc_new w (.cells us.toArray e)
            simp only [World.cell?, this]
            simpa using hk
          have E := msat_ext hm ((Below.refl _ _).alloc (Nat.le_refl _) (.cells us.toArray e)) (fun b o => G.imm b o ∨ (b = w.heap.size ∧ o < us.length)) (fun b o i => .inl i) (fun b o i => i.elim .inl fun i => .inr (by omega))
            (fun b o i => by
              rcases i with i | ⟨rfl, i⟩
              · have := hm.lt_imm i
                rw [World.cell?_of_block (w := w) (heap_alloc_old w _ this)]
                exact hm.immOk b o i
              · rw [hcell o us[o] (List.getElem?_eq_getElem i)]; rfl)
          have hml : len ≤ maxLen := by
            have : len ≤ len * j.size := Nat.le_mul_of_pos_right _ q2
            simp only [maxLen]; omega
          have hels : ∀ i, i < len → ∃ vs, AV.relL ⟨fun b q => G.imm b q ∨ (b = w.heap.size ∧ q < us.length), G.bx, G.rw⟩ (w.alloc (.cells us.toArray e)) (chunkA j.size cs' i) vs ∧ vs.length = j.size ∧ ∀ k u, vs[k]? = some u → us[i * j.size + k]? = some u := by
            intro i hi
            refine ⟨(us.drop (i * j.size)).take j.size, AV.relL_take _ (AV.relL_drop _ (AV.relL_mono E.le _ _ e2)), ?_, fun k u hk => ?_⟩
            · have : (i + 1) * j.size ≤ len * j.size := Nat.mul_le_mul_right _ hi
              rw [Nat.succ_mul] at this
              simp; omega
            · rw [List.getElem?_take] at hk
              split at hk
              · rwa [List.getElem?_drop] at hk
              · cases hk
          refine ⟨us, e, by simp only [execOp, Sem.run_bind, e3, Result.andThen_ok]; rfl, E, ⟨_, len, rfl, Nat.le_refl _, hml, fun hn => ⟨w.heap.size, 0, rfl, fun i hi => ?_⟩⟩, ⟨rfl, ⟨us, ⟨hlen, .inr ⟨w.heap.size, len, us.toArray, rfl, Nat.zero_le _, heap_alloc_new w _, Nat.le_refl _, hml, by simpa using hlen, by simp [← hlen]⟩⟩, hels⟩, fun g hg o => ?_⟩⟩
          · obtain ⟨vs, v1, v2, v3⟩ := hels i hi
            refine ⟨vs, v1, v2, fun k u hk => ?_⟩
            have := v3 k u hk
            rw [Nat.zero_add]
            exact ⟨.inr ⟨rfl, (List.getElem?_eq_some_iff.1 this).1⟩, hcell _ _ this⟩
          · simp only [Value.ownBlock, Option.some.injEq] at hg
            subst hg
            show (G.imm w.heap.size o ∨ (w.heap.size = w.heap.size ∧ o < us.length)) ↔ o < len * j.size
            rw [hlen]
            exact ⟨fun h => h.elim (fun h => by have := hm.lt_imm h; omega) (·.2), fun h => .inr ⟨rfl, h⟩⟩
        · cases h
      · cases h
    · cases h
  · cases h
theorem crSpec_mkRow (hT : TOk P T) {cs : List Bool} {r : ARow} {p : Prop} (hg : o.guard = none) (h : mkRowA T st o.op = some (cs, r, p)) (hp : (∀ c ∈ cs, c = true) ∧ p) : CrSpec P ops o st (.lst r.sz r.n r.el) none (.row r) := by
  intro G a w hm hs v0 hv0
  refine ⟨wanted_none hg, fun ro K Q hK => ?_⟩
  obtain ⟨us, e, h1, h2, h3, h4⟩ := mkRow_sound hT hm h hp.1 hp.2 (a := a) (fun y hy => evOk_of fun t ht => hs t (looks_operand (by rw [← ht]; exact hy)))
  refine wpIn_of_run (fun c hc => by rw [hc] at h; simp [mkRowA] at h) ?_
  rw [h1, Oper.uponIn_value]
  refine hK _ _ _ (Grow.of_ext h2) (.inr h3) h4 (fun b hb => ?_)
  simp only [tkBlk, Value.ownBlock, Option.some.injEq] at hb
  exact .inl (by omega)
/-- What append appends to, and what. -/
def appA (st : ASt) (o : Op) : Option (Nat × Bool × Nat × Nat × (Nat → List AV) × Prop × TypeId) :=
  match o with
  | .call c => match c.callee with
    | .builtin .append => match c.args.toList, c.argTypes.toList with
      | [.tmp s, y], [t, t'] => bif Nat.beq t t' then match st.ev y with
        | some (g, v) => match st.asL v with
          | some (sz, m, el, p) => some (s, g, sz, m, el, p, t)
          | none => none
        | none => none
      else none
      | _, _ => none
    | _ => none
  | _ => none
theorem crSpec_app (hT : TOk P T) {s sz m : Nat} {g : Bool} {el : Nat → List AV} {p : Prop} {t e : TypeId} {r : ARow} {i j : TI} (hg : o.guard = none) (h : appA st o.op = some (s, g, sz, m, el, p, t)) (hgt : g = true) (hp : p) (hi : T t = some i) (hk : i.k = .slice e) (hj : T e = some j)
    (hc : r.e = e ∧ r.sz = j.size ∧ sz = j.size ∧ 0 < j.size ∧ j.zero.length = j.size) (hone : ∀ q, q < m → AV.oneL st (el q)) (hmax : r.n + m ≤ maxLen ∧ (r.n + m) * j.bytes ≤ 140737488355328) :
    CrSpec P ops o st (.lst j.size (r.n + m) (appEl r.n r.el el)) (some (s, .row r)) (.row ⟨e, j.size, r.n + m, appEl r.n r.el el⟩) := by
  obtain ⟨c1, c2, c3, c4, c5⟩ := hc
  subst c3
  intro G a w hm hs v0 hv0
  refine ⟨wanted_none hg, fun ro K Q hK => ?_⟩
  obtain ⟨a1, a2, a3⟩ := hv0 s (.row r) rfl
  have hev : ∀ y ∈ o.op.operands.toList, EvOk G w a st y := fun y hy => evOk_of fun t ht => hs t (looks_operand (by rw [← ht]; exact hy))
  refine wpIn_of_run (fun c hc => by rw [hc] at h; simp [appA] at h) ?_
  obtain ⟨dst, op, type, pos, after, guard⟩ := o
  simp only at h hev
  unfold appA at h
  split at h
  · rename_i c
    obtain ⟨callee, args, argTypes⟩ := c
    obtain ⟨args⟩ := args
    obtain ⟨argTypes⟩ := argTypes
    simp only at h
    split at h
    · split at h
      · rename_i s' y t1 t2
        cases hbt : Nat.beq t1 t2
        · rw [hbt] at h; cases h
        · rw [hbt] at h
          simp only [cond_true] at h
          obtain rfl := Nat.eq_of_beq_eq_true hbt
          split at h
          · rename_i g' v' hy
            split at h
            · rename_i sz' m' el' p' hl
              simp only [Option.some.injEq, Prod.mk.injEq] at h
              obtain ⟨rfl, rfl, rfl, rfl, rfl, rfl, rfl⟩ := h
              have hyr := asL_sound hm hl hp (hev y (by simp [Op.operands, Call.operands]) _ _ hy hgt)
              obtain ⟨v', w', imm', k1, k2, k3, k4, k5, k6, k7, k8⟩ := append_core hT (ty := type) (hT _ _ hi) hk (hT _ _ hj) c4 c5 hm.immOk a2 c1 c2 hyr (fun q hq vs hvs u hu => oneL_sound hm (hone q hq) hvs u hu) hmax.1 hmax.2
              have hrun : (execOp a.eval ⟨dst, .call ⟨.builtin .append, ⟨[.tmp s', y]⟩, ⟨[t1, t1]⟩⟩, type, pos, after, guard⟩).run P w = .ok (.value v') w' := by
                have hsv : a.eval (.tmp s') = v0 := by simp [Act.eval, Array.getD_eq_getD_getElem?, a1]
                simp [execOp, resolve, invoke, builtin, hsv, k1]
              rw [hrun, Oper.uponIn_value]
              have hblk : ∀ b, v0.ownBlock = some b → tkBlk v0 = some b := fun b hb => by
                cases v0 <;> simp [Value.ownBlock] at hb
                rename_i ad n c
                cases ad <;> simp at hb
                simp [tkBlk, Value.ownBlock, hb]
              have hblk' : ∀ (v : Value) b, (∃ A n c, v = .slice A n c) → tkBlk v = some b → v.ownBlock = some b := fun v b ⟨A, n, c, e⟩ hb => by subst e; exact hb
              have le : G.Le w ⟨imm', G.bx, G.rw⟩ w' := ⟨fun b o i => (k2 b o i).1, fun b o i => (k2 b o i).2, fun _ _ h => h, fun _ e h => ⟨e, h, .inl rfl⟩⟩
              have hout : Outside (fun k => tkBlk v0 = some k) w w' := by
                rcases k8 with ⟨_, g1⟩ | ⟨_, g1⟩
                · exact ⟨g1.os, g1.tape, g1.output, g1.size, fun k hk hn => g1.block k hk fun e => hn (hblk k e.symm)⟩
                · exact ⟨g1.os, g1.tape, g1.output, g1.size, fun k hk _ => g1.block k hk⟩
              have hold : ∀ k, k < w.heap.size → tkBlk v0 ≠ some k → w'.heap[k]? = w.heap[k]? := fun k hk hn => hout.block k hk hn
              have hown' : ∀ b, v'.ownBlock = some b → w.heap.size ≤ b ∨ tkBlk v0 = some b := fun b hb => by
                rcases k8 with ⟨g0, _⟩ | ⟨g0, _⟩
                · exact .inr (hblk b (g0.symm.trans hb))
                · rw [g0] at hb; simp only [Option.some.injEq] at hb; exact .inl (by omega)
              have hmem : MSat ⟨imm', G.bx, G.rw⟩ w' st.bx st.rw := by
                refine ⟨k4, hm.lenB, hm.lenR, hm.nodup, fun k cs blk hkk hgg => ?_, fun k r' x' hkk hgg => ?_, hm.sepB, hm.sepR⟩
                · obtain ⟨b1, vs, Ty, b2, b3⟩ := hm.box k cs blk hkk hgg
                  have hmb := List.mem_of_getElem? hgg
                  have hlt := hm.lt_box hmb
                  have hne : tkBlk v0 ≠ some blk := fun e => (a3 blk e).1 hmb
                  refine ⟨fun o i => (k3 blk o i).elim (b1 o) (fun h => (hown' blk h).elim (fun h => by omega) (fun h => absurd h hne)), vs, Ty, by rw [hold blk hlt hne]; exact b2, AV.relL_mono le _ _ b3⟩
                · have ro' := hm.row k r' x' hkk hgg
                  obtain ⟨xs, ho, hel⟩ := ro'.own
                  have hne : ∀ gq, x'.2.ownBlock = some gq → tkBlk v0 ≠ some gq := fun gq hq e => (a3 gq e).2 x' (List.mem_of_getElem? hgg) hq
                  refine ⟨ro'.len, ⟨xs, ⟨ho.1, ?_⟩, fun q hq => by obtain ⟨vs, e1, e2⟩ := hel q hq; exact ⟨vs, AV.relL_mono le _ _ e1, e2⟩⟩, fun gq hq o => ?_⟩
                  · rcases ho.2 with ho2 | ⟨gq, cap, cur, hv, hbg, hh, hr⟩
                    · exact .inl ho2
                    · exact .inr ⟨gq, cap, cur, hv, hbg, by rw [hold gq (Array.getElem?_eq_some_iff.1 hh).1 (hne gq (by rw [hv]; rfl))]; exact hh, hr⟩
                  · rw [← ro'.imm gq hq o]
                    have hlt := hm.lt_row hgg hq
                    exact ⟨fun i => (k3 gq o i).elim id (fun h => (hown' gq h).elim (fun h => by omega) (fun h => absurd h (hne gq hq))), fun i => (k2 gq o i).1⟩
              refine hK v' ⟨imm', G.bx, G.rw⟩ w' ⟨le, hout, rfl, rfl, hmem, fun b o i => (k3 b o i).elim .inl fun h => .inr (hown' b h)⟩ (.inr k7) k5 (fun b hb => hown' b (hblk' v' b ?_ hb))
              obtain ⟨A, cap, e, _⟩ := k7
              exact ⟨A, _, cap, e⟩
            · cases h
          · cases h
      · cases h
    · cases h
  · cases h
end specs

/-- A region that draws its order, of which some operations are done: what they made stands in es and ks. From some place on it goes in the order of the text. -/
def runF (P : Program) (full : List Oper) (es : List (Nat × (Bool × AV))) (ks : List Kd) (l : List Oper) (k : ASt → Prop) (sl0 : List (Nat × (Bool × AV))) (st : ASt) : Prop :=
  st.sl = es.reverse ++ sl0 → es.length = ks.length → ∃ (es' : List (Nat × (Bool × AV))) (ks' : List Kd) (l1 l2 : List Oper), l = l1 ++ l2 ∧ es'.length = l1.length ∧ ks'.length = l1.length ∧
    (∀ i o, l1[i]? = some o → ∃ d g x kd, es'[i]? = some (d, (g, x)) ∧ ks'[i]? = some kd ∧ o.dst = some d ∧ StepOk P full.toArray (es ++ es') (ks ++ ks') { st with sl := (es'.take i).reverse ++ st.sl } o g x kd) ∧
    (∀ (i d : Nat) (g : Bool) (x : AV) (kd : Kd) (cs : List AV), es'[i]? = some (d, (g, x)) → ks'[i]? = some kd → kd.box? = some cs → x = .box (st.bx.length + (boxesOf (ks ++ ks'.take i)).length) 0) ∧
    runS P full.toArray l2 k { st with sl := es'.reverse ++ st.sl, bx := st.bx ++ boxesOf (ks ++ ks') } ∧ depOk3 (full.take (es.length + l1.length)) (ks ++ ks') l2 = true
section drawF
variable {P : Program} {Q : Exit → ASt → Prop} {k : ASt → Prop} {T : TT} {full : List Oper} {es : List (Nat × (Bool × AV))} {ks : List Kd} {r l : List Oper} {nt nb : Nat} {sl sl0 : List (Nat × (Bool × AV))} {bx : List (List AV)} {rw : List ARow} {ys : (Nat × List (List AV)) × List (List AV) × Bool} {st : ASt} {o : Oper} {d : Nat}
theorem runF_step {g : Bool} {x : AV} {kd : Kd} (hd : o.dst = some d) (hok : ∀ es' ks', StepOk P full.toArray (es ++ es') (ks ++ ks') ⟨nt, nb, sl, bx, rw, ys⟩ o g x kd) (hb : ∀ cs, kd.box? = some cs → x = .box (bx.length + (boxesOf ks).length) 0)
    (h : runF P full (es ++ [(d, (g, x))]) (ks ++ [kd]) r k sl0 ⟨nt, nb, (d, (g, x)) :: sl, bx, rw, ys⟩) : runF P full es ks (o :: r) k sl0 ⟨nt, nb, sl, bx, rw, ys⟩ := by
  intro hsl hlen
  obtain ⟨es', ks', l1, l2, h1, h2, h3, h4, h5, h6, h7⟩ := h (by simp only [List.reverse_append, List.reverse_cons, List.reverse_nil, List.nil_append, List.cons_append]; rw [show sl = es.reverse ++ sl0 from hsl]) (by simp [hlen])
  refine ⟨(d, (g, x)) :: es', kd :: ks', o :: l1, l2, by rw [h1]; rfl, by simp [h2], by simp [h3], fun i o' ho' => ?_, fun i d' g' x' kd' cs he hk hbx => ?_, ?_, ?_⟩
  · cases i with
    | zero =>
      simp only [List.getElem?_cons_zero, Option.some.injEq] at ho'
      subst ho'
      exact ⟨d, g, x, kd, rfl, rfl, hd, by simpa using hok ((d, (g, x)) :: es') (kd :: ks')⟩
    | succ i =>
      obtain ⟨d', g', x', kd', e1, e2, e3, e4⟩ := h4 i o' (by simpa using ho')
      refine ⟨d', g', x', kd', by simpa using e1, by simpa using e2, e3, ?_⟩
      simpa [List.append_assoc] using e4
  · cases i with
    | zero =>
      simp only [List.getElem?_cons_zero, Option.some.injEq, Prod.mk.injEq] at he hk
      obtain ⟨rfl, rfl, rfl⟩ := he
      subst hk
      simpa using hb cs hbx
    | succ i =>
      have := h5 i d' g' x' kd' cs (by simpa using he) (by simpa using hk) hbx
      simpa [List.append_assoc] using this
  · simpa [List.append_assoc] using h6
  · have e1 : es.length + (o :: l1).length = (es ++ [(d, (g, x))]).length + l1.length := by simp; omega
    rw [e1]
    simpa [List.append_assoc] using h7
theorem runF_tail (_ : tailHead l = true) (hd : depOk3 (full.take es.length) ks l = true) (h : ∃ bx', bx ++ boxesOf ks = bx' ∧ runS P full.toArray l k ⟨nt, nb, sl, bx', rw, ys⟩) : runF P full es ks l k sl0 ⟨nt, nb, sl, bx, rw, ys⟩ := by
  obtain ⟨bx', rfl, h⟩ := h
  intro hsl hlen
  exact ⟨[], [], [], l, rfl, rfl, rfl, fun i o h => by simp at h, fun i _ _ _ _ _ h => by simp at h, by simpa using h, by simpa using hd⟩
theorem runF_pure (hT : TOk P T) (hd : o.dst = some d)
    (h : ∃ g, guardA full.toArray ⟨nt, nb, sl, bx, rw, ys⟩ o = some g ∧ ∃ cs x p, opA T ⟨nt, nb, sl, bx, rw, ys⟩ o.op = some (cs, x, p) ∧ (g = true → (∀ c ∈ cs, c = true) ∧ p) ∧ runF P full (es ++ [(d, (g, x))]) (ks ++ [.pure]) r k sl0 ⟨nt, nb, (d, (g, x)) :: sl, bx, rw, ys⟩) : runF P full es ks (o :: r) k sl0 ⟨nt, nb, sl, bx, rw, ys⟩ := by
  obtain ⟨g, hg, cs, x, p, h1, h2, h3⟩ := h
  exact runF_step (g := g) (x := x) (kd := .pure) hd (fun _ _ => opSpec_pure hT hg h1 h2) (fun cs h => by cases h) h3
theorem runF_mk (hT : TOk P T) (hd : o.dst = some d)
    (h : ∃ g, guardA full.toArray ⟨nt, nb, sl, bx, rw, ys⟩ o = some g ∧ ∃ cs x p, mkA T ⟨nt, nb, sl, bx, rw, ys⟩ o.op = some (cs, x, p) ∧ (g = true → (∀ c ∈ cs, c = true) ∧ p) ∧ runF P full (es ++ [(d, (g, x))]) (ks ++ [.pure]) r k sl0 ⟨nt, nb, (d, (g, x)) :: sl, bx, rw, ys⟩) : runF P full es ks (o :: r) k sl0 ⟨nt, nb, sl, bx, rw, ys⟩ := by
  obtain ⟨g, hg, cs, x, p, h1, h2, h3⟩ := h
  exact runF_step (g := g) (x := x) (kd := .pure) hd (fun _ _ => opSpec_mk hT hg h1 h2) (fun cs h => by cases h) h3
theorem runF_call (hd : o.dst = some d)
    (h : ∃ g, guardA full.toArray ⟨nt, nb, sl, bx, rw, ys⟩ o = some g ∧ ∃ cs f args, callA ⟨nt, nb, sl, bx, rw, ys⟩ o.op = some (cs, f, args) ∧ (g = true → (∀ c ∈ cs, c = true) ∧ AV.freeL args) ∧ ∃ x, (g = true → FnA P f args x) ∧ runF P full (es ++ [(d, (g, x))]) (ks ++ [.pure]) r k sl0 ⟨nt, nb, (d, (g, x)) :: sl, bx, rw, ys⟩) : runF P full es ks (o :: r) k sl0 ⟨nt, nb, sl, bx, rw, ys⟩ := by
  obtain ⟨g, hg, cs, f, args, h1, h2, x, h3, h4⟩ := h
  exact runF_step (g := g) (x := x) (kd := .pure) hd (fun _ _ => opSpec_call hg h1 h2 h3) (fun cs h => by cases h) h4
theorem runF_alloc (hT : TOk P T) {t : TypeId} (hop : o.op = .alloc t) (hg : o.guard = none) (hd : o.dst = some d)
    (h : ∃ i, T t = some i ∧ ∃ zs, i.zero.map .raw = zs ∧ ∃ m, bx.length + (boxesOf ks).length = m ∧ runF P full (es ++ [(d, (true, .box m 0))]) (ks ++ [.mk (.box zs)]) r k sl0 ⟨nt, nb, (d, (true, .box m 0)) :: sl, bx, rw, ys⟩) : runF P full es ks (o :: r) k sl0 ⟨nt, nb, sl, bx, rw, ys⟩ := by
  obtain ⟨i, h1, zs, rfl, m, rfl, h2⟩ := h
  exact runF_step (g := true) (kd := .mk (.box (i.zero.map .raw))) hd (fun _ _ => ⟨rfl, crSpec_alloc hT hop hg h1⟩) (fun cs h => rfl) h2
theorem runF_mkRow (hT : TOk P T) (hg : o.guard = none) (hd : o.dst = some d)
    (h : ∃ cs rr p, mkRowA T ⟨nt, nb, sl, bx, rw, ys⟩ o.op = some (cs, rr, p) ∧ ((∀ c ∈ cs, c = true) ∧ p) ∧ ∃ x, AV.lst rr.sz rr.n rr.el = x ∧ runF P full (es ++ [(d, (true, x))]) (ks ++ [.mk (.row rr)]) r k sl0 ⟨nt, nb, (d, (true, x)) :: sl, bx, rw, ys⟩) : runF P full es ks (o :: r) k sl0 ⟨nt, nb, sl, bx, rw, ys⟩ := by
  obtain ⟨cs, rr, p, h1, h2, x, rfl, h3⟩ := h
  exact runF_step (g := true) (kd := .mk (.row rr)) hd (fun _ _ => ⟨rfl, crSpec_mkRow hT hg h1 h2⟩) (fun cs h => by cases h) h3
/-- Which operation made what lies in a slot, and the row. -/
def findTok (s : Nat) : List (Nat × (Bool × AV)) → List Kd → Nat → Option (Nat × ARow)
  | e :: es, kd :: ks, j => bif Nat.beq s e.1 then (match kd.tk with
    | some (.row r) => some (j, r)
    | _ => none) else findTok s es ks (j + 1)
  | _, _, _ => none
theorem findTok_sound {s : Nat} : ∀ {es : List (Nat × (Bool × AV))} {ks : List Kd} {j0 j : Nat} {r : ARow}, findTok s es ks j0 = some (j, r) → j0 ≤ j ∧ ∃ e kd, es[j - j0]? = some (s, e) ∧ ks[j - j0]? = some kd ∧ kd.tk = some (.row r)
  | [], _, _, _, _, h => by simp [findTok] at h
  | _ :: _, [], _, _, _, h => by simp [findTok] at h
  | e :: es, kd :: ks, j0, j, r, h => by
    unfold findTok at h
    cases hb : Nat.beq s e.1
    · rw [hb] at h
      simp only [cond_false] at h
      obtain ⟨h1, e', kd', h2, h3, h4⟩ := findTok_sound h
      have : j - j0 = (j - (j0 + 1)) + 1 := by omega
      exact ⟨by omega, e', kd', by rw [this]; simpa using h2, by rw [this]; simpa using h3, h4⟩
    · rw [hb] at h
      simp only [cond_true] at h
      have := Nat.eq_of_beq_eq_true hb
      split at h
      · rename_i r' hr
        cases h
        exact ⟨Nat.le_refl _, e.2, kd, by simp [this], by simp, hr⟩
      · cases h
theorem runF_app (hT : TOk P T) (hg : o.guard = none) (hd : o.dst = some d)
    (h : ∃ s g sz m el p t, appA ⟨nt, nb, sl, bx, rw, ys⟩ o.op = some (s, g, sz, m, el, p, t) ∧ g = true ∧ p ∧ ∃ i, T t = some i ∧ ∃ e, i.k = .slice e ∧ ∃ jj, T e = some jj ∧ ∃ j rr, findTok s es ks 0 = some (j, rr) ∧ (rr.e = e ∧ rr.sz = jj.size ∧ sz = jj.size ∧ 0 < jj.size ∧ jj.zero.length = jj.size) ∧
      (∀ q, q < m → AV.oneL ⟨nt, nb, sl, bx, rw, ys⟩ (el q)) ∧ (rr.n + m ≤ maxLen ∧ (rr.n + m) * jj.bytes ≤ 140737488355328) ∧ ∃ sz', jj.size = sz' ∧ ∃ n', rr.n + m = n' ∧
      runF P full (es ++ [(d, (true, .lst sz' n' (appEl rr.n rr.el el)))]) (ks ++ [.app j (.row ⟨e, sz', n', appEl rr.n rr.el el⟩)]) r k sl0 ⟨nt, nb, (d, (true, .lst sz' n' (appEl rr.n rr.el el))) :: sl, bx, rw, ys⟩) : runF P full es ks (o :: r) k sl0 ⟨nt, nb, sl, bx, rw, ys⟩ := by
  obtain ⟨s, g, sz, m, el, p, t, h1, h2, h3, i, h4, e, h5, jj, h6, j, rr, h7, h8, h9, h10, sz', rfl, n', rfl, h11⟩ := h
  obtain ⟨_, ej, kdj, g1, g2, g3⟩ := findTok_sound h7
  simp only [Nat.sub_zero] at g1 g2
  refine runF_step (g := true) (kd := .app j (.row ⟨e, jj.size, rr.n + m, appEl rr.n rr.el el⟩)) hd (fun es' ks' => ⟨rfl, s, ej, kdj, .row rr, ?_, ?_, g3, crSpec_app hT hg h1 h2 h3 h4 h5 h6 h8 h9 h10⟩) (fun cs h => by cases h) h11
  · rw [List.getElem?_append_left (List.getElem?_eq_some_iff.1 g1).1]; exact g1
  · rw [List.getElem?_append_left (List.getElem?_eq_some_iff.1 g2).1]; exact g2
theorem wpA_drawF {id : Nat} {ops : List Oper} (hm : P.follows .mixedOrders = true) (hf : dstsFit nt ops = true) (h : ∀ K : ASt → Prop, (∀ s, Q .normal s → K s) → runF P ops [] [] ops K sl ⟨nt, nb, sl, bx, rw, ys⟩) : wpA P (.region id ops.toArray true) Q ⟨nt, nb, sl, bx, rw, ys⟩ := by
  obtain ⟨es, ks, l1, l2, h1, h2, h3, h4, h5, h6, h7⟩ := h (Q .normal) (fun _ h => h) rfl rfl
  intro C G a w hs
  have hs' := hs.drew
  have ht : ops.take (([] : List (Nat × (Bool × AV))).length + l1.length) = l1 := by rw [List.length_nil, Nat.zero_add, h1, List.take_left]
  rw [ht] at h7
  have hf' : dstsFit a.tmps.size l1 = true := by
    rw [hs.size]
    simp only [dstsFit, List.all_eq_true] at hf ⊢
    exact fun o ho => hf o (by rw [h1]; simp [ho])
  simp only [List.nil_append] at h4 h5 h6 h7
  refine wpIn_mono (Q := fun e a w => e = .normal ∧ down C Q .normal a w) (wpIn_region_any hm (wpAny3 (C := C) (es := es) (ks := ks) (st := ⟨nt, nb, sl, bx, rw, ys⟩) h1 h7 (fun c a w h => by cases h.1) h2 h3 h4 h5 (fun G a w hs => h6 C G a w _ hs fun G' a' w' st' hs' hk => ⟨rfl, G', st', hs', hk⟩) _ _ G a _ ?_ (by simp) (fun k _ => ?_) ⟨hs'.frame, hs'.le, hs'.fresh, hs'.ownB, hs'.ownR, hs'.mem, hf', hs.size, hs.callers, by rw [h1]; simp, fun t _ => hs'.slot t, ?_, ?_⟩)) (fun e a w h => by obtain ⟨rfl, h⟩ := h; exact h)
  · exact Nat.le_trans List.countP_le_length (by simp)
  · simp only [Array.getD_eq_getD_getElem?, Array.getElem?_replicate]
    split <;> rfl
  · intro k d g x kd _ _ _ hl
    simp [Array.getD_eq_getD_getElem?, Array.getElem?_replicate] at hl
    split at hl <;> cases hl
  · obtain ⟨D, hD⟩ := hs'.env
    have none : ∀ k, ¬ Alive ks (Array.replicate ops.toArray.size false) k := by
      rintro k ⟨hl, _⟩
      simp [Array.getD_eq_getD_getElem?, Array.getElem?_replicate] at hl
      split at hl <;> cases hl
    exact ⟨D, hD, fun k _ _ _ _ _ _ _ hal => absurd hal (none k), fun k _ _ _ _ _ _ _ _ _ _ _ _ _ _ _ _ hal => absurd hal (none k)⟩
end drawF
attribute [go_sem] appA mkRowA
theorem evb {bx : List (List AV)} {ks : List Kd} {b : List (List AV)} (h : bx ++ boxesOf ks = b := by rfl) : bx ++ boxesOf ks = b := h
end Go.Proofs.Yticlpcgkaffdmaa
