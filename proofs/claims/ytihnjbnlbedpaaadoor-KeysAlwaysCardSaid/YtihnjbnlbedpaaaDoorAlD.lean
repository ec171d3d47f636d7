/- The abstract logic: copies into slices of own variables, and what is appended to them. -/
import Derived.Test.YtihnjbnlbedpaaaDoorAlC
import Derived.Deep.AppendSrc
import Derived.Lib.AppendZerosOnto
import Derived.Laws.Externs
namespace Go.Proofs.YtihnjbnlbedpaaaDoor
set_option linter.unusedVariables false
set_option linter.unusedSimpArgs false
set_option maxHeartbeats 4000000
set_option maxRecDepth 100000
open Go.RowKit

/-- The cells that a slice has: the size of an element, how many, the cells, a condition. -/
def ASt.src (st : ASt) : AV → Option (Nat × Nat × List AV × Prop)
  | .bsl sz b off n _ => match st.bx[b]? with
    | some cs => some (sz, n, (cs.drop off).take (n * sz), off + n * sz ≤ cs.length)
    | none => none
  | v => match st.asL v with
    | some (sz, n, el, p) => some (sz, n, (List.range n).flatMap el, p)
    | none => none
section
variable {P : Program} {T : TT} {st : ASt} {G : Gh} {w : World}
theorem cell_of_heap {blk k : Nat} {vs : List Value} {Ty : TypeId} {x : Nat × Nat} {u : Value} (h : w.heap[blk]? = some (.cells vs.toArray Ty x)) (hu : vs[k]? = some u) : w.cell? ⟨blk, k, none⟩ = some u := by
  simp [World.cell?, h, hu]
theorem src_sound (hm : MSat G w st.bx st.rw) {v : AV} {sz n : Nat} {us : List AV} {p : Prop} (h : st.src v = some (sz, n, us, p)) (hp : p) (h0 : 0 < sz) {x : Value} (hx : v.rel G w x) :
    ∃ A cap vs, x = .slice A n cap ∧ vs.length = n * sz ∧ AV.relL G w us vs ∧ (0 < n → ∃ a, A = some a ∧ ∀ j u, vs[j]? = some u → w.cell? (a.add j) = some u) := by
  have gen : ∀ v : AV, (match st.asL v with | some (sz, n, el, p) => some (sz, n, (List.range n).flatMap el, p) | none => none) = some (sz, n, us, p) → v.rel G w x →
      ∃ A cap vs, x = .slice A n cap ∧ vs.length = n * sz ∧ AV.relL G w us vs ∧ (0 < n → ∃ a, A = some a ∧ ∀ j u, vs[j]? = some u → w.cell? (a.add j) = some u) := by
    intro v h hx
    split at h
    · rename_i sz' n' el p' hl
      simp only [Option.some.injEq, Prod.mk.injEq] at h
      obtain ⟨rfl, rfl, rfl, rfl⟩ := h
      have hyr := asL_sound hm hl hp hx
      obtain ⟨A, cap, rfl, _⟩ := id hyr
      obtain ⟨news, h1, h2, h3, _⟩ := lst_cells h0 hyr
      exact ⟨A, cap, news, rfl, h1, relL_flat h1 h3, h2⟩
    · cases h
  unfold ASt.src at h
  split at h
  · rename_i sz' b off n' cap'
    split at h
    · rename_i cs hcs
      simp only [Option.some.injEq, Prod.mk.injEq] at h
      obtain ⟨rfl, rfl, rfl, rfl⟩ := h
      obtain ⟨blk, A, h1, rfl, h2, h3, h4⟩ := hx
      obtain ⟨_, vs, Ty, h5, h6⟩ := hm.box b cs blk hcs h1
      have hl := AV.relL_length h6
      refine ⟨A, cap', (vs.drop off).take (n' * sz'), rfl, by simp; omega, AV.relL_take _ (AV.relL_drop _ h6), fun hn => ⟨⟨blk, off, none⟩, h4 (by omega), fun j u hj => ?_⟩⟩
      rw [add_lit]
      refine cell_of_heap h5 ?_
      rw [List.getElem?_take] at hj
      split at hj
      · rwa [List.getElem?_drop] at hj
      · cases hj
    · cases h
  · exact gen _ h hx
theorem Sat.stored {C : Ctx P} {a : Act} {w' : World} (hs : Sat C G a w st) {b blk : Nat} {cs cs' : List AV} {vs' : List Value} {Ty : TypeId} (hb : st.bx[b]? = some cs) (hg : G.bx[b]? = some blk) (h9 : SetTo w blk vs' Ty w') (hr : AV.relL G w cs' vs') :
    Sat C G a w' { st with bx := st.bx.set b cs' } ∧ G.Le w G w' := by
  obtain ⟨m, le⟩ := msat_store hs.mem hb hg h9 hr
  have ho : Outside (fun k => k ∈ G.bx ∨ ∃ x ∈ G.rw, x.2.ownBlock = some k) w w' := ⟨h9.os, h9.tape, h9.output, Nat.le_of_eq h9.size.symm, fun k _ hk => h9.other k fun e => hk (.inl (e ▸ List.mem_of_getElem? hg))⟩
  exact ⟨hs.called ho le (fun _ _ i => .inl i) (fun _ h => .inl h) (fun x hx g hg => .inl ⟨x, hx, hg⟩) m, le⟩
theorem putL_nil' : ∀ (n : Nat) (l : List Value), putL l n ([] : List Value) = l
  | 0, l => by cases l <;> rfl
  | n + 1, l => by cases l <;> simp [putL, putL_nil' n]
theorem storeCells_at {blk off : Nat} {Ty : TypeId} {vs us : List Value} (h : w.heap[blk]? = some (.cells vs.toArray Ty (0, 0))) (hl : off + us.length ≤ vs.length) (h1 : ∀ u ∈ us, u.oneCell' = true) :
    ∃ w', (storeCells ⟨blk, off, none⟩ us).run P w = .ok () w' ∧ SetTo w blk (putL vs off us) Ty w' := by
  obtain ⟨w', e8, e9⟩ := storeCells_run (P := P) (off := off) (vs := vs) us [] w (by rw [putL_nil']; exact h) (by simp only [List.length_nil]; omega) h1
  simp only [List.nil_append, List.length_nil] at e8 e9
  exact ⟨w', e8, e9⟩
theorem info_of (hT : TOk P T) {e : TypeId} {j : TI} (h3 : T e = some j) : ∃ ie z, P.info? e = some ie ∧ ie.size = j.size ∧ ie.zero = some z ∧ ie.bytes = j.bytes ∧ z.cells.toList = j.zero := by
  have h1 := (hT _ _ h3).info
  cases hie : P.info? e with
  | none => rw [hie] at h1; cases h1
  | some x =>
    rw [hie] at h1
    simp only [Option.map_some, Option.some.injEq, Prod.mk.injEq] at h1
    cases hzz : x.zero with
    | none => rw [hzz] at h1; cases h1.1
    | some z =>
      rw [hzz] at h1
      simp only [Option.map_some, Option.some.injEq] at h1
      exact ⟨x, z, rfl, h1.2.1, hzz, h1.2.2, h1.1⟩
theorem slice_of (hT : TOk P T) {t e : TypeId} {s1 b1 : Nat} {z1 : List Value} {q1 : List CK} (h : T t = some ⟨.slice e, s1, b1, z1, q1⟩) : P.underlying t = some (.slice e) := by
  obtain ⟨d1, u1, u2⟩ := (hT _ _ h).und_some
  rw [u1, tkOf_slice u2]
end
/-- A slice of an own variable, and a source: what 'copy' and 'append' are given. -/
def argsB (st : ASt) (c : Call) : Option (List Bool × (Nat × Nat × Nat × Nat × Nat) × (Nat × Nat × List AV × Prop) × TypeId × TypeId) :=
  match c.args.toList, c.argTypes.toList with
  | [x, y], [t, t'] => match st.ev x, st.ev y with
    | some (g1, .bsl sz b off n cap), some (g2, v) => match st.src v with
      | some s => some ([g1, g2], (sz, b, off, n, cap), s, t, t')
      | none => none
    | _, _ => none
  | _, _ => none
def isCopy : Builtin → Bool
  | .copy => true
  | _ => false
def twoB (st : ASt) (k : Builtin) (o : Op) : Option (List Bool × (Nat × Nat × Nat × Nat × Nat) × (Nat × Nat × List AV × Prop) × TypeId × TypeId) :=
  match o with
  | .call c => match c.callee with
    | .builtin .copy => bif isCopy k then argsB st c else none
    | .builtin .append => bif isCopy k then none else argsB st c
    | _ => none
  | _ => none
theorem argsB_inv {st : ASt} {c : Call} {cs : List Bool} {sz b off n cap : Nat} {s : Nat × Nat × List AV × Prop} {t t' : TypeId} (h : argsB st c = some (cs, (sz, b, off, n, cap), s, t, t')) :
    ∃ x y g1 g2 v, c = ⟨c.callee, #[x, y], #[t, t']⟩ ∧ cs = [g1, g2] ∧ st.ev x = some (g1, .bsl sz b off n cap) ∧ st.ev y = some (g2, v) ∧ st.src v = some s := by
  obtain ⟨callee, args, argTypes⟩ := c
  obtain ⟨args⟩ := args
  obtain ⟨argTypes⟩ := argTypes
  unfold argsB at h
  simp only at h
  split at h
  · split at h
    · rename_i x y t1 t2 _ _ g1 sz' b' off' n' cap' g2 v hx hy
      split at h
      · rename_i s' hs
        simp only [Option.some.injEq, Prod.mk.injEq] at h
        obtain ⟨rfl, ⟨rfl, rfl, rfl, rfl, rfl⟩, rfl, rfl, rfl⟩ := h
        exact ⟨x, y, g1, g2, v, rfl, rfl, hx, hy, hs⟩
      · cases h
    · cases h
  · cases h
theorem twoC_inv {st : ASt} {o : Op} {cs : List Bool} {sz b off n cap : Nat} {s : Nat × Nat × List AV × Prop} {t t' : TypeId} (h : twoB st .copy o = some (cs, (sz, b, off, n, cap), s, t, t')) :
    ∃ x y g1 g2 v, o = .call ⟨.builtin .copy, #[x, y], #[t, t']⟩ ∧ cs = [g1, g2] ∧ st.ev x = some (g1, .bsl sz b off n cap) ∧ st.ev y = some (g2, v) ∧ st.src v = some s := by
  unfold twoB at h
  split at h
  · rename_i c
    split at h
    · rename_i hc
      obtain ⟨x, y, g1, g2, v, h1, h2⟩ := argsB_inv (c := c) (by simpa [isCopy] using h)
      exact ⟨x, y, g1, g2, v, by rw [h1, hc], h2⟩
    · simp [isCopy] at h
    · cases h
  · cases h
theorem twoB_inv {st : ASt} {o : Op} {cs : List Bool} {sz b off n cap : Nat} {s : Nat × Nat × List AV × Prop} {t t' : TypeId} (h : twoB st .append o = some (cs, (sz, b, off, n, cap), s, t, t')) :
    ∃ x y g1 g2 v, o = .call ⟨.builtin .append, #[x, y], #[t, t']⟩ ∧ cs = [g1, g2] ∧ st.ev x = some (g1, .bsl sz b off n cap) ∧ st.ev y = some (g2, v) ∧ st.src v = some s := by
  unfold twoB at h
  split at h
  · rename_i c
    split at h
    · simp [isCopy] at h
    · rename_i hc
      obtain ⟨x, y, g1, g2, v, h1, h2⟩ := argsB_inv (c := c) (by simpa [isCopy] using h)
      exact ⟨x, y, g1, g2, v, by rw [h1, hc], h2⟩
    · cases h
  · cases h
section rules
variable {P : Program} {T : TT} {ops : Array Oper} {rest : List Oper} {K : ASt → Prop} {nt nb : Nat} {sl : List (Nat × (Bool × AV))} {bx : List (List AV)} {rw : List ARow} {ys : (Nat × List (List AV)) × List (List AV) × Bool} {o : Oper} {d : Nat}
/-- 'copy'. -/
theorem runS_copyB (hT : TOk P T) (hg : o.guard = none) (hd : o.dst = some d) (hn : Nat.blt d nt = true)
    {cs : List Bool} {sz b off n cap sz' m : Nat} {us : List AV} {p : Prop} {t t' : TypeId} (h1 : twoB ⟨nt, nb, sl, bx, rw, ys⟩ .copy o.op = some (cs, (sz, b, off, n, cap), (sz', m, us, p), t, t')) (hc : ∀ c ∈ cs, c = true) (hp : p)
    {e s1 b1 : Nat} {z1 : List Value} {q1 : List CK} (h2 : T t = some ⟨.slice e, s1, b1, z1, q1⟩) {j : TI} (h3 : T e = some j) (hsz : sz = j.size ∧ sz' = j.size ∧ 0 < j.size) (h0 : 0 < n ∧ 0 < m) {cl : List AV} (hb : bx[b]? = some cl)
    (hone : AV.oneL ⟨nt, nb, sl, bx, rw, ys⟩ us) (hfit : off + n * sz ≤ cl.length)
    {q : Nat} (hq : min m n = q) {bx' : List (List AV)} (hset : bx.set b (putL cl off (us.take (q * sz))) = bx')
    (h : runS P ops rest K ⟨nt, nb, (d, (true, .raw (.int .i64 (q : Nat)))) :: sl, bx', rw, ys⟩) : runS P ops (o :: rest) K ⟨nt, nb, sl, bx, rw, ys⟩ := by
  subst hq; subst hset
  obtain ⟨x, y, g1, g2, v, hop, rfl, hx, hy, hsrc⟩ := twoC_inv h1
  obtain ⟨rfl, rfl, j0⟩ := hsz
  intro C G a w Q hs hQ
  have hev : ∀ y ∈ o.op.operands.toList, EvOk G w a ⟨nt, nb, sl, bx, rw, ys⟩ y := fun y hy => evOk_of fun t ht => hs.slot t
  obtain ⟨blk, A, hA0, ex, hnc, hcm, hA⟩ := hev x (by rw [hop]; simp [Op.operands, Call.operands]) _ _ hx (hc g1 (by simp))
  obtain ⟨A', cap', vs, ey, hvl, hvr, hva⟩ := src_sound hs.mem hsrc hp j0 (hev y (by rw [hop]; simp [Op.operands, Call.operands]) _ _ hy (hc g2 (by simp)))
  obtain ⟨a', rfl, hcell⟩ := hva h0.2
  have hA := hA (by omega)
  subst hA
  have hu := slice_of hT h2
  obtain ⟨ie, z, g2', g1', g3, g4, e2⟩ := info_of hT h3
  obtain ⟨_, ws, Ty, b3, b4⟩ := hs.mem.box b cl blk hb hA0
  have hwl := AV.relL_length b4
  have hkn : min m n * j.size ≤ n * j.size := Nat.mul_le_mul_right _ (Nat.min_le_right _ _)
  have hkm : min m n * j.size ≤ m * j.size := Nat.mul_le_mul_right _ (Nat.min_le_left _ _)
  have h1c : ∀ u ∈ vs, u.oneCell' = true := oneL_sound hs.mem hone hvr
  have hul := AV.relL_length hvr
  obtain ⟨w', e8, e9⟩ := storeCells_at (P := P) (off := off) (us := vs.take (min m n * j.size)) b3 (by simp; omega) (fun u hu => h1c u (List.mem_of_mem_take hu))
  obtain ⟨s1', le⟩ := hs.stored hb hA0 e9 (relL_put b4 (AV.relL_take _ hvr))
  have hf := run_firstCells_some (P := P) w j.size (min m n) a' m cap' (vs.take (min m n * j.size)) (by simp; omega) (fun q u hq => by
    rw [List.getElem?_take] at hq
    split at hq
    · exact hcell q u hq
    · cases hq)
  have hrun : ∀ ty, (Builtin.copy_ #[t, t'] ty #[.slice (some ⟨blk, off, none⟩) n cap, .slice (some a') m cap']).run P w = .ok (goInt (min m n : Nat)) w' := fun ty => by
    have hmn : Nat.min m n = min m n := rfl
    simp [Builtin.copy_, run_underlying hu, Builtin.lenOf, sizeOf, typeInfo, g2', g1', hmn, hf, e8]
  refine wpListIn_plain hg fun K' hK => ?_
  refine wpIn_of_run (fun c hc => by rw [hop] at hc; cases hc) ?_
  have hexec : (execOp a.eval o).run P w = .ok (.value (goInt (min m n : Nat))) w' := by
    obtain ⟨dst, op, type, pos, after, guard⟩ := o
    simp only at hop
    subst hop
    simp [execOp, resolve, invoke, builtin, ex, ey, hrun]
  rw [hexec, Oper.uponIn_value, hd]
  exact hK _ _ (h C _ _ _ Q (s1'.put (by simpa [Nat.blt_eq] using hn) (fun _ => rfl) (fun h => by cases h)) hQ)
/-- 'append' onto a slice of an own variable: there is room, or there is none. -/
theorem runS_appB (hT : TOk P T) (hg : o.guard = none) (hd : o.dst = some d) (hn : Nat.blt d nt = true)
    {cs : List Bool} {sz b off n cap sz' m : Nat} {us : List AV} {p : Prop} {t t' : TypeId} (h1 : twoB ⟨nt, nb, sl, bx, rw, ys⟩ .append o.op = some (cs, (sz, b, off, n, cap), (sz', m, us, p), t, t')) (hc : ∀ c ∈ cs, c = true) (hp : p) (htt : t' = t)
    {e s1 b1 : Nat} {z1 : List Value} {q1 : List CK} (h2 : T t = some ⟨.slice e, s1, b1, z1, q1⟩) {j : TI} (h3 : T e = some j) (hsz : sz = j.size ∧ sz' = j.size ∧ 0 < j.size ∧ j.zero.length = j.size) (h0 : 0 < m) {cl : List AV} (hb : bx[b]? = some cl)
    (hone : AV.oneL ⟨nt, nb, sl, bx, rw, ys⟩ us) (hfit : off + cap * sz ≤ cl.length) (hmax : n + m ≤ maxLen ∧ (n + m) * j.bytes ≤ 140737488355328)
    (hroom : n + m ≤ cap → ∀ bx', bx.set b (putL cl (off + n * sz) us) = bx' → runS P ops rest K ⟨nt, nb, (d, (true, .bsl sz b off (n + m) cap)) :: sl, bx', rw, ys⟩)
    (hgrow : cap < n + m → ∀ c, n + m ≤ c → c ≤ maxLen → ∀ bx' bn, bx.length = bn → bx ++ [((cl.drop off).take (n * sz) ++ us) ++ zerosA (c - (n + m)) j.zero] = bx' → runS P ops rest K ⟨nt, nb, (d, (true, .bsl sz bn 0 (n + m) c)) :: sl, bx', rw, ys⟩) : runS P ops (o :: rest) K ⟨nt, nb, sl, bx, rw, ys⟩ := by
  obtain ⟨x, y, g1, g2, v, hop, rfl, hx, hy, hsrc⟩ := twoB_inv h1
  obtain ⟨rfl, rfl, j0, jz⟩ := hsz
  subst htt
  intro C G a w Q hs hQ
  have hev : ∀ y ∈ o.op.operands.toList, EvOk G w a ⟨nt, nb, sl, bx, rw, ys⟩ y := fun y hy => evOk_of fun t ht => hs.slot t
  obtain ⟨blk, A, hA0, ex, hnc, hcm, hA⟩ := hev x (by rw [hop]; simp [Op.operands, Call.operands]) _ _ hx (hc g1 (by simp))
  obtain ⟨A', cap', vs, ey, hvl, hvr, hva⟩ := src_sound hs.mem hsrc hp j0 (hev y (by rw [hop]; simp [Op.operands, Call.operands]) _ _ hy (hc g2 (by simp)))
  obtain ⟨a', rfl, hcell⟩ := hva h0
  have hu := slice_of hT h2
  obtain ⟨ie, z, g2', g1', g3, g4, e2⟩ := info_of hT h3
  obtain ⟨_, ws, Ty, b3, b4⟩ := hs.mem.box b cl blk hb hA0
  have hwl := AV.relL_length b4
  have h1c : ∀ u ∈ vs, u.oneCell' = true := oneL_sound hs.mem hone hvr
  have hmle : n * j.size ≤ cap * j.size := Nat.mul_le_mul_right _ hnc
  have hsr : Src P ie.size t' (.slice (some a') m cap') m vs w := .ofSlice w hu a' m cap' vs (by rw [g1']; exact hvl) hcell h1c
  refine wpListIn_plain hg fun K' hK => ?_
  refine wpIn_of_run (fun c hc => by rw [hop] at hc; cases hc) ?_
  by_cases hr : n + m ≤ cap
  · have hA := hA (by omega)
    subst hA
    have hle : (n + m) * j.size ≤ cap * j.size := Nat.mul_le_mul_right _ hr
    rw [Nat.add_mul] at hle
    obtain ⟨w', e8, e9⟩ := storeCells_at (P := P) (off := off + n * j.size) (us := vs) b3 (by omega) h1c
    obtain ⟨s1', le⟩ := hs.stored hb hA0 e9 (relL_put b4 hvr)
    have hexec : (execOp a.eval o).run P w = .ok (.value (.slice (some ⟨blk, off, none⟩) (n + m) cap)) w' := by
      obtain ⟨dst, op, type, pos, after, guard⟩ := o
      simp only at hop
      subst hop
      have hf := run_firstCells_some (P := P) w j.size m a' m cap' vs hvl hcell
      simp [execOp, resolve, invoke, builtin, ex, ey, Builtin.append_, run_underlying hu, Builtin.lenOf, sizeOf, typeInfo, g2', g1', hf, hr, add_lit, e8]
    rw [hexec, Oper.uponIn_value, hd]
    refine hK _ _ (hroom hr _ rfl C _ _ _ Q (s1'.put (by simpa [Nat.blt_eq] using hn) (fun _ => ⟨blk, _, ?_, rfl, hr, hcm, fun _ => rfl⟩) (fun h => by cases h)) hQ)
    exact hA0
  · have hr : cap < n + m := by omega
    have hold : (Builtin.firstCells ie.size n (.slice A n cap)).run P w.drew = .ok ((ws.drop off).take (n * j.size)).toArray w.drew := by
      rw [g1']
      rcases Nat.eq_zero_or_pos cap with h | h
      · have hn0 : n = 0 := by omega
        subst hn0
        cases A with
        | none => simp [run_firstCells_none]
        | some A => exact run_firstCells_some (P := P) w.drew j.size 0 A 0 cap _ (by simp) (fun q u hq => by simp at hq)
      · rw [hA h]
        refine run_firstCells_some (P := P) w.drew j.size n ⟨blk, off, none⟩ n cap _ (by simp; omega) (fun q u hq => ?_)
        rw [add_lit]
        rw [List.getElem?_take] at hq
        split at hq
        · rw [List.getElem?_drop] at hq
          have := cell_of_heap b3 hq
          simpa using this
        · cases hq
    have hrun := fun ty => run_append_grow_src (P := P) w t' t' ty e ie z hu g2' g3 A n cap _ hold (.slice (some a') m cap') m vs hsr hr (by have := hmax.1; simp only [maxLen] at this; omega) (growslice_fits hr (by rw [g4]; exact hmax.2))
    have hge := grownCap_ge w (n + m) cap e
    have hcmx : grownCap w (n + m) cap e ≤ maxLen := grownCap_le_maxLen w (n + m) cap e hmax.1
    have hk := hgrow hr (grownCap w (n + m) cap e) hge hcmx _ _ rfl rfl
    generalize grownCap w (n + m) cap e = c at *
    have hexec : (execOp a.eval o).run P w = .ok (.value (.slice (some ⟨w.heap.size, 0, none⟩) (n + m) c)) (w.drew.alloc (.cells (((ws.drop off).take (n * j.size) ++ vs).toArray ++ Builtin.zeroCells z.cells (c - (n + m))) e)) := by
      obtain ⟨dst, op, type, pos, after, guard⟩ := o
      simp only at hop
      subst hop
      simp only [execOp, resolve, invoke, builtin, Array.map, ex, ey]
      have := hrun type
      simp [ex, ey, this]
    rw [hexec, Oper.uponIn_value, hd]
    have hb1 : Below w.heap.size w w.drew := (Below.refl _ _).drew
    have E := msat_ext hs.mem hb1 G.imm (fun _ _ i => i) (fun _ _ i => .inl i) (fun b o i => hs.mem.immOk b o i)
    have hs1 : Sat C G a w.drew ⟨nt, nb, sl, bx, rw, ys⟩ := hs.called (Outside.of_below hb1) E.le (fun _ _ i => .inl i) (fun _ h => .inl h) (fun x hx g hg => .inl ⟨x, hx, hg⟩) E.mem
    have hcells : AV.relL G w.drew (((cl.drop off).take (n * j.size) ++ us) ++ zerosA (c - (n + m)) j.zero) (((ws.drop off).take (n * j.size) ++ vs) ++ zerosV (c - (n + m)) j.zero) :=
      AV.relL_append (AV.relL_mono E.le _ _ (AV.relL_append (AV.relL_take _ (AV.relL_drop _ b4)) hvr)) (zerosA_rel _ _)
    have hs2 := hs1.push e hcells
    have harr : (((ws.drop off).take (n * j.size) ++ vs) ++ zerosV (c - (n + m)) j.zero).toArray = ((ws.drop off).take (n * j.size) ++ vs).toArray ++ Builtin.zeroCells z.cells (c - (n + m)) := by
      apply Array.ext'
      simp [zeroCells_list, e2]
    rw [harr] at hs2
    refine hK _ _ (hk C _ _ _ Q (hs2.put (by simpa [Nat.blt_eq] using hn) (fun _ => ⟨w.heap.size, _, ?_, rfl, hge, hcmx, fun _ => rfl⟩) (fun h => by cases h)) hQ)
    show (G.bx ++ [w.heap.size])[bx.length]? = _
    have hlb : G.bx.length = bx.length := hs.mem.lenB
    rw [← hlb, List.getElem?_append_right (Nat.le_refl _), Nat.sub_self]
    rfl
/-- 'append(s, make([]T, k)...)' where there is no room. -/
theorem runS_appZ (hT : TOk P T) (hg : o.guard = none) (hd : o.dst = some d) (hn : Nat.blt d nt = true)
    {x y : Operand} {t tn : TypeId} (hop : o.op = .call ⟨.builtin .append, #[x, y], #[t, tn]⟩) {sz b off n cap k : Nat} {kq : IntKind} (hx : (ASt.mk nt nb sl bx rw ys).ev x = some (true, .bsl sz b off n cap)) (hy : (ASt.mk nt nb sl bx rw ys).ev y = some (true, .raw (.int kq k)))
    {e s1 b1 : Nat} {z1 : List Value} {q1 : List CK} (h2 : T t = some ⟨.slice e, s1, b1, z1, q1⟩) {kn : IntKind} {s2 b2 : Nat} {z2 : List Value} {q2 : List CK} (h2' : T tn = some ⟨.int kn, s2, b2, z2, q2⟩) {j : TI} (h3 : T e = some j) (hsz : sz = j.size ∧ 0 < j.size ∧ j.zero.length = j.size) (h0 : 0 < k) {cl : List AV} (hb : bx[b]? = some cl)
    (hfit : off + n * sz ≤ cl.length) (hmax : n + k ≤ maxLen ∧ (n + k) * j.bytes ≤ 140737488355328) (hr : cap < n + k)
    (hgrow : ∀ c, n + k ≤ c → c ≤ maxLen → ∀ bx' bn, bx.length = bn → bx ++ [((cl.drop off).take (n * sz) ++ zerosA k j.zero) ++ zerosA (c - (n + k)) j.zero] = bx' → runS P ops rest K ⟨nt, nb, (d, (true, .bsl sz bn 0 (n + k) c)) :: sl, bx', rw, ys⟩) : runS P ops (o :: rest) K ⟨nt, nb, sl, bx, rw, ys⟩ := by
  obtain ⟨rfl, j0, jz⟩ := hsz
  intro C G a w Q hs hQ
  have hev : ∀ y ∈ o.op.operands.toList, EvOk G w a ⟨nt, nb, sl, bx, rw, ys⟩ y := fun y hy => evOk_of fun t ht => hs.slot t
  obtain ⟨blk, A, hA0, ex, hnc, hcm, hA⟩ := hev x (by rw [hop]; simp [Op.operands, Call.operands]) _ _ hx rfl
  have ey : a.eval y = .int kq k := hev y (by rw [hop]; simp [Op.operands, Call.operands]) _ _ hy rfl
  have hu := slice_of hT h2
  have hun : P.underlying tn = some (.int kn) := by
    obtain ⟨d1, u1, u2⟩ := (hT _ _ h2').und_some
    rw [u1, tkOf_int u2]
  obtain ⟨ie, z, g2', g1', g3, g4, e2⟩ := info_of hT h3
  obtain ⟨_, ws, Ty, b3, b4⟩ := hs.mem.box b cl blk hb hA0
  have hwl := AV.relL_length b4
  refine wpListIn_plain hg fun K' hK => ?_
  refine wpIn_of_run (fun c hc => by rw [hop] at hc; cases hc) ?_
  have hold : (Builtin.firstCells ie.size n (.slice A n cap)).run P w.drew = .ok ((ws.drop off).take (n * j.size)).toArray w.drew := by
    rw [g1']
    rcases Nat.eq_zero_or_pos cap with h | h
    · have hn0 : n = 0 := by omega
      subst hn0
      cases A with
      | none => simp [run_firstCells_none]
      | some A => exact run_firstCells_some (P := P) w.drew j.size 0 A 0 cap _ (by simp) (fun q u hq => by simp at hq)
    · rw [hA h]
      refine run_firstCells_some (P := P) w.drew j.size n ⟨blk, off, none⟩ n cap _ (by simp; omega) (fun q u hq => ?_)
      rw [add_lit]
      rw [List.getElem?_take] at hq
      split at hq
      · rw [List.getElem?_drop] at hq
        have := cell_of_heap b3 hq
        simpa using this
      · cases hq
  have hkb : k * ie.bytes ≤ 281474976710656 := by
    have h1 : k * j.bytes ≤ (n + k) * j.bytes := Nat.mul_le_mul_right _ (by omega)
    rw [g4]; omega
  have hrun := fun ty => Lib.run_append_grow_zeros (P := P) w t tn ty e ie z kq kn hu hun g2' g3 A n cap _ hold k h0 (by rw [g1']; exact j0) hr (by have := hmax.1; simp only [maxLen] at this; omega) hkb (growslice_fits hr (by rw [g4]; exact hmax.2))
  have hge := grownCap_ge w (n + k) cap e
  have hcmx : grownCap w (n + k) cap e ≤ maxLen := grownCap_le_maxLen w (n + k) cap e hmax.1
  have hk := hgrow (grownCap w (n + k) cap e) hge hcmx _ _ rfl rfl
  generalize grownCap w (n + k) cap e = c at *
  have hexec : (execOp a.eval o).run P w = .ok (.value (.slice (some ⟨w.heap.size, 0, none⟩) (n + k) c)) (w.drew.alloc (.cells (((ws.drop off).take (n * j.size)).toArray ++ Builtin.zeroCells z.cells k ++ Builtin.zeroCells z.cells (c - (n + k))) e)) := by
    obtain ⟨dst, op, type, pos, after, guard⟩ := o
    simp only at hop
    subst hop
    simp only [execOp, resolve, invoke, builtin, ex, ey]
    have := hrun type
    simp [ex, ey, this]
  rw [hexec, Oper.uponIn_value, hd]
  have hb1 : Below w.heap.size w w.drew := (Below.refl _ _).drew
  have E := msat_ext hs.mem hb1 G.imm (fun _ _ i => i) (fun _ _ i => .inl i) (fun b o i => hs.mem.immOk b o i)
  have hs1 : Sat C G a w.drew ⟨nt, nb, sl, bx, rw, ys⟩ := hs.called (Outside.of_below hb1) E.le (fun _ _ i => .inl i) (fun _ h => .inl h) (fun x hx g hg => .inl ⟨x, hx, hg⟩) E.mem
  have hcells : AV.relL G w.drew (((cl.drop off).take (n * j.size) ++ zerosA k j.zero) ++ zerosA (c - (n + k)) j.zero) (((ws.drop off).take (n * j.size) ++ zerosV k j.zero) ++ zerosV (c - (n + k)) j.zero) :=
    AV.relL_append (AV.relL_append (AV.relL_mono E.le _ _ (AV.relL_take _ (AV.relL_drop _ b4))) (zerosA_rel _ _)) (zerosA_rel _ _)
  have hs2 := hs1.push e hcells
  have harr : (((ws.drop off).take (n * j.size) ++ zerosV k j.zero) ++ zerosV (c - (n + k)) j.zero).toArray = ((ws.drop off).take (n * j.size)).toArray ++ Builtin.zeroCells z.cells k ++ Builtin.zeroCells z.cells (c - (n + k)) := by
    apply Array.ext'
    simp [zeroCells_list, e2]
  rw [harr] at hs2
  refine hK _ _ (hk C _ _ _ Q (hs2.put (by simpa [Nat.blt_eq] using hn) (fun _ => ⟨w.heap.size, _, ?_, rfl, hge, hcmx, fun _ => rfl⟩) (fun h => by cases h)) hQ)
  show (G.bx ++ [w.heap.size])[bx.length]? = _
  have hlb : G.bx.length = bx.length := hs.mem.lenB
  rw [← hlb, List.getElem?_append_right (Nat.le_refl _), Nat.sub_self]
  rfl
theorem run_overlaps_own {w : World} {t tr e : TypeId} (hu : P.underlying t = some (.slice e)) {size : Nat} (hsz : ∀ w, (sizeOf e).run P w = .ok size w) (A B : Option Addr) (blk off m c n c' : Nat) (hB : B = none ∨ n = 0 ∨ B = some ⟨blk, off, none⟩) {cs : Array Value} {Ty : TypeId} (hb : w.heap[blk]? = some (.cells cs Ty (0, 0)))
    (h : 0 < m → ∃ b o u, A = some ⟨b, o, none⟩ ∧ b ≠ blk ∧ (0 < size → w.cell? ⟨b, o, none⟩ = some u)) (hk : 0 < n → 0 < size → cs.size ≠ 0) :
    (Extern.SlicesOverlaps.overlaps #[t, t] #[tr] #[.slice A m c, .slice B n c']).run P w = .ok (.bool false) w := by
  change Sem.run P (α := Value) (do
    let some t := (#[t, t] : Array TypeId)[0]? | stuck "slices.overlaps: no parameter types"
    let .slice elem ← underlying t | stuck "slices.overlaps: slice type expected"
    let size ← sizeOf elem
    match A, B with
    | some a, some b =>
      if m = 0 ∨ n = 0 ∨ size = 0 then pure (Value.bool false)
      else if a.block != b.block && (← frozen a) && (← frozen b) then unsupported .addressObserved
      else do
        if a.block != b.block then do
          noView a; noView b
          if ← mayBeOne a b then return Value.bool ((← choose (.extern "sameAddr.stringBytes" 2)) == 1)
        pure (Value.bool (a.block == b.block && a.off < b.off + n * size && b.off < a.off + m * size))
    | _, _ => pure (Value.bool false)) w = _
  cases A with
  | none => simp [run_underlying hu, hsz]
  | some A =>
   cases B with
   | none => simp [run_underlying hu, hsz]
   | some B =>
    by_cases h0 : m = 0 ∨ n = 0 ∨ size = 0
    · simp [run_underlying hu, hsz, h0]
    · obtain ⟨b, o, u, e1, e2, e3⟩ := h (by omega)
      cases e1
      have hne : (b != blk) = true := by simpa using e2
      have hne' : (b == blk) = false := by simpa using e2
      obtain rfl : B = ⟨blk, off, none⟩ := by
        rcases hB with h | h | h
        · cases h
        · omega
        · exact Option.some.inj h
      have hc := e3 (by omega)
      have hks := hk (by omega) (by omega)
      unfold World.cell? at hc
      split at hc
      · rename_i c0 el0 fz hh
        have hlt : o < c0.size := by
          simp only [Option.isSome_none, Bool.false_eq_true, if_false] at hc
          exact (Array.getElem?_eq_some_iff.1 hc).1
        cases hcs : cs.size with
        | zero => exact absurd hcs hks
        | succ q =>
          cases hc0 : c0.size with
          | zero => omega
          | succ q' =>
            obtain ⟨lo, hi⟩ := fz
            simp [run_underlying hu, hsz, h0, hne, hne', frozen, noView, viewAt, mayBeOne, stringish, shape, Sem.run, World.frozen?, World.shape?, hh, hb, hcs, hc0]
      · cases hc
/-- What slices.Insert asks: whether a list that nobody writes and a slice of an own variable overlap. -/
theorem runS_overlaps (hT : TOk P T) (hg : o.guard = none) (hd : o.dst = some d) (hn : Nat.blt d nt = true) {f : FuncId} {fn : Func} {x y : Operand} {ats : Array TypeId} {t tr : TypeId} (hf : P.funcs[f]? = some fn) (hname : (fn.name == "runtime.NumGoroutine") = false)
    (hbd : fn.body.isNone = true) (hfn : Extern.findNext fn = none) (he : Extern.find fn = some (Extern.SlicesOverlaps.overlaps #[t, t] #[tr])) (hop : o.op = .call ⟨.value (.func f), #[x, y], ats⟩)
    {e s1 b1 : Nat} {z1 : List Value} {q1 : List CK} (h2 : T t = some ⟨.slice e, s1, b1, z1, q1⟩) {j : TI} (h3 : T e = some j) {sz m sz' b off n cap : Nat} {el : Nat → List AV} (hx : (ASt.mk nt nb sl bx rw ys).ev x = some (true, .lst sz m el)) (hy : (ASt.mk nt nb sl bx rw ys).ev y = some (true, .bsl sz' b off n cap)) (hsz : sz = j.size ∧ 0 < j.size)
    {cl : List AV} (hb : bx[b]? = some cl) (hcl : 0 < cl.length)
    (h : runS P ops rest K ⟨nt, nb, (d, (true, .raw (.bool false))) :: sl, bx, rw, ys⟩) : runS P ops (o :: rest) K ⟨nt, nb, sl, bx, rw, ys⟩ := by
  obtain ⟨rfl, j0⟩ := hsz
  intro C G a w Q hs hQ
  have hev : ∀ y ∈ o.op.operands.toList, EvOk G w a ⟨nt, nb, sl, bx, rw, ys⟩ y := fun y hy => evOk_of fun t ht => hs.slot t
  obtain ⟨blk, B, hB0, ey, hnc, hcm, hB⟩ := hev y (by rw [hop]; simp [Op.operands, Call.operands]) _ _ hy rfl
  obtain ⟨A, c, ex, _, _, hA⟩ := hev x (by rw [hop]; simp [Op.operands, Call.operands]) _ _ hx rfl
  have hu := slice_of hT h2
  obtain ⟨g0, ws, Ty, b3, b4⟩ := hs.mem.box b cl blk hb hB0
  have hwl := AV.relL_length b4
  have hov : (Extern.SlicesOverlaps.overlaps #[t, t] #[tr] #[a.eval x, a.eval y]).run P w = .ok (.bool false) w := by
    rw [ex, ey]
    refine run_overlaps_own (P := P) hu (fun w => (hT _ _ h3).size_run w) A B blk off m c n cap ?_ b3 (fun hm => ?_) (fun _ _ h => by rw [List.size_toArray] at h; omega)
    · rcases Nat.eq_zero_or_pos cap with h | h
      · exact .inr (.inl (by omega))
      · exact .inr (.inr (hB h))
    · obtain ⟨b', o', rfl, h5⟩ := hA hm
      obtain ⟨vs, h6, h7, h8⟩ := h5 0 hm
      have hvs : vs[0]? = some vs[0] := List.getElem?_eq_getElem (by omega)
      obtain ⟨h9, h10⟩ := h8 0 _ hvs
      simp only [Nat.zero_mul, Nat.add_zero] at h9 h10
      exact ⟨b', o', vs[0], rfl, fun e => g0 o' (e ▸ h9), fun _ => h10⟩
  refine wpListIn_plain hg fun K' hK => ?_
  refine wpIn_of_run (fun c hc => by rw [hop] at hc; cases hc) ?_
  have hexec : (execOp a.eval o).run P w = .ok (.value (.bool false)) w := by
    obtain ⟨dst, op, type, pos, after, guard⟩ := o
    simp only at hop
    subst hop
    have hcf := run_callFunc_extern (P := P) hf hname hbd hfn he #[a.eval x, a.eval y] w
    rw [hov] at hcf
    have e1 : a.eval (.func f) = .func (.func f) #[] #[] := rfl
    simp only [execOp, resolve, e1, Deferred.ofValue, Sem.run_bind, Sem.run_pure, Result.andThen_ok, invoke]
    simpa using hcf
  rw [hexec, Oper.uponIn_value, hd]
  exact hK _ _ (h C G _ w Q (hs.put (by simpa [Nat.blt_eq] using hn) (fun _ => rfl) (fun h => by cases h)) hQ)
theorem putL_eq {α : Type} : ∀ (cs : List α) (off : Nat) (us : List α), off + us.length ≤ cs.length → putL cs off us = cs.take off ++ (us ++ cs.drop (off + us.length))
  | [], 0, us, h => by
    have : us = [] := List.eq_nil_of_length_eq_zero (by simpa using h)
    subst this; rfl
  | c :: cs, 0, us, h => by
    have e : ∀ (us cs : List α), us.length ≤ cs.length → overL us cs = us ++ cs.drop us.length := by
      intro us
      induction us with
      | nil => intro cs _; rfl
      | cons u us ih => intro cs h; cases cs with
        | nil => simp at h
        | cons c cs => simp [overL, ih cs (by simpa using h)]
    have : putL (c :: cs) 0 us = overL us (c :: cs) := rfl
    rw [this, e us _ (by simpa using h)]
    simp
  | [], n + 1, us, h => by simp at h
  | c :: cs, n + 1, us, h => by
    have : putL (c :: cs) (n + 1) us = c :: putL cs n us := rfl
    rw [this, putL_eq cs n us (by simp at h; omega)]
    simp [Nat.add_right_comm n 1]
theorem flat_take {α : Type} {enc : α → List AV} {sz : Nat} (h : ∀ x, (enc x).length = sz) : ∀ (l : List α) (i : Nat), (l.flatMap enc).take (i * sz) = (l.take i).flatMap enc
  | [], i => by simp
  | x :: l, 0 => by simp
  | x :: l, i + 1 => by
    rw [List.flatMap_cons, List.take_succ_cons, List.flatMap_cons, List.take_append, h, Nat.add_mul, Nat.one_mul, List.take_of_length_le (by rw [h]; omega), Nat.add_sub_cancel, flat_take h l i]
theorem flat_drop {α : Type} {enc : α → List AV} {sz : Nat} (h : ∀ x, (enc x).length = sz) : ∀ (l : List α) (i : Nat), (l.flatMap enc).drop (i * sz) = (l.drop i).flatMap enc
  | [], i => by simp
  | x :: l, 0 => by simp
  | x :: l, i + 1 => by
    rw [List.flatMap_cons, List.drop_succ_cons, List.drop_append, h, Nat.add_mul, Nat.one_mul, List.drop_of_length_le (by rw [h]; omega), Nat.add_sub_cancel, flat_drop h l i, List.nil_append]
theorem put_mid {α : Type} {A B C us : List α} {off : Nat} (hA : A.length = off) (hB : B.length = us.length) : putL (A ++ (B ++ C)) off us = A ++ (us ++ C) := by
  rw [putL_eq _ _ _ (by simp; omega), List.take_left' hA, ← List.append_assoc A B C, List.drop_left' (by simp; omega)]
end rules
mutual
theorem bel_free (m : Nat) : ∀ (x : AV), x.free → x.bel m
  | .raw _, _ => trivial
  | .agg cs, h => belL_free' m cs h
  | .tup cs, h => belL_free' m cs h
  | .lst _ n el, h => fun i hi => belL_free' m (el i) (h i hi)
  | .elt cs _, h => belL_free' m cs h
  | .box _ _, h => h.elim
  | .fn _ a b, h => ⟨belL_free' m a h.1, belL_free' m b h.2⟩
  | .row _ _, h => h.elim
  | .bsl _ _ _ _ _, h => h.elim
theorem belL_free' (m : Nat) : ∀ (xs : List AV), AV.freeL xs → AV.belL m xs
  | [], _ => trivial
  | x :: xs, h => ⟨bel_free m x h.1, belL_free' m xs h.2⟩
end
theorem belL_free {m : Nat} (xs : List AV) (h : AV.freeL xs) : AV.belL m xs := belL_free' m xs h
/-- That only own variables that are kept are named. -/
theorem obb {p : Prop} (h : p := by first
    | trivial
    | (simp [belB, belR, AV.bel, AV.belL]; done)
    | (simp only [belB, belR, AV.bel, AV.belL, and_true, true_and, and_self]; (repeat' apply And.intro) <;> first | trivial | omega | (simp; done) | (refine bel_free _ _ ?_; first | assumption | exact lA_free (fun _ => by simp) _) | (refine belL_free _ ?_; first | assumption | (simp; done)) | (intro r hr; cases hr; done))
    | (intro r hr; simp at hr; done)
    | (simp_all [belB, belR, AV.bel, AV.belL]; done)
    | fail) : p := h
/-- A call, maybe under a condition, of a function that reads variables of its caller. -/
theorem sCallGq (ib ir : List Nat) {P : Program} {ops : Array Oper} {rest : List Oper} {K : ASt → Prop} {nt nb : Nat} {sl : List (Nat × (Bool × AV))} {bx : List (List AV)} {rw : List ARow} {ys : (Nat × List (List AV)) × List (List AV) × Bool} {o : Oper} {d : Nat} {g : Bool} {f : FuncId} {args : List AV} {sub : List (List AV)} {rsub : List ARow} {r : AV}
    (hgd : guardA ops ⟨nt, nb, sl, bx, rw, ys⟩ o = some g) (F : g = true → FnG P f args sub rsub r sub rsub) (hd : o.dst = some d) (hn : Nat.blt d nt = true)
    (h : ∃ m, bx.length = m ∧ ∃ n, rw.length = n ∧ ∃ cs, callA ⟨nt, nb, sl, bx, rw, ys⟩ o.op = some (cs, f, AV.renL (idx ib m) (idx ir n) args) ∧ (g = true → ∀ c ∈ cs, c = true) ∧ ib.Nodup ∧ ir.Nodup ∧ handL bx (AV.renL (idx ib m) (idx ir n)) ib sub ∧ handL rw (ARow.ren (idx ib m) (idx ir n)) ir rsub ∧
      ((∀ cs ∈ sub, AV.subL ib.length ir.length cs) ∧ (∀ r ∈ rsub, ∀ q, q < r.n → AV.subL ib.length ir.length (r.el q)) ∧ AV.subL ib.length ir.length args ∧ ib.length ≤ sub.length ∧ ir.length ≤ rsub.length) ∧
      ∃ r1, r.ren (idx ib m) (idx ir n) = r1 ∧ setAll bx ib (sub.map (AV.renL (idx ib m) (idx ir n))) = bx ∧ setAll rw ir (rsub.map (ARow.ren (idx ib m) (idx ir n))) = rw ∧
      runS P ops rest K ⟨nt, nb, (d, (g, r1)) :: sl, bx, rw, ys⟩) : runS P ops (o :: rest) K ⟨nt, nb, sl, bx, rw, ys⟩ := by
  obtain ⟨m, rfl, n, rfl, cs, h1, h2, h3, h4, h5, h6, ⟨h7, h8, h9, h10, h11⟩, r1, rfl, h12, h13, h14⟩ := h
  intro C G a w Q hs hQ
  have hw := guardA_sound hgd (G := G) (w := w) (a := a) (fun t _ => hs.slot t)
  have hdl : d < nt := by simpa [Nat.blt_eq] using hn
  unfold wpListIn
  rw [hw]
  cases g with
  | false =>
    simp only [Bool.false_eq_true, if_false]
    rw [hd]
    exact ⟨fun _ _ => trivial, h14 C G _ w Q (hs.put hdl (fun h => by cases h) (fun _ => rfl)) hQ⟩
  | true =>
    simp only [if_true]
    have F' := (F rfl).frame ib ir (handOk_of h3 h4 h5 h6 h7 h8) h9 h10 h11
    rw [h12, h13] at F'
    obtain ⟨vs, g1, g2⟩ := callA_sound (P := P) (a := a) h1 (fun y hy => evOk_of fun t ht => hs.slot t) (h2 rfl) F'.ok
    refine wpIn_of_run (fun c hc => by rw [hc] at h1; simp [callA] at h1) ?_
    rw [g2, Oper.uponIn_enter]
    refine ⟨fun h => by simp [fen] at h, callsIn_fen ?_⟩
    refine (F'.calls G w vs hs.tabs hs.tabs_own hs.mem g1).mono ?_
    rintro e w' ⟨v, G', rfl, hout, hle, hfr, hB, hR', hm1, hv⟩
    rw [hd]
    exact h14 C G' _ w' Q ((hs.called hout hle hfr hB hR' hm1).put hdl (fun _ => hv) (fun h => by cases h)) hQ
attribute [go_sem] twoB argsB isCopy ASt.src
end Go.Proofs.YtihnjbnlbedpaaaDoor
