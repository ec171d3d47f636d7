/- The abstract logic: slices of own variables. -/
import Derived.Test.YtihnjbnlbedpaaaDoorAlFrz
namespace Go.Proofs.YtihnjbnlbedpaaaDoor
set_option linter.unusedVariables false
set_option linter.unusedSimpArgs false
set_option maxHeartbeats 4000000
set_option maxRecDepth 100000
open Go.RowKit
/-- Operations on slices of own variables. -/
def opB (T : TT) (st : ASt) (o : Op) : Option (List Bool × AV × Prop) :=
  match o with
  | .call c => match c.callee with
    | .builtin .len => match c.args.toList, c.argTypes.toList with
      | [x], [t] => match st.ev x, T t with
        | some (g, .bsl _ _ _ n _), some ⟨.slice _, _, _, _, _⟩ => some ([g], .raw (.int .i64 n), True)
        | _, _ => none
      | _, _ => none
    | .builtin .cap => match c.args.toList, c.argTypes.toList with
      | [x], [t] => match st.ev x, T t with
        | some (g, .bsl _ _ _ _ cap), some ⟨.slice _, _, _, _, _⟩ => some ([g], .raw (.int .i64 cap), True)
        | _, _ => none
      | _, _ => none
    | _ => none
  | .indexAddr t x ix => match T t with
    | some ⟨.slice e, _, _, _, _⟩ => match st.ev x, st.ev ix, T e with
      | some (g, .bsl sz b off n _), some (g', .raw (.int _ i)), some j => some ([g, g'], .box b (off + i.toNat * sz), 0 ≤ i ∧ i < n ∧ j.size = sz)
      | _, _, _ => none
    | _ => none
  | .slice t x lo hi none => match T t with
    | some ⟨.slice e, _, _, _, _⟩ => match st.ev x, T e, optI st lo, optI st hi with
      | some (g, .bsl sz b off n cap), some j, some (gl, l), some (gh, h) => some (g :: (gl ++ gh), .bsl sz b (off + (loI l).toNat * sz) (cutN n l h) (cap - (loI l).toNat), (0 ≤ loI l ∧ loI l ≤ hiI n h ∧ hiI n h ≤ cap) ∧ j.size = sz)
      | _, _, _, _ => none
    | some ⟨.array n e, _, _, _, _⟩ => match st.ev x, T e, optI st lo, optI st hi with
      | some (g, .box b off), some j, some (gl, l), some (gh, h) => some (g :: (gl ++ gh), .bsl j.size b (off + (loI l).toNat * j.size) (cutN n l h) (n - (loI l).toNat), (0 ≤ loI l ∧ loI l ≤ hiI n h ∧ hiI n h ≤ n) ∧ n ≤ maxLen)
      | _, _, _, _ => none
    | _ => none
  | _ => none
section
variable {P : Program} {T : TT} {G : Gh} {w : World} {a : Act} {st : ASt}
theorem add_lit (b o k : Nat) : (⟨b, o, none⟩ : Addr).add k = ⟨b, o + k, none⟩ := by
  unfold Addr.add; split
  · rename_i h0; rw [h0]; rfl
  · rfl
theorem slice_bsl {t sz b off n cap : Nat} {lo hi : Option Operand} {l h : Option Int} (u1 : P.underlying t = some (.slice (P.elem t))) (hs : (sizeOf (P.elem t)).run P w = .ok sz w)
    (o1 : (lo = none ∧ l = none) ∨ ∃ k i, l = some i ∧ lo.map a.eval = some (.int k i)) (o2 : (hi = none ∧ h = none) ∨ ∃ k i, h = some i ∧ hi.map a.eval = some (.int k i)) (hb : 0 ≤ loI l ∧ loI l ≤ hiI n h ∧ hiI n h ≤ cap) {x : Value} (hx : (AV.bsl sz b off n cap).rel G w x) :
    ∃ u, (Instr.slice t x (lo.map a.eval) (hi.map a.eval) none).run P w = .ok u w ∧ (AV.bsl sz b (off + (loI l).toNat * sz) (cutN n l h) (cap - (loI l).toNat)).rel G w u := by
  obtain ⟨blk, A, hA0, rfl, hnc, hcm, hA⟩ := hx
  obtain ⟨b1, b2, b3⟩ := hb
  have run : (Instr.slice t (.slice A n cap) (lo.map a.eval) (hi.map a.eval) none).run P w = .ok (sliced A (loI l).toNat (hiI n h).toNat cap sz) w := by
    rcases o1 with ⟨rfl, rfl⟩ | ⟨k, i, rfl, e1⟩ <;> rcases o2 with ⟨rfl, rfl⟩ | ⟨k', i', rfl, e2⟩
    · simp only [Option.map_none, run_slice_all w t A n cap u1, hs, loI, hiI, Int.toNat_natCast]; rfl
    · simp only [loI, hiI] at b1 b2 b3
      simp only [Option.map_none, e2, run_slice_h w t A n cap u1 k' i' (by omega) (by omega), hs, loI, hiI]; rfl
    · simp only [loI, hiI] at b1 b2 b3
      simp only [Option.map_none, e1, run_slice_l w t A n cap u1 k i (by omega) (by omega), hs, loI, hiI, Int.toNat_natCast]; rfl
    · simp only [loI, hiI] at b1 b2 b3
      simp only [e1, e2, run_slice_lh w t A n cap u1 k k' i i' (by omega) (by omega) (by omega), hs, loI, hiI]; rfl
  refine ⟨_, run, ?_⟩
  have hN : cutN n l h = (hiI n h).toNat - (loI l).toNat := by
    cases l <;> cases h <;> simp [cutN, loI, hiI]
  rw [hN]
  refine ⟨blk, _, hA0, rfl, by omega, by omega, fun hn => ?_⟩
  rw [if_neg (by omega), hA (by omega)]
  simp [add_lit]
theorem slice_arr {t sz b off n : Nat} {lo hi : Option Operand} {l h : Option Int} (u1 : P.underlying t = some (.array (P.arrayLen t) (P.elem t))) (hn : P.arrayLen t = n) (hs : (sizeOf (P.elem t)).run P w = .ok sz w)
    (o1 : (lo = none ∧ l = none) ∨ ∃ k i, l = some i ∧ lo.map a.eval = some (.int k i)) (o2 : (hi = none ∧ h = none) ∨ ∃ k i, h = some i ∧ hi.map a.eval = some (.int k i)) (hb : (0 ≤ loI l ∧ loI l ≤ hiI n h ∧ hiI n h ≤ n) ∧ n ≤ maxLen) {x : Value} (hx : (AV.box b off).rel G w x) :
    ∃ u, (Instr.sliceAt t x (lo.map a.eval) (hi.map a.eval) none).run P w = .ok u w ∧ (AV.bsl sz b (off + (loI l).toNat * sz) (cutN n l h) (n - (loI l).toNat)).rel G w u := by
  obtain ⟨blk, hA0, rfl⟩ := hx
  subst hn
  obtain ⟨⟨b1, b2, b3⟩, b4⟩ := hb
  have run : (Instr.sliceAt t (.pointer (some ⟨blk, off, none⟩)) (lo.map a.eval) (hi.map a.eval) none).run P w = .ok (slicedAt ⟨blk, off, none⟩ (loI l).toNat (hiI (P.arrayLen t) h).toNat (P.arrayLen t) sz) w := by
    rcases o1 with ⟨rfl, rfl⟩ | ⟨k, i, rfl, e1⟩ <;> rcases o2 with ⟨rfl, rfl⟩ | ⟨k', i', rfl, e2⟩
    · simp only [Option.map_none, run_sliceAt_array_all w t _ u1, hs, loI, hiI, Int.toNat_natCast]; rfl
    · simp only [loI, hiI] at b1 b2 b3
      simp only [Option.map_none, e2, run_sliceAt_array_h w t _ u1 k' i' (by omega) (by omega), hs, loI, hiI]; rfl
    · simp only [loI, hiI] at b1 b2 b3
      simp only [Option.map_none, e1, run_sliceAt_array_l w t _ u1 k i (by omega) (by omega), hs, loI, hiI, Int.toNat_natCast]; rfl
    · simp only [loI, hiI] at b1 b2 b3
      simp only [e1, e2, run_sliceAt_array_lh w t _ u1 k k' i i' (by omega) (by omega) (by omega), hs, loI, hiI]; rfl
  refine ⟨_, run, ?_⟩
  have hN : cutN (P.arrayLen t) l h = (hiI (P.arrayLen t) h).toNat - (loI l).toNat := by
    cases l <;> cases h <;> simp [cutN, loI, hiI]
  rw [hN]
  refine ⟨blk, _, hA0, rfl, by omega, by omega, fun hn => ?_⟩
  rw [if_neg (by omega), add_lit]
theorem opB_sound (hT : TOk P T) {o : Oper} (hev : ∀ x ∈ o.op.operands.toList, EvOk G w a st x) {cs : List Bool} {r : AV} {p : Prop}
    (h : opB T st o.op = some (cs, r, p)) (hc : ∀ c ∈ cs, c = true) (hp : p) : ∃ v, (execOp a.eval o).run P w = .ok (.value v) w ∧ r.rel G w v := by
  obtain ⟨dst, op, type, pos, after, guard⟩ := o
  simp only at h hev
  cases op with
  | call c =>
    obtain ⟨callee, args, argTypes⟩ := c
    obtain ⟨args⟩ := args
    obtain ⟨argTypes⟩ := argTypes
    simp only [opB] at h
    split at h
    · split at h
      · rename_i x t
        split at h
        · rename_i g sz b off n cap e _ _ _ _ h1 h2
          simp only [Option.some.injEq, Prod.mk.injEq] at h
          obtain ⟨rfl, rfl, rfl⟩ := h
          obtain ⟨blk, A, _, e1, _⟩ := hev x (by simp [Op.operands, Call.operands]) _ _ h1 (hc g (by simp))
          refine ⟨.int .i64 n, ?_, rfl⟩
          simp [execOp, resolve, invoke, builtin, e1, len_slice_run (hT _ _ h2) rfl]
        · cases h
      · cases h
    · split at h
      · rename_i x t
        split at h
        · rename_i g sz b off n cap e _ _ _ _ h1 h2
          simp only [Option.some.injEq, Prod.mk.injEq] at h
          obtain ⟨rfl, rfl, rfl⟩ := h
          obtain ⟨blk, A, _, e1, _⟩ := hev x (by simp [Op.operands, Call.operands]) _ _ h1 (hc g (by simp))
          refine ⟨.int .i64 cap, ?_, rfl⟩
          obtain ⟨d1, q1, q2⟩ := (hT _ _ h2).und_some
          have u1 : P.underlying t = some (.slice (P.elem t)) := by rw [q1, tkOf_slice q2]; simp [Program.elem, q1, tkOf_slice q2]
          simp [execOp, resolve, invoke, builtin, e1, run_cap_slice w t type A n cap u1, goInt]
        · cases h
      · cases h
    · cases h
  | indexAddr t x ix =>
    simp only [opB] at h
    split at h
    · rename_i e _ _ _ _ h4
      split at h
      · rename_i g sz b off n cap g' k i j h1 h2 h5
        simp only [Option.some.injEq, Prod.mk.injEq] at h
        obtain ⟨rfl, rfl, rfl⟩ := h
        obtain ⟨p1, p2, p3⟩ := hp
        obtain ⟨blk, A, hA0, e1, hnc, _, hA⟩ := hev x (by simp [Op.operands]) _ _ h1 (hc g (by simp))
        have e3 := rel_raw (hev ix (by simp [Op.operands]) _ _ h2 (hc g' (by simp)))
        have hA' := hA (by omega)
        subst hA'
        refine ⟨.pointer (some ⟨blk, off + i.toNat * sz, none⟩), ?_, blk, hA0, rfl⟩
        simp only [execOp, e1, e3, Sem.run_bind]
        rw [indexAt_run (hT _ _ h4) rfl (hT _ _ h5) p1 p2, p3]
        rfl
      · cases h
    · cases h
  | slice t x lo hi mx =>
    cases mx with
    | some _ => simp [opB] at h
    | none =>
    simp only [opB] at h
    split at h
    · rename_i e _ _ _ _ h1
      split at h
      · rename_i g sz b off n cap j gl l gh hh h2 h3 h4 h5
        simp only [Option.some.injEq, Prod.mk.injEq] at h
        obtain ⟨rfl, rfl, rfl⟩ := h
        obtain ⟨hb, hsz⟩ := hp
        have e1 := hev x (by simp [Op.operands]) _ _ h2 (hc g (by simp))
        obtain ⟨d1, q1, q2⟩ := (hT _ _ h1).und_some
        have u1 : P.underlying t = some (.slice (P.elem t)) := by rw [q1, tkOf_slice q2]; simp [Program.elem, q1, tkOf_slice q2]
        have u2 : P.elem t = e := by simp [Program.elem, q1, tkOf_slice q2]
        have o1 := optI_sound (fun y hy => hev y (by simp [Op.operands, hy])) h4 (fun c hcc => hc c (by simp [hcc]))
        have o2 := optI_sound (fun y hy => hev y (by simp [Op.operands, hy])) h5 (fun c hcc => hc c (by simp [hcc]))
        have s1 := (hT _ _ h3).size_run w
        rw [← u2] at s1
        obtain ⟨u, r1, r2⟩ := slice_bsl u1 (by rw [s1, hsz]) o1 o2 hb e1
        exact ⟨u, by simp only [execOp, Sem.run_bind, run_sliceAt_slice w t _ _ _ _ u1, Option.map_none, r1]; rfl, r2⟩
      · cases h
    · rename_i n e _ _ _ _ h1
      split at h
      · rename_i g b off j gl l gh hh h2 h3 h4 h5
        simp only [Option.some.injEq, Prod.mk.injEq] at h
        obtain ⟨rfl, rfl, rfl⟩ := h
        have e1 := hev x (by simp [Op.operands]) _ _ h2 (hc g (by simp))
        obtain ⟨d1, q1, q2⟩ := (hT _ _ h1).und_some
        have u0 := tkOf_array q2
        have u1 : P.underlying t = some (.array (P.arrayLen t) (P.elem t)) := by simp [Program.elem, Program.arrayLen, q1, u0]
        have u2 : P.elem t = e := by simp [Program.elem, q1, u0]
        have u3 : P.arrayLen t = n := by simp [Program.arrayLen, q1, u0]
        have o1 := optI_sound (fun y hy => hev y (by simp [Op.operands, hy])) h4 (fun c hcc => hc c (by simp [hcc]))
        have o2 := optI_sound (fun y hy => hev y (by simp [Op.operands, hy])) h5 (fun c hcc => hc c (by simp [hcc]))
        have s1 := (hT _ _ h3).size_run w
        rw [← u2] at s1
        obtain ⟨u, r1, r2⟩ := slice_arr u1 u3 s1 o1 o2 hp e1
        exact ⟨u, by simp only [execOp, Sem.run_bind, Option.map_none, r1]; rfl, r2⟩
      · cases h
    · cases h
  | _ => simp [opB] at h
theorem opSpec_B (hT : TOk P T) {ops : Array Oper} {o : Oper} {g : Bool} {cs : List Bool} {x : AV} {p : Prop} (hg : guardA ops st o = some g) (h : opB T st o.op = some (cs, x, p))
    (hp : g = true → (∀ c ∈ cs, c = true) ∧ p) : OpSpec P ops o st g x := by
  intro G a w htb hm hs
  refine ⟨guardA_sound hg hs, fun hgt ro K Q hK => ?_⟩
  obtain ⟨v, h1, h2⟩ := opB_sound (P := P) (a := a) hT (fun y hy => evOk_of fun t ht => hs t (looks_operand (by rw [← ht]; exact hy))) h (hp hgt).1 (hp hgt).2
  refine wpIn_of_run (fun c hc => by rw [hc] at h; simp [opB] at h) ?_
  rw [h1]
  exact hK v G w (Ext.refl hm) h2
end
section runs
variable {P : Program} {T : TT} {ops : Array Oper} {r : List Oper} {k : ASt → Prop} {nt nb : Nat} {sl : List (Nat × (Bool × AV))} {bx : List (List AV)} {rw : List ARow} {ys : (Nat × List (List AV)) × List (List AV) × Bool} {o : Oper} {d : Nat}
  {full : List Oper} {es : List (Nat × (Bool × AV))} {ks : List Kd} {sl0 : List (Nat × (Bool × AV))}
theorem runS_bsl (hT : TOk P T) (hd : o.dst = some d) (hn : Nat.blt d nt = true)
    (h : ∃ g, guardA ops ⟨nt, nb, sl, bx, rw, ys⟩ o = some g ∧ ∃ cs x p, opB T ⟨nt, nb, sl, bx, rw, ys⟩ o.op = some (cs, x, p) ∧ (g = true → (∀ c ∈ cs, c = true) ∧ p) ∧ runS P ops r k ⟨nt, nb, (d, (g, x)) :: sl, bx, rw, ys⟩) : runS P ops (o :: r) k ⟨nt, nb, sl, bx, rw, ys⟩ :=
  let ⟨_, hg, _, _, _, h, hp, hk⟩ := h
  runS_op hd (opSpec_B hT hg h hp) hn hk
theorem runF_bsl (hT : TOk P T) (hd : o.dst = some d)
    (h : ∃ g, guardA full.toArray ⟨nt, nb, sl, bx, rw, ys⟩ o = some g ∧ ∃ cs x p, opB T ⟨nt, nb, sl, bx, rw, ys⟩ o.op = some (cs, x, p) ∧ (g = true → (∀ c ∈ cs, c = true) ∧ p) ∧ runF P full (es ++ [(d, (g, x))]) (ks ++ [.pure]) r k sl0 ⟨nt, nb, (d, (g, x)) :: sl, bx, rw, ys⟩) : runF P full es ks (o :: r) k sl0 ⟨nt, nb, sl, bx, rw, ys⟩ := by
  obtain ⟨g, hg, cs, x, p, h1, h2, h3⟩ := h
  exact runF_step (g := g) (x := x) (kd := .pure) hd (fun _ _ => opSpec_B hT hg h1 h2) (fun cs h => by cases h) h3
end runs
attribute [go_sem] opB
end Go.Proofs.YtihnjbnlbedpaaaDoor
