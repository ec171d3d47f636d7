import Derived.Test.YtioaahmkebojiaaGreatDoorWC01
import Derived.Test.YtioaahmkebojiaaGreatDoorWC25
namespace Go.Proofs.YtioaahmkebojiaaGreatDoor
set_option linter.unusedVariables false
set_option linter.unusedSimpArgs false
set_option maxHeartbeats 4000000
set_option maxRecDepth 100000
set_option linter.unusedSectionVars false
open Go.RowKit
variable [SpT]
section
variable {P : Program} {T : TT} {φ : Phi} {w0 : FW} {w : World} {a : Act} {sl : CS} {h : CH} {nx : Nat}
theorem kK (hs : HS P w0 φ h nx w) {k : Nat} {cs : List CV} (hc : w8 h k = some cs) : ∃ (b : Nat) (vs tail : List Value) (E : TypeId), φ k = some b ∧ w.heap[b]? = some (.cells (vs ++ tail).toArray E (0, 0)) ∧ CV.relL φ w cs vs := by
 unfold w8 at hc
 split at hc
 ·rename_i full cs' hk
  cases hc
  obtain ⟨b, h1, _, vs, tail, E, h2, h3, _⟩ := hs.heap.here k _ hk
  exact ⟨b, vs, tail, E, h1, h2, h3⟩
 ·cases hc
theorem zBo {α : Type} {vs tail : List α} {off sz : Nat} (hl : off + sz ≤ vs.length) : ((vs ++ tail).drop off).take sz = (vs.drop off).take sz := by
 rw [List.drop_append_of_le_length oq, yP6 (by rw [yOu]; omega)]
theorem zSn {α : Type} {vs tail : List α} {off : Nat} (hl : off < vs.length) : (vs ++ tail)[off]? = vs[off]? := yNt hl
theorem zTh {t s k off n : Nat} {cap : Option Nat} {lo hi : Option Operand} {l hb : Option Int} (u1 : P.underlying t = some (.slice (P.elem t))) (hs : (sizeOf (P.elem t)).run P w = .ok s w)
  (o1 : (lo = none ∧ l = none) ∨ ∃ k i, l = some i ∧ lo.map a.eval = some (.int k i)) (o2 : (hi = none ∧ hb = none) ∨ ∃ k i, hb = some i ∧ hi.map a.eval = some (.int k i)) (hr : 0 ≤ loI l ∧ loI l ≤ hiI n hb) (hc : hiI n hb ≤ n ∨ ∃ c, cap = some c ∧ hiI n hb ≤ c) {x : Value} (hx : (CV.bsl s k off n cap).rel φ w x) :
  ∃ u, (Instr.slice t x (lo.map a.eval) (hi.map a.eval) none).run P w = .ok u w ∧ (CV.bsl s k (off + (loI l).toNat * s) (zFj n l hb) (cap.map (· - (loI l).toNat))).rel φ w u := by
 obtain ⟨b, c, p, h1, rfl, hnc, hcm, hA, hsz, hcap⟩ := hx
 obtain ⟨b1, b2⟩ := hr
 have b3 : hiI n hb ≤ c := by
  rcases hc with hc | ⟨c', hc1, hc2⟩
  ·omega
  ·rw [hcap c' hc1]; exact hc2
 have run : (Instr.slice t (.slice (some p) n c) (lo.map a.eval) (hi.map a.eval) none).run P w = .ok (sliced (some p) (loI l).toNat (hiI n hb).toNat c s) w := by
  rcases o1 with ⟨rfl, rfl⟩ | ⟨k, i, rfl, e1⟩ <;> rcases o2 with ⟨rfl, rfl⟩ | ⟨k', i', rfl, e2⟩
  ·simp only [yNp, run_slice_all w t (some p) n c u1, hs, loI, hiI, yNq]; rfl
  ·simp only [loI, hiI] at b1 b2 b3
   simp only [yNp, e2, run_slice_h w t (some p) n c u1 k' i' oq oq, hs, loI, hiI]; rfl
  ·simp only [loI, hiI] at b1 b2 b3
   simp only [yNp, e1, run_slice_l w t (some p) n c u1 k i oq oq, hs, loI, hiI, yNq]; rfl
  ·simp only [loI, hiI] at b1 b2 b3
   simp only [e1, e2, run_slice_lh w t (some p) n c u1 k k' i i' oq oq oq, hs, loI, hiI]; rfl
 refine ⟨_, run, ?_⟩
 have hN : zFj n l hb = (hiI n hb).toNat - (loI l).toNat := by
  cases l <;> cases hb <;> simp [zFj, loI, hiI]
 rw [hN]
 have hle : (loI l).toNat ≤ c := by omega
 have hms : (loI l).toNat * s + (c - (loI l).toNat) * s = c * s := by rw [← yN4]; congr 1; omega
 refine ⟨b, c - (loI l).toNat, if c = (loI l).toNat then p else p.add ((loI l).toNat * s), h1, ?_, by omega, by omega, fun hn => ?_, by omega, fun m hm => ?_⟩
 ·unfold sliced
  by_cases hz : c = (loI l).toNat
  ·rw [if_pos hz, if_pos hz]
  ·rw [if_neg hz, if_neg hz]; rfl
 ·rw [if_neg oq, hA oq, add_lit]
 ·obtain ⟨c', hc1, rfl⟩ := yMx.1 hm
  rw [hcap c' hc1]
theorem zNz {d k0 : IntKind} {a : Int} : ∀ {l : List (Value × Value)} {es : List MapEntry} {i : Nat} {r : Option (Nat × Value)}, zPr d a l i = some r → (es.map fun e => (e.key, e.val)) = l → Instr.findNow (.int k0) (.int d a) es i = some r
 | [], es, i, r, h, he => by
  cases es with
  | nil => cases h; rfl
  | cons e es => cases he
 | x :: l, es, i, r, h, he => by
  cases es with
  | nil => cases he
  | cons e es =>
   simp only [yNm, yOy] at he
   obtain ⟨rfl, he⟩ := he
   unfold zPr at h
   split at h
   ·cases ‹_ :: _ = []›
   ·rename_i i' k b v r' hx
    simp only [yOy, yMu] at hx
    obtain ⟨⟨hx1, hx2⟩, rfl⟩ := hx
    cases hk : kEq d k with
    | false => rw [hk] at h; cases h
    | true =>
     rw [hk] at h
     have hdk : d = k := yPn hk
     simp only [yMq, wA] at h
     unfold Instr.findNow
     rw [hx1]
     simp only [Instr.sameNow, hdk, if_true]
     by_cases hab : a = b
     ·subst hab
      simp only [decide_true, yMq] at h
      cases h
      simp [hx2]
     ·simp only [hab, decide_false, yN5] at h
      have : (a == b) = false := by simp [hab]
      rw [this]
      have ih := zNz (k0 := k0) h he
      rw [hdk] at ih
      exact ih
   ·cases h
theorem zNw {P : Program} {kt : TypeId} (hk : zKj P 30 kt = some [.int, .int]) (ha : zDa P kt = true) {a b : Int} {w : World} : ∀ {l : List (Value × Value)} {es : List MapEntry} {i : Nat} {r : Option (Nat × Value)}, zPq a b l i = some r → (es.map fun e => (e.key, e.val)) = l → (Instr.findAsking kt (jJ (a, b)) es i).run P w = .ok r w
 | [], es, i, r, h, he => by
  cases es with
  | nil => cases h; rfl
  | cons e es => cases he
 | x :: l, es, i, r, h, he => by
  cases es with
  | nil => cases he
  | cons e es =>
   simp only [yNm, yOy] at he
   obtain ⟨rfl, he⟩ := he
   unfold zPq at h
   split at h
   ·cases ‹_ :: _ = []›
   ·rename_i i' x y v r' hx
    simp only [yOy, yMu] at hx
    obtain ⟨⟨hx1, hx2⟩, rfl⟩ := hx
    have hq := zGs hk ha (a, b) (x, y) w
    have hx1 : e.key = jJ (x, y) := hx1
    rw [Instr.findAsking, hx1]
    simp only [Sem.run_bind, hq, Result.andThen_ok]
    rw [wA, wA] at h
    by_cases hab : a = x ∧ b = y
    ·obtain ⟨rfl, rfl⟩ := hab
     simp only [decide_true, Bool.and_self, yMq] at h
     cases h
     simp [hx2]
    ·have h2 : (decide (a = x) && decide (b = y)) = false := by
      rw [Bool.eq_false_iff]
      simpa using hab
     rw [h2] at h
     simp only [yN5] at h
     have h3 : decide ((a, b) = (x, y)) = false := by simpa using hab
     rw [h3]
     simp only [yO0, if_false]
     exact zNw hk ha h he
   ·cases h
theorem zXd {t : Nat} {i : TI} (h : q9 P t i) : P.cellsOf t = i.size := by
 have h1 := h.info
 cases hi : P.info? t with
 | none => rw [hi] at h1; cases h1
 | some x =>
  rw [hi] at h1
  simp only [yMw, yMc, yMu] at h1
  simp [Program.cellsOf, hi, h1.2.1]
theorem zSe (hT : TOk P T) {kt : Nat} (h : zEq T kt = true) : ∃ e, P.underlying kt = some (.array 2 e) ∧ P.underlying e = some (.int .i64) ∧ P.cellsOf e = 1 ∧ zKj P 30 kt = some [.int, .int] ∧ zDa P kt = true := by
 unfold zEq at h
 split at h
 ·rename_i e sz by_ z h1
  split at h
  ·rename_i by2 z2 q2 h2
   obtain ⟨d1, u1, u2⟩ := (hT _ _ h1).und_some
   obtain ⟨d2, u3, u4⟩ := (hT _ _ h2).und_some
   have hd1 := vE u2
   have hd2 := vO u4
   subst hd1; subst hd2
   have e4 := (hT _ _ h1).eq
   simp only [List.isEmpty_cons, yNi, yNj, yNk] at e4
   exact ⟨e, u1, u3, zXd (hT _ _ h2), e4.1, by rw [zDa, u1]; rfl⟩
  ·cases h
 ·cases h
theorem zNy (hT : TOk P T) {kt : Nat} {key : Value} {l : List (Value × Value)} {r : Option (Nat × Value)} (h : zFy T kt key l = some r) : zKh P kt key l r ∧ zU0 P kt key ∧ Instr.sameBits 10000 key key = true := by
 unfold zFy at h
 split at h
 ·rename_i d a
  split at h
  ·rename_i k0 _ _ _ _ h1
   obtain ⟨d1, u1, u2⟩ := (hT _ _ h1).und_some
   have hd := vO u2
   subst hd
   refine ⟨fun w es he => ?_, fun b w => ?_, yI _ _ _⟩
   ·unfold Instr.findKey
    simp only [Sem.run_bind, run_underlying u1, Result.andThen_ok, zNz (k0 := k0) h he, Sem.run_pure]
   ·show (Instr.checkKey b (9999 + 1) kt (.int d a)).run P w = _
    unfold Instr.checkKey
    simp only [Sem.run_bind, run_underlying u1, Result.andThen]
    rfl
  ·cases h
 ·rename_i a b
  cases hp : zEq T kt with
  | false => rw [hp] at h; cases h
  | true =>
   rw [hp] at h
   simp only [yMq] at h
   obtain ⟨e, u1, u2, u3, u4, u5⟩ := zSe hT hp
   refine ⟨fun w es he => ?_, zCo u1 u2 u3 (a, b), zGk (a, b)⟩
   rw [run_findKey_eq (P := P) w (by rw [u1])]
   exact zNw u4 u5 h he
 ·cases h
theorem zKq {x : CV} {v u : Value} (h : zZj x = some v) (hr : x.rel φ w u) : u = v := by
 cases x with
 | raw y => cases h; exact hr
 | agg xs =>
  simp only [zZj] at h
  split at h
  ·rename_i vs h1
   cases h
   obtain ⟨us, rfl, h2⟩ := hr
   rw [zDk h1 h2]
  ·cases h
 | _ => cases h
theorem zNm (hs : HS P w0 φ h nx w) {k : Nat} {es : List (Value × Value)} (hc : zSa h k = some es) : ∃ (b : Nat) (es' : Array MapEntry) (ck : Nat), h.get k = some (.map es) ∧ φ k = some b ∧ w.heap[b]? = some (.map es' ck) ∧ (es'.toList.map fun e => (e.key, e.val)) = es := by
 unfold zSa at hc
 split at hc
 ·rename_i es1 hk
  cases hc
  obtain ⟨b, h1, _, es', ck, h2, h3⟩ := hs.heap.here k _ hk
  exact ⟨b, es', ck, hk, h1, h2, h3⟩
 ·cases hc
theorem zPg (hT : TOk P T) {t kt et b ck : Nat} {es' : Array MapEntry} {l : List (Value × Value)} {kv z : Value} {res : Option (Nat × Value)} {ok : Bool} (ht : P.underlying t = some (.map kt et)) (h1 : w.heap[b]? = some (.map es' ck)) (h2 : (es'.toList.map fun e => (e.key, e.val)) = l) (hf : zFy T kt kv l = some res) (hz : res = none → (P.info? et).bind (·.zero) = some z) :
  (Instr.lookup t (.map (some b)) kv ok).run P w = .ok (bif ok then .tuple #[(res.map (·.2)).getD z, .bool res.isSome] else (res.map (·.2)).getD z) w := by
 obtain ⟨hF, hK, _⟩ := zNy hT hf
 have hf := hF w es'.toList h2
 unfold Instr.lookup
 simp only [Sem.run_bind, run_underlying ht, Result.andThen_ok, zHt h1, hK _ w, hf, Sem.run_pure]
 cases res with
 | none =>
  have hz := hz rfl
  have hzr : (zeroValue et).run P w = .ok z w := by
   cases hi : P.info? et with
   | none => rw [hi] at hz; cases hz
   | some i =>
    rw [hi] at hz
    simp only [yMm] at hz
    simp [zeroValue, typeInfo, hi, hz]
  simp only [Sem.run_bind, hzr, Result.andThen_ok, Sem.run_pure]; cases ok <;> rfl
 | some q => simp only [Sem.run_pure, Result.andThen_ok]; cases ok <;> rfl
theorem zKr : ∀ {cs : List CV} {vs : List Value}, u8L cs = true → CV.relL φ w cs vs → ∀ (i : Nat) (v : Value), vs[i]? = some v → ∃ n, v = .int .u8 n
 | [], _, _, h, i, v, hv => by rw [show _ = [] from h] at hv; simp at hv
 | c :: cs, _, hu, h, i, v, hv => by
  obtain ⟨u, r, rfl, h1, h2⟩ := h
  unfold u8L at hu
  split at hu
  ·rename_i e; cases e
  ·rename_i n r' e
   cases e
   cases i with
   | zero => simp at hv; subst hv; exact ⟨n, h1⟩
   | succ i => exact zKr hu h2 i v (by simpa using hv)
  ·cases hu
theorem zEh (hT : TOk P T) (hs : HS P w0 φ h nx w) {o : Oper} (hev : ∀ x ∈ o.op.operands.toList, zCz φ w a sl x) {r : CV} (he : opE T h sl o.op = some r) : ∃ v, (execOp a.eval o).run P w = .ok (.value v) w ∧ r.rel φ w v := by
 obtain ⟨dst, op, type, pos, after, guard⟩ := o
 simp only at he hev
 cases op with
 | move x => exact ⟨a.eval x, by simp [execOp], hev x (by simp [Op.operands]) _ he⟩
 | assign x => exact ⟨a.eval x, by simp [execOp], hev x (by simp [Op.operands]) _ he⟩
 | nilCheck x =>
  simp only [opE] at he
  split at he
  ·rename_i k off h1
   cases he
   have hx := hev x (by simp [Op.operands]) _ h1
   obtain ⟨b, _, h2⟩ := id hx
   exact ⟨a.eval x, by simp [execOp, h2], hx⟩
  ·cases he
 | pick c x y =>
  simp only [opE] at he
  split at he
  ·rename_i h1
   split at he
   ·rename_i b h2
    cases he
    have e1 : a.eval c = _ := hev c (by simp [Op.operands]) _ h1
    have e2 : a.eval x = _ := hev x (by simp [Op.operands]) _ h2
    exact ⟨_, by simp [execOp, e1, asBool], e2⟩
   ·cases he
  ·rename_i h1
   split at he
   ·rename_i b h2
    cases he
    have e1 : a.eval c = _ := hev c (by simp [Op.operands]) _ h1
    have e2 : a.eval y = _ := hev y (by simp [Op.operands]) _ h2
    exact ⟨_, by simp [execOp, e1, asBool], e2⟩
   ·cases he
  ·cases he
 | load t x =>
  simp only [opE] at he
  split at he
  ·rename_i k off i h1 h2
   split at he
   ·rename_i cs h3
    cases hb : (Nat.blt 0 i.size && Nat.ble (off + i.size) cs.length) with
    | false => rw [hb] at he; cases he
    | true =>
     rw [hb] at he
     cases he
     rw [yNj] at hb
     have p1 : 0 < i.size := yY hb.1
     have p2 : off + i.size ≤ cs.length := yP8 hb.2
     obtain ⟨b, e1, e2⟩ := hev x (by simp [Op.operands]) _ h1
     obtain ⟨b', vs, tail, E, g1, g2, g3⟩ := kK hs h3
     rw [e1] at g1
     cases g1
     have hl := CV.relL_length g3
     refine ⟨_, ?_, zDr g3 p1 p2⟩
     simp only [execOp, e2, Sem.run_bind]
     have := kY (P := P) (w := w) (hT _ _ h2) (b := b) (o := 0) (off := off) (vs := vs ++ tail) p1 (by rw [yN1]; omega) (fun j u hj => by simpa [World.cell?, g2] using hj)
     rw [yN9, zBo oq, zSn oq] at this
     rw [this]
     rfl
   ·cases he
  ·rename_i g off i h1 h2
   cases hb : ((Nat.beq g zKz && Nat.blt off 20) && (Nat.beq i.size 1 && !i.k.agg)) with
   | false =>
    rw [hb] at he
    simp only [yN5] at he
    cases hb2 : (Nat.beq g spN && (Nat.beq i.size 1 && !i.k.agg)) with
    | false => rw [hb2] at he; cases he
    | true =>
     rw [hb2] at he
     simp only [yMq] at he
     obtain ⟨b, hsb, rfl⟩ := yMx.1 he
     rw [yNj, yNj, yNl] at hb2
     obtain ⟨c1, c3, c4⟩ := hb2
     obtain rfl := yMs c1
     have c3 := yMs c3
     have e1 : a.eval x = _ := hev x (by simp [Op.operands]) _ h1
     obtain ⟨n, q1, q2⟩ := hs.tabs'.sp off b hsb
     have := kY (P := P) (w := w) (hT _ _ h2) (b := spN) (o := off) (off := 0) (vs := [.int .u8 n]) oq (by simp [c3]) (fun j u hj => by
      match j, hj with
      | 0, hj => simp at hj; subst hj; simpa using q1)
     rw [c4] at this
     refine ⟨.int .u8 n, ?_, n, rfl, q2⟩
     simp only [execOp, e1, Sem.run_bind]
     simp only [Nat.add_zero] at this
     rw [this]
     rfl
   | true =>
    rw [hb] at he
    cases he
    rw [yNj, yNj, yNj, yNl] at hb
    obtain ⟨⟨c1, c2⟩, c3, c4⟩ := hb
    obtain rfl := yMs c1
    have c2 := yY c2
    have c3 := yMs c3
    have e1 : a.eval x = _ := hev x (by simp [Op.operands]) _ h1
    have e2 := hs.tabs'.tabs.1 zKz hs.tab.1
    unfold Lib.TabIs World.var? at e2
    rw [hs.tab.1] at e2
    simp only [yMm] at e2
    have e3 : ∃ E fz, w.heap[zKz]? = some (.cells (Lib.pow10Tab.map fun z => Value.int .u64 z).toArray E fz) := by
     cases hh : w.heap[zKz]? with
     | none => rw [hh] at e2; simp at e2
     | some o =>
      rw [hh] at e2
      cases o <;> simp at e2
      subst e2
      exact ⟨_, _, rfl⟩
    obtain ⟨E, fz, e3⟩ := e3
    have hlen : (Lib.pow10Tab.map fun z => Value.int IntKind.u64 z).length = 20 := rfl
    have := kY (P := P) (w := w) (hT _ _ h2) (b := zKz) (o := 0) (off := off) (vs := Lib.pow10Tab.map fun z => Value.int IntKind.u64 z) oq oq (fun j u hj => by simpa [World.cell?, e3] using hj)
    rw [yN9, c4] at this
    refine ⟨.int .u64 (10 ^ off : Nat), ?_, rfl⟩
    simp only [execOp, e1, Sem.run_bind]
    rw [this]
    have hget : (Lib.pow10Tab.map fun z => Value.int IntKind.u64 z)[off]? = some (.int .u64 (10 ^ off : Nat)) := by
     simp [Lib.pow10Tab, c2]
    simp only [yN5, hget]
    rfl
  ·cases he
 | fieldAddr s x f =>
  simp only [opE] at he
  split at he
  ·rename_i k off fs _ _ _ _ h1 h2
   split at he
   ·rename_i fo ft h3
    split at he
    ·rename_i j h4
     cases hb : Nat.blt 0 j.size with
     | false => rw [hb] at he; cases he
     | true =>
      rw [hb] at he
      cases he
      obtain ⟨b, e1, e2⟩ := hev x (by simp [Op.operands]) _ h1
      refine ⟨.pointer (some ⟨b, off + fo, none⟩), ?_, b, e1, rfl⟩
      simp only [execOp, e2, Sem.run_bind]
      rw [zB0 (hT _ _ h2) rfl h3 (hT _ _ h4) (yY hb)]
      rfl
    ·cases he
   ·cases he
  ·cases he
 | field s x f =>
  simp only [opE] at he
  split at he
  ·rename_i cs fs _ _ _ _ h1 h2
   split at he
   ·rename_i fo ft h3
    split at he
    ·rename_i j h4
     cases hb : (Nat.blt 0 j.size && Nat.ble (fo + j.size) cs.length) with
     | false => rw [hb] at he; cases he
     | true =>
      rw [hb] at he
      cases he
      rw [yNj] at hb
      have p1 : 0 < j.size := yY hb.1
      have p2 : fo + j.size ≤ cs.length := yP8 hb.2
      obtain ⟨vs, e1, e2⟩ := hev x (by simp [Op.operands]) _ h1
      have hl := CV.relL_length e2
      refine ⟨_, ?_, zDr e2 p1 p2⟩
      simp only [execOp, e1, Sem.run_bind]
      rw [zJw (hT _ _ h2) rfl h3 (hT _ _ h4) p1 oq]
      rfl
    ·cases he
   ·cases he
  ·cases he
 | indexAddr t x ix =>
  simp only [opE] at he
  split at he
  ·rename_i e _ _ _ _ h4
   split at he
   ·rename_i s k off n cap kk i j h1 h2 h5
    cases hb : (leI 0 i && ltI i n && Nat.beq j.size s) with
    | false => rw [hb] at he; cases he
    | true =>
     rw [hb] at he
     cases he
     rw [yNj, yNj, yK, zAf, yNk, yNk] at hb
     obtain ⟨⟨p1, p2⟩, p3⟩ := hb
     have p3 := yMs p3
     obtain ⟨b, c, p, g1, g2, g3, g4, g5, g6, g7⟩ := hev x (by simp [Op.operands]) _ h1
     have e3 : a.eval ix = _ := hev ix (by simp [Op.operands]) _ h2
     refine ⟨.pointer (some ⟨b, off + i.toNat * s, none⟩), ?_, b, g1, rfl⟩
     simp only [execOp, g2, e3, Sem.run_bind]
     rw [g5 oq, zAy (hT _ _ h4) rfl (hT _ _ h5) p1 p2, p3]
     rfl
   ·cases he
  ·rename_i m e _ _ _ _ h4
   split at he
   ·rename_i k off kk i j h1 h2 h3
    cases hb : (leI 0 i && ltI i m) with
    | false => rw [hb] at he; cases he
    | true =>
     rw [hb] at he
     cases he
     rw [yNj, yK, zAf, yNk, yNk] at hb
     obtain ⟨b, e1, e2⟩ := hev x (by simp [Op.operands]) _ h1
     have e4 : a.eval ix = _ := hev ix (by simp [Op.operands]) _ h2
     refine ⟨.pointer (some ⟨b, off + i.toNat * j.size, none⟩), ?_, b, e1, rfl⟩
     simp only [execOp, e2, e4, Sem.run_bind]
     rw [qW (hT _ _ h4) rfl (hT _ _ h3) hb.1 hb.2]
     rfl
   ·rename_i g off kk i j h1 h2 h3
    cases hb : (leI 0 i && ltI i m) with
    | false => rw [hb] at he; cases he
    | true =>
     rw [hb] at he
     cases he
     rw [yNj, yK, zAf, yNk, yNk] at hb
     have e2 : a.eval x = _ := hev x (by simp [Op.operands]) _ h1
     have e4 : a.eval ix = _ := hev ix (by simp [Op.operands]) _ h2
     refine ⟨.pointer (some ⟨g, off + i.toNat * j.size, none⟩), ?_, rfl⟩
     simp only [execOp, e2, e4, Sem.run_bind]
     rw [qW (hT _ _ h4) rfl (hT _ _ h3) hb.1 hb.2]
     rfl
   ·cases he
  ·cases he
 | index t x ix =>
  simp only [opE] at he
  split at he
  ·rename_i m e _ _ _ _ h4
   split at he
   ·rename_i cs kk i j h1 h2 h3
    cases hb : ((leI 0 i && ltI i m) && (Nat.blt 0 j.size && Nat.ble (i.toNat * j.size + j.size) cs.length)) with
    | false => rw [hb] at he; cases he
    | true =>
     rw [hb] at he
     cases he
     rw [yNj, yNj, yNj, yK, zAf, yNk, yNk] at hb
     obtain ⟨⟨p1, p2⟩, p3, p4⟩ := hb
     have p3 : 0 < j.size := yY p3
     have p4 := yP8 p4
     obtain ⟨vs, e1, e2⟩ := hev x (by simp [Op.operands]) _ h1
     have e4 : a.eval ix = _ := hev ix (by simp [Op.operands]) _ h2
     have hl := CV.relL_length e2
     refine ⟨_, ?_, zDr e2 p3 p4⟩
     simp only [execOp, e1, e4, Sem.run_bind]
     rw [zJp (hT _ _ h4) rfl (hT _ _ h3) p1 p2 p3 (by rw [hl]; exact p4)]
     rfl
   ·cases he
  ·rename_i h4
   split at he
   ·rename_i s kk i h1 h2
    cases hb : (leI 0 i && ltI i s.size) with
    | false => rw [hb] at he; cases he
    | true =>
     rw [hb] at he
     cases he
     rw [yNj, yK, zAf, yNk, yNk] at hb
     have e1 : a.eval x = _ := hev x (by simp [Op.operands]) _ h1
     have e4 : a.eval ix = _ := hev ix (by simp [Op.operands]) _ h2
     refine ⟨_, ?_, rfl⟩
     simp only [execOp, e1, e4, Sem.run_bind]
     rw [zD5 (hT _ _ h4) rfl hb.1 hb.2]
     rfl
   ·cases he
  ·cases he
 | convert s t x =>
  simp only [opE] at he
  split at he
  ·rename_i i k _ _ _ _ h1 h2
   split at he
   ·rename_i k' n h3
    cases he
    have e1 : a.eval x = _ := hev x (by simp [Op.operands]) _ h3
    obtain ⟨d, e2, e3⟩ := (hT _ _ h2).und_some
    have e4 : P.intKind t = k := by simp [Program.intKind, e2, vO e3]
    obtain ⟨d', e5, _⟩ := (hT _ _ h1).und_some
    have e6 := run_convert_int (P := P) w s t k' n (by rw [e5]; rfl) (by rw [e2, vO e3, e4])
    refine ⟨.int k (k.wrap n), ?_, rfl⟩
    simp only [execOp, e1, Sem.run_bind, e6, e4]
    rfl
   ·cases he
  ·rename_i e _ _ _ _ _ _ _ _ h1 h2
   cases hb : Nat.beq t yKs with
   | false => rw [hb] at he; cases he
   | true =>
    rw [hb] at he
    simp only [yMq] at he
    split at he
    ·rename_i k off n cap h3 h4
     split at he
     ·rename_i cs h5
      cases hc : (Nat.ble (off + n) cs.length && u8L ((cs.drop off).take n)) with
      | false => rw [hc] at he; cases he
      | true =>
       rw [hc] at he
       cases he
       rw [yNj] at hc
       obtain ⟨hc1, hc2⟩ := hc
       have hc1 := yP8 hc1
       obtain ⟨b, c, p, k1, e1, k3, k4, k5, k6, k7⟩ := hev x (by simp [Op.operands]) _ h4
       obtain ⟨b', vs, tail, E, g1, g2, g3⟩ := kK hs h5
       rw [k1] at g1
       cases g1
       have hl := CV.relL_length g3
       obtain ⟨d1, u1, u2⟩ := (hT _ _ h1).und_some
       obtain ⟨d2, u3, u4⟩ := (hT _ _ h2).und_some
       obtain ⟨d3, u5, u6⟩ := (hT _ _ h3).und_some
       have hel : ∀ i, i < n → ∃ m, vs[off + i]? = some (.int .u8 m) := fun i hi => by
        have h6 : ((vs.drop off).take n)[i]? = vs[off + i]? := by
         rw [List.getElem?_take_of_lt hi, yMf]
        have h7 : off + i < vs.length := by omega
        obtain ⟨m, h8⟩ := zKr hc2 (CV.relL_take n (CV.relL_drop off g3)) i (vs[off + i]'h7) (by rw [h6]; exact yNf h7)
        exact ⟨m, by rw [yNf h7, h8]⟩
       have hrel : (AV.lst 1 n fun i => [AV.raw ((vs[off + i]?).getD undef)]).rel ⟨fun _ _ => True, [], []⟩ w (a.eval x) := by
        refine ⟨_, c, e1, k3, k4, fun hn => ⟨b, off, by rw [k5 oq], fun i hi => ⟨[(vs[off + i]?).getD undef], ⟨_, _, rfl, rfl, rfl⟩, rfl, fun j u hj => ?_⟩⟩⟩
        match j, hj with
        | 0, hj =>
         simp at hj
         subst hj
         refine ⟨trivial, ?_⟩
         obtain ⟨m, hm⟩ := hel i hi
         rw [hm]
         have : (vs ++ tail)[off + i]? = some (.int .u8 m) := by rw [yNt oq]; exact hm
         simp only [World.cell?, g2]
         simpa [yNo] using this
       have := zI4 (P := P) (G := ⟨fun _ _ => True, [], []⟩) (w := w) (s := s) (t := t) (e := e) rfl (fun i hi => by
        obtain ⟨m, hm⟩ := hel i hi
        simp only [hm, yN6]
        exact trivial) (by rw [u1, zF u2]) (by rw [u5, vO u6]) (by rw [u3, wV u4]) hrel
       refine ⟨.string (zOu n fun i => [AV.raw ((vs[off + i]?).getD undef)]), ?_, trivial⟩
       simp only [execOp, Sem.run_bind, this]
       rfl
     ·cases he
    ·rename_i k bnd h3 h4
     split at he
     ·rename_i h5
      cases he
      obtain ⟨b, n, c, k1, e1, k3, k4, ⟨k5, k6⟩, k7⟩ := hev x (by simp [Op.operands]) _ h4
      obtain ⟨b', g1, _, cur, g2, g3⟩ := hs.heap.here k _ h5
      rw [k1] at g1
      cases g1
      have hsz : cur.size = c := by rw [k5, xA g2]
      obtain ⟨d1, u1, u2⟩ := (hT _ _ h1).und_some
      obtain ⟨d2, u3, u4⟩ := (hT _ _ h2).und_some
      obtain ⟨d3, u5, u6⟩ := (hT _ _ h3).und_some
      have hel : ∀ i, i < n → ∃ m, cur[i]? = some (.int .u8 m) := fun i hi => by
       have h7 : i < cur.size := by omega
       obtain ⟨m, hm⟩ := g3 cur[i] sq
       exact ⟨m, by rw [yMp h7, hm]⟩
      have hrel : (AV.lst 1 n fun i => [AV.raw ((cur[i]?).getD undef)]).rel ⟨fun _ _ => True, [], []⟩ w (a.eval x) := by
       refine ⟨_, c, e1, k3, k4, fun hn => ⟨b, 0, rfl, fun i hi => ⟨[(cur[i]?).getD undef], ⟨_, _, rfl, rfl, rfl⟩, rfl, fun j u hj => ?_⟩⟩⟩
       match j, hj with
       | 0, hj =>
        simp at hj
        subst hj
        refine ⟨trivial, ?_⟩
        obtain ⟨m, hm⟩ := hel i hi
        rw [hm]
        simp only [World.cell?, g2]
        simpa [yNo] using hm
      have := zI4 (P := P) (G := ⟨fun _ _ => True, [], []⟩) (w := w) (s := s) (t := t) (e := e) rfl (fun i hi => by
       obtain ⟨m, hm⟩ := hel i hi
       simp only [hm, yN6]
       exact trivial) (by rw [u1, zF u2]) (by rw [u5, vO u6]) (by rw [u3, wV u4]) hrel
      refine ⟨.string (zOu n fun i => [AV.raw ((cur[i]?).getD undef)]), ?_, trivial⟩
      simp only [execOp, Sem.run_bind, this]
      rfl
     ·cases he
    ·cases he
  ·cases he
 | slice t x lo hi mx =>
  cases mx with
  | none =>
   simp only [opE] at he
   split at he
   ·rename_i e _ _ _ _ h1
    obtain ⟨d1, q1, q2⟩ := (hT _ _ h1).und_some
    have u1 : P.underlying t = some (.slice (P.elem t)) := by rw [q1, zF q2]; simp [Program.elem, q1, zF q2]
    have u2 : P.elem t = e := by simp [Program.elem, q1, zF q2]
    split at he
    ·rename_i s k off n cap j l hb h2 h3 h4 h5
     cases hbb : ((leI 0 (loI l) && leI (loI l) (hiI n hb)) && (leI (hiI n hb) n || zZ7 (hiI n hb) cap) && Nat.beq j.size s) with
     | false => rw [hbb] at he; cases he
     | true =>
      rw [hbb] at he
      cases he
      rw [yNj, yNj, yNj, yOn, yK, yK, yK, yNk, yNk, yNk] at hbb
      obtain ⟨⟨p1, p2⟩, p3⟩ := hbb
      have p3 := yMs p3
      have o1 := wO (fun y hy => hev y (by simp [Op.operands, hy])) h4
      have o2 := wO (fun y hy => hev y (by simp [Op.operands, hy])) h5
      have s1 := (hT _ _ h3).size_run w
      rw [← u2] at s1
      have p2' : hiI n hb ≤ n ∨ ∃ c, cap = some c ∧ hiI n hb ≤ c := by
       rcases p2 with p2 | p2
       ·exact .inl p2
       ·cases cap with
        | some c =>
         simp only [zZ7, yK, yNk] at p2
         exact .inr ⟨_, rfl, p2⟩
        | none => cases p2
      obtain ⟨u, r1, r2⟩ := zTh (φ := φ) u1 (by rw [s1, p3]) o1 o2 p1 p2' (hev x (by simp [Op.operands]) _ h2)
      exact ⟨u, by simp only [execOp, Sem.run_bind, run_sliceAt_slice w t _ _ _ _ u1, yNp, r1]; rfl, r2⟩
    ·rename_i j l hb h2 h3 h4 h5
     cases hbb : (eqI (loI l) 0 && eqI (hiI 0 hb) 0) with
     | false => rw [hbb] at he; cases he
     | true =>
      rw [hbb] at he
      cases he
      rw [yNj, wA, wA, yNk, yNk] at hbb
      obtain ⟨p1, p2⟩ := hbb
      have o1 := wO (fun y hy => hev y (by simp [Op.operands, hy])) h4
      have o2 := wO (fun y hy => hev y (by simp [Op.operands, hy])) h5
      have s1 := (hT _ _ h3).size_run w
      rw [← u2] at s1
      have e1 : a.eval x = _ := hev x (by simp [Op.operands]) _ h2
      have hb2 : 0 ≤ loI l ∧ loI l ≤ hiI (0 : Nat) hb ∧ hiI (0 : Nat) hb ≤ (0 : Nat) := by
       have : hiI (0 : Nat) hb = 0 := p2
       omega
      obtain ⟨u, r1, r2⟩ := zIr (el := fun _ => []) (G := G0) (n := 0) u1 s1 o1 o2 hb2 (x := .slice none 0 0) ⟨none, 0, rfl, yMj _, yMh _, fun h => absurd h oq⟩
      have hrun : (Instr.slice t (.slice none 0 0) (lo.map a.eval) (hi.map a.eval) none).run P w = .ok (.slice none 0 0) w := by
       rcases o1 with ⟨rfl, rfl⟩ | ⟨k, i, rfl, e1⟩ <;> rcases o2 with ⟨rfl, rfl⟩ | ⟨k', i', rfl, e2⟩
       ·rw [yNp, run_slice_all w t none 0 0 u1, s1]; rfl
       ·simp only [hiI] at p2
        subst p2
        rw [yNp, e2, run_slice_h w t none 0 0 u1 k' 0 oq oq, s1]; rfl
       ·simp only [loI] at p1
        subst p1
        rw [yNp, e1, run_slice_l w t none 0 0 u1 k 0 oq oq, s1]; rfl
       ·simp only [hiI, loI] at p1 p2
        subst p1; subst p2
        rw [e1, e2, run_slice_lh w t none 0 0 u1 k k' 0 0 oq oq oq, s1]; rfl
      exact ⟨_, by simp only [execOp, Sem.run_bind, run_sliceAt_slice w t _ _ _ _ u1, yNp, e1, hrun]; rfl, rfl⟩
    ·cases he
   ·rename_i n e _ _ _ _ h1
    split at he
    ·rename_i k off j l hb h2 h3 h4 h5
     split at he
     ·rename_i cs h6
      cases hbb : ((leI 0 (loI l) && leI (loI l) (hiI n hb)) && (leI (hiI n hb) n && Nat.ble n maxLen) && Nat.ble (off + n * j.size) cs.length) with
      | false => rw [hbb] at he; cases he
      | true =>
       rw [hbb] at he
       cases he
       rw [yNj, yNj, yNj, yNj, yK, yK, yK, yNk, yNk, yNk] at hbb
       obtain ⟨⟨⟨b1, b2⟩, b3, b4⟩, b5⟩ := hbb
       have b4 := yP8 b4
       have b5 := yP8 b5
       obtain ⟨d1, q1, q2⟩ := (hT _ _ h1).und_some
       have hd := vE q2
       subst hd
       have u1 : P.underlying t = some (.array (P.arrayLen t) (P.elem t)) := by rw [q1]; simp [Program.elem, Program.arrayLen, q1]
       have u2 : P.elem t = e := by simp [Program.elem, q1]
       have u3 : P.arrayLen t = n := by simp [Program.arrayLen, q1]
       have o1 := wO (fun y hy => hev y (by simp [Op.operands, hy])) h4
       have o2 := wO (fun y hy => hev y (by simp [Op.operands, hy])) h5
       have s1 := (hT _ _ h3).size_run w
       rw [← u2] at s1
       obtain ⟨b, e1, e2⟩ := hev x (by simp [Op.operands]) _ h2
       obtain ⟨b', vs, tail, E, g1, g2, g3⟩ := kK hs h6
       rw [e1] at g1
       cases g1
       have hl := CV.relL_length g3
       have hbz : off + n * j.size ≤ bsz w b := by rw [xA g2]; simp; omega
       obtain ⟨u, r1, r2⟩ := zIs (G := ⟨fun _ _ => False, [b], []⟩) (b := 0) (off := off) u1 u3 s1 o1 o2 ⟨⟨b1, b2, b3⟩, b4⟩ (x := .pointer (some ⟨b, off, none⟩)) ⟨b, rfl, rfl⟩
       obtain ⟨blk, A, i1, rfl, i3, i4, i5⟩ := r2
       cases i1
       have hle : (loI l).toNat ≤ n := by omega
       have hms : (loI l).toNat * j.size + (n - (loI l).toNat) * j.size = n * j.size := by rw [← yN4]; congr 1; omega
       have hA : ∃ p, A = some p := by
        have : ∃ p, (Value.slice A (zFj n l hb) (n - (loI l).toNat)) = .slice (some p) (zFj n l hb) (n - (loI l).toNat) := by
         have run : (Instr.sliceAt t (.pointer (some ⟨b, off, none⟩)) (lo.map a.eval) (hi.map a.eval) none).run P w = .ok (slicedAt ⟨b, off, none⟩ (loI l).toNat (hiI (P.arrayLen t) hb).toNat (P.arrayLen t) j.size) w := by
          subst u3
          rcases o1 with ⟨rfl, rfl⟩ | ⟨k, i, rfl, e1⟩ <;> rcases o2 with ⟨rfl, rfl⟩ | ⟨k', i', rfl, e2⟩
          ·simp only [yNp, run_sliceAt_array_all w t _ u1, s1, loI, hiI, yNq]; rfl
          ·simp only [loI, hiI] at b1 b2 b3
           simp only [yNp, e2, run_sliceAt_array_h w t _ u1 k' i' oq oq, s1, loI, hiI]; rfl
          ·simp only [loI, hiI] at b1 b2 b3
           simp only [yNp, e1, run_sliceAt_array_l w t _ u1 k i oq oq, s1, loI, hiI, yNq]; rfl
          ·simp only [loI, hiI] at b1 b2 b3
           simp only [e1, e2, run_sliceAt_array_lh w t _ u1 k k' i i' oq oq oq, s1, loI, hiI]; rfl
         rw [run] at r1
         simp only [Result.ok.injEq, yOi] at r1
         rw [← r1]
         unfold slicedAt
         have hN : zFj n l hb = (hiI n hb).toNat - (loI l).toNat := by
          cases l <;> cases hb <;> simp [zFj, loI, hiI]
         exact ⟨_, by rw [u3, hN]⟩
        obtain ⟨p, hp⟩ := this
        exact ⟨p, by injection hp⟩
       obtain ⟨p, rfl⟩ := hA
       exact ⟨_, by simp only [execOp, Sem.run_bind, e2, yNp, r1]; rfl, b, _, p, e1, rfl, i3, i4, fun hn => by have := i5 hn; cases this; rfl, by omega, fun m hm => by cases hm; rfl⟩
     ·cases he
    ·cases he
   ·rename_i h1
    split at he
    ·rename_i s l hb h2 h4 h5
     cases hbb : (leI 0 (loI l) && leI (loI l) (hiI s.size hb) && leI (hiI s.size hb) s.size) with
     | false => rw [hbb] at he; cases he
     | true =>
      rw [hbb] at he
      cases he
      rw [yNj, yNj, yK, yK, yK, yNk, yNk, yNk] at hbb
      have e1 : a.eval x = _ := hev x (by simp [Op.operands]) _ h2
      obtain ⟨d1, q1, q2⟩ := (hT _ _ h1).und_some
      have u1 : P.underlying t = some .string := by rw [q1, wV q2]
      have o1 := wO (fun y hy => hev y (by simp [Op.operands, hy])) h4
      have o2 := wO (fun y hy => hev y (by simp [Op.operands, hy])) h5
      exact ⟨_, by simp only [execOp, Sem.run_bind, run_sliceAt_string w t _ _ _ _ u1, yNp, e1, zIq u1 o1 o2 ⟨hbb.1.1, hbb.1.2, hbb.2⟩]; rfl, rfl⟩
    ·cases he
   ·cases he
  | some mx =>
   cases lo with
   | some _ => simp [opE] at he
   | none =>
   cases hi with
   | none => simp [opE] at he
   | some hi =>
   simp only [opE] at he
   split at he
   ·rename_i e _ _ _ _ s k off n cap kk hb km m h1 h2 h3 h4
    split at he
    ·rename_i j h5
     cases hbb : ((leI 0 hb && leI hb n && eqI m hb) && Nat.beq j.size s) with
     | false => rw [hbb] at he; cases he
     | true =>
      rw [hbb] at he
      cases he
      rw [yNj, yNj, yNj, yK, yK, wA, yNk, yNk, yNk] at hbb
      obtain ⟨⟨⟨b1, b2⟩, b3⟩, p3⟩ := hbb
      subst b3
      have p3 := yMs p3
      obtain ⟨b, c, p, g1, g2, g3, g4, g5, g6, g7⟩ := hev x (by simp [Op.operands]) _ h2
      have e2 : a.eval hi = _ := hev hi (by simp [Op.operands]) _ h3
      have e3 : a.eval mx = _ := hev mx (by simp [Op.operands]) _ h4
      obtain ⟨d1, q1, q2⟩ := (hT _ _ h1).und_some
      have u1 : P.underlying t = some (.slice (P.elem t)) := by rw [q1, zF q2]; simp [Program.elem, q1, zF q2]
      have u2 : P.elem t = e := by simp [Program.elem, q1, zF q2]
      have s1 := (hT _ _ h5).size_run w
      rw [← u2] at s1
      have r1 : (Instr.slice t (.slice (some p) n c) none (some (.int kk m)) (some (.int km m))).run P w = .ok (.slice (some p) m.toNat m.toNat) w := by
       simp [Instr.slice, run_underlying u1, Instr.sliceBounds, run_sliceBound w kk m m.toNat _ b1 oq, run_sliceBound w km m c _ b1 oq, s1, sliced, Addr.add]
      refine ⟨.slice (some p) m.toNat m.toNat, ?_, b, m.toNat, p, g1, rfl, yMj _, by omega, fun hn => g5 oq, ?_, fun q hq => by cases hq; rfl⟩
      ·simp only [execOp, Sem.run_bind, run_sliceAt_slice w t _ _ _ _ u1, yNp, yMw, g2, e2, e3, r1]
       rfl
      ·have : m.toNat * s ≤ c * s := yNe _ oq
       omega
    ·cases he
   ·rename_i e _ _ _ _ kk hb km m h1 h2 h3 h4
    split at he
    ·rename_i j h5
     cases hbb : (eqI hb 0 && eqI m 0) with
     | false => rw [hbb] at he; cases he
     | true =>
      rw [hbb] at he
      cases he
      rw [yNj, wA, wA, yNk, yNk] at hbb
      obtain ⟨rfl, rfl⟩ := hbb
      have e1 : a.eval x = _ := hev x (by simp [Op.operands]) _ h2
      have e2 : a.eval hi = _ := hev hi (by simp [Op.operands]) _ h3
      have e3 : a.eval mx = _ := hev mx (by simp [Op.operands]) _ h4
      obtain ⟨d1, q1, q2⟩ := (hT _ _ h1).und_some
      have u1 : P.underlying t = some (.slice (P.elem t)) := by rw [q1, zF q2]; simp [Program.elem, q1, zF q2]
      have u2 : P.elem t = e := by simp [Program.elem, q1, zF q2]
      have s1 := (hT _ _ h5).size_run w
      rw [← u2] at s1
      have r1 : (Instr.slice t (.slice none 0 0) none (some (.int kk 0)) (some (.int km 0))).run P w = .ok (.slice none 0 0) w := by
       simp [Instr.slice, run_underlying u1, Instr.sliceBounds, run_sliceBound w kk 0 0 _ oq oq, run_sliceBound w km 0 0 _ oq oq, s1, sliced]
      exact ⟨_, by simp only [execOp, Sem.run_bind, run_sliceAt_slice w t _ _ _ _ u1, yNp, yMw, e1, e2, e3, r1]; rfl, rfl⟩
    ·cases he
   ·cases he
 | lookup t m x ok =>
  simp only [opE] at he
  split at he
  ·rename_i k y kt et _ _ _ _ h1 h2 h3
   obtain ⟨d1, u1, u2⟩ := (hT _ _ h3).und_some
   have ht : P.underlying t = some (.map kt et) := by
    rw [u1]
    cases d1 <;> simp [zC9] at u2
    rw [u2.1, u2.2]
   obtain ⟨b0, e1, e2⟩ := hev m (by simp [Op.operands]) _ h1
   have ex := hev x (by simp [Op.operands]) _ h2
   have fin : ∀ {es kv res z}, zSa h k = some es → zZj y = some kv → zFy T kt kv es = some res → (res = none → (P.info? et).bind (·.zero) = some z) →
     (bif ok then CV.tup [zW2 ((res.map (·.2)).getD z), .raw (.bool res.isSome)] else zW2 ((res.map (·.2)).getD z)) = r → ∃ v, (execOp a.eval ⟨dst, .lookup t m x ok, type, pos, after, guard⟩).run P w = .ok (.value v) w ∧ r.rel φ w v := by
    intro es kv res z hm hv hf hz hr
    obtain ⟨b, es', ck, g1, g2, g3, g4⟩ := zNm hs hm
    rw [e1] at g2
    cases g2
    have hrun := zPg (ok := ok) hT ht g3 g4 hf hz
    refine ⟨_, by simp only [execOp, e2, zKq hv ex, Sem.run_bind, hrun, Result.andThen_ok]; rfl, ?_⟩
    subst hr
    cases ok with
    | false => exact zI2 _
    | true => exact ⟨[_, _], rfl, _, _, rfl, zI2 _, _, _, rfl, rfl, rfl⟩
   split at he
   ·rename_i es kv z h4 h5 h6
    split at he
    ·rename_i res h7
     cases he
     exact fin h4 h5 h7 (fun _ => hs.tab.2 _ _ h6) rfl
    ·cases he
   ·rename_i es kv h4 h5 h6
    split at he
    ·rename_i q h7
     cases he
     exact fin (z := undef) h4 h5 h7 (fun h => by cases h) rfl
    ·cases he
   ·cases he
  ·cases he
 | binOp op t x y t' =>
  simp only [opE] at he
  split at he
  ·rename_i h1 h2
   split at he
   ·rename_i sz by_ z q c h3
    obtain ⟨d, e1, e2⟩ := (hT _ _ h3).und_some
    have hu : P.underlying t = some (.interface (P.methodsAt t)) := by
     unfold Program.methodsAt
     rw [e1]
     cases d <;> simp only [zC9, reduceCtorEq] at e2 ⊢
    have g1 : a.eval x = .nilIface := hev x (by simp [Op.operands]) _ h1
    have g2 : a.eval (.const c) = .nilIface := hev (.const c) (by simp [Op.operands]) _ h2
    have hgd : (eqGuard op t x (.const c) .nilIface .nilIface).run P w = .ok () w := by
     unfold eqGuard
     cases op <;> simp [go_sem]
    obtain ⟨b, rfl, hb⟩ := zS1 he
    refine ⟨.bool b, ?_, rfl⟩
    simp only [execOp, Sem.run_bind, g1, g2, hgd, Result.andThen_ok]
    cases op <;> simp only [jS, reduceCtorEq, yMc] at hb
    ·cases hb; simp only [binOp]; simp [run_equal_nil_nil w t hu]
    ·cases hb; simp only [binOp]; simp [run_equal_nil_nil w t hu]
   ·cases he
  ·rename_i v v' h1 h2
   obtain ⟨u, e1, e2⟩ := zPw hT he (hev x (by simp [Op.operands]) _ h1) (hev y (by simp [Op.operands]) _ h2) x y
   refine ⟨u, ?_, e2⟩
   simp only [execOp, Sem.run_bind] at e1 ⊢
   rw [e1]
   rfl
  ·cases he
 | unOp op t x =>
  simp only [opE] at he
  split at he
  ·rename_i b h1
   cases op <;> simp only [reduceCtorEq] at he
   cases he
   obtain ⟨u, e1, e2⟩ := zE0 (P := P) (G := G0) (w := w) (op := .not) (v := .raw (.bool b)) rfl trivial (hev x (by simp [Op.operands]) _ h1)
   refine ⟨u, ?_, e2⟩
   simp only [execOp, Sem.run_bind, e1]
   rfl
  ·rename_i k n h1
   cases op <;> simp only [reduceCtorEq] at he
   cases hb : zLu k (-n) with
   | false => rw [hb] at he; cases he
   | true =>
    rw [hb] at he
    cases he
    obtain ⟨u, e1, e2⟩ := zE0 (P := P) (G := G0) (w := w) (op := .neg) (v := .raw (.int k n)) rfl (yV (zCr hb)) (hev x (by simp [Op.operands]) _ h1)
    refine ⟨u, ?_, e2⟩
    simp only [execOp, Sem.run_bind, e1]
    rfl
  ·cases he
 | makeInterface t x =>
  simp only [opE] at he
  split at he
  ·rename_i v i h1 h2
   cases hi : i.k.isIface with
   | true => rw [hi] at he; cases he
   | false =>
    rw [hi] at he
    cases he
    obtain ⟨d, u1, u2⟩ := (hT _ _ h2).und_some
    have hx := hev x (by simp [Op.operands]) _ h1
    refine ⟨.iface t (a.eval x), ?_, a.eval x, rfl, hx⟩
    simp only [execOp, Instr.makeInterface, Sem.run_bind, run_underlying u1, Result.andThen_ok]
    cases d with
    | interface ms =>
     rw [← u2] at hi
     cases hi
    | _ => rfl
  ·cases he
 | extract x i =>
  simp only [opE] at he
  split at he
  ·rename_i vs h1
   obtain ⟨us, e1, e2⟩ := hev x (by simp [Op.operands]) _ h1
   obtain ⟨v, e3, e4⟩ := CV.relL_get e2 he
   refine ⟨v, ?_, e4⟩
   simp [execOp, e1, Instr.extract, e3]
  ·cases he
 | makeFunc f first cap =>
  obtain ⟨first⟩ := first
  obtain ⟨cap⟩ := cap
  simp only [opE] at he
  split at he
  ·rename_i v1 v2 h1 h2
   cases he
   have e1 := kI (fun x hx => hev x (by simp [Op.operands] at hx ⊢; exact .inl hx)) h1
   have e2 := kI (fun x hx => hev x (by simp [Op.operands] at hx ⊢; exact .inr hx)) h2
   exact ⟨.func f (first.map a.eval).toArray (cap.map a.eval).toArray, by simp [execOp, Instr.makeFunc], _, _, rfl, e1, e2⟩
  ·cases he
 | build t parts =>
  simp only [opE] at he
  split at he
  ·rename_i fs _ _ z _ h1
   split at he
   ·rename_i ps h2
    split at he
    ·rename_i cs h3
     cases he
     obtain ⟨us, e1, e2⟩ := jB (a := a) (φ := φ) (w := w) parts.toList _ _ z (fun q hq => hev q.2 (by
      simp only [Op.operands]
      exact yO6.2 ⟨q, hq, rfl⟩)) h3 (CV.relL_raws z)
     refine ⟨.agg us.toArray, ?_, us, rfl, e2⟩
     have e3 := zBu (P := P) (w := w) (hT _ _ h1) (parts := parts.map fun q => (q.1, a.eval q.2)) (us := us) (.inl ⟨fs, ps, rfl, fun l hl => kW hT l ps (by rw [hl]; exact h2), by simpa using e1⟩)
     simp only [execOp, Sem.run_bind, e3]
     rfl
    ·cases he
   ·cases he
  ·rename_i n e _ _ z _ h1
   split at he
   ·rename_i j h2
    split at he
    ·rename_i cs h3
     cases he
     obtain ⟨us, e1, e2⟩ := jB (a := a) (φ := φ) (w := w) parts.toList _ _ z (fun q hq => hev q.2 (by
      simp only [Op.operands]
      exact yO6.2 ⟨q, hq, rfl⟩)) h3 (CV.relL_raws z)
     refine ⟨.agg us.toArray, ?_, us, rfl, e2⟩
     have e3 := zBu (P := P) (w := w) (hT _ _ h1) (parts := parts.map fun q => (q.1, a.eval q.2)) (us := us) (.inr ⟨n, e, j, rfl, hT _ _ h2, by simpa using e1⟩)
     simp only [execOp, Sem.run_bind, e3]
     rfl
    ·cases he
   ·cases he
  ·cases he
 | call c =>
  obtain ⟨callee, args, argTypes⟩ := c
  obtain ⟨args⟩ := args
  obtain ⟨argTypes⟩ := argTypes
  simp only [opE] at he
  split at he
  ·rename_i x t
   split at he
   ·rename_i h1 h2
    cases he
    obtain ⟨b, c, p, g1, g2, _⟩ := hev x (by simp [Op.operands, Call.operands]) _ h1
    exact ⟨_, by simp [execOp, resolve, invoke, builtin, g2, xQ (hT _ _ h2) rfl], rfl⟩
   ·rename_i h1 h2
    cases he
    have g2 : a.eval x = _ := hev x (by simp [Op.operands, Call.operands]) _ h1
    exact ⟨_, by simp [execOp, resolve, invoke, builtin, g2, xQ (hT _ _ h2) rfl], rfl⟩
   ·rename_i h1 h2
    cases he
    have g2 : a.eval x = _ := hev x (by simp [Op.operands, Call.operands]) _ h1
    exact ⟨_, by simp [execOp, resolve, invoke, builtin, g2, zEm (hT _ _ h2) rfl], rfl⟩
   ·rename_i h1 h2
    cases he
    obtain ⟨b, n, c, g1, g2, _, _, _, g3⟩ := hev x (by simp [Op.operands, Call.operands]) _ h1
    exact ⟨.int .i64 n, by simp [execOp, resolve, invoke, builtin, g2, xQ (hT _ _ h2) rfl], (n : Int), rfl, Int.natCast_nonneg n, Int.ofNat_le.2 g3⟩
   ·cases he
  ·rename_i x t
   split at he
   ·rename_i h1 h2
    cases he
    obtain ⟨b, c, p, g1, g2, _, _, _, _, g7⟩ := hev x (by simp [Op.operands, Call.operands]) _ h1
    rw [g7 _ rfl] at g2
    obtain ⟨d1, q1, q2⟩ := (hT _ _ h2).und_some
    have u1 : P.underlying t = some (.slice (P.elem t)) := by rw [q1, zF q2]; simp [Program.elem, q1, zF q2]
    exact ⟨_, by simp [execOp, resolve, invoke, builtin, g2, run_cap_slice w t type _ _ _ u1, goInt], rfl⟩
   ·rename_i h1 h2
    cases he
    have g2 : a.eval x = _ := hev x (by simp [Op.operands, Call.operands]) _ h1
    obtain ⟨d1, q1, q2⟩ := (hT _ _ h2).und_some
    have u1 : P.underlying t = some (.slice (P.elem t)) := by rw [q1, zF q2]; simp [Program.elem, q1, zF q2]
    exact ⟨_, by simp [execOp, resolve, invoke, builtin, g2, run_cap_slice w t type _ _ _ u1, goInt], rfl⟩
   ·cases he
  ·rename_i x y
   split at he
   ·rename_i k m k' n h1 h2
    cases he
    have g1 : a.eval x = _ := hev x (by simp [Op.operands, Call.operands]) _ h1
    have g2 : a.eval y = _ := hev y (by simp [Op.operands, Call.operands]) _ h2
    refine ⟨.int k (min m n), by simp [execOp, resolve, invoke, builtin, g1, g2, zS6], ?_⟩
    rw [yK]
    show _ = Value.int k _
    congr 1
    cases hd : decide (m ≤ n)
    ·rw [yOo] at hd; simp only [yN5]; omega
    ·rw [yNk] at hd; simp only [yMq]; omega
   ·cases he
  ·rename_i x y
   split at he
   ·rename_i k m k' n h1 h2
    cases he
    have g1 : a.eval x = _ := hev x (by simp [Op.operands, Call.operands]) _ h1
    have g2 : a.eval y = _ := hev y (by simp [Op.operands, Call.operands]) _ h2
    refine ⟨.int k (max m n), by simp [execOp, resolve, invoke, builtin, g1, g2, zS9], ?_⟩
    rw [yK]
    show _ = Value.int k _
    congr 1
    cases hd : decide (m ≤ n)
    ·rw [yOo] at hd; simp only [yN5]; omega
    ·rw [yNk] at hd; simp only [yMq]; omega
   ·cases he
  ·cases he
 | _ => simp [opE] at he
end
end Go.Proofs.YtioaahmkebojiaaGreatDoor
