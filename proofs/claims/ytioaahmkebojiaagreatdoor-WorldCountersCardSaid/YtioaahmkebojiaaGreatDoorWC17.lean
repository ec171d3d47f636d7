import Derived.Test.YtioaahmkebojiaaGreatDoorWC01
import Derived.MapKept
import Derived.WideKeyRuns
import Derived.Test.YtioaahmkebojiaaGreatDoorWC07
namespace Go.Proofs.YtioaahmkebojiaaGreatDoor
set_option linter.unusedVariables false
set_option linter.unusedSimpArgs false
set_option maxHeartbeats 4000000
set_option maxRecDepth 100000
open Go.RowKit
def AV.is (x : AV) (v : Value) : Prop := ∀ (G : Gh) (w : World) (u : Value), x.rel G w u → u = v
theorem AV.is_raw (v : Value) : (AV.raw v).is v := fun _ _ _ h => h
theorem zN6 {G : Gh} {w : World} : ∀ {vs us : List Value}, AV.relL G w (vs.map .raw) us → us = vs
 | [], _, h => h
 | v :: vs, us, h => by
  obtain ⟨u, r, rfl, h1, h2⟩ := h
  rw [show u = v from h1, zN6 h2]
theorem AV.is_agg (vs : List Value) : (AV.agg (vs.map .raw)).is (.agg vs.toArray) := fun G w u h => by
 obtain ⟨us, rfl, h⟩ := h
 rw [zN6 h]
theorem AV.is_agg2 (a b : Value) : (AV.agg [.raw a, .raw b]).is (.agg #[a, b]) := AV.is_agg [a, b]
def zKh (P : Program) (kt : TypeId) (k : Value) (l : List (Value × Value)) (r : Option (Nat × Value)) : Prop :=
 ∀ (w : World) (es : List MapEntry), (es.map fun e => (e.key, e.val)) = l → (Instr.findKey kt k es).run P w = .ok r w
def zU0 (P : Program) (kt : TypeId) (k : Value) : Prop := ∀ (b : Bool) (w : World), (Instr.checkKey b 10000 kt k).run P w = .ok () w
def zOo (l : List (Value × Value)) (k v : Value) : Option (Nat × Value) → List (Value × Value)
 | some (i, _) => l.set i (k, v)
 | none => l ++ [(k, v)]
theorem zHt {P : Program} {w : World} {r : Nat} {es : Array MapEntry} {clock : Nat} (hb : w.heap[r]? = some (.map es clock)) : (getObj r).run P w = .ok (.map es clock) w := by
 simp [getObj, Sem.run, hb]
theorem zL4 {P : Program} {w : World} {r : Nat} {es : Array MapEntry} {clock : Nat} (o : Obj) (hb : w.heap[r]? = some (.map es clock)) : (setObj r o).run P w = .ok () { w with heap := w.heap.setIfInBounds r o } := by
 simp [setObj, Sem.run, hb]
theorem zYm {w : World} {r : Nat} {o o' : Obj} (hb : w.heap[r]? = some o) : (w.heap.setIfInBounds r o')[r]? = some o' ∧ ∀ r', r' ≠ r → (w.heap.setIfInBounds r o')[r']? = w.heap[r']? := by
 have hlt : r < w.heap.size := (yMi.1 hb).1
 exact ⟨by simp [hlt], fun r' hne => by simp [Ne.symm hne]⟩
section runs
variable {P : Program} {ops : Array Oper} {rest : List Oper} {K : ASt → Prop} {nt nb : Nat} {sl : List (Nat × (Bool × AV))} {bx : List (List AV)} {rw : List zV} {ys : (Nat × List (List AV)) × List (List AV) × Bool} {o : Oper} {d : Nat}
theorem zD2 {t : TypeId} (hop : o.op = .makeMap t none) (hg : o.guard = none) (hd : o.dst = some d) (hn : Nat.blt d nt = true)
  (h : ∃ k, rw.length = k ∧ ∃ rw', rw ++ [⟨t, 0, 0, vS []⟩] = rw' ∧ yZ P ops rest K ⟨nt, nb, (d, (true, .row k 0)) :: sl, bx, rw', ys⟩) : yZ P ops (o :: rest) K ⟨nt, nb, sl, bx, rw, ys⟩ := by
 obtain ⟨k, rfl, rw', rfl, h3⟩ := h
 intro C G a w Q hs hQ
 refine wpListIn_plain hg fun K' hK => ?_
 refine zJ (fun c hc => by rw [hop] at hc; cases hc) ?_
 have hrun : (execOp a.eval o).run P w = .ok (.value (.map (some w.heap.size))) (w.alloc (.map #[] 0)) := by
  obtain ⟨dst, op, type, pos, after, guard⟩ := o
  simp only at hop
  subst hop
  rfl
 rw [hrun, Oper.uponIn_value, hd]
 have hb : Below w.heap.size w (w.alloc (.map #[] 0)) := (Below.refl _ _).alloc (yMj _) _
 have E := wX hs.mem hb G.imm (fun _ _ i => i) (fun _ _ i => .inl i) (fun b o i => by
  rw [hb.cell (p := ⟨b, o, none⟩) (hs.mem.lt_imm i)]; exact hs.mem.immOk b o i)
 have hR : zC0 ⟨G.imm, G.bx, G.rw⟩ (w.alloc (.map #[] 0)) ⟨t, 0, 0, vS []⟩ (0, .map (some w.heap.size)) := ⟨rfl, ⟨[], ⟨rfl, .inr (.inr ⟨w.heap.size, #[], 0, rfl, ⟨rfl, rfl⟩, heap_alloc_new w _, rfl⟩)⟩, fun i hi => by simp at hi⟩, fun g hg o => by
  cases hg
  exact ⟨fun i => by have := hs.mem.lt_imm i; omega, fun h => by simp at h⟩⟩
 obtain ⟨m2, le2⟩ := zAu E.mem hR (fun g hg => by
  cases hg
  refine ⟨fun h => ?_, fun y hy e => ?_⟩
  ·have := hs.mem.lt_box h
   omega
  ·obtain ⟨q, hq⟩ := yOw hy
   have := hs.mem.lt_row hq e
   omega)
 have hs' := hs.called ((zR.of_below E.below).mono fun _ _ h => h) (E.le.trans le2) (fun b o i => .inl i) (fun _ h => .inl h) (fun x hx g hg => by
  have hx : x ∈ G.rw ++ [_] := hx
  rw [yO2, yO1] at hx
  rcases hx with hx | rfl
  ·exact .inl ⟨x, hx, hg⟩
  ·cases hg
   exact .inr (yMj _)) m2
 refine hK _ _ (h3 C _ _ _ Q (hs'.put (by simpa [yNz] using hn) (fun _ => ⟨(0, .map (some w.heap.size)), ?_, yMj _, fun _ => rfl⟩) (fun h => by cases h)) hQ)
 show (G.rw ++ [_])[rw.length]? = _
 rw [← hs.mem.lenR, yNu (yMj _), Nat.sub_self]; rfl
theorem zJl : ∀ {a b : List (Value × Value)}, vS a = vS b → a = b
 | [], [], _ => rfl
 | [], (k, v) :: b, h => by have := congrFun h 0; simp [vS] at this
 | (k, v) :: a, [], h => by have := congrFun h 0; simp [vS] at this
 | (k, v) :: a, (k', v') :: b, h => by
  have h0 := congrFun h 0
  simp only [vS, yMb, yOy, AV.raw.injEq, yOi] at h0
  have h1 : vS a = vS b := funext fun i => by
   have := congrFun h (i + 1)
   simpa [vS] using this
  rw [h0.1, h0.2, zJl h1]
theorem zWu {C : Ctx P} {G : Gh} {a : Act} {w : World} {m : Operand} {k : Nat} {r : zV} {l : List (Value × Value)} (hs : Sat C G a w ⟨nt, nb, sl, bx, rw, ys⟩) (hm : (ASt.mk nt nb sl bx rw ys).ev m = some (true, .row k 0)) (hr : rw[k]? = some r) (hz : r.sz = 0 ∧ r.n = 0) (hl : r.el = vS l) :
  ∃ (g : Nat) (es : Array MapEntry) (ck : Nat), G.rw[k]? = some (0, .map (some g)) ∧ a.eval m = .map (some g) ∧ w.heap[g]? = some (.map es ck) ∧ (es.toList.map fun e => (e.key, e.val)) = l := by
 obtain ⟨e, e1, e2, e3⟩ := (yN (x := m) fun t _ => hs.slot t) _ _ hm rfl
 have ro := hs.mem.row k r e hr e1
 obtain ⟨xs, ho, _⟩ := ro.own
 have hv := e3 (by rw [ro.len, hz.2])
 rcases ho.2 with ⟨_, _, h⟩ | ⟨_, _, _, _, h, _⟩ | ⟨g, es, ck, h, _, hh, hel⟩
 ·omega
 ·omega
 ·refine ⟨g, es, ck, ?_, hv.trans h, hh, zJl (hel.symm.trans hl)⟩
  rw [e1, ← h, ← hz.2, ← ro.len]
theorem zE6 {t kt et : TypeId} {m x : Operand} {ok : Bool} {kv z : Value} {l : List (Value × Value)} {res : Option (Nat × Value)} (hF : zKh P kt kv l res) (hK : zU0 P kt kv) (hz : (P.info? et).bind (·.zero) = some z) (hop : o.op = .lookup t m x ok) (ht : P.underlying t = some (.map kt et)) (hg : o.guard = none) (hd : o.dst = some d) (hn : Nat.blt d nt = true)
  (h : ∃ k, (ASt.mk nt nb sl bx rw ys).ev m = some (true, .row k 0) ∧ ∃ r, rw[k]? = some r ∧ (r.sz = 0 ∧ r.n = 0) ∧ r.el = vS l ∧ ∃ y, (ASt.mk nt nb sl bx rw ys).ev x = some (true, y) ∧ y.is kv ∧
   yZ P ops rest K ⟨nt, nb, (d, (true, bif ok then .tup [zZc ((res.map (·.2)).getD z), .raw (.bool res.isSome)] else zZc ((res.map (·.2)).getD z))) :: sl, bx, rw, ys⟩) : yZ P ops (o :: rest) K ⟨nt, nb, sl, bx, rw, ys⟩ := by
 obtain ⟨k, h1, r, h2, h3, h4, y, h5, h6, h7⟩ := h
 intro C G a w Q hs hQ
 obtain ⟨g, es, ck, e1, e2, e3, e4⟩ := zWu hs h1 h2 h3 h4
 have ex := h6 _ _ _ ((yN (x := x) fun t _ => hs.slot t) _ _ h5 rfl)
 refine wpListIn_plain hg fun K' hK' => ?_
 refine zJ (fun c hc => by rw [hop] at hc; cases hc) ?_
 have hzr : (zeroValue et).run P w = .ok z w := by
  cases hi : P.info? et with
  | none => rw [hi] at hz; cases hz
  | some i =>
   rw [hi] at hz
   simp only [yMm] at hz
   simp [zeroValue, typeInfo, hi, hz]
 have hrun : (execOp a.eval o).run P w = .ok (.value (bif ok then .tuple #[(res.map (·.2)).getD z, .bool res.isSome] else (res.map (·.2)).getD z)) w := by
  obtain ⟨dst, op, type, pos, after, guard⟩ := o
  simp only at hop
  subst hop
  have hf := hF w es.toList e4
  have hl : (Instr.lookup t (.map (some g)) kv ok).run P w = .ok (bif ok then .tuple #[(res.map (·.2)).getD z, .bool res.isSome] else (res.map (·.2)).getD z) w := by
   unfold Instr.lookup
   simp only [Sem.run_bind, run_underlying ht, Result.andThen_ok, zHt e3, hK _ w, hf, Sem.run_pure]
   cases res with
   | none => simp only [Sem.run_bind, hzr, Result.andThen_ok, Sem.run_pure]; cases ok <;> rfl
   | some q => simp only [Sem.run_pure, Result.andThen_ok]; cases ok <;> rfl
  simp only [execOp, e2, ex, Sem.run_bind, hl, Result.andThen_ok]
  rfl
 rw [hrun, Oper.uponIn_value, hd]
 refine hK' _ _ (h7 C G _ w Q (hs.put (by simpa [yNz] using hn) (fun _ => ?_) (fun h => by cases h)) hQ)
 cases ok with
 | false => exact zI9 _ _ _
 | true => exact ⟨[_, _], rfl, _, _, rfl, zI9 _ _ _, _, _, rfl, rfl, rfl⟩
theorem yI (n : Nat) (k : IntKind) (x : Int) : Instr.sameBits n (.int k x) (.int k x) = true := by
 cases n <;> simp [Instr.sameBits]
theorem zHa (n : Nat) (k j : IntKind) (x y : Int) : Instr.sameBits (n + 1) (.agg #[.int k x, .int j y]) (.agg #[.int k x, .int j y]) = true := by
 simp [Instr.sameBits, yI]
theorem yC {t kt et : TypeId} {m x y : Operand} {kv vv : Value} {l : List (Value × Value)} {res : Option (Nat × Value)} (hF : zKh P kt kv l res) (hK : zU0 P kt kv) (hS : Instr.sameBits 10000 kv kv = true) (hres : ∀ i v, res = some (i, v) → l[i]? = some (kv, v)) (hop : o.op = .mapUpdate t m x y ∨ o.op = .insert t m x y) (ht : P.underlying t = some (.map kt et)) (hg : o.guard = none) (hd : o.dst = none)
  (h : ∃ k, (ASt.mk nt nb sl bx rw ys).ev m = some (true, .row k 0) ∧ ∃ r, rw[k]? = some r ∧ (r.sz = 0 ∧ r.n = 0) ∧ r.el = vS l ∧ ∃ y1, (ASt.mk nt nb sl bx rw ys).ev x = some (true, y1) ∧ y1.is kv ∧ ∃ y2, (ASt.mk nt nb sl bx rw ys).ev y = some (true, y2) ∧ y2.is vv ∧
   ∃ rw', rw.set k ⟨r.e, 0, 0, vS (zOo l kv vv res)⟩ = rw' ∧ yZ P ops rest K ⟨nt, nb, sl, bx, rw', ys⟩) : yZ P ops (o :: rest) K ⟨nt, nb, sl, bx, rw, ys⟩ := by
 obtain ⟨k, h1, r, h2, h3, h4, y1, h5, h6, y2, h7, h8, rw', rfl, h9⟩ := h
 intro C G a w Q hs hQ
 obtain ⟨g, es, ck, e1, e2, e3, e4⟩ := zWu hs h1 h2 h3 h4
 have ex := h6 _ _ _ ((yN (x := x) fun t _ => hs.slot t) _ _ h5 rfl)
 have ey := h8 _ _ _ ((yN (x := y) fun t _ => hs.slot t) _ _ h7 rfl)
 refine wpListIn_plain hg fun K' hK' => ?_
 refine zJ (fun c hc => by rcases hop with h | h <;> rw [h] at hc <;> cases hc) ?_
 obtain ⟨es', ck', e5, e6⟩ : ∃ (es' : Array MapEntry) (ck' : Nat), (Instr.mapUpdate t (.map (some g)) kv vv).run P w = .ok () { w with heap := w.heap.setIfInBounds g (.map es' ck') } ∧ (es'.toList.map fun e => (e.key, e.val)) = zOo l kv vv res := by
  have hf := hF w es.toList e4
  unfold Instr.mapUpdate
  simp only [Sem.run_bind, run_underlying ht, Result.andThen_ok, zHt e3, hK _ w, hf]
  cases res with
  | none =>
   refine ⟨es.push { key := kv, val := vv, born := ck }, ck + 1, by simp only [zL4 _ e3], ?_⟩
   simp [zOo, e4]
  | some q =>
   obtain ⟨i, v⟩ := q
   have hi := hres i v rfl
   rw [← e4, yNg] at hi
   obtain ⟨en, hen, hkv⟩ := yMx.1 hi
   rw [yNv] at hen
   have hkey : ((es[i]?).map (·.key)).getD kv = kv := by rw [hen]; exact congrArg Prod.fst hkv
   have hlt : i < es.size := (yMi.1 hen).1
   refine ⟨es.modify i fun e => { e with key := kv, val := vv }, ck, by simp only [Sem.run_bind, hkey, Instr.keyThatStays, hS, if_true, Sem.run_pure, Result.andThen_ok, zL4 _ e3], ?_⟩
   rw [zOo, ← e4]
   refine List.ext_getElem? fun j => ?_
   rw [yNg, List.getElem?_set, yNv, Array.getElem?_modify, yO7, yNn, yNg, yNv]
   by_cases hij : i = j
   ·subst hij
    rw [if_pos rfl, if_pos rfl, if_pos hlt, hen]
    rfl
   ·rw [if_neg hij, if_neg hij]
 have hrun : (execOp a.eval o).run P w = .ok .skip { w with heap := w.heap.setIfInBounds g (.map es' ck') } := by
  obtain ⟨dst, op, type, pos, after, guard⟩ := o
  simp only at hop
  rcases hop with hop | hop <;> (subst hop; simp only [execOp, e2, ex, ey, Sem.run_bind, e5, Result.andThen_ok]; rfl)
 rw [hrun, Oper.uponIn_skip, hd]
 have hset := zYm (o' := .map es' ck') e3
 have ro := hs.mem.row k r _ h2 e1
 have himm : ∀ b o, G.imm b o → b ≠ g := fun b o i e => by
  subst e
  have := (ro.imm b rfl o).1 i
  rw [h3.2] at this
  omega
 have hcell : ∀ b o, G.imm b o → ({ w with heap := w.heap.setIfInBounds g (.map es' ck') } : World).cell? ⟨b, o, none⟩ = w.cell? ⟨b, o, none⟩ := fun b o i =>
  World.cell?_of_block (w := w) (a := ⟨b, o, none⟩) (hset.2 b (himm b o i))
 have hn0 : r.n = 0 := h3.2
 obtain ⟨q1, q2, q3, q4, q5⟩ := zHo (m := 0) hs.mem h2 (v := .map (some g)) (v' := .map (some g)) (r' := ⟨r.e, 0, 0, vS (zOo l kv vv res)⟩) (by rw [e1, hn0]) (imm' := G.imm) (w' := { w with heap := w.heap.setIfInBounds g (.map es' ck') }) (fun b o i => ⟨i, hcell b o i⟩) (fun b o i => .inl i) (fun b o i => by rw [hcell b o i]; exact hs.mem.immOk b o i)
  ⟨by simp [hn0], ⟨[], ⟨rfl, .inr (.inr ⟨g, es', ck', rfl, ⟨rfl, rfl⟩, hset.1, by rw [e6]⟩)⟩, fun i hi => by simp at hi⟩, fun b hb o => by
   cases hb
   exact ⟨fun i => absurd rfl (himm _ _ i), fun h => by simp at h⟩⟩ (fun _ => rfl) (.inl ⟨rfl, ⟨rfl, rfl, rfl, by simp, fun q _ hq => hset.2 q fun e => hq (by rw [e]; rfl)⟩⟩)
 have hs' := hs.called q3 q2 q4 (fun _ h => .inl h) q5 q1
 exact hK' _ _ (h9 C _ _ _ Q hs' hQ)
end runs
theorem x9 {P : Program} {kt : TypeId} {k : IntKind} (h : P.underlying kt = some (.int k)) (n : Int) : zU0 P kt (.int k n) := fun b w => by
 show (Instr.checkKey b (9999 + 1) kt (.int k n)).run P w = _
 unfold Instr.checkKey
 simp only [Sem.run_bind, run_underlying h, Result.andThen]
 rfl
def jJ (p : Int × Int) : Value := .agg #[.int .i64 p.1, .int .i64 p.2]
theorem zNd (a b : Int) : (AV.agg [.raw (.int .i64 a), .raw (.int .i64 b)]).is (jJ (a, b)) := AV.is_agg2 _ _
theorem zGk (p : Int × Int) : Instr.sameBits 10000 (jJ p) (jJ p) = true := zHa 9999 _ _ _ _
theorem zCo {P : Program} {kt e : TypeId} (hu : P.underlying kt = some (.array 2 e)) (he : P.underlying e = some (.int .i64)) (hs : P.cellsOf e = 1) (p : Int × Int) : zU0 P kt (jJ p) := fun b w => by
 obtain ⟨i, hi⟩ := info_of_underlying he
 have hp : ∀ (k : Nat) (a : Value), #[Value.int .i64 p.1, Value.int .i64 p.2].toList[k]? = some a → (part e #[Value.int .i64 p.1, Value.int .i64 p.2] k).run P w = .ok a w := fun k a hk => run_part_plain w (by simp [Program.plainKey, he]) (by rwa [yNv] at hk)
 have hc : ∀ x : Int, (Instr.checkKey b 9999 e (.int .i64 x)).run P w = .ok () w := fun x => by
  show (Instr.checkKey b (9998 + 1) e _).run P w = _
  rw [Instr.checkKey]
  simp only [Sem.run_bind, run_underlying he, Result.andThen_ok]
  rfl
 show (Instr.checkKey b (9999 + 1) kt (.agg _)).run P w = _
 rw [Instr.checkKey]
 simp only [Sem.run_bind, run_underlying hu, Result.andThen_ok]
 simp only [Std.Legacy.Range.forIn_eq_forIn_range', Std.Legacy.Range.size, Nat.sub_zero, Nat.add_one_sub_one, Nat.div_one, List.range'_succ, List.range'_zero, List.forIn_cons, List.forIn_nil, Sem.run_bind, run_sizeOf w hi, hs, Result.andThen_ok, Nat.zero_mul, yN9, Nat.one_mul, yNo, hp 0 _ rfl, hp 1 _ rfl, hc, Sem.run_pure]
theorem zGs {P : Program} {kt : TypeId} (h : zKj P 30 kt = some [.int, .int]) (ha : zDa P kt = true) (p q : Int × Int) (w : World) : (Op.equal kt (jJ p) (jJ q)).run P w = .ok (decide (p = q)) w := by
 have e := (zGv 30 kt _ h).2 10000 [.int .i64 p.1, .int .i64 p.2] [.int .i64 q.1, .int .i64 q.2] (decide (p = q)) w oq (by
  have : decide (p = q) = (decide (p.1 = q.1) && (decide (p.2 = q.2) && true)) := by
   rw [Bool.and_true, yN7, yNj, yPk, yPk, yPk, Prod.ext_iff]
  rw [this]; rfl)
 rw [ha] at e
 exact e
theorem j5 {P : Program} {kt : TypeId} (h : zKj P 30 kt = some [.int, .int]) (ha : zDa P kt = true) (v : Value) (p : Int × Int) (w : World) : ∀ (ps : List (Int × Int)) (es : List MapEntry) (i : Nat), (es.map fun e => (e.key, e.val)) = ps.map (fun q => (jJ q, v)) →
  (Instr.findAsking kt (jJ p) es i).run P w = .ok ((ps.findIdx? (decide <| p = ·)).map fun j => (i + j, v)) w
 | [], es, i, he => by
  cases es with
  | nil => rfl
  | cons e es => cases he
 | q :: ps, es, i, he => by
  cases es with
  | nil => cases he
  | cons e es =>
   simp only [yNm, yOy, yMu] at he
   have ih := j5 h ha v p w ps es (i + 1) he.2
   have hq := zGs h ha p q w
   rw [Instr.findAsking, he.1.1]
   simp only [Sem.run_bind, hq, Result.andThen_ok]
   by_cases hpq : p = q
   ·subst hpq
    simp [he.1.2, List.findIdx?_cons]
   ·rw [List.findIdx?_cons]
    simp only [hpq, decide_false, yO0, if_false]
    rw [ih]
    cases ps.findIdx? (decide <| p = ·) with
    | none => rfl
    | some j => simp only [yMw]; congr 3; omega
theorem zEu {P : Program} {kt : TypeId} (h : zKj P 30 kt = some [.int, .int]) (ha : zDa P kt = true) (hw : (match P.underlying kt with | some (.array _ _) | some (.struct _) => true | _ => false) = true) (v : Value) (p : Int × Int) (ps : List (Int × Int)) :
  zKh P kt (jJ p) (ps.map fun q => (jJ q, v)) ((ps.findIdx? (decide <| p = ·)).map fun j => (j, v)) := fun w es he => by
 rw [run_findKey_eq (P := P) w hw, j5 h ha v p w ps es 0 he]
 simp
def yG0 (ps : List (Int × Int)) (p : Int × Int) : List (Int × Int) := if p ∈ ps then ps else ps ++ [p]
theorem zQc (v : Value) (p : Int × Int) (ps : List (Int × Int)) : zOo (ps.map fun q => (jJ q, v)) (jJ p) v ((ps.findIdx? (decide <| p = ·)).map fun j => (j, v)) = (yG0 ps p).map fun q => (jJ q, v) := by
 unfold yG0
 cases hf : ps.findIdx? (decide <| p = ·) with
 | none =>
  rw [if_neg (fun h => by
   have := List.findIdx?_eq_none_iff.1 hf p h
   simp at this)]
  simp [zOo]
 | some j =>
  obtain ⟨hj, hp, _⟩ := yP4.1 hf
  have hp : p = ps[j] := by simpa using hp
  rw [if_pos (by rw [hp]; exact yP5 _)]
  simp only [yMw, zOo]
  refine List.ext_getElem? fun i => ?_
  rw [List.getElem?_set]
  split
  ·rename_i hij
   subst hij
   rw [yO7, if_pos hj, yNg, yNf hj, ← hp]
   rfl
  ·rfl
theorem zYq {v : Value} {p : Int × Int} {ps : List (Int × Int)} : ∀ i u, ((ps.findIdx? (decide <| p = ·)).map fun j => (j, v)) = some (i, u) → (ps.map fun q => (jJ q, v))[i]? = some (jJ p, u) := fun i u h => by
 cases hf : ps.findIdx? (decide <| p = ·) with
 | none => rw [hf] at h; cases h
 | some j =>
  rw [hf] at h
  simp only [yMw, yMc, yMu] at h
  obtain ⟨rfl, rfl⟩ := h
  obtain ⟨hj, hp, _⟩ := yP4.1 hf
  have hp : p = ps[j] := by simpa using hp
  rw [yNg, yNf hj, ← hp]
  rfl
theorem zSz {p : Int × Int} {ps : List (Int × Int)} : (((ps.findIdx? (decide <| p = ·)).map fun j => (j, Value.bool true)).map (·.2)).getD (.bool false) = .bool (decide (p ∈ ps)) := by
 cases hf : ps.findIdx? (decide <| p = ·) with
 | none =>
  rw [yPl (fun h => by
   have := List.findIdx?_eq_none_iff.1 hf p h
   simp at this)]
  rfl
 | some j =>
  obtain ⟨hj, hp, _⟩ := yP4.1 hf
  have hp : p = ps[j] := by simpa using hp
  rw [yPm (by rw [hp]; exact yP5 _)]
  rfl
end Go.Proofs.YtioaahmkebojiaaGreatDoor
