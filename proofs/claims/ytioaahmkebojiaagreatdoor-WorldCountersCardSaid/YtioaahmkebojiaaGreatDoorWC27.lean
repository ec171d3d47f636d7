import Derived.Test.YtioaahmkebojiaaGreatDoorWC01
import Derived.Test.YtioaahmkebojiaaGreatDoorWC26
namespace Go.Proofs.YtioaahmkebojiaaGreatDoor
set_option linter.unusedVariables false
set_option linter.unusedSimpArgs false
set_option maxHeartbeats 4000000
set_option maxRecDepth 100000
set_option linter.unusedSectionVars false
open Go.RowKit
variable [SpT]
def zXk (h : CH) : CV → Option (Nat × Nat × List CV)
 | .bsl s k off n _ => match w8 h k with
  | some cs => bif Nat.ble (off + n * s) cs.length then some (s, n, (cs.drop off).take (n * s)) else none
  | none => none
 | .raw (.slice none 0 0) => some (0, 0, [])
 | _ => none
def zTf (s : ByteArray) : List CV := s.data.toList.map fun b => .raw (.int .u8 b.toNat)
def zPp (n : Nat) (j : TI) : Bool := Nat.ble n maxLen && Nat.ble (n * j.bytes) 140737488355328
def apH (h : CH) : List (Nat × Option CB) → CH
 | [] => h
 | e :: r => apH (h.put e.1 e.2) r
def zZe (T : TT) (h : CH) (nx : Nat) (t : Nat) (x : CV) (src : Option (Nat × Nat × List CV)) : Option (CV × List (Nat × Option CB) × Nat) :=
 match T t with
 | some ⟨.slice e, _, _, _, _⟩ => match T e, src with
  | some j, some (s', m, us) =>
   bif Nat.beq m 0 then match x with
    | .raw (.slice none 0 0) => some (x, [], nx)
    | .bsl _ _ _ _ _ => some (x, [], nx)
    | _ => none
   else bif Nat.beq s' j.size && Nat.blt 0 j.size && Nat.beq j.zero.length j.size && vB us then match x with
    | .raw (.slice none 0 0) => bif zPp m j then some (.bsl j.size nx 0 m none, [(nx, some (.cells false us))], nx + 1) else none
    | .bsl s k off n cap => match h.get k with
     | some (.cells full cs) => bif Nat.beq s j.size && zPp (n + m) j then match cap with
       | some c => bif Nat.ble (n + m) c then bif Nat.ble (off + (n + m) * s) cs.length then some (.bsl s k off (n + m) (some c), [(k, some (.cells full (wT cs (off + n * s) us)))], nx) else none
        else bif Nat.ble (off + n * s) cs.length then some (.bsl s nx 0 (n + m) none, [(nx, some (.cells false ((cs.drop off).take (n * s) ++ us)))], nx + 1) else none
       | none => bif !full && Nat.beq off 0 && Nat.beq (n * s) cs.length then some (.bsl s nx 0 (n + m) none, [(k, none), (nx, some (.cells false (cs ++ us)))], nx + 1) else none
      else none
     | _ => none
    | _ => none
   else none
  | _, _ => none
 | _ => none
def zZ3 (T : TT) (h : CH) (nx : Nat) (t : Nat) (x y : CV) : Option (CV × List (Nat × Option CB) × Nat) :=
 match T t with
 | some ⟨.slice e, _, _, _, _⟩ => match T e, zXk h y, x with
  | some j, some (s', m, us), .bsl s k off n _ => match h.get k with
   | some (.cells full cs) => bif Nat.beq (min m n) 0 then some (.raw (.int .i64 0), [], nx) else
     bif Nat.beq s j.size && Nat.beq s' j.size && Nat.blt 0 j.size && vB us && Nat.ble (off + n * s) cs.length then
      some (.raw (.int .i64 (min m n : Nat)), [(k, some (.cells full (wT cs off (us.take (min m n * s)))))], nx) else none
   | _ => none
  | _, _, _ => none
 | _ => none
def yCr (T : TT) (h : CH) (nx : Nat) (sl : CS) (t : Nat) (m x y : Operand) : Option (CV × List (Nat × Option CB) × Nat) := match evT sl m, evT sl x, evT sl y, T t with
 | some (.mp k), some v, some v', some ⟨.map kt _, _, _, _, _⟩ => match zSa h k, zZj v, zZj v' with
  | some es, some kv, some vv => match zFy T kt kv es with
   | some res => some (.raw undef, [(k, some (.map (zOo es kv vv res)))], nx)
   | none => none
  | _, _, _ => none
 | _, _, _, _ => none
def zIy : CV → Option (Option Nat × Nat)
 | .raw (.slice none 0 0) => some (none, 0)
 | .row k bnd => some (some k, bnd)
 | _ => none
def zR4 (o : Option Nat) (nx : Nat) : List (Nat × Option CB) := match o with
 | some k => [(k, none), (nx, some .rowb)]
 | none => [(nx, some .rowb)]
def yC4 : Nat := 41
def u8N : Nat := 5
def zCi (h : CH) : Option Nat → Bool
 | none => true
 | some k => match h.get k with
  | some .rowb => true
  | _ => false
def yCw (T : TT) (h : CH) (nx t : Nat) (x : CV) (m : Nat) : Option (CV × List (Nat × Option CB) × Nat) := match zIy x, T t, T u8N with
 | some (o, bnd), some ⟨.slice e, _, _, _, _⟩, some ⟨_, 1, 1, _, _⟩ => bif (Nat.beq t yC4 && Nat.beq e u8N) && (zCi h o && (Nat.blt 0 m && Nat.ble (bnd + m) 1000000)) then some (.row nx (bnd + m), zR4 o nx, nx + 1) else none
 | _, _, _ => none
def zAv (T : TT) (h : CH) (nx : Nat) (sl : CS) (o : Op) : Option (CV × List (Nat × Option CB) × Nat) :=
 match o with
 | .alloc t => match T t with
  | some i => some (.box nx 0, [(nx, some (.cells true (i.zero.map .raw)))], nx + 1)
  | none => none
 | .box _ x => match evT sl x with
  | some y => bif vB (y5 y) then some (.box nx 0, [(nx, some (.cells true (y5 y)))], nx + 1) else none
  | none => none
 | .store t p x => match evT sl p, evT sl x, T t with
  | some (.box k off), some y, some i => match h.get k with
   | some (.cells full cs) => bif vB (y5 y) && Nat.beq (y5 y).length i.size && Nat.ble (off + i.size) cs.length then some (.raw undef, [(k, some (.cells full (wT cs off (y5 y))))], nx) else none
   | _ => none
  | _, _, _ => none
 | .buildSlice t len parts => match T t with
  | some ⟨.slice e, _, _, _, _⟩ => match T e with
   | some j => match zFz sl (fun i => some (i * j.size, j.size)) parts.toList ((yT len j.zero).map .raw) with
    | some cs => bif Nat.blt 0 j.size && Nat.ble (len * j.size) 16777216 && Nat.beq j.zero.length j.size then some (.bsl j.size nx 0 len (some len), [(nx, some (.cells true cs))], nx + 1) else none
    | none => none
   | none => none
  | _ => none
 | .makeSlice t l c => match T t with
  | some ⟨.slice e, _, _, _, _⟩ => match T e, evT sl l, evT sl c with
   | some j, some (.raw (.int _ n)), some (.raw (.int _ m)) => bif leI 0 n && leI n m && leI m 16777216 && Nat.blt 0 j.size && Nat.beq j.zero.length j.size && Nat.ble j.bytes 1000000 then
     some (.bsl j.size nx 0 n.toNat (some m.toNat), [(nx, some (.cells true ((yT m.toNat j.zero).map .raw)))], nx + 1) else none
   | _, _, _ => none
  | _ => none
 | .makeMap _ none => some (.mp nx, [(nx, some (.map []))], nx + 1)
 | .mapUpdate t m x y => yCr T h nx sl t m x y
 | .insert t m x y => yCr T h nx sl t m x y
 | .call c => match c.callee, c.args.toList, c.argTypes.toList with
  | .builtin .append, [x, y], [t, t'] => bif SpT.abs && Nat.beq t yC4 then (match evT sl x, evT sl y, T t' with
    | some v, some (.raw (.string s)), some ⟨.str, _, _, _, _⟩ => yCw T h nx t v s.size
    | some v, some v', _ => bif Nat.beq t t' then (match zXk h v' with
     | some (1, m, us) => bif u8L us then yCw T h nx t v m else none
     | _ => none) else none
    | _, _, _ => none)
   else match evT sl x, evT sl y, T t' with
   | some v, some (.raw (.string s)), some ⟨.str, _, _, _, _⟩ => bif Nat.beq s.size 0 then none else zZe T h nx t v (some (1, s.size, zTf s))
   | some v, some v', _ => bif Nat.beq t t' then zZe T h nx t v (zXk h v') else none
   | _, _, _ => none
  | .builtin .copy, [x, y], [t, _] => match evT sl x, evT sl y with
   | some v, some v' => zZ3 T h nx t v v'
   | _, _ => none
  | .builtin .clear, [x], [t] => match evT sl x, T t with
   | some (.bsl s k off n _), some ⟨.slice e, _, _, _, _⟩ => match T e, h.get k with
    | some j, some (.cells full cs) => bif Nat.beq s j.size && Nat.beq j.zero.length j.size && vB (j.zero.map .raw) && Nat.ble (off + n * s) cs.length then
      some (.raw (.tuple #[]), [(k, some (.cells full (wT cs off ((yT n j.zero).map .raw))))], nx) else none
    | _, _ => none
   | _, _ => none
  | _, _, _ => none
 | _ => none
section
variable {P : Program} {T : TT} {φ : Phi} {w0 : FW} {w : World} {a : Act} {sl : CS} {h : CH} {nx : Nat}
theorem HS.congr {h' : CH} (hs : HS P w0 φ h nx w) (e : ∀ k, h'.get k = h.get k) : HS P w0 φ h' nx w :=
 ⟨hs.below, ⟨fun k blk hk => hs.heap.here k blk (by rw [← e]; exact hk), fun k k' b1 b2 b hk hk' => hs.heap.inj k k' b1 b2 b (by rw [← e]; exact hk) (by rw [← e]; exact hk'), hs.heap.fresh⟩, hs.tabs, hs.tab, hs.num⟩
theorem HS.lt (hs : HS P w0 φ h nx w) {k : Nat} {blk : CB} (hk : h.get k = some blk) : k < nx := by
 obtain ⟨b, h1, _⟩ := hs.heap.here k blk hk
 rcases yMn k nx with h2 | h2
 ·exact h2
 ·rw [hs.heap.fresh k h2] at h1; cases h1
theorem HS.move (hs : HS P w0 φ h nx w) {k b : Nat} {blk : CB} (hk : h.get k = some blk) (hb : φ k = some b) : y0 φ w (wM φ nx b) w ∧ HS P w0 (wM φ nx b) ((h.put k none).put nx (some blk)) (nx + 1) w := by
 have hkn := hs.lt hk
 have E : y0 φ w (wM φ nx b) w := fun j c hj => ⟨by
  have hne : j ≠ nx := fun e => by subst e; rw [hs.heap.fresh j (yMj _)] at hj; cases hj
  rw [zK hne]; exact hj, szK.refl _ _⟩
 obtain ⟨b', g1, g2, g3⟩ := hs.heap.here k blk hk
 rw [hb] at g1
 cases g1
 have was : ∀ j bl, ((h.put k none).put nx (some blk)).get j = some bl → (j = nx ∧ bl = blk) ∨ (j ≠ nx ∧ j ≠ k ∧ h.get j = some bl) := fun j bl hj => by
  by_cases e : j = nx
  ·subst e; rw [Tr.get_same] at hj; cases hj; exact .inl ⟨rfl, rfl⟩
  ·rw [Tr.get_other _ _ e] at hj
   by_cases e2 : j = k
   ·subst e2; rw [Tr.get_same] at hj; cases hj
   ·rw [Tr.get_other _ _ e2] at hj; exact .inr ⟨e, e2, hj⟩
 refine ⟨E, ⟨hs.below, ⟨fun j bl hj => ?_, fun j j' b1 b2 c hj hj' e e' => ?_, fun j hj => by rw [zK oq]; exact hs.heap.fresh j oq⟩, hs.tabs, hs.tab, hs.numS _⟩⟩
 ·rcases was j bl hj with ⟨rfl, rfl⟩ | ⟨e1, e2, h3⟩
  ·exact ⟨b, z8 _ _ _, g2, g3.mono E rfl⟩
  ·obtain ⟨c, h4, h5, h6⟩ := hs.heap.here j bl h3
   exact ⟨c, (E j c h4).1, h5, h6.mono E rfl⟩
 ·rcases was j b1 hj with ⟨rfl, rfl⟩ | ⟨e1, e2, h3⟩ <;> rcases was j' b2 hj' with ⟨rfl, rfl⟩ | ⟨e3, e4, h4⟩
  ·rfl
  ·rw [z8] at e
   cases e
   rw [zK e3] at e'
   exact absurd (hs.heap.inj j' k b2 _ b h4 hk e' hb) e4
  ·rw [z8] at e'
   cases e'
   rw [zK e1] at e
   exact absurd (hs.heap.inj j k b1 _ b h3 hk e hb) e2
  ·rw [zK e1] at e
   rw [zK e3] at e'
   exact hs.heap.inj j j' b1 b2 c h3 h4 e e'
theorem zCe (hs : HS P w0 φ h nx w) {x : CV} {s n : Nat} {us : List CV} (he : zXk h x = some (s, n, us)) (hn : 0 < n) {v : Value} (hx : x.rel φ w v) (h0 : 0 < s) :
  ∃ p c vs, v = .slice (some p) n c ∧ vs.length = n * s ∧ CV.relL φ w us vs ∧ ∀ j u, vs[j]? = some u → w.cell? (p.add j) = some u := by
 unfold zXk at he
 split at he
 ·rename_i s' k off n' cap
  split at he
  ·rename_i cs h1
   cases hb : Nat.ble (off + n' * s') cs.length with
   | false => rw [hb] at he; cases he
   | true =>
    rw [hb] at he
    cases he
    have hb := yP8 hb
    obtain ⟨b, c, p, g1, rfl, g3, g4, g5, g6, g7⟩ := hx
    obtain ⟨b', vs, tail, E, k1, k2, k3⟩ := kK hs h1
    rw [g1] at k1
    cases k1
    have hl := CV.relL_length k3
    refine ⟨p, c, (vs.drop off).take (_ * _), rfl, by simp; omega, CV.relL_take _ (CV.relL_drop _ k3), fun j u hj => ?_⟩
    rw [g5 oq, add_lit]
    refine qX k2 ?_
    rw [yMg] at hj
    split at hj
    ·rw [yMf] at hj
     rw [yNt (yNd.1 hj).1]
     exact hj
    ·cases hj
  ·cases he
 ·cases he; omega
 ·cases he
def yM2 (P : Program) (w0 : FW) (φ : Phi) (w : World) (a : Act) (o : Oper) (x : CV) (h' : CH) (nx' : Nat) : Prop :=
 ∃ v φ' w', ((execOp a.eval o).run P w = .ok (.value v) w' ∨ ((execOp a.eval o).run P w = .ok .skip w' ∧ v = undef)) ∧ y0 φ w φ' w' ∧ HS P w0 φ' h' nx' w' ∧ x.rel φ' w' v
theorem vM (w : World) (o : Obj) : Below w.heap.size w (w.alloc o) := (Below.refl _ _).alloc (yMj _) _
theorem zAa (w : World) (o : Obj) : w.heap.size < (w.alloc o).heap.size := (yMi.1 (heap_alloc_new w o)).1
theorem zHq (hs : HS P w0 φ h nx w) {cs : List CV} {vs : List Value} (hr : CV.relL φ w cs vs) (E : TypeId) :
  ∃ φ', y0 φ w φ' (w.alloc (.cells vs.toArray E)) ∧ φ' nx = some w.heap.size ∧ HS P w0 φ' (h.put nx (some (.cells true cs))) (nx + 1) (w.alloc (.cells vs.toArray E)) :=
 hs.push (vM w _) (zAa w _) fun φ' e => ⟨vs, [], E, by rw [yO9]; exact heap_alloc_new w _, CV.relL_mono e _ _ hr, fun _ => rfl⟩
theorem zMh (w : World) (vs : List Value) (E : TypeId) : bsz (w.alloc (.cells vs.toArray E)) w.heap.size = vs.length := by
 rw [xA (heap_alloc_new w _)]; rfl
theorem zDn (hs : HS P w0 φ h nx w) {k b off : Nat} {full : Bool} {cs us : List CV} {news : List Value} (hk : h.get k = some (.cells full cs)) (hb : φ k = some b) (hl : off + us.length ≤ cs.length) (hr : CV.relL φ w us news) (h1 : ∀ u ∈ news, u.oneCell' = true) :
  ∃ w', (storeCells ⟨b, off, none⟩ news).run P w = .ok () w' ∧ y0 φ w φ w' ∧ HS P w0 φ (h.put k (some (.cells full (wT cs off us)))) nx w' := by
 obtain ⟨b', g1, g2, vs, tail, E, g3, g4, g5⟩ := hs.heap.here k _ hk
 rw [hb] at g1
 cases g1
 have l1 := CV.relL_length g4
 have l2 := CV.relL_length hr
 obtain ⟨w', e8, e9⟩ := kQ (P := P) (off := off) (us := news) g3 (by rw [yN1]; omega) h1
 have hp : wT (vs ++ tail) off news = wT vs off news ++ tail := by
  rw [zEd _ _ _ (by rw [yN1]; omega), zEd _ _ _ oq, yP6 oq, List.drop_append_of_le_length oq]
  simp
 rw [hp] at e9
 have hz : szK w w' b := .inr <| by
  rw [xA g3, xA e9.here]
  simp [kU (cs := vs) (n := off) (us := news) oq]
 obtain ⟨e1, e2⟩ := hs.stored hk hb ⟨e9.os, e9.tape, e9.output⟩ e9.size e9.other hz (blk' := .cells full (wT cs off us)) fun E' => ⟨wT vs off news, tail, E, e9.here, CV.relL_put (CV.relL_mono E' _ _ g4) (CV.relL_mono E' _ _ hr), g5⟩
 exact ⟨w', e8, e1, e2⟩
theorem zGa {z : List Value} (hz : vB (z.map .raw) = true) : ∀ (n : Nat), ∀ v ∈ yT n z, v.oneCell' = true
 | 0, v, h => by cases h
 | n + 1, v, h => by
  rw [yT, yO2] at h
  rcases h with h | h
  ·exact vJ (φ := fun _ => none) (w := default) hz (CV.relL_raws z) v h
  ·exact zGa hz n v h
end
end Go.Proofs.YtioaahmkebojiaaGreatDoor
