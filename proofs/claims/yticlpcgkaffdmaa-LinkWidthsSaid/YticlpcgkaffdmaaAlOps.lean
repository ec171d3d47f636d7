/- The abstract logic: operations that only compute and read. -/
import Derived.Test.YticlpcgkaffdmaaAl
import Derived.Laws.StructEq
namespace Go.Proofs.Yticlpcgkaffdmaa
set_option linter.unusedSectionVars false
set_option linter.unusedVariables false
set_option linter.unusedSimpArgs false
open Go.RowKit

inductive TK where
  | int (k : IntKind) | bool | str | slice (e : Nat) | struct (fs : List (Nat × Nat)) | array (n e : Nat) | ptr (e : Nat) | func | iface | map (k e : Nat) | other
def TK.agg : TK → Bool
  | .struct _ | .array _ _ => true
  | _ => false
def tkOf : TypeDesc → TK
  | .int k => .int k
  | .bool => .bool
  | .string => .str
  | .slice e => .slice e
  | .struct fs => .struct (fs.toList.map fun f => (f.offset, f.type))
  | .array n e => .array n e
  | .pointer e => .ptr e
  | .func _ _ _ => .func
  | .interface _ => .iface
  | .map k e => .map k e
  | _ => .other
/-- What is told of a type: its kind, its cells, its bytes, the cells of its zero value. -/
inductive CK where
  | int | bool | str
  deriving DecidableEq
/-- Which cells a type has that can be compared; none if it is another type. -/
def eqKs (P : Program) : Nat → TypeId → Option (List CK)
  | 0, _ => none
  | n + 1, t => match P.underlying t with
    | some (.int _) => some [.int]
    | some .bool => some [.bool]
    | some .string => some [.str]
    | some (.struct fs) => if P.stoodInHeld t then none else
      (fs.toList.foldl (fun acc f => match acc, eqKs P n f.type, P.info? f.type with
        | some ks, some k1, some i => if f.name ≠ "_" ∧ f.offset = ks.length ∧ i.size = k1.length then some (ks ++ k1) else none
        | _, _, _ => none) (some []))
    | some (.array len e) => match eqKs P n e, P.info? e with
      | some k1, some i => if i.size = k1.length then some (List.replicate len k1).flatten else none
      | _, _ => none
    | _ => none
structure TI where
  k : TK
  size : Nat
  bytes : Nat
  zero : List Value
  eq : List CK := []
abbrev TT := Nat → Option TI
structure TiOk (P : Program) (t : Nat) (i : TI) : Prop where
  und : (P.underlying t).map tkOf = some i.k
  info : (P.info? t).map (fun x => (x.zero.map (·.cells.toList), x.size, x.bytes)) = some (some i.zero, i.size, i.bytes)
  eq : (i.eq.isEmpty || (decide (eqKs P 30 t = some i.eq) && !P.eqGuardType P.depth t)) = true
def TOk (P : Program) (T : TT) : Prop := ∀ t i, T t = some i → TiOk P t i
section types
variable {P : Program} {t : Nat} {i : TI} {w : World}
theorem TiOk.size_run (h : TiOk P t i) (w : World) : (sizeOf t).run P w = .ok i.size w := by
  have h1 := h.info
  cases hi : P.info? t with
  | none => rw [hi] at h1; cases h1
  | some x =>
    rw [hi] at h1
    simp only [Option.map_some, Option.some.injEq, Prod.mk.injEq] at h1
    simp [sizeOf, typeInfo, hi, program, Sem.run, h1.2.1]
theorem TiOk.bytes_run (h : TiOk P t i) (w : World) : ∃ x, (typeInfo t).run P w = .ok x w ∧ x.size = i.size ∧ x.bytes = i.bytes ∧ P.info? t = some x := by
  have h1 := h.info
  cases hi : P.info? t with
  | none => rw [hi] at h1; cases h1
  | some x =>
    rw [hi] at h1
    simp only [Option.map_some, Option.some.injEq, Prod.mk.injEq] at h1
    exact ⟨x, by simp [typeInfo, hi, program, Sem.run], h1.2.1, h1.2.2, rfl⟩
theorem TiOk.zero_run (h : TiOk P t i) (w : World) : ∃ z, (zeroValue t).run P w = .ok z w ∧ z.cells.toList = i.zero := by
  have h1 := h.info
  cases hi : P.info? t with
  | none => rw [hi] at h1; cases h1
  | some x =>
    rw [hi] at h1
    simp only [Option.map_some, Option.some.injEq, Prod.mk.injEq] at h1
    cases hz : x.zero with
    | none => rw [hz] at h1; cases h1.1
    | some z =>
      rw [hz] at h1
      simp only [Option.map_some, Option.some.injEq] at h1
      exact ⟨z, by simp [zeroValue, typeInfo, hi, program, Sem.run, hz], h1.1⟩
theorem TiOk.und_some (h : TiOk P t i) : ∃ d, P.underlying t = some d ∧ tkOf d = i.k := by
  have := h.und
  cases hd : P.underlying t with
  | none => rw [hd] at this; cases this
  | some d => rw [hd] at this; exact ⟨d, rfl, by simpa using this⟩
theorem tkOf_slice {d : TypeDesc} {e : Nat} (h : tkOf d = .slice e) : d = .slice e := by cases d <;> simp [tkOf] at h; rw [h]
theorem tkOf_array {d : TypeDesc} {n e : Nat} (h : tkOf d = .array n e) : d = .array n e := by cases d <;> simp [tkOf] at h; rw [h.1, h.2]
theorem tkOf_int {d : TypeDesc} {k : IntKind} (h : tkOf d = .int k) : d = .int k := by cases d <;> simp [tkOf] at h; rw [h]
theorem tkOf_str {d : TypeDesc} (h : tkOf d = .str) : d = .string := by cases d <;> simp [tkOf] at h; rfl
theorem tkOf_bool {d : TypeDesc} (h : tkOf d = .bool) : d = .bool := by cases d <;> simp [tkOf] at h; rfl
theorem tkOf_struct {d : TypeDesc} {fs : List (Nat × Nat)} (h : tkOf d = .struct fs) : ∃ a, d = .struct a ∧ a.toList.map (fun f => (f.offset, f.type)) = fs := by
  cases d <;> simp [tkOf] at h
  rename_i a; exact ⟨a, rfl, h⟩
theorem TiOk.agg_run (h : TiOk P t i) (w : World) : (isAgg t).run P w = .ok i.k.agg w := by
  obtain ⟨d, h1, h2⟩ := h.und_some
  rw [← h2]
  cases d <;> simp [isAgg, underlying, program, Sem.run, h1, tkOf, TK.agg]
theorem TiOk.und_run (h : TiOk P t i) (w : World) : ∃ d, (underlying t).run P w = .ok d w ∧ tkOf d = i.k ∧ P.underlying t = some d := by
  obtain ⟨d, h1, h2⟩ := h.und_some
  exact ⟨d, by simp [underlying, program, Sem.run, h1], h2, h1⟩
end types

def nthA : List AV → Nat → AV
  | [], _ => .raw undef
  | x :: _, 0 => x
  | _ :: r, n + 1 => nthA r n
theorem nthA_get : ∀ {cs : List AV} {k : Nat}, k < cs.length → cs[k]? = some (nthA cs k)
  | x :: _, 0, _ => rfl
  | _ :: r, k + 1, h => by simp only [List.getElem?_cons_succ, nthA]; exact nthA_get (by simpa using h)
/-- The value of a type whose cells begin at an offset. -/
def cutA (agg : Bool) (sz : Nat) (cs : List AV) (off : Nat) : AV := bif agg then .agg ((cs.drop off).take sz) else nthA cs off

def inK : IntKind → Int → Prop
  | .i64, x => -9223372036854775808 ≤ x ∧ x ≤ 9223372036854775807
  | .i32, x => -2147483648 ≤ x ∧ x ≤ 2147483647
  | .u8, x => 0 ≤ x ∧ x ≤ 255
  | .u16, x => 0 ≤ x ∧ x ≤ 65535
  | .u32, x => 0 ≤ x ∧ x ≤ 4294967295
  | .u64, x => 0 ≤ x ∧ x ≤ 18446744073709551615
  | .i8, x => -128 ≤ x ∧ x ≤ 127
  | .i16, x => -32768 ≤ x ∧ x ≤ 32767
theorem inK_wrap {k : IntKind} {x : Int} (h : inK k x) : k.wrap x = x := by
  cases k <;> simp only [inK] at h
  · rw [show IntKind.i8.wrap x = (x + 128) % 256 - 128 from by simp only [IntKind.wrap, IntKind.bits, IntKind.signed]; simp; omega]
    omega
  · rw [show IntKind.i16.wrap x = (x + 32768) % 65536 - 32768 from by simp only [IntKind.wrap, IntKind.bits, IntKind.signed]; simp; omega]
    omega
  · rw [show IntKind.i32.wrap x = (x + 2147483648) % 4294967296 - 2147483648 from by simp only [IntKind.wrap, IntKind.bits, IntKind.signed]; simp; omega]
    omega
  · exact IntWalk.i64_in x h
  · rw [show IntKind.u8.wrap x = x % 256 from by simp only [IntKind.wrap, IntKind.bits, IntKind.signed]; simp; try omega]
    omega
  · rw [show IntKind.u16.wrap x = x % 65536 from by simp only [IntKind.wrap, IntKind.bits, IntKind.signed]; simp; try omega]
    omega
  · rw [show IntKind.u32.wrap x = x % 4294967296 from by simp only [IntKind.wrap, IntKind.bits, IntKind.signed]; simp; try omega]
    omega
  · rw [show IntKind.u64.wrap x = x % 18446744073709551616 from by simp only [IntKind.wrap, IntKind.bits, IntKind.signed]; simp; try omega]
    omega

def binA (op : BinOp) : AV → AV → Option (AV × Prop)
  | .raw (.int k a), .raw (.int k' b) =>
    match op with
    | .add => some (match k with | .i64 | .i32 => .raw (.int k (a + b)) | _ => .raw (.int k (k.wrap (a + b))), k = k' ∧ (match k with | .i64 | .i32 => inK k (a + b) | _ => True))
    | .sub => some (match k with | .i64 | .i32 => .raw (.int k (a - b)) | _ => .raw (.int k (k.wrap (a - b))), k = k' ∧ (match k with | .i64 | .i32 => inK k (a - b) | _ => True))
    | .mul => some (match k with | .i64 | .i32 => .raw (.int k (a * b)) | _ => .raw (.int k (k.wrap (a * b))), k = k' ∧ (match k with | .i64 | .i32 => inK k (a * b) | _ => True))
    | .quo => some (.raw (.int k (a.tdiv b)), k = k' ∧ b ≠ 0 ∧ k.wrap (a.tdiv b) = a.tdiv b)
    | .rem => some (.raw (.int k (a.tmod b)), k = k' ∧ b ≠ 0)
    | .eql => some (.raw (.bool (decide (a = b))), k = k')
    | .neq => some (.raw (.bool (!decide (a = b))), k = k')
    | .lss => some (.raw (.bool (decide (a < b))), k = k')
    | .leq => some (.raw (.bool (decide (a ≤ b))), k = k')
    | .gtr => some (.raw (.bool (decide (b < a))), k = k')
    | .geq => some (.raw (.bool (decide (b ≤ a))), k = k')
    | _ => none
  | .raw (.string a), .raw (.string b) =>
    match op with
    | .eql => some (.raw (.bool (a.toList == b.toList)), True)
    | .neq => some (.raw (.bool (!(a.toList == b.toList))), True)
    | _ => none
  | _, _ => none
/-- Whether cells are equal. -/
def eqC : List CK → List AV → List AV → Option (Bool × Prop)
  | [], [], [] => some (true, True)
  | .int :: ks, .raw (.int k a) :: xs, .raw (.int k' b) :: ys => match eqC ks xs ys with
    | some (c, p) => some (decide (a = b) && c, k = k' ∧ p)
    | none => none
  | .bool :: ks, .raw (.bool a) :: xs, .raw (.bool b) :: ys => match eqC ks xs ys with
    | some (c, p) => some (decide (a = b) && c, p)
    | none => none
  | .str :: ks, .raw (.string a) :: xs, .raw (.string b) :: ys => match eqC ks xs ys with
    | some (c, p) => some (a.toList == b.toList && c, p)
    | none => none
  | _, _, _ => none
/-- The same on values. -/
def eqW : List CK → List Value → List Value → Option Bool
  | [], [], [] => some true
  | .int :: ks, .int k a :: xs, .int k' b :: ys => if k = k' then (eqW ks xs ys).map (decide (a = b) && ·) else none
  | .bool :: ks, .bool a :: xs, .bool b :: ys => (eqW ks xs ys).map (decide (a = b) && ·)
  | .str :: ks, .string a :: xs, .string b :: ys => (eqW ks xs ys).map (a.toList == b.toList && ·)
  | _, _, _ => none
def negIf (op : BinOp) (c : Bool) : Option AV :=
  match op with
  | .eql => some (.raw (.bool c))
  | .neq => some (.raw (.bool (!c)))
  | _ => none
/-- '==' and '!=' of truth values, structs and arrays. -/
def eqA2 (op : BinOp) (T : TT) (t : Nat) : AV → AV → Option (AV × Prop)
  | .raw (.bool a), .raw (.bool b) => match T t with
    | some ⟨.bool, _, _, _, _⟩ => match negIf op (decide (a = b)) with
      | some r => some (r, True)
      | none => none
    | _ => none
  | .agg xs, .agg ys => match T t with
    | some i => bif i.eq.isEmpty then none else match eqC i.eq xs ys with
      | some (c, p) => match negIf op c with
        | some r => some (r, p ∧ i.k.agg = true)
        | none => none
      | none => none
    | none => none
  | _, _ => none
def unA (op : UnOp) : AV → Option (AV × Prop)
  | .raw (.bool a) => match op with
    | .not => some (.raw (.bool (!a)), True)
    | _ => none
  | .raw (.int k a) => match op with
    | .neg => some (.raw (.int k (-a)), k.wrap (-a) = -a)
    | _ => none
  | _ => none
def minA : List AV → Option (AV × Prop)
  | [.raw (.int k a), .raw (.int _ b)] => some (.raw (.int k (min a b)), True)
  | _ => none
def maxA : List AV → Option (AV × Prop)
  | [.raw (.int k a), .raw (.int _ b)] => some (.raw (.int k (max a b)), True)
  | _ => none
/-- A slice, as a list: its cells an element, its length, its elements. -/
def ASt.asL (st : ASt) : AV → Option (Nat × Nat × (Nat → List AV) × Prop)
  | .lst sz n el => some (sz, n, el, True)
  | .row k n => match st.rw[k]? with
    | some r => some (r.sz, r.n, r.el, n = r.n)
    | none => none
  | _ => none
def ASt.evL (st : ASt) : List Operand → Option (List Bool × List AV)
  | [] => some ([], [])
  | x :: r => match st.ev x, st.evL r with
    | some (c, v), some (cs, vs) => some (c :: cs, v :: vs)
    | _, _ => none
def lenA (T : TT) (st : ASt) (t : Nat) (x : AV) : Option (AV × Prop) :=
  match x with
  | .raw (.string s) => match T t with
    | some ⟨.str, _, _, _, _⟩ => some (.raw (.int .i64 s.size), True)
    | _ => none
  | .raw (.slice none 0 0) => match T t with
    | some ⟨.slice _, _, _, _, _⟩ => some (.raw (.int .i64 0), True)
    | _ => none
  | x => match st.asL x, T t with
    | some (_, n, _, p), some ⟨.slice _, _, _, _, _⟩ => some (.raw (.int .i64 n), p)
    | _, _ => none

def pickB (c a b : Bool) : Bool := bif c then a else b
theorem pickB_and (c a : Bool) : pickB c a false = (c && a) := by cases c <;> rfl
theorem pickB_or (c b : Bool) : pickB c true b = (c || b) := by cases c <;> rfl
theorem pickB_t (a b : Bool) : pickB true a b = a := rfl
theorem pickB_f (a b : Bool) : pickB false a b = b := rfl

def overL {α : Type} : List α → List α → List α
  | [], cs => cs
  | _ :: _, [] => []
  | u :: us, _ :: cs => u :: overL us cs
/-- A list in which some elements, from a place on, are others. -/
def putL {α : Type} : List α → Nat → List α → List α
  | cs, 0, us => overL us cs
  | [], _ + 1, _ => []
  | c :: cs, n + 1, us => c :: putL cs n us

/-- The cells of a value. -/
def cellsA : AV → List AV
  | .agg cs => cs
  | x => [x]
def AV.one (st : ASt) : AV → Prop
  | .raw v => v.oneCell' = true
  | .lst _ _ _ => True
  | .elt _ _ => True
  | .box _ _ => True
  | .fn _ _ _ => True
  | .row k n => match st.rw[k]? with
    | some r => n = r.n
    | none => False
  | _ => False
def AV.oneL (st : ASt) : List AV → Prop
  | [] => True
  | x :: xs => x.one st ∧ AV.oneL st xs

/-- Where the fields of a struct lie. -/
def placesA (T : TT) : List (Nat × Nat) → Option (List (Nat × Nat))
  | [] => some []
  | f :: r => match T f.2, placesA T r with
    | some j, some ps => some ((f.1, j.size) :: ps)
    | _, _ => none
def fillA (st : ASt) (place : Nat → Option (Nat × Nat)) : List (Nat × Operand) → List AV → Option (List Bool × List AV × Prop)
  | [], cs => some ([], cs, True)
  | q :: r, cs => match place q.1, st.ev q.2 with
    | some (off, sz), some (g, v) => match fillA st place r (putL cs off (cellsA v)) with
      | some (gs, cs', p) => some (g :: gs, cs', (AV.oneL st (cellsA v) ∧ (cellsA v).length = sz ∧ off + sz ≤ cs.length) ∧ p)
      | none => none
    | _, _ => none

def byteA (s : ByteArray) (i : Nat) : Int := (s.data.toList.getD i 0).toNat
def wrapA (k : IntKind) (n : Int) : Int := match k with | .i64 | .i32 => n | _ => k.wrap n
def wrapP (k : IntKind) (n : Int) : Prop := match k with | .i64 | .i32 => inK k n | _ => True
/-- An operation that only computes and reads: which conditions its operands have, its value, what is to be shown. -/
def opA (T : TT) (st : ASt) (o : Op) : Option (List Bool × AV × Prop) :=
  match o with
  | .move x => match st.ev x with
    | some (g, v) => some ([g], v, True)
    | none => none
  | .assign x => match st.ev x with
    | some (g, v) => some ([g], v, True)
    | none => none
  | .pick c a b => match st.ev c, st.ev a, st.ev b with
    | some (gc, .raw (.bool vc)), some (ga, .raw (.bool va)), some (gb, .raw (.bool vb)) => some ([gc], .raw (.bool (pickB vc va vb)), (vc = true → ga = true) ∧ (vc = false → gb = true))
    | _, _, _ => none
  | .load t p => match st.ev p, T t with
    | some (g, .elt cs off), some i => some ([g], cutA i.k.agg i.size cs off, 0 < i.size ∧ off + i.size ≤ cs.length)
    | some (g, .box b off), some i => match st.bx[b]? with
      | some cs => some ([g], cutA i.k.agg i.size cs off, 0 < i.size ∧ off + i.size ≤ cs.length)
      | none => none
    | _, _ => none
  | .fieldAddr s p f => match st.ev p, T s with
    | some (g, .elt cs off), some ⟨.struct fs, _, _, _, _⟩ => match fs[f]? with
      | some (fo, ft) => match T ft with
        | some j => some ([g], .elt cs (off + fo), 0 < j.size)
        | none => none
      | none => none
    | some (g, .box b off), some ⟨.struct fs, _, _, _, _⟩ => match fs[f]? with
      | some (fo, ft) => match T ft with
        | some j => some ([g], .box b (off + fo), 0 < j.size)
        | none => none
      | none => none
    | _, _ => none
  | .field s x f => match st.ev x, T s with
    | some (g, .agg cs), some ⟨.struct fs, _, _, _, _⟩ => match fs[f]? with
      | some (fo, ft) => match T ft with
        | some j => some ([g], cutA j.k.agg j.size cs fo, 0 < j.size ∧ fo + j.size ≤ cs.length)
        | none => none
      | none => none
    | _, _ => none
  | .indexAddr t x ix => match T t with
    | some ⟨.slice e, _, _, _, _⟩ => match st.ev x, st.ev ix with
      | some (g, v), some (g', .raw (.int _ i)) => match st.asL v, T e with
        | some (sz, n, el, p), some j => some ([g, g'], .elt (el i.toNat) 0, 0 ≤ i ∧ i < n ∧ j.size = sz ∧ p)
        | _, _ => none
      | _, _ => none
    | some ⟨.array n e, _, _, _, _⟩ => match st.ev x, st.ev ix, T e with
      | some (g, .elt cs off), some (g', .raw (.int _ i)), some j => some ([g, g'], .elt cs (off + i.toNat * j.size), 0 ≤ i ∧ i < n)
      | some (g, .box b off), some (g', .raw (.int _ i)), some j => some ([g, g'], .box b (off + i.toNat * j.size), 0 ≤ i ∧ i < n)
      | _, _, _ => none
    | _ => none
  | .index t x ix => match T t with
    | some ⟨.array n e, _, _, _, _⟩ => match st.ev x, st.ev ix, T e with
      | some (g, .agg cs), some (g', .raw (.int _ i)), some j => some ([g, g'], cutA j.k.agg j.size cs (i.toNat * j.size), (0 ≤ i ∧ i < n) ∧ 0 < j.size ∧ i.toNat * j.size + j.size ≤ cs.length)
      | _, _, _ => none
    | some ⟨.str, _, _, _, _⟩ => match st.ev x, st.ev ix with
      | some (g, .raw (.string s)), some (g', .raw (.int _ i)) => some ([g, g'], .raw (.int .u8 (byteA s i.toNat)), 0 ≤ i ∧ i < s.size)
      | _, _ => none
    | _ => none
  | .convert s t x => match T s, T t with
    | some _, some ⟨.int k, _, _, _, _⟩ => match st.ev x with
      | some (g, .raw (.int _ n)) => some ([g], .raw (.int k (wrapA k n)), wrapP k n)
      | _ => none
    | _, _ => none
  | .binOp op t x y _ => match st.ev x, st.ev y with
    | some (g, v), some (g', v') => match binA op v v' with
      | some (r, p) => some ([g, g'], r, p)
      | none => match eqA2 op T t v v' with
        | some (r, p) => some ([g, g'], r, p)
        | none => none
    | _, _ => none
  | .unOp op _ x => match st.ev x with
    | some (g, v) => match unA op v with
      | some (r, p) => some ([g], r, p)
      | none => none
    | none => none
  | .extract x i => match st.ev x with
    | some (g, .tup vs) => some ([g], nthA vs i, i < vs.length)
    | _ => none
  | .call c => match c.callee with
    | .builtin .len => match c.args.toList, c.argTypes.toList with
      | [x], [t] => match st.ev x with
        | some (g, v) => match lenA T st t v with
          | some (r, p) => some ([g], r, p)
          | none => none
        | none => none
      | _, _ => none
    | .builtin .min => match st.evL c.args.toList with
      | some (cs, vs) => match minA vs with
        | some (r, p) => some (cs, r, p)
        | none => none
      | none => none
    | .builtin .max => match st.evL c.args.toList with
      | some (cs, vs) => match maxA vs with
        | some (r, p) => some (cs, r, p)
        | none => none
      | none => none
    | _ => none
  | .makeFunc f first cap => match st.evL first.toList, st.evL cap.toList with
    | some (c1, v1), some (c2, v2) => some (c1 ++ c2, .fn f v1 v2, True)
    | _, _ => none
  | .build t parts => match T t with
    | some ⟨.struct fs, _, _, z, _⟩ => match placesA T fs with
      | some ps => match fillA st (fun i => ps[i]?) parts.toList (z.map .raw) with
        | some (gs, cs, p) => some (gs, .agg cs, p)
        | none => none
      | none => none
    | some ⟨.array _ e, _, _, z, _⟩ => match T e with
      | some j => match fillA st (fun i => some (i * j.size, j.size)) parts.toList (z.map .raw) with
        | some (gs, cs, p) => some (gs, .agg cs, p)
        | none => none
      | none => none
    | _ => none
  | _ => none

/- The equations of these functions, made once. -/
section made
variable (T : TT) (st : ASt)
theorem opA_move (x : Operand) : opA T st (.move x) = (match st.ev x with | some (g, v) => some ([g], v, True) | none => none) := by simp only [opA]
theorem binA_add (a b : Int) : binA .add (.raw (.int .i64 a)) (.raw (.int .i64 b)) = some (.raw (.int .i64 (a + b)), .i64 = IntKind.i64 ∧ inK .i64 (a + b)) := by simp only [binA]
theorem unA_not (a : Bool) : unA .not (.raw (.bool a)) = some (.raw (.bool (!a)), True) := by simp only [unA]
theorem lenA_made (t : Nat) (s : ByteArray) (h : T t = none) : lenA T st t (.raw (.string s)) = none := by simp only [lenA, h]
theorem minA_made (a b : Int) : minA [.raw (.int .i64 a), .raw (.int .i64 b)] = some (.raw (.int .i64 (min a b)), True) := by simp only [minA]
theorem maxA_made (a b : Int) : maxA [.raw (.int .i64 a), .raw (.int .i64 b)] = some (.raw (.int .i64 (max a b)), True) := by simp only [maxA]
theorem asL_made (sz n : Nat) (el : Nat → List AV) : st.asL (.lst sz n el) = some (sz, n, el, True) := by simp only [ASt.asL]
theorem nthA_made (x y : AV) : nthA [x, y] 1 = y := by simp only [nthA]
theorem inK_made (x : Int) : inK .i64 x = (-9223372036854775808 ≤ x ∧ x ≤ 9223372036854775807) := by simp only [inK]
end made
end Go.Proofs.Yticlpcgkaffdmaa
