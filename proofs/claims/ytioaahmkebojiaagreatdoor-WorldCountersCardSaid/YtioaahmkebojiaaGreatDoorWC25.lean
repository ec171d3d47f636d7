import Derived.Test.YtioaahmkebojiaaGreatDoorWC01
import Derived.Test.YtioaahmkebojiaaGreatDoorWC24
namespace Go.Proofs.YtioaahmkebojiaaGreatDoor
set_option linter.unusedVariables false
set_option linter.unusedSimpArgs false
set_option maxHeartbeats 4000000
set_option maxRecDepth 100000
set_option linter.unusedSectionVars false
open Go.RowKit
variable [SpT]

def ltI : Int → Int → Bool
 | .ofNat m, .ofNat n => Nat.blt m n
 | .negSucc _, .ofNat _ => true
 | .ofNat _, .negSucc _ => false
 | .negSucc m, .negSucc n => Nat.blt n m
theorem zAf (a b : Int) : ltI a b = decide (a < b) := by
 have key : ∀ m n : Nat, Nat.blt m n = decide (m < n) := fun m n => by rw [yN7, yNz, yPk]
 rcases a with m | m <;> rcases b with n | n <;> simp only [ltI, key]
 ·rw [yN7, yPk, yPk]; simp
 ·rw [eq_comm, yOo]; simp; omega
 ·rw [eq_comm, yPk]; simp; omega
 ·rw [yN7, yPk, yPk]; omega
def leI (a b : Int) : Bool := !(ltI b a)
theorem yK (a b : Int) : leI a b = decide (a ≤ b) := by
 rw [leI, zAf, yN7]; simp
def eqI : Int → Int → Bool
 | .ofNat m, .ofNat n => Nat.beq m n
 | .negSucc m, .negSucc n => Nat.beq m n
 | _, _ => false
theorem wA (a b : Int) : eqI a b = decide (a = b) := by
 have key : ∀ m n : Nat, Nat.beq m n = decide (m = n) := fun m n => by rw [yN7, Nat.beq_eq, yPk]
 rcases a with m | m <;> rcases b with n | n <;> simp only [eqI, key]
 ·rw [yN7, yPk, yPk]; simp; omega
 ·rw [eq_comm, yOo]; simp
 ·rw [eq_comm, yOo]; simp
 ·rw [yN7, yPk, yPk]; simp
def zLu : IntKind → Int → Bool
 | .i64, x => leI (-9223372036854775808) x && leI x 9223372036854775807
 | .i32, x => leI (-2147483648) x && leI x 2147483647
 | .u8, x => leI 0 x && leI x 255
 | .u16, x => leI 0 x && leI x 65535
 | .u32, x => leI 0 x && leI x 4294967295
 | .u64, x => leI 0 x && leI x 18446744073709551615
 | .i8, x => leI (-128) x && leI x 127
 | .i16, x => leI (-32768) x && leI x 32767
theorem zCr {k : IntKind} {x : Int} (h : zLu k x = true) : inK k x := by
 cases k <;> simp only [zLu, yK, yNj, yNk] at h <;> exact h
def arI (k : IntKind) (x : Int) : Option Value := bif zLu k x then some (.int k x) else match k with
 | .i64 | .i32 => none
 | _ => some (.int k (k.wrap x))
theorem zTo {k : IntKind} {x : Int} {r : Value} (h : arI k x = some r) : ((k = .i64 ∨ k = .i32) ∧ r = .int k x ∧ inK k x) ∨ (k ≠ .i64 ∧ k ≠ .i32 ∧ r = .int k (k.wrap x)) := by
 unfold arI at h
 cases hb : zLu k x with
 | true =>
  rw [hb] at h
  simp only [yMq, yMc] at h
  subst h
  have h1 := zCr hb
  have h2 := yV h1
  rw [h2]
  cases k <;> first | exact .inl ⟨.inl rfl, rfl, h1⟩ | exact .inl ⟨.inr rfl, rfl, h1⟩ | exact .inr ⟨by decide, by decide, rfl⟩
 | false =>
  rw [hb] at h
  cases k <;> simp only [yN5, reduceCtorEq, yMc] at h <;> subst h <;> exact .inr ⟨by decide, by decide, rfl⟩
def zG6 (op : BinOp) (k : IntKind) (a b : Int) : Option Value :=
 match op with
 | .add => arI k (a + b)
 | .sub => arI k (a - b)
 | .mul => arI k (a * b)
 | .quo => bif ltI 0 b && zLu k a then some (.int k (a.tdiv b)) else none
 | .rem => bif eqI b 0 then none else some (.int k (a.tmod b))
 | .eql => some (.bool (eqI a b))
 | .neq => some (.bool (!eqI a b))
 | .lss => some (.bool (ltI a b))
 | .leq => some (.bool (leI a b))
 | .gtr => some (.bool (ltI b a))
 | .geq => some (.bool (leI b a))
 | .and => some (.int k (zF9 .and k a b))
 | .or => some (.int k (zF9 .or k a b))
 | .xor => some (.int k (zF9 .xor k a b))
 | .andNot => some (.int k (zF9 .andNot k a b))
 | .shl => bif leI 0 b then some (.int k (k.wrap (a * 2 ^ (min b.toNat k.bits)))) else none
 | .shr => bif leI 0 b then some (.int k (a.fdiv (2 ^ (min b.toNat k.bits)))) else none
def jX : BinOp → Bool
 | .shl | .shr => true
 | _ => false
theorem zI8 {op : BinOp} {k k' : IntKind} {a b : Int} {r : Value} (h : zG6 op k a b = some r) (hk : jX op = true ∨ k = k') : ∃ p, yCb op (.raw (.int k a)) (.raw (.int k' b)) = some (.raw r, p) ∧ p := by
 cases op <;> simp only [zG6] at h <;> simp only [jX, yO0, false_or, true_or] at hk
 case add =>
  rcases zTo h with ⟨h1 | h1, h2, h3⟩ | ⟨h1, h2, h3⟩
  ·subst h1; subst hk; subst h2; exact ⟨_, rfl, rfl, h3⟩
  ·subst h1; subst hk; subst h2; exact ⟨_, rfl, rfl, h3⟩
  ·subst hk; subst h3; cases k <;> first | exact absurd rfl h1 | exact absurd rfl h2 | exact ⟨_, rfl, rfl, trivial⟩
 case sub =>
  rcases zTo h with ⟨h1 | h1, h2, h3⟩ | ⟨h1, h2, h3⟩
  ·subst h1; subst hk; subst h2; exact ⟨_, rfl, rfl, h3⟩
  ·subst h1; subst hk; subst h2; exact ⟨_, rfl, rfl, h3⟩
  ·subst hk; subst h3; cases k <;> first | exact absurd rfl h1 | exact absurd rfl h2 | exact ⟨_, rfl, rfl, trivial⟩
 case mul =>
  rcases zTo h with ⟨h1 | h1, h2, h3⟩ | ⟨h1, h2, h3⟩
  ·subst h1; subst hk; subst h2; exact ⟨_, rfl, rfl, h3⟩
  ·subst h1; subst hk; subst h2; exact ⟨_, rfl, rfl, h3⟩
  ·subst hk; subst h3; cases k <;> first | exact absurd rfl h1 | exact absurd rfl h2 | exact ⟨_, rfl, rfl, trivial⟩
 case quo =>
  cases hb : (ltI 0 b && zLu k a) with
  | false => rw [hb] at h; cases h
  | true =>
   rw [hb] at h
   cases h
   rw [yNj, zAf, yNk] at hb
   exact ⟨_, rfl, hk, hb.1, zCr hb.2⟩
 case rem =>
  cases hb : eqI b 0 with
  | true => rw [hb] at h; cases h
  | false =>
   rw [hb] at h
   cases h
   rw [wA, yOo] at hb
   exact ⟨_, rfl, hk, hb⟩
 case shl =>
  cases hb : leI 0 b with
  | false => rw [hb] at h; cases h
  | true =>
   rw [hb] at h
   cases h
   rw [yK, yNk] at hb
   exact ⟨_, rfl, hb⟩
 case shr =>
  cases hb : leI 0 b with
  | false => rw [hb] at h; cases h
  | true =>
   rw [hb] at h
   cases h
   rw [yK, yNk] at hb
   exact ⟨_, rfl, hb⟩
 all_goals
  cases h
  try simp only [wA, zAf, yK]
  exact ⟨_, rfl, hk⟩
def kEq (k k' : IntKind) : Bool := decide (k = k')
def zLa : List CV → Option (List Value)
 | [] => some []
 | .raw v :: r => match zLa r with
  | some vs => some (v :: vs)
  | none => none
 | _ => none
theorem zDk {φ : Phi} {w : World} : ∀ {xs : List CV} {vs us : List Value}, zLa xs = some vs → CV.relL φ w xs us → us = vs
 | [], _, _, h, hr => by cases h; exact hr
 | x :: xs, vs, us, h, hr => by
  cases x with
  | raw v =>
   simp only [zLa] at h
   split at h
   ·rename_i vs' h1
    cases h
    obtain ⟨u, r, rfl, h2, h3⟩ := hr
    rw [show u = v from h2, zDk h1 h3]
   ·cases h
  | _ => simp [zLa] at h
theorem zVs : ∀ {ks : List CK} {vs us : List Value} {b : Bool}, eqW ks vs us = some b → ∃ p, eqC ks (vs.map .raw) (us.map .raw) = some (b, p) ∧ p := by
 intro ks
 induction ks with
 | nil => intro vs us b h; cases vs <;> cases us <;> simp only [eqW, reduceCtorEq] at h; cases h; exact ⟨_, rfl, trivial⟩
 | cons k ks ih =>
  intro vs us b h
  unfold eqW at h
  split at h
  ·cases ‹_ :: _ = []›
  ·rename_i e; cases e
   split at h
   ·rename_i hk
    obtain ⟨c, hc, hb⟩ := yMx.1 h
    obtain ⟨p, h1, h2⟩ := ih hc
    subst hb
    exact ⟨_ ∧ p, by simp only [yNm, eqC, h1], hk, h2⟩
   ·cases h
  ·rename_i e; cases e
   obtain ⟨c, hc, hb⟩ := yMx.1 h
   obtain ⟨p, h1, h2⟩ := ih hc
   subst hb
   exact ⟨_, by simp only [yNm, eqC, h1], h2⟩
  ·rename_i e; cases e
   obtain ⟨c, hc, hb⟩ := yMx.1 h
   obtain ⟨p, h1, h2⟩ := ih hc
   subst hb
   exact ⟨_, by simp only [yNm, eqC, h1], h2⟩
  ·cases h
def zLj (op : BinOp) (c : Bool) : Option CV :=
 match op with
 | .eql => some (.raw (.bool c))
 | .neq => some (.raw (.bool (!c)))
 | _ => none
theorem zS1 {op : BinOp} {c : Bool} {r : CV} (h : zLj op c = some r) : ∃ b, r = .raw (.bool b) ∧ jS op c = some (.raw (.bool b)) := by
 cases op <;> simp only [zLj, reduceCtorEq] at h <;> cases h <;> exact ⟨_, rfl, rfl⟩
def zZw : List UInt8 → List UInt8 → Bool
 | [], [] => true
 | x :: xs, y :: ys => Nat.beq x.toNat y.toNat && zZw xs ys
 | _, _ => false
theorem zM8 : ∀ (xs ys : List UInt8), zZw xs ys = (xs == ys)
 | [], [] => rfl
 | [], _ :: _ => rfl
 | _ :: _, [] => rfl
 | x :: xs, y :: ys => by
  have h1 : Nat.beq x.toNat y.toNat = (x == y) := by
   rw [yN7, Nat.beq_eq, beq_iff_eq]
   exact UInt8.toNat_inj
  simp only [zZw, zM8 xs ys, h1]
  rfl
def zUr (op : BinOp) (lo hi c : Int) : Option Bool := match op with
 | .lss => bif ltI hi c then some true else bif leI c lo then some false else none
 | .leq => bif leI hi c then some true else bif ltI c lo then some false else none
 | .gtr => bif ltI c lo then some true else bif leI hi c then some false else none
 | .geq => bif leI c lo then some true else bif ltI hi c then some false else none
 | .eql => bif ltI hi c || ltI c lo then some false else none
 | .neq => bif ltI hi c || ltI c lo then some true else none
 | _ => none
def yKy (op : BinOp) (lo hi c : Int) : Option Bool := match op with
 | .lss => zUr .gtr lo hi c
 | .leq => zUr .geq lo hi c
 | .gtr => zUr .lss lo hi c
 | .geq => zUr .leq lo hi c
 | .eql => zUr .eql lo hi c
 | .neq => zUr .neq lo hi c
 | _ => none
theorem zR6 {op : BinOp} {lo hi c n : Int} {b : Bool} (h : zUr op lo hi c = some b) (h1 : lo ≤ n) (h2 : n ≤ hi) (k : IntKind) : zG6 op k n c = some (.bool b) := by
 unfold zUr at h
 simp only [zAf, yK] at h
 cases op <;> simp only [reduceCtorEq] at h <;> simp only [zG6, zAf, yK, wA]
 case eql =>
  cases hb : (decide (hi < c) || decide (c < lo)) with
  | false => rw [hb] at h; cases h
  | true =>
   rw [hb] at h; cases h
   rw [yOn, yPk, yPk] at hb
   rw [yPl oq]
 case neq =>
  cases hb : (decide (hi < c) || decide (c < lo)) with
  | false => rw [hb] at h; cases h
  | true =>
   rw [hb] at h; cases h
   rw [yOn, yPk, yPk] at hb
   rw [yPl oq]; rfl
 all_goals
  revert h
  rw [cond_eq_ite, cond_eq_ite]
  split
  ·intro h; cases h; rename_i e; rw [yPk] at e; congr 2; simp only [yPk]; omega
  ·split
   ·intro h; cases h; rename_i e; rw [yPk] at e; congr 2; simp only [yOo]; omega
   ·intro h; cases h
theorem zXr {op : BinOp} {lo hi c n : Int} {b : Bool} (h : yKy op lo hi c = some b) (h1 : lo ≤ n) (h2 : n ≤ hi) (k : IntKind) : zG6 op k c n = some (.bool b) := by
 unfold yKy at h
 cases op <;> simp only [reduceCtorEq] at h <;> have := zR6 h h1 h2 k <;> simp only [zG6] at this ⊢ <;> first | exact this | (rw [← this]; simp only [wA]; congr 2; rw [decide_eq_decide]; exact eq_comm) | (rw [← this]; simp only [wA]; congr 3; rw [decide_eq_decide]; exact eq_comm)
def zU6 (T : TT) (op : BinOp) (t : Nat) : CV → CV → Option CV
 | .raw (.int k a), .raw (.int k' b) => bif jX op || kEq k k' then (zG6 op k a b).map .raw else none
 | .raw (.bool a), .raw (.bool b) => match T t with
  | some ⟨.bool, _, _, _, _⟩ => zLj op (decide (a = b))
  | _ => none
 | .agg xs, .agg ys => match zLa xs, zLa ys, T t with
  | some vs, some us, some i => bif i.eq.isEmpty || !i.k.agg then none else match eqW i.eq vs us with
   | some c => zLj op c
   | none => none
  | _, _, _ => none
 | .box _ _, .raw (.pointer none) => match T t with
  | some ⟨.ptr _, _, _, _, _⟩ => zLj op false
  | _ => none
 | .raw (.pointer none), .raw (.pointer none) => match T t with
  | some ⟨.ptr _, _, _, _, _⟩ => zLj op true
  | _ => none
 | .bsl _ _ _ _ _, .raw (.slice none 0 0) => match T t with
  | some ⟨.slice _, _, _, _, _⟩ => zLj op false
  | _ => none
 | .raw (.slice none 0 0), .raw (.slice none 0 0) => match T t with
  | some ⟨.slice _, _, _, _, _⟩ => zLj op true
  | _ => none
 | .raw (.string a), .raw (.string b) => zLj op (zZw a.data.toList b.data.toList)
 | .sym (.nz b), .raw (.int k c) => bif kEq .u8 k && eqI c 0 then zLj op (!b) else none
 | .sym (.rng k lo hi), .raw (.int k' c) => bif kEq k k' then (zUr op lo hi c).map fun b => .raw (.bool b) else none
 | .raw (.int k' c), .sym (.rng k lo hi) => bif kEq k k' then (yKy op lo hi c).map fun b => .raw (.bool b) else none
 | _, _ => none
abbrev G0 : Gh := ⟨fun _ _ => False, [], []⟩
theorem zCl (w : World) : ∀ vs : List Value, AV.relL G0 w (vs.map .raw) vs
 | [] => rfl
 | v :: vs => ⟨v, vs, rfl, rfl, zCl w vs⟩
section
variable {P : Program} {T : TT} {φ : Phi} {w : World}
theorem zPw (hT : TOk P T) {op : BinOp} {t : TypeId} {x y r : CV} (h : zU6 T op t x y = some r) {u v : Value} (hx : x.rel φ w u) (hy : y.rel φ w v) (ox oy : Operand) :
  ∃ z, (do eqGuard op t ox oy u v; binOp op t u v : Sem Value).run P w = .ok z w ∧ r.rel φ w z := by
 have fin : ∀ {c : Bool}, zLj op c = some r → (∀ r', jS op c = some r' → ∃ z, (do eqGuard op t ox oy u v; binOp op t u v : Sem Value).run P w = .ok z w ∧ r'.rel G0 w z) → ∃ z, (do eqGuard op t ox oy u v; binOp op t u v : Sem Value).run P w = .ok z w ∧ r.rel φ w z := fun hn hk => by
  obtain ⟨b, rfl, h2⟩ := zS1 hn
  obtain ⟨z, h3, h4⟩ := hk _ h2
  exact ⟨z, h3, h4⟩
 unfold zU6 at h
 split at h
 ·rename_i k a k' b
  rw [show u = _ from hx, show v = _ from hy]
  cases hb : (jX op || kEq k k') with
  | false => rw [hb] at h; cases h
  | true =>
   rw [hb] at h
   simp only [yMq, yMx] at h
   obtain ⟨q, h1, rfl⟩ := h
   have hk : jX op = true ∨ k = k' := by
    rw [yOn] at hb
    exact hb.imp id fun h => yPn h
   obtain ⟨p, h2, hp⟩ := zI8 h1 hk
   obtain ⟨z, h3, h4⟩ := kM (P := P) (G := G0) (w := w) h2 hp rfl rfl t ox oy
   exact ⟨z, h3, h4⟩
 ·rename_i a b
  rw [show u = _ from hx, show v = _ from hy] at fin ⊢
  split at h
  ·rename_i h1
   refine fin h fun r' hr => ?_
   exact zCt (G := G0) (v := .raw (.bool a)) (v' := .raw (.bool b)) hT (p := True) (by simp only [zZx, h1, hr]) trivial rfl rfl ox oy
  ·cases h
 ·rename_i xs ys
  split at h
  ·rename_i vs us i h1 h2 h3
   obtain ⟨vs', rfl, hx⟩ := hx
   obtain ⟨us', rfl, hy⟩ := hy
   obtain rfl := zDk h1 hx
   obtain rfl := zDk h2 hy
   cases hb : (i.eq.isEmpty || !i.k.agg) with
   | true => rw [hb] at h; cases h
   | false =>
    rw [hb] at h
    simp only [yN5] at h
    rw [yOq, yOm] at hb
    split at h
    ·rename_i c h4
     obtain ⟨p, h5, h6⟩ := zVs h4
     refine fin h fun r' hr => ?_
     exact zCt (G := G0) (v := .agg (_ : List AV)) (v' := .agg _) hT (p := p ∧ i.k.agg = true) (by simp only [zZx, h3, hb.1, yN5, h5, hr]) ⟨h6, hb.2⟩ ⟨_, rfl, zCl w _⟩ ⟨_, rfl, zCl w _⟩ ox oy
    ·cases h
  ·cases h
 ·split at h
  ·rename_i h1
   obtain ⟨b, _, rfl⟩ := hx
   rw [show v = _ from hy] at fin ⊢
   exact fin h fun r' hr => zJx hT h1 hr _ rfl ox oy
  ·cases h
 ·split at h
  ·rename_i h1
   rw [show u = _ from hx, show v = _ from hy] at fin ⊢
   exact fin h fun r' hr => zJx hT h1 hr _ rfl ox oy
  ·cases h
 ·split at h
  ·rename_i h1
   obtain ⟨b, c, p, _, rfl, _⟩ := hx
   rw [show v = _ from hy] at fin ⊢
   exact fin h fun r' hr => zO2 hT h1 hr _ _ _ rfl ox oy
  ·cases h
 ·split at h
  ·rename_i h1
   rw [show u = _ from hx, show v = _ from hy] at fin ⊢
   exact fin h fun r' hr => zO2 hT h1 hr _ _ _ rfl ox oy
  ·cases h
 ·rename_i x y
  rw [show u = _ from hx, show v = _ from hy]
  have hl : ∀ z : ByteArray, z.toList = z.data.toList := ByteArray.toList_eq
  have hq : zZw x.data.toList y.data.toList = (x.toList == y.toList) := by rw [zM8, hl, hl]
  rw [hq] at h
  cases op <;> simp only [zLj, reduceCtorEq] at h <;> cases h
  ·exact ⟨_, by simp only [Sem.run_bind, zB1, Result.andThen_ok, binOp, Op.stringOp]; rfl, rfl⟩
  ·exact ⟨_, by simp only [Sem.run_bind, zB1, Result.andThen_ok, binOp, Op.stringOp]; rfl, rfl⟩
 ·rename_i b k c
  cases hb : (kEq .u8 k && eqI c 0) with
  | false => rw [hb] at h; cases h
  | true =>
   rw [hb] at h
   rw [yNj, wA, yNk] at hb
   obtain ⟨hk, rfl⟩ := hb
   obtain rfl : IntKind.u8 = k := yPn hk
   obtain ⟨n, rfl, hn⟩ := hx
   rw [show v = _ from hy]
   have hd : (!b) = decide (n = 0) := by
    rw [yN7, yNl, yPk, ← yNb]
    constructor
    ·intro h; exact Classical.byContradiction fun hne => h (hn.2 hne)
    ·intro h h'; exact hn.1 h' h
   rw [hd] at h
   have : zG6 op .u8 n 0 = some (match op with | .eql => Value.bool (decide (n = 0)) | _ => Value.bool (!decide (n = 0))) := by
    cases op <;> simp only [zLj, yMq, reduceCtorEq] at h <;> simp only [zG6, wA]
   obtain ⟨p, h1, h2⟩ := zI8 this (k' := .u8) (.inr rfl)
   obtain ⟨z, h3, h4⟩ := kM (P := P) (G := G0) (w := w) h1 h2 (x := .int .u8 n) (y := .int .u8 0) rfl rfl t ox oy
   refine ⟨z, h3, ?_⟩
   rw [show z = _ from h4]
   cases op <;> simp only [zLj, yMq, reduceCtorEq] at h <;> cases h <;> rfl
 ·rename_i k lo hi k' c
  cases hb : kEq k k' with
  | false => rw [hb] at h; cases h
  | true =>
   rw [hb] at h
   obtain ⟨b, hb1, rfl⟩ := yMx.1 h
   obtain rfl : k = k' := yPn hb
   obtain ⟨n, rfl, h1, h2⟩ := hx
   rw [show v = _ from hy]
   obtain ⟨p, h3, h4⟩ := zI8 (zR6 hb1 h1 h2 k) (k' := k) (.inr rfl)
   obtain ⟨z, h5, h6⟩ := kM (P := P) (G := G0) (w := w) h3 h4 (x := .int k n) (y := .int k c) rfl rfl t ox oy
   exact ⟨z, h5, h6⟩
 ·rename_i k' c k lo hi
  cases hb : kEq k k' with
  | false => rw [hb] at h; cases h
  | true =>
   rw [hb] at h
   obtain ⟨b, hb1, rfl⟩ := yMx.1 h
   obtain rfl : k = k' := yPn hb
   obtain ⟨n, rfl, h1, h2⟩ := hy
   rw [show u = _ from hx]
   obtain ⟨p, h3, h4⟩ := zI8 (zXr hb1 h1 h2 k) (k' := k) (.inr rfl)
   obtain ⟨z, h5, h6⟩ := kM (P := P) (G := G0) (w := w) h3 h4 (x := .int k c) (y := .int k n) rfl rfl t ox oy
   exact ⟨z, h5, h6⟩
 ·cases h
end
def zWt (sl : CS) : Option Operand → Option (Option Int)
 | none => some none
 | some x => match evT sl x with
  | some (.raw (.int _ i)) => some (some i)
  | _ => none
theorem wO {φ : Phi} {w : World} {a : Act} {sl : CS} {lo : Option Operand} {l : Option Int} (hev : ∀ y, lo = some y → zCz φ w a sl y) (h : zWt sl lo = some l) : (lo = none ∧ l = none) ∨ ∃ k i, l = some i ∧ lo.map a.eval = some (.int k i) := by
 cases lo with
 | none => cases h; exact .inl ⟨rfl, rfl⟩
 | some x =>
  simp only [zWt] at h
  split at h
  ·rename_i k i he
   cases h
   exact .inr ⟨k, i, rfl, by rw [yMw, show a.eval x = _ from hev x rfl _ he]⟩
  ·cases h
def w8 (h : CH) (k : Nat) : Option (List CV) := match h.get k with
 | some (.cells _ cs) => some cs
 | _ => none
def zQ1 (sl : CS) : List Operand → Option (List CV)
 | [] => some []
 | x :: r => match evT sl x, zQ1 sl r with
  | some v, some vs => some (v :: vs)
  | _, _ => none
theorem kI {φ : Phi} {w : World} {a : Act} {sl : CS} : ∀ {xs : List Operand} {vs : List CV}, (∀ x ∈ xs, zCz φ w a sl x) → zQ1 sl xs = some vs → CV.relL φ w vs (xs.map a.eval)
 | [], _, _, h => by cases h; rfl
 | x :: xs, _, hev, h => by
  simp only [zQ1] at h
  split at h
  ·rename_i v vs h1 h2
   cases h
   exact ⟨_, _, rfl, hev x sq _ h1, kI (fun y hy => hev y (by simp [hy])) h2⟩
  ·cases h
def zFz (sl : CS) (place : Nat → Option (Nat × Nat)) : List (Nat × Operand) → List CV → Option (List CV)
 | [], cs => some cs
 | q :: r, cs => match place q.1, evT sl q.2 with
  | some (off, sz), some v => bif vB (y5 v) && Nat.beq (y5 v).length sz && Nat.ble (off + sz) cs.length then zFz sl place r (wT cs off (y5 v)) else none
  | _, _ => none
theorem jB {φ : Phi} {w : World} {a : Act} {sl : CS} {place : Nat → Option (Nat × Nat)} : ∀ (parts : List (Nat × Operand)) (cs cs' : List CV) (vs : List Value), (∀ q ∈ parts, zCz φ w a sl q.2) → zFz sl place parts cs = some cs' → CV.relL φ w cs vs →
  ∃ us : List Value, Instr.fill place vs.toArray (parts.map fun q => (q.1, a.eval q.2)) = some us.toArray ∧ CV.relL φ w cs' us
 | [], cs, cs', vs, _, h, hr => by
  cases h
  exact ⟨vs, rfl, hr⟩
 | q :: r, cs, cs', vs, hev, h, hr => by
  simp only [zFz] at h
  split at h
  ·rename_i off sz v h1 h2
   cases hb : (vB (y5 v) && Nat.beq (y5 v).length sz && Nat.ble (off + sz) cs.length) with
   | false => rw [hb] at h; cases h
   | true =>
    rw [hb] at h
    simp only [yMq] at h
    rw [yNj, yNj] at hb
    have hb1 := yMs hb.1.2
    have hb2 := yP8 hb.2
    have e2 := zCx hb.1.1 (hev q sq _ h2)
    have hl := CV.relL_length e2
    have hl2 := CV.relL_length hr
    have hsz : (a.eval q.2).cells.size = sz := by rw [← hb1, ← hl]; simp
    obtain ⟨us, e3, e4⟩ := jB r _ _ _ (fun q hq => hev q (by simp [hq])) h (CV.relL_put (n := off) hr e2)
    refine ⟨us, ?_, e4⟩
    simp only [yNm, Instr.fill, h1]
    rw [if_neg (by simp [hsz]; omega)]
    have := zNt (off := off) (a.eval q.2).cells.toList vs (by simp only [yNn]; omega)
    rw [show (a.eval q.2).cells.toList.toArray = (a.eval q.2).cells from by simp] at this
    rw [this]; exact e3
  ·cases h
def zZ7 (x : Int) : Option Nat → Bool
 | some c => leI x c
 | none => false
def zPr (d : IntKind) (a : Int) : List (Value × Value) → Nat → Option (Option (Nat × Value))
 | [], _ => some none
 | (.int k b, v) :: r, i => bif kEq d k then bif eqI a b then some (some (i, v)) else zPr d a r (i + 1) else none
 | _, _ => none
def zPq (a b : Int) : List (Value × Value) → Nat → Option (Option (Nat × Value))
 | [], _ => some none
 | (.agg ⟨[.int .i64 x, .int .i64 y]⟩, v) :: r, i => bif eqI a x && eqI b y then some (some (i, v)) else zPq a b r (i + 1)
 | _, _ => none
def zEq (T : TT) (kt : Nat) : Bool := match T kt with
 | some ⟨.array 2 e, _, _, _, [.int, .int]⟩ => match T e with
  | some ⟨.int .i64, 1, _, _, _⟩ => true
  | _ => false
 | _ => false
def zFy (T : TT) (kt : Nat) (key : Value) (l : List (Value × Value)) : Option (Option (Nat × Value)) := match key with
 | .int d a => match T kt with
  | some ⟨.int _, _, _, _, _⟩ => zPr d a l 0
  | _ => none
 | .agg ⟨[.int .i64 a, .int .i64 b]⟩ => bif zEq T kt then zPq a b l 0 else none
 | _ => none
def zZj : CV → Option Value
 | .raw v => some v
 | .agg xs => match zLa xs with
  | some vs => some (.agg vs.toArray)
  | none => none
 | _ => none
def zSa (h : CH) (k : Nat) : Option (List (Value × Value)) := match h.get k with
 | some (.map es) => some es
 | _ => none
def yKs : Nat := 9
def u8L : List CV → Bool
 | [] => true
 | .raw (.int .u8 _) :: r => u8L r
 | _ => false
def opE (T : TT) (h : CH) (sl : CS) (o : Op) : Option CV :=
 match o with
 | .move x => evT sl x
 | .assign x => evT sl x
 | .nilCheck x => match evT sl x with
  | some (.box k off) => some (.box k off)
  | _ => none
 | .pick c x y => match evT sl c with
  | some (.raw (.bool true)) => match evT sl x with
   | some (.raw (.bool b)) => some (.raw (.bool b))
   | _ => none
  | some (.raw (.bool false)) => match evT sl y with
   | some (.raw (.bool b)) => some (.raw (.bool b))
   | _ => none
  | _ => none
 | .load t p => match evT sl p, T t with
  | some (.box k off), some i => match w8 h k with
   | some cs => bif Nat.blt 0 i.size && Nat.ble (off + i.size) cs.length then some (zAc i.k.agg i.size cs off) else none
   | none => none
  | some (.gp g off), some i => bif (Nat.beq g zKz && Nat.blt off 20) && (Nat.beq i.size 1 && !i.k.agg) then some (.raw (.int .u64 (10 ^ off : Nat))) else bif Nat.beq g spN && (Nat.beq i.size 1 && !i.k.agg) then (SpT.sp off).map fun b => .sym (.nz b) else none
  | _, _ => none
 | .makeInterface t x => match evT sl x, T t with
  | some v, some i => bif i.k.isIface then none else some (.ifc t v)
  | _, _ => none
 | .fieldAddr s p f => match evT sl p, T s with
  | some (.box k off), some ⟨.struct fs, _, _, _, _⟩ => match fs[f]? with
   | some (fo, ft) => match T ft with
    | some j => bif Nat.blt 0 j.size then some (.box k (off + fo)) else none
    | none => none
   | none => none
  | _, _ => none
 | .field s x f => match evT sl x, T s with
  | some (.agg cs), some ⟨.struct fs, _, _, _, _⟩ => match fs[f]? with
   | some (fo, ft) => match T ft with
    | some j => bif Nat.blt 0 j.size && Nat.ble (fo + j.size) cs.length then some (zAc j.k.agg j.size cs fo) else none
    | none => none
   | none => none
  | _, _ => none
 | .indexAddr t x ix => match T t with
  | some ⟨.slice e, _, _, _, _⟩ => match evT sl x, evT sl ix, T e with
   | some (.bsl s k off n _), some (.raw (.int _ i)), some j => bif leI 0 i && ltI i n && Nat.beq j.size s then some (.box k (off + i.toNat * s)) else none
   | _, _, _ => none
  | some ⟨.array n e, _, _, _, _⟩ => match evT sl x, evT sl ix, T e with
   | some (.box k off), some (.raw (.int _ i)), some j => bif leI 0 i && ltI i n then some (.box k (off + i.toNat * j.size)) else none
   | some (.gp g off), some (.raw (.int _ i)), some j => bif leI 0 i && ltI i n then some (.gp g (off + i.toNat * j.size)) else none
   | _, _, _ => none
  | _ => none
 | .index t x ix => match T t with
  | some ⟨.array n e, _, _, _, _⟩ => match evT sl x, evT sl ix, T e with
   | some (.agg cs), some (.raw (.int _ i)), some j => bif (leI 0 i && ltI i n) && (Nat.blt 0 j.size && Nat.ble (i.toNat * j.size + j.size) cs.length) then some (zAc j.k.agg j.size cs (i.toNat * j.size)) else none
   | _, _, _ => none
  | some ⟨.str, _, _, _, _⟩ => match evT sl x, evT sl ix with
   | some (.raw (.string s)), some (.raw (.int _ i)) => bif leI 0 i && ltI i s.size then some (.raw (.int .u8 (zK7 s i.toNat))) else none
   | _, _ => none
  | _ => none
 | .convert s t x => match T s, T t with
  | some _, some ⟨.int k, _, _, _, _⟩ => match evT sl x with
   | some (.raw (.int _ n)) => some (.raw (.int k (k.wrap n)))
   | _ => none
  | some ⟨.slice e, _, _, _, _⟩, some ⟨.str, _, _, _, _⟩ => bif Nat.beq t yKs then match T e, evT sl x with
    | some ⟨.int .u8, _, _, _, _⟩, some (.bsl 1 k off n _) => match w8 h k with
     | some cs => bif Nat.ble (off + n) cs.length && u8L ((cs.drop off).take n) then some (.sym .top) else none
     | none => none
    | some ⟨.int .u8, _, _, _, _⟩, some (.row k _) => match h.get k with
     | some .rowb => some (.sym .top)
     | _ => none
    | _, _ => none
   else none
  | _, _ => none
 | .slice t x lo hi none => match T t with
  | some ⟨.slice e, _, _, _, _⟩ => match evT sl x, T e, zWt sl lo, zWt sl hi with
   | some (.bsl s k off n cap), some j, some l, some hb => bif (leI 0 (loI l) && leI (loI l) (hiI n hb)) && (leI (hiI n hb) n || zZ7 (hiI n hb) cap) && Nat.beq j.size s then some (.bsl s k (off + (loI l).toNat * s) (zFj n l hb) (cap.map (· - (loI l).toNat))) else none
   | some (.raw (.slice none 0 0)), some _, some l, some hb => bif eqI (loI l) 0 && eqI (hiI 0 hb) 0 then some (.raw (.slice none 0 0)) else none
   | _, _, _, _ => none
  | some ⟨.array n e, _, _, _, _⟩ => match evT sl x, T e, zWt sl lo, zWt sl hi with
   | some (.box k off), some j, some l, some hb => match w8 h k with
    | some cs => bif (leI 0 (loI l) && leI (loI l) (hiI n hb)) && (leI (hiI n hb) n && Nat.ble n maxLen) && Nat.ble (off + n * j.size) cs.length then some (.bsl j.size k (off + (loI l).toNat * j.size) (zFj n l hb) (some (n - (loI l).toNat))) else none
    | none => none
   | _, _, _, _ => none
  | some ⟨.str, _, _, _, _⟩ => match evT sl x, zWt sl lo, zWt sl hi with
   | some (.raw (.string s)), some l, some hb => bif leI 0 (loI l) && leI (loI l) (hiI s.size hb) && leI (hiI s.size hb) s.size then some (.raw (.string (s.extract (loI l).toNat (hiI s.size hb).toNat))) else none
   | _, _, _ => none
  | _ => none
 | .slice t x none (some hi) (some mx) => match T t, evT sl x, evT sl hi, evT sl mx with
  | some ⟨.slice e, _, _, _, _⟩, some (.bsl s k off n cap), some (.raw (.int _ hb)), some (.raw (.int _ m)) => match T e with
   | some j => bif (leI 0 hb && leI hb n && eqI m hb) && Nat.beq j.size s then some (.bsl s k off hb.toNat (some hb.toNat)) else none
   | none => none
  | some ⟨.slice e, _, _, _, _⟩, some (.raw (.slice none 0 0)), some (.raw (.int _ hb)), some (.raw (.int _ m)) => match T e with
   | some _ => bif eqI hb 0 && eqI m 0 then some (.raw (.slice none 0 0)) else none
   | none => none
  | _, _, _, _ => none
 | .lookup t m x ok => match evT sl m, evT sl x, T t with
  | some (.mp k), some y, some ⟨.map kt et, _, _, _, _⟩ => match zSa h k, zZj y, zU1 et with
   | some es, some kv, some z => match zFy T kt kv es with
    | some res => some (bif ok then .tup [zW2 ((res.map (·.2)).getD z), .raw (.bool res.isSome)] else zW2 ((res.map (·.2)).getD z))
    | none => none
   | some es, some kv, none => match zFy T kt kv es with
    | some (some r) => some (bif ok then .tup [zW2 r.2, .raw (.bool true)] else zW2 r.2)
    | _ => none
   | _, _, _ => none
  | _, _, _ => none
 | .binOp op t x y _ => match evT sl x, evT sl y with
  | some (.raw .nilIface), some (.raw .nilIface) => match T t, y with
   | some ⟨.iface, _, _, _, _⟩, .const _ => zLj op true
   | _, _ => none
  | some v, some v' => zU6 T op t v v'
  | _, _ => none
 | .unOp op _ x => match evT sl x with
  | some (.raw (.bool a)) => match op with
   | .not => some (.raw (.bool (!a)))
   | _ => none
  | some (.raw (.int k a)) => match op with
   | .neg => bif zLu k (-a) then some (.raw (.int k (-a))) else none
   | _ => none
  | _ => none
 | .extract x i => match evT sl x with
  | some (.tup vs) => vs[i]?
  | _ => none
 | .makeFunc f first cap => match zQ1 sl first.toList, zQ1 sl cap.toList with
  | some v1, some v2 => some (.fn f v1 v2)
  | _, _ => none
 | .build t parts => match T t with
  | some ⟨.struct fs, _, _, z, _⟩ => match jQ T fs with
   | some ps => match zFz sl (fun i => ps[i]?) parts.toList (z.map .raw) with
    | some cs => some (.agg cs)
    | none => none
   | none => none
  | some ⟨.array _ e, _, _, z, _⟩ => match T e with
   | some j => match zFz sl (fun i => some (i * j.size, j.size)) parts.toList (z.map .raw) with
    | some cs => some (.agg cs)
    | none => none
   | none => none
  | _ => none
 | .call c => match c.callee, c.args.toList, c.argTypes.toList with
  | .builtin .len, [x], [t] => match evT sl x, T t with
   | some (.bsl _ _ _ n _), some ⟨.slice _, _, _, _, _⟩ => some (.raw (.int .i64 n))
   | some (.raw (.slice none 0 0)), some ⟨.slice _, _, _, _, _⟩ => some (.raw (.int .i64 0))
   | some (.raw (.string s)), some ⟨.str, _, _, _, _⟩ => some (.raw (.int .i64 s.size))
   | some (.row _ bnd), some ⟨.slice _, _, _, _, _⟩ => some (.sym (.rng .i64 0 bnd))
   | _, _ => none
  | .builtin .cap, [x], [t] => match evT sl x, T t with
   | some (.bsl _ _ _ _ (some c)), some ⟨.slice _, _, _, _, _⟩ => some (.raw (.int .i64 c))
   | some (.raw (.slice none 0 0)), some ⟨.slice _, _, _, _, _⟩ => some (.raw (.int .i64 0))
   | _, _ => none
  | .builtin .min, [x, y], _ => match evT sl x, evT sl y with
   | some (.raw (.int k a)), some (.raw (.int _ b)) => some (.raw (.int k (bif leI a b then a else b)))
   | _, _ => none
  | .builtin .max, [x, y], _ => match evT sl x, evT sl y with
   | some (.raw (.int k a)), some (.raw (.int _ b)) => some (.raw (.int k (bif leI a b then b else a)))
   | _, _ => none
  | _, _, _ => none
 | _ => none
end Go.Proofs.YtioaahmkebojiaaGreatDoor
