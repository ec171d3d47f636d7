import Derived.Test.YtioaahmkebojiaaGreatDoorWC01
import Derived.Test.YtioaahmkebojiaaGreatDoorWC32
namespace Go.Proofs.YtioaahmkebojiaaGreatDoor
set_option linter.unusedVariables false
set_option linter.unusedSimpArgs false
set_option maxHeartbeats 4000000
set_option maxRecDepth 100000
set_option linter.unusedSectionVars false
open Go.RowKit
variable [SpT]
structure Rec where
  st : ES
  ent : Bool × CV
  eff : Bool
  flt : Option (Nat × CB)
mutual
/-- Values without numbers. -/
def CV.plain : CV → Bool
  | .raw _ => true
  | .agg cs => CV.plainL cs
  | .tup cs => CV.plainL cs
  | .sym _ => true
  | .ifc _ x => x.plain
  | _ => false
def CV.plainL : List CV → Bool
  | [] => true
  | x :: xs => x.plain && CV.plainL xs
end
mutual
theorem CV.plain_rel {φ φ' : Phi} {w w' : World} : ∀ (x : CV) (v : Value), x.plain = true → x.rel φ w v → x.rel φ' w' v
  | .raw _, _, _, h => h
  | .agg cs, _, hp, ⟨vs, e, h⟩ => ⟨vs, e, CV.plainL_rel cs vs hp h⟩
  | .tup cs, _, hp, ⟨vs, e, h⟩ => ⟨vs, e, CV.plainL_rel cs vs hp h⟩
  | .box _ _, _, hp, _ => by cases hp
  | .bsl _ _ _ _ _, _, hp, _ => by cases hp
  | .fn _ _ _, _, hp, _ => by cases hp
  | .mp _, _, hp, _ => by cases hp
  | .yld _, _, hp, _ => by cases hp
  | .gp _ _, _, hp, _ => by cases hp
  | .sym _, _, _, h => h
  | .ifc _ x, _, hp, ⟨u, e, h⟩ => ⟨u, e, CV.plain_rel x u hp h⟩
  | .row _ _, _, hp, _ => by cases hp
theorem CV.plainL_rel {φ φ' : Phi} {w w' : World} : ∀ (xs : List CV) (vs : List Value), CV.plainL xs = true → CV.relL φ w xs vs → CV.relL φ' w' xs vs
  | [], _, _, h => h
  | x :: xs, _, hp, ⟨v, r, e, h1, h2⟩ => by
    simp only [CV.plainL, yNj] at hp
    exact ⟨v, r, e, CV.plain_rel x v hp.1 h1, CV.plainL_rel xs r hp.2 h2⟩
end
def zXu (r : Nat) : CV → Bool
  | .box k _ => Nat.beq k r
  | .bsl _ k _ _ _ => Nat.beq k r
  | _ => false
def zLg (sl : CS) (y : Operand) : Bool := match evT sl y with
  | some x => x.plain
  | none => true
def yFw (T : TT) (r : Nat) (sl : CS) (o : Op) : Option (CV × CB) := bif yW o || !(o.operands.toList.all (zLg sl)) then none else match zAv T .e r sl o with
  | some (x, [(k, some (.cells full cs))], n) => bif Nat.beq k r && Nat.beq n (r + 1) && zXu r x && CV.plainL cs then some (x, .cells full cs) else none
  | _ => none
def zPk (o : Oper) : Bool := o.guard.isNone && match o.op with
  | .alloc _ => true
  | .buildSlice _ _ _ => true
  | _ => false
def zBg (b : Bool) : List Oper → Nat → List (Oper × Option Nat)
  | [], _ => []
  | o :: r, n => bif b && zPk o then (o, some n) :: zBg b r (n + 1) else (o, none) :: zBg b r n
def zQ2 (b : Bool) : List Oper → Nat → Nat
  | [], n => n
  | o :: r, n => bif b && zPk o then xL (n + 1) (zQ2 b r) else zQ2 b r n
theorem zEj (b : Bool) : ∀ (l : List Oper) (n : Nat), (zBg b l n).map (·.1) = l
  | [], _ => rfl
  | o :: r, n => by
    unfold zBg
    cases b && zPk o <;> simp [zEj b r]
theorem zHz (b : Bool) : ∀ (l : List Oper) (n : Nat), n ≤ zQ2 b l n
  | [], _ => yMj _
  | o :: r, n => by
    unfold zQ2
    cases b && zPk o
    · exact zHz b r n
    · rw [yMq, zZ]; exact yMk (Nat.le_succ n) (zHz b r (n + 1))
theorem jT (b : Bool) : ∀ (l : List Oper) (n : Nat) (i : Nat) (o : Oper) (r : Nat), (zBg b l n)[i]? = some (o, some r) → n ≤ r ∧ r < zQ2 b l n
  | [], _, _, _, _, h => by cases h
  | o' :: l, n, i, o, r, h => by
    unfold zBg at h
    unfold zQ2
    cases hb : b && zPk o' with
    | false =>
      rw [hb] at h
      simp only [yN5] at h ⊢
      cases i with
      | zero => cases h
      | succ i => exact jT b l n i o r h
    | true =>
      rw [hb] at h
      simp only [yMq, zZ] at h ⊢
      have := zHz b l (n + 1)
      cases i with
      | zero => cases h; omega
      | succ i => have := jT b l (n + 1) i o r h; omega
theorem zEi (b : Bool) : ∀ (l : List Oper) (n : Nat) (i j : Nat) (o o' : Oper) (r : Nat), (zBg b l n)[i]? = some (o, some r) → (zBg b l n)[j]? = some (o', some r) → i = j
  | [], _, _, _, _, _, _, h, _ => by cases h
  | o1 :: l, n, i, j, o, o', r, h, h' => by
    unfold zBg at h h'
    cases hb : b && zPk o1 with
    | false =>
      rw [hb] at h h'
      simp only [yN5] at h h'
      cases i with
      | zero => cases h
      | succ i =>
        cases j with
        | zero => cases h'
        | succ j => exact congrArg (· + 1) (zEi b l n i j o o' r h h')
    | true =>
      rw [hb] at h h'
      simp only [yMq] at h h'
      cases i with
      | zero =>
        cases h
        cases j with
        | zero => rfl
        | succ j => have := jT b l (n + 1) j o' n h'; omega
      | succ i =>
        cases j with
        | zero => cases h'; have := jT b l (n + 1) i o n h; omega
        | succ j => exact congrArg (· + 1) (zEi b l (n + 1) i j o o' r h h')
def kZ : Op → Bool
  | .load _ _ => true
  | .slice _ _ _ _ _ => true
  | .lookup _ _ _ _ => true
  | .convert _ t _ => Nat.beq t yKs
  | _ => false
theorem zUw {T : TT} {h h' : CH} {sl : CS} {o : Op} (hl : kZ o = false) : opE T h sl o = opE T h' sl o := by
  cases o with
  | slice t x lo hi mx => cases hl
  | load t p => cases hl
  | lookup t m x ok => cases hl
  | convert s t x =>
    simp only [kZ] at hl
    simp only [opE, hl, yN5]
  | _ => rfl
def zU4 {γ : Type} (call : z6) (T : TT) (ops : Array Oper) (n : Nat) : List (Oper × Option Nat) → ES → (List Rec → ES → Option γ) → Option γ
  | [], s, k => k [] s
  | (o, m) :: r, s, k => bif zB3 n o.dst then match qK ops s.sl o with
      | some true => match m with
        | some m => match yFw T m s.sl o.op with
          | some (x, blk) => apK s.h [(m, some blk)] fun h' => zKi o.dst (true, x) s.sl fun sl => zU4 call T ops n r ⟨sl, h', s.nx, s.ds⟩ fun R s' => k (⟨s, (true, x), false, some (m, blk)⟩ :: R) s'
          | none => none
        | none => bif yW o.op then match zI5 call s.h s.nx s.sl o.op with
            | some (x, h', nx') => zKi o.dst (true, x) s.sl fun sl => zU4 call T ops n r ⟨sl, h', nx', s.ds⟩ fun R s' => k (⟨s, (true, x), true, none⟩ :: R) s'
            | none => none
          else match opE T s.h s.sl o.op with
            | some x => x.force fun x => zKi o.dst (true, x) s.sl fun sl => zU4 call T ops n r ⟨sl, s.h, s.nx, s.ds⟩ fun R s' => k (⟨s, (true, x), false, none⟩ :: R) s'
            | none => match zAv T s.h s.nx s.sl o.op with
              | some (x, es, nx') => x.force fun x => apK s.h es fun h' => xL nx' fun nx' => zKi o.dst (true, x) s.sl fun sl => zU4 call T ops n r ⟨sl, h', nx', s.ds⟩ fun R s' => k (⟨s, (true, x), true, none⟩ :: R) s'
              | none => none
      | some false => bif m.isNone then zKi o.dst (false, .raw undef) s.sl fun sl => zU4 call T ops n r ⟨sl, s.h, s.nx, s.ds⟩ fun R s' => k (⟨s, (false, .raw undef), false, none⟩ :: R) s' else none
      | none => none
    else none
def zZf (call : z6) (T : TT) (ops : Array Oper) (n : Nat) (e : Oper × Option Nat) (q : Rec) (s : ES) : Prop :=
  zB3 n e.1.dst = true ∧ s.sl = zWr e.1.dst q.ent q.st.sl ∧ s.ds = q.st.ds ∧
  ((qK ops q.st.sl e.1 = some false ∧ q.ent = (false, .raw undef) ∧ q.eff = false ∧ q.flt = none ∧ s.h = q.st.h ∧ s.nx = q.st.nx) ∨
   (∃ x, qK ops q.st.sl e.1 = some true ∧ opE T q.st.h q.st.sl e.1.op = some x ∧ yW e.1.op = false ∧ q.ent = (true, x) ∧ q.eff = false ∧ q.flt = none ∧ s.h = q.st.h ∧ s.nx = q.st.nx) ∨
   (∃ x, qK ops q.st.sl e.1 = some true ∧ zYw call T q.st.h q.st.nx q.st.sl e.1.op = some (x, s.h, s.nx) ∧ q.ent = (true, x) ∧ q.eff = true ∧ q.flt = none) ∨
   (∃ x m blk, qK ops q.st.sl e.1 = some true ∧ e.2 = some m ∧ yFw T m q.st.sl e.1.op = some (x, blk) ∧ q.ent = (true, x) ∧ q.eff = false ∧ q.flt = some (m, blk) ∧ s.h = q.st.h.put m (some blk) ∧ s.nx = q.st.nx))
def stD (R : List Rec) (s' : ES) (i : Nat) : ES := match R[i]? with
  | some q => q.st
  | none => s'
def zMn (call : z6) (T : TT) (ops : Array Oper) (n : Nat) (l : List (Oper × Option Nat)) (s : ES) (R : List Rec) (s' : ES) : Prop :=
  R.length = l.length ∧ stD R s' 0 = s ∧ ∀ (i : Nat) e q, l[i]? = some e → R[i]? = some q → zZf call T ops n e q (stD R s' (i + 1))
theorem zMn.cons {call : z6} {T : TT} {ops : Array Oper} {n : Nat} {e : Oper × Option Nat} {l : List (Oper × Option Nat)} {q : Rec} {s1 : ES} {R : List Rec} {s' : ES} (h : zMn call T ops n l s1 R s') (hs : zZf call T ops n e q s1) : zMn call T ops n (e :: l) q.st (q :: R) s' := by
  obtain ⟨h1, h2, h3⟩ := h
  refine ⟨by simp [h1], rfl, fun i o' q' ho hq => ?_⟩
  cases i with
  | zero =>
    cases ho; cases hq
    have : stD (q :: R) s' (0 + 1) = stD R s' 0 := rfl
    rw [this, h2]; exact hs
  | succ i => exact h3 i o' q' ho hq
theorem zAm {γ : Type} {call : z6} {T : TT} {ops : Array Oper} {n : Nat} : ∀ (l : List (Oper × Option Nat)) (s : ES) (k : List Rec → ES → Option γ) (r : γ), zU4 call T ops n l s k = some r → ∃ R s', zMn call T ops n l s R s' ∧ k R s' = some r
  | [], s, k, r, h => ⟨[], s, ⟨rfl, rfl, fun i o q ho => by cases ho⟩, h⟩
  | (o, m) :: l, s, k, r, h => by
    unfold zU4 at h
    cases hd : zB3 n o.dst with
    | false => rw [hd] at h; cases h
    | true =>
      rw [hd] at h
      simp only [yMq] at h
      split at h
      · rename_i hg
        cases m with
        | some m =>
          simp only at h
          split at h
          · rename_i x blk he
            rw [zH2, xI] at h
            obtain ⟨R, s', h1, h2⟩ := zAm l _ _ r h
            exact ⟨_, s', h1.cons ⟨hd, rfl, rfl, .inr (.inr (.inr ⟨x, m, blk, hg, rfl, he, rfl, rfl, rfl, rfl, rfl⟩))⟩, h2⟩
          · cases h
        | none =>
        simp only at h
        cases hc : yW o.op with
        | true =>
          rw [hc] at h
          simp only [yMq] at h
          split at h
          · rename_i x h' nx' he
            rw [xI] at h
            obtain ⟨R, s', h1, h2⟩ := zAm l _ _ r h
            exact ⟨_, s', h1.cons ⟨hd, rfl, rfl, .inr (.inr (.inl ⟨x, hg, by rw [zYw, hc]; exact he, rfl, rfl, rfl⟩))⟩, h2⟩
          · cases h
        | false =>
          rw [hc] at h
          simp only [yN5] at h
          split at h
          · rename_i x he
            rw [CV.force_eq, xI] at h
            obtain ⟨R, s', h1, h2⟩ := zAm l _ _ r h
            exact ⟨_, s', h1.cons ⟨hd, rfl, rfl, .inr (.inl ⟨x, hg, he, hc, rfl, rfl, rfl, rfl, rfl⟩)⟩, h2⟩
          · rename_i he
            split at h
            · rename_i x es nx' hm
              rw [CV.force_eq, zH2, zZ, xI] at h
              obtain ⟨R, s', h1, h2⟩ := zAm l _ _ r h
              exact ⟨_, s', h1.cons ⟨hd, rfl, rfl, .inr (.inr (.inl ⟨x, hg, by rw [zYw, hc]; simp only [yN5, he, hm], rfl, rfl, rfl⟩))⟩, h2⟩
            · cases h
      · rename_i hg
        cases hm : m.isNone with
        | false => rw [hm] at h; cases h
        | true =>
          rw [hm] at h
          simp only [yMq] at h
          rw [xI] at h
          obtain ⟨R, s', h1, h2⟩ := zAm l _ _ r h
          exact ⟨_, s', h1.cons ⟨hd, rfl, rfl, .inl ⟨hg, rfl, rfl, rfl, rfl, rfl⟩⟩, h2⟩
      · cases h
def SV.beq : SV → SV → Bool
  | .rng k a b, .rng k' a' b' => kEq k k' && (eqI a a' && eqI b b')
  | .nz a, .nz b => a == b
  | .top, .top => true
  | _, _ => false
theorem SV.beq_ok : ∀ (x y : SV), SV.beq x y = true → x = y := fun x y h => by
  cases x with
  | rng k a b =>
    cases y with
    | rng k' a' b' =>
      simp only [SV.beq, yNj, wA, yNk] at h
      rw [h.2.1, h.2.2, show k = k' from yPn h.1]
    | _ => cases h
  | nz a =>
    cases y with
    | nz b => rw [show a = b from by simpa [SV.beq] using h]
    | _ => cases h
  | top =>
    cases y with
    | top => rfl
    | _ => cases h
mutual
def CV.beq : CV → CV → Bool
  | .raw v, .raw u => match v, u with
    | .int k a, .int k' b => kEq k k' && eqI a b
    | .bool a, .bool b => a == b
    | .slice none a b, .slice none c d => Nat.beq a c && Nat.beq b d
    | .pointer none, .pointer none => true
    | .nilFunc, .nilFunc => true
    | .func (.func f) ⟨[]⟩ ⟨[]⟩, .func (.func g) ⟨[]⟩ ⟨[]⟩ => Nat.beq f g
    | .string a, .string b => zZw a.data.toList b.data.toList
    | _, _ => false
  | .agg a, .agg b => CV.beqL a b
  | .tup a, .tup b => CV.beqL a b
  | .box k o, .box k' o' => Nat.beq k k' && Nat.beq o o'
  | .bsl s k o n c, .bsl s' k' o' n' c' => (Nat.beq s s' && Nat.beq k k') && (Nat.beq o o' && Nat.beq n n') && (c == c')
  | .mp k, .mp k' => Nat.beq k k'
  | .yld k, .yld k' => Nat.beq k k'
  | .gp k o, .gp k' o' => Nat.beq k k' && Nat.beq o o'
  | .sym p, .sym q => SV.beq p q
  | .ifc t x, .ifc u y => Nat.beq t u && CV.beq x y
  | .row k n, .row k' n' => Nat.beq k k' && Nat.beq n n'
  | _, _ => false
def CV.beqL : List CV → List CV → Bool
  | [], [] => true
  | x :: xs, y :: ys => CV.beq x y && CV.beqL xs ys
  | _, _ => false
end
mutual
theorem CV.beq_ok : ∀ (x y : CV), CV.beq x y = true → x = y
  | .raw v, y, h => by
    cases y with
    | raw u =>
      unfold CV.beq at h
      split at h
      · rw [yNj, wA, yNk] at h
        rw [h.2, show _ = _ from yPn h.1]
      · rw [beq_iff_eq] at h; rw [h]
      · rw [yNj] at h
        rw [yMs h.1, yMs h.2]
      · rfl
      · rfl
      · rw [yMs h]
      · rename_i a b
        rw [zM8, beq_iff_eq] at h
        have : a = b := ByteArray.ext (Array.ext' h)
        rw [this]
      · cases h
    | _ => cases h
  | .agg a, y, h => by
    cases y with
    | agg b => rw [CV.beqL_ok a b h]
    | _ => cases h
  | .tup a, y, h => by
    cases y with
    | tup b => rw [CV.beqL_ok a b h]
    | _ => cases h
  | .box k o, y, h => by
    cases y with
    | box k' o' =>
      simp only [CV.beq, yNj] at h
      rw [yMs h.1, yMs h.2]
    | _ => cases h
  | .bsl s k o n c, y, h => by
    cases y with
    | bsl s' k' o' n' c' =>
      simp only [CV.beq, yNj, beq_iff_eq] at h
      obtain ⟨⟨⟨h1, h2⟩, h3, h4⟩, h5⟩ := h
      rw [yMs h1, yMs h2, yMs h3, yMs h4, h5]
    | _ => cases h
  | .fn _ _ _, y, h => by cases y <;> cases h
  | .mp k, y, h => by
    cases y with
    | mp k' =>
      simp only [CV.beq] at h
      rw [yMs h]
    | _ => cases h
  | .yld k, y, h => by
    cases y with
    | yld k' =>
      simp only [CV.beq] at h
      rw [yMs h]
    | _ => cases h
  | .gp k o, y, h => by
    cases y with
    | gp k' o' =>
      simp only [CV.beq, yNj] at h
      rw [yMs h.1, yMs h.2]
    | _ => cases h
  | .sym p, y, h => by
    cases y with
    | sym q => rw [SV.beq_ok p q h]
    | _ => cases h
  | .ifc t x, y, h => by
    cases y with
    | ifc u z =>
      simp only [CV.beq, yNj] at h
      rw [yMs h.1, CV.beq_ok x z h.2]
    | _ => cases h
  | .row k n, y, h => by
    cases y with
    | row k' n' =>
      simp only [CV.beq, yNj] at h
      rw [yMs h.1, yMs h.2]
    | _ => cases h
theorem CV.beqL_ok : ∀ (xs ys : List CV), CV.beqL xs ys = true → xs = ys
  | [], [], _ => rfl
  | x :: xs, y :: ys, h => by
    simp only [CV.beqL, yNj] at h
    rw [CV.beq_ok x y h.1, CV.beqL_ok xs ys h.2]
  | [], _ :: _, h => by cases h
  | _ :: _, [], h => by cases h
end
def xW (R : List Rec) (j : Nat) : Bool := match R[j]? with
  | some q => q.eff
  | none => false
def j7 (R : List Rec) : List Nat := (List.range R.length).filter (xW R)
def yFy (full : List Oper) : Bool :=
  ((full.zipIdx.all fun x => x.1.after.all fun e => !Region.binds .any e || Nat.blt e.on x.2) && (full.zipIdx.all fun x => full.zipIdx.all fun y => y.2 == x.2 || x.1.dst.isNone || x.1.dst != y.1.dst)) &&
  ((full.zipIdx.all fun x => (x.1.looksAt full.toArray).all fun t => full.zipIdx.all fun y => y.1.dst != some t || y.2 == x.2 || (Nat.blt y.2 x.2 && zM full x.2 y.2) || (Nat.blt x.2 y.2 && zM full y.2 x.2)) && kV full)
def yLz (full : List Oper) (R : List Rec) (ds : List Nat) (i k : Nat) : Bool := (List.range R.length).all fun j => !xW R j || bif Nat.blt j k then !(ds.contains j) else !(zM full i j)
def zNp (T : TT) (full : List Oper) (R : List Rec) (s' : ES) : Bool :=
  (List.range R.length).all fun i => match full[i]?, R[i]? with
    | some o, some q => !(kZ o.op) || !q.ent.1 || (0 :: (j7 R).map (· + 1)).all fun k => !(yLz full R (zMa full i) i k) || match opE T (stD R s' k).h q.st.sl o.op with
        | some x => CV.beq x q.ent.2
        | none => false
    | _, _ => true
def zBt (full : List Oper) : List Nat → Bool
  | a :: b :: r => (zM full b a || (zMa full a).contains b) && zBt full (b :: r)
  | _ => true
def zZt (o : Oper) : Bool := match o.op with
  | .call c => match c.callee with
    | .builtin .append => true
    | .builtin .copy => true
    | .builtin .clear => true
    | .builtin _ => false
    | _ => true
  | .alloc _ => true
  | .box _ _ => true
  | .buildSlice _ _ _ => true
  | .makeSlice _ _ _ => true
  | .makeMap _ _ => true
  | .mapUpdate _ _ _ _ => true
  | .store _ _ _ => true
  | _ => false
def yCz : List Oper → Nat → List Nat
  | [], _ => []
  | o :: r, i => bif zZt o then i :: yCz r (i + 1) else yCz r (i + 1)
def zPn (full : List Oper) (R : List Rec) : Bool := (List.range R.length).all fun f => match R[f]? with
  | some q => q.flt.isNone || (j7 R).all fun i => Nat.ble i f || zM full i f || (zMa full f).contains i
  | none => true
def drawE (T : TT) (call : z6) (n : Nat) (ops : Array Oper) (s : ES) : Option ES :=
  bif yFy ops.toList then xL (zQ2 (!(zBt ops.toList (yCz ops.toList 0))) ops.toList s.nx) fun nx => zU4 call T ops n (zBg (!(zBt ops.toList (yCz ops.toList 0))) ops.toList s.nx) ⟨s.sl, s.h, nx, s.ds⟩ fun R s' => bif zBt ops.toList (j7 R) && (zPn ops.toList R && zNp T ops.toList R s') then some s' else none
  else none
structure yCl (full : List Oper) : Prop where
  back : ∀ (i : Nat) (o : Oper), full[i]? = some o → ∀ e ∈ o.after, Region.binds .any e = true → e.on < i
  dst : ∀ (i j : Nat) (o o' : Oper) (d : Nat), full[i]? = some o → full[j]? = some o' → o.dst = some d → o'.dst = some d → i = j
  looks : ∀ (i : Nat) (o : Oper) (t : Nat), full[i]? = some o → t ∈ o.looksAt full.toArray → ∀ (j : Nat) (o' : Oper), full[j]? = some o' → o'.dst = some t → j = i ∨ (j < i ∧ zM full i j = true) ∨ (i < j ∧ zM full j i = true)
  plain : ∀ o ∈ full, ∀ c, o.op ≠ .defer c
theorem zYz {full : List Oper} (h : yFy full = true) : yCl full := by
  unfold yFy at h
  simp only [yNj] at h
  obtain ⟨⟨h1, h2⟩, h3, h4⟩ := h
  rw [yP7] at h1 h2 h3
  refine ⟨fun i o ho e he hb => ?_, fun i j o o' d ho ho' hd hd' => ?_, fun i o t ho ht j o' ho' hd => ?_, fun o ho c hc => ?_⟩
  · have := h1 (o, i) (vD ho)
    rw [Array.all_eq_true_iff_forall_mem] at this
    have h5 := this e he
    simp only [hb, yOb, yNi] at h5
    exact yY h5
  · have h5 := h2 (o, i) (vD ho)
    rw [yP7] at h5
    have := h5 (o', j) (vD ho')
    simp only [hd, hd', Option.isNone_some, bne_self_eq_false, Bool.or_false, beq_iff_eq] at this
    exact this.symm
  · have h5 := h3 (o, i) (vD ho)
    rw [yP7] at h5
    have h6 := h5 t ht
    rw [yP7] at h6
    have h7 := h6 (o', j) (vD ho')
    simp only [hd, bne_self_eq_false, yNi, yOn, yNj, beq_iff_eq] at h7
    rcases h7 with (h7 | h7) | h7
    · exact .inl h7
    · exact .inr (.inl ⟨yY h7.1, h7.2⟩)
    · exact .inr (.inr ⟨yY h7.1, h7.2⟩)
  · simp only [kV, yP7] at h4
    have := h4 o ho
    rw [hc] at this; cases this
structure zPz (call : z6) (T : TT) (n : Nat) (full : List Oper) (l : List (Oper × Option Nat)) (n1 n2 : Nat) (s : ES) (R : List Rec) (s' : ES) : Prop where
  ok : zMn call T full.toArray n l s R s'
  fst : l.map (·.1) = full
  lo : ∀ (i : Nat) o r, l[i]? = some (o, some r) → n1 ≤ r ∧ r < n2
  inj : ∀ (i j : Nat) o o' r, l[i]? = some (o, some r) → l[j]? = some (o', some r) → i = j
section
variable {call : z6} {T : TT} {n n1 n2 : Nat} {full : List Oper} {l : List (Oper × Option Nat)} {s s' : ES} {R : List Rec}
theorem zPz.len (S : zPz call T n full l n1 n2 s R s') : R.length = full.length := by rw [S.ok.1, ← S.fst]; simp
theorem zMz : ∀ (i : Nat) q, R[i]? = some q → stD R s' i = q.st := fun i q h => by unfold stD; rw [h]
theorem zL5 (S : zPz call T n full l n1 n2 s R s') : stD R s' full.length = s' := by
  unfold stD
  rw [← S.len, yNw (yMj _)]
theorem zE2 (S : zPz call T n full l n1 n2 s R s') {i : Nat} (hi : i < full.length) : ∃ o m q, full[i]? = some o ∧ l[i]? = some (o, m) ∧ R[i]? = some q ∧ zZf call T full.toArray n (o, m) q (stD R s' (i + 1)) := by
  have h1 : i < R.length := by rw [S.len]; exact hi
  have h2 : i < l.length := by rw [← S.ok.1]; exact h1
  refine ⟨l[i].1, l[i].2, R[i], ?_, yNf h2, yNf h1, S.ok.2.2 i _ _ (yNf h2) (yNf h1)⟩
  rw [← S.fst, yNg, yNf h2]; rfl
theorem zH9 (S : zPz call T n full l n1 n2 s R s') {i r : Nat} {blk : CB} {q : Rec} (hq : R[i]? = some q) (hf : q.flt = some (r, blk)) : ∃ o, l[i]? = some (o, some r) := by
  have hi : i < full.length := by rw [← S.len]; exact (yNd.1 hq).1
  obtain ⟨o, m, q', _, h2, h3, h4⟩ := zE2 S hi
  rw [hq] at h3
  cases h3
  rcases h4.2.2.2 with ⟨_, _, _, h5, _⟩ | ⟨x, _, _, _, _, _, h5, _⟩ | ⟨x, _, _, _, _, h5⟩ | ⟨x, m', blk', _, h6, _, _, _, h5, _⟩
  · rw [hf] at h5; cases h5
  · rw [hf] at h5; cases h5
  · rw [hf] at h5; cases h5
  · rw [hf] at h5
    cases h5
    exact ⟨o, by rw [h2, show m = some r from h6]⟩
theorem zWn (S : zPz call T n full l n1 n2 s R s') : ∀ (i : Nat), i ≤ full.length → (stD R s' i).ds = s.ds
  | 0, _ => by rw [S.ok.2.1]
  | i + 1, h => by
    obtain ⟨o, m, q, ho, _, hq, hst⟩ := zE2 S (i := i) oq
    rw [hst.2.2.1, ← zMz (s' := s') _ _ hq]
    exact zWn S i oq
theorem zH8 (S : zPz call T n full l n1 n2 s R s') : ∀ (i : Nat), i ≤ full.length → ∀ t e, (stD R s' i).sl.get t = some e → (∃ j o q, j < i ∧ full[j]? = some o ∧ o.dst = some t ∧ R[j]? = some q ∧ q.ent = e) ∨ ((∀ j o, j < i → full[j]? = some o → o.dst ≠ some t) ∧ s.sl.get t = some e)
  | 0, _, t, e, h => .inr ⟨fun j o hj => by omega, by rw [S.ok.2.1] at h; exact h⟩
  | i + 1, hl, t, e, h => by
    obtain ⟨o, m, q, ho, _, hq, hst⟩ := zE2 S (i := i) oq
    rw [hst.2.1] at h
    by_cases hd : o.dst = some t
    · simp only [hd, zWr, Tr.get_same, yMc] at h
      exact .inl ⟨i, o, q, by omega, ho, hd, hq, h⟩
    · have h' : (stD R s' i).sl.get t = some e := by
        rw [zMz _ _ hq]
        cases hdo : o.dst with
        | none => simp only [hdo, zWr] at h; exact h
        | some d =>
          have hne : t ≠ d := fun e => hd (by rw [hdo, e])
          simp only [hdo, zWr, Tr.get_other _ _ hne] at h
          exact h
      rcases zH8 S i oq t e h' with ⟨j, o', q', h1, h2⟩ | ⟨h1, h2⟩
      · exact .inl ⟨j, o', q', by omega, h2⟩
      · refine .inr ⟨fun j o' hj ho' => ?_, h2⟩
        rcases yPh.1 hj with h3 | rfl
        · exact h1 j o' h3 ho'
        · rw [ho] at ho'; cases ho'; exact hd
theorem zF5 {full : List Oper} {L : Nat → Prop} (hc : ∀ c d, zM full c d = true → L c → L d) : ∀ {ib : List Nat} {p i j : Nat}, zBt full ib = true → ib[p]? = some i → ib[p + 1]? = some j → L j → L i
  | [], _, _, _, _, h, _ => by simp at h
  | [a], _, _, _, _, _, h => by simp at h
  | a :: b :: r, 0, i, j, h, h1, h2 => by
    simp only [yMb, yMd, yMc] at h1 h2
    subst h1; subst h2
    simp only [zBt, yNj, yOn] at h
    intro hl
    rcases h.1 with h3 | h3
    · exact hc _ _ h3 hl
    · exact Classical.byContradiction fun hn => jF hc hn b (by simpa using h3) hl
  | a :: b :: r, p + 1, i, j, h, h1, h2 => by
    simp only [zBt, yNj] at h
    exact zF5 hc h.2 (by simpa using h1) (by simpa using h2)
theorem zVv {listed : Nat → Prop} {i : Nat} (hch : zBt full (j7 R) = true) (hi : xW R i = true) (hil : i < R.length) (h1 : ∀ d, zM full i d = true → listed d) (h2 : ∀ c d, zM full c d = true → listed c → listed d) : ∀ j, xW R j = true → j < i → listed j := by
  have hmem : ∀ j, xW R j = true → j < R.length → j ∈ j7 R := fun j hj hl => List.mem_filter.2 ⟨yOv.2 hl, hj⟩
  have hpw : (j7 R).Pairwise (· < ·) := List.Pairwise.filter _ List.pairwise_lt_range
  obtain ⟨p, hp⟩ := yOw (hmem i hi hil)
  have hc : ∀ c d, zM full c d = true → (listed c ∨ c = i) → (listed d ∨ d = i) := fun c d h hc => by
    rcases hc with hc | rfl
    · exact .inl (h2 c d h hc)
    · exact .inl (h1 d h)
  have zKk : ∀ d q j, q + d = p → (j7 R)[q]? = some j → listed j ∨ j = i := by
    intro d
    induction d with
    | zero => intro q j hq hj; rw [show q = p from hq, hp] at hj; cases hj; exact .inr rfl
    | succ d ih =>
      intro q j hq hj
      have hlt : q + 1 < (j7 R).length := by have := (yNd.1 hp).1; omega
      have hn := yNf hlt
      exact zF5 (L := fun j => listed j ∨ j = i) hc hch hj hn (ih (q + 1) _ oq hn)
  intro j hj hlt
  obtain ⟨q, hq⟩ := yOw (hmem j hj oq)
  have hqp : q < p := by
    rcases Nat.lt_trichotomy q p with h3 | h3 | h3
    · exact h3
    · subst h3; rw [hq] at hp; cases hp; omega
    · have hq' := yNd.1 hq
      have hp' := yNd.1 hp
      have := yP1.1 hpw p q hp'.1 hq'.1 h3
      rw [hp'.2, hq'.2] at this
      omega
  rcases zKk (p - q) q j oq hq with h | h
  · exact h
  · omega
end
structure AtE (P : Program) (w0 : FW) (R : List Rec) (s' : ES) (n1 n2 : Nat) (φ : Phi) (listed : Nat → Prop) (k : Nat) (w : World) : Prop where
  hs : HS P w0 φ (stD R s' k).h (stD R s' k).nx w
  n0 : w0.n0 ≤ n1
  le : n2 ≤ (stD R s' k).nx
  unl : ∀ (j : Nat) q r blk, R[j]? = some q → q.flt = some (r, blk) → ¬ listed j → φ r = none
  early : ∀ (j : Nat) q r blk, R[j]? = some q → q.flt = some (r, blk) → listed j → k ≤ j → ∃ b, φ r = some b ∧ w0.free b ∧ zKm φ w b blk ∧ ∀ i bl, (stD R s' k).h.get i = some bl → φ i ≠ some b
  dis : ∀ (j j' : Nat) q q' r r' blk blk' b, R[j]? = some q → q.flt = some (r, blk) → listed j → k ≤ j → R[j']? = some q' → q'.flt = some (r', blk') → listed j' → k ≤ j' → φ r = some b → φ r' = some b → j = j'
structure MidE (P : Program) (w0 : FW) (n n1 n2 : Nat) (full : List Oper) (R : List Rec) (s s' : ES) (φ : Phi) (listed : Array Bool) (a : Act) (w : World) : Prop where
  size : a.tmps.size = n
  defers : DsR φ w s.ds a.defers
  lsz : listed.size = full.length
  clo : ∀ (i : Nat) (o : Oper), full[i]? = some o → listed.getD i true = true → ∀ e ∈ o.after, Region.binds .any e = true → listed.getD e.on false = true
  cut : ∃ k, k ≤ full.length ∧ (k = 0 ∨ ∃ j, k = j + 1 ∧ xW R j = true) ∧ (∀ j, j < full.length → xW R j = true → (listed.getD j false = true ↔ j < k)) ∧ AtE P w0 R s' n1 n2 φ (fun j => listed.getD j false = true) k w
  old : ∀ t e, (∀ (i : Nat) (o : Oper), full[i]? = some o → o.dst = some t → listed.getD i false = false) → s.sl.get t = some e → zId φ w a t e
  new : ∀ (i : Nat) o q t, full[i]? = some o → R[i]? = some q → o.dst = some t → listed.getD i false = true → zId φ w a t q.ent
section
variable {P : Program} {w0 : FW} {call : z6} {T : TT} {n n1 n2 : Nat} {full : List Oper} {l : List (Oper × Option Nat)} {s s' : ES} {R : List Rec} {φ : Phi} {w w' : World} {L : Nat → Prop} {k : Nat}
theorem HS.add {h : CH} {nx : Nat} (hs : HS P w0 φ h nx w) {r b : Nat} {blk : CB} (hr : φ r = some b) (hf : w0.free b) (hb : zKm φ w b blk) (hsep : ∀ i bl, h.get i = some bl → φ i ≠ some b) : HS P w0 φ (h.put r (some blk)) nx w := by
  refine ⟨hs.below, ⟨fun j bl hj => ?_, fun j j' b1 b2 c hj hj' e e' => ?_, hs.heap.fresh⟩, hs.tabs, hs.tab, hs.num⟩
  · by_cases e : j = r
    · subst e; rw [Tr.get_same] at hj; cases hj; exact ⟨b, hr, hf, hb⟩
    · rw [Tr.get_other _ _ e] at hj; exact hs.heap.here j bl hj
  · by_cases h1 : j = r <;> by_cases h2 : j' = r
    · rw [h1, h2]
    · subst h1
      rw [Tr.get_other _ _ h2] at hj'
      rw [hr] at e; cases e
      exact absurd e' (hsep j' _ hj')
    · subst h2
      rw [Tr.get_other _ _ h1] at hj
      rw [hr] at e'; cases e'
      exact absurd e (hsep j _ hj)
    · rw [Tr.get_other _ _ h1] at hj
      rw [Tr.get_other _ _ h2] at hj'
      exact hs.heap.inj j j' b1 b2 c hj hj' e e'
theorem AtE.next (S : zPz call T n full l n1 n2 s R s') (A : AtE P w0 R s' n1 n2 φ L k w) (hk : k < full.length) (he : xW R k = false) (hf : ∀ q r blk, R[k]? = some q → q.flt = some (r, blk) → L k) : AtE P w0 R s' n1 n2 φ L (k + 1) w := by
  obtain ⟨o, m, q, _, _, hq, hst⟩ := zE2 S hk
  have hqs := zMz (s' := s') _ _ hq
  have heq : q.eff = false := by
    unfold xW at he
    rw [hq] at he; exact he
  have same : q.flt = none → (stD R s' (k + 1)).h = (stD R s' k).h → (stD R s' (k + 1)).nx = (stD R s' k).nx → AtE P w0 R s' n1 n2 φ L (k + 1) w := fun h0 h1 h2 =>
    ⟨by rw [h1, h2]; exact A.hs, A.n0, by rw [h2]; exact A.le, A.unl, fun j q' r blk hj hf' hl hle => by rw [h1]; exact A.early j q' r blk hj hf' hl oq,
      fun j j' q1 q2 r r' b1 b2 b g1 g2 g3 g4 g5 g6 g7 g8 => A.dis j j' q1 q2 r r' b1 b2 b g1 g2 g3 oq g5 g6 g7 oq⟩
  rcases hst.2.2.2 with ⟨_, _, _, h0, h1, h2⟩ | ⟨x, _, _, _, _, _, h0, h1, h2⟩ | ⟨x, _, _, _, h1, _⟩ | ⟨x, m', blk, _, _, _, _, _, h0, h1, h2⟩
  · exact same h0 (by rw [h1, hqs]) (by rw [h2, hqs])
  · exact same h0 (by rw [h1, hqs]) (by rw [h2, hqs])
  · rw [heq] at h1; cases h1
  · rw [← hqs] at h1 h2
    have hl := hf q m' blk hq h0
    obtain ⟨b, g1, g2, g3, g4⟩ := A.early k q m' blk hq h0 hl (yMj _)
    refine ⟨by rw [h1, h2]; exact A.hs.add g1 g2 g3 g4, A.n0, by rw [h2]; exact A.le, A.unl, fun j q' r blk' hj hf' hl' hle => ?_,
      fun j j' q1 q2 r r' b1 b2 b g1 g2 g3 g4 g5 g6 g7 g8 => A.dis j j' q1 q2 r r' b1 b2 b g1 g2 g3 oq g5 g6 g7 oq⟩
    obtain ⟨c, d1, d2, d3, d4⟩ := A.early j q' r blk' hj hf' hl' oq
    refine ⟨c, d1, d2, d3, fun i bl hi => ?_⟩
    rw [h1] at hi
    by_cases e : i = m'
    · subst e
      rw [g1]
      intro e2
      cases e2
      have := A.dis k j q q' i r blk blk' b hq h0 hl (yMj _) hj hf' hl' oq g1 d1
      omega
    · rw [Tr.get_other _ _ e] at hi
      exact d4 i bl hi
theorem AtE.run (S : zPz call T n full l n1 n2 s R s') : ∀ (d : Nat) {k : Nat}, AtE P w0 R s' n1 n2 φ L k w → k + d ≤ full.length → (∀ j, k ≤ j → j < k + d → xW R j = false ∧ ∀ q r blk, R[j]? = some q → q.flt = some (r, blk) → L j) → AtE P w0 R s' n1 n2 φ L (k + d) w
  | 0, _, A, _, _ => A
  | d + 1, k, A, hl, h => by
    obtain ⟨h1, h2⟩ := h k (yMj _) oq
    have := AtE.run S d (A.next S oq h1 h2) oq fun j g1 g2 => h j oq oq
    rw [show k + (d + 1) = k + 1 + d by omega]
    exact this
theorem AtE.congr (A : AtE P w0 R s' n1 n2 φ L k w) {L' : Nat → Prop} (h : ∀ (j : Nat) q r blk, R[j]? = some q → q.flt = some (r, blk) → (L' j ↔ L j)) : AtE P w0 R s' n1 n2 φ L' k w :=
  ⟨A.hs, A.n0, A.le, fun j q r blk h1 h2 h3 => A.unl j q r blk h1 h2 fun g => h3 ((h j q r blk h1 h2).2 g), fun j q r blk h1 h2 h3 => A.early j q r blk h1 h2 ((h j q r blk h1 h2).1 h3),
    fun j j' q q' r r' blk blk' b g1 g2 g3 g4 g5 g6 g7 g8 => A.dis j j' q q' r r' blk blk' b g1 g2 ((h j q r blk g1 g2).1 g3) g4 g5 g6 ((h j' q' r' blk' g5 g6).1 g7) g8⟩
def AtE.frame (A : AtE P w0 R s' n1 n2 φ L k w) : FW := {
  w := w
  sz := w0.sz
  kp := fun b => (w0.kp b ∨ ∃ j q r blk, R[j]? = some q ∧ q.flt = some (r, blk) ∧ L j ∧ k ≤ j ∧ φ r = some b) ∧ b < w.heap.size
  n0 := max w0.n0 n2
  no := fun m => (w0.no m ∨ ∃ j q r blk, R[j]? = some q ∧ q.flt = some (r, blk) ∧ ¬ L j ∧ m = r) ∧ m < max w0.n0 n2
  le := yMk w0.le A.hs.below.size
  lt := fun b h => h.2
  nolt := fun m h => h.2 }
theorem AtE.hsF (A : AtE P w0 R s' n1 n2 φ L k w) : HS P A.frame φ (stD R s' k).h (stD R s' k).nx w := by
  refine ⟨⟨rfl, rfl, rfl, yMj _, fun _ _ => rfl⟩, ⟨fun i bl hi => ?_, A.hs.heap.inj, A.hs.heap.fresh⟩, fun w' h => A.hs.tabs w' fun g hg => (h g hg).trans (A.hs.below.block g fun hf => by have := hf.1; omega), A.hs.tab, Nat.max_le.2 ⟨A.hs.num.1, A.le⟩, fun m hm => ?_⟩
  · obtain ⟨b, h1, h2, h3⟩ := A.hs.heap.here i bl hi
    refine ⟨b, h1, ⟨h2.1, fun hk => ?_⟩, h3⟩
    rcases hk.1 with h4 | ⟨j, q, r, blk, g1, g2, g3, g4, g5⟩
    · exact h2.2 h4
    · obtain ⟨c, d1, _, _, d4⟩ := A.early j q r blk g1 g2 g3 g4
      rw [g5] at d1; cases d1
      exact d4 i bl hi h1
  · rcases hm.1 with h | ⟨j, q, r, blk, g1, g2, g3, rfl⟩
    · exact A.hs.num.2 m h
    · exact A.unl j q m blk g1 g2 g3
theorem AtE.eff (S : zPz call T n full l n1 n2 s R s') (A : AtE P w0 R s' n1 n2 φ L k w) {φ' : Phi} (E : y0 φ w φ' w') (H : HS P A.frame φ' (stD R s' (k + 1)).h (stD R s' (k + 1)).nx w') : AtE P w0 R s' n1 n2 φ' L (k + 1) w' := by
  have zKk : ∀ b, A.frame.free b → w0.free b := fun b h => ⟨h.1, fun hk => h.2 ⟨.inl hk, yMl (w0.lt b hk) A.hs.below.size⟩⟩
  have kept : ∀ (j : Nat) q r blk b, R[j]? = some q → q.flt = some (r, blk) → L j → k ≤ j → φ r = some b → zKm φ w b blk → w'.heap[b]? = w.heap[b]? ∧ ¬ A.frame.free b := fun j q r blk b g1 g2 g3 g4 g5 g6 => by
    have : ¬ A.frame.free b := fun h => h.2 ⟨.inr ⟨j, q, r, blk, g1, g2, g3, g4, g5⟩, g6.lt⟩
    exact ⟨H.below.block b this, this⟩
  refine ⟨⟨⟨H.below.os.trans A.hs.below.os, H.below.tape.trans A.hs.below.tape, H.below.output.trans A.hs.below.output, yMk A.hs.below.size H.below.size, fun b hb => (H.below.block b fun h => hb (zKk b h)).trans (A.hs.below.block b hb)⟩,
    ⟨fun i bl hi => ?_, H.heap.inj, H.heap.fresh⟩, A.hs.tabs, A.hs.tab, yMk (Nat.le_max_left _ _) H.num.1, fun m hm => H.num.2 m ⟨.inl hm, yMl (w0.nolt m hm) (Nat.le_max_left _ _)⟩⟩, A.n0, yMk (Nat.le_max_right _ _) H.num.1, fun j q r blk g1 g2 g3 => ?_, fun j q r blk g1 g2 g3 g4 => ?_, fun j j' q q' r r' blk blk' b g1 g2 g3 g4 g5 g6 g7 g8 e e' => ?_⟩
  · obtain ⟨b, h1, h2, h3⟩ := H.heap.here i bl hi
    exact ⟨b, h1, zKk b h2, h3⟩
  · obtain ⟨o, ho⟩ := zH9 S g1 g2
    exact H.num.2 r ⟨.inr ⟨j, q, r, blk, g1, g2, g3, rfl⟩, yMl (S.lo j o r ho).2 (Nat.le_max_right _ _)⟩
  · obtain ⟨b, d1, d2, d3, d4⟩ := A.early j q r blk g1 g2 g3 oq
    obtain ⟨e1, e2⟩ := kept j q r blk b g1 g2 g3 oq d1 d3
    refine ⟨b, (E r b d1).1, d2, d3.mono E e1, fun i bl hi hb => ?_⟩
    obtain ⟨c, f1, f2, _⟩ := H.heap.here i bl hi
    rw [hb] at f1; cases f1
    exact e2 f2
  · obtain ⟨b1, d1, _, _, _⟩ := A.early j q r blk g1 g2 g3 oq
    obtain ⟨b2, d2, _, _, _⟩ := A.early j' q' r' blk' g5 g6 g7 oq
    rw [(E r b1 d1).1] at e
    rw [(E r' b2 d2).1] at e'
    cases e; cases e'
    exact A.dis j j' q q' r r' blk blk' b g1 g2 g3 oq g5 g6 g7 oq d1 d2
theorem HS.grow {h : CH} {nx : Nat} (hs : HS P w0 φ h nx w) (hb : Below w.heap.size w w') {r b : Nat} (hr : φ r = none) (hlt : r < nx) (hno : ¬ w0.no r) (hn : w.heap.size ≤ b) : y0 φ w (wM φ r b) w' ∧ HS P w0 (wM φ r b) h nx w' := by
  have hne : ∀ k c, φ k = some c → k ≠ r := fun k c hk e => by rw [e, hr] at hk; cases hk
  have E : y0 φ w (wM φ r b) w' := fun k c hk => by
    refine ⟨by rw [zK (hne k c hk)]; exact hk, ?_⟩
    rcases yMn c w.heap.size with hlt | hge
    · exact szK.same (hb.block c hlt)
    · exact szK.none hge
  refine ⟨E, ⟨hs.below.trans hb, ⟨fun k bl hk => ?_, fun k k' b1 b2 c hk hk' e e' => ?_, fun k hk => by rw [zK oq]; exact hs.heap.fresh k hk⟩, hs.tabs, hs.tab, hs.num.1, fun k hk => by rw [zK fun e => hno (by rw [← e]; exact hk)]; exact hs.num.2 k hk⟩⟩
  · obtain ⟨c, h1, h2, h3⟩ := hs.heap.here k bl hk
    exact ⟨c, (E k c h1).1, h2, h3.mono E (hb.block c h3.lt)⟩
  · obtain ⟨c1, h1, _, _⟩ := hs.heap.here k b1 hk
    obtain ⟨c2, h2, _, _⟩ := hs.heap.here k' b2 hk'
    rw [zK (hne k c1 h1)] at e
    rw [zK (hne k' c2 h2)] at e'
    exact hs.heap.inj k k' b1 b2 c hk hk' e e'
theorem AtE.made (S : zPz call T n full l n1 n2 s R s') (A : AtE P w0 R s' n1 n2 φ L k w) {i r b : Nat} {blk : CB} {q : Rec} (hq : R[i]? = some q) (hf : q.flt = some (r, blk)) (hi : ¬ L i) (hb : Below w.heap.size w w') (hn : w.heap.size ≤ b) (hr : ∀ φ', φ' r = some b → zKm φ' w' b blk) :
    y0 φ w (wM φ r b) w' ∧ AtE P w0 R s' n1 n2 (wM φ r b) (fun j => j = i ∨ L j) k w' := by
  obtain ⟨o, ho⟩ := zH9 S hq hf
  obtain ⟨l1, l2⟩ := S.lo i o r ho
  have hnone := A.unl i q r blk hq hf hi
  obtain ⟨E, H⟩ := A.hs.grow hb hnone (yMl l2 A.le) (fun h => by have := w0.nolt r h; have := A.n0; omega) hn
  have other : ∀ (j : Nat) q' r' blk', R[j]? = some q' → q'.flt = some (r', blk') → j ≠ i → r' ≠ r := fun j q' r' blk' h1 h2 hne e => by
    obtain ⟨o', ho'⟩ := zH9 S h1 h2
    subst e
    exact hne (S.inj j i o' o r' ho' ho)
  have old : ∀ c bl, zKm φ w c bl → c ≠ b := fun c bl h e => by have := h.lt; omega
  refine ⟨E, H, A.n0, A.le, fun j q' r' blk' h1 h2 h3 => ?_, fun j q' r' blk' h1 h2 h3 h4 => ?_, fun j j' q1 q2 r1 r2 b1 b2 c g1 g2 g3 g4 g5 g6 g7 g8 e e' => ?_⟩
  · have hne : j ≠ i := fun e => h3 (.inl e)
    rw [zK (other j q' r' blk' h1 h2 hne)]
    exact A.unl j q' r' blk' h1 h2 fun h => h3 (.inr h)
  · by_cases hji : j = i
    · subst hji
      rw [hq] at h1; cases h1
      rw [hf] at h2; cases h2
      refine ⟨b, z8 _ _ _, FW.new (yMk A.hs.below.size hn), hr _ (z8 _ _ _), fun m bl hm he => ?_⟩
      obtain ⟨c, d1, _, d3⟩ := A.hs.heap.here m bl hm
      rw [(E m c d1).1] at he; cases he
      exact old b bl d3 rfl
    · have hl : L j := h3.resolve_left hji
      obtain ⟨c, d1, d2, d3, d4⟩ := A.early j q' r' blk' h1 h2 hl h4
      refine ⟨c, (E r' c d1).1, d2, d3.mono E (hb.block c d3.lt), fun m bl hm he => ?_⟩
      obtain ⟨c', f1, _, f3⟩ := A.hs.heap.here m bl hm
      rw [(E m c' f1).1] at he; cases he
      exact d4 m bl hm f1
  · have val : ∀ (j : Nat) q' r' blk' c, R[j]? = some q' → q'.flt = some (r', blk') → (j = i ∨ L j) → k ≤ j → wM φ r b r' = some c → j ≠ i → φ r' = some c ∧ c ≠ b ∧ L j := fun j q' r' blk' c h1 h2 h3 h4 h5 hne => by
      rw [zK (other j q' r' blk' h1 h2 hne)] at h5
      have hl : L j := h3.resolve_left hne
      obtain ⟨c', d1, _, d3, _⟩ := A.early j q' r' blk' h1 h2 hl h4
      rw [h5] at d1; cases d1
      exact ⟨h5, old c _ d3, hl⟩
    have own : ∀ (q' : Rec) r' blk' c, R[i]? = some q' → q'.flt = some (r', blk') → wM φ r b r' = some c → c = b := fun q' r' blk' c h1 h2 h3 => by
      rw [hq] at h1; cases h1
      rw [hf] at h2; cases h2
      rw [z8] at h3; cases h3; rfl
    by_cases h1 : j = i <;> by_cases h2 : j' = i
    · rw [h1, h2]
    · subst h1
      exact absurd (own q1 r1 b1 c g1 g2 e) (val j' q2 r2 b2 c g5 g6 g7 g8 e' h2).2.1
    · subst h2
      exact absurd (own q2 r2 b2 c g5 g6 e') (val j q1 r1 b1 c g1 g2 g3 g4 e h1).2.1
    · obtain ⟨v1, _, v2⟩ := val j q1 r1 b1 c g1 g2 g3 g4 e h1
      obtain ⟨v3, _, v4⟩ := val j' q2 r2 b2 c g5 g6 g7 g8 e' h2
      exact A.dis j j' q1 q2 r1 r2 b1 b2 c g1 g2 v2 g4 g5 g6 v4 g8 v1 v3
theorem zRf {φ φ' : Phi} {r b : Nat} (h : φ r = some b) (h' : φ' r = some b) : ∀ {x : CV} {v : Value}, zXu r x = true → x.rel φ w v → x.rel φ' w v
  | .box k off, v, hr, ⟨c, h1, h2⟩ => by
    obtain rfl := yMs hr
    rw [h] at h1; cases h1
    exact ⟨b, h', h2⟩
  | .bsl s k off n cap, v, hr, ⟨c, m, p, h1, h2⟩ => by
    obtain rfl := yMs hr
    rw [h] at h1; cases h1
    exact ⟨b, m, p, h', h2⟩
theorem zPo {T : TT} (hT : TOk P T) (hs : HS P w0 φ (stD R s' k).h (stD R s' k).nx w) {r : Nat} {sl : CS} {o : Oper} {a : Act} {x : CV} {blk : CB} (hev0 : ∀ y ∈ o.op.operands.toList, zCz φ w a sl y) (he : yFw T r sl o.op = some (x, blk)) :
    ∃ v b w', ((execOp a.eval o).run P w = .ok (.value v) w' ∨ ((execOp a.eval o).run P w = .ok .skip w' ∧ v = undef)) ∧ Below w.heap.size w w' ∧ w.heap.size ≤ b ∧ (∀ φ', φ' r = some b → zKm φ' w' b blk) ∧ (∀ φ', φ' r = some b → x.rel φ' w' v) := by
  unfold yFw at he
  cases hc : (yW o.op || !(o.op.operands.toList.all (zLg sl))) with
  | true => rw [hc] at he; cases he
  | false =>
    rw [hc] at he
    simp only [yN5] at he
    split at he
    · rename_i x' k' full cs n' hm
      cases hcc : (Nat.beq k' r && Nat.beq n' (r + 1) && zXu r x' && CV.plainL cs) with
      | false => rw [hcc] at he; cases he
      | true =>
        rw [hcc] at he
        cases he
        simp only [yNj] at hcc
        obtain ⟨⟨⟨c1, c2⟩, c3⟩, c4⟩ := hcc
        obtain rfl := yMs c1
        obtain rfl := yMs c2
        let F : FW := ⟨w, w.heap.size, fun _ => False, 0, fun _ => False, yMj _, fun _ h => h.elim, fun _ h => h.elim⟩
        have HF : HS P F (fun _ => none) .e k' w := ⟨⟨rfl, rfl, rfl, yMj _, fun _ _ => rfl⟩, ⟨fun k blk hk => (by cases hk), fun k k' b1 b2 b hk => (by cases hk), fun _ _ => rfl⟩,
          fun w' h => hs.tabs'.keep fun g hg => h g hg, hs.tab, yMh _, fun _ _ => rfl⟩
        have hev : ∀ y ∈ o.op.operands.toList, zCz (fun _ => none) w a sl y := fun y hy x hx => by
          rw [yOq, yOm, yP7] at hc
          have := hc.2 y hy
          unfold zLg at this
          rw [hx] at this
          exact CV.plain_rel x _ this (hev0 y hy x hx)
        obtain ⟨v, φ', w', h1, h2, h3, h4⟩ := zGo hT HF hev hm
        have hg : (apH .e [(k', some (CB.cells full cs))]).get k' = some (.cells full cs) := by simp [apH, Tr.get_same]
        obtain ⟨b, g1, g2, g3⟩ := h3.heap.here k' _ hg
        refine ⟨v, b, w', h1, ⟨h3.below.os, h3.below.tape, h3.below.output, h3.below.size, fun c hc => h3.below.block c fun h => by have : w.heap.size ≤ c := h.1; omega⟩, g2.1, fun φ'' _ => ?_, fun φ'' h => zRf g1 h c3 h4⟩
        obtain ⟨vs, tail, TT, d1, d2, d3⟩ := g3
        exact ⟨vs, tail, TT, d1, CV.plainL_rel cs vs c4 d2, d3⟩
    · cases he
end
end Go.Proofs.YtioaahmkebojiaaGreatDoor
