import Derived.Test.YtioaahmkebojiaaGreatDoorWC01
import Derived.Test.YtioaahmkebojiaaGreatDoorWC30
namespace Go.Proofs.YtioaahmkebojiaaGreatDoor
set_option linter.unusedVariables false
set_option linter.unusedSimpArgs false
set_option maxHeartbeats 4000000
set_option maxRecDepth 100000
set_option linter.unusedSectionVars false
open Go.RowKit
variable [SpT]
def xL {γ : Type} (n : Nat) (k : Nat → γ) : γ := match n with
 | 0 => k 0
 | m + 1 => k (Nat.succ m)
theorem zZ {γ : Type} (n : Nat) (k : Nat → γ) : xL n k = k n := by cases n <;> rfl
def zNs {γ : Type} (v : Value) (k : Value → γ) : γ := match v with
 | .int d (.ofNat n) => xL n fun n => k (.int d (.ofNat n))
 | .int d (.negSucc n) => xL n fun n => k (.int d (.negSucc n))
 | .bool true => k (.bool true)
 | .bool false => k (.bool false)
 | v => k v
theorem zJt {γ : Type} (v : Value) (k : Value → γ) : zNs v k = k v := by
 unfold zNs
 split <;> first | rfl | rw [zZ]
def zSs {γ : Type} (n : Option Nat) (k : Option Nat → γ) : γ := match n with
 | none => k none
 | some n => xL n fun n => k (some n)
theorem zSr {γ : Type} (n : Option Nat) (k : Option Nat → γ) : zSs n k = k n := by
 cases n
 ·rfl
 ·rw [zSs, zZ]
mutual
def CV.force {γ : Type} : CV → (CV → γ) → γ
 | .raw v, k => zNs v fun v => k (.raw v)
 | .agg cs, k => CV.forceL cs fun cs => k (.agg cs)
 | .tup cs, k => CV.forceL cs fun cs => k (.tup cs)
 | .box b off, k => xL b fun b => xL off fun off => k (.box b off)
 | .bsl s b off n cap, k => xL s fun s => xL b fun b => xL off fun off => xL n fun n => zSs cap fun cap => k (.bsl s b off n cap)
 | .fn f first cap, k => CV.forceL first fun first => CV.forceL cap fun cap => k (.fn f first cap)
 | .mp b, k => xL b fun b => k (.mp b)
 | .yld b, k => xL b fun b => k (.yld b)
 | .gp g off, k => xL g fun g => xL off fun off => k (.gp g off)
 | .sym p, k => k (.sym p)
 | .ifc t x, k => CV.force x fun x => k (.ifc t x)
 | .row b n, k => xL b fun b => xL n fun n => k (.row b n)
def CV.forceL {γ : Type} : List CV → (List CV → γ) → γ
 | [], k => k []
 | c :: cs, k => CV.force c fun c => CV.forceL cs fun cs => k (c :: cs)
end
mutual
theorem CV.force_eq {γ : Type} : ∀ (x : CV) (k : CV → γ), x.force k = k x
 | .raw v, k => by rw [CV.force, zJt]
 | .agg cs, k => by rw [CV.force, CV.forceL_eq cs]
 | .tup cs, k => by rw [CV.force, CV.forceL_eq cs]
 | .box b off, k => by rw [CV.force, zZ, zZ]
 | .bsl s b off n cap, k => by rw [CV.force, zZ, zZ, zZ, zZ, zSr]
 | .fn f first cap, k => by rw [CV.force, CV.forceL_eq first, CV.forceL_eq cap]
 | .mp b, k => by rw [CV.force, zZ]
 | .yld b, k => by rw [CV.force, zZ]
 | .gp g off, k => by rw [CV.force, zZ, zZ]
 | .sym p, k => by rw [CV.force]
 | .ifc t x, k => by rw [CV.force, CV.force_eq x]
 | .row b n, k => by rw [CV.force, zZ, zZ]
theorem CV.forceL_eq {γ : Type} : ∀ (xs : List CV) (k : List CV → γ), CV.forceL xs k = k xs
 | [], _ => rfl
 | x :: xs, k => by rw [CV.forceL, CV.force_eq x, CV.forceL_eq xs]
end
def zSu {γ : Type} (b : Option CB) (k : Option CB → γ) : γ := match b with
 | some (.cells true cs) => CV.forceL cs fun cs => k (some (.cells true cs))
 | some (.cells false cs) => CV.forceL cs fun cs => k (some (.cells false cs))
 | b => k b
theorem zSt {γ : Type} (b : Option CB) (k : Option CB → γ) : zSu b k = k b := by
 unfold zSu
 split <;> first | rfl | rw [CV.forceL_eq]
def apK {γ : Type} (h : CH) (es : List (Nat × Option CB)) (k : CH → γ) : γ := match es with
 | [] => k h
 | e :: r => zSu e.2 fun b => xL e.1 fun i => Tr.setK (i + 1) i b h fun h => apK h r k
theorem zH2 {γ : Type} (h : CH) (es : List (Nat × Option CB)) (k : CH → γ) : apK h es k = k (apH h es) := by
 induction es generalizing h with
 | nil => rfl
 | cons e r ih => rw [apK, zSt, zZ, Tr.setK_eq, ih]; rfl
inductive DE where
 | lp (k : Nat)
 | grd (f : FuncId) (cap : List CV)
def DE.rel (φ : Phi) (w : World) : DE → Deferred → Prop
 | .lp k, d => ∃ b, φ k = some b ∧ d = zNl b
 | .grd f cap, d => ∃ cs : List Value, CV.relL φ w cap cs ∧ d = { target := .fn (.func f) cs.toArray, args := #[] }
def DsR (φ : Phi) (w : World) : List DE → List Deferred → Prop
 | [], l => l = []
 | d :: ds, l => ∃ x r, l = x :: r ∧ d.rel φ w x ∧ DsR φ w ds r
theorem DsR.ext {φ φ' : Phi} {w w' : World} (E : y0 φ w φ' w') : ∀ {ds : List DE} {l : List Deferred}, DsR φ w ds l → DsR φ' w' ds l
 | [], _, h => h
 | .lp k :: ds, _, ⟨x, r, e, ⟨b, h1, h2⟩, h3⟩ => ⟨x, r, e, ⟨b, (E _ _ h1).1, h2⟩, h3.ext E⟩
 | .grd f cap :: ds, _, ⟨x, r, e, ⟨cs, h1, h2⟩, h3⟩ => ⟨x, r, e, ⟨cs, CV.relL_mono E _ _ h1, h2⟩, h3.ext E⟩
structure ES where
 sl : CS
 h : CH
 nx : Nat
 ds : List DE
def zKi {γ : Type} (d : Option Nat) (e : Bool × CV) (sl : CS) (k : CS → γ) : γ := match d with
 | none => k sl
 | some d => Tr.setK (d + 1) d (some e) sl k
def zWr (d : Option Nat) (e : Bool × CV) (sl : CS) : CS := match d with
 | none => sl
 | some d => sl.put d (some e)
theorem xI {γ : Type} (d : Option Nat) (e : Bool × CV) (sl : CS) (k : CS → γ) : zKi d e sl k = k (zWr d e sl) := by
 cases d with
 | none => rfl
 | some d => exact Tr.setK_eq _ _ _ _ _
inductive Cal where
 | fn (f : FuncId)
 | yl (k : Nat)
 | iv (t : Nat) (name : String)
abbrev z6 := Cal → List CV → CH → Nat → Option (CV × CH × Nat)
def vZ : CV → Option (Cal × List CV × List CV)
 | .raw (.func (.func f) ⟨[]⟩ ⟨[]⟩) => some (.fn f, [], [])
 | .fn (.func f) first cap => some (.fn f, first, cap)
 | .yld k => some (.yl k, [], [])
 | _ => none
def zI5 (call : z6) (h : CH) (nx : Nat) (sl : CS) (o : Op) : Option (CV × CH × Nat) :=
 match o with
 | .call c => match c.callee with
  | .value fo => match evT sl fo, zQ1 sl c.args.toList with
   | some v, some vs => match vZ v with
    | some (f, first, cap) => call f (first ++ vs ++ cap) h nx
    | none => none
   | _, _ => none
  | .invoke x name => match evT sl x, zQ1 sl c.args.toList with
   | some (.ifc t y), some vs => call (.iv t name) (y :: vs) h nx
   | _, _ => none
  | _ => none
 | _ => none
def yW : Op → Bool
 | .call c => match c.callee with
  | .value _ => true
  | .invoke _ _ => true
  | _ => false
 | _ => false
def zVw {γ : Type} (call : z6) (T : TT) (h : CH) (nx : Nat) (sl : CS) (o : Op) (k : CV → CH → Nat → Option γ) : Option γ :=
 bif yW o then match zI5 call h nx sl o with
  | some (x, h', nx') => k x h' nx'
  | none => none
 else match opE T h sl o with
  | some x => x.force fun x => k x h nx
  | none => match zAv T h nx sl o with
   | some (x, es, nx') => x.force fun x => apK h es fun h' => xL nx' fun nx' => k x h' nx'
   | none => none
def zYw (call : z6) (T : TT) (h : CH) (nx : Nat) (sl : CS) (o : Op) : Option (CV × CH × Nat) :=
 bif yW o then zI5 call h nx sl o
 else match opE T h sl o with
  | some x => some (x, h, nx)
  | none => match zAv T h nx sl o with
   | some (x, es, nx') => some (x, apH h es, nx')
   | none => none
theorem zYv {γ : Type} (call : z6) (T : TT) (h : CH) (nx : Nat) (sl : CS) (o : Op) (k : CV → CH → Nat → Option γ) : zVw call T h nx sl o k = (zYw call T h nx sl o).bind fun r => k r.1 r.2.1 r.2.2 := by
 unfold zVw zYw
 cases yW o with
 | true =>
  simp only [yMq]
  split <;> rename_i h1 <;> rw [h1] <;> rfl
 | false =>
  simp only [yN5]
  split
  ·rename_i h1
   rw [CV.force_eq]; rfl
  ·split
   ·rename_i h1 h2
    rw [CV.force_eq, zH2, zZ]; rfl
   ·rfl
structure yCi (P : Program) (t : Nat) (name : String) (f : FuncId) : Prop where
 run : ∀ (v : Value) (w : World), (method (P.types.size + Made.depth) t v name).run P w = .ok (f, v) w
def aiN : FuncId := 320
structure AiOk (P : Program) : Prop where
 ok : wS P aiN
 calls : ∀ (i : Int) (w : World) (v : Value) (n : Nat), -9223372036854775808 ≤ i → i ≤ 9223372036854775807 → zMo w v n → n + 21 ≤ 140737488355328 → (∀ W, w.grownBy W (zC v) → zFm P W) →
  Calls P aiN #[v, .int .i64 i, .int .i64 10] w fun e w' => ∃ v' n', e = .returned v' ∧ n' ≤ n + 21 ∧ n < n' ∧ qR w v w' v' n'
structure MOk (P : Program) : Prop where
 mth : ∀ t name f, SpT.mth t name = some f → yCi P t name f
 ai : SpT.abs = true → AiOk P
structure wH (P : Program) (call : z6) : Prop where
 fn : ∀ f args h nx r h' nx', call (.fn f) args h nx = some (r, h', nx') → wS P f ∧ ∀ (w0 : FW) φ w vs, HS P w0 φ h nx w → CV.relL φ w args vs →
  Calls P f vs.toArray w fun e w' => ∃ v φ', e = .returned v ∧ y0 φ w φ' w' ∧ HS P w0 φ' h' nx' w' ∧ r.rel φ' w' v
 yl : ∀ k args h nx r h' nx', call (.yl k) args h nx = some (r, h', nx') → ∀ (w0 : FW) φ w vs b (ro : Option Nat), HS P w0 φ h nx w → CV.relL φ w args vs → φ k = some b →
  ∃ f tmps assign body, (Instr.yield b vs.toArray).run P w = .ok (.round b f tmps assign body) w ∧ RoundIn (fen ro) 0 P b f tmps assign body w fun e w' => ∃ v φ', e = .returned v ∧ y0 φ w φ' w' ∧ HS P w0 φ' h' nx' w' ∧ r.rel φ' w' v
 iv : ∀ t name args h nx r h' nx', call (.iv t name) args h nx = some (r, h', nx') → ∃ f, yCi P t name f ∧ wS P f ∧ ∀ (w0 : FW) φ w vs, HS P w0 φ h nx w → CV.relL φ w args vs →
  Calls P f vs.toArray w fun e w' => ∃ v φ', e = .returned v ∧ y0 φ w φ' w' ∧ HS P w0 φ' h' nx' w' ∧ r.rel φ' w' v
section
variable {P : Program} {T : TT} {φ : Phi} {w0 : FW} {w : World} {a : Act} {sl : CS} {h : CH} {nx : Nat}
theorem zGy {call : z6} (hC : wH P call) (hT : TOk P T) (hs : HS P w0 φ h nx w) {o : Oper} (hev : ∀ x ∈ o.op.operands.toList, zCz φ w a sl x) {r : CV} {h' : CH} {nx' : Nat} (he : zYw call T h nx sl o.op = some (r, h', nx'))
  {K : Act → World → Prop} {Q : Exit → Act → World → Prop} {ro : Option Nat} (hK : ∀ v φ' w', y0 φ w φ' w' → HS P w0 φ' h' nx' w' → r.rel φ' w' v → K (a.put o.dst v) w') : o.wpIn (fen ro) 0 P a w K Q := by
 unfold zYw at he
 cases hc : yW o.op with
 | true =>
  rw [hc] at he
  simp only [yMq] at he
  obtain ⟨dst, op, type, pos, after, guard⟩ := o
  simp only at he hev hc hK
  unfold zI5 at he
  split at he
  ·rename_i c
   obtain ⟨callee, args, argTypes⟩ := c
   obtain ⟨args⟩ := args
   simp only at he
   split at he
   ·rename_i fo
    split at he
    ·rename_i v vs h1 h2
     split at he
     ·rename_i f first cap h3
      have e1 := hev fo (by simp [Op.operands, Call.operands]) _ h1
      have e2 := kI (fun x hx => hev x (by simp [Op.operands, Call.operands]; exact .inr hx)) h2
      have byFn : ∀ g, f = .fn g → (∃ us : List Value, CV.relL φ w (first ++ vs ++ cap) us ∧ (wS P g → (execOp a.eval ⟨dst, .call ⟨.value fo, ⟨args⟩, argTypes⟩, type, pos, after, guard⟩).run P w = .ok (.enter g us.toArray) w)) → Oper.wpIn (fen ro) 0 P ⟨dst, .call ⟨.value fo, ⟨args⟩, argTypes⟩, type, pos, after, guard⟩ a w K Q := fun g hf key => by
       subst hf
       obtain ⟨us, e6, e7⟩ := key
       obtain ⟨hok, hcalls⟩ := hC.fn _ _ _ _ _ _ _ he
       refine zJ (fun c hc => by cases hc) ?_
       rw [e7 hok, Oper.uponIn_enter]
       refine ⟨fun h => by simp [fen] at h, xM ?_⟩
       refine (hcalls w0 φ w us hs e6).mono ?_
       rintro e w' ⟨v, φ', rfl, E, hs', hr⟩
       exact hK v φ' w' E hs' hr
      unfold vZ at h3
      split at h3
      ·simp only [yMc, yMu] at h3
       obtain ⟨rfl, rfl, rfl⟩ := h3
       refine byFn _ rfl ⟨_, by simpa using e2, fun hok => ?_⟩
       have := hok.run (args.map a.eval).toArray w
       simp only [execOp, resolve, show a.eval fo = _ from e1, Deferred.ofValue, Sem.run_bind, Sem.run_pure, Result.andThen_ok, invoke]
       simpa using this
      ·simp only [yMc, yMu] at h3
       obtain ⟨rfl, rfl, rfl⟩ := h3
       obtain ⟨fs, cs, e3, e4, e5⟩ := e1
       refine byFn _ rfl ⟨_, CV.relL_append (CV.relL_append e4 e2) e5, fun hok => ?_⟩
       have := hok.run ((fs ++ args.map a.eval) ++ cs).toArray w
       simp only [execOp, resolve, e3, Deferred.ofValue, Sem.run_bind, Sem.run_pure, Result.andThen_ok, invoke]
       simpa using this
      ·simp only [yMc, yMu] at h3
       obtain ⟨rfl, rfl, rfl⟩ := h3
       obtain ⟨b, e3, e4⟩ := e1
       obtain ⟨f, tmps, assign, body, r1, r2⟩ := hC.yl _ _ _ _ _ _ _ he w0 φ w _ b ro hs (by simpa using e2) e3
       have hrun : (execOp a.eval ⟨dst, .call ⟨.value fo, ⟨args⟩, argTypes⟩, type, pos, after, guard⟩).run P w = .ok (.round b f tmps assign body) w := by
        rw [← r1]
        simp [execOp, resolve, e4, Deferred.ofValue, Sem.run_bind, Sem.run_pure, Result.andThen_ok, invoke]
       refine zJ (fun c hc => by cases hc) ?_
       rw [hrun, Oper.uponIn_round]
       refine ⟨fun h => by simp [fen] at h, r2.mono ?_⟩
       rintro e w' ⟨v, φ', rfl, E, hs', hr⟩
       exact hK v φ' w' E hs' hr
      ·cases h3
     ·cases he
    ·cases he
   ·rename_i x name
    split at he
    ·rename_i t y vs h1 h2
     obtain ⟨u, e1, e3⟩ := hev x (by simp [Op.operands, Call.operands]) _ h1
     have e2 := kI (fun x hx => hev x (by simp [Op.operands, Call.operands]; exact .inr hx)) h2
     obtain ⟨f, hmth, hok, hcalls⟩ := hC.iv _ _ _ _ _ _ _ _ he
     have hrun : (execOp a.eval ⟨dst, .call ⟨.invoke x name, ⟨args⟩, argTypes⟩, type, pos, after, guard⟩).run P w = .ok (.enter f (u :: args.map a.eval).toArray) w := by
      have h3 := hok.run (u :: args.map a.eval).toArray w
      have h4 := hmth.run u w
      have h5 : (#[Value.iface t u] ++ (args.map a.eval).toArray).extract 1 (#[Value.iface t u] ++ (args.map a.eval).toArray).size = (args.map a.eval).toArray := by
       apply Array.ext'
       simp
       exact List.take_of_length_le sq
      have h6 : (#[u] ++ (args.map a.eval).toArray) = (u :: args.map a.eval).toArray := by simp
      have h7 : (#[Value.iface t u] ++ (args.map a.eval).toArray)[0]? = some (.iface t u) := by simp
      simp only [execOp, resolve, e1, Sem.run_bind, Sem.run_pure, Result.andThen_ok, invoke, List.map_toArray, h7, callMethod, h5]
      have h8 : (program : Sem Program).run P w = .ok P w := rfl
      simp only [h8, Result.andThen_ok, h4, h6]
      exact h3
     refine zJ (fun c hc => by cases hc) ?_
     rw [hrun, Oper.uponIn_enter]
     refine ⟨fun h => by simp [fen] at h, xM ?_⟩
     refine (hcalls w0 φ w _ hs ⟨u, _, rfl, e3, e2⟩).mono ?_
     rintro e w' ⟨v, φ', rfl, E, hs', hr⟩
     exact hK v φ' w' E hs' hr
    ·cases he
   ·cases he
  ·cases he
 | false =>
  rw [hc] at he
  simp only [yN5] at he
  split at he
  ·rename_i x h1
   cases he
   obtain ⟨v, e1, e2⟩ := zEh hT hs hev h1
   refine zJ (fun c hc => by rw [hc] at h1; simp [opE] at h1) ?_
   rw [e1, Oper.uponIn_value]
   exact hK v φ w (y0.refl _ _) hs e2
  ·split at he
   ·rename_i x es nx1 h1
    cases he
    obtain ⟨v, φ', w', e1, E, e2, e3⟩ := zGo hT hs hev h1
    refine zJ (fun c hc => by rw [hc] at h1; simp [zAv] at h1) ?_
    rcases e1 with e1 | ⟨e1, rfl⟩
    ·rw [e1, Oper.uponIn_value]
     exact hK v φ' w' E e2 e3
    ·rw [e1, Oper.uponIn_skip]
     exact hK _ φ' w' E e2 e3
   ·cases he
end
def qK (ops : Array Oper) (sl : CS) (o : Oper) : Option Bool :=
 match o.guard with
 | none => some true
 | some (j, want) => match (ops[j]?).bind (·.dst) with
  | some d => match sl.get d with
   | some (true, .raw (.bool b)) => some (bif want then b else !b)
   | some (false, _) => some false
   | _ => none
  | none => none
theorem xK {ops : Array Oper} {sl : CS} {o : Oper} {g : Bool} (h : qK ops sl o = some g) {φ : Phi} {w : World} {a : Act} (hs : ∀ t ∈ o.looksAt ops, ∀ e, sl.get t = some e → zId φ w a t e) : Region.wanted o (yielded ops a.tmps) = g := by
 unfold qK at h
 unfold Region.wanted
 split at h
 ·rename_i hg
  rw [hg]
  simpa using h
 ·rename_i j want hg
  rw [hg]
  split at h
  ·rename_i d hd
   split at h
   ·rename_i b hl
    simp only [yMc] at h
    obtain ⟨v, h1, h2, h3⟩ := hs d (zAw hg hd) _ hl
    simp only [yielded, hd, yMm, h1]
    subst h
    rw [show v = _ from h2 rfl]
    cases b <;> cases want <;> rfl
   ·rename_i x hl
    simp only [yMc] at h
    obtain ⟨v, h1, h2, h3⟩ := hs d (zAw hg hd) _ hl
    simp only [yielded, hd, yMm, h1]
    subst h
    rw [h3 rfl]
    simp [undef]
   ·cases h
  ·cases h
def yCh (φ : Phi) : Option Nat → Option Nat → Prop
 | none, none => True
 | some k, some b => φ k = some b
 | _, _ => False
theorem yCh.mono {φ φ' : Phi} {w w' : World} (E : y0 φ w φ' w') : ∀ {rk ro : Option Nat}, yCh φ rk ro → yCh φ' rk ro
 | none, none, _ => trivial
 | some _, some _, h => (E _ _ h).1
 | none, some _, h => h.elim
 | some _, none, h => h.elim
structure zDc (P : Program) (w0 : FW) (n : Nat) (φ : Phi) (s : ES) (a : Act) (w : World) : Prop where
 size : a.tmps.size = n
 defers : DsR φ w s.ds a.defers
 hs : HS P w0 φ s.h s.nx w
 slot : ∀ t e, s.sl.get t = some e → zId φ w a t e
theorem zDc.put {P : Program} {w0 : FW} {n : Nat} {φ φ' : Phi} {sl : CS} {h h' : CH} {nx nx' : Nat} {ds : List DE} {a : Act} {w w' : World} (hs : zDc P w0 n φ ⟨sl, h, nx, ds⟩ a w) {d : Option Nat} (hd : ∀ t, d = some t → t < n) (E : y0 φ w φ' w') (h1 : HS P w0 φ' h' nx' w') {e : Bool × CV} {v : Value}
  (h2 : e.1 = true → e.2.rel φ' w' v) (h3 : e.1 = false → v = undef) : zDc P w0 n φ' ⟨zWr d e sl, h', nx', ds⟩ (a.put d v) w' := by
 cases d with
 | none => exact ⟨hs.size, hs.defers.ext E, h1, fun t x hx => (hs.slot t x hx).mono E rfl⟩
 | some d =>
  have hlt : d < a.tmps.size := by rw [hs.size]; exact hd d rfl
  refine ⟨by show (a.tmps.setIfInBounds d v).size = n; rw [Array.size_setIfInBounds, hs.size], hs.defers.ext E, h1, fun t x hx => ?_⟩
  simp only [zWr, Tr.get_put] at hx
  cases ht : Nat.beq t d with
  | true =>
   obtain rfl := yMs ht
   rw [ht] at hx
   cases hx
   exact ⟨v, by show (a.tmps.setIfInBounds t v)[t]? = _; simp [hlt], h2, h3⟩
  | false =>
   rw [ht] at hx
   refine (hs.slot t x hx).mono E ?_
   show (a.tmps.setIfInBounds d v)[t]? = _
   rw [yNs, if_neg (fun e => by subst e; rw [yMr] at ht; cases ht)]
def zB3 (n : Nat) : Option Nat → Bool
 | none => true
 | some d => Nat.blt d n
theorem zBn {n : Nat} {d : Option Nat} (h : zB3 n d = true) : ∀ t, d = some t → t < n := fun t ht => by subst ht; exact yY h
def kJ (sl : CS) : Op → Option DE
 | .defer c => match c.callee, c.args.toList with
  | .value g, [] => match evT sl g with
   | some x => match vZ x with
    | some (.fn f, [], cap) => some (.grd f cap)
    | _ => none
   | none => none
  | _, _ => none
 | _ => none
theorem zF7 {φ : Phi} {w : World} {x : CV} {v : Value} {f : FuncId} {cap : List CV} (hcal : vZ x = some (.fn f, [], cap)) (ex : x.rel φ w v) : ∃ cs : List Value, v = .func (.func f) #[] cs.toArray ∧ CV.relL φ w cap cs := by
 unfold vZ at hcal
 split at hcal
 ·simp only [yMc, yMu, Cal.fn.injEq] at hcal
  obtain ⟨rfl, _, rfl⟩ := hcal
  exact ⟨[], ex, rfl⟩
 ·simp only [yMc, yMu, Cal.fn.injEq] at hcal
  obtain ⟨rfl, rfl, rfl⟩ := hcal
  obtain ⟨fs, cs, r1, r2, r3⟩ := ex
  exact ⟨cs, by rw [r1, show fs = [] from r2], r3⟩
 ·simp at hcal
 ·cases hcal
theorem zK2 {P : Program} {w0 : FW} {n : Nat} {φ : Phi} {sl : CS} {h : CH} {nx : Nat} {ds : List DE} {a : Act} {w : World} (hs : zDc P w0 n φ ⟨sl, h, nx, ds⟩ a w) {o : Oper} {d : DE} (he : kJ sl o.op = some d) :
  ∃ x, (execOp a.eval o).run P w = .ok (.defer x) w ∧ d.rel φ w x := by
 obtain ⟨dst, op, type, pos, after, guard⟩ := o
 simp only at he
 unfold kJ at he
 split at he
 ·rename_i c
  split at he
  ·rename_i g hc ha
   split at he
   ·rename_i x hx
    split at he
    ·rename_i f cap hcal
     cases he
     obtain ⟨cs, hv, hcs⟩ := zF7 hcal (jE (fun t _ e ht => hs.slot t e ht) _ hx)
     refine ⟨_, ?_, cs, hcs, rfl⟩
     obtain ⟨callee, args, argTypes⟩ := c
     simp only at hc ha
     subst hc
     have ha : args = #[] := Array.toList_eq_nil_iff.1 ha
     subst ha
     simp only [execOp, resolve, hv]
     simp [go_sem]
    ·cases he
   ·cases he
  ·cases he
 ·cases he
def zUp (top : Bool) (call : z6) (T : TT) (ops : Array Oper) (n : Nat) : List Oper → ES → Option ES
 | [], s => some s
 | o :: r, s => bif zB3 n o.dst then match qK ops s.sl o with
   | some true => match kJ s.sl o.op with
    | some d => bif top && o.dst.isNone then zUp top call T ops n r ⟨s.sl, s.h, s.nx, d :: s.ds⟩ else none
    | none => zVw call T s.h s.nx s.sl o.op fun x h nx => zKi o.dst (true, x) s.sl fun sl => zUp top call T ops n r ⟨sl, h, nx, s.ds⟩
   | some false => zKi o.dst (false, .raw undef) s.sl fun sl => zUp top call T ops n r ⟨sl, s.h, s.nx, s.ds⟩
   | none => none
  else none
theorem zA3 {P : Program} {T : TT} {call : z6} (hC : wH P call) (hT : TOk P T) {w0 : FW} {n : Nat} {ro : Option Nat} {ops : Array Oper} {Q : Exit → Act → World → Prop} {top : Bool} (htop : top = true → ro = none) : ∀ (l : List Oper) (s s' : ES), zUp top call T ops n l s = some s' → ∀ φ a w, zDc P w0 n φ s a w →
  (∀ φ' a' w', y0 φ w φ' w' → zDc P w0 n φ' s' a' w' → Q .normal a' w') → wpListIn (fen ro) 0 P ops Q l a w
 | [], s, s', h, φ, a, w, hs, hQ => by
  cases h
  exact wpListIn_nil (hQ φ a w (y0.refl _ _) hs)
 | o :: r, ⟨sl, h0, nx, ds⟩, s', h, φ, a, w, hs, hQ => by
  unfold zUp at h
  cases hd : zB3 n o.dst with
  | false => rw [hd] at h; cases h
  | true =>
   rw [hd] at h
   simp only [yMq] at h
   split at h
   ·rename_i hg
    have hw := xK hg (φ := φ) (w := w) (a := a) fun t _ e ht => hs.slot t e ht
    refine wpListIn_step fun K hK => ?_
    rw [hw]
    simp only [if_true]
    split at h
    ·rename_i d he
     cases htd : (top && o.dst.isNone) with
     | false => rw [htd] at h; cases h
     | true =>
      rw [htd] at h
      simp only [yMq] at h
      rw [yNj] at htd
      obtain ⟨x, r1, r2⟩ := zK2 hs he
      have hro := htop htd.1
      subst hro
      have hdst : o.dst = none := by
       cases hdd : o.dst with
       | none => rfl
       | some _ => rw [hdd] at htd; cases htd.2
      refine ⟨fun _ _ => trivial, ?_⟩
      show Oper.uponIn _ _ _ _ _ _ _ ((execOp a.eval o).run P w)
      rw [r1]
      simp only [Oper.uponIn, hdst]
      exact hK _ _ (zA3 hC hT htop r _ s' h φ _ w ⟨hs.size, ⟨x, _, rfl, r2, hs.defers⟩, hs.hs, hs.slot⟩ hQ)
    rw [zYv] at h
    obtain ⟨⟨x, h1, nx1⟩, he, h⟩ := Option.bind_eq_some_iff.1 h
    rw [xI] at h
    refine zGy hC hT hs.hs (fun y _ => jE fun t _ e ht => hs.slot t e ht) he fun v φ' w' E h2 h3 => ?_
    exact hK _ _ (zA3 hC hT htop r _ s' h φ' _ w' (hs.put (zBn hd) E h2 (fun _ => h3) (fun h => by cases h)) fun φ'' a'' w'' E' hs'' => hQ φ'' a'' w'' (E.trans E') hs'')
   ·rename_i hg
    rw [xI] at h
    have hw := xK hg (φ := φ) (w := w) (a := a) fun t _ e ht => hs.slot t e ht
    refine wpListIn_step fun K hK => ?_
    rw [hw]
    simp only [yO0, if_false]
    exact ⟨fun _ _ => trivial, hK _ _ (zA3 hC hT htop r _ s' h φ _ w (hs.put (zBn hd) (y0.refl _ _) hs.hs (fun h => by cases h) (fun _ => rfl)) hQ)⟩
   ·cases h
end Go.Proofs.YtioaahmkebojiaaGreatDoor
