import Derived.Test.YtioaahmkebojiaaGreatDoorWC01
import Derived.Test.YtioaahmkebojiaaGreatDoorWC36
namespace Go.Proofs.YtioaahmkebojiaaGreatDoor
set_option linter.unusedVariables false
set_option linter.unusedSimpArgs false
set_option maxHeartbeats 4000000
set_option maxRecDepth 100000
set_option linter.unusedSectionVars false
open Go.RowKit
variable [SpT]
section
variable {γ : Type}
noncomputable def exQ (e : Exit) (a b : Option γ) : Option γ := @Exit.rec (fun _ => Option γ) a (fun _ => b) (fun _ => b) b (fun _ => b) b e
theorem yBx (e : Exit) (a b : Option γ) : exQ e a b = match e with | .normal => a | _ => b := by cases e <;> rfl
noncomputable def blkQ (id : Nat) (e : Exit) (a : Option γ) (b : Option γ) : Option γ := @Exit.rec (fun _ => Option γ) b (fun i => @Bool.rec (fun _ => Option γ) b a (Nat.beq i id)) (fun _ => b) b (fun _ => b) b e
noncomputable def scpQ (e : Exit) (b : Option γ) : Option γ := @Exit.rec (fun _ => Option γ) b (fun _ => b) (fun _ => none) b (fun _ => b) b e
noncomputable def stK (o : Option ES) (k : ES → Option γ) : Option γ := @Option.rec ES (fun _ => Option γ) none k o
noncomputable def regQ (top : Bool) (call : z6) (T : TT) (n : Nat) (ops : Array Oper) (s : ES) (k : ES → Option γ) : Option γ := stK (runQ top call T ops n (ops.toList.map (cO T ops n)) s) k
noncomputable def loopB (o : Option CB) (a : Nat → CS → List Nat → Code → Code → LS → Option γ) : Option γ := @Option.rec CB (fun _ => Option γ) none (fun b => @CB.rec (fun _ => Option γ) (fun _ _ => none) (fun _ => none) (fun n sl ps x y st => a n sl ps x y st) none none b) o
noncomputable def dfrB (o : Option CB) (a : Option γ) : Option γ := @Option.rec CB (fun _ => Option γ) none (fun b => @CB.rec (fun _ => Option γ) (fun _ _ => none) (fun _ => none) (fun _ _ _ _ _ _ => none) a none b) o
noncomputable def lsQ (st : LS) (a b : Option γ) (c : Option Nat → Option γ) : Option γ := @LS.rec (fun _ => Option γ) a b (fun j => c j) st
noncomputable def resK (o : Option (CV × CH × Nat)) (k : CV → CH → Nat → Option γ) : Option γ := @Option.rec (CV × CH × Nat) (fun _ => Option γ) none (fun r => @Prod.rec CV (CH × Nat) (fun _ => Option γ) (fun x q => @Prod.rec CH Nat (fun _ => Option γ) (fun h nx => k x h nx) q) r) o
noncomputable def jmpQ (j : Option Nat) (k : Exit → ES → Option γ) (s : ES) : Option γ := @Option.rec Nat (fun _ => Option γ) (k .ret s) (fun id => k (.exit id) s) j
noncomputable def goQ (call : z6) (f : FuncId) (cap : List CV) (sl : CS) (h1 : CH) (L : Nat) (ds : List DE) (k : Exit → ES → Option γ) : Option γ := resK (call (.fn f) (.yld L :: cap) h1 (Nat.succ L)) fun _ h2 nx2 => loopB (getN h2 L) fun _ _ _ _ _ st => setP none (pathQ L) h2 fun h3 => lsQ st (k .normal ⟨sl, h3, nx2, ds⟩) none fun j => jmpQ j k ⟨sl, h3, nx2, ds⟩
def fncQ (v : CV) (a : FuncId → List CV → Option γ) : Option γ := match vZ v with
 | some (.fn f, [], cap) => a f cap
 | _ => none
noncomputable def rangeQ (call : z6) (n : Nat) (rk : Option Nat) (g : Operand) (ps : List Nat) (x y : Code) (s : ES) (k : Exit → ES → Option γ) : Option γ := evX (cX g) s.sl fun v => fncQ v fun f cap => ifQ (zRj n ps) (@Option.rec Nat (fun _ => Option γ)
  (fN s.nx fun a => setP (some .dfr) (pathQ a) s.h fun h0 => fN (Nat.succ a) fun L => setP (some (.loop n s.sl ps x y .ready)) (pathQ L) h0 fun h1 => goQ call f cap s.sl h1 L (.lp a :: s.ds) k)
  (fun kk => loopB (getN s.h kk) fun _ _ _ _ _ _ => fN s.nx fun L => setP (some (.loop n s.sl ps x y .ready)) (pathQ L) s.h fun h1 => goQ call f cap s.sl h1 L s.ds k) rk) none
theorem yBr (call : z6) (f : FuncId) (cap : List CV) (sl : CS) (h1 : CH) (L : Nat) (ds : List DE) (k : Exit → ES → Option γ) : goQ call f cap sl h1 L ds k = (match call (.fn f) (.yld L :: cap) h1 (L + 1) with
    | some (_, h2, nx2) => match h2.get L with
     | some (.loop _ _ _ _ _ .ready) => some (Exit.normal, (⟨sl, h2.put L none, nx2, ds⟩ : ES))
     | some (.loop _ _ _ _ _ (.done none)) => some (.ret, ⟨sl, h2.put L none, nx2, ds⟩)
     | some (.loop _ _ _ _ _ (.done (some id))) => some (.exit id, ⟨sl, h2.put L none, nx2, ds⟩)
     | _ => none
    | none => none).bind fun r => k r.1 r.2 := by
 show resK (call (.fn f) (.yld L :: cap) h1 (L + 1)) _ = _
 cases call (.fn f) (.yld L :: cap) h1 (L + 1) with
 | none => rfl
 | some r =>
  obtain ⟨x, h2, nx2⟩ := r
  show loopB (getN h2 L) _ = _
  simp only [yX, wD]
  cases h2.get L with
  | none => rfl
  | some b =>
   cases b with
   | loop n1 sl1 ps1 x1 y1 st =>
    cases st with
    | done j => cases j <;> rfl
    | _ => rfl
   | _ => rfl
theorem zRh (call : z6) (n : Nat) (rk : Option Nat) (g : Operand) (ps : List Nat) (x y : Code) (s : ES) (k : Exit → ES → Option γ) : rangeQ call n rk g ps x y s k = (zJ2 call n rk g ps x y s).bind fun r => k r.1 r.2 := by
 unfold rangeQ zJ2
 rw [qN]
 cases evT s.sl g with
 | none => rfl
 | some v =>
  simp only [yMm, fncQ]
  cases hc : vZ v with
  | none => rfl
  | some r =>
   obtain ⟨c, first, cap⟩ := r
   cases c with
   | yl b => rfl
   | iv t name => rfl
   | fn f =>
    cases first with
    | cons a r => rfl
    | nil =>
     simp only [jY]
     cases zRj n ps with
     | false => rfl
     | true =>
      simp only [yMq, jC, wD, yBr]
      cases rk with
      | none => rfl
      | some kk =>
       simp only [yX]
       cases s.h.get kk with
       | none => rfl
       | some b => cases b <;> rfl
noncomputable def loopQ (f : ES → (Exit → ES → Option γ) → Option γ) (k : Exit → ES → Option γ) (m : Nat) : ES → Option γ := @Nat.rec (fun _ => ES → Option γ) (fun _ => none) (fun _ rec s => f s fun e s' => exQ e (rec s') (k e s')) m
noncomputable def evalQ (call : z6) (T : TT) (n : Nat) (dr : Array Oper → ES → Option ES) (rk : Option Nat) (c : Code) : ES → (Exit → ES → Option γ) → Option γ := @Code.rec (fun _ => ES → (Exit → ES → Option γ) → Option γ)
 (fun s k => k .normal s)
 (fun _ ops d s k => @Bool.rec (fun _ => Option γ) (regQ rk.isNone call T n ops s (k .normal)) (stK (dr ops s) (k .normal)) d)
 (fun _ _ ihx ihy s k => ihx s fun e s' => exQ e (ihy s' k) (k e s'))
 (fun c _ _ ihx ihy s k => evX (cX c) s.sl fun v => bolK v (ihx s k) (ihy s k))
 (fun id _ ih s k => ih s fun e s' => blkQ id e (k .normal s') (k e s'))
 (fun _ ih s k => loopQ ih k 1000000 s)
 (fun g ps x y _ _ s k => rangeQ call n rk g ps.toList x y s k)
 (fun id s k => k (.exit id) s)
 (fun _ ih s k => ih s fun e s' => scpQ e (k e s'))
 (fun _ s k => k .normal s)
 (fun _ _ _ => none)
 (fun s k => k .ret s)
 (fun _ _ _ => none) c
theorem zO1 (call : z6) (T : TT) (n : Nat) (dr : Array Oper → ES → Option ES) (rk : Option Nat) : ∀ (c : Code) (s : ES) (k : Exit → ES → Option γ), evalQ call T n dr rk c s k = (xG call T n dr rk c s).bind fun r => k r.1 r.2 := by
 intro c
 induction c with
 | skip => intro s k; rfl
 | region id ops d =>
  intro s k
  cases d with
  | true => show stK (dr ops s) (k .normal) = _; simp only [xG, yMq]; cases dr ops s <;> rfl
  | false =>
   show stK (runQ _ _ _ _ _ _ _) (k .normal) = _
   rw [zQz]
   simp only [xG, yN5]
   cases zUp rk.isNone call T ops n ops.toList s <;> rfl
 | seq x y ihx ihy =>
  intro s k
  show evalQ call T n dr rk x s (fun e s' => exQ e (evalQ call T n dr rk y s' k) (k e s')) = _
  rw [ihx]
  simp only [xG]
  cases xG call T n dr rk x s with
  | none => rfl
  | some r =>
   obtain ⟨e, s'⟩ := r
   simp only [yMm, yBx]
   cases e <;> simp only [yMm] <;> exact ihy s' k
 | cond c x y ihx ihy =>
  intro s k
  show evX (cX c) s.sl (fun v => bolK v (evalQ call T n dr rk x s k) (evalQ call T n dr rk y s k)) = _
  rw [qN]
  simp only [xG]
  cases evT s.sl c with
  | none => rfl
  | some v =>
   simp only [yMm, zTi]
   cases v with
   | raw u =>
    cases u with
    | bool b =>
     cases b with
     | true => exact ihx s k
     | false => exact ihy s k
    | _ => rfl
   | _ => rfl
 | block id c ih =>
  intro s k
  show evalQ call T n dr rk c s (fun e s' => blkQ id e (k .normal s') (k e s')) = _
  rw [ih]
  simp only [xG]
  cases xG call T n dr rk c s with
  | none => rfl
  | some r =>
   obtain ⟨e, s'⟩ := r
   cases e with
   | exit i =>
    simp only [yMm, blkQ]
    cases Nat.beq i id <;> rfl
   | _ => rfl
 | loop c ih =>
  intro s k
  have key : ∀ (m : Nat) (s : ES), loopQ (evalQ call T n dr rk c) k m s = (zSd (xG call T n dr rk c) m s).bind fun r => k r.1 r.2 := by
   intro m
   induction m with
   | zero => intro s; rfl
   | succ m ihm =>
    intro s
    show evalQ call T n dr rk c s (fun e s' => exQ e (loopQ (evalQ call T n dr rk c) k m s') (k e s')) = _
    rw [ih]
    simp only [zSd]
    cases xG call T n dr rk c s with
    | none => rfl
    | some r =>
     obtain ⟨e, s'⟩ := r
     cases e with
     | normal => exact ihm s'
     | _ => rfl
  show loopQ (evalQ call T n dr rk c) k 1000000 s = _
  rw [key]
  rfl
 | rangeFunc g ps x y ihx ihy =>
  intro s k
  show rangeQ call n rk g ps.toList x y s k = _
  simp only [xG]
  exact zRh call n rk g ps.toList x y s k
 | exit id => intro s k; rfl
 | scope c ih =>
  intro s k
  show evalQ call T n dr rk c s (fun e s' => scpQ e (k e s')) = _
  rw [ih]
  simp only [xG]
  cases xG call T n dr rk c s with
  | none => rfl
  | some r =>
   obtain ⟨e, s'⟩ := r
   cases e <;> rfl
 | label l => intro s k; rfl
 | goto l => intro s k; rfl
 | ret => intro s k; rfl
 | refuse w => intro s k; rfl
end
noncomputable def argsQ {γ : Type} (xs : List CV) : Nat → (CS → γ) → γ := @List.rec CV (fun _ => Nat → (CS → γ) → γ) (fun _ k => k .e) (fun x _ ih i k => fN (Nat.succ i) fun j => ih j fun sl => setP (some (true, x)) (pathQ i) sl k) xs
theorem zOg {γ : Type} : ∀ (xs : List CV) (i : Nat) (k : CS → γ), argsQ xs i k = k (zG7 i xs)
 | [], _, _ => rfl
 | x :: r, i, k => by
  show fN (Nat.succ i) (fun j => argsQ r j fun sl => setP (some (true, x)) (pathQ i) sl k) = _
  rw [jC, zOg r, wD]; rfl
noncomputable def putPsQ {γ : Type} (ps : List Nat) : List CV → CS → (CS → γ) → γ := @List.rec Nat (fun _ => List CV → CS → (CS → γ) → γ) (fun _ sl k => k sl) (fun p _ ih xs sl k => @List.rec CV (fun _ => γ) (k sl) (fun x xs _ => ih xs sl fun sl => setP (some (true, x)) (pathQ p) sl k) xs) ps
theorem zJ4 {γ : Type} : ∀ (ps : List Nat) (xs : List CV) (sl : CS) (k : CS → γ), putPsQ ps xs sl k = k (zLc ps xs sl)
 | [], xs, sl, k => by cases xs <;> rfl
 | p :: ps, [], sl, k => rfl
 | p :: ps, x :: xs, sl, k => by
  show putPsQ ps xs sl (fun sl => setP (some (true, x)) (pathQ p) sl k) = _
  rw [zJ4 ps xs, wD]; rfl
noncomputable def slotQ {γ : Type} (o : Option (Bool × CV)) (k : CV → Option γ) : Option γ := @Option.rec (Bool × CV) (fun _ => Option γ) none (fun e => @Prod.rec Bool CV (fun _ => Option γ) (fun b v => @Bool.rec (fun _ => Option γ) none (k v) b) e) o
inductive RQ where
 | tmp (p : Pt)
 | cell (p : Pt) (agg : Bool) (sz : Nat)
 | gen (r : ResultVar)
def cR (T : TT) : ResultVar → RQ
 | .tmp t => .tmp (z4 t)
 | .cell p t => match T t with
  | some i => bif zG1 i then .cell (z4 p) i.k.agg i.size else .gen (.cell p t)
  | none => .gen (.cell p t)
noncomputable def resQ {γ : Type} (T : TT) (h : CH) (sl : CS) (rs : List RQ) : (List CV → Option γ) → Option γ := @List.rec RQ (fun _ => (List CV → Option γ) → Option γ) (fun k => k []) (fun r _ ih k => @RQ.rec (fun _ => Option γ)
 (fun p => slotQ (getP p sl) fun x => ih fun xs => k (x :: xs))
 (fun p agg sz => slotQ (getP p sl) fun v => boxQ v (fun b off => cbQ (getN h b) fun _ cs => cutQ agg sz cs off fun x => ih fun xs => k (x :: xs)) none)
 (fun r => @Option.rec (List CV) (fun _ => Option γ) none (fun x => ih fun xs => k (x ++ xs)) (zDj T h sl [r])) r) rs
theorem zRc (T : TT) (h : CH) (sl : CS) (r : ResultVar) (rs : List ResultVar) : zDj T h sl (r :: rs) = (zDj T h sl [r]).bind fun x => (zDj T h sl rs).bind fun xs => some (x ++ xs) := by
 cases r with
 | tmp t =>
  simp only [zDj]
  cases sl.get t with
  | none => rfl
  | some e =>
   obtain ⟨b, v⟩ := e
   cases b <;> cases zDj T h sl rs <;> rfl
 | cell p t =>
  simp only [zDj]
  cases sl.get p with
  | none => rfl
  | some e =>
   obtain ⟨b, v⟩ := e
   cases b with
   | false => rfl
   | true =>
    cases v with
    | box k off =>
     cases T t with
     | none => rfl
     | some i =>
      cases hr : zDj T h sl rs with
      | none =>
       simp only [Option.bind_none]
       cases w8 h k with
       | none => rfl
       | some cs =>
        simp only
        cases (Nat.blt 0 i.size && Nat.ble (off + i.size) cs.length) <;> rfl
      | some xs =>
       simp only
       cases w8 h k with
       | none => rfl
       | some cs =>
        simp only
        cases (Nat.blt 0 i.size && Nat.ble (off + i.size) cs.length) <;> rfl
    | _ => rfl
theorem zRb {γ : Type} (T : TT) (h : CH) (sl : CS) : ∀ (rs : List ResultVar) (k : List CV → Option γ), resQ T h sl (rs.map (cR T)) k = (zDj T h sl rs).bind k
 | [], k => rfl
 | r :: rs, k => by
  have ih := zRb (γ := γ) T h sl rs
  have hgen : @Option.rec (List CV) (fun _ => Option γ) none (fun x => resQ T h sl (rs.map (cR T)) fun xs => k (x ++ xs)) (zDj T h sl [r]) = (zDj T h sl (r :: rs)).bind k := by
   rw [zRc T h sl r rs]
   cases zDj T h sl [r] with
   | none => rfl
   | some x =>
    simp only [yMm]
    rw [ih]
    cases zDj T h sl rs <;> rfl
  cases r with
  | tmp t =>
   show slotQ (getP (z4 t) sl) (fun x => resQ T h sl (rs.map (cR T)) fun xs => k (x :: xs)) = _
   rw [z4, jZ _ _ _ (yPr t)]
   simp only [zDj]
   cases sl.get t with
   | none => rfl
   | some e =>
    obtain ⟨b, v⟩ := e
    cases b with
    | false => rfl
    | true =>
     show resQ T h sl (rs.map (cR T)) (fun xs => k (v :: xs)) = _
     rw [ih]
     cases zDj T h sl rs <;> rfl
  | cell p t =>
   cases ht : T t with
   | none =>
    show @RQ.rec (fun _ => Option γ) _ _ _ (cR T (.cell p t)) = _
    simp only [cR, ht]
    exact hgen
   | some i =>
    cases hb : zG1 i with
    | false =>
     show @RQ.rec (fun _ => Option γ) _ _ _ (cR T (.cell p t)) = _
     simp only [cR, ht, hb, yN5]
     exact hgen
    | true =>
     obtain ⟨h1, h2⟩ := zDq hb
     show @RQ.rec (fun _ => Option γ) _ _ _ (cR T (.cell p t)) = _
     simp only [cR, ht, hb, yMq]
     show slotQ (getP (z4 p) sl) (fun v => boxQ v (fun b off => cbQ (getN h b) fun _ cs => cutQ i.k.agg i.size cs off fun x => resQ T h sl (rs.map (cR T)) fun xs => k (x :: xs)) none) = _
     rw [z4, jZ _ _ _ (yPr p)]
     simp only [zDj, ht, h1, Bool.true_and]
     cases sl.get p with
     | none => rfl
     | some e =>
      obtain ⟨b, v⟩ := e
      cases b with
      | false => rfl
      | true =>
       cases v with
       | box b off =>
        show cbQ (getN h b) _ = _
        simp only [yX, zI3 h2, ih]
        cases zDj T h sl rs with
        | none =>
         cases h.get b with
         | none => rfl
         | some blk =>
          cases blk with
          | cells full cs =>
           show (bif Nat.ble (off + i.size) cs.length then none else none) = none
           cases Nat.ble (off + i.size) cs.length <;> rfl
          | _ => rfl
        | some xs =>
         show _ = Option.bind (match w8 h b with
          | some cs => bif Nat.blt 0 i.size && Nat.ble (off + i.size) cs.length then some (zAc i.k.agg i.size cs off :: xs) else none
          | none => none) k
         simp only [w8, h1, Bool.true_and]
         cases h.get b with
         | none => rfl
         | some blk =>
          cases blk with
          | cells full cs =>
           show (bif Nat.ble (off + i.size) cs.length then k (zAc i.k.agg i.size cs off :: xs) else none) = Option.bind (bif Nat.ble (off + i.size) cs.length then some (zAc i.k.agg i.size cs off :: xs) else none) k
           cases Nat.ble (off + i.size) cs.length <;> rfl
          | _ => rfl
       | _ => rfl
noncomputable def retQ {γ : Type} (xs : List CV) (k : CV → Option γ) : Option γ := @List.rec CV (fun _ => Option γ) (k (.tup [])) (fun x r _ => @List.rec CV (fun _ => Option γ) (k x) (fun _ _ _ => k (.tup xs)) r) xs
theorem zXt {γ : Type} (xs : List CV) (k : CV → Option γ) : retQ xs k = k (retE xs) := by
 cases xs with
 | nil => rfl
 | cons x r => cases r <;> rfl
noncomputable def takQ {γ : Type} (gr : zWf) (ds : List DE) : CH → Nat → (CH → Nat → Option γ) → Option γ := @List.rec DE (fun _ => CH → Nat → (CH → Nat → Option γ) → Option γ) (fun h nx k => k h nx) (fun d _ ih h nx k => @DE.rec (fun _ => Option γ) (fun d => dfrB (getN h d) (setP none (pathQ d) h fun h => ih h nx k)) (fun f cap => @Option.rec (CH × Nat) (fun _ => Option γ) none (fun r => @Prod.rec CH Nat (fun _ => Option γ) (fun h nx => ih h nx k) r) (gr f cap h nx)) d) ds
theorem zKx {γ : Type} (gr : zWf) : ∀ (ds : List DE) (h : CH) (nx : Nat) (k : CH → Nat → Option γ), takQ gr ds h nx k = (zFo gr ds h nx).bind fun r => k r.1 r.2
 | [], h, nx, k => rfl
 | .lp d :: ds, h, nx, k => by
  show dfrB (getN h d) (setP none (pathQ d) h fun h => takQ gr ds h nx k) = _
  rw [yX, wD, zKx gr ds]
  simp only [zFo]
  cases h.get d with
  | none => rfl
  | some b => cases b <;> rfl
 | .grd f cap :: ds, h, nx, k => by
  show @Option.rec (CH × Nat) (fun _ => Option γ) none (fun r => @Prod.rec CH Nat (fun _ => Option γ) (fun h nx => takQ gr ds h nx k) r) (gr f cap h nx) = _
  simp only [zFo]
  cases gr f cap h nx with
  | none => rfl
  | some r => obtain ⟨h, nx⟩ := r; exact zKx gr ds h nx k
noncomputable def endR (gr : zWf) (T : TT) (rs : List RQ) (s : ES) : Option (CV × CH × Nat) := takQ gr s.ds s.h s.nx fun h nx => resQ T h s.sl rs fun xs => retQ xs fun v => some (v, h, nx)
theorem zYu (gr : zWf) (T : TT) (rs : List ResultVar) (s : ES) : endR gr T (rs.map (cR T)) s = zZy gr T rs s := by
 unfold endR zZy
 rw [zKx]
 cases zFo gr s.ds s.h s.nx with
 | none => rfl
 | some r =>
  obtain ⟨h, nx⟩ := r
  simp only [yMm, zRb, zXt]
  cases zDj T h s.sl rs <;> rfl
noncomputable def endQ (e : Exit) (o : Option (CV × CH × Nat)) : Option (CV × CH × Nat) := @Exit.rec (fun _ => Option (CV × CH × Nat)) o (fun _ => none) (fun _ => none) o (fun _ => none) none e
noncomputable def norQ {γ : Type} (e : Exit) (a : Option γ) : Option γ := @Exit.rec (fun _ => Option γ) a (fun _ => none) (fun _ => none) none (fun _ => none) none e
noncomputable def rndQ (e : Exit) (k : Nat) (h : CH) (nx n : Nat) (sl : CS) (ps : List Nat) (x y : Code) : Option (CV × CH × Nat) := @Exit.rec (fun _ => Option (CV × CH × Nat))
 (setP (some (.loop n sl ps x y .ready)) (pathQ k) h fun h => some (.raw (.bool true), h, nx))
 (fun id => setP (some (.loop n sl ps x y (.done (some id)))) (pathQ k) h fun h => some (.raw (.bool false), h, nx))
 (fun _ => none)
 (setP (some (.loop n sl ps x y (.done none))) (pathQ k) h fun h => some (.raw (.bool false), h, nx))
 (fun _ => none) none e
noncomputable def yieldQ (call : z6) (T : TT) (dr : Nat → Array Oper → ES → Option ES) (k : Nat) (args : List CV) (h : CH) (nx : Nat) : Option (CV × CH × Nat) :=
 loopB (getN h k) fun n sl ps x y st => lsQ st (ifQ (Nat.beq args.length ps.length && zRj n ps) (putPsQ ps args sl fun sl => evalQ call T n (dr n) (some k) x ⟨sl, h, nx, []⟩ fun e s1 => norQ e
  (loopB (getN s1.h k) fun n1 sl1 ps1 x1 y1 st1 => lsQ st1 (setP (some (.loop n1 sl1 ps1 x1 y1 .busy)) (pathQ k) s1.h fun h1 => evalQ call T n (dr n) (some k) y ⟨s1.sl, h1, s1.nx, s1.ds⟩ fun e s2 =>
   loopB (getN s2.h k) fun n2 sl2 ps2 x2 y2 st2 => lsQ st2 none (rndQ e k s2.h s2.nx n2 sl2 ps2 x2 y2) fun _ => none) none fun _ => none)) none) none fun _ => none
theorem zQ5 (call : z6) (T : TT) (dr : Nat → Array Oper → ES → Option ES) (k : Nat) (args : List CV) (h : CH) (nx : Nat) : yieldQ call T dr k args h nx = zIg call T dr k args h nx := by
 unfold yieldQ zIg
 rw [yX]
 cases h.get k with
 | none => rfl
 | some b =>
  cases b with
  | loop n sl ps x y st =>
   cases st with
   | ready =>
    show ifQ (Nat.beq args.length ps.length && zRj n ps) _ none = _
    rw [jY]
    cases hb : (Nat.beq args.length ps.length && zRj n ps) with
    | false => simp only [hb, yN5]
    | true =>
     simp only [hb, yMq, zJ4, zO1]
     cases xG call T n (dr n) (some k) x ⟨zLc ps args sl, h, nx, []⟩ with
     | none => rfl
     | some r =>
      obtain ⟨e, s1⟩ := r
      cases e with
      | normal =>
       show loopB (getN s1.h k) _ = _
       simp only [yX]
       cases s1.h.get k with
       | none => rfl
       | some b1 =>
        cases b1 with
        | loop n1 sl1 ps1 x1 y1 st1 =>
         cases st1 with
         | ready =>
          show setP (some (.loop n1 sl1 ps1 x1 y1 .busy)) (pathQ k) s1.h _ = _
          rw [wD]
          simp only
          cases xG call T n (dr n) (some k) y ⟨s1.sl, s1.h.put k (some (.loop n1 sl1 ps1 x1 y1 .busy)), s1.nx, s1.ds⟩ with
          | none => rfl
          | some r =>
           obtain ⟨e, s2⟩ := r
           show loopB (s2.h.get k) _ = _
           simp only
           cases s2.h.get k with
           | none => rfl
           | some b2 =>
            cases b2 with
            | loop n2 sl2 ps2 x2 y2 st2 =>
             cases st2 with
             | busy =>
              show rndQ e k s2.h s2.nx n2 sl2 ps2 x2 y2 = _
              cases e <;> first | rfl | exact wD _ _ _ _
             | _ => rfl
            | _ => rfl
         | _ => rfl
        | _ => rfl
      | _ => rfl
   | _ => rfl
  | _ => rfl
noncomputable def fnQ (O : FuncId → List CV → CH → Option CV) (T : TT) (F : FuncId → Option FnE) (dr : z6 → Nat → Array Oper → ES → Option ES) (call : z6) (f : FuncId) (args : List CV) (h : CH) (nx : Nat) : Option (CV × CH × Nat) := match O f args h with
 | some r => some (r, h, nx)
 | none => match zQh f args h nx with
 | some q => some q
 | none => match F f with
  | some x => bif Nat.ble args.length x.n then argsQ args 0 fun sl => evalQ call T x.n (dr call x.n) none x.c ⟨sl, h, nx, []⟩ fun e s => endQ e (endR (zZu call T F (dr call)) T (x.rs.map (cR T)) s) else none
  | none => none
noncomputable def callQ (O : FuncId → List CV → CH → Option CV) (T : TT) (F : FuncId → Option FnE) (dr : z6 → Nat → Array Oper → ES → Option ES) (call : z6) : z6 := fun c args h nx => @Cal.rec (fun _ => Option (CV × CH × Nat)) (fun f => fnQ O T F dr call f args h nx) (fun k => yieldQ call T (dr call) k args h nx) (fun t name => @Option.rec FuncId (fun _ => Option (CV × CH × Nat)) none (fun f => call (.fn f) args h nx) (SpT.mth t name)) c
noncomputable def evalFQ (O : FuncId → List CV → CH → Option CV) (T : TT) (F : FuncId → Option FnE) (dr : z6 → Nat → Array Oper → ES → Option ES) (m : Nat) : z6 := @Nat.rec (fun _ => z6) (fun _ _ _ _ => none) (fun _ call => callQ O T F dr call) m
theorem kH (O : FuncId → List CV → CH → Option CV) (T : TT) (F : FuncId → Option FnE) (dr : z6 → Nat → Array Oper → ES → Option ES) : ∀ m, evalFQ O T F dr m = xV O T F dr m
 | 0 => by funext c args h nx; rw [xV]; rfl
 | m + 1 => by
  have ih := kH O T F dr m
  show callQ O T F dr (evalFQ O T F dr m) = _
  rw [ih]
  funext c args h nx
  cases c with
  | yl k => rw [xV]; exact zQ5 _ _ _ _ _ _ _
  | iv t name =>
   rw [xV]
   show @Option.rec FuncId (fun _ => Option (CV × CH × Nat)) none (fun f => xV O T F dr m (.fn f) args h nx) (SpT.mth t name) = _
   cases SpT.mth t name <;> rfl
  | fn f =>
   rw [xV]
   show fnQ _ _ _ _ _ _ _ _ _ = _
   unfold fnQ
   cases O f args h with
   | some r => rfl
   | none =>
    simp only
    cases zQh f args h nx with
    | some q => rfl
    | none =>
    cases F f with
    | none => rfl
    | some x =>
     simp only
     cases Nat.ble args.length x.n with
     | false => rfl
     | true =>
      simp only [yMq, zOg, zO1, zYu]
      cases xG (xV O T F dr m) T x.n (dr (xV O T F dr m) x.n) none x.c ⟨zG7 0 args, h, nx, []⟩ with
      | none => rfl
      | some r =>
       obtain ⟨e, s⟩ := r
       cases e <;> rfl
end Go.Proofs.YtioaahmkebojiaaGreatDoor
