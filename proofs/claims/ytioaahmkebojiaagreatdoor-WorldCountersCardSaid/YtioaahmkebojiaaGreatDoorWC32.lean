import Derived.Test.YtioaahmkebojiaaGreatDoorWC01
import Derived.LoopNIn
import Derived.RangeFuncLeaves
import Derived.RangeFuncRecord
import Derived.RecoverIn
import Derived.Scope
import Derived.Test.YtioaahmkebojiaaGreatDoorWC31
namespace Go.Proofs.YtioaahmkebojiaaGreatDoor
set_option linter.unusedVariables false
set_option linter.unusedSimpArgs false
set_option maxHeartbeats 4000000
set_option maxRecDepth 100000
set_option linter.unusedSectionVars false
open Go.RowKit
variable [SpT]
section
variable {P : Program} {b : Frame} {a : Act} {k : List Item} {cs : List Frame} {w : World}
theorem wJ {c : Code} : step P (lone (b.atR a (.code (.scope c) :: k)) cs w) = .next (lone (b.atR a (.code c :: .inScope c :: k)) cs w) :=
 step_lone_go (by simp [stepG, stepG.exec, Frame.atR])
theorem zFr {c : Code} : step P (lone (b.atR a (.inScope c :: k)) cs w) = .next (lone (b.atR a k) cs w) :=
 step_lone_go (by simp [stepG, stepG.exec, Frame.atR])
theorem zKo {F : Fence} {n : Nat} {Q : Exit → Act → World → Prop} {c : Code} (h : c.wpIn F n P (Exit.noGoto Q) a w) : (Code.scope c).wpIn F n P Q a w := by
 intro b k cs hro hb hr
 have h0 : (lone (b.atR a (.code (.scope c) :: k)) cs w).fenced P F := fenced_calm hb hr rfl
 obtain ⟨e, a₁, w₁, hq, harr⟩ := h b (.inScope c :: k) cs hro hb hr
 cases e with
 | normal => exact ⟨.normal, a₁, w₁, hq, .head h0 wJ (StepsIn.trans harr (.one (fenced_calm hb hr rfl) zFr))⟩
 | exit id =>
  have hx : exitTo id (.inScope c :: k) = exitTo id k := by simp [exitTo]
  exact ⟨.exit id, a₁, w₁, hq, fun k' hk => .head h0 wJ (harr.1 k' (by rw [hx]; exact hk)),
   fun hr' hk => let ⟨k₁, h1, h2⟩ := harr.2 hr' (by rw [hx]; exact hk); ⟨k₁, h1, .head h0 wJ h2⟩⟩
 | goto l => exact hq.elim
 | ret => exact ⟨_, a₁, w₁, hq, .of_steps (.one h0 wJ) harr⟩
 | panic ch => exact ⟨_, a₁, w₁, hq, .of_steps (.one h0 wJ) harr⟩
 | outgrown => exact ⟨_, a₁, w₁, hq, .of_steps (.one h0 wJ) harr⟩
end
def zSd (f : ES → Option (Exit × ES)) : Nat → ES → Option (Exit × ES)
 | 0, _ => none
 | n + 1, s => match f s with
  | some (.normal, s') => zSd f n s'
  | r => r
def zRj (n : Nat) (ps : List Nat) : Bool := zJe ps && ps.all fun p => Nat.blt p n
def zJ2 (call : z6) (n : Nat) (rk : Option Nat) (g : Operand) (ps : List Nat) (assign body : Code) (s : ES) : Option (Exit × ES) :=
 match evT s.sl g with
 | some x => match vZ x with
  | some (.fn f, [], cap) => bif zRj n ps then match (match rk with
    | none => some ((s.h.put s.nx (some .dfr)).put (s.nx + 1) (some (.loop n s.sl ps assign body .ready)), s.nx + 1, .lp s.nx :: s.ds)
    | some k => match s.h.get k with
     | some (.loop _ _ _ _ _ _) => some (s.h.put s.nx (some (.loop n s.sl ps assign body .ready)), s.nx, s.ds)
     | _ => none) with
   | some (h1, L, ds) => match call (.fn f) (.yld L :: cap) h1 (L + 1) with
    | some (_, h2, nx2) => match h2.get L with
     | some (.loop _ _ _ _ _ .ready) => some (.normal, ⟨s.sl, h2.put L none, nx2, ds⟩)
     | some (.loop _ _ _ _ _ (.done none)) => some (.ret, ⟨s.sl, h2.put L none, nx2, ds⟩)
     | some (.loop _ _ _ _ _ (.done (some id))) => some (.exit id, ⟨s.sl, h2.put L none, nx2, ds⟩)
     | _ => none
    | none => none
   | none => none
   else none
  | _ => none
 | none => none
def xG (call : z6) (T : TT) (n : Nat) (dr : Array Oper → ES → Option ES) (rk : Option Nat) : Code → ES → Option (Exit × ES)
 | .skip, s => some (.normal, s)
 | .region _ ops d, s => match (bif d then dr ops s else zUp rk.isNone call T ops n ops.toList s) with
  | some s' => some (.normal, s')
  | none => none
 | .seq x y, s => match xG call T n dr rk x s with
  | some (.normal, s') => xG call T n dr rk y s'
  | r => r
 | .cond c x y, s => match evT s.sl c with
  | some (.raw (.bool true)) => xG call T n dr rk x s
  | some (.raw (.bool false)) => xG call T n dr rk y s
  | _ => none
 | .block id c, s => match xG call T n dr rk c s with
  | some (.exit i, s') => bif Nat.beq i id then some (.normal, s') else some (.exit i, s')
  | r => r
 | .loop c, s => zSd (xG call T n dr rk c) 1000000 s
 | .rangeFunc g ps x y, s => zJ2 call n rk g ps.toList x y s
 | .exit id, s => some (.exit id, s)
 | .label _, s => some (.normal, s)
 | .ret, s => some (.ret, s)
 | .scope c, s => match xG call T n dr rk c s with
  | some (.goto _, _) => none
  | r => r
 | _, _ => none
def zDd (P : Program) (n : Nat) (dr : Array Oper → ES → Option ES) : Prop := ∀ (id : Nat) ops s s', dr ops s = some s' → ∀ (w0 : FW) (ro : Option Nat) φ a w (Q : Exit → Act → World → Prop), zDc P w0 n φ s a w → (∀ φ' a' w', y0 φ w φ' w' → zDc P w0 n φ' s' a' w' → Q .normal a' w') → (Code.region id ops true).wpIn (fen ro) 0 P Q a w
theorem zP7 {n : Nat} {ps : List Nat} (h : zRj n ps = true) : ps.Nodup ∧ ∀ p ∈ ps, p < n := by
 rw [zRj, yNj, yP7] at h
 exact ⟨jR h.1, fun p hp => yY (h.2 p hp)⟩
theorem HS.non {P : Program} {w0 : FW} {w : World} {φ : Phi} {h : CH} {nx : Nat} (hs : HS P w0 φ h nx w) {k b : Nat} {blk blk' : CB} {o o' : Obj} (hk : h.get k = some blk) (hb : φ k = some b) (ho : w.heap[b]? = some o) (hc : bsz w b = 0) (hr : y0 φ w φ (w.putObj b o') → zKm φ (w.putObj b o') b blk') :
  y0 φ w φ (w.putObj b o') ∧ HS P w0 φ (h.put k (some blk')) nx (w.putObj b o') :=
 hs.stored hk hb ⟨rfl, rfl, rfl⟩ sq (fun j hj => World.putObj_heap_other hj) (.inl hc) hr
theorem HS.nonDrop {P : Program} {w0 : FW} {w : World} {φ : Phi} {h : CH} {nx : Nat} (hs : HS P w0 φ h nx w) {k b : Nat} {blk : CB} {o o' : Obj} (hk : h.get k = some blk) (hb : φ k = some b) (ho : w.heap[b]? = some o) (hc : bsz w b = 0) :
  y0 φ w φ (w.putObj b o') ∧ HS P w0 φ (h.put k none) nx (w.putObj b o') := by
 have E : y0 φ w φ (w.putObj b o') := fun j c hj => ⟨hj, by
  by_cases e : c = b
  ·rw [e]; exact .inl hc
  ·exact szK.same (World.putObj_heap_other e)⟩
 have hd := hs.drop k
 obtain ⟨b', g1, g2, _⟩ := hs.heap.here k blk hk
 rw [hb] at g1
 cases g1
 refine ⟨E, ⟨⟨hs.below.os, hs.below.tape, hs.below.output, by simp; exact hs.below.size, fun j hj => (World.putObj_heap_other fun e => hj (by rw [e]; exact g2)).trans (hs.below.block j hj)⟩, ⟨fun j bl hj => ?_, hd.heap.inj, hs.heap.fresh⟩, hs.tabs, hs.tab, hs.num⟩⟩
 obtain ⟨c, h1, h2, h3⟩ := hd.heap.here j bl hj
 refine ⟨c, h1, h2, h3.mono E (World.putObj_heap_other fun e => ?_)⟩
 subst e
 have hjk : j ≠ k := fun e => by subst e; rw [Tr.get_same] at hj; cases hj
 rw [Tr.get_other _ _ hjk] at hj
 exact hjk (hs.heap.inj j k bl blk c hj hk h1 hb)
theorem zLb {P : Program} {call : z6} (hC : wH P call) {n : Nat} {rk : Option Nat} {g : Operand} {ps : Array Nat} {assign body : Code} {s s' : ES} {e : Exit} (h : zJ2 call n rk g ps.toList assign body s = some (e, s')) {w0 : FW} {ro : Option Nat} {φ : Phi} {a : Act} {w : World} {Q : Exit → Act → World → Prop}
  (hs : zDc P w0 n φ s a w) (hR : yCh φ rk ro) (hQ : ∀ φ' a' w', y0 φ w φ' w' → zDc P w0 n φ' s' a' w' → Q e a' w') : (Code.rangeFunc g ps assign body).wpIn (fen ro) 0 P Q a w := by
 unfold zJ2 at h
 split at h
 ·rename_i x hx
  split at h
  ·rename_i f cap hcal
   cases hps : zRj n ps.toList with
   | false => rw [hps] at h; cases h
   | true =>
    rw [hps] at h
    simp only [yMq] at h
    split at h
    ·rename_i h1 L ds hent
     split at h
     ·rename_i r h2 nx2 hcall
      refine wpIn_rangeFunc fun fn _ => ?_
      -- the record of the loop is laid
      have lay : ∃ (l : Nat) (mk : List Nat) (w1 : World) (φ1 : Phi) (dB : Nat), (Instr.enterLoop fn a.tmps ps assign body ro).run P w = .ok (l, mk.map zNl) w1 ∧ y0 φ w φ1 w1 ∧ φ1 L = some l ∧ HS P w0 φ1 h1 (L + 1) w1 ∧ DsR φ1 w1 ds (mk.map zNl ++ a.defers) := by
       cases rk with
       | none =>
        cases ro with
        | some b => exact hR.elim
        | none =>
         simp only [yMc, yMu] at hent
         obtain ⟨rfl, rfl, rfl⟩ := hent
         obtain ⟨φ1, E1, p1, s1⟩ := hs.hs.push (vM w (.deferred (some []))) (zAa _ _) (blk := .dfr) fun φ' _ => heap_alloc_new w _
         obtain ⟨rec, hrec⟩ : ∃ r : Loop, r = { state := .ready, pending := none, fn, tmps := a.tmps, params := ps, assign, body, defers := w.heap.size } := ⟨_, rfl⟩
         obtain ⟨φ2, E2, p2, s2⟩ := s1.push (vM (w.alloc (.deferred (some []))) (.loop rec)) (zAa _ _) (blk := .loop n s.sl ps.toList assign body .ready) fun φ' E => ⟨a.tmps, fn, w.heap.size, by rw [heap_alloc_new, hrec]; simp [lsS, lsP], hs.size, zBy.mono (E1.trans E) hs.slot⟩
         refine ⟨_, [w.heap.size], _, φ2, w.heap.size, ?_, E1.trans E2, p2, s2, ?_⟩
         ·rw [hrec]
          simp [Instr.enterLoop, newObj, Sem.run_bind, Sem.run, zNl, Result.andThen]
          rfl
         ·exact ⟨_, _, rfl, ⟨_, (E2 _ _ p1).1, rfl⟩, hs.defers.ext (E1.trans E2)⟩
       | some k =>
        cases ro with
        | none => exact hR.elim
        | some b =>
         have hR : φ k = some b := hR
         simp only at hent
         split at hent
         ·rename_i n' sl' ps' x' y' st' hk
          simp only [yMc, yMu] at hent
          obtain ⟨rfl, rfl, rfl⟩ := hent
          obtain ⟨b', g1, _, tm, fn', dB, g2, _⟩ := hs.hs.heap.here k _ hk
          rw [hR] at g1
          cases g1
          obtain ⟨rec, hrec⟩ : ∃ r : Loop, r = { state := .ready, pending := none, fn, tmps := a.tmps, params := ps, assign, body, defers := dB } := ⟨_, rfl⟩
          obtain ⟨φ2, E2, p2, s2⟩ := hs.hs.push (vM w (.loop rec)) (zAa _ _) (blk := .loop n s.sl ps.toList assign body .ready) fun φ' E => ⟨a.tmps, fn, dB, by rw [heap_alloc_new, hrec]; simp [lsS, lsP], hs.size, zBy.mono E hs.slot⟩
          refine ⟨_, [], _, φ2, dB, ?_, E2, p2, s2, hs.defers.ext E2⟩
          rw [hrec]
          simp [Instr.enterLoop, newObj, Sem.run_bind, Sem.run, Result.andThen, run_getLoop g2]
         ·cases hent
      obtain ⟨l, mk, w1, φ1, dB, q1, E1, q2, s1, q3⟩ := lay
      have ex := CV.rel_mono E1 _ _ (jE (fun t _ e ht => hs.slot t e ht) _ hx)
      obtain ⟨cs, hv, hcs⟩ := zF7 hcal ex
      obtain ⟨hok, hcalls⟩ := hC.fn _ _ _ _ _ _ _ hcall
      refine ⟨l, mk.map zNl, w1, { target := .fn (.func f) cs.toArray, args := #[.func (.yield l) #[] #[]] }, w1, f, #[.func (.yield l) #[] #[]] ++ cs.toArray, w1, q1, ?_, fun _ _ => trivial, ?_, (fun h => by cases h), xM ?_⟩
      ·simp only [resolve, hv]
       simp [go_sem]
      ·have := hok.run (#[.func (.yield l) #[] #[]] ++ cs.toArray) w1
       simp only [invoke]
       simpa using this
      rw [show #[Value.func (.yield l) #[] #[]] ++ cs.toArray = (Value.func (.yield l) #[] #[] :: cs).toArray from by simp]
      refine (hcalls w0 φ1 w1 _ s1 ⟨_, _, rfl, ⟨l, q2, rfl⟩, hcs⟩).mono ?_
      rintro e3 w3 ⟨v, φ3, rfl, E3, s3, _⟩
      have key : ∃ n' sl' ps' x' y' st, h2.get L = some (.loop n' sl' ps' x' y' st) ∧ s' = ⟨s.sl, h2.put L none, nx2, ds⟩ ∧ (st = .ready ∧ e = .normal ∨ st = .done none ∧ e = .ret ∨ ∃ id, st = .done (some id) ∧ e = .exit id) := by
       split at h
       ·rename_i hg; cases h; exact ⟨_, _, _, _, _, _, hg, rfl, .inl ⟨rfl, rfl⟩⟩
       ·rename_i hg; cases h; exact ⟨_, _, _, _, _, _, hg, rfl, .inr (.inl ⟨rfl, rfl⟩)⟩
       ·rename_i hg; cases h; exact ⟨_, _, _, _, _, _, hg, rfl, .inr (.inr ⟨_, rfl, rfl⟩)⟩
       ·cases h
      obtain ⟨n', sl', ps', x', y', st, hg, rfl, hst⟩ := key
      have q4 := (E3 _ _ q2).1
      obtain ⟨b', g1, _, tm, fn', dB', g2, _⟩ := s3.heap.here L _ hg
      rw [q4] at g1
      cases g1
      have hb : lsS st ≠ .busy := by rcases hst with ⟨rfl, _⟩ | ⟨rfl, _⟩ | ⟨id, rfl, _⟩ <;> simp [lsS]
      refine ⟨_, _, run_endLoop g2 hb, ?_⟩
      have hc0 : bsz w3 l = 0 := by unfold bsz; rw [g2]
      have fin : ∀ o : Loop, zDc P w0 n φ3 ⟨s.sl, h2.put L none, nx2, ds⟩ ⟨a.tmps, mk.map zNl ++ a.defers⟩ (w3.putObj l (.loop o)) ∧ y0 φ w φ3 (w3.putObj l (.loop o)) := fun o => by
       obtain ⟨E4, s4⟩ := s3.nonDrop (o' := .loop o) hg q4 g2 hc0
       have E5 := (E1.trans E3).trans E4
       exact ⟨⟨hs.size, q3.ext (E3.trans E4), s4, zBy.mono E5 hs.slot⟩, E5⟩
      rcases hst with ⟨rfl, rfl⟩ | ⟨rfl, rfl⟩ | ⟨id, rfl, rfl⟩
      ·exact hQ _ _ _ (fin _).2 (fin _).1
      ·exact wpIn_ret (hQ _ _ _ (fin _).2 (fin _).1)
      ·exact wpIn_exit (hQ _ _ _ (fin _).2 (fin _).1)
     ·cases h
    ·cases h
  ·cases h
 ·cases h
theorem jD {P : Program} {T : TT} {call : z6} (hC : wH P call) (hT : TOk P T) {n : Nat} {dr : Array Oper → ES → Option ES} (hD : zDd P n dr) (rk : Option Nat) : ∀ (c : Code) (s : ES) (e : Exit) (s' : ES), xG call T n dr rk c s = some (e, s') → ∀ (w0 : FW) (ro : Option Nat) φ a w (Q : Exit → Act → World → Prop), zDc P w0 n φ s a w → yCh φ rk ro →
  (∀ φ' a' w', y0 φ w φ' w' → zDc P w0 n φ' s' a' w' → Q e a' w') → c.wpIn (fen ro) 0 P Q a w := by
 intro c
 induction c with
 | skip => intro s e s' h w0 ro φ a w Q hs hR hQ; cases h; exact wpIn_skip (hQ φ a w (y0.refl _ _) hs)
 | region id ops d =>
  intro s e s' h w0 ro φ a w Q hs hR hQ
  simp only [xG] at h
  split at h
  ·rename_i s1 h1
   cases h
   cases d with
   | true => exact hD id ops s s' h1 w0 ro φ a w Q hs hQ
   | false => exact wpIn_region_list (zA3 hC hT (fun ht => by cases rk with | none => (cases ro with | none => rfl | some b => exact hR.elim) | some k => cases ht) _ s s' h1 φ a w hs hQ)
  ·cases h
 | seq x y ihx ihy =>
  intro s e s' h w0 ro φ a w Q hs hR hQ
  simp only [xG] at h
  refine wpIn_seq ?_
  split at h
  ·rename_i s1 h1
   exact ihx s _ s1 h1 w0 ro φ a w _ hs hR fun φ1 a1 w1 E1 hs1 => ihy s1 e s' h w0 ro φ1 a1 w1 Q hs1 (hR.mono E1) fun φ2 a2 w2 E2 hs2 => hQ φ2 a2 w2 (E1.trans E2) hs2
  ·rename_i h1
   refine ihx s e s' h w0 ro φ a w _ hs hR fun φ1 a1 w1 E1 hs1 => ?_
   cases e with
   | normal => exact absurd h (h1 s')
   | _ => exact hQ φ1 a1 w1 E1 hs1
 | cond c x y ihx ihy =>
  intro s e s' h w0 ro φ a w Q hs hR hQ
  simp only [xG] at h
  split at h
  ·rename_i h1
   have e1 : a.eval c = .bool true := jE (fun t _ e ht => hs.slot t e ht) _ h1
   exact wpIn_cond_split e1 (fun _ => ihx s e s' h w0 ro φ a w Q hs hR hQ) (fun hb => by cases hb)
  ·rename_i h1
   have e1 : a.eval c = .bool false := jE (fun t _ e ht => hs.slot t e ht) _ h1
   exact wpIn_cond_split e1 (fun hb => by cases hb) (fun _ => ihy s e s' h w0 ro φ a w Q hs hR hQ)
  ·cases h
 | block id c ih =>
  intro s e s' h w0 ro φ a w Q hs hR hQ
  simp only [xG] at h
  refine wpIn_block ?_
  split at h
  ·rename_i i s1 h1
   cases hb : Nat.beq i id with
   | true =>
    rw [hb] at h
    cases h
    obtain rfl := yMs hb
    refine ih s _ s' h1 w0 ro φ a w _ hs hR fun φ1 a1 w1 E1 hs1 => ?_
    simp only [Exit.inBlock, if_true]
    exact hQ φ1 a1 w1 E1 hs1
   | false =>
    rw [hb] at h
    cases h
    have hne : i ≠ id := fun e => by subst e; rw [yMr] at hb; cases hb
    refine ih s _ s' h1 w0 ro φ a w _ hs hR fun φ1 a1 w1 E1 hs1 => ?_
    simp only [Exit.inBlock, if_neg hne]
    exact hQ φ1 a1 w1 E1 hs1
  ·rename_i h1
   refine ih s e s' h w0 ro φ a w _ hs hR fun φ1 a1 w1 E1 hs1 => ?_
   cases e with
   | exit i => exact absurd h (h1 i s')
   | _ => exact hQ φ1 a1 w1 E1 hs1
 | loop c ih =>
  intro s e s' h w0 ro φ a w Q hs hR hQ
  simp only [xG] at h
  refine wpIn_loop_rounds 1000000 ?_
  generalize 1000000 = m at h ⊢
  induction m generalizing s φ a w with
  | zero => cases h
  | succ m ihm =>
   rw [roundsIn_succ]
   simp only [zSd] at h
   split at h
   ·rename_i s1 h1
    exact ih s _ s1 h1 w0 ro φ a w _ hs hR fun φ1 a1 w1 E1 hs1 => ihm s1 φ1 a1 w1 hs1 (hR.mono E1) (fun φ2 a2 w2 E2 hs2 => hQ φ2 a2 w2 (E1.trans E2) hs2) h
   ·rename_i h1
    refine ih s e s' h w0 ro φ a w _ hs hR fun φ1 a1 w1 E1 hs1 => ?_
    cases e with
    | normal => exact absurd h (h1 s')
    | _ => exact hQ φ1 a1 w1 E1 hs1
 | rangeFunc g ps x y => intro s e s' h w0 ro φ a w Q hs hR hQ; exact zLb hC h hs hR hQ
 | exit id => intro s e s' h w0 ro φ a w Q hs hR hQ; cases h; exact wpIn_exit (hQ φ a w (y0.refl _ _) hs)
 | label l => intro s e s' h w0 ro φ a w Q hs hR hQ; cases h; exact wpIn_label (hQ φ a w (y0.refl _ _) hs)
 | ret => intro s e s' h w0 ro φ a w Q hs hR hQ; cases h; exact wpIn_ret (hQ φ a w (y0.refl _ _) hs)
 | scope c ih =>
  intro s e s' h w0 ro φ a w Q hs hR hQ
  simp only [xG] at h
  split at h
  ·cases h
  ·rename_i h1
   refine zKo (ih s e s' h w0 ro φ a w _ hs hR fun φ1 a1 w1 E1 hs1 => ?_)
   cases e with
   | goto l => exact absurd h (h1 l s')
   | _ => exact hQ φ1 a1 w1 E1 hs1
 | _ => intro s e s' h; cases h
def zDj (T : TT) (h : CH) (sl : CS) : List ResultVar → Option (List CV)
 | [] => some []
 | .tmp t :: r => match sl.get t, zDj T h sl r with
  | some (true, x), some xs => some (x :: xs)
  | _, _ => none
 | .cell p t :: r => match sl.get p, T t, zDj T h sl r with
  | some (true, .box k off), some i, some xs => match w8 h k with
   | some cs => bif Nat.blt 0 i.size && Nat.ble (off + i.size) cs.length then some (zAc i.k.agg i.size cs off :: xs) else none
   | none => none
  | _, _, _ => none
theorem zCk {P : Program} {T : TT} (hT : TOk P T) {w0 : FW} {n : Nat} {φ : Phi} {s : ES} {a : Act} {w : World} (hs : zDc P w0 n φ s a w) : ∀ {rs : List ResultVar} {xs : List CV}, zDj T s.h s.sl rs = some xs →
  ∃ vs : List Value, CV.relL φ w xs vs ∧ (rs.mapM (zD3 a.tmps)).run P w = .ok vs w
 | [], xs, h => by cases h; exact ⟨[], rfl, rfl⟩
 | .tmp t :: r, xs, h => by
  simp only [zDj] at h
  split at h
  ·rename_i x xs' h1 h2
   cases h
   obtain ⟨vs, e1, e2⟩ := zCk hT hs h2
   obtain ⟨v, e3, e4, _⟩ := hs.slot t _ h1
   refine ⟨v :: vs, ⟨v, vs, rfl, e4 rfl, e1⟩, ?_⟩
   simp [List.mapM_cons, zD3, yMt, e3, e2]
  ·cases h
 | .cell p t :: r, xs, h => by
  simp only [zDj] at h
  split at h
  ·rename_i k off i xs' h1 h2 h3
   split at h
   ·rename_i cs h4
    cases hb : (Nat.blt 0 i.size && Nat.ble (off + i.size) cs.length) with
    | false => rw [hb] at h; cases h
    | true =>
     rw [hb] at h
     cases h
     rw [yNj] at hb
     have p1 : 0 < i.size := yY hb.1
     have p2 : off + i.size ≤ cs.length := yP8 hb.2
     obtain ⟨vs, e1, e2⟩ := zCk hT hs h3
     obtain ⟨v, e3, e4, _⟩ := hs.slot p _ h1
     obtain ⟨b, e5, rfl⟩ := e4 rfl
     obtain ⟨b', us, tail, E, g1, g2, g3⟩ := kK hs.hs h4
     rw [e5] at g1
     cases g1
     have hl := CV.relL_length g3
     have := kY (P := P) (w := w) (hT _ _ h2) (b := b) (o := 0) (off := off) (vs := us ++ tail) p1 (by rw [yN1]; omega) (fun j u hj => by simpa [World.cell?, g2] using hj)
     rw [yN9, zBo oq, zSn oq] at this
     refine ⟨_ :: vs, ⟨_, vs, rfl, zDr g3 p1 p2, e1⟩, ?_⟩
     have hld : (Instr.loadAt t (.pointer (some ⟨b, off, none⟩)) : Sem Value).run P w = (do loadVar t (← asAddr (.pointer (some ⟨b, off, none⟩))) : Sem Value).run P w := rfl
     rw [hld] at this
     simp only [List.mapM_cons, zD3, yMt, e3, yN6, Sem.run_bind, Result.andThen_ok]
     simp only [Sem.run_bind] at this
     rw [this]
     simp [e2]
   ·cases h
  ·cases h
def retE (xs : List CV) : CV := match xs with
 | [x] => x
 | xs => .tup xs
def zG7 : Nat → List CV → CS
 | _, [] => .e
 | k, x :: xs => (zG7 (k + 1) xs).put k (some (true, x))
theorem zFa {t : Nat} {e : Bool × CV} : ∀ {k : Nat} {xs : List CV}, (zG7 k xs).get t = some e → ∃ j x, t = k + j ∧ xs[j]? = some x ∧ e = (true, x)
 | _, [], h => by cases h
 | k, x :: xs, h => by
  simp only [zG7, Tr.get_put] at h
  cases ht : Nat.beq t k with
  | true =>
   rw [ht] at h
   cases h
   exact ⟨0, x, yMs ht, rfl, rfl⟩
  | false =>
   rw [ht] at h
   obtain ⟨j, y, e1, e2, e3⟩ := zFa h
   exact ⟨j + 1, y, by omega, by simpa using e2, e3⟩
structure FnE where
 n : Nat
 rs : List ResultVar
 c : Code
def zU9 (P : Program) (F : FuncId → Option FnE) : Prop := ∀ f x, F f = some x → ∃ fn, P.funcs[f]? = some fn ∧ fn.body = some x.c ∧ (fn.name == "runtime.NumGoroutine") = false ∧ fn.ntmps = x.n ∧ fn.results.toList = x.rs
abbrev zWf := FuncId → List CV → CH → Nat → Option (CH × Nat)
def zFo (gr : zWf) : List DE → CH → Nat → Option (CH × Nat)
 | [], h, nx => some (h, nx)
 | .lp d :: ds, h, nx => match h.get d with
  | some .dfr => zFo gr ds (h.put d none) nx
  | _ => none
 | .grd f cap :: ds, h, nx => match gr f cap h nx with
  | some (h, nx) => zFo gr ds h nx
  | none => none
def yCk (P : Program) (gr : zWf) : Prop := ∀ f cap h nx h' nx', gr f cap h nx = some (h', nx') → wS P f ∧ ∀ (w0 : FW) φ w cs, HS P w0 φ h nx w → CV.relL φ w cap cs →
 CallsDIn Fence.wide 0 P f cs.toArray .returning w fun e u w' => ∃ v φ', e = .returned v ∧ u = .returning ∧ y0 φ w φ' w' ∧ HS P w0 φ' h' nx' w'
theorem zLn {P : Program} {gr : zWf} (hG : yCk P gr) {w0 : FW} {fn : Func} {tmps : Array Value} {R : Ending → World → Prop} : ∀ (ds : List DE) (l : List Deferred) (φ : Phi) (h h' : CH) (nx nx' : Nat) (w : World), zFo gr ds h nx = some (h', nx') → DsR φ w ds l → HS P w0 φ h nx w →
  (∀ φ' w', y0 φ w φ' w' → HS P w0 φ' h' nx' w' → ∃ v, (results fn tmps).run P w' = .ok v w' ∧ R (.returned v) w') → LeavesInM Fence.wide 0 P fn tmps R l .returning w
 | [], _, φ, h, h', nx, nx', w, ht, rfl, hs, hR => by
  cases ht
  exact hR φ w (y0.refl _ _) hs
 | .lp d :: ds, _, φ, h, h', nx, nx', w, ht, ⟨_, l, rfl, ⟨b, hd, rfl⟩, hl⟩, hs, hR => by
  unfold zFo at ht
  split at ht
  ·rename_i hk
   obtain ⟨b', g1, _, g2⟩ := hs.heap.here d _ hk
   rw [hd] at g1
   cases g1
   have g2 : w.heap[b]? = some (.deferred (some [])) := g2
   obtain ⟨E, hs'⟩ := hs.nonDrop (o' := .deferred none) hk hd g2 (by unfold bsz; rw [g2])
   exact ⟨by simp, .inl ⟨b, _, rfl, run_takeDeferred g2, zLn hG ds l φ _ h' _ _ _ ht (hl.ext E) hs' fun φ' w' E' hs'' => hR φ' w' (E.trans E') hs''⟩⟩
  ·cases ht
 | .grd f cap :: ds, _, φ, h, h', nx, nx', w, ht, ⟨_, l, rfl, ⟨cs, hc, rfl⟩, hl⟩, hs, hR => by
  unfold zFo at ht
  split at ht
  ·rename_i h1 nx1 hg
   obtain ⟨k1, k2⟩ := hG _ _ _ _ _ _ hg
   refine ⟨by simp, .inr ⟨(fun h => by cases h), _, _, f, cs.toArray, rfl, ?_, fun _ _ => trivial, (k2 w0 φ w cs hs hc).mono ?_⟩⟩
   ·have := k1.run cs.toArray w
    simpa [invoke] using this
   ·rintro e u w' ⟨v, φ', rfl, rfl, E, hs'⟩
    exact zLn hG ds l φ' _ h' _ _ _ ht (hl.ext E) hs' fun φ'' w'' E' hs'' => hR φ'' w'' (E.trans E') hs''
  ·cases ht
def zZy (gr : zWf) (T : TT) (rs : List ResultVar) (s : ES) : Option (CV × CH × Nat) := match zFo gr s.ds s.h s.nx with
 | some (h, nx) => match zDj T h s.sl rs with
  | some xs => some (retE xs, h, nx)
  | none => none
 | none => none
def zEp (o : Oper) : Bool := match o.op with
 | .call c => match c.callee with
  | .builtin .recover => Nat.beq c.args.size 0 && o.guard.isNone
  | _ => false
 | _ => false
def zUt (T : TT) (ops : Array Oper) (n : Nat) : List Oper → ES → Option ES
 | [], s => some s
 | o :: r, s => bif zB3 n o.dst then match qK ops s.sl o with
   | some true => match opE T s.h s.sl o.op with
    | some x => x.force fun x => zKi o.dst (true, x) s.sl fun sl => zUt T ops n r ⟨sl, s.h, s.nx, s.ds⟩
    | none => none
   | _ => none
  else none
def zZu (call : z6) (T : TT) (F : FuncId → Option FnE) (dr : Nat → Array Oper → ES → Option ES) : zWf := fun f cap h nx => match F f with
 | some x => bif Nat.ble cap.length x.n && x.rs.isEmpty then match x.c with
   | .seq (.region _ ops false) y => match ops.toList with
    | o :: r => bif zEp o && zB3 x.n o.dst then match zUt T ops x.n r ⟨zWr o.dst (true, .raw .nilIface) (zG7 0 cap), h, nx, []⟩ with
      | some s => match xG call T x.n (dr x.n) none y s with
       | some (.normal, ⟨_, h, nx, []⟩) => some (h, nx)
       | some (.ret, ⟨_, h, nx, []⟩) => some (h, nx)
       | _ => none
      | none => none
     else none
    | [] => none
   | _ => none
  else none
 | none => none
def zLc : List Nat → List CV → CS → CS
 | p :: ps, x :: xs, sl => (zLc ps xs sl).put p (some (true, x))
 | _, _, sl => sl
def zIg (call : z6) (T : TT) (dr : Nat → Array Oper → ES → Option ES) (k : Nat) (args : List CV) (h : CH) (nx : Nat) : Option (CV × CH × Nat) :=
 match h.get k with
 | some (.loop n sl ps x y .ready) => bif Nat.beq args.length ps.length && zRj n ps then match xG call T n (dr n) (some k) x ⟨zLc ps args sl, h, nx, []⟩ with
  | some (.normal, s1) => match s1.h.get k with
   | some (.loop n1 sl1 ps1 x1 y1 .ready) => match xG call T n (dr n) (some k) y { s1 with h := s1.h.put k (some (.loop n1 sl1 ps1 x1 y1 .busy)) } with
    | some (e, s2) => match s2.h.get k, e with
     | some (.loop n2 sl2 ps2 x2 y2 .busy), .normal => some (.raw (.bool true), s2.h.put k (some (.loop n2 sl2 ps2 x2 y2 .ready)), s2.nx)
     | some (.loop n2 sl2 ps2 x2 y2 .busy), .ret => some (.raw (.bool false), s2.h.put k (some (.loop n2 sl2 ps2 x2 y2 (.done none))), s2.nx)
     | some (.loop n2 sl2 ps2 x2 y2 .busy), .exit id => some (.raw (.bool false), s2.h.put k (some (.loop n2 sl2 ps2 x2 y2 (.done (some id)))), s2.nx)
     | _, _ => none
    | none => none
   | _ => none
  | _ => none
  else none
 | _ => none
def yD3 : CV → Bool
 | .raw (.int .i64 n) => zLu .i64 n
 | .sym (.rng .i64 lo hi) => leI (-9223372036854775808) lo && leI hi 9223372036854775807
 | _ => false
def zQh (f : FuncId) (args : List CV) (h : CH) (nx : Nat) : Option (CV × CH × Nat) := bif SpT.abs && Nat.beq f aiN then match args with
  | [x, y, .raw (.int .i64 b)] => match zIy x with
   | some (o, bnd) => bif yD3 y && (eqI b 10 && (zCi h o && Nat.ble bnd 1000000)) then some (.row nx (bnd + 21), apH h (zR4 o nx), nx + 1) else none
   | none => none
  | _ => none
 else none
theorem zYj {φ : Phi} {w : World} {y : CV} {v : Value} (h : yD3 y = true) (hr : y.rel φ w v) : ∃ i, v = .int .i64 i ∧ -9223372036854775808 ≤ i ∧ i ≤ 9223372036854775807 := by
 unfold yD3 at h
 split at h
 ·rename_i n
  exact ⟨n, hr, zCr h⟩
 ·rename_i lo hi
  obtain ⟨n, rfl, h1, h2⟩ := hr
  rw [yNj, yK, yK, yPk, yPk] at h
  exact ⟨n, rfl, by omega, by omega⟩
 ·cases h
theorem zKu {P : Program} (hM : MOk P) {f : FuncId} {args : List CV} {h : CH} {nx : Nat} {r : CV} {h' : CH} {nx' : Nat} (he : zQh f args h nx = some (r, h', nx')) : wS P f ∧ ∀ (w0 : FW) φ w vs, HS P w0 φ h nx w → CV.relL φ w args vs →
  Calls P f vs.toArray w fun e w' => ∃ v φ', e = .returned v ∧ y0 φ w φ' w' ∧ HS P w0 φ' h' nx' w' ∧ r.rel φ' w' v := by
 unfold zQh at he
 cases ha : (SpT.abs && Nat.beq f aiN) with
 | false => rw [ha] at he; cases he
 | true =>
  rw [ha] at he
  simp only [yMq] at he
  rw [yNj] at ha
  obtain rfl := yMs ha.2
  have hA := hM.ai ha.1
  split at he
  ·rename_i x y b
   split at he
   ·rename_i o bnd hk
    cases hb : (yD3 y && (eqI b 10 && (zCi h o && Nat.ble bnd 1000000))) with
    | false => rw [hb] at he; cases he
    | true =>
     rw [hb] at he
     cases he
     simp only [yNj, wA, yPk] at hb
     obtain ⟨b1, rfl, b3, b4⟩ := hb
     have b4 := yP8 b4
     have ho := zGi b3
     refine ⟨hA.ok, fun w0 φ w vs hs hr => ?_⟩
     obtain ⟨u, _, rfl, hx, v2, _, rfl, hy, v3, _, rfl, hz, hnil⟩ := hr
     obtain rfl : _ = [] := hnil
     obtain ⟨i, rfl, i1, i2⟩ := zYj b1 hy
     obtain rfl : v3 = _ := hz
     obtain ⟨n, n1, n2, n3⟩ := zR3 hs hk ho hx
     refine (hA.calls i w u n i1 i2 n2 oq fun W hW => (hs.tabs W fun g hg => ?_).tabs).mono ?_
     ·have hnf : ¬ w0.free g := fun hf => by have := hf.1; omega
      refine Eq.trans (hW.block g ?_ fun e => ?_) (hs.below.block g hnf)
      ·exact yMl hg (yMk w0.le hs.below.size)
      ·obtain ⟨k, rfl, hφ⟩ := n3 g e.symm
       obtain ⟨b', e1, e2, _⟩ := hs.heap.here k _ (ho k rfl)
       rw [hφ] at e1
       cases e1
       exact hnf e2
     ·rintro e w' ⟨v', n', rfl, m1, m2, m3⟩
      obtain ⟨φ', q1, q2, q3⟩ := zR2 hs hk ho hx m3 (b' := bnd + 21) oq oq
      exact ⟨v', φ', rfl, q1, q2, q3⟩
   ·cases he
  ·cases he
def xV (O : FuncId → List CV → CH → Option CV) (T : TT) (F : FuncId → Option FnE) (dr : z6 → Nat → Array Oper → ES → Option ES) : Nat → z6
 | 0, _, _, _, _ => none
 | m + 1, .yl k, args, h, nx => zIg (xV O T F dr m) T (dr (xV O T F dr m)) k args h nx
 | m + 1, .iv t name, args, h, nx => match SpT.mth t name with
  | some f => xV O T F dr m (.fn f) args h nx
  | none => none
 | m + 1, .fn f, args, h, nx => match O f args h with
  | some r => some (r, h, nx)
  | none => match zQh f args h nx with
  | some q => some q
  | none => match F f with
   | some x => bif Nat.ble args.length x.n then match xG (xV O T F dr m) T x.n (dr (xV O T F dr m) x.n) none x.c ⟨zG7 0 args, h, nx, []⟩ with
     | some (.normal, s) => zZy (zZu (xV O T F dr m) T F (dr (xV O T F dr m))) T x.rs s
     | some (.ret, s) => zZy (zZu (xV O T F dr m) T F (dr (xV O T F dr m))) T x.rs s
     | _ => none
    else none
   | none => none
def v8 (P : Program) (O : FuncId → List CV → CH → Option CV) : Prop := ∀ f args h r, O f args h = some r → wS P f ∧ ∀ (w0 : FW) φ nx w vs, HS P w0 φ h nx w → CV.relL φ w args vs →
 Calls P f vs.toArray w fun e w' => ∃ v φ', e = .returned v ∧ y0 φ w φ' w' ∧ HS P w0 φ' h nx w' ∧ r.rel φ' w' v
theorem zJ3 {t : Nat} {e : Bool × CV} {sl : CS} : ∀ {ps : List Nat} {xs : List CV}, (zLc ps xs sl).get t = some e → (∃ (j : Nat) (x : CV), ps[j]? = some t ∧ xs[j]? = some x ∧ e = (true, x)) ∨ ((t ∉ ps ∨ ps.length ≠ xs.length) ∧ sl.get t = some e)
 | [], xs, h => .inr ⟨.inl sq, h⟩
 | p :: ps, [], h => .inr ⟨.inr sq, h⟩
 | p :: ps, x :: xs, h => by
  simp only [zLc, Tr.get_put] at h
  cases ht : Nat.beq t p with
  | true =>
   obtain rfl := yMs ht
   rw [ht] at h
   cases h
   exact .inl ⟨0, x, rfl, rfl, rfl⟩
  | false =>
   rw [ht] at h
   have hne : t ≠ p := fun e => by subst e; rw [yMr] at ht; cases ht
   rcases zJ3 h with ⟨j, y, h1, h2, h3⟩ | ⟨h1, h2⟩
   ·exact .inl ⟨j + 1, y, h1, h2, h3⟩
   ·refine .inr ⟨h1.imp (fun h1 => by simp [hne, h1]) (fun h1 => by simpa using h1), h2⟩
theorem zSw : ∀ (ps : List Nat) (vs : List Value) (tmps : Array Value) (j t : Nat) (v : Value), ps.Nodup → (∀ p ∈ ps, p < tmps.size) → ps[j]? = some t → vs[j]? = some v → ((ps.zip vs).foldl (fun (t : Array Value) (p : Nat × Value) => t.setIfInBounds p.1 p.2) tmps)[t]? = some v
 | [], _, _, j, _, _, _, _, h, _ => by simp at h
 | _ :: _, [], _, j, _, _, _, _, _, h => by simp at h
 | p :: ps, u :: vs, tmps, 0, t, v, hn, hl, h1, h2 => by
  simp only [yMb, yMc] at h1 h2
  subst h1; subst h2
  simp only [List.zip_cons_cons, yN0]
  rw [zCs ps vs _ (List.nodup_cons.1 hn).1]
  have := hl p sq
  simp [this]
 | p :: ps, u :: vs, tmps, j + 1, t, v, hn, hl, h1, h2 => by
  simp only [yMd] at h1 h2
  simp only [List.zip_cons_cons, yN0]
  exact zSw ps vs _ j t v (List.nodup_cons.1 hn).2 (fun q hq => by simpa using hl q (by simp [hq])) h1 h2
theorem zKn {P : Program} {T : TT} {call : z6} (hC : wH P call) (hT : TOk P T) {dr : Nat → Array Oper → ES → Option ES} (hD : ∀ n, zDd P n (dr n)) {k : Nat} {args : List CV} {h : CH} {nx : Nat} {r : CV} {h' : CH} {nx' : Nat} (he : zIg call T dr k args h nx = some (r, h', nx'))
  {w0 : FW} {φ : Phi} {w : World} {vs : List Value} {b : Nat} {ro : Option Nat} (hs : HS P w0 φ h nx w) (hr : CV.relL φ w args vs) (hb : φ k = some b) :
  ∃ f tmps assign body, (Instr.yield b vs.toArray).run P w = .ok (.round b f tmps assign body) w ∧ RoundIn (fen ro) 0 P b f tmps assign body w fun e w' => ∃ v φ', e = .returned v ∧ y0 φ w φ' w' ∧ HS P w0 φ' h' nx' w' ∧ r.rel φ' w' v := by
 unfold zIg at he
 split at he
 ·rename_i n sl ps x y hk
  cases hc : (Nat.beq args.length ps.length && zRj n ps) with
  | false => rw [hc] at he; cases he
  | true =>
   rw [hc] at he
   simp only [yMq] at he
   rw [yNj] at hc
   have hlen := yMs hc.1
   have hps := zP7 hc.2
   split at he
   ·rename_i s1 h1
    split at he
    ·rename_i n1 sl1 ps1 x1 y1 hk1
     split at he
     ·rename_i e s2 h2
      obtain ⟨b', g1, _, tm, fn, dB, g2, g3, g4⟩ := hs.heap.here k _ hk
      rw [hb] at g1
      cases g1
      have hvl := CV.relL_length hr
      have hy := run_yield (P := P) (args := vs.toArray) g2 (by simp [hvl, hlen])
      have hfold : (ps.toArray.zip vs.toArray).foldl (fun tmps (t, a) => tmps.setIfInBounds t a) tm = (ps.zip vs).foldl (fun (t : Array Value) (p : Nat × Value) => t.setIfInBounds p.1 p.2) tm := by
       simp only [List.zip_toArray, List.foldl_toArray]
      simp only [hfold] at hy
      refine ⟨fn, _, x, y, hy, roundIn_of_wpIn (F := fen ro) trivial ?_⟩
      have hs0 : zDc P w0 n φ ⟨zLc ps args sl, h, nx, []⟩ ⟨(ps.zip vs).foldl (fun (t : Array Value) (p : Nat × Value) => t.setIfInBounds p.1 p.2) tm, []⟩ w := by
       refine ⟨by rw [zJu]; exact g3, rfl, hs, fun t e ht => ?_⟩
       rcases zJ3 ht with ⟨j, z, e1, e2, rfl⟩ | ⟨e1, e2⟩
       ·obtain ⟨v, e3, e4⟩ := CV.relL_get hr e2
        exact ⟨v, zSw ps vs tm j t v hps.1 (fun p hp => by rw [g3]; exact hps.2 p hp) e1 e3, fun _ => e4, fun h => by cases h⟩
       ·obtain ⟨v, e3, e4⟩ := g4 t e e2
        have e1 : t ∉ ps := e1.elim id fun e1 => absurd hlen.symm e1
        exact ⟨v, (zCs ps vs tm e1).trans e3, e4⟩
      refine jD hC hT (hD n) (some k) x _ _ _ h1 w0 (some b) φ _ w _ hs0 hb fun φ1 a1 w1 E1 hs1 => ?_
      have hb1 := (E1 _ _ hb).1
      obtain ⟨b', g1, _, tm1, fn1, dB1, g5, g6, g7⟩ := hs1.hs.heap.here k _ hk1
      rw [hb1] at g1
      cases g1
      have hz1 : bsz w1 b = 0 := by unfold bsz; rw [g5]
      have hlt1 : b < w1.heap.size := (yMi.1 g5).1
      refine ⟨_, run_beginRound g5 rfl, ?_⟩
      obtain ⟨E2, s3⟩ := hs1.hs.non (blk' := .loop n1 sl1 ps1 x1 y1 .busy) hk1 hb1 g5 hz1 (o' := .loop { state := .busy, pending := none, fn := fn1, tmps := tm1, params := ps1.toArray, assign := x1, body := y1, defers := dB1 }) fun E => ⟨tm1, fn1, dB1, by rw [World.putObj_heap_same hlt1]; rfl, g6, g7.mono E⟩
      have hs3 : zDc P w0 n φ1 { s1 with h := s1.h.put k (some (.loop n1 sl1 ps1 x1 y1 .busy)) } a1 (w1.putObj b (.loop { state := .busy, pending := none, fn := fn1, tmps := tm1, params := ps1.toArray, assign := x1, body := y1, defers := dB1 })) := ⟨hs1.size, hs1.defers.ext E2, s3, zBy.mono E2 hs1.slot⟩
      refine jD hC hT (hD n) (some k) y _ _ _ h2 w0 (some b) φ1 a1 _ _ hs3 hb1 fun φ2 a2 w2 E3 hs2 => ?_
      have hb2 := (E3 _ _ hb1).1
      have fin : ∀ (j : Option (Option Nat)) (n2 : Nat) (sl2 : CS) (ps2 : List Nat) (x2 y2 : Code), s2.h.get k = some (.loop n2 sl2 ps2 x2 y2 .busy) → ∀ st, (st = match j with | none => LS.ready | some i => LS.done i) →
        ∃ v w', (Instr.endRound b (j.map jc)).run P w2 = .ok v w' ∧ ∃ φ', y0 φ w φ' w' ∧ HS P w0 φ' (s2.h.put k (some (.loop n2 sl2 ps2 x2 y2 st))) s2.nx w' ∧ (CV.raw (.bool j.isNone)).rel φ' w' v := fun j n2 sl2 ps2 x2 y2 hk2 st hst => by
       obtain ⟨b', g1, _, tm2, fn2, dB2, g8, g9, g10⟩ := hs2.hs.heap.here k _ hk2
       rw [hb2] at g1
       cases g1
       have hz2 : bsz w2 b = 0 := by unfold bsz; rw [g8]
       have hlt2 : b < w2.heap.size := (yMi.1 g8).1
       obtain ⟨E4, s4⟩ := hs2.hs.non (blk' := .loop n2 sl2 ps2 x2 y2 st) hk2 hb2 g8 hz2 (o' := .loop { state := if (j.map jc).isNone then .ready else .done, pending := j.map jc, fn := fn2, tmps := tm2, params := ps2.toArray, assign := x2, body := y2, defers := dB2 }) fun E => ⟨tm2, fn2, dB2, by
        rw [World.putObj_heap_same hlt2]; subst hst; cases j <;> rfl, g9, g10.mono E⟩
       refine ⟨_, _, run_endRound _ g8, φ2, E1.trans (E2.trans (E3.trans E4)), s4, ?_⟩
       cases j <;> rfl
      split at he
      ·rename_i n2 sl2 ps2 x2 y2 hk2
       cases he
       obtain ⟨v, w', r1, φ', r2, r3, r4⟩ := fin none _ _ _ _ _ hk2 _ rfl
       exact ⟨v, w', r1, v, φ', rfl, r2, r3, r4⟩
      ·rename_i n2 sl2 ps2 x2 y2 hk2
       cases he
       obtain ⟨v, w', r1, φ', r2, r3, r4⟩ := fin (some none) _ _ _ _ _ hk2 _ rfl
       exact ⟨v, w', r1, v, φ', rfl, r2, r3, r4⟩
      ·rename_i n2 sl2 ps2 x2 y2 id hk2
       cases he
       obtain ⟨v, w', r1, φ', r2, r3, r4⟩ := fin (some (some id)) _ _ _ _ _ hk2 _ rfl
       exact ⟨v, w', r1, v, φ', rfl, r2, r3, r4⟩
      ·cases he
     ·cases he
    ·cases he
   ·cases he
 ·cases he
theorem zEe {P : Program} {T : TT} (hT : TOk P T) {w0 : FW} {n : Nat} {φ : Phi} {w : World} {ops : Array Oper} {cs : List Frame} {Q : Exit → Act → List Frame → World → Prop} : ∀ (d i : Nat) (s s' : ES), i + d = ops.size → zUt T ops n (ops.toList.drop i) s = some s' → ∀ a, zDc P w0 n φ s a w →
  (∀ a', zDc P w0 n φ s' a' w → Q .normal a' cs w) → wpOpsSIn Fence.wide 0 P ops Q (List.range' i d) a cs w
 | 0, i, s, s', hd, h, a, hs, hQ => by
  rw [List.drop_eq_nil_of_le (by simp; omega)] at h
  cases h
  exact hQ a hs
 | d + 1, i, ⟨sl, h0, nx, ds⟩, s', hd, h, a, hs, hQ => by
  have hi : i < ops.size := by omega
  have hl : i < ops.toList.length := by simpa using hi
  rw [List.drop_eq_getElem_cons hl] at h
  have ho : ops[i]? = some ops.toList[i] := by simp [hi]
  generalize ops.toList[i] = o at h ho
  unfold zUt at h
  cases hdst : zB3 n o.dst with
  | false => rw [hdst] at h; cases h
  | true =>
   rw [hdst] at h
   simp only [yMq] at h
   split at h
   ·rename_i hg
    split at h
    ·rename_i x he
     rw [CV.force_eq, xI] at h
     have hw := xK hg (φ := φ) (w := w) (a := a) fun t _ e ht => hs.slot t e ht
     obtain ⟨v, r1, r2⟩ := zEh hT hs.hs (fun y _ => jE fun t _ e ht => hs.slot t e ht) he
     rw [List.range'_succ]
     simp only [wpOpsSIn, ho]
     refine ⟨fun _ _ => trivial, ?_⟩
     rw [hw]
     simp only [if_true, r1]
     exact zEe hT d (i + 1) _ s' oq h _ (hs.put (zBn hdst) (y0.refl _ _) hs.hs (fun _ => r2) (fun h => by cases h)) hQ
    ·cases h
   ·cases h
theorem zPm {P : Program} {T : TT} {call : z6} (hC : wH P call) (hT : TOk P T) {F : FuncId → Option FnE} (hF : zU9 P F) {dr : Nat → Array Oper → ES → Option ES} (hD : ∀ n, zDd P n (dr n)) : yCk P (zZu call T F dr) := by
 intro f cap h nx h' nx' he
 unfold zZu at he
 split at he
 ·rename_i x h1
  obtain ⟨fn, f1, f2, f3, f4, f5⟩ := hF f x h1
  cases hb : (Nat.ble cap.length x.n && x.rs.isEmpty) with
  | false => rw [hb] at he; cases he
  | true =>
   rw [hb] at he
   simp only [yMq] at he
   rw [yNj] at hb
   have hle := yP8 hb.1
   split at he
   ·rename_i id ops y hc
    split at he
    ·rename_i o r hops
     cases hrd : (zEp o && zB3 x.n o.dst) with
     | false => rw [hrd] at he; cases he
     | true =>
      rw [hrd] at he
      simp only [yMq] at he
      rw [yNj] at hrd
      split at he
      ·rename_i s hp
       have key : ∃ e sl, xG call T x.n (dr x.n) none y s = some (e, ⟨sl, h', nx', []⟩) ∧ (e = .normal ∨ e = .ret) := by
        split at he
        ·rename_i hh; cases he; exact ⟨_, _, hh, .inl rfl⟩
        ·rename_i hh; cases he; exact ⟨_, _, hh, .inr rfl⟩
        ·cases he
       obtain ⟨e, sl, h2, h3⟩ := key
       refine ⟨⟨fn, f1, f3, by rw [f2]; rfl⟩, fun w0 φ w cs hs hr => ?_⟩
       have hvl := CV.relL_length hr
       have hs0 : zDc P w0 x.n φ ⟨zG7 0 cap, h, nx, []⟩ { tmps := cs.toArray ++ Array.replicate (fn.ntmps - cs.toArray.size) undef, defers := [] } w := by
        refine ⟨by simp [f4]; omega, rfl, hs, fun t e ht => ?_⟩
        obtain ⟨j, y, rfl, e2, rfl⟩ := zFa ht
        obtain ⟨v, e3, e4⟩ := CV.relL_get hr e2
        have hj : j < cs.length := (yNd.1 e3).1
        refine ⟨v, ?_, fun _ => e4, fun h => by cases h⟩
        rw [yN9, yO5 (by simpa using hj)]
        simpa using e3
       refine callsDIn_of_wpSIn f1 f2 trivial fun c0 fs hu => ?_
       rw [hc]
       refine wpSIn_seq (wpSIn_region ?_)
       have hsz : ops.size = r.length + 1 := by rw [← yNn, hops]; rfl
       have ho : ops[0]? = some o := by rw [← yNv, hops]; rfl
       have hrec : ∃ c, o.op = .call c ∧ c.callee = .builtin .recover ∧ c.args = #[] ∧ o.guard = none := by
        have h4 := hrd.1
        unfold zEp at h4
        split at h4
        ·rename_i c hop
         split at h4
         ·rename_i hcal
          rw [yNj] at h4
          exact ⟨c, hop, hcal, Array.size_eq_zero_iff.1 (yMs h4.1), by simpa using h4.2⟩
         ·cases h4
        ·cases h4
       obtain ⟨c, g1, g2, g3, g4⟩ := hrec
       rw [List.range_eq_range', hsz, List.range'_succ]
       simp only [wpOpsSIn, ho]
       refine ⟨fun _ _ => trivial, ?_⟩
       have hw : Region.wanted o (yielded ops ({ tmps := cs.toArray ++ Array.replicate (fn.ntmps - cs.toArray.size) undef, defers := [] } : Act).tmps) = true := by simp [Region.wanted, g4]
       rw [hw]
       have hrun : ∀ ρ : Operand → Value, (execOp ρ o).run P w = .ok .recover w := fun ρ => by
        obtain ⟨dst, op, type, pos, after, guard⟩ := o
        obtain ⟨callee, args, argTypes⟩ := c
        simp only at g1 g2 g3
        subst g1; subst g2; subst g3
        simp [execOp, go_sem]
       simp only [if_true, hrun]
       have hcs : recoverD (c0 :: fs) = none := by simp [recoverD, hu]
       rw [hcs]
       refine zEe hT r.length 1 _ s oq (by rw [hops]; exact hp) _ (hs0.put (e := (true, .raw .nilIface)) (zBn hrd.2) (y0.refl _ _) hs (fun _ => rfl) (fun h => by cases h)) fun a1 hs1 => ?_
       refine wpSIn_of_wpIn rfl ?_
       refine jD hC hT (hD _) none y _ _ _ h2 w0 none φ a1 w _ hs1 trivial fun φ2 a2 w2 E2 hs2 => ?_
       have fin : a2.defers = [] ∧ ∃ u', c0 :: fs = { c0 with mode := u' } :: fs ∧ ∃ v, (results fn a2.tmps).run P w2 = .ok v w2 ∧ ∃ v' φ', Ending.returned v = .returned v' ∧ u' = .returning ∧ y0 φ w φ' w2 ∧ HS P w0 φ' h' nx' w2 := by
        refine ⟨hs2.defers, .returning, by rw [← hu], _, xH (vs := []) ?_, _, φ2, rfl, rfl, E2, hs2.hs⟩
        rw [f5, List.isEmpty_iff.1 hb.2]
        rfl
       rcases h3 with rfl | rfl
       ·exact fin
       ·exact fin
      ·cases he
    ·cases he
   ·cases he
 ·cases he
theorem qM {P : Program} {O : FuncId → List CV → CH → Option CV} {T : TT} {F : FuncId → Option FnE} {dr : z6 → Nat → Array Oper → ES → Option ES} (hM : MOk P) (hO : v8 P O) (hT : TOk P T) (hF : zU9 P F) (hD : ∀ call n, wH P call → zDd P n (dr call n)) : ∀ m, wH P (xV O T F dr m)
 | 0 => ⟨fun _ _ _ _ _ _ _ h => by simp [xV] at h, fun _ _ _ _ _ _ _ h => by simp [xV] at h, fun _ _ _ _ _ _ _ _ h => by simp [xV] at h⟩
 | m + 1 => by
  have hC := qM hM hO hT hF hD m
  refine ⟨fun f args h nx r h' nx' he => ?_, fun k args h nx r h' nx' he w0 φ w vs b ro hs hr hb => zKn hC hT (fun n => hD _ n hC) (by simpa [xV] using he) hs hr hb, fun t name args h nx r h' nx' he => ?_⟩
  rotate_left
  ·simp only [xV] at he
   split at he
   ·rename_i f hf
    exact ⟨f, hM.mth _ _ _ hf, hC.fn _ _ _ _ _ _ _ he⟩
   ·cases he
  simp only [xV] at he
  split at he
  ·rename_i r1 h1
   cases he
   obtain ⟨k1, k2⟩ := hO _ _ _ _ h1
   exact ⟨k1, fun w0 φ w vs hs hr => k2 w0 φ nx w vs hs hr⟩
  split at he
  ·rename_i q hq
   cases he
   exact zKu hM hq
  ·split at he
   ·rename_i x h1
    obtain ⟨fn, f1, f2, f3, f4, f5⟩ := hF f x h1
    cases hb : Nat.ble args.length x.n with
    | false => rw [hb] at he; cases he
    | true =>
     rw [hb] at he
     simp only [yMq] at he
     have hb := yP8 hb
     have key : ∃ e s, xG (xV O T F dr m) T x.n (dr (xV O T F dr m) x.n) none x.c ⟨zG7 0 args, h, nx, []⟩ = some (e, s) ∧ (e = .normal ∨ e = .ret) ∧ zZy (zZu (xV O T F dr m) T F (dr (xV O T F dr m))) T x.rs s = some (r, h', nx') := by
      split at he
      ·rename_i s hs1; exact ⟨_, s, hs1, .inl rfl, he⟩
      ·rename_i s hs1; exact ⟨_, s, hs1, .inr rfl, he⟩
      ·cases he
     obtain ⟨e, s, h2, h3, h4⟩ := key
     refine ⟨⟨fn, f1, f3, by rw [f2]; rfl⟩, fun w0 φ w vs hs hr => ?_⟩
     have hvl := CV.relL_length hr
     have hs0 : zDc P w0 x.n φ ⟨zG7 0 args, h, nx, []⟩ { tmps := vs.toArray ++ Array.replicate (fn.ntmps - vs.toArray.size) undef, defers := [] } w := by
      refine ⟨by simp [f4]; omega, rfl, hs, fun t e ht => ?_⟩
      obtain ⟨j, y, rfl, e2, rfl⟩ := zFa ht
      obtain ⟨v, e3, e4⟩ := CV.relL_get hr e2
      have hj : j < vs.length := (yNd.1 e3).1
      refine ⟨v, ?_, fun _ => e4, fun h => by cases h⟩
      rw [yN9, yO5 (by simpa using hj)]
      simpa using e3
     refine callsIn_wide.1 (callsIn_of_wp_marks (n := 0) f1 f2 trivial (jD hC hT (hD _ _ hC) none x.c _ _ _ h2 w0 none φ _ w _ hs0 trivial fun φ' a' w' E hs' => ?_))
     have fin : LeavesInM Fence.wide 0 P fn a'.tmps (fun e w' => ∃ v φ', e = .returned v ∧ y0 φ w φ' w' ∧ HS P w0 φ' h' nx' w' ∧ r.rel φ' w' v) a'.defers .returning w' := by
      unfold zZy at h4
      split at h4
      ·rename_i h5 nx5 ht
       split at h4
       ·rename_i xs hx
        simp only [yMc, yMu] at h4
        obtain ⟨rfl, rfl, rfl⟩ := h4
        refine zLn (zPm hC hT hF fun n => hD _ n hC) s.ds a'.defers φ' s.h h5 s.nx nx5 w' ht hs'.defers hs'.hs fun φ2 w2 E2 hs2 => ?_
        have hsat : zDc P w0 x.n φ2 ⟨s.sl, h5, nx5, []⟩ ⟨a'.tmps, []⟩ w2 := ⟨hs'.size, rfl, hs2, zBy.mono E2 hs'.slot⟩
        obtain ⟨us, e1, e2⟩ := zCk hT hsat hx
        rw [← f5] at e2
        refine ⟨_, xH e2, _, φ2, rfl, E.trans E2, hs2, ?_⟩
        match xs, us, e1 with
        | [x], _, ⟨v, _, rfl, e3, rfl⟩ => exact e3
        | [], _, rfl => exact ⟨[], rfl, rfl⟩
        | x :: y :: r, _, ⟨v, _, rfl, e3, u, us', rfl, e4, e5⟩ => exact ⟨_, rfl, v, _, rfl, e3, u, us', rfl, e4, e5⟩
       ·cases h4
      ·cases h4
     rcases h3 with rfl | rfl
     ·exact fin
     ·exact fin
   ·cases he
end Go.Proofs.YtioaahmkebojiaaGreatDoor
