import Derived.Test.YtchpbdecipcelaaGreatDoorHO01
import Derived.Scope
import Derived.Test.YtchpbdecipcelaaGreatDoorHO07
import Derived.Test.YtchpbdecipcelaaGreatDoorHO09
namespace Go.Proofs.YtchpbdecipcelaaGreatDoor
set_option linter.unusedVariables false
set_option linter.unusedSimpArgs false
set_option maxHeartbeats 4000000
set_option maxRecDepth 100000
open Go.RowKit
def zWa (full : List Oper) (o : Oper) : Bool := match o.dst with
  | some d => full.any fun p => match p.op with
    | .call c => match c.callee with
      | .builtin .append => match c.args.toList with
        | Operand.tmp t :: _ => Nat.beq t d
        | _ => false
      | _ => false
    | _ => false
  | none => false
theorem zEw {P : Program} {full : List Oper} {all : Bool} {m : Nat} {ia : List (Nat × AK)} {es : List AEn} {ib : List Nat} {r : List Oper} {k : ASt → Prop} {nt nb : Nat} {sl sl0 : List (Nat × (Bool × AV))} {bx : List (List AV)} {rw : List z9} {ys : (Nat × List (List AV)) × List (List AV) × Bool} {o : Oper} (_ : zWa full o = true) (h : zBn P full all (m + 1) ia es (ib ++ [m]) r k sl0 ⟨nt, nb, sl, bx, rw, ys⟩) : zBn P full all m ia es ib (o :: r) k sl0 ⟨nt, nb, sl, bx, rw, ys⟩ := zG h
@[go_sem] def offX : Op → AV
  | .binOp _ _ _ _ _ => .raw (.bool false)
  | .unOp _ _ _ => .raw (.bool false)
  | _ => .raw undef
theorem zGt {P : Program} {ops : Array Oper} {o : Oper} {st : ASt} {x : AV} (hg : xP ops st o = some false) : zA4 P ops o st false x := fun _ _ _ _ _ hs => ⟨xA hg hs, fun h => by cases h⟩
section offs
variable {P : Program} {ops : Array Oper} {r : List Oper} {k : ASt → Prop} {nt nb : Nat} {sl sl0 : List (Nat × (Bool × AV))} {bx : List (List AV)} {rw : List z9} {ys : (Nat × List (List AV)) × List (List AV) × Bool} {o : Oper} {d : Nat} {full : List Oper} {all : Bool} {m : Nat} {ia : List (Nat × AK)} {es : List AEn} {ib : List Nat}
theorem zHs (hd : o.dst = some d) (hn : Nat.blt d nt = true) (h : xP ops ⟨nt, nb, sl, bx, rw, ys⟩ o = some false ∧ ∃ x, offX o.op = x ∧ xM P ops r k ⟨nt, nb, (d, (false, x)) :: sl, bx, rw, ys⟩) : xM P ops (o :: r) k ⟨nt, nb, sl, bx, rw, ys⟩ :=
  let ⟨hg, _, _, h⟩ := h
  zB2 hd (zGt hg) hn h
theorem zHu (hd : o.dst = some d) (h : xP full.toArray ⟨nt, nb, sl, bx, rw, ys⟩ o = some false ∧ ∃ x, offX o.op = x ∧ zBn P full all (m + 1) (ia ++ [(m, .any)]) (es ++ [(m, .any, (d, (false, x)))]) ib r k sl0 ⟨nt, nb, (d, (false, x)) :: sl, bx, rw, ys⟩) : zBn P full all m ia es ib (o :: r) k sl0 ⟨nt, nb, sl, bx, rw, ys⟩ :=
  let ⟨hg, x, _, h⟩ := h
  kN (kd := .any) (g := false) (x := x) hd (fun ext rw' => zGt (st := ⟨nt, nb, sl, zLw all bx ext, rw', ys⟩) hg) h
end offs
section scopes
variable {P : Program} {b : Frame} {a : Act} {k : List Item} {cs : List Frame} {w : World}
theorem w9 {c : Code} : step P (lone (b.atR a (.code (.scope c) :: k)) cs w) = .next (lone (b.atR a (.code c :: .inScope c :: k)) cs w) :=
  step_lone_go (by simp [stepG, stepG.exec, Frame.atR])
theorem zHm {c : Code} : step P (lone (b.atR a (.inScope c :: k)) cs w) = .next (lone (b.atR a k) cs w) :=
  step_lone_go (by simp [stepG, stepG.exec, Frame.atR])
theorem zL5 {F : Fence} {n : Nat} {Q : Exit → Act → World → Prop} {c : Code} (h : c.wpIn F n P (Exit.noGoto Q) a w) : (Code.scope c).wpIn F n P Q a w := by
  intro b k cs hro hb hr
  have h0 : (lone (b.atR a (.code (.scope c) :: k)) cs w).fenced P F := fenced_calm hb hr rfl
  obtain ⟨e, a₁, w₁, hq, harr⟩ := h b (.inScope c :: k) cs hro hb hr
  cases e with
  | normal => exact ⟨.normal, a₁, w₁, hq, .head h0 w9 (StepsIn.trans harr (.one (fenced_calm hb hr rfl) zHm))⟩
  | exit id =>
    have hx : exitTo id (.inScope c :: k) = exitTo id k := by simp [exitTo]
    exact ⟨.exit id, a₁, w₁, hq, fun k' hk => .head h0 w9 (harr.1 k' (by rw [hx]; exact hk)),
      fun hr' hk => let ⟨k₁, h1, h2⟩ := harr.2 hr' (by rw [hx]; exact hk); ⟨k₁, h1, .head h0 w9 h2⟩⟩
  | goto l => exact hq.elim
  | ret => exact ⟨_, a₁, w₁, hq, .of_steps (.one h0 w9) harr⟩
  | panic ch => exact ⟨_, a₁, w₁, hq, .of_steps (.one h0 w9) harr⟩
  | outgrown => exact ⟨_, a₁, w₁, hq, .of_steps (.one h0 w9) harr⟩
end scopes
theorem zQv {P : Program} {c : Code} {Q : Exit → ASt → Prop} {st : ASt} (hg : ∀ l s, ¬ Q (.goto l) s) (h : wpA P c Q st) : wpA P (.scope c) Q st := fun C G a w hs =>
  zL5 (wpIn_mono (h C G a w hs) fun e a' w' hd => by
    cases e with
    | goto l => obtain ⟨G', st', _, hq⟩ := hd; exact hg l st' hq
    | _ => exact hd)
theorem zP1 {P : Program} {c : Code} {T : TT} {rs : List ResultVar} {r : AV} {st : ASt} (h : wpA P c (jG T rs r) st) : wpA P (.scope c) (jG T rs r) st := zQv (fun l s h => by rcases h.1 with h | h <;> cases h) h
theorem yR {p : Prop} (h : p := by
    first
      | exact oblF
      | (intro hg
         (try simp only [yKi, yKj, yKk, yKl, yKo, yIw])
         ((repeat' first | trivial | assumption | refine And.intro ?_ ?_) <;> fail))
      | fail) : p := h
structure Hid (q : Prop) : Prop where
  get : q
theorem stG {p q : Prop} (hq : q) (h : Hid q → p := by
    intro hq
    first
      | (refine yH 0 rfl ?_; first | (refine kM yQ rfl rfl ⟨_, evl, _, _, _, evl, yR, ?_⟩; exact hq.get) | (refine kM yQ rfl rfl ⟨_, evl, _, _, _, evl, yA8, ?_⟩; exact hq.get) | (refine zHs rfl rfl ⟨evl, _, evl, ?_⟩; exact hq.get))
      | (refine yH 2 rfl ?_; first | (refine jF yQ rfl rfl ⟨_, evl, _, _, _, evl, yR, ?_⟩; exact hq.get) | (refine zHt yQ rfl rfl rfl ⟨_, _, _, _, _, _, _, _, evl, obq, _, evl, _, evl, _, evl, _, evl, obq, obq, obq, _, evl, _, evl, ?_⟩; exact hq.get) | (refine zB3 yQ rfl rfl rfl ⟨_, _, _, _, _, _, evl, obq, _, evl, _, rfl, _, evl, rfl, _, evl, _, evl, obq, obs, _, evl, _, evl, ?_⟩; exact hq.get))
      | (refine yH 3 rfl ?_; first | (refine zLk yQ rfl rfl ⟨_, evl, _, _, _, evl, yR, ?_⟩; exact hq.get))
      | (refine yH 4 rfl ?_; first | (refine zRl yQ rfl rfl rfl rfl ⟨_, evl, _, evl, _, evl, ?_⟩; exact hq.get))
      | (refine yH 5 rfl ?_; first | (refine yHg rfl rfl rfl rfl ⟨_, evl, ob1, _, evl, _, evl, ?_⟩; exact hq.get))
      | (refine yH 6 rfl ?_; first | (refine zJ0 yQ rfl rfl rfl ⟨_, _, evl, _, evl, _, evl, _, evl, ob1, _, evl, ?_⟩; exact hq.get))
      | (refine zTe ?_; refine zHw (by decide +kernel) ?_; exact hq.get)
      | (refine zS 0 rfl ?_; first | (refine zAb yQ rfl ⟨_, evl, _, _, _, (fun _ _ => w7), yR, ?_⟩; exact hq.get) | (refine zAb yQ rfl ⟨_, evl, _, _, _, (fun _ _ => w7), yA8, ?_⟩; exact hq.get) | (refine zD6 yQ rfl ⟨_, evl, _, _, _, (fun _ => w7), yR, ?_⟩; exact hq.get) | (refine zHu rfl ⟨evl, _, evl, ?_⟩; exact hq.get) | (refine zG ?_; exact hq.get))
      | (refine zS 3 rfl ?_; first | (refine zEw (by decide +kernel) ?_; exact hq.get) | (refine zRn yQ rfl ⟨_, evl, _, _, _, (fun _ _ => w7), yR, ?_⟩; exact hq.get) | (refine zG ?_; exact hq.get))
      | (refine zS 2 rfl ?_; first | (refine zG ?_; exact hq.get))
      | (refine zS 4 rfl ?_; first | (refine zG ?_; exact hq.get))
      | (refine zS 5 rfl ?_; first | (refine zG ?_; exact hq.get))
      | (refine zS 6 rfl ?_; first | (refine zG ?_; exact hq.get))
      | (refine zTd ?_; refine zHv ⟨_, evl, _, evl, by decide +kernel, ?_⟩; exact hq.get)
      | (refine zAa ?_ ?_ ?_ ?_; (focus (exact rfl)); (focus (first | exact zBc _ _ | exact zI3 _ rfl)); (focus (first | exact fun _ => ⟨rfl, _, rfl⟩ | exact fun h => absurd h (by decide))); exact hq.get)
      | (refine zEv ?_ ?_ ?_ ?_; (focus (exact rfl)); (focus (first | exact zBc _ _ | exact zI3 _ rfl)); (focus (first | exact fun _ => ⟨rfl, _, rfl⟩ | exact fun h => absurd h (by decide))); exact hq.get)
      | (with_reducible refine zD2 ?_; exact hq.get)
      | (with_reducible refine zD1 ?_; exact hq.get)
      | (with_reducible refine zD3 ?_; exact hq.get)
      | (with_reducible refine v7 ?_; exact hq.get)
      | (with_reducible refine v6 ?_; exact hq.get)
      | (with_reducible refine wQ ?_; exact hq.get)
      | (with_reducible refine x9 rfl ?_; exact hq.get)
      | (with_reducible refine zA6 ?_; exact hq.get)
      | (with_reducible refine kB ?_; exact hq.get)
      | (with_reducible refine zA5 ?_; exact hq.get)
      | (with_reducible refine zCx ?_; exact hq.get)
      | (with_reducible refine zA7 ?_; exact hq.get)
      | (with_reducible refine kA ?_; exact hq.get)
      | (refine zD2 ?_; exact hq.get)
      | (refine zD1 ?_; exact hq.get)
      | (refine zD3 ?_; exact hq.get)
      | (refine v7 ?_; exact hq.get)
      | (refine v6 ?_; exact hq.get)
      | (refine wQ ?_; exact hq.get)
      | (refine x9 rfl ?_; exact hq.get)
      | (refine zA6 ?_; exact hq.get)
      | (refine kB ?_; exact hq.get)
      | (refine zA5 ?_; exact hq.get)
      | (refine zCx ?_; exact hq.get)
      | (refine zA7 ?_; exact hq.get)
      | (refine kA ?_; exact hq.get)
      | fail) : p := h ⟨hq⟩
theorem stR {p q : Prop} (hq : q) (h : Hid q → p := by
    intro hq
    first
      | (refine yH 0 rfl ?_; first | (refine kM yQ rfl rfl ⟨_, evl, _, _, _, evl, yR, ?_⟩; exact hq.get) | (refine kM yQ rfl rfl ⟨_, evl, _, _, _, evl, yA8, ?_⟩; exact hq.get) | (refine zHs rfl rfl ⟨evl, _, evl, ?_⟩; exact hq.get))
      | (refine yH 2 rfl ?_; first | (refine jF yQ rfl rfl ⟨_, evl, _, _, _, evl, yR, ?_⟩; exact hq.get) | (refine zHt yQ rfl rfl rfl ⟨_, _, _, _, _, _, _, _, evl, obq, _, evl, _, evl, _, evl, _, evl, obq, obq, obq, _, evl, _, evl, ?_⟩; exact hq.get) | (refine zB3 yQ rfl rfl rfl ⟨_, _, _, _, _, _, evl, obq, _, evl, _, rfl, _, evl, rfl, _, evl, _, evl, obq, obs, _, evl, _, evl, ?_⟩; exact hq.get))
      | (refine yH 3 rfl ?_; first | (refine zGl yQ rfl rfl rfl ⟨_, _, _, evl, obq, _, evl, _, evl, ?_⟩; exact hq.get) | (refine zLk yQ rfl rfl ⟨_, evl, _, _, _, evl, yR, ?_⟩; exact hq.get))
      | (refine yH 4 rfl ?_; first | (refine zRl yQ rfl rfl rfl rfl ⟨_, evl, _, evl, _, evl, ?_⟩; exact hq.get))
      | (refine yH 5 rfl ?_; first | (refine yHg rfl rfl rfl rfl ⟨_, evl, ob1, _, evl, _, evl, ?_⟩; exact hq.get))
      | (refine yH 6 rfl ?_; first | (refine zJ0 yQ rfl rfl rfl ⟨_, _, evl, _, evl, _, evl, _, evl, ob1, _, evl, ?_⟩; exact hq.get))
      | (refine zTe ?_; refine zHw (by decide +kernel) ?_; exact hq.get)
      | (refine zS 0 rfl ?_; first | (refine zAb yQ rfl ⟨_, evl, _, _, _, (fun _ _ => w7), yR, ?_⟩; exact hq.get) | (refine zAb yQ rfl ⟨_, evl, _, _, _, (fun _ _ => w7), yA8, ?_⟩; exact hq.get) | (refine zD6 yQ rfl ⟨_, evl, _, _, _, (fun _ => w7), yR, ?_⟩; exact hq.get) | (refine zHu rfl ⟨evl, _, evl, ?_⟩; exact hq.get) | (refine zG ?_; exact hq.get))
      | (refine zS 3 rfl ?_; first | (refine zEw (by decide +kernel) ?_; exact hq.get) | (refine zRn yQ rfl ⟨_, evl, _, _, _, (fun _ _ => w7), yR, ?_⟩; exact hq.get) | (refine zG ?_; exact hq.get))
      | (refine zS 2 rfl ?_; first | (refine zG ?_; exact hq.get))
      | (refine zS 4 rfl ?_; first | (refine zG ?_; exact hq.get))
      | (refine zS 5 rfl ?_; first | (refine zG ?_; exact hq.get))
      | (refine zS 6 rfl ?_; first | (refine zG ?_; exact hq.get))
      | (refine zTd ?_; refine zHv ⟨_, evl, _, evl, by decide +kernel, ?_⟩; exact hq.get)
      | (refine zAa ?_ ?_ ?_ ?_; (focus (exact rfl)); (focus (first | exact zBc _ _ | exact zI3 _ rfl)); (focus (first | exact fun _ => ⟨rfl, _, rfl⟩ | exact fun h => absurd h (by decide))); exact hq.get)
      | (refine zEv ?_ ?_ ?_ ?_; (focus (exact rfl)); (focus (first | exact zBc _ _ | exact zI3 _ rfl)); (focus (first | exact fun _ => ⟨rfl, _, rfl⟩ | exact fun h => absurd h (by decide))); exact hq.get)
      | (with_reducible refine zD2 ?_; exact hq.get)
      | (with_reducible refine zD1 ?_; exact hq.get)
      | (with_reducible refine zD3 ?_; exact hq.get)
      | (with_reducible refine v7 ?_; exact hq.get)
      | (with_reducible refine v6 ?_; exact hq.get)
      | (with_reducible refine wQ ?_; exact hq.get)
      | (with_reducible refine x9 rfl ?_; exact hq.get)
      | (with_reducible refine zA6 ?_; exact hq.get)
      | (with_reducible refine kB ?_; exact hq.get)
      | (with_reducible refine zA5 ?_; exact hq.get)
      | (with_reducible refine zCx ?_; exact hq.get)
      | (with_reducible refine zA7 ?_; exact hq.get)
      | (with_reducible refine kA ?_; exact hq.get)
      | (refine zD2 ?_; exact hq.get)
      | (refine zD1 ?_; exact hq.get)
      | (refine zD3 ?_; exact hq.get)
      | (refine v7 ?_; exact hq.get)
      | (refine v6 ?_; exact hq.get)
      | (refine wQ ?_; exact hq.get)
      | (refine x9 rfl ?_; exact hq.get)
      | (refine zA6 ?_; exact hq.get)
      | (refine kB ?_; exact hq.get)
      | (refine zA5 ?_; exact hq.get)
      | (refine zCx ?_; exact hq.get)
      | (refine zA7 ?_; exact hq.get)
      | (refine kA ?_; exact hq.get)
      | fail) : p := h ⟨hq⟩
theorem stB {p q : Prop} (hq : q) (h : Hid q → p := by
    intro hq
    first
      | (refine yH 0 rfl ?_; first | (refine kM yQ rfl rfl ⟨_, evl, _, _, _, evl, yR, ?_⟩; exact hq.get) | (refine kM yQ rfl rfl ⟨_, evl, _, _, _, evl, yA8, ?_⟩; exact hq.get) | (refine zNb yQ rfl rfl ⟨_, evl, _, _, _, evl, yR, ?_⟩; exact hq.get) | (refine zHs rfl rfl ⟨evl, _, evl, ?_⟩; exact hq.get))
      | (refine yH 3 rfl ?_; first | (refine zPl yQ rfl rfl rfl rfl ⟨_, _, _, _, _, evl, _, evl, _, _, _, evl, obq, obq, _, evl, _, evl, ?_⟩; exact hq.get))
      | (refine yH 2 rfl ?_; first | (refine jF yQ rfl rfl ⟨_, evl, _, _, _, evl, yR, ?_⟩; exact hq.get) | (refine zHt yQ rfl rfl rfl ⟨_, _, _, _, _, _, _, _, evl, obq, _, evl, _, evl, _, evl, _, evl, obq, obq, obq, _, evl, _, evl, ?_⟩; exact hq.get) | (refine zB3 yQ rfl rfl rfl ⟨_, _, _, _, _, _, evl, obq, _, evl, _, rfl, _, evl, rfl, _, evl, _, evl, obq, obs, _, evl, _, evl, ?_⟩; exact hq.get))
      | (refine yH 3 rfl ?_; first | (refine zGl yQ rfl rfl rfl ⟨_, _, _, evl, obq, _, evl, _, evl, ?_⟩; exact hq.get) | (refine zLk yQ rfl rfl ⟨_, evl, _, _, _, evl, yR, ?_⟩; exact hq.get))
      | (refine yH 4 rfl ?_; first | (refine zRl yQ rfl rfl rfl rfl ⟨_, evl, _, evl, _, evl, ?_⟩; exact hq.get))
      | (refine yH 5 rfl ?_; first | (refine yHg rfl rfl rfl rfl ⟨_, evl, ob1, _, evl, _, evl, ?_⟩; exact hq.get))
      | (refine yH 6 rfl ?_; first | (refine zJ0 yQ rfl rfl rfl ⟨_, _, evl, _, evl, _, evl, _, evl, ob1, _, evl, ?_⟩; exact hq.get))
      | (refine zTe ?_; refine zHw (by decide +kernel) ?_; exact hq.get)
      | (refine zS 0 rfl ?_; first | (refine zAb yQ rfl ⟨_, evl, _, _, _, (fun _ _ => w7), yR, ?_⟩; exact hq.get) | (refine zAb yQ rfl ⟨_, evl, _, _, _, (fun _ _ => w7), yA8, ?_⟩; exact hq.get) | (refine zRo yQ rfl ⟨_, evl, _, _, _, (fun _ _ => w7), yR, ?_⟩; exact hq.get) | (refine zD6 yQ rfl ⟨_, evl, _, _, _, (fun _ => w7), yR, ?_⟩; exact hq.get) | (refine zHu rfl ⟨evl, _, evl, ?_⟩; exact hq.get) | (refine zG ?_; exact hq.get))
      | (refine zS 3 rfl ?_; first | (refine zEw (by decide +kernel) ?_; exact hq.get) | (refine zG ?_; exact hq.get))
      | (refine zS 2 rfl ?_; first | (refine zG ?_; exact hq.get))
      | (refine zS 4 rfl ?_; first | (refine zG ?_; exact hq.get))
      | (refine zS 5 rfl ?_; first | (refine zG ?_; exact hq.get))
      | (refine zS 6 rfl ?_; first | (refine zG ?_; exact hq.get))
      | (refine zTd ?_; refine zHv ⟨_, evl, _, evl, by decide +kernel, ?_⟩; exact hq.get)
      | (refine zAa ?_ ?_ ?_ ?_; (focus (exact rfl)); (focus (first | exact zBc _ _ | exact zI3 _ rfl)); (focus (first | exact fun _ => ⟨rfl, _, rfl⟩ | exact fun h => absurd h (by decide))); exact hq.get)
      | (refine zEv ?_ ?_ ?_ ?_; (focus (exact rfl)); (focus (first | exact zBc _ _ | exact zI3 _ rfl)); (focus (first | exact fun _ => ⟨rfl, _, rfl⟩ | exact fun h => absurd h (by decide))); exact hq.get)
      | (with_reducible refine zD2 ?_; exact hq.get)
      | (with_reducible refine zD1 ?_; exact hq.get)
      | (with_reducible refine zD3 ?_; exact hq.get)
      | (with_reducible refine v7 ?_; exact hq.get)
      | (with_reducible refine v6 ?_; exact hq.get)
      | (with_reducible refine wQ ?_; exact hq.get)
      | (with_reducible refine x9 rfl ?_; exact hq.get)
      | (with_reducible refine zA6 ?_; exact hq.get)
      | (with_reducible refine kB ?_; exact hq.get)
      | (with_reducible refine zA5 ?_; exact hq.get)
      | (with_reducible refine zCx ?_; exact hq.get)
      | (with_reducible refine zA7 ?_; exact hq.get)
      | (with_reducible refine kA ?_; exact hq.get)
      | (refine zD2 ?_; exact hq.get)
      | (refine zD1 ?_; exact hq.get)
      | (refine zD3 ?_; exact hq.get)
      | (refine v7 ?_; exact hq.get)
      | (refine v6 ?_; exact hq.get)
      | (refine wQ ?_; exact hq.get)
      | (refine x9 rfl ?_; exact hq.get)
      | (refine zA6 ?_; exact hq.get)
      | (refine kB ?_; exact hq.get)
      | (refine zA5 ?_; exact hq.get)
      | (refine zCx ?_; exact hq.get)
      | (refine zA7 ?_; exact hq.get)
      | (refine kA ?_; exact hq.get)
      | fail) : p := h ⟨hq⟩
structure Stop (q : Prop) : Prop where
  get : q
theorem sM {q : Prop} (h : q) : Stop q := ⟨h⟩
theorem sG {q : Prop} (h : Stop q) : q := h.get
theorem arm {c : Prop} {P : Program} {f : FuncId} {args : List AV} {x : AV} (hc : Hid c) (h : Hid c → FnA P f args x := by intro hc; first | exact FnA.at_ (hc.get ..) rfl rfl | exact FnA.at_ (hc.get.1 ..) rfl rfl | exact FnA.at_ (hc.get.2.1 ..) rfl rfl | exact FnA.at_ (hc.get.2.2.1 ..) rfl rfl | exact FnA.at_ (hc.get.2.2.2.1 ..) rfl rfl | exact FnA.at_ (hc.get.2.2.2.2.1 ..) rfl rfl | exact FnA.at_ (hc.get.2.2.2.2.2.1 ..) rfl rfl | exact FnA.at_ (hc.get.2.2.2.2.2.2.1 ..) rfl rfl | exact FnA.at_ (hc.get.2.2.2.2.2.2.2.1 ..) rfl rfl | exact FnA.at_ (hc.get.2.2.2.2.2.2.2.2.1 ..) rfl rfl | exact FnA.at_ (hc.get.2.2.2.2.2.2.2.2.2.1 ..) rfl rfl | exact FnA.at_ (hc.get.2.2.2.2.2.2.2.2.2.2.1 ..) rfl rfl | exact FnA.at_ (hc.get.2.2.2.2.2.2.2.2.2.2.2.1 ..) rfl rfl | exact FnA.at_ (hc.get.2.2.2.2.2.2.2.2.2.2.2.2.1 ..) rfl rfl | exact FnA.at_ (hc.get.2.2.2.2.2.2.2.2.2.2.2.2.2.1 ..) rfl rfl | exact FnA.at_ (hc.get.2 ..) rfl rfl | exact FnA.at_ (hc.get.2.2 ..) rfl rfl | exact FnA.at_ (hc.get.2.2.2 ..) rfl rfl | exact FnA.at_ (hc.get.2.2.2.2 ..) rfl rfl | exact FnA.at_ (hc.get.2.2.2.2.2 ..) rfl rfl | exact FnA.at_ (hc.get.2.2.2.2.2.2 ..) rfl rfl | exact FnA.at_ (hc.get.2.2.2.2.2.2.2 ..) rfl rfl | exact FnA.at_ (hc.get.2.2.2.2.2.2.2.2 ..) rfl rfl | exact FnA.at_ (hc.get.2.2.2.2.2.2.2.2.2 ..) rfl rfl | exact FnA.at_ (hc.get.2.2.2.2.2.2.2.2.2.2 ..) rfl rfl | exact FnA.at_ (hc.get.2.2.2.2.2.2.2.2.2.2.2 ..) rfl rfl | exact FnA.at_ (hc.get.2.2.2.2.2.2.2.2.2.2.2.2 ..) rfl rfl | exact FnA.at_ (hc.get.2.2.2.2.2.2.2.2.2.2.2.2.2 ..) rfl rfl | exact FnA.at_s (hc.get ..) rfl xB | exact FnA.at_s (hc.get ..) rfl xC | exact FnA.at_s (hc.get.1 ..) rfl xB | exact FnA.at_s (hc.get.1 ..) rfl xC | exact FnA.at_s (hc.get.2.1 ..) rfl xB | exact FnA.at_s (hc.get.2.1 ..) rfl xC | exact FnA.at_s (hc.get.2.2.1 ..) rfl xB | exact FnA.at_s (hc.get.2.2.1 ..) rfl xC | exact FnA.at_s (hc.get.2.2.2.1 ..) rfl xB | exact FnA.at_s (hc.get.2.2.2.1 ..) rfl xC | exact FnA.at_s (hc.get.2.2.2.2.1 ..) rfl xB | exact FnA.at_s (hc.get.2.2.2.2.1 ..) rfl xC | exact FnA.at_s (hc.get.2.2.2.2.2.1 ..) rfl xB | exact FnA.at_s (hc.get.2.2.2.2.2.1 ..) rfl xC | exact FnA.at_s (hc.get.2.2.2.2.2.2.1 ..) rfl xB | exact FnA.at_s (hc.get.2.2.2.2.2.2.1 ..) rfl xC | exact FnA.at_s (hc.get.2.2.2.2.2.2.2.1 ..) rfl xB | exact FnA.at_s (hc.get.2.2.2.2.2.2.2.1 ..) rfl xC | exact FnA.at_s (hc.get.2.2.2.2.2.2.2.2.1 ..) rfl xB | exact FnA.at_s (hc.get.2.2.2.2.2.2.2.2.1 ..) rfl xC | exact FnA.at_s (hc.get.2.2.2.2.2.2.2.2.2.1 ..) rfl xB | exact FnA.at_s (hc.get.2.2.2.2.2.2.2.2.2.1 ..) rfl xC | exact FnA.at_s (hc.get.2.2.2.2.2.2.2.2.2.2.1 ..) rfl xB | exact FnA.at_s (hc.get.2.2.2.2.2.2.2.2.2.2.1 ..) rfl xC | exact FnA.at_s (hc.get.2.2.2.2.2.2.2.2.2.2.2.1 ..) rfl xB | exact FnA.at_s (hc.get.2.2.2.2.2.2.2.2.2.2.2.1 ..) rfl xC | exact FnA.at_s (hc.get.2.2.2.2.2.2.2.2.2.2.2.2.1 ..) rfl xB | exact FnA.at_s (hc.get.2.2.2.2.2.2.2.2.2.2.2.2.1 ..) rfl xC | exact FnA.at_s (hc.get.2.2.2.2.2.2.2.2.2.2.2.2.2.1 ..) rfl xB | exact FnA.at_s (hc.get.2.2.2.2.2.2.2.2.2.2.2.2.2.1 ..) rfl xC | exact FnA.at_s (hc.get.2 ..) rfl xB | exact FnA.at_s (hc.get.2 ..) rfl xC | exact FnA.at_s (hc.get.2.2 ..) rfl xB | exact FnA.at_s (hc.get.2.2 ..) rfl xC | exact FnA.at_s (hc.get.2.2.2 ..) rfl xB | exact FnA.at_s (hc.get.2.2.2 ..) rfl xC | exact FnA.at_s (hc.get.2.2.2.2 ..) rfl xB | exact FnA.at_s (hc.get.2.2.2.2 ..) rfl xC | exact FnA.at_s (hc.get.2.2.2.2.2 ..) rfl xB | exact FnA.at_s (hc.get.2.2.2.2.2 ..) rfl xC | exact FnA.at_s (hc.get.2.2.2.2.2.2 ..) rfl xB | exact FnA.at_s (hc.get.2.2.2.2.2.2 ..) rfl xC | exact FnA.at_s (hc.get.2.2.2.2.2.2.2 ..) rfl xB | exact FnA.at_s (hc.get.2.2.2.2.2.2.2 ..) rfl xC | exact FnA.at_s (hc.get.2.2.2.2.2.2.2.2 ..) rfl xB | exact FnA.at_s (hc.get.2.2.2.2.2.2.2.2 ..) rfl xC | exact FnA.at_s (hc.get.2.2.2.2.2.2.2.2.2 ..) rfl xB | exact FnA.at_s (hc.get.2.2.2.2.2.2.2.2.2 ..) rfl xC | exact FnA.at_s (hc.get.2.2.2.2.2.2.2.2.2.2 ..) rfl xB | exact FnA.at_s (hc.get.2.2.2.2.2.2.2.2.2.2 ..) rfl xC | exact FnA.at_s (hc.get.2.2.2.2.2.2.2.2.2.2.2 ..) rfl xB | exact FnA.at_s (hc.get.2.2.2.2.2.2.2.2.2.2.2 ..) rfl xC | exact FnA.at_s (hc.get.2.2.2.2.2.2.2.2.2.2.2.2 ..) rfl xB | exact FnA.at_s (hc.get.2.2.2.2.2.2.2.2.2.2.2.2 ..) rfl xC | exact FnA.at_s (hc.get.2.2.2.2.2.2.2.2.2.2.2.2.2 ..) rfl xB | exact FnA.at_s (hc.get.2.2.2.2.2.2.2.2.2.2.2.2.2 ..) rfl xC) : FnA P f args x := h hc
theorem wkg {c p q : Prop} (hc : c) (hq : q) (h : Hid q → Hid c → p := by
    intro hq hc
    first
      | (refine zF (hK _ ?_); clear hK K)
      | refine stG ?_
      | (refine yH 1 rfl ?_; refine zN rfl rfl ⟨_, evl, _, _, _, evl, yR, ?_⟩; apply Exists.intro; refine ⟨fun hg => ?_, ?_⟩; · exact arm hc)
      | (refine zS 1 rfl ?_; refine zP rfl ⟨_, evl, _, _, _, (fun _ _ => w7), yR, ?_⟩; apply Exists.intro; refine ⟨fun hg => ?_, ?_⟩; · exact arm hc)
      | (refine zS 1 rfl ?_; refine zG ?_)
      | (refine z7 ?_; first | (refine zK (hK _ ?_); clear hK K) | (refine zT rfl ⟨_, evl, fun nb' => ?_⟩))
      | refine zD (fun K hK => ?_)
      | (refine xD ?_; first | (refine zC false rfl (by kernel_rfl) (by kernel_rfl) (fun K hK => ?_)) | (refine zC true rfl (by kernel_rfl) (by kernel_rfl) (fun K hK => ?_)))
      | fail
    repeat first
      | (refine zF (hK _ ?_); clear hK K)
      | refine stG ?_
      | (refine yH 1 rfl ?_; refine zN rfl rfl ⟨_, evl, _, _, _, evl, yR, ?_⟩; apply Exists.intro; refine ⟨fun hg => ?_, ?_⟩; · exact arm hc)
      | (refine zS 1 rfl ?_; refine zP rfl ⟨_, evl, _, _, _, (fun _ _ => w7), yR, ?_⟩; apply Exists.intro; refine ⟨fun hg => ?_, ?_⟩; · exact arm hc)
      | (refine zS 1 rfl ?_; refine zG ?_)
      | (refine z7 ?_; first | (refine zK (hK _ ?_); clear hK K) | (refine zT rfl ⟨_, evl, fun nb' => ?_⟩))
      | refine zD (fun K hK => ?_)
      | (refine xD ?_; first | (refine zC false rfl (by kernel_rfl) (by kernel_rfl) (fun K hK => ?_)) | (refine zC true rfl (by kernel_rfl) (by kernel_rfl) (fun K hK => ?_)))
    first | exact hq.get | (revert hK; revert K; exact sG hq.get)) : p := h ⟨hq⟩ ⟨hc⟩
theorem wkR {c p q : Prop} (hc : c) (hq : q) (h : Hid q → Hid c → p := by
    intro hq hc
    first
      | (refine zF (hK _ ?_); clear hK K)
      | refine stR ?_
      | (refine yH 1 rfl ?_; first | (refine zN rfl rfl ⟨_, evl, _, _, _, evl, yR, ?_⟩; apply Exists.intro; refine ⟨fun hg => ?_, ?_⟩; · exact arm hc) | (refine xN rfl rfl ⟨_, evl, _, _, _, evl, _, _, evl, yR, ?_⟩; apply Exists.intro; refine ⟨fun hg => ?_, ?_⟩; · exact arm hc))
      | (refine zS 1 rfl ?_; refine zP rfl ⟨_, evl, _, _, _, (fun _ _ => w7), yR, ?_⟩; apply Exists.intro; refine ⟨fun hg => ?_, ?_⟩; · exact arm hc)
      | (refine zS 1 rfl ?_; refine zG ?_)
      | (refine z7 ?_; first | (refine zK (hK _ ?_); clear hK K) | (refine zT rfl ⟨_, evl, fun nb' => ?_⟩))
      | refine zD (fun K hK => ?_)
      | (refine xD ?_; first | (refine zC false rfl (by kernel_rfl) (by kernel_rfl) (fun K hK => ?_)) | (refine zC true rfl (by kernel_rfl) (by kernel_rfl) (fun K hK => ?_)))
      | fail
    repeat first
      | (refine zF (hK _ ?_); clear hK K)
      | refine stR ?_
      | (refine yH 1 rfl ?_; first | (refine zN rfl rfl ⟨_, evl, _, _, _, evl, yR, ?_⟩; apply Exists.intro; refine ⟨fun hg => ?_, ?_⟩; · exact arm hc) | (refine xN rfl rfl ⟨_, evl, _, _, _, evl, _, _, evl, yR, ?_⟩; apply Exists.intro; refine ⟨fun hg => ?_, ?_⟩; · exact arm hc))
      | (refine zS 1 rfl ?_; refine zP rfl ⟨_, evl, _, _, _, (fun _ _ => w7), yR, ?_⟩; apply Exists.intro; refine ⟨fun hg => ?_, ?_⟩; · exact arm hc)
      | (refine zS 1 rfl ?_; refine zG ?_)
      | (refine z7 ?_; first | (refine zK (hK _ ?_); clear hK K) | (refine zT rfl ⟨_, evl, fun nb' => ?_⟩))
      | refine zD (fun K hK => ?_)
      | (refine xD ?_; first | (refine zC false rfl (by kernel_rfl) (by kernel_rfl) (fun K hK => ?_)) | (refine zC true rfl (by kernel_rfl) (by kernel_rfl) (fun K hK => ?_)))
    first | exact hq.get | (revert hK; revert K; exact sG hq.get)) : p := h ⟨hq⟩ ⟨hc⟩
theorem wkB {c p q : Prop} (hc : c) (hq : q) (h : Hid q → Hid c → p := by
    intro hq hc
    first
      | (refine zF (hK _ ?_); clear hK K)
      | refine stB ?_
      | (refine yH 2 rfl ?_; refine zEu yQ rfl rfl rfl ⟨_, _, _, _, _, _, _, evl, obq, _, _, _, _, _, evl, _, evl, obq, obq, obs, _, evl, fun c hc1 hc2 => ⟨_, evl, ?_⟩⟩)
      | (refine yH 1 rfl ?_; first | (refine zN rfl rfl ⟨_, evl, _, _, _, evl, yR, ?_⟩; apply Exists.intro; refine ⟨fun hg => ?_, ?_⟩; · exact arm hc) | (refine xN rfl rfl ⟨_, evl, _, _, _, evl, _, _, evl, yR, ?_⟩; apply Exists.intro; refine ⟨fun hg => ?_, ?_⟩; · exact arm hc))
      | (refine zS 1 rfl ?_; refine zP rfl ⟨_, evl, _, _, _, (fun _ _ => w7), yR, ?_⟩; apply Exists.intro; refine ⟨fun hg => ?_, ?_⟩; · exact arm hc)
      | (refine zS 1 rfl ?_; refine zG ?_)
      | (refine z7 ?_; first | (refine zK (hK _ ?_); clear hK K) | (refine zT rfl ⟨_, evl, fun nb' => ?_⟩))
      | refine zD (fun K hK => ?_)
      | (refine xD ?_; first | (refine zC false rfl (by kernel_rfl) (by kernel_rfl) (fun K hK => ?_)) | (refine zC true rfl (by kernel_rfl) (by kernel_rfl) (fun K hK => ?_)))
      | fail
    repeat first
      | (refine zF (hK _ ?_); clear hK K)
      | refine stB ?_
      | (refine yH 2 rfl ?_; refine zEu yQ rfl rfl rfl ⟨_, _, _, _, _, _, _, evl, obq, _, _, _, _, _, evl, _, evl, obq, obq, obs, _, evl, fun c hc1 hc2 => ⟨_, evl, ?_⟩⟩)
      | (refine yH 1 rfl ?_; first | (refine zN rfl rfl ⟨_, evl, _, _, _, evl, yR, ?_⟩; apply Exists.intro; refine ⟨fun hg => ?_, ?_⟩; · exact arm hc) | (refine xN rfl rfl ⟨_, evl, _, _, _, evl, _, _, evl, yR, ?_⟩; apply Exists.intro; refine ⟨fun hg => ?_, ?_⟩; · exact arm hc))
      | (refine zS 1 rfl ?_; refine zP rfl ⟨_, evl, _, _, _, (fun _ _ => w7), yR, ?_⟩; apply Exists.intro; refine ⟨fun hg => ?_, ?_⟩; · exact arm hc)
      | (refine zS 1 rfl ?_; refine zG ?_)
      | (refine z7 ?_; first | (refine zK (hK _ ?_); clear hK K) | (refine zT rfl ⟨_, evl, fun nb' => ?_⟩))
      | refine zD (fun K hK => ?_)
      | (refine xD ?_; first | (refine zC false rfl (by kernel_rfl) (by kernel_rfl) (fun K hK => ?_)) | (refine zC true rfl (by kernel_rfl) (by kernel_rfl) (fun K hK => ?_)))
    first | exact hq.get | (revert hK; revert K; exact sG hq.get)) : p := h ⟨hq⟩ ⟨hc⟩
theorem wg {p q : Prop} (hq : q) (h : Hid q → p := by
    intro hq
    first
      | (refine zF (hK _ ?_); clear hK K)
      | refine stG ?_
      | (refine zS 1 rfl ?_; refine zG ?_)
      | (refine z7 ?_; first | (refine zK (hK _ ?_); clear hK K) | (refine zT rfl ⟨_, evl, fun nb' => ?_⟩))
      | refine zD (fun K hK => ?_)
      | (refine xD ?_; first | (refine zC false rfl (by kernel_rfl) (by kernel_rfl) (fun K hK => ?_)) | (refine zC true rfl (by kernel_rfl) (by kernel_rfl) (fun K hK => ?_)))
      | fail
    repeat first
      | (refine zF (hK _ ?_); clear hK K)
      | refine stG ?_
      | (refine zS 1 rfl ?_; refine zG ?_)
      | (refine z7 ?_; first | (refine zK (hK _ ?_); clear hK K) | (refine zT rfl ⟨_, evl, fun nb' => ?_⟩))
      | refine zD (fun K hK => ?_)
      | (refine xD ?_; first | (refine zC false rfl (by kernel_rfl) (by kernel_rfl) (fun K hK => ?_)) | (refine zC true rfl (by kernel_rfl) (by kernel_rfl) (fun K hK => ?_)))
    first | exact hq.get | (revert hK; revert K; exact sG hq.get)) : p := h ⟨hq⟩
theorem wkM {k c p q : Prop} (hk : k) (hc : c) (hq : q) (h : Hid q → Hid c → k → p := by
    intro hq hc hK
    first
      | (refine zF (hK _ ?_); (first | clear hK K | clear hK))
      | refine stG ?_
      | (refine yH 1 rfl ?_; refine zN rfl rfl ⟨_, evl, _, _, _, evl, yR, ?_⟩; apply Exists.intro; refine ⟨fun hg => ?_, ?_⟩; · exact arm hc)
      | (refine zS 1 rfl ?_; refine zP rfl ⟨_, evl, _, _, _, (fun _ _ => w7), yR, ?_⟩; apply Exists.intro; refine ⟨fun hg => ?_, ?_⟩; · exact arm hc)
      | (refine zS 1 rfl ?_; refine zG ?_)
      | (refine z7 ?_; first | (refine zK (hK _ ?_); (first | clear hK K | clear hK)) | (refine zT rfl ⟨_, evl, fun nb' => ?_⟩))
      | refine zD (fun K hK => ?_)
      | (refine xD ?_; first | (refine zC false rfl (by kernel_rfl) (by kernel_rfl) (fun K hK => ?_)) | (refine zC true rfl (by kernel_rfl) (by kernel_rfl) (fun K hK => ?_)))
      | fail
    repeat first
      | (refine zF (hK _ ?_); (first | clear hK K | clear hK))
      | refine stG ?_
      | (refine yH 1 rfl ?_; refine zN rfl rfl ⟨_, evl, _, _, _, evl, yR, ?_⟩; apply Exists.intro; refine ⟨fun hg => ?_, ?_⟩; · exact arm hc)
      | (refine zS 1 rfl ?_; refine zP rfl ⟨_, evl, _, _, _, (fun _ _ => w7), yR, ?_⟩; apply Exists.intro; refine ⟨fun hg => ?_, ?_⟩; · exact arm hc)
      | (refine zS 1 rfl ?_; refine zG ?_)
      | (refine z7 ?_; first | (refine zK (hK _ ?_); (first | clear hK K | clear hK)) | (refine zT rfl ⟨_, evl, fun nb' => ?_⟩))
      | refine zD (fun K hK => ?_)
      | (refine xD ?_; first | (refine zC false rfl (by kernel_rfl) (by kernel_rfl) (fun K hK => ?_)) | (refine zC true rfl (by kernel_rfl) (by kernel_rfl) (fun K hK => ?_)))
    first | exact hq.get | (revert hK; revert K; exact sG hq.get)) : p := h ⟨hq⟩ ⟨hc⟩ hk
theorem wkN {k c p q : Prop} (hk : k) (hc : c) (hq : q) (h : Hid q → Hid c → k → p := by
    intro hq hc hK
    first
      | (refine zF (hK _ ?_); (first | clear hK K | clear hK))
      | refine stR ?_
      | (refine yH 1 rfl ?_; first | (refine zN rfl rfl ⟨_, evl, _, _, _, evl, yR, ?_⟩; apply Exists.intro; refine ⟨fun hg => ?_, ?_⟩; · exact arm hc) | (refine xN rfl rfl ⟨_, evl, _, _, _, evl, _, _, evl, yR, ?_⟩; apply Exists.intro; refine ⟨fun hg => ?_, ?_⟩; · exact arm hc))
      | (refine zS 1 rfl ?_; refine zP rfl ⟨_, evl, _, _, _, (fun _ _ => w7), yR, ?_⟩; apply Exists.intro; refine ⟨fun hg => ?_, ?_⟩; · exact arm hc)
      | (refine zS 1 rfl ?_; refine zG ?_)
      | (refine z7 ?_; first | (refine zK (hK _ ?_); (first | clear hK K | clear hK)) | (refine zT rfl ⟨_, evl, fun nb' => ?_⟩))
      | refine zD (fun K hK => ?_)
      | (refine xD ?_; first | (refine zC false rfl (by kernel_rfl) (by kernel_rfl) (fun K hK => ?_)) | (refine zC true rfl (by kernel_rfl) (by kernel_rfl) (fun K hK => ?_)))
      | fail
    repeat first
      | (refine zF (hK _ ?_); (first | clear hK K | clear hK))
      | refine stR ?_
      | (refine yH 1 rfl ?_; first | (refine zN rfl rfl ⟨_, evl, _, _, _, evl, yR, ?_⟩; apply Exists.intro; refine ⟨fun hg => ?_, ?_⟩; · exact arm hc) | (refine xN rfl rfl ⟨_, evl, _, _, _, evl, _, _, evl, yR, ?_⟩; apply Exists.intro; refine ⟨fun hg => ?_, ?_⟩; · exact arm hc))
      | (refine zS 1 rfl ?_; refine zP rfl ⟨_, evl, _, _, _, (fun _ _ => w7), yR, ?_⟩; apply Exists.intro; refine ⟨fun hg => ?_, ?_⟩; · exact arm hc)
      | (refine zS 1 rfl ?_; refine zG ?_)
      | (refine z7 ?_; first | (refine zK (hK _ ?_); (first | clear hK K | clear hK)) | (refine zT rfl ⟨_, evl, fun nb' => ?_⟩))
      | refine zD (fun K hK => ?_)
      | (refine xD ?_; first | (refine zC false rfl (by kernel_rfl) (by kernel_rfl) (fun K hK => ?_)) | (refine zC true rfl (by kernel_rfl) (by kernel_rfl) (fun K hK => ?_)))
    first | exact hq.get | (revert hK; revert K; exact sG hq.get)) : p := h ⟨hq⟩ ⟨hc⟩ hk
theorem hlT {p : Prop} (h : p := by first | trivial | exact ⟨rfl, trivial⟩ | exact ⟨rfl, rfl, trivial⟩ | exact ⟨rfl, rfl, rfl, trivial⟩ | simp [zCd, AV.renL, AV.ren, z9.ren]) : p := h
theorem zX1 {p : Prop} (h : p := by first | (simp [AV.subL, AV.sub]; done) | (simp only [yKi, yKj, yKk, yKl, yKn, yIw, AV.subL, AV.sub, yIz, yK8, yJa, Nat.reduceAdd]; (repeat' apply And.intro) <;> first | trivial | omega | (simp; done) | (refine AV.sub_free _ ?_; exact zE (fun _ => by simp) _) | (refine AV.subL_free _ ?_; simp; done) | (intro r hr; cases hr; done))) : p := h
theorem yHr {p : Prop} (h : p := by simp only [yIz, yK8]; omega) : p := h
theorem yA9 {bx : List (List AV)} {rw : List z9} {x y : AV} (h : x = y := by first | rfl | (simp; done) | (simp_all; done) | (simp_all; omega) | (simp; grind) | (split <;> simp_all)) : z6 bx rw x y := z6.of_eq h
theorem cb {a p : Prop} (h : a → p := by intro hb; first | (simp only [yKt, yJl, yKw, yKv, yJn, yKs, yJd, yLj, yJm, yKu, yLk, yK3, ne_eq, yLl, yJc, yLm, yKg, yKh] at hb; exact hb) | exact hb) : a → p := h
theorem yFd {P : Program} {st : ASt} {x y : Code} {c : Operand} {Q : Exit → ASt → Prop} {p q : Prop} (h : ∃ b : Bool, st.ev c = some (true, .raw (.bool b)) ∧ ((b = true → p) ∧ (b = false → q)) ∧ (p → wpA P x Q st) ∧ (q → wpA P y Q st)) : wpA P (.cond c x y) Q st := by obtain ⟨b, hc, ⟨hp, hq⟩, hx, hy⟩ := h; exact zA ⟨b, hc, fun h => hx (hp h), fun h => hy (hq h)⟩
theorem wkn {nt nb : Nat} {sl sl' : List (Nat × (Bool × AV))} {bx bx' : List (List AV)} {rw rw' : List z9} {ys : (Nat × List (List AV)) × List (List AV) × Bool} (h1 : zCt bx rw sl' sl) (h2 : zBm bx rw bx' bx) (h3 : zBl bx rw rw' rw) (h4 : nb % 64 ≤ bx'.length ∧ nb / 64 ≤ rw'.length := by simp) (h5 : zD5 bx'.length rw'.length sl' ∧ zPb bx'.length rw'.length bx' ∧ zPa bx'.length rw'.length rw' := by first | (simp [zD5, zPb, zPa, AV.sub, AV.subL, go_sem]; done) | (simp [zD5, zPb, zPa, AV.sub, AV.subL, go_sem, AV.subL_free, AV.sub_free, *]; done) | (simp_all [zD5, zPb, zPa, AV.sub, AV.subL, go_sem]; done)) : xJ ⟨nt, nb, sl, bx, rw, ys⟩ ⟨nt, nb, sl', bx', rw', ys⟩ := xJ.gen h1 h2 h3 h4 h5
theorem wkS {p q : Prop} (hq : q) (h : Hid q → p := by intro hq; (simp only [zCt, zBm, zBl, z8, zL, ↓reduceIte, Nat.reduceEqDiff, yIg, yIv, yIw, yKn, exists_eq_left', yKo]); exact hq.get) : p := h ⟨hq⟩
theorem wk0 {p : Prop} (h : p := by first | (simp only [zCt, zBm, zBl, z8, zL, ↓reduceIte, Nat.reduceEqDiff, yIg, yIv, yIw, yKn, exists_eq_left', yKo]; done) | fail) : p := h
theorem cS {P : Program} {st : ASt} {x y : Code} {c : Operand} {Q : Exit → ASt → Prop} {p q : Prop} {b : Bool} (hx : p → wpA P x Q st) (hy : q → wpA P y Q st) (hc : st.ev c = some (true, .raw (.bool b)) := by exact evl) (hp : b = true → p := by exact cb) (hq : b = false → q := by exact cb) : wpA P (.cond c x y) Q st := zA ⟨b, hc, fun h => hx (hp h), fun h => hy (hq h)⟩
theorem fre {p : Prop} (h : p := by first | (simp [AV.free, AV.freeL, go_sem]; done) | exact zE (fun _ => by simp [AV.free, AV.freeL, u8C, iC]) _ | (simp_all [AV.free, AV.freeL, sA, u8C, iC]; done) | fail) : p := h
theorem wkL {p : Prop} (h : p := by first | exact zPe | (intro _ _; exact zPe) | omega | (simp; done) | (simp; omega) | (intro _ _; refine z8.of_eq (jM ?_ (by assumption) rfl) <;> first | rfl | omega | (simp; done) | (simp; omega)) | fail) : p := h
theorem wkZ {nt nb : Nat} {sl sl' : List (Nat × (Bool × AV))} {bx bx' : List (List AV)} {rw rw' : List z9} {ys : (Nat × List (List AV)) × List (List AV) × Bool} (h1 : zCt bx rw sl' sl := by first | exact wk0 | ((first | refine wkS ?_ | skip); first | trivial | ((repeat' apply And.intro) <;> exact wkL))) (h2 : zBm bx rw bx' bx := by first | exact wk0 | ((first | refine wkS ?_ | skip); first | trivial | ((repeat' apply And.intro) <;> exact wkL))) (h3 : zBl bx rw rw' rw := by first | exact wk0 | ((first | refine wkS ?_ | skip); first | trivial | ((repeat' apply And.intro) <;> exact wkL))) (h : zCt bx rw sl' sl → zBm bx rw bx' bx → zBl bx rw rw' rw → xJ ⟨nt, nb, sl, bx, rw, ys⟩ ⟨nt, nb, sl', bx', rw', ys⟩ := by intro h1 h2 h3; exact wkn h1 h2 h3) : xJ ⟨nt, nb, sl, bx, rw, ys⟩ ⟨nt, nb, sl', bx', rw', ys⟩ := h h1 h2 h3
theorem en {q : Prop} {f : FuncId} {fn : Func} {c : Code} {args : List AV} {r : AV} {n : Nat} (hf : Tryz.prog.funcs[f]? = some fn) (hn : fn.ntmps = n) (rs : List ResultVar) (hb : fn.body = some c) (hq : q) (hrs : fn.results.toList = rs := by rfl) (hnm : (fn.name == "runtime.NumGoroutine") = false := by kernel_rfl) (hlen : args.length ≤ n := by simp only [yIz, yK8]; omega) (h : Hid q → wpA Tryz.prog c (jG tbl rs r) (zBg n args) := by intro hq; simp only [zBg, zBk, yJa, Nat.reduceAdd]; exact hq.get) : FnA Tryz.prog f args r := yBf yQ hf hb hnm n hn hlen rs hrs (h ⟨hq⟩)
theorem enG {q : Prop} {f : FuncId} {fn : Func} {c : Code} {args : List AV} {bx bx' : List (List AV)} {rw rw' : List z9} {r : AV} {n : Nat} (hf : Tryz.prog.funcs[f]? = some fn) (hn : fn.ntmps = n) (rs : List ResultVar) (m : Nat) (hb : fn.body = some c) (hq : q) (hrs : fn.results.toList = rs := by rfl) (hnm : (fn.name == "runtime.NumGoroutine") = false := by kernel_rfl) (hlen : args.length ≤ n := by simp only [yIz, yK8]; omega) (h64 : bx.length < 64 := by simp) (h : Hid q → wpA Tryz.prog c (zHx tbl rs m r bx' rw') (zKe n args bx rw) := by intro hq; simp only [zKe, zBk, yJa, Nat.reduceAdd, yIz, yK8]; exact hq.get) : FnG Tryz.prog f args bx rw r bx' rw' := yBe yQ hf hb hnm n hn hlen rs hrs m h64 (h ⟨hq⟩)
theorem rt {q : Prop} {T : TT} {st : ASt} {rs : List ResultVar} {r : AV} {e : Exit} (hq : q) (h : Hid q → jG T rs r e st := by intro hq; exact zR (by simp) ⟨_, _, _, evl, ob0, zV.sims hq.get fre⟩) : jG T rs r e st := h ⟨hq⟩
theorem rq {p q : Prop} {T : TT} {st : ASt} {rs : List ResultVar} {r : AV} {e : Exit} (hp : p) (hq : q) (h : Hid p → Hid q → jG T rs r e st := by intro hp hq; exact zR (by simp) ⟨_, _, _, evl, ob0, zV.eq hp.get hq.get⟩) : jG T rs r e st := h ⟨hp⟩ ⟨hq⟩
theorem fA {p : Prop} (h : p := by (try refine zR (by simp) ⟨_, _, _, evl, ob0, zV.sims ?_ fre⟩); first | exact z6.refl _ | exact yA9 | exact yU | (refine z6.tup ?_; simp only [z8, yKn]; (repeat' apply And.intro) <;> exact yU) | (exfalso; first | omega | (simp_all; done) | (simp_all; omega))) : p := h
end Go.Proofs.YtchpbdecipcelaaGreatDoor
