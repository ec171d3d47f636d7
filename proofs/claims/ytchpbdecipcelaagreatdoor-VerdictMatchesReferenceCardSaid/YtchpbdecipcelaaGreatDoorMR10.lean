import Derived.Test.YtchpbdecipcelaaGreatDoorMR01
import Derived.Scope
import Derived.Test.YtchpbdecipcelaaGreatDoorMR07
import Derived.Test.YtchpbdecipcelaaGreatDoorMR09
namespace Go.Proofs.YtchpbdecipcelaaGreatDoor
set_option linter.unusedVariables false
set_option linter.unusedSimpArgs false
set_option maxHeartbeats 4000000
set_option maxRecDepth 100000
open Go.RowKit
def zY4 (full : List Oper) (o : Oper) : Bool := match o.dst with
  | some d => full.any fun p => match p.op with
    | .call c => match c.callee with
      | .builtin .append => match c.args.toList with
        | Operand.tmp t :: _ => Nat.beq t d
        | _ => false
      | _ => false
    | _ => false
  | none => false
theorem zFg {P : Program} {full : List Oper} {all : Bool} {m : Nat} {ia : List (Nat × AK)} {es : List AEn} {ib : List Nat} {r : List Oper} {k : ASt → Prop} {nt nb : Nat} {sl sl0 : List (Nat × (Bool × AV))} {bx : List (List AV)} {rw : List yD} {ys : (Nat × List (List AV)) × List (List AV) × Bool} {o : Oper} (_ : zY4 full o = true) (h : zBt P full all (m + 1) ia es (ib ++ [m]) r k sl0 ⟨nt, nb, sl, bx, rw, ys⟩) : zBt P full all m ia es ib (o :: r) k sl0 ⟨nt, nb, sl, bx, rw, ys⟩ := zJ h
@[go_sem] def offX : Op → AV
  | .binOp _ _ _ _ _ => .raw (.bool false)
  | .unOp _ _ _ => .raw (.bool false)
  | _ => .raw undef
theorem zHg {P : Program} {ops : Array Oper} {o : Oper} {st : ASt} {x : AV} (hg : xL ops st o = some false) : j4 P ops o st false x := fun _ _ _ _ _ hs => ⟨y7 hg hs, fun h => by cases h⟩
section offs
variable {P : Program} {ops : Array Oper} {r : List Oper} {k : ASt → Prop} {nt nb : Nat} {sl sl0 : List (Nat × (Bool × AV))} {bx : List (List AV)} {rw : List yD} {ys : (Nat × List (List AV)) × List (List AV) × Bool} {o : Oper} {d : Nat} {full : List Oper} {all : Bool} {m : Nat} {ia : List (Nat × AK)} {es : List AEn} {ib : List Nat}
theorem zId (hd : o.dst = some d) (hn : Nat.blt d nt = true) (h : xL ops ⟨nt, nb, sl, bx, rw, ys⟩ o = some false ∧ ∃ x, offX o.op = x ∧ xK P ops r k ⟨nt, nb, (d, (false, x)) :: sl, bx, rw, ys⟩) : xK P ops (o :: r) k ⟨nt, nb, sl, bx, rw, ys⟩ :=
  let ⟨hg, _, _, h⟩ := h
  zA0 hd (zHg hg) hn h
theorem zIf (hd : o.dst = some d) (h : xL full.toArray ⟨nt, nb, sl, bx, rw, ys⟩ o = some false ∧ ∃ x, offX o.op = x ∧ zBt P full all (m + 1) (ia ++ [(m, .any)]) (es ++ [(m, .any, (d, (false, x)))]) ib r k sl0 ⟨nt, nb, (d, (false, x)) :: sl, bx, rw, ys⟩) : zBt P full all m ia es ib (o :: r) k sl0 ⟨nt, nb, sl, bx, rw, ys⟩ :=
  let ⟨hg, x, _, h⟩ := h
  kT (kd := .any) (g := false) (x := x) hd (fun ext rw' => zHg (st := ⟨nt, nb, sl, zMy all bx ext, rw', ys⟩) hg) h
end offs
section scopes
variable {P : Program} {b : Frame} {a : Act} {k : List Item} {cs : List Frame} {w : World}
theorem vJ {c : Code} : step P (lone (b.atR a (.code (.scope c) :: k)) cs w) = .next (lone (b.atR a (.code c :: .inScope c :: k)) cs w) :=
  step_lone_go (by simp [stepG, stepG.exec, Frame.atR])
theorem zI8 {c : Code} : step P (lone (b.atR a (.inScope c :: k)) cs w) = .next (lone (b.atR a k) cs w) :=
  step_lone_go (by simp [stepG, stepG.exec, Frame.atR])
theorem zLz {F : Fence} {n : Nat} {Q : Exit → Act → World → Prop} {c : Code} (h : c.wpIn F n P (Exit.noGoto Q) a w) : (Code.scope c).wpIn F n P Q a w := by
  intro b k cs hro hb hr
  have h0 : (lone (b.atR a (.code (.scope c) :: k)) cs w).fenced P F := fenced_calm hb hr rfl
  obtain ⟨e, a₁, w₁, hq, harr⟩ := h b (.inScope c :: k) cs hro hb hr
  cases e with
  | normal => exact ⟨.normal, a₁, w₁, hq, .head h0 vJ (StepsIn.trans harr (.one (fenced_calm hb hr rfl) zI8))⟩
  | exit id =>
    have hx : exitTo id (.inScope c :: k) = exitTo id k := by simp [exitTo]
    exact ⟨.exit id, a₁, w₁, hq, fun k' hk => .head h0 vJ (harr.1 k' (by rw [hx]; exact hk)),
      fun hr' hk => let ⟨k₁, h1, h2⟩ := harr.2 hr' (by rw [hx]; exact hk); ⟨k₁, h1, .head h0 vJ h2⟩⟩
  | goto l => exact hq.elim
  | ret => exact ⟨_, a₁, w₁, hq, .of_steps (.one h0 vJ) harr⟩
  | panic ch => exact ⟨_, a₁, w₁, hq, .of_steps (.one h0 vJ) harr⟩
  | outgrown => exact ⟨_, a₁, w₁, hq, .of_steps (.one h0 vJ) harr⟩
end scopes
theorem zS7 {P : Program} {c : Code} {Q : Exit → ASt → Prop} {st : ASt} (hg : ∀ l s, ¬ Q (.goto l) s) (h : wpA P c Q st) : wpA P (.scope c) Q st := fun C G a w hs =>
  zLz (wpIn_mono (h C G a w hs) fun e a' w' hd => by
    cases e with
    | goto l => obtain ⟨G', st', _, hq⟩ := hd; exact hg l st' hq
    | _ => exact hd)
theorem zQ3 {P : Program} {c : Code} {T : TT} {rs : List ResultVar} {r : AV} {st : ASt} (h : wpA P c (jJ T rs r) st) : wpA P (.scope c) (jJ T rs r) st := zS7 (fun l s h => by rcases h.1 with h | h <;> cases h) h
theorem yR {p : Prop} (h : p := by
    first
      | exact oblF
      | (intro hg
         (try simp only [yMn, yMo, yMp, yMq, yMt, yKz])
         ((repeat' first | trivial | assumption | refine And.intro ?_ ?_) <;> fail))
      | fail) : p := h
structure Hid (q : Prop) : Prop where
  get : q
theorem stG {p q : Prop} (hq : q) (h : Hid q → p := by
    intro hq
    first
      | (refine yJ 0 rfl ?_; first | (refine kS yH rfl rfl ⟨_, evl, _, _, _, evl, yR, ?_⟩; exact hq.get) | (refine kS yH rfl rfl ⟨_, evl, _, _, _, evl, yC1, ?_⟩; exact hq.get) | (refine zId rfl rfl ⟨evl, _, evl, ?_⟩; exact hq.get))
      | (refine yJ 2 rfl ?_; first | (refine qK yH rfl rfl ⟨_, evl, _, _, _, evl, yR, ?_⟩; exact hq.get) | (refine zIe yH rfl rfl rfl ⟨_, _, _, _, _, _, _, _, evl, obq, _, evl, _, evl, _, evl, _, evl, obq, obq, obq, _, evl, _, evl, ?_⟩; exact hq.get) | (refine zBc yH rfl rfl rfl ⟨_, _, _, _, _, _, evl, obq, _, evl, _, rfl, _, evl, rfl, _, evl, _, evl, obq, obs, _, evl, _, evl, ?_⟩; exact hq.get))
      | (refine yJ 3 rfl ?_; first | (refine zMh yH rfl rfl ⟨_, evl, _, _, _, evl, yR, ?_⟩; exact hq.get))
      | (refine yJ 4 rfl ?_; first | (refine zSz yH rfl rfl rfl rfl ⟨_, evl, _, evl, _, evl, ?_⟩; exact hq.get))
      | (refine yJ 5 rfl ?_; first | (refine yJh rfl rfl rfl rfl ⟨_, evl, ob1, _, evl, _, evl, ?_⟩; exact hq.get))
      | (refine yJ 6 rfl ?_; first | (refine zH6 yH rfl rfl rfl ⟨_, _, evl, _, evl, _, evl, _, evl, ob1, _, evl, ?_⟩; exact hq.get))
      | (refine zUy ?_; refine zIh (by decide +kernel) ?_; exact hq.get)
      | (refine zW 0 rfl ?_; first | (refine zAn yH rfl ⟨_, evl, _, _, _, (fun _ _ => vH), yR, ?_⟩; exact hq.get) | (refine zAn yH rfl ⟨_, evl, _, _, _, (fun _ _ => vH), yC1, ?_⟩; exact hq.get) | (refine zDb yH rfl ⟨_, evl, _, _, _, (fun _ => vH), yR, ?_⟩; exact hq.get) | (refine zIf rfl ⟨evl, _, evl, ?_⟩; exact hq.get) | (refine zJ ?_; exact hq.get))
      | (refine zW 3 rfl ?_; first | (refine zFg (by decide +kernel) ?_; exact hq.get) | (refine zT2 yH rfl ⟨_, evl, _, _, _, (fun _ _ => vH), yR, ?_⟩; exact hq.get) | (refine zJ ?_; exact hq.get))
      | (refine zW 2 rfl ?_; first | (refine zJ ?_; exact hq.get))
      | (refine zW 4 rfl ?_; first | (refine zJ ?_; exact hq.get))
      | (refine zW 5 rfl ?_; first | (refine zJ ?_; exact hq.get))
      | (refine zW 6 rfl ?_; first | (refine zJ ?_; exact hq.get))
      | (refine zUx ?_; refine zIg ⟨_, evl, _, evl, by decide +kernel, ?_⟩; exact hq.get)
      | (refine zAm ?_ ?_ ?_ ?_; (focus (exact rfl)); (focus (first | exact zFx _ _ | exact zR7 _ rfl)); (focus (first | exact fun _ => ⟨rfl, _, rfl⟩ | exact fun h => absurd h (by decide))); exact hq.get)
      | (refine zFe ?_ ?_ ?_ ?_; (focus (exact rfl)); (focus (first | exact zFx _ _ | exact zR7 _ rfl)); (focus (first | exact fun _ => ⟨rfl, _, rfl⟩ | exact fun h => absurd h (by decide))); exact hq.get)
      | (with_reducible refine zD5 ?_; exact hq.get)
      | (with_reducible refine zD4 ?_; exact hq.get)
      | (with_reducible refine zD6 ?_; exact hq.get)
      | (with_reducible refine qG ?_; exact hq.get)
      | (with_reducible refine qF ?_; exact hq.get)
      | (with_reducible refine wX ?_; exact hq.get)
      | (with_reducible refine wB rfl ?_; exact hq.get)
      | (with_reducible refine zAg ?_; exact hq.get)
      | (with_reducible refine kK ?_; exact hq.get)
      | (with_reducible refine zAf ?_; exact hq.get)
      | (with_reducible refine zD1 ?_; exact hq.get)
      | (with_reducible refine zAi ?_; exact hq.get)
      | (with_reducible refine kI ?_; exact hq.get)
      | (refine zD5 ?_; exact hq.get)
      | (refine zD4 ?_; exact hq.get)
      | (refine zD6 ?_; exact hq.get)
      | (refine qG ?_; exact hq.get)
      | (refine qF ?_; exact hq.get)
      | (refine wX ?_; exact hq.get)
      | (refine wB rfl ?_; exact hq.get)
      | (refine zAg ?_; exact hq.get)
      | (refine kK ?_; exact hq.get)
      | (refine zAf ?_; exact hq.get)
      | (refine zD1 ?_; exact hq.get)
      | (refine zAi ?_; exact hq.get)
      | (refine kI ?_; exact hq.get)
      | fail) : p := h ⟨hq⟩
theorem stR {p q : Prop} (hq : q) (h : Hid q → p := by
    intro hq
    first
      | (refine yJ 0 rfl ?_; first | (refine kS yH rfl rfl ⟨_, evl, _, _, _, evl, yR, ?_⟩; exact hq.get) | (refine kS yH rfl rfl ⟨_, evl, _, _, _, evl, yC1, ?_⟩; exact hq.get) | (refine zId rfl rfl ⟨evl, _, evl, ?_⟩; exact hq.get))
      | (refine yJ 2 rfl ?_; first | (refine qK yH rfl rfl ⟨_, evl, _, _, _, evl, yR, ?_⟩; exact hq.get) | (refine zIe yH rfl rfl rfl ⟨_, _, _, _, _, _, _, _, evl, obq, _, evl, _, evl, _, evl, _, evl, obq, obq, obq, _, evl, _, evl, ?_⟩; exact hq.get) | (refine zBc yH rfl rfl rfl ⟨_, _, _, _, _, _, evl, obq, _, evl, _, rfl, _, evl, rfl, _, evl, _, evl, obq, obs, _, evl, _, evl, ?_⟩; exact hq.get))
      | (refine yJ 3 rfl ?_; first | (refine zH8 yH rfl rfl rfl ⟨_, _, _, evl, obq, _, evl, _, evl, ?_⟩; exact hq.get) | (refine zMh yH rfl rfl ⟨_, evl, _, _, _, evl, yR, ?_⟩; exact hq.get))
      | (refine yJ 4 rfl ?_; first | (refine zSz yH rfl rfl rfl rfl ⟨_, evl, _, evl, _, evl, ?_⟩; exact hq.get))
      | (refine yJ 5 rfl ?_; first | (refine yJh rfl rfl rfl rfl ⟨_, evl, ob1, _, evl, _, evl, ?_⟩; exact hq.get))
      | (refine yJ 6 rfl ?_; first | (refine zH6 yH rfl rfl rfl ⟨_, _, evl, _, evl, _, evl, _, evl, ob1, _, evl, ?_⟩; exact hq.get))
      | (refine zUy ?_; refine zIh (by decide +kernel) ?_; exact hq.get)
      | (refine zW 0 rfl ?_; first | (refine zAn yH rfl ⟨_, evl, _, _, _, (fun _ _ => vH), yR, ?_⟩; exact hq.get) | (refine zAn yH rfl ⟨_, evl, _, _, _, (fun _ _ => vH), yC1, ?_⟩; exact hq.get) | (refine zDb yH rfl ⟨_, evl, _, _, _, (fun _ => vH), yR, ?_⟩; exact hq.get) | (refine zIf rfl ⟨evl, _, evl, ?_⟩; exact hq.get) | (refine zJ ?_; exact hq.get))
      | (refine zW 3 rfl ?_; first | (refine zFg (by decide +kernel) ?_; exact hq.get) | (refine zT2 yH rfl ⟨_, evl, _, _, _, (fun _ _ => vH), yR, ?_⟩; exact hq.get) | (refine zJ ?_; exact hq.get))
      | (refine zW 2 rfl ?_; first | (refine zJ ?_; exact hq.get))
      | (refine zW 4 rfl ?_; first | (refine zJ ?_; exact hq.get))
      | (refine zW 5 rfl ?_; first | (refine zJ ?_; exact hq.get))
      | (refine zW 6 rfl ?_; first | (refine zJ ?_; exact hq.get))
      | (refine zUx ?_; refine zIg ⟨_, evl, _, evl, by decide +kernel, ?_⟩; exact hq.get)
      | (refine zAm ?_ ?_ ?_ ?_; (focus (exact rfl)); (focus (first | exact zFx _ _ | exact zR7 _ rfl)); (focus (first | exact fun _ => ⟨rfl, _, rfl⟩ | exact fun h => absurd h (by decide))); exact hq.get)
      | (refine zFe ?_ ?_ ?_ ?_; (focus (exact rfl)); (focus (first | exact zFx _ _ | exact zR7 _ rfl)); (focus (first | exact fun _ => ⟨rfl, _, rfl⟩ | exact fun h => absurd h (by decide))); exact hq.get)
      | (with_reducible refine zD5 ?_; exact hq.get)
      | (with_reducible refine zD4 ?_; exact hq.get)
      | (with_reducible refine zD6 ?_; exact hq.get)
      | (with_reducible refine qG ?_; exact hq.get)
      | (with_reducible refine qF ?_; exact hq.get)
      | (with_reducible refine wX ?_; exact hq.get)
      | (with_reducible refine wB rfl ?_; exact hq.get)
      | (with_reducible refine zAg ?_; exact hq.get)
      | (with_reducible refine kK ?_; exact hq.get)
      | (with_reducible refine zAf ?_; exact hq.get)
      | (with_reducible refine zD1 ?_; exact hq.get)
      | (with_reducible refine zAi ?_; exact hq.get)
      | (with_reducible refine kI ?_; exact hq.get)
      | (refine zD5 ?_; exact hq.get)
      | (refine zD4 ?_; exact hq.get)
      | (refine zD6 ?_; exact hq.get)
      | (refine qG ?_; exact hq.get)
      | (refine qF ?_; exact hq.get)
      | (refine wX ?_; exact hq.get)
      | (refine wB rfl ?_; exact hq.get)
      | (refine zAg ?_; exact hq.get)
      | (refine kK ?_; exact hq.get)
      | (refine zAf ?_; exact hq.get)
      | (refine zD1 ?_; exact hq.get)
      | (refine zAi ?_; exact hq.get)
      | (refine kI ?_; exact hq.get)
      | fail) : p := h ⟨hq⟩
theorem stB {p q : Prop} (hq : q) (h : Hid q → p := by
    intro hq
    first
      | (refine yJ 0 rfl ?_; first | (refine kS yH rfl rfl ⟨_, evl, _, _, _, evl, yR, ?_⟩; exact hq.get) | (refine kS yH rfl rfl ⟨_, evl, _, _, _, evl, yC1, ?_⟩; exact hq.get) | (refine zOf yH rfl rfl ⟨_, evl, _, _, _, evl, yR, ?_⟩; exact hq.get) | (refine zId rfl rfl ⟨evl, _, evl, ?_⟩; exact hq.get))
      | (refine yJ 3 rfl ?_; first | (refine zQk yH rfl rfl rfl rfl ⟨_, _, _, _, _, evl, _, evl, _, _, _, evl, obq, obq, _, evl, _, evl, ?_⟩; exact hq.get))
      | (refine yJ 2 rfl ?_; first | (refine qK yH rfl rfl ⟨_, evl, _, _, _, evl, yR, ?_⟩; exact hq.get) | (refine zIe yH rfl rfl rfl ⟨_, _, _, _, _, _, _, _, evl, obq, _, evl, _, evl, _, evl, _, evl, obq, obq, obq, _, evl, _, evl, ?_⟩; exact hq.get) | (refine zBc yH rfl rfl rfl ⟨_, _, _, _, _, _, evl, obq, _, evl, _, rfl, _, evl, rfl, _, evl, _, evl, obq, obs, _, evl, _, evl, ?_⟩; exact hq.get))
      | (refine yJ 3 rfl ?_; first | (refine zH8 yH rfl rfl rfl ⟨_, _, _, evl, obq, _, evl, _, evl, ?_⟩; exact hq.get) | (refine zMh yH rfl rfl ⟨_, evl, _, _, _, evl, yR, ?_⟩; exact hq.get))
      | (refine yJ 4 rfl ?_; first | (refine zSz yH rfl rfl rfl rfl ⟨_, evl, _, evl, _, evl, ?_⟩; exact hq.get))
      | (refine yJ 5 rfl ?_; first | (refine yJh rfl rfl rfl rfl ⟨_, evl, ob1, _, evl, _, evl, ?_⟩; exact hq.get))
      | (refine yJ 6 rfl ?_; first | (refine zH6 yH rfl rfl rfl ⟨_, _, evl, _, evl, _, evl, _, evl, ob1, _, evl, ?_⟩; exact hq.get))
      | (refine zUy ?_; refine zIh (by decide +kernel) ?_; exact hq.get)
      | (refine zW 0 rfl ?_; first | (refine zAn yH rfl ⟨_, evl, _, _, _, (fun _ _ => vH), yR, ?_⟩; exact hq.get) | (refine zAn yH rfl ⟨_, evl, _, _, _, (fun _ _ => vH), yC1, ?_⟩; exact hq.get) | (refine zT3 yH rfl ⟨_, evl, _, _, _, (fun _ _ => vH), yR, ?_⟩; exact hq.get) | (refine zDb yH rfl ⟨_, evl, _, _, _, (fun _ => vH), yR, ?_⟩; exact hq.get) | (refine zIf rfl ⟨evl, _, evl, ?_⟩; exact hq.get) | (refine zJ ?_; exact hq.get))
      | (refine zW 3 rfl ?_; first | (refine zFg (by decide +kernel) ?_; exact hq.get) | (refine zJ ?_; exact hq.get))
      | (refine zW 2 rfl ?_; first | (refine zJ ?_; exact hq.get))
      | (refine zW 4 rfl ?_; first | (refine zJ ?_; exact hq.get))
      | (refine zW 5 rfl ?_; first | (refine zJ ?_; exact hq.get))
      | (refine zW 6 rfl ?_; first | (refine zJ ?_; exact hq.get))
      | (refine zUx ?_; refine zIg ⟨_, evl, _, evl, by decide +kernel, ?_⟩; exact hq.get)
      | (refine zAm ?_ ?_ ?_ ?_; (focus (exact rfl)); (focus (first | exact zFx _ _ | exact zR7 _ rfl)); (focus (first | exact fun _ => ⟨rfl, _, rfl⟩ | exact fun h => absurd h (by decide))); exact hq.get)
      | (refine zFe ?_ ?_ ?_ ?_; (focus (exact rfl)); (focus (first | exact zFx _ _ | exact zR7 _ rfl)); (focus (first | exact fun _ => ⟨rfl, _, rfl⟩ | exact fun h => absurd h (by decide))); exact hq.get)
      | (with_reducible refine zD5 ?_; exact hq.get)
      | (with_reducible refine zD4 ?_; exact hq.get)
      | (with_reducible refine zD6 ?_; exact hq.get)
      | (with_reducible refine qG ?_; exact hq.get)
      | (with_reducible refine qF ?_; exact hq.get)
      | (with_reducible refine wX ?_; exact hq.get)
      | (with_reducible refine wB rfl ?_; exact hq.get)
      | (with_reducible refine zAg ?_; exact hq.get)
      | (with_reducible refine kK ?_; exact hq.get)
      | (with_reducible refine zAf ?_; exact hq.get)
      | (with_reducible refine zD1 ?_; exact hq.get)
      | (with_reducible refine zAi ?_; exact hq.get)
      | (with_reducible refine kI ?_; exact hq.get)
      | (refine zD5 ?_; exact hq.get)
      | (refine zD4 ?_; exact hq.get)
      | (refine zD6 ?_; exact hq.get)
      | (refine qG ?_; exact hq.get)
      | (refine qF ?_; exact hq.get)
      | (refine wX ?_; exact hq.get)
      | (refine wB rfl ?_; exact hq.get)
      | (refine zAg ?_; exact hq.get)
      | (refine kK ?_; exact hq.get)
      | (refine zAf ?_; exact hq.get)
      | (refine zD1 ?_; exact hq.get)
      | (refine zAi ?_; exact hq.get)
      | (refine kI ?_; exact hq.get)
      | fail) : p := h ⟨hq⟩
structure Stop (q : Prop) : Prop where
  get : q
theorem sM {q : Prop} (h : q) : Stop q := ⟨h⟩
theorem sG {q : Prop} (h : Stop q) : q := h.get
theorem arm {c : Prop} {P : Program} {f : FuncId} {args : List AV} {x : AV} (hc : Hid c) (h : Hid c → FnA P f args x := by intro hc; first | exact FnA.at_ (hc.get ..) rfl rfl | exact FnA.at_ (hc.get.1 ..) rfl rfl | exact FnA.at_ (hc.get.2.1 ..) rfl rfl | exact FnA.at_ (hc.get.2.2.1 ..) rfl rfl | exact FnA.at_ (hc.get.2.2.2.1 ..) rfl rfl | exact FnA.at_ (hc.get.2.2.2.2.1 ..) rfl rfl | exact FnA.at_ (hc.get.2.2.2.2.2.1 ..) rfl rfl | exact FnA.at_ (hc.get.2.2.2.2.2.2.1 ..) rfl rfl | exact FnA.at_ (hc.get.2.2.2.2.2.2.2.1 ..) rfl rfl | exact FnA.at_ (hc.get.2.2.2.2.2.2.2.2.1 ..) rfl rfl | exact FnA.at_ (hc.get.2.2.2.2.2.2.2.2.2.1 ..) rfl rfl | exact FnA.at_ (hc.get.2.2.2.2.2.2.2.2.2.2.1 ..) rfl rfl | exact FnA.at_ (hc.get.2.2.2.2.2.2.2.2.2.2.2.1 ..) rfl rfl | exact FnA.at_ (hc.get.2.2.2.2.2.2.2.2.2.2.2.2.1 ..) rfl rfl | exact FnA.at_ (hc.get.2.2.2.2.2.2.2.2.2.2.2.2.2.1 ..) rfl rfl | exact FnA.at_ (hc.get.2 ..) rfl rfl | exact FnA.at_ (hc.get.2.2 ..) rfl rfl | exact FnA.at_ (hc.get.2.2.2 ..) rfl rfl | exact FnA.at_ (hc.get.2.2.2.2 ..) rfl rfl | exact FnA.at_ (hc.get.2.2.2.2.2 ..) rfl rfl | exact FnA.at_ (hc.get.2.2.2.2.2.2 ..) rfl rfl | exact FnA.at_ (hc.get.2.2.2.2.2.2.2 ..) rfl rfl | exact FnA.at_ (hc.get.2.2.2.2.2.2.2.2 ..) rfl rfl | exact FnA.at_ (hc.get.2.2.2.2.2.2.2.2.2 ..) rfl rfl | exact FnA.at_ (hc.get.2.2.2.2.2.2.2.2.2.2 ..) rfl rfl | exact FnA.at_ (hc.get.2.2.2.2.2.2.2.2.2.2.2 ..) rfl rfl | exact FnA.at_ (hc.get.2.2.2.2.2.2.2.2.2.2.2.2 ..) rfl rfl | exact FnA.at_ (hc.get.2.2.2.2.2.2.2.2.2.2.2.2.2 ..) rfl rfl | exact FnA.at_s (hc.get ..) rfl yV | exact FnA.at_s (hc.get ..) rfl yW | exact FnA.at_s (hc.get.1 ..) rfl yV | exact FnA.at_s (hc.get.1 ..) rfl yW | exact FnA.at_s (hc.get.2.1 ..) rfl yV | exact FnA.at_s (hc.get.2.1 ..) rfl yW | exact FnA.at_s (hc.get.2.2.1 ..) rfl yV | exact FnA.at_s (hc.get.2.2.1 ..) rfl yW | exact FnA.at_s (hc.get.2.2.2.1 ..) rfl yV | exact FnA.at_s (hc.get.2.2.2.1 ..) rfl yW | exact FnA.at_s (hc.get.2.2.2.2.1 ..) rfl yV | exact FnA.at_s (hc.get.2.2.2.2.1 ..) rfl yW | exact FnA.at_s (hc.get.2.2.2.2.2.1 ..) rfl yV | exact FnA.at_s (hc.get.2.2.2.2.2.1 ..) rfl yW | exact FnA.at_s (hc.get.2.2.2.2.2.2.1 ..) rfl yV | exact FnA.at_s (hc.get.2.2.2.2.2.2.1 ..) rfl yW | exact FnA.at_s (hc.get.2.2.2.2.2.2.2.1 ..) rfl yV | exact FnA.at_s (hc.get.2.2.2.2.2.2.2.1 ..) rfl yW | exact FnA.at_s (hc.get.2.2.2.2.2.2.2.2.1 ..) rfl yV | exact FnA.at_s (hc.get.2.2.2.2.2.2.2.2.1 ..) rfl yW | exact FnA.at_s (hc.get.2.2.2.2.2.2.2.2.2.1 ..) rfl yV | exact FnA.at_s (hc.get.2.2.2.2.2.2.2.2.2.1 ..) rfl yW | exact FnA.at_s (hc.get.2.2.2.2.2.2.2.2.2.2.1 ..) rfl yV | exact FnA.at_s (hc.get.2.2.2.2.2.2.2.2.2.2.1 ..) rfl yW | exact FnA.at_s (hc.get.2.2.2.2.2.2.2.2.2.2.2.1 ..) rfl yV | exact FnA.at_s (hc.get.2.2.2.2.2.2.2.2.2.2.2.1 ..) rfl yW | exact FnA.at_s (hc.get.2.2.2.2.2.2.2.2.2.2.2.2.1 ..) rfl yV | exact FnA.at_s (hc.get.2.2.2.2.2.2.2.2.2.2.2.2.1 ..) rfl yW | exact FnA.at_s (hc.get.2.2.2.2.2.2.2.2.2.2.2.2.2.1 ..) rfl yV | exact FnA.at_s (hc.get.2.2.2.2.2.2.2.2.2.2.2.2.2.1 ..) rfl yW | exact FnA.at_s (hc.get.2 ..) rfl yV | exact FnA.at_s (hc.get.2 ..) rfl yW | exact FnA.at_s (hc.get.2.2 ..) rfl yV | exact FnA.at_s (hc.get.2.2 ..) rfl yW | exact FnA.at_s (hc.get.2.2.2 ..) rfl yV | exact FnA.at_s (hc.get.2.2.2 ..) rfl yW | exact FnA.at_s (hc.get.2.2.2.2 ..) rfl yV | exact FnA.at_s (hc.get.2.2.2.2 ..) rfl yW | exact FnA.at_s (hc.get.2.2.2.2.2 ..) rfl yV | exact FnA.at_s (hc.get.2.2.2.2.2 ..) rfl yW | exact FnA.at_s (hc.get.2.2.2.2.2.2 ..) rfl yV | exact FnA.at_s (hc.get.2.2.2.2.2.2 ..) rfl yW | exact FnA.at_s (hc.get.2.2.2.2.2.2.2 ..) rfl yV | exact FnA.at_s (hc.get.2.2.2.2.2.2.2 ..) rfl yW | exact FnA.at_s (hc.get.2.2.2.2.2.2.2.2 ..) rfl yV | exact FnA.at_s (hc.get.2.2.2.2.2.2.2.2 ..) rfl yW | exact FnA.at_s (hc.get.2.2.2.2.2.2.2.2.2 ..) rfl yV | exact FnA.at_s (hc.get.2.2.2.2.2.2.2.2.2 ..) rfl yW | exact FnA.at_s (hc.get.2.2.2.2.2.2.2.2.2.2 ..) rfl yV | exact FnA.at_s (hc.get.2.2.2.2.2.2.2.2.2.2 ..) rfl yW | exact FnA.at_s (hc.get.2.2.2.2.2.2.2.2.2.2.2 ..) rfl yV | exact FnA.at_s (hc.get.2.2.2.2.2.2.2.2.2.2.2 ..) rfl yW | exact FnA.at_s (hc.get.2.2.2.2.2.2.2.2.2.2.2.2 ..) rfl yV | exact FnA.at_s (hc.get.2.2.2.2.2.2.2.2.2.2.2.2 ..) rfl yW | exact FnA.at_s (hc.get.2.2.2.2.2.2.2.2.2.2.2.2.2 ..) rfl yV | exact FnA.at_s (hc.get.2.2.2.2.2.2.2.2.2.2.2.2.2 ..) rfl yW) : FnA P f args x := h hc
theorem wkg {c p q : Prop} (hc : c) (hq : q) (h : Hid q → Hid c → p := by
    intro hq hc
    first
      | (refine zG (hK _ ?_); clear hK K)
      | refine stG ?_
      | (refine yJ 1 rfl ?_; refine zR rfl rfl ⟨_, evl, _, _, _, evl, yR, ?_⟩; apply Exists.intro; refine ⟨fun hg => ?_, ?_⟩; · exact arm hc)
      | (refine zW 1 rfl ?_; refine zS rfl ⟨_, evl, _, _, _, (fun _ _ => vH), yR, ?_⟩; apply Exists.intro; refine ⟨fun hg => ?_, ?_⟩; · exact arm hc)
      | (refine zW 1 rfl ?_; refine zJ ?_)
      | (refine yB ?_; first | (refine zP (hK _ ?_); clear hK K) | (refine zX rfl ⟨_, evl, fun nb' => ?_⟩))
      | refine zE (fun K hK => ?_)
      | (refine yZ ?_; first | (refine zD false rfl (by kernel_rfl) (by kernel_rfl) (fun K hK => ?_)) | (refine zD true rfl (by kernel_rfl) (by kernel_rfl) (fun K hK => ?_)))
      | fail
    repeat first
      | (refine zG (hK _ ?_); clear hK K)
      | refine stG ?_
      | (refine yJ 1 rfl ?_; refine zR rfl rfl ⟨_, evl, _, _, _, evl, yR, ?_⟩; apply Exists.intro; refine ⟨fun hg => ?_, ?_⟩; · exact arm hc)
      | (refine zW 1 rfl ?_; refine zS rfl ⟨_, evl, _, _, _, (fun _ _ => vH), yR, ?_⟩; apply Exists.intro; refine ⟨fun hg => ?_, ?_⟩; · exact arm hc)
      | (refine zW 1 rfl ?_; refine zJ ?_)
      | (refine yB ?_; first | (refine zP (hK _ ?_); clear hK K) | (refine zX rfl ⟨_, evl, fun nb' => ?_⟩))
      | refine zE (fun K hK => ?_)
      | (refine yZ ?_; first | (refine zD false rfl (by kernel_rfl) (by kernel_rfl) (fun K hK => ?_)) | (refine zD true rfl (by kernel_rfl) (by kernel_rfl) (fun K hK => ?_)))
    first | exact hq.get | (revert hK; revert K; exact sG hq.get)) : p := h ⟨hq⟩ ⟨hc⟩
theorem wkR {c p q : Prop} (hc : c) (hq : q) (h : Hid q → Hid c → p := by
    intro hq hc
    first
      | (refine zG (hK _ ?_); clear hK K)
      | refine stR ?_
      | (refine yJ 1 rfl ?_; first | (refine zR rfl rfl ⟨_, evl, _, _, _, evl, yR, ?_⟩; apply Exists.intro; refine ⟨fun hg => ?_, ?_⟩; · exact arm hc) | (refine xB rfl rfl ⟨_, evl, _, _, _, evl, _, _, evl, yR, ?_⟩; apply Exists.intro; refine ⟨fun hg => ?_, ?_⟩; · exact arm hc))
      | (refine zW 1 rfl ?_; refine zS rfl ⟨_, evl, _, _, _, (fun _ _ => vH), yR, ?_⟩; apply Exists.intro; refine ⟨fun hg => ?_, ?_⟩; · exact arm hc)
      | (refine zW 1 rfl ?_; refine zJ ?_)
      | (refine yB ?_; first | (refine zP (hK _ ?_); clear hK K) | (refine zX rfl ⟨_, evl, fun nb' => ?_⟩))
      | refine zE (fun K hK => ?_)
      | (refine yZ ?_; first | (refine zD false rfl (by kernel_rfl) (by kernel_rfl) (fun K hK => ?_)) | (refine zD true rfl (by kernel_rfl) (by kernel_rfl) (fun K hK => ?_)))
      | fail
    repeat first
      | (refine zG (hK _ ?_); clear hK K)
      | refine stR ?_
      | (refine yJ 1 rfl ?_; first | (refine zR rfl rfl ⟨_, evl, _, _, _, evl, yR, ?_⟩; apply Exists.intro; refine ⟨fun hg => ?_, ?_⟩; · exact arm hc) | (refine xB rfl rfl ⟨_, evl, _, _, _, evl, _, _, evl, yR, ?_⟩; apply Exists.intro; refine ⟨fun hg => ?_, ?_⟩; · exact arm hc))
      | (refine zW 1 rfl ?_; refine zS rfl ⟨_, evl, _, _, _, (fun _ _ => vH), yR, ?_⟩; apply Exists.intro; refine ⟨fun hg => ?_, ?_⟩; · exact arm hc)
      | (refine zW 1 rfl ?_; refine zJ ?_)
      | (refine yB ?_; first | (refine zP (hK _ ?_); clear hK K) | (refine zX rfl ⟨_, evl, fun nb' => ?_⟩))
      | refine zE (fun K hK => ?_)
      | (refine yZ ?_; first | (refine zD false rfl (by kernel_rfl) (by kernel_rfl) (fun K hK => ?_)) | (refine zD true rfl (by kernel_rfl) (by kernel_rfl) (fun K hK => ?_)))
    first | exact hq.get | (revert hK; revert K; exact sG hq.get)) : p := h ⟨hq⟩ ⟨hc⟩
theorem wkB {c p q : Prop} (hc : c) (hq : q) (h : Hid q → Hid c → p := by
    intro hq hc
    first
      | (refine zG (hK _ ?_); clear hK K)
      | refine stB ?_
      | (refine yJ 2 rfl ?_; refine jH yH rfl rfl rfl ⟨_, _, _, _, _, _, _, evl, obq, _, _, _, _, _, evl, _, evl, obq, obq, obs, _, evl, fun c hc1 hc2 => ⟨_, evl, ?_⟩⟩)
      | (refine yJ 1 rfl ?_; first | (refine zR rfl rfl ⟨_, evl, _, _, _, evl, yR, ?_⟩; apply Exists.intro; refine ⟨fun hg => ?_, ?_⟩; · exact arm hc) | (refine xB rfl rfl ⟨_, evl, _, _, _, evl, _, _, evl, yR, ?_⟩; apply Exists.intro; refine ⟨fun hg => ?_, ?_⟩; · exact arm hc))
      | (refine zW 1 rfl ?_; refine zS rfl ⟨_, evl, _, _, _, (fun _ _ => vH), yR, ?_⟩; apply Exists.intro; refine ⟨fun hg => ?_, ?_⟩; · exact arm hc)
      | (refine zW 1 rfl ?_; refine zJ ?_)
      | (refine yB ?_; first | (refine zP (hK _ ?_); clear hK K) | (refine zX rfl ⟨_, evl, fun nb' => ?_⟩))
      | refine zE (fun K hK => ?_)
      | (refine yZ ?_; first | (refine zD false rfl (by kernel_rfl) (by kernel_rfl) (fun K hK => ?_)) | (refine zD true rfl (by kernel_rfl) (by kernel_rfl) (fun K hK => ?_)))
      | fail
    repeat first
      | (refine zG (hK _ ?_); clear hK K)
      | refine stB ?_
      | (refine yJ 2 rfl ?_; refine jH yH rfl rfl rfl ⟨_, _, _, _, _, _, _, evl, obq, _, _, _, _, _, evl, _, evl, obq, obq, obs, _, evl, fun c hc1 hc2 => ⟨_, evl, ?_⟩⟩)
      | (refine yJ 1 rfl ?_; first | (refine zR rfl rfl ⟨_, evl, _, _, _, evl, yR, ?_⟩; apply Exists.intro; refine ⟨fun hg => ?_, ?_⟩; · exact arm hc) | (refine xB rfl rfl ⟨_, evl, _, _, _, evl, _, _, evl, yR, ?_⟩; apply Exists.intro; refine ⟨fun hg => ?_, ?_⟩; · exact arm hc))
      | (refine zW 1 rfl ?_; refine zS rfl ⟨_, evl, _, _, _, (fun _ _ => vH), yR, ?_⟩; apply Exists.intro; refine ⟨fun hg => ?_, ?_⟩; · exact arm hc)
      | (refine zW 1 rfl ?_; refine zJ ?_)
      | (refine yB ?_; first | (refine zP (hK _ ?_); clear hK K) | (refine zX rfl ⟨_, evl, fun nb' => ?_⟩))
      | refine zE (fun K hK => ?_)
      | (refine yZ ?_; first | (refine zD false rfl (by kernel_rfl) (by kernel_rfl) (fun K hK => ?_)) | (refine zD true rfl (by kernel_rfl) (by kernel_rfl) (fun K hK => ?_)))
    first | exact hq.get | (revert hK; revert K; exact sG hq.get)) : p := h ⟨hq⟩ ⟨hc⟩
theorem wg {p q : Prop} (hq : q) (h : Hid q → p := by
    intro hq
    first
      | (refine zG (hK _ ?_); clear hK K)
      | refine stG ?_
      | (refine zW 1 rfl ?_; refine zJ ?_)
      | (refine yB ?_; first | (refine zP (hK _ ?_); clear hK K) | (refine zX rfl ⟨_, evl, fun nb' => ?_⟩))
      | refine zE (fun K hK => ?_)
      | (refine yZ ?_; first | (refine zD false rfl (by kernel_rfl) (by kernel_rfl) (fun K hK => ?_)) | (refine zD true rfl (by kernel_rfl) (by kernel_rfl) (fun K hK => ?_)))
      | fail
    repeat first
      | (refine zG (hK _ ?_); clear hK K)
      | refine stG ?_
      | (refine zW 1 rfl ?_; refine zJ ?_)
      | (refine yB ?_; first | (refine zP (hK _ ?_); clear hK K) | (refine zX rfl ⟨_, evl, fun nb' => ?_⟩))
      | refine zE (fun K hK => ?_)
      | (refine yZ ?_; first | (refine zD false rfl (by kernel_rfl) (by kernel_rfl) (fun K hK => ?_)) | (refine zD true rfl (by kernel_rfl) (by kernel_rfl) (fun K hK => ?_)))
    first | exact hq.get | (revert hK; revert K; exact sG hq.get)) : p := h ⟨hq⟩
theorem wkM {k c p q : Prop} (hk : k) (hc : c) (hq : q) (h : Hid q → Hid c → k → p := by
    intro hq hc hK
    first
      | (refine zG (hK _ ?_); (first | clear hK K | clear hK))
      | refine stG ?_
      | (refine yJ 1 rfl ?_; refine zR rfl rfl ⟨_, evl, _, _, _, evl, yR, ?_⟩; apply Exists.intro; refine ⟨fun hg => ?_, ?_⟩; · exact arm hc)
      | (refine zW 1 rfl ?_; refine zS rfl ⟨_, evl, _, _, _, (fun _ _ => vH), yR, ?_⟩; apply Exists.intro; refine ⟨fun hg => ?_, ?_⟩; · exact arm hc)
      | (refine zW 1 rfl ?_; refine zJ ?_)
      | (refine yB ?_; first | (refine zP (hK _ ?_); (first | clear hK K | clear hK)) | (refine zX rfl ⟨_, evl, fun nb' => ?_⟩))
      | refine zE (fun K hK => ?_)
      | (refine yZ ?_; first | (refine zD false rfl (by kernel_rfl) (by kernel_rfl) (fun K hK => ?_)) | (refine zD true rfl (by kernel_rfl) (by kernel_rfl) (fun K hK => ?_)))
      | fail
    repeat first
      | (refine zG (hK _ ?_); (first | clear hK K | clear hK))
      | refine stG ?_
      | (refine yJ 1 rfl ?_; refine zR rfl rfl ⟨_, evl, _, _, _, evl, yR, ?_⟩; apply Exists.intro; refine ⟨fun hg => ?_, ?_⟩; · exact arm hc)
      | (refine zW 1 rfl ?_; refine zS rfl ⟨_, evl, _, _, _, (fun _ _ => vH), yR, ?_⟩; apply Exists.intro; refine ⟨fun hg => ?_, ?_⟩; · exact arm hc)
      | (refine zW 1 rfl ?_; refine zJ ?_)
      | (refine yB ?_; first | (refine zP (hK _ ?_); (first | clear hK K | clear hK)) | (refine zX rfl ⟨_, evl, fun nb' => ?_⟩))
      | refine zE (fun K hK => ?_)
      | (refine yZ ?_; first | (refine zD false rfl (by kernel_rfl) (by kernel_rfl) (fun K hK => ?_)) | (refine zD true rfl (by kernel_rfl) (by kernel_rfl) (fun K hK => ?_)))
    first | exact hq.get | (revert hK; revert K; exact sG hq.get)) : p := h ⟨hq⟩ ⟨hc⟩ hk
theorem wkN {k c p q : Prop} (hk : k) (hc : c) (hq : q) (h : Hid q → Hid c → k → p := by
    intro hq hc hK
    first
      | (refine zG (hK _ ?_); (first | clear hK K | clear hK))
      | refine stR ?_
      | (refine yJ 1 rfl ?_; first | (refine zR rfl rfl ⟨_, evl, _, _, _, evl, yR, ?_⟩; apply Exists.intro; refine ⟨fun hg => ?_, ?_⟩; · exact arm hc) | (refine xB rfl rfl ⟨_, evl, _, _, _, evl, _, _, evl, yR, ?_⟩; apply Exists.intro; refine ⟨fun hg => ?_, ?_⟩; · exact arm hc))
      | (refine zW 1 rfl ?_; refine zS rfl ⟨_, evl, _, _, _, (fun _ _ => vH), yR, ?_⟩; apply Exists.intro; refine ⟨fun hg => ?_, ?_⟩; · exact arm hc)
      | (refine zW 1 rfl ?_; refine zJ ?_)
      | (refine yB ?_; first | (refine zP (hK _ ?_); (first | clear hK K | clear hK)) | (refine zX rfl ⟨_, evl, fun nb' => ?_⟩))
      | refine zE (fun K hK => ?_)
      | (refine yZ ?_; first | (refine zD false rfl (by kernel_rfl) (by kernel_rfl) (fun K hK => ?_)) | (refine zD true rfl (by kernel_rfl) (by kernel_rfl) (fun K hK => ?_)))
      | fail
    repeat first
      | (refine zG (hK _ ?_); (first | clear hK K | clear hK))
      | refine stR ?_
      | (refine yJ 1 rfl ?_; first | (refine zR rfl rfl ⟨_, evl, _, _, _, evl, yR, ?_⟩; apply Exists.intro; refine ⟨fun hg => ?_, ?_⟩; · exact arm hc) | (refine xB rfl rfl ⟨_, evl, _, _, _, evl, _, _, evl, yR, ?_⟩; apply Exists.intro; refine ⟨fun hg => ?_, ?_⟩; · exact arm hc))
      | (refine zW 1 rfl ?_; refine zS rfl ⟨_, evl, _, _, _, (fun _ _ => vH), yR, ?_⟩; apply Exists.intro; refine ⟨fun hg => ?_, ?_⟩; · exact arm hc)
      | (refine zW 1 rfl ?_; refine zJ ?_)
      | (refine yB ?_; first | (refine zP (hK _ ?_); (first | clear hK K | clear hK)) | (refine zX rfl ⟨_, evl, fun nb' => ?_⟩))
      | refine zE (fun K hK => ?_)
      | (refine yZ ?_; first | (refine zD false rfl (by kernel_rfl) (by kernel_rfl) (fun K hK => ?_)) | (refine zD true rfl (by kernel_rfl) (by kernel_rfl) (fun K hK => ?_)))
    first | exact hq.get | (revert hK; revert K; exact sG hq.get)) : p := h ⟨hq⟩ ⟨hc⟩ hk
theorem hlT {p : Prop} (h : p := by first | trivial | exact ⟨rfl, trivial⟩ | exact ⟨rfl, rfl, trivial⟩ | exact ⟨rfl, rfl, rfl, trivial⟩ | simp [zCe, AV.renL, AV.ren, yD.ren]) : p := h
theorem zWv {p : Prop} (h : p := by first | (simp [AV.subL, AV.sub]; done) | (simp only [yMn, yMo, yMp, yMq, yMs, yKz, AV.subL, AV.sub, yL2, yMc, yLe, Nat.reduceAdd]; (repeat' apply And.intro) <;> first | trivial | omega | (simp; done) | (refine AV.sub_free _ ?_; exact zC (fun _ => by simp) _) | (refine AV.subL_free _ ?_; simp; done) | (intro r hr; cases hr; done))) : p := h
theorem yJr {p : Prop} (h : p := by simp only [yL2, yMc]; omega) : p := h
theorem yC2 {bx : List (List AV)} {rw : List yD} {x y : AV} (h : x = y := by first | rfl | (simp; done) | (simp_all; done) | (simp_all; omega) | (simp; grind) | (split <;> simp_all)) : z5 bx rw x y := z5.of_eq h
theorem cb {a p : Prop} (h : a → p := by intro hb; first | (simp only [yMy, yLq, yN1, yN0, yLs, yMx, yLi, yNm, yLr, yMz, yNn, yM7, ne_eq, yNo, yLh, yNp, yMl, yMm] at hb; exact hb) | exact hb) : a → p := h
theorem yE1 {P : Program} {st : ASt} {x y : Code} {c : Operand} {Q : Exit → ASt → Prop} {p q : Prop} (h : ∃ b : Bool, st.ev c = some (true, .raw (.bool b)) ∧ ((b = true → p) ∧ (b = false → q)) ∧ (p → wpA P x Q st) ∧ (q → wpA P y Q st)) : wpA P (.cond c x y) Q st := by obtain ⟨b, hc, ⟨hp, hq⟩, hx, hy⟩ := h; exact zA ⟨b, hc, fun h => hx (hp h), fun h => hy (hq h)⟩
theorem wkn {nt nb : Nat} {sl sl' : List (Nat × (Bool × AV))} {bx bx' : List (List AV)} {rw rw' : List yD} {ys : (Nat × List (List AV)) × List (List AV) × Bool} (h1 : zCv bx rw sl' sl) (h2 : zBs bx rw bx' bx) (h3 : zBr bx rw rw' rw) (h4 : nb % 64 ≤ bx'.length ∧ nb / 64 ≤ rw'.length := by simp) (h5 : zD8 bx'.length rw'.length sl' ∧ zQa bx'.length rw'.length bx' ∧ zQ9 bx'.length rw'.length rw' := by first | (simp [zD8, zQa, zQ9, AV.sub, AV.subL, go_sem]; done) | (simp [zD8, zQa, zQ9, AV.sub, AV.subL, go_sem, AV.subL_free, AV.sub_free, *]; done) | (simp_all [zD8, zQa, zQ9, AV.sub, AV.subL, go_sem]; done)) : xE ⟨nt, nb, sl, bx, rw, ys⟩ ⟨nt, nb, sl', bx', rw', ys⟩ := xE.gen h1 h2 h3 h4 h5
theorem wkS {p q : Prop} (hq : q) (h : Hid q → p := by intro hq; (simp only [zCv, zBs, zBr, z8, zO, ↓reduceIte, Nat.reduceEqDiff, yKj, yKy, yKz, yMs, exists_eq_left', yMt]); exact hq.get) : p := h ⟨hq⟩
theorem wk0 {p : Prop} (h : p := by first | (simp only [zCv, zBs, zBr, z8, zO, ↓reduceIte, Nat.reduceEqDiff, yKj, yKy, yKz, yMs, exists_eq_left', yMt]; done) | fail) : p := h
theorem cS {P : Program} {st : ASt} {x y : Code} {c : Operand} {Q : Exit → ASt → Prop} {p q : Prop} {b : Bool} (hx : p → wpA P x Q st) (hy : q → wpA P y Q st) (hc : st.ev c = some (true, .raw (.bool b)) := by exact evl) (hp : b = true → p := by exact cb) (hq : b = false → q := by exact cb) : wpA P (.cond c x y) Q st := zA ⟨b, hc, fun h => hx (hp h), fun h => hy (hq h)⟩
theorem fre {p : Prop} (h : p := by first | (simp [AV.free, AV.freeL, go_sem]; done) | exact zC (fun _ => by simp [AV.free, AV.freeL, u8C, iC]) _ | (simp_all [AV.free, AV.freeL, sA, u8C, iC]; done) | fail) : p := h
theorem wkL {p : Prop} (h : p := by first | exact zQe | (intro _ _; exact zQe) | omega | (simp; done) | (simp; omega) | (intro _ _; refine z8.of_eq (kA ?_ (by assumption) rfl) <;> first | rfl | omega | (simp; done) | (simp; omega)) | fail) : p := h
theorem wkZ {nt nb : Nat} {sl sl' : List (Nat × (Bool × AV))} {bx bx' : List (List AV)} {rw rw' : List yD} {ys : (Nat × List (List AV)) × List (List AV) × Bool} (h1 : zCv bx rw sl' sl := by first | exact wk0 | ((first | refine wkS ?_ | skip); first | trivial | ((repeat' apply And.intro) <;> exact wkL))) (h2 : zBs bx rw bx' bx := by first | exact wk0 | ((first | refine wkS ?_ | skip); first | trivial | ((repeat' apply And.intro) <;> exact wkL))) (h3 : zBr bx rw rw' rw := by first | exact wk0 | ((first | refine wkS ?_ | skip); first | trivial | ((repeat' apply And.intro) <;> exact wkL))) (h : zCv bx rw sl' sl → zBs bx rw bx' bx → zBr bx rw rw' rw → xE ⟨nt, nb, sl, bx, rw, ys⟩ ⟨nt, nb, sl', bx', rw', ys⟩ := by intro h1 h2 h3; exact wkn h1 h2 h3) : xE ⟨nt, nb, sl, bx, rw, ys⟩ ⟨nt, nb, sl', bx', rw', ys⟩ := h h1 h2 h3
theorem en {q : Prop} {f : FuncId} {fn : Func} {c : Code} {args : List AV} {r : AV} {n : Nat} (hf : Tryz.prog.funcs[f]? = some fn) (hn : fn.ntmps = n) (rs : List ResultVar) (hb : fn.body = some c) (hq : q) (hrs : fn.results.toList = rs := by rfl) (hnm : (fn.name == "runtime.NumGoroutine") = false := by kernel_rfl) (hlen : args.length ≤ n := by simp only [yL2, yMc]; omega) (h : Hid q → wpA Tryz.prog c (jJ tbl rs r) (zBl n args) := by intro hq; simp only [zBl, zBq, yLe, Nat.reduceAdd]; exact hq.get) : FnA Tryz.prog f args r := yDs yH hf hb hnm n hn hlen rs hrs (h ⟨hq⟩)
theorem enG {q : Prop} {f : FuncId} {fn : Func} {c : Code} {args : List AV} {bx bx' : List (List AV)} {rw rw' : List yD} {r : AV} {n : Nat} (hf : Tryz.prog.funcs[f]? = some fn) (hn : fn.ntmps = n) (rs : List ResultVar) (m : Nat) (hb : fn.body = some c) (hq : q) (hrs : fn.results.toList = rs := by rfl) (hnm : (fn.name == "runtime.NumGoroutine") = false := by kernel_rfl) (hlen : args.length ≤ n := by simp only [yL2, yMc]; omega) (h64 : bx.length < 64 := by simp) (h : Hid q → wpA Tryz.prog c (zIj tbl rs m r bx' rw') (zL8 n args bx rw) := by intro hq; simp only [zL8, zBq, yLe, Nat.reduceAdd, yL2, yMc]; exact hq.get) : FnG Tryz.prog f args bx rw r bx' rw' := yDr yH hf hb hnm n hn hlen rs hrs m h64 (h ⟨hq⟩)
theorem rt {q : Prop} {T : TT} {st : ASt} {rs : List ResultVar} {r : AV} {e : Exit} (hq : q) (h : Hid q → jJ T rs r e st := by intro hq; exact zM (by simp) ⟨_, _, _, evl, ob0, zV.sims hq.get fre⟩) : jJ T rs r e st := h ⟨hq⟩
theorem rq {p q : Prop} {T : TT} {st : ASt} {rs : List ResultVar} {r : AV} {e : Exit} (hp : p) (hq : q) (h : Hid p → Hid q → jJ T rs r e st := by intro hp hq; exact zM (by simp) ⟨_, _, _, evl, ob0, zV.eq hp.get hq.get⟩) : jJ T rs r e st := h ⟨hp⟩ ⟨hq⟩
theorem fA {p : Prop} (h : p := by (try refine zM (by simp) ⟨_, _, _, evl, ob0, zV.sims ?_ fre⟩); first | exact z5.refl _ | exact yC2 | exact yM | (refine z5.tup ?_; simp only [z8, yMs]; (repeat' apply And.intro) <;> exact yM) | (exfalso; first | omega | (simp_all; done) | (simp_all; omega))) : p := h
end Go.Proofs.YtchpbdecipcelaaGreatDoor
