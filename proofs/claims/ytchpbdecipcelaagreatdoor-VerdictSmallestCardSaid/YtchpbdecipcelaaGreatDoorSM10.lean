import Derived.Scope
import Derived.Test.YtchpbdecipcelaaGreatDoorSM07
import Derived.Test.YtchpbdecipcelaaGreatDoorSM09
namespace Go.Proofs.YtchpbdecipcelaaGreatDoor
set_option linter.unusedVariables false
set_option linter.unusedSimpArgs false
set_option maxHeartbeats 4000000
set_option maxRecDepth 100000
open Go.RowKit
def feedsApp (full : List Oper) (o : Oper) : Bool := match o.dst with
  | some d => full.any fun p => match p.op with
    | .call c => match c.callee with
      | .builtin .append => match c.args.toList with
        | Operand.tmp t :: _ => Nat.beq t d
        | _ => false
      | _ => false
    | _ => false
  | none => false
theorem runA_feed {P : Program} {full : List Oper} {all : Bool} {m : Nat} {ia : List (Nat × AK)} {es : List AEn} {ib : List Nat} {r : List Oper} {k : ASt → Prop} {nt nb : Nat} {sl sl0 : List (Nat × (Bool × AV))} {bx : List (List AV)} {rw : List ARow} {ys : (Nat × List (List AV)) × List (List AV) × Bool} {o : Oper} (_ : feedsApp full o = true) (h : runA P full all (m + 1) ia es (ib ++ [m]) r k sl0 ⟨nt, nb, sl, bx, rw, ys⟩) : runA P full all m ia es ib (o :: r) k sl0 ⟨nt, nb, sl, bx, rw, ys⟩ := runA_put h
@[go_sem] def offX : Op → AV
  | .binOp _ _ _ _ _ => .raw (.bool false)
  | .unOp _ _ _ => .raw (.bool false)
  | _ => .raw undef
theorem opSpec_off {P : Program} {ops : Array Oper} {o : Oper} {st : ASt} {x : AV} (hg : guardA ops st o = some false) : OpSpec P ops o st false x := fun _ _ _ _ _ hs => ⟨guardA_sound hg hs, fun h => by cases h⟩
section offs
variable {P : Program} {ops : Array Oper} {r : List Oper} {k : ASt → Prop} {nt nb : Nat} {sl sl0 : List (Nat × (Bool × AV))} {bx : List (List AV)} {rw : List ARow} {ys : (Nat × List (List AV)) × List (List AV) × Bool} {o : Oper} {d : Nat} {full : List Oper} {all : Bool} {m : Nat} {ia : List (Nat × AK)} {es : List AEn} {ib : List Nat}
theorem runS_off (hd : o.dst = some d) (hn : Nat.blt d nt = true) (h : guardA ops ⟨nt, nb, sl, bx, rw, ys⟩ o = some false ∧ ∃ x, offX o.op = x ∧ runS P ops r k ⟨nt, nb, (d, (false, x)) :: sl, bx, rw, ys⟩) : runS P ops (o :: r) k ⟨nt, nb, sl, bx, rw, ys⟩ :=
  let ⟨hg, _, _, h⟩ := h
  runS_op hd (opSpec_off hg) hn h
theorem runA_off (hd : o.dst = some d) (h : guardA full.toArray ⟨nt, nb, sl, bx, rw, ys⟩ o = some false ∧ ∃ x, offX o.op = x ∧ runA P full all (m + 1) (ia ++ [(m, .any)]) (es ++ [(m, .any, (d, (false, x)))]) ib r k sl0 ⟨nt, nb, (d, (false, x)) :: sl, bx, rw, ys⟩) : runA P full all m ia es ib (o :: r) k sl0 ⟨nt, nb, sl, bx, rw, ys⟩ :=
  let ⟨hg, x, _, h⟩ := h
  runA_step (kd := .any) (g := false) (x := x) hd (fun ext rw' => opSpec_off (st := ⟨nt, nb, sl, mskB all bx ext, rw', ys⟩) hg) h
end offs
section scopes
variable {P : Program} {b : Frame} {a : Act} {k : List Item} {cs : List Frame} {w : World}
theorem stepS_scope {c : Code} : step P (lone (b.atR a (.code (.scope c) :: k)) cs w) = .next (lone (b.atR a (.code c :: .inScope c :: k)) cs w) :=
  step_lone_go (by simp [stepG, stepG.exec, Frame.atR])
theorem stepS_inScope {c : Code} : step P (lone (b.atR a (.inScope c :: k)) cs w) = .next (lone (b.atR a k) cs w) :=
  step_lone_go (by simp [stepG, stepG.exec, Frame.atR])
theorem wpIn_scopeS {F : Fence} {n : Nat} {Q : Exit → Act → World → Prop} {c : Code} (h : c.wpIn F n P (Exit.noGoto Q) a w) : (Code.scope c).wpIn F n P Q a w := by
  intro b k cs hro hb hr
  have h0 : (lone (b.atR a (.code (.scope c) :: k)) cs w).fenced P F := fenced_calm hb hr rfl
  obtain ⟨e, a₁, w₁, hq, harr⟩ := h b (.inScope c :: k) cs hro hb hr
  cases e with
  | normal => exact ⟨.normal, a₁, w₁, hq, .head h0 stepS_scope (StepsIn.trans harr (.one (fenced_calm hb hr rfl) stepS_inScope))⟩
  | exit id =>
    have hx : exitTo id (.inScope c :: k) = exitTo id k := by simp [exitTo]
    exact ⟨.exit id, a₁, w₁, hq, fun k' hk => .head h0 stepS_scope (harr.1 k' (by rw [hx]; exact hk)),
      fun hr' hk => let ⟨k₁, h1, h2⟩ := harr.2 hr' (by rw [hx]; exact hk); ⟨k₁, h1, .head h0 stepS_scope h2⟩⟩
  | goto l => exact hq.elim
  | ret => exact ⟨_, a₁, w₁, hq, .of_steps (.one h0 stepS_scope) harr⟩
  | panic ch => exact ⟨_, a₁, w₁, hq, .of_steps (.one h0 stepS_scope) harr⟩
  | outgrown => exact ⟨_, a₁, w₁, hq, .of_steps (.one h0 stepS_scope) harr⟩
end scopes
theorem wpS_scope {P : Program} {c : Code} {Q : Exit → ASt → Prop} {st : ASt} (hg : ∀ l s, ¬ Q (.goto l) s) (h : wpA P c Q st) : wpA P (.scope c) Q st := fun C G a w hs =>
  wpIn_scopeS (wpIn_mono (h C G a w hs) fun e a' w' hd => by
    cases e with
    | goto l => obtain ⟨G', st', _, hq⟩ := hd; exact hg l st' hq
    | _ => exact hd)
theorem wpS_scopeR {P : Program} {c : Code} {T : TT} {rs : List ResultVar} {r : AV} {st : ASt} (h : wpA P c (retPost T rs r) st) : wpA P (.scope c) (retPost T rs r) st := wpS_scope (fun l s h => by rcases h.1 with h | h <;> cases h) h
theorem oblG {p : Prop} (h : p := by
    first
      | exact oblF
      | (intro hg
         (try simp only [List.forall_mem_cons, List.not_mem_nil, false_implies, implies_true, and_self, true_and])
         ((repeat' first | trivial | assumption | refine And.intro ?_ ?_) <;> fail))
      | fail) : p := h
structure Hid (q : Prop) : Prop where
  get : q
theorem stG {p q : Prop} (hq : q) (h : Hid q → p := by
    intro hq
    first
      | (refine gateS 0 rfl ?_; first | (refine runS_pure tblOk rfl rfl ⟨_, evl, _, _, _, evl, oblG, ?_⟩; exact hq.get) | (refine runS_pure tblOk rfl rfl ⟨_, evl, _, _, _, evl, oblS, ?_⟩; exact hq.get) | (refine runS_off rfl rfl ⟨evl, _, evl, ?_⟩; exact hq.get))
      | (refine gateS 2 rfl ?_; first | (refine runS_appFul tblOk rfl rfl ⟨_, evl, _, _, _, evl, oblG, ?_⟩; exact hq.get) | (refine runS_app tblOk rfl rfl rfl ⟨_, _, _, _, _, _, _, _, evl, obq, _, evl, _, evl, _, evl, _, evl, obq, obq, obq, _, evl, _, evl, ?_⟩; exact hq.get) | (refine runS_appStr tblOk rfl rfl rfl ⟨_, _, _, _, _, _, evl, obq, _, evl, _, rfl, _, evl, rfl, _, evl, _, evl, obq, obs, _, evl, _, evl, ?_⟩; exact hq.get))
      | (refine gateS 3 rfl ?_; first | (refine runS_mk tblOk rfl rfl ⟨_, evl, _, _, _, evl, oblG, ?_⟩; exact hq.get))
      | (refine gateS 4 rfl ?_; first | (refine sAlloc tblOk rfl rfl rfl rfl ⟨_, evl, _, evl, _, evl, ?_⟩; exact hq.get))
      | (refine gateS 5 rfl ?_; first | (refine sBox rfl rfl rfl rfl ⟨_, evl, ob1, _, evl, _, evl, ?_⟩; exact hq.get))
      | (refine gateS 6 rfl ?_; first | (refine sStore tblOk rfl rfl rfl ⟨_, _, evl, _, evl, _, evl, _, evl, ob1, _, evl, ?_⟩; exact hq.get))
      | (refine gateAc ?_; refine runA_dep (by decide +kernel) ?_; exact hq.get)
      | (refine gateA 0 rfl ?_; first | (refine runA_any tblOk rfl ⟨_, evl, _, _, _, (fun _ _ => evlA), oblG, ?_⟩; exact hq.get) | (refine runA_any tblOk rfl ⟨_, evl, _, _, _, (fun _ _ => evlA), oblS, ?_⟩; exact hq.get) | (refine runA_first tblOk rfl ⟨_, evl, _, _, _, (fun _ => evlA), oblG, ?_⟩; exact hq.get) | (refine runA_off rfl ⟨evl, _, evl, ?_⟩; exact hq.get) | (refine runA_put ?_; exact hq.get))
      | (refine gateA 3 rfl ?_; first | (refine runA_feed (by decide +kernel) ?_; exact hq.get) | (refine runA_mk tblOk rfl ⟨_, evl, _, _, _, (fun _ _ => evlA), oblG, ?_⟩; exact hq.get) | (refine runA_put ?_; exact hq.get))
      | (refine gateA 2 rfl ?_; first | (refine runA_put ?_; exact hq.get))
      | (refine gateA 4 rfl ?_; first | (refine runA_put ?_; exact hq.get))
      | (refine gateA 5 rfl ?_; first | (refine runA_put ?_; exact hq.get))
      | (refine gateA 6 rfl ?_; first | (refine runA_put ?_; exact hq.get))
      | (refine gateAn ?_; refine runA_nil ⟨_, evl, _, evl, by decide +kernel, ?_⟩; exact hq.get)
      | (refine runB_end ?_ ?_ ?_ ?_; (focus (exact rfl)); (focus (first | exact keepT _ _ | exact keepF _ rfl)); (focus (first | exact fun _ => ⟨rfl, _, rfl⟩ | exact fun h => absurd h (by decide))); exact hq.get)
      | (refine runB_endN ?_ ?_ ?_ ?_; (focus (exact rfl)); (focus (first | exact keepT _ _ | exact keepF _ rfl)); (focus (first | exact fun _ => ⟨rfl, _, rfl⟩ | exact fun h => absurd h (by decide))); exact hq.get)
      | (with_reducible refine thenA_n ?_; exact hq.get)
      | (with_reducible refine thenA_r ?_; exact hq.get)
      | (with_reducible refine thenA_e ?_; exact hq.get)
      | (with_reducible refine inBlockA_n ?_; exact hq.get)
      | (with_reducible refine inBlockA_r ?_; exact hq.get)
      | (with_reducible refine inBlockA_hit ?_; exact hq.get)
      | (with_reducible refine inBlockA_miss rfl ?_; exact hq.get)
      | (with_reducible refine wpA_seq' ?_; exact hq.get)
      | (with_reducible refine wpA_block ?_; exact hq.get)
      | (with_reducible refine wpA_skip ?_; exact hq.get)
      | (with_reducible refine wpA_ret ?_; exact hq.get)
      | (with_reducible refine wpA_exit ?_; exact hq.get)
      | (with_reducible refine wpA_label ?_; exact hq.get)
      | (refine thenA_n ?_; exact hq.get)
      | (refine thenA_r ?_; exact hq.get)
      | (refine thenA_e ?_; exact hq.get)
      | (refine inBlockA_n ?_; exact hq.get)
      | (refine inBlockA_r ?_; exact hq.get)
      | (refine inBlockA_hit ?_; exact hq.get)
      | (refine inBlockA_miss rfl ?_; exact hq.get)
      | (refine wpA_seq' ?_; exact hq.get)
      | (refine wpA_block ?_; exact hq.get)
      | (refine wpA_skip ?_; exact hq.get)
      | (refine wpA_ret ?_; exact hq.get)
      | (refine wpA_exit ?_; exact hq.get)
      | (refine wpA_label ?_; exact hq.get)
      | fail) : p := h ⟨hq⟩
theorem stR {p q : Prop} (hq : q) (h : Hid q → p := by
    intro hq
    first
      | (refine gateS 0 rfl ?_; first | (refine runS_pure tblOk rfl rfl ⟨_, evl, _, _, _, evl, oblG, ?_⟩; exact hq.get) | (refine runS_pure tblOk rfl rfl ⟨_, evl, _, _, _, evl, oblS, ?_⟩; exact hq.get) | (refine runS_off rfl rfl ⟨evl, _, evl, ?_⟩; exact hq.get))
      | (refine gateS 2 rfl ?_; first | (refine runS_appFul tblOk rfl rfl ⟨_, evl, _, _, _, evl, oblG, ?_⟩; exact hq.get) | (refine runS_app tblOk rfl rfl rfl ⟨_, _, _, _, _, _, _, _, evl, obq, _, evl, _, evl, _, evl, _, evl, obq, obq, obq, _, evl, _, evl, ?_⟩; exact hq.get) | (refine runS_appStr tblOk rfl rfl rfl ⟨_, _, _, _, _, _, evl, obq, _, evl, _, rfl, _, evl, rfl, _, evl, _, evl, obq, obs, _, evl, _, evl, ?_⟩; exact hq.get))
      | (refine gateS 3 rfl ?_; first | (refine runS_mkRow tblOk rfl rfl rfl ⟨_, _, _, evl, obq, _, evl, _, evl, ?_⟩; exact hq.get) | (refine runS_mk tblOk rfl rfl ⟨_, evl, _, _, _, evl, oblG, ?_⟩; exact hq.get))
      | (refine gateS 4 rfl ?_; first | (refine sAlloc tblOk rfl rfl rfl rfl ⟨_, evl, _, evl, _, evl, ?_⟩; exact hq.get))
      | (refine gateS 5 rfl ?_; first | (refine sBox rfl rfl rfl rfl ⟨_, evl, ob1, _, evl, _, evl, ?_⟩; exact hq.get))
      | (refine gateS 6 rfl ?_; first | (refine sStore tblOk rfl rfl rfl ⟨_, _, evl, _, evl, _, evl, _, evl, ob1, _, evl, ?_⟩; exact hq.get))
      | (refine gateAc ?_; refine runA_dep (by decide +kernel) ?_; exact hq.get)
      | (refine gateA 0 rfl ?_; first | (refine runA_any tblOk rfl ⟨_, evl, _, _, _, (fun _ _ => evlA), oblG, ?_⟩; exact hq.get) | (refine runA_any tblOk rfl ⟨_, evl, _, _, _, (fun _ _ => evlA), oblS, ?_⟩; exact hq.get) | (refine runA_first tblOk rfl ⟨_, evl, _, _, _, (fun _ => evlA), oblG, ?_⟩; exact hq.get) | (refine runA_off rfl ⟨evl, _, evl, ?_⟩; exact hq.get) | (refine runA_put ?_; exact hq.get))
      | (refine gateA 3 rfl ?_; first | (refine runA_feed (by decide +kernel) ?_; exact hq.get) | (refine runA_mk tblOk rfl ⟨_, evl, _, _, _, (fun _ _ => evlA), oblG, ?_⟩; exact hq.get) | (refine runA_put ?_; exact hq.get))
      | (refine gateA 2 rfl ?_; first | (refine runA_put ?_; exact hq.get))
      | (refine gateA 4 rfl ?_; first | (refine runA_put ?_; exact hq.get))
      | (refine gateA 5 rfl ?_; first | (refine runA_put ?_; exact hq.get))
      | (refine gateA 6 rfl ?_; first | (refine runA_put ?_; exact hq.get))
      | (refine gateAn ?_; refine runA_nil ⟨_, evl, _, evl, by decide +kernel, ?_⟩; exact hq.get)
      | (refine runB_end ?_ ?_ ?_ ?_; (focus (exact rfl)); (focus (first | exact keepT _ _ | exact keepF _ rfl)); (focus (first | exact fun _ => ⟨rfl, _, rfl⟩ | exact fun h => absurd h (by decide))); exact hq.get)
      | (refine runB_endN ?_ ?_ ?_ ?_; (focus (exact rfl)); (focus (first | exact keepT _ _ | exact keepF _ rfl)); (focus (first | exact fun _ => ⟨rfl, _, rfl⟩ | exact fun h => absurd h (by decide))); exact hq.get)
      | (with_reducible refine thenA_n ?_; exact hq.get)
      | (with_reducible refine thenA_r ?_; exact hq.get)
      | (with_reducible refine thenA_e ?_; exact hq.get)
      | (with_reducible refine inBlockA_n ?_; exact hq.get)
      | (with_reducible refine inBlockA_r ?_; exact hq.get)
      | (with_reducible refine inBlockA_hit ?_; exact hq.get)
      | (with_reducible refine inBlockA_miss rfl ?_; exact hq.get)
      | (with_reducible refine wpA_seq' ?_; exact hq.get)
      | (with_reducible refine wpA_block ?_; exact hq.get)
      | (with_reducible refine wpA_skip ?_; exact hq.get)
      | (with_reducible refine wpA_ret ?_; exact hq.get)
      | (with_reducible refine wpA_exit ?_; exact hq.get)
      | (with_reducible refine wpA_label ?_; exact hq.get)
      | (refine thenA_n ?_; exact hq.get)
      | (refine thenA_r ?_; exact hq.get)
      | (refine thenA_e ?_; exact hq.get)
      | (refine inBlockA_n ?_; exact hq.get)
      | (refine inBlockA_r ?_; exact hq.get)
      | (refine inBlockA_hit ?_; exact hq.get)
      | (refine inBlockA_miss rfl ?_; exact hq.get)
      | (refine wpA_seq' ?_; exact hq.get)
      | (refine wpA_block ?_; exact hq.get)
      | (refine wpA_skip ?_; exact hq.get)
      | (refine wpA_ret ?_; exact hq.get)
      | (refine wpA_exit ?_; exact hq.get)
      | (refine wpA_label ?_; exact hq.get)
      | fail) : p := h ⟨hq⟩
theorem stB {p q : Prop} (hq : q) (h : Hid q → p := by
    intro hq
    first
      | (refine gateS 0 rfl ?_; first | (refine runS_pure tblOk rfl rfl ⟨_, evl, _, _, _, evl, oblG, ?_⟩; exact hq.get) | (refine runS_pure tblOk rfl rfl ⟨_, evl, _, _, _, evl, oblS, ?_⟩; exact hq.get) | (refine runS_bsl tblOk rfl rfl ⟨_, evl, _, _, _, evl, oblG, ?_⟩; exact hq.get) | (refine runS_off rfl rfl ⟨evl, _, evl, ?_⟩; exact hq.get))
      | (refine gateS 3 rfl ?_; first | (refine runS_mkBsl tblOk rfl rfl rfl rfl ⟨_, _, _, _, _, evl, _, evl, _, _, _, evl, obq, obq, _, evl, _, evl, ?_⟩; exact hq.get))
      | (refine gateS 2 rfl ?_; first | (refine runS_appFul tblOk rfl rfl ⟨_, evl, _, _, _, evl, oblG, ?_⟩; exact hq.get) | (refine runS_app tblOk rfl rfl rfl ⟨_, _, _, _, _, _, _, _, evl, obq, _, evl, _, evl, _, evl, _, evl, obq, obq, obq, _, evl, _, evl, ?_⟩; exact hq.get) | (refine runS_appStr tblOk rfl rfl rfl ⟨_, _, _, _, _, _, evl, obq, _, evl, _, rfl, _, evl, rfl, _, evl, _, evl, obq, obs, _, evl, _, evl, ?_⟩; exact hq.get))
      | (refine gateS 3 rfl ?_; first | (refine runS_mkRow tblOk rfl rfl rfl ⟨_, _, _, evl, obq, _, evl, _, evl, ?_⟩; exact hq.get) | (refine runS_mk tblOk rfl rfl ⟨_, evl, _, _, _, evl, oblG, ?_⟩; exact hq.get))
      | (refine gateS 4 rfl ?_; first | (refine sAlloc tblOk rfl rfl rfl rfl ⟨_, evl, _, evl, _, evl, ?_⟩; exact hq.get))
      | (refine gateS 5 rfl ?_; first | (refine sBox rfl rfl rfl rfl ⟨_, evl, ob1, _, evl, _, evl, ?_⟩; exact hq.get))
      | (refine gateS 6 rfl ?_; first | (refine sStore tblOk rfl rfl rfl ⟨_, _, evl, _, evl, _, evl, _, evl, ob1, _, evl, ?_⟩; exact hq.get))
      | (refine gateAc ?_; refine runA_dep (by decide +kernel) ?_; exact hq.get)
      | (refine gateA 0 rfl ?_; first | (refine runA_any tblOk rfl ⟨_, evl, _, _, _, (fun _ _ => evlA), oblG, ?_⟩; exact hq.get) | (refine runA_any tblOk rfl ⟨_, evl, _, _, _, (fun _ _ => evlA), oblS, ?_⟩; exact hq.get) | (refine runA_anyB tblOk rfl ⟨_, evl, _, _, _, (fun _ _ => evlA), oblG, ?_⟩; exact hq.get) | (refine runA_first tblOk rfl ⟨_, evl, _, _, _, (fun _ => evlA), oblG, ?_⟩; exact hq.get) | (refine runA_off rfl ⟨evl, _, evl, ?_⟩; exact hq.get) | (refine runA_put ?_; exact hq.get))
      | (refine gateA 3 rfl ?_; first | (refine runA_feed (by decide +kernel) ?_; exact hq.get) | (refine runA_put ?_; exact hq.get))
      | (refine gateA 2 rfl ?_; first | (refine runA_put ?_; exact hq.get))
      | (refine gateA 4 rfl ?_; first | (refine runA_put ?_; exact hq.get))
      | (refine gateA 5 rfl ?_; first | (refine runA_put ?_; exact hq.get))
      | (refine gateA 6 rfl ?_; first | (refine runA_put ?_; exact hq.get))
      | (refine gateAn ?_; refine runA_nil ⟨_, evl, _, evl, by decide +kernel, ?_⟩; exact hq.get)
      | (refine runB_end ?_ ?_ ?_ ?_; (focus (exact rfl)); (focus (first | exact keepT _ _ | exact keepF _ rfl)); (focus (first | exact fun _ => ⟨rfl, _, rfl⟩ | exact fun h => absurd h (by decide))); exact hq.get)
      | (refine runB_endN ?_ ?_ ?_ ?_; (focus (exact rfl)); (focus (first | exact keepT _ _ | exact keepF _ rfl)); (focus (first | exact fun _ => ⟨rfl, _, rfl⟩ | exact fun h => absurd h (by decide))); exact hq.get)
      | (with_reducible refine thenA_n ?_; exact hq.get)
      | (with_reducible refine thenA_r ?_; exact hq.get)
      | (with_reducible refine thenA_e ?_; exact hq.get)
      | (with_reducible refine inBlockA_n ?_; exact hq.get)
      | (with_reducible refine inBlockA_r ?_; exact hq.get)
      | (with_reducible refine inBlockA_hit ?_; exact hq.get)
      | (with_reducible refine inBlockA_miss rfl ?_; exact hq.get)
      | (with_reducible refine wpA_seq' ?_; exact hq.get)
      | (with_reducible refine wpA_block ?_; exact hq.get)
      | (with_reducible refine wpA_skip ?_; exact hq.get)
      | (with_reducible refine wpA_ret ?_; exact hq.get)
      | (with_reducible refine wpA_exit ?_; exact hq.get)
      | (with_reducible refine wpA_label ?_; exact hq.get)
      | (refine thenA_n ?_; exact hq.get)
      | (refine thenA_r ?_; exact hq.get)
      | (refine thenA_e ?_; exact hq.get)
      | (refine inBlockA_n ?_; exact hq.get)
      | (refine inBlockA_r ?_; exact hq.get)
      | (refine inBlockA_hit ?_; exact hq.get)
      | (refine inBlockA_miss rfl ?_; exact hq.get)
      | (refine wpA_seq' ?_; exact hq.get)
      | (refine wpA_block ?_; exact hq.get)
      | (refine wpA_skip ?_; exact hq.get)
      | (refine wpA_ret ?_; exact hq.get)
      | (refine wpA_exit ?_; exact hq.get)
      | (refine wpA_label ?_; exact hq.get)
      | fail) : p := h ⟨hq⟩
structure Stop (q : Prop) : Prop where
  get : q
theorem arm {c : Prop} {P : Program} {f : FuncId} {args : List AV} {x : AV} (hc : Hid c) (h : Hid c → FnA P f args x := by intro hc; first | exact FnA.at_ (hc.get ..) rfl rfl | exact FnA.at_ (hc.get.1 ..) rfl rfl | exact FnA.at_ (hc.get.2.1 ..) rfl rfl | exact FnA.at_ (hc.get.2.2.1 ..) rfl rfl | exact FnA.at_ (hc.get.2.2.2.1 ..) rfl rfl | exact FnA.at_ (hc.get.2.2.2.2.1 ..) rfl rfl | exact FnA.at_ (hc.get.2.2.2.2.2.1 ..) rfl rfl | exact FnA.at_ (hc.get.2.2.2.2.2.2.1 ..) rfl rfl | exact FnA.at_ (hc.get.2.2.2.2.2.2.2.1 ..) rfl rfl | exact FnA.at_ (hc.get.2.2.2.2.2.2.2.2.1 ..) rfl rfl | exact FnA.at_ (hc.get.2.2.2.2.2.2.2.2.2.1 ..) rfl rfl | exact FnA.at_ (hc.get.2.2.2.2.2.2.2.2.2.2.1 ..) rfl rfl | exact FnA.at_ (hc.get.2.2.2.2.2.2.2.2.2.2.2.1 ..) rfl rfl | exact FnA.at_ (hc.get.2.2.2.2.2.2.2.2.2.2.2.2.1 ..) rfl rfl | exact FnA.at_ (hc.get.2.2.2.2.2.2.2.2.2.2.2.2.2.1 ..) rfl rfl | exact FnA.at_ (hc.get.2 ..) rfl rfl | exact FnA.at_ (hc.get.2.2 ..) rfl rfl | exact FnA.at_ (hc.get.2.2.2 ..) rfl rfl | exact FnA.at_ (hc.get.2.2.2.2 ..) rfl rfl | exact FnA.at_ (hc.get.2.2.2.2.2 ..) rfl rfl | exact FnA.at_ (hc.get.2.2.2.2.2.2 ..) rfl rfl | exact FnA.at_ (hc.get.2.2.2.2.2.2.2 ..) rfl rfl | exact FnA.at_ (hc.get.2.2.2.2.2.2.2.2 ..) rfl rfl | exact FnA.at_ (hc.get.2.2.2.2.2.2.2.2.2 ..) rfl rfl | exact FnA.at_ (hc.get.2.2.2.2.2.2.2.2.2.2 ..) rfl rfl | exact FnA.at_ (hc.get.2.2.2.2.2.2.2.2.2.2.2 ..) rfl rfl | exact FnA.at_ (hc.get.2.2.2.2.2.2.2.2.2.2.2.2 ..) rfl rfl | exact FnA.at_ (hc.get.2.2.2.2.2.2.2.2.2.2.2.2.2 ..) rfl rfl | exact FnA.at_s (hc.get ..) rfl simT | exact FnA.at_s (hc.get ..) rfl simF | exact FnA.at_s (hc.get.1 ..) rfl simT | exact FnA.at_s (hc.get.1 ..) rfl simF | exact FnA.at_s (hc.get.2.1 ..) rfl simT | exact FnA.at_s (hc.get.2.1 ..) rfl simF | exact FnA.at_s (hc.get.2.2.1 ..) rfl simT | exact FnA.at_s (hc.get.2.2.1 ..) rfl simF | exact FnA.at_s (hc.get.2.2.2.1 ..) rfl simT | exact FnA.at_s (hc.get.2.2.2.1 ..) rfl simF | exact FnA.at_s (hc.get.2.2.2.2.1 ..) rfl simT | exact FnA.at_s (hc.get.2.2.2.2.1 ..) rfl simF | exact FnA.at_s (hc.get.2.2.2.2.2.1 ..) rfl simT | exact FnA.at_s (hc.get.2.2.2.2.2.1 ..) rfl simF | exact FnA.at_s (hc.get.2.2.2.2.2.2.1 ..) rfl simT | exact FnA.at_s (hc.get.2.2.2.2.2.2.1 ..) rfl simF | exact FnA.at_s (hc.get.2.2.2.2.2.2.2.1 ..) rfl simT | exact FnA.at_s (hc.get.2.2.2.2.2.2.2.1 ..) rfl simF | exact FnA.at_s (hc.get.2.2.2.2.2.2.2.2.1 ..) rfl simT | exact FnA.at_s (hc.get.2.2.2.2.2.2.2.2.1 ..) rfl simF | exact FnA.at_s (hc.get.2.2.2.2.2.2.2.2.2.1 ..) rfl simT | exact FnA.at_s (hc.get.2.2.2.2.2.2.2.2.2.1 ..) rfl simF | exact FnA.at_s (hc.get.2.2.2.2.2.2.2.2.2.2.1 ..) rfl simT | exact FnA.at_s (hc.get.2.2.2.2.2.2.2.2.2.2.1 ..) rfl simF | exact FnA.at_s (hc.get.2.2.2.2.2.2.2.2.2.2.2.1 ..) rfl simT | exact FnA.at_s (hc.get.2.2.2.2.2.2.2.2.2.2.2.1 ..) rfl simF | exact FnA.at_s (hc.get.2.2.2.2.2.2.2.2.2.2.2.2.1 ..) rfl simT | exact FnA.at_s (hc.get.2.2.2.2.2.2.2.2.2.2.2.2.1 ..) rfl simF | exact FnA.at_s (hc.get.2.2.2.2.2.2.2.2.2.2.2.2.2.1 ..) rfl simT | exact FnA.at_s (hc.get.2.2.2.2.2.2.2.2.2.2.2.2.2.1 ..) rfl simF | exact FnA.at_s (hc.get.2 ..) rfl simT | exact FnA.at_s (hc.get.2 ..) rfl simF | exact FnA.at_s (hc.get.2.2 ..) rfl simT | exact FnA.at_s (hc.get.2.2 ..) rfl simF | exact FnA.at_s (hc.get.2.2.2 ..) rfl simT | exact FnA.at_s (hc.get.2.2.2 ..) rfl simF | exact FnA.at_s (hc.get.2.2.2.2 ..) rfl simT | exact FnA.at_s (hc.get.2.2.2.2 ..) rfl simF | exact FnA.at_s (hc.get.2.2.2.2.2 ..) rfl simT | exact FnA.at_s (hc.get.2.2.2.2.2 ..) rfl simF | exact FnA.at_s (hc.get.2.2.2.2.2.2 ..) rfl simT | exact FnA.at_s (hc.get.2.2.2.2.2.2 ..) rfl simF | exact FnA.at_s (hc.get.2.2.2.2.2.2.2 ..) rfl simT | exact FnA.at_s (hc.get.2.2.2.2.2.2.2 ..) rfl simF | exact FnA.at_s (hc.get.2.2.2.2.2.2.2.2 ..) rfl simT | exact FnA.at_s (hc.get.2.2.2.2.2.2.2.2 ..) rfl simF | exact FnA.at_s (hc.get.2.2.2.2.2.2.2.2.2 ..) rfl simT | exact FnA.at_s (hc.get.2.2.2.2.2.2.2.2.2 ..) rfl simF | exact FnA.at_s (hc.get.2.2.2.2.2.2.2.2.2.2 ..) rfl simT | exact FnA.at_s (hc.get.2.2.2.2.2.2.2.2.2.2 ..) rfl simF | exact FnA.at_s (hc.get.2.2.2.2.2.2.2.2.2.2.2 ..) rfl simT | exact FnA.at_s (hc.get.2.2.2.2.2.2.2.2.2.2.2 ..) rfl simF | exact FnA.at_s (hc.get.2.2.2.2.2.2.2.2.2.2.2.2 ..) rfl simT | exact FnA.at_s (hc.get.2.2.2.2.2.2.2.2.2.2.2.2 ..) rfl simF | exact FnA.at_s (hc.get.2.2.2.2.2.2.2.2.2.2.2.2.2 ..) rfl simT | exact FnA.at_s (hc.get.2.2.2.2.2.2.2.2.2.2.2.2.2 ..) rfl simF) : FnA P f args x := h hc
theorem wkG {c p q : Prop} (hc : c) (hq : q) (h : Hid q → Hid c → p := by
    intro hq hc
    first
      | (refine runS_nil (hK _ ?_); clear hK K)
      | refine stG ?_
      | (refine gateS 1 rfl ?_; refine runS_call rfl rfl ⟨_, evl, _, _, _, evl, oblG, ?_⟩; apply Exists.intro; refine ⟨fun hg => ?_, ?_⟩; · exact arm hc)
      | (refine gateA 1 rfl ?_; refine runA_call rfl ⟨_, evl, _, _, _, (fun _ _ => evlA), oblG, ?_⟩; apply Exists.intro; refine ⟨fun hg => ?_, ?_⟩; · exact arm hc)
      | (refine gateA 1 rfl ?_; refine runA_put ?_)
      | (refine gateBc ?_; first | (refine runB_nil (hK _ ?_); clear hK K) | (refine runB_op rfl ⟨_, evl, fun nb' => ?_⟩))
      | refine wpA_region (fun K hK => ?_)
      | (refine gateD ?_; first | (refine wpA_drawG false rfl (by kernel_rfl) (by kernel_rfl) (fun K hK => ?_)) | (refine wpA_drawG true rfl (by kernel_rfl) (by kernel_rfl) (fun K hK => ?_)))
      | fail
    repeat first
      | (refine runS_nil (hK _ ?_); clear hK K)
      | refine stG ?_
      | (refine gateS 1 rfl ?_; refine runS_call rfl rfl ⟨_, evl, _, _, _, evl, oblG, ?_⟩; apply Exists.intro; refine ⟨fun hg => ?_, ?_⟩; · exact arm hc)
      | (refine gateA 1 rfl ?_; refine runA_call rfl ⟨_, evl, _, _, _, (fun _ _ => evlA), oblG, ?_⟩; apply Exists.intro; refine ⟨fun hg => ?_, ?_⟩; · exact arm hc)
      | (refine gateA 1 rfl ?_; refine runA_put ?_)
      | (refine gateBc ?_; first | (refine runB_nil (hK _ ?_); clear hK K) | (refine runB_op rfl ⟨_, evl, fun nb' => ?_⟩))
      | refine wpA_region (fun K hK => ?_)
      | (refine gateD ?_; first | (refine wpA_drawG false rfl (by kernel_rfl) (by kernel_rfl) (fun K hK => ?_)) | (refine wpA_drawG true rfl (by kernel_rfl) (by kernel_rfl) (fun K hK => ?_)))
    first | exact hq.get | (revert hK; revert K; exact Stop.get hq.get)) : p := h ⟨hq⟩ ⟨hc⟩
theorem wkR {c p q : Prop} (hc : c) (hq : q) (h : Hid q → Hid c → p := by
    intro hq hc
    first
      | (refine runS_nil (hK _ ?_); clear hK K)
      | refine stR ?_
      | (refine gateS 1 rfl ?_; first | (refine runS_call rfl rfl ⟨_, evl, _, _, _, evl, oblG, ?_⟩; apply Exists.intro; refine ⟨fun hg => ?_, ?_⟩; · exact arm hc) | (refine runS_callR rfl rfl ⟨_, evl, _, _, _, evl, _, _, evl, oblG, ?_⟩; apply Exists.intro; refine ⟨fun hg => ?_, ?_⟩; · exact arm hc))
      | (refine gateA 1 rfl ?_; refine runA_call rfl ⟨_, evl, _, _, _, (fun _ _ => evlA), oblG, ?_⟩; apply Exists.intro; refine ⟨fun hg => ?_, ?_⟩; · exact arm hc)
      | (refine gateA 1 rfl ?_; refine runA_put ?_)
      | (refine gateBc ?_; first | (refine runB_nil (hK _ ?_); clear hK K) | (refine runB_op rfl ⟨_, evl, fun nb' => ?_⟩))
      | refine wpA_region (fun K hK => ?_)
      | (refine gateD ?_; first | (refine wpA_drawG false rfl (by kernel_rfl) (by kernel_rfl) (fun K hK => ?_)) | (refine wpA_drawG true rfl (by kernel_rfl) (by kernel_rfl) (fun K hK => ?_)))
      | fail
    repeat first
      | (refine runS_nil (hK _ ?_); clear hK K)
      | refine stR ?_
      | (refine gateS 1 rfl ?_; first | (refine runS_call rfl rfl ⟨_, evl, _, _, _, evl, oblG, ?_⟩; apply Exists.intro; refine ⟨fun hg => ?_, ?_⟩; · exact arm hc) | (refine runS_callR rfl rfl ⟨_, evl, _, _, _, evl, _, _, evl, oblG, ?_⟩; apply Exists.intro; refine ⟨fun hg => ?_, ?_⟩; · exact arm hc))
      | (refine gateA 1 rfl ?_; refine runA_call rfl ⟨_, evl, _, _, _, (fun _ _ => evlA), oblG, ?_⟩; apply Exists.intro; refine ⟨fun hg => ?_, ?_⟩; · exact arm hc)
      | (refine gateA 1 rfl ?_; refine runA_put ?_)
      | (refine gateBc ?_; first | (refine runB_nil (hK _ ?_); clear hK K) | (refine runB_op rfl ⟨_, evl, fun nb' => ?_⟩))
      | refine wpA_region (fun K hK => ?_)
      | (refine gateD ?_; first | (refine wpA_drawG false rfl (by kernel_rfl) (by kernel_rfl) (fun K hK => ?_)) | (refine wpA_drawG true rfl (by kernel_rfl) (by kernel_rfl) (fun K hK => ?_)))
    first | exact hq.get | (revert hK; revert K; exact Stop.get hq.get)) : p := h ⟨hq⟩ ⟨hc⟩
theorem wkB {c p q : Prop} (hc : c) (hq : q) (h : Hid q → Hid c → p := by
    intro hq hc
    first
      | (refine runS_nil (hK _ ?_); clear hK K)
      | refine stB ?_
      | (refine gateS 2 rfl ?_; refine runS_appBsl tblOk rfl rfl rfl ⟨_, _, _, _, _, _, _, evl, obq, _, _, _, _, _, evl, _, evl, obq, obq, obs, _, evl, fun c hc1 hc2 => ⟨_, evl, ?_⟩⟩)
      | (refine gateS 1 rfl ?_; first | (refine runS_call rfl rfl ⟨_, evl, _, _, _, evl, oblG, ?_⟩; apply Exists.intro; refine ⟨fun hg => ?_, ?_⟩; · exact arm hc) | (refine runS_callR rfl rfl ⟨_, evl, _, _, _, evl, _, _, evl, oblG, ?_⟩; apply Exists.intro; refine ⟨fun hg => ?_, ?_⟩; · exact arm hc))
      | (refine gateA 1 rfl ?_; refine runA_call rfl ⟨_, evl, _, _, _, (fun _ _ => evlA), oblG, ?_⟩; apply Exists.intro; refine ⟨fun hg => ?_, ?_⟩; · exact arm hc)
      | (refine gateA 1 rfl ?_; refine runA_put ?_)
      | (refine gateBc ?_; first | (refine runB_nil (hK _ ?_); clear hK K) | (refine runB_op rfl ⟨_, evl, fun nb' => ?_⟩))
      | refine wpA_region (fun K hK => ?_)
      | (refine gateD ?_; first | (refine wpA_drawG false rfl (by kernel_rfl) (by kernel_rfl) (fun K hK => ?_)) | (refine wpA_drawG true rfl (by kernel_rfl) (by kernel_rfl) (fun K hK => ?_)))
      | fail
    repeat first
      | (refine runS_nil (hK _ ?_); clear hK K)
      | refine stB ?_
      | (refine gateS 2 rfl ?_; refine runS_appBsl tblOk rfl rfl rfl ⟨_, _, _, _, _, _, _, evl, obq, _, _, _, _, _, evl, _, evl, obq, obq, obs, _, evl, fun c hc1 hc2 => ⟨_, evl, ?_⟩⟩)
      | (refine gateS 1 rfl ?_; first | (refine runS_call rfl rfl ⟨_, evl, _, _, _, evl, oblG, ?_⟩; apply Exists.intro; refine ⟨fun hg => ?_, ?_⟩; · exact arm hc) | (refine runS_callR rfl rfl ⟨_, evl, _, _, _, evl, _, _, evl, oblG, ?_⟩; apply Exists.intro; refine ⟨fun hg => ?_, ?_⟩; · exact arm hc))
      | (refine gateA 1 rfl ?_; refine runA_call rfl ⟨_, evl, _, _, _, (fun _ _ => evlA), oblG, ?_⟩; apply Exists.intro; refine ⟨fun hg => ?_, ?_⟩; · exact arm hc)
      | (refine gateA 1 rfl ?_; refine runA_put ?_)
      | (refine gateBc ?_; first | (refine runB_nil (hK _ ?_); clear hK K) | (refine runB_op rfl ⟨_, evl, fun nb' => ?_⟩))
      | refine wpA_region (fun K hK => ?_)
      | (refine gateD ?_; first | (refine wpA_drawG false rfl (by kernel_rfl) (by kernel_rfl) (fun K hK => ?_)) | (refine wpA_drawG true rfl (by kernel_rfl) (by kernel_rfl) (fun K hK => ?_)))
    first | exact hq.get | (revert hK; revert K; exact Stop.get hq.get)) : p := h ⟨hq⟩ ⟨hc⟩
theorem wkM {k c p q : Prop} (hk : k) (hc : c) (hq : q) (h : Hid q → Hid c → k → p := by
    intro hq hc hK
    first
      | (refine runS_nil (hK _ ?_); (first | clear hK K | clear hK))
      | refine stG ?_
      | (refine gateS 1 rfl ?_; refine runS_call rfl rfl ⟨_, evl, _, _, _, evl, oblG, ?_⟩; apply Exists.intro; refine ⟨fun hg => ?_, ?_⟩; · exact arm hc)
      | (refine gateA 1 rfl ?_; refine runA_call rfl ⟨_, evl, _, _, _, (fun _ _ => evlA), oblG, ?_⟩; apply Exists.intro; refine ⟨fun hg => ?_, ?_⟩; · exact arm hc)
      | (refine gateA 1 rfl ?_; refine runA_put ?_)
      | (refine gateBc ?_; first | (refine runB_nil (hK _ ?_); (first | clear hK K | clear hK)) | (refine runB_op rfl ⟨_, evl, fun nb' => ?_⟩))
      | refine wpA_region (fun K hK => ?_)
      | (refine gateD ?_; first | (refine wpA_drawG false rfl (by kernel_rfl) (by kernel_rfl) (fun K hK => ?_)) | (refine wpA_drawG true rfl (by kernel_rfl) (by kernel_rfl) (fun K hK => ?_)))
      | fail
    repeat first
      | (refine runS_nil (hK _ ?_); (first | clear hK K | clear hK))
      | refine stG ?_
      | (refine gateS 1 rfl ?_; refine runS_call rfl rfl ⟨_, evl, _, _, _, evl, oblG, ?_⟩; apply Exists.intro; refine ⟨fun hg => ?_, ?_⟩; · exact arm hc)
      | (refine gateA 1 rfl ?_; refine runA_call rfl ⟨_, evl, _, _, _, (fun _ _ => evlA), oblG, ?_⟩; apply Exists.intro; refine ⟨fun hg => ?_, ?_⟩; · exact arm hc)
      | (refine gateA 1 rfl ?_; refine runA_put ?_)
      | (refine gateBc ?_; first | (refine runB_nil (hK _ ?_); (first | clear hK K | clear hK)) | (refine runB_op rfl ⟨_, evl, fun nb' => ?_⟩))
      | refine wpA_region (fun K hK => ?_)
      | (refine gateD ?_; first | (refine wpA_drawG false rfl (by kernel_rfl) (by kernel_rfl) (fun K hK => ?_)) | (refine wpA_drawG true rfl (by kernel_rfl) (by kernel_rfl) (fun K hK => ?_)))
    first | exact hq.get | (revert hK; revert K; exact Stop.get hq.get)) : p := h ⟨hq⟩ ⟨hc⟩ hk
theorem wkN {k c p q : Prop} (hk : k) (hc : c) (hq : q) (h : Hid q → Hid c → k → p := by
    intro hq hc hK
    first
      | (refine runS_nil (hK _ ?_); (first | clear hK K | clear hK))
      | refine stR ?_
      | (refine gateS 1 rfl ?_; first | (refine runS_call rfl rfl ⟨_, evl, _, _, _, evl, oblG, ?_⟩; apply Exists.intro; refine ⟨fun hg => ?_, ?_⟩; · exact arm hc) | (refine runS_callR rfl rfl ⟨_, evl, _, _, _, evl, _, _, evl, oblG, ?_⟩; apply Exists.intro; refine ⟨fun hg => ?_, ?_⟩; · exact arm hc))
      | (refine gateA 1 rfl ?_; refine runA_call rfl ⟨_, evl, _, _, _, (fun _ _ => evlA), oblG, ?_⟩; apply Exists.intro; refine ⟨fun hg => ?_, ?_⟩; · exact arm hc)
      | (refine gateA 1 rfl ?_; refine runA_put ?_)
      | (refine gateBc ?_; first | (refine runB_nil (hK _ ?_); (first | clear hK K | clear hK)) | (refine runB_op rfl ⟨_, evl, fun nb' => ?_⟩))
      | refine wpA_region (fun K hK => ?_)
      | (refine gateD ?_; first | (refine wpA_drawG false rfl (by kernel_rfl) (by kernel_rfl) (fun K hK => ?_)) | (refine wpA_drawG true rfl (by kernel_rfl) (by kernel_rfl) (fun K hK => ?_)))
      | fail
    repeat first
      | (refine runS_nil (hK _ ?_); (first | clear hK K | clear hK))
      | refine stR ?_
      | (refine gateS 1 rfl ?_; first | (refine runS_call rfl rfl ⟨_, evl, _, _, _, evl, oblG, ?_⟩; apply Exists.intro; refine ⟨fun hg => ?_, ?_⟩; · exact arm hc) | (refine runS_callR rfl rfl ⟨_, evl, _, _, _, evl, _, _, evl, oblG, ?_⟩; apply Exists.intro; refine ⟨fun hg => ?_, ?_⟩; · exact arm hc))
      | (refine gateA 1 rfl ?_; refine runA_call rfl ⟨_, evl, _, _, _, (fun _ _ => evlA), oblG, ?_⟩; apply Exists.intro; refine ⟨fun hg => ?_, ?_⟩; · exact arm hc)
      | (refine gateA 1 rfl ?_; refine runA_put ?_)
      | (refine gateBc ?_; first | (refine runB_nil (hK _ ?_); (first | clear hK K | clear hK)) | (refine runB_op rfl ⟨_, evl, fun nb' => ?_⟩))
      | refine wpA_region (fun K hK => ?_)
      | (refine gateD ?_; first | (refine wpA_drawG false rfl (by kernel_rfl) (by kernel_rfl) (fun K hK => ?_)) | (refine wpA_drawG true rfl (by kernel_rfl) (by kernel_rfl) (fun K hK => ?_)))
    first | exact hq.get | (revert hK; revert K; exact Stop.get hq.get)) : p := h ⟨hq⟩ ⟨hc⟩ hk
theorem hlT {p : Prop} (h : p := by first | trivial | exact ⟨rfl, trivial⟩ | exact ⟨rfl, rfl, trivial⟩ | exact ⟨rfl, rfl, rfl, trivial⟩ | simp [handL, AV.renL, AV.ren, ARow.ren]) : p := h
theorem sblT {p : Prop} (h : p := by first | (simp [AV.subL, AV.sub]; done) | (simp only [List.forall_mem_cons, List.not_mem_nil, false_implies, implies_true, and_true, true_and, AV.subL, AV.sub, List.length_cons, List.length_nil, Nat.zero_add, Nat.reduceAdd]; (repeat' apply And.intro) <;> first | trivial | omega | (simp; done) | (refine AV.sub_free _ ?_; exact lA_free (fun _ => by simp) _) | (refine AV.subL_free _ ?_; simp; done) | (intro r hr; cases hr; done))) : p := h
theorem lenT {p : Prop} (h : p := by simp only [List.length_cons, List.length_nil]; omega) : p := h
theorem finT {bx : List (List AV)} {rw : List ARow} {x y : AV} (h : x = y := by first | rfl | (simp; done) | (simp_all; done) | (simp_all; omega) | (simp; grind) | (split <;> simp_all)) : Sims bx rw x y := Sims.of_eq h
theorem cb {a p : Prop} (h : a → p := by intro hb; first | (simp only [Bool.or_eq_true, Bool.and_eq_true, Bool.or_eq_false_iff, Bool.and_eq_false_iff, Bool.not_eq_true', Bool.not_eq_false', Bool.not_eq_true, Bool.not_eq_false, decide_eq_true_eq, decide_eq_false_iff_not, Bool.true_eq_false, Bool.false_eq_true, ne_eq, Classical.not_not, Int.not_lt, Int.not_le, Bool.not_true, Bool.not_false] at hb; exact hb) | exact hb) : a → p := h
theorem cndS {P : Program} {st : ASt} {x y : Code} {c : Operand} {Q : Exit → ASt → Prop} {p q : Prop} (h : ∃ b : Bool, st.ev c = some (true, .raw (.bool b)) ∧ ((b = true → p) ∧ (b = false → q)) ∧ (p → wpA P x Q st) ∧ (q → wpA P y Q st)) : wpA P (.cond c x y) Q st := by obtain ⟨b, hc, ⟨hp, hq⟩, hx, hy⟩ := h; exact wpA_cond' ⟨b, hc, fun h => hx (hp h), fun h => hy (hq h)⟩
theorem wkn {nt nb : Nat} {sl sl' : List (Nat × (Bool × AV))} {bx bx' : List (List AV)} {rw rw' : List ARow} {ys : (Nat × List (List AV)) × List (List AV) × Bool} (h1 : SlSim bx rw sl' sl) (h2 : BxSim bx rw bx' bx) (h3 : RwSim bx rw rw' rw) (h4 : nb % 64 ≤ bx'.length ∧ nb / 64 ≤ rw'.length := by simp) (h5 : subSl bx'.length rw'.length sl' ∧ subB bx'.length rw'.length bx' ∧ subR bx'.length rw'.length rw' := by first | (simp [subSl, subB, subR, AV.sub, AV.subL, go_sem]; done) | (simp [subSl, subB, subR, AV.sub, AV.subL, go_sem, AV.subL_free, AV.sub_free, *]; done) | (simp_all [subSl, subB, subR, AV.sub, AV.subL, go_sem]; done)) : Weak ⟨nt, nb, sl, bx, rw, ys⟩ ⟨nt, nb, sl', bx', rw', ys⟩ := Weak.gen h1 h2 h3 h4 h5
theorem wkS {p q : Prop} (hq : q) (h : Hid q → p := by intro hq; (simp only [SlSim, BxSim, RwSim, SimsL, lookN_cons, ↓reduceIte, Nat.reduceEqDiff, Option.some.injEq, Prod.mk.injEq, true_and, and_true, exists_eq_left', and_self]); exact hq.get) : p := h ⟨hq⟩
theorem wk0 {p : Prop} (h : p := by first | (simp only [SlSim, BxSim, RwSim, SimsL, lookN_cons, ↓reduceIte, Nat.reduceEqDiff, Option.some.injEq, Prod.mk.injEq, true_and, and_true, exists_eq_left', and_self]; done) | fail) : p := h
theorem fre {p : Prop} (h : p := by first | (simp [AV.free, AV.freeL, go_sem]; done) | exact lA_free (fun _ => by simp [AV.free, AV.freeL, u8C, iC]) _ | (simp_all [AV.free, AV.freeL, sA, u8C, iC]; done) | fail) : p := h
theorem wkL {p : Prop} (h : p := by first | exact simsT | (intro _ _; exact simsT) | omega | (simp; done) | (simp; omega) | (intro _ _; refine SimsL.of_eq (els_snoc ?_ (by assumption) rfl) <;> first | rfl | omega | (simp; done) | (simp; omega)) | fail) : p := h
end Go.Proofs.YtchpbdecipcelaaGreatDoor
