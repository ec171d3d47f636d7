/- The steps of a walk, for this program. -/
import Derived.Test.YtihnjbnlbedpaaaGreatDoorA7
import Derived.Test.YtihnjbnlbedpaaaGreatDoorTbl
namespace Go.Proofs.YtihnjbnlbedpaaaGreatDoor
set_option linter.unusedVariables false
set_option linter.unusedSimpArgs false
set_option maxHeartbeats 4000000
set_option maxRecDepth 100000
open Go.RowKit
/-- Whether a slice that is made is appended to in the same region. -/
def feedsApp (full : List Oper) (o : Oper) : Bool := match o.dst with
  | some d => full.any fun p => match p.op with
    | .call c => match c.callee with
      | .builtin .append => match c.args.toList with
        | Operand.tmp t :: _ => Nat.beq t d
        | _ => false
      | _ => false
    | _ => false
  | none => false
theorem runA_feed {P : Program} {full : List Oper} {all : Bool} {m : Nat} {ia : List (Nat × AK)} {es : List AEn} {ib : List Nat} {r : List Oper} {k : ASt → Prop} {nt nb : Nat} {sl sl0 : List (Nat × (Bool × AV))} {bx : List (List AV)} {rw : List ARow} {ys : (Nat × List (List AV)) × List (List AV) × Bool} {o : Oper} (_ : feedsApp full o = true) (h : runA P full all (m + 1) ia es (ib ++ [m]) r k sl0 ⟨nt, nb, sl, bx, rw, ys⟩) : runA P full all m ia es ib (o :: r) k sl0 ⟨nt, nb, sl, bx, rw, ys⟩ := runA_put h
/-- A goal that is kept apart while a step is looked for. -/
structure Hid (q : Prop) : Prop where
  get : q
/-- One step of a walk. -/
theorem stG {p q : Prop} (hq : q) (h : Hid q → p := by
    intro hq
    first
      | (refine gateS 0 rfl ?_; first | (refine runS_pure tblOk rfl rfl ⟨_, evl, _, _, _, evl, oblF, ?_⟩; exact hq.get) | (refine runS_pure tblOk rfl rfl ⟨_, evl, _, _, _, evl, oblS, ?_⟩; exact hq.get))
      | (refine gateS 2 rfl ?_; first | (refine runS_app tblOk rfl rfl rfl ⟨_, _, _, _, _, _, _, _, evl, obq, _, evl, _, evl, _, evl, _, evl, obq, obq, obq, _, evl, _, evl, ?_⟩; exact hq.get) | (refine runS_appStr tblOk rfl rfl rfl ⟨_, _, _, _, _, _, evl, obq, _, evl, _, rfl, _, evl, rfl, _, evl, _, evl, obq, obs, _, evl, _, evl, ?_⟩; exact hq.get))
      | (refine gateS 3 rfl ?_; first | (refine runS_mk tblOk rfl rfl ⟨_, evl, _, _, _, evl, oblF, ?_⟩; exact hq.get))
      | (refine gateS 4 rfl ?_; first | (refine sAlloc tblOk rfl rfl rfl rfl ⟨_, evl, _, evl, _, evl, ?_⟩; exact hq.get))
      | (refine gateS 5 rfl ?_; first | (refine sBox rfl rfl rfl rfl ⟨_, evl, ob1, _, evl, _, evl, ?_⟩; exact hq.get))
      | (refine gateS 6 rfl ?_; first | (refine sStore tblOk rfl rfl rfl ⟨_, _, evl, _, evl, _, evl, _, evl, ob1, _, evl, ?_⟩; exact hq.get))
      | (refine gateAc ?_; refine runA_dep (by decide +kernel) ?_; exact hq.get)
      | (refine gateA 0 rfl ?_; first | (refine runA_any tblOk rfl ⟨_, evl, _, _, _, (fun _ _ => evlA), oblF, ?_⟩; exact hq.get) | (refine runA_any tblOk rfl ⟨_, evl, _, _, _, (fun _ _ => evlA), oblS, ?_⟩; exact hq.get) | (refine runA_first tblOk rfl ⟨_, evl, _, _, _, (fun _ => evlA), oblF, ?_⟩; exact hq.get) | (refine runA_put ?_; exact hq.get))
      | (refine gateA 3 rfl ?_; first | (refine runA_feed (by decide +kernel) ?_; exact hq.get) | (refine runA_mk tblOk rfl ⟨_, evl, _, _, _, (fun _ _ => evlA), oblF, ?_⟩; exact hq.get) | (refine runA_put ?_; exact hq.get))
      | (refine gateA 2 rfl ?_; first | (refine runA_put ?_; exact hq.get))
      | (refine gateA 4 rfl ?_; first | (refine runA_put ?_; exact hq.get))
      | (refine gateA 5 rfl ?_; first | (refine runA_put ?_; exact hq.get))
      | (refine gateA 6 rfl ?_; first | (refine runA_put ?_; exact hq.get))
      | (refine gateAn ?_; refine runA_nil ⟨_, evl, _, evl, by decide +kernel, ?_⟩; exact hq.get)
      | (refine runB_end ?_ ?_ ?_ ?_; (focus (exact rfl)); (focus (first | exact keepT _ _ | exact keepF _ rfl)); (focus (first | exact fun _ => ⟨rfl, _, rfl⟩ | exact fun h => absurd h (by decide))); exact hq.get)
      | (refine runB_endN ?_ ?_ ?_ ?_; (focus (exact rfl)); (focus (first | exact keepT _ _ | exact keepF _ rfl)); (focus (first | exact fun _ => ⟨rfl, _, rfl⟩ | exact fun h => absurd h (by decide))); exact hq.get)
      | (with_reducible refine thenA_n ?_; exact hq.get)
      | (with_reducible refine thenA_r ?_; exact hq.get)
      | (with_reducible refine thenA_e ?_; exact hq.get)
      | (with_reducible refine inBlockA_n ?_; exact hq.get)
      | (with_reducible refine inBlockA_r ?_; exact hq.get)
      | (with_reducible refine inBlockA_hit ?_; exact hq.get)
      | (with_reducible refine inBlockA_miss rfl ?_; exact hq.get)
      | (with_reducible refine wpA_seq' ?_; exact hq.get)
      | (with_reducible refine wpA_block ?_; exact hq.get)
      | (with_reducible refine wpA_skip ?_; exact hq.get)
      | (with_reducible refine wpA_ret ?_; exact hq.get)
      | (with_reducible refine wpA_exit ?_; exact hq.get)
      | (with_reducible refine wpA_label ?_; exact hq.get)
      | (refine thenA_n ?_; exact hq.get)
      | (refine thenA_r ?_; exact hq.get)
      | (refine thenA_e ?_; exact hq.get)
      | (refine inBlockA_n ?_; exact hq.get)
      | (refine inBlockA_r ?_; exact hq.get)
      | (refine inBlockA_hit ?_; exact hq.get)
      | (refine inBlockA_miss rfl ?_; exact hq.get)
      | (refine wpA_seq' ?_; exact hq.get)
      | (refine wpA_block ?_; exact hq.get)
      | (refine wpA_skip ?_; exact hq.get)
      | (refine wpA_ret ?_; exact hq.get)
      | (refine wpA_exit ?_; exact hq.get)
      | (refine wpA_label ?_; exact hq.get)
      | fail) : p := h ⟨hq⟩
/-- One step of a walk. -/
theorem stR {p q : Prop} (hq : q) (h : Hid q → p := by
    intro hq
    first
      | (refine gateS 0 rfl ?_; first | (refine runS_pure tblOk rfl rfl ⟨_, evl, _, _, _, evl, oblF, ?_⟩; exact hq.get) | (refine runS_pure tblOk rfl rfl ⟨_, evl, _, _, _, evl, oblS, ?_⟩; exact hq.get))
      | (refine gateS 2 rfl ?_; first | (refine runS_app tblOk rfl rfl rfl ⟨_, _, _, _, _, _, _, _, evl, obq, _, evl, _, evl, _, evl, _, evl, obq, obq, obq, _, evl, _, evl, ?_⟩; exact hq.get) | (refine runS_appStr tblOk rfl rfl rfl ⟨_, _, _, _, _, _, evl, obq, _, evl, _, rfl, _, evl, rfl, _, evl, _, evl, obq, obs, _, evl, _, evl, ?_⟩; exact hq.get))
      | (refine gateS 3 rfl ?_; first | (refine runS_mkRow tblOk rfl rfl rfl ⟨_, _, _, evl, obq, _, evl, _, evl, ?_⟩; exact hq.get) | (refine runS_mk tblOk rfl rfl ⟨_, evl, _, _, _, evl, oblF, ?_⟩; exact hq.get))
      | (refine gateS 4 rfl ?_; first | (refine sAlloc tblOk rfl rfl rfl rfl ⟨_, evl, _, evl, _, evl, ?_⟩; exact hq.get))
      | (refine gateS 5 rfl ?_; first | (refine sBox rfl rfl rfl rfl ⟨_, evl, ob1, _, evl, _, evl, ?_⟩; exact hq.get))
      | (refine gateS 6 rfl ?_; first | (refine sStore tblOk rfl rfl rfl ⟨_, _, evl, _, evl, _, evl, _, evl, ob1, _, evl, ?_⟩; exact hq.get))
      | (refine gateAc ?_; refine runA_dep (by decide +kernel) ?_; exact hq.get)
      | (refine gateA 0 rfl ?_; first | (refine runA_any tblOk rfl ⟨_, evl, _, _, _, (fun _ _ => evlA), oblF, ?_⟩; exact hq.get) | (refine runA_any tblOk rfl ⟨_, evl, _, _, _, (fun _ _ => evlA), oblS, ?_⟩; exact hq.get) | (refine runA_first tblOk rfl ⟨_, evl, _, _, _, (fun _ => evlA), oblF, ?_⟩; exact hq.get) | (refine runA_put ?_; exact hq.get))
      | (refine gateA 3 rfl ?_; first | (refine runA_feed (by decide +kernel) ?_; exact hq.get) | (refine runA_mk tblOk rfl ⟨_, evl, _, _, _, (fun _ _ => evlA), oblF, ?_⟩; exact hq.get) | (refine runA_put ?_; exact hq.get))
      | (refine gateA 2 rfl ?_; first | (refine runA_put ?_; exact hq.get))
      | (refine gateA 4 rfl ?_; first | (refine runA_put ?_; exact hq.get))
      | (refine gateA 5 rfl ?_; first | (refine runA_put ?_; exact hq.get))
      | (refine gateA 6 rfl ?_; first | (refine runA_put ?_; exact hq.get))
      | (refine gateAn ?_; refine runA_nil ⟨_, evl, _, evl, by decide +kernel, ?_⟩; exact hq.get)
      | (refine runB_end ?_ ?_ ?_ ?_; (focus (exact rfl)); (focus (first | exact keepT _ _ | exact keepF _ rfl)); (focus (first | exact fun _ => ⟨rfl, _, rfl⟩ | exact fun h => absurd h (by decide))); exact hq.get)
      | (refine runB_endN ?_ ?_ ?_ ?_; (focus (exact rfl)); (focus (first | exact keepT _ _ | exact keepF _ rfl)); (focus (first | exact fun _ => ⟨rfl, _, rfl⟩ | exact fun h => absurd h (by decide))); exact hq.get)
      | (with_reducible refine thenA_n ?_; exact hq.get)
      | (with_reducible refine thenA_r ?_; exact hq.get)
      | (with_reducible refine thenA_e ?_; exact hq.get)
      | (with_reducible refine inBlockA_n ?_; exact hq.get)
      | (with_reducible refine inBlockA_r ?_; exact hq.get)
      | (with_reducible refine inBlockA_hit ?_; exact hq.get)
      | (with_reducible refine inBlockA_miss rfl ?_; exact hq.get)
      | (with_reducible refine wpA_seq' ?_; exact hq.get)
      | (with_reducible refine wpA_block ?_; exact hq.get)
      | (with_reducible refine wpA_skip ?_; exact hq.get)
      | (with_reducible refine wpA_ret ?_; exact hq.get)
      | (with_reducible refine wpA_exit ?_; exact hq.get)
      | (with_reducible refine wpA_label ?_; exact hq.get)
      | (refine thenA_n ?_; exact hq.get)
      | (refine thenA_r ?_; exact hq.get)
      | (refine thenA_e ?_; exact hq.get)
      | (refine inBlockA_n ?_; exact hq.get)
      | (refine inBlockA_r ?_; exact hq.get)
      | (refine inBlockA_hit ?_; exact hq.get)
      | (refine inBlockA_miss rfl ?_; exact hq.get)
      | (refine wpA_seq' ?_; exact hq.get)
      | (refine wpA_block ?_; exact hq.get)
      | (refine wpA_skip ?_; exact hq.get)
      | (refine wpA_ret ?_; exact hq.get)
      | (refine wpA_exit ?_; exact hq.get)
      | (refine wpA_label ?_; exact hq.get)
      | fail) : p := h ⟨hq⟩
/-- One step of a walk. -/
theorem stB {p q : Prop} (hq : q) (h : Hid q → p := by
    intro hq
    first
      | (refine gateS 0 rfl ?_; first | (refine runS_pure tblOk rfl rfl ⟨_, evl, _, _, _, evl, oblF, ?_⟩; exact hq.get) | (refine runS_pure tblOk rfl rfl ⟨_, evl, _, _, _, evl, oblS, ?_⟩; exact hq.get) | (refine runS_bsl tblOk rfl rfl ⟨_, evl, _, _, _, evl, oblF, ?_⟩; exact hq.get))
      | (refine gateS 3 rfl ?_; first | (refine runS_mkBsl tblOk rfl rfl rfl rfl ⟨_, _, _, _, _, evl, _, evl, _, _, _, evl, obq, obq, _, evl, _, evl, ?_⟩; exact hq.get))
      | (refine gateS 2 rfl ?_; first | (refine runS_app tblOk rfl rfl rfl ⟨_, _, _, _, _, _, _, _, evl, obq, _, evl, _, evl, _, evl, _, evl, obq, obq, obq, _, evl, _, evl, ?_⟩; exact hq.get) | (refine runS_appStr tblOk rfl rfl rfl ⟨_, _, _, _, _, _, evl, obq, _, evl, _, rfl, _, evl, rfl, _, evl, _, evl, obq, obs, _, evl, _, evl, ?_⟩; exact hq.get))
      | (refine gateS 3 rfl ?_; first | (refine runS_mkRow tblOk rfl rfl rfl ⟨_, _, _, evl, obq, _, evl, _, evl, ?_⟩; exact hq.get) | (refine runS_mk tblOk rfl rfl ⟨_, evl, _, _, _, evl, oblF, ?_⟩; exact hq.get))
      | (refine gateS 4 rfl ?_; first | (refine sAlloc tblOk rfl rfl rfl rfl ⟨_, evl, _, evl, _, evl, ?_⟩; exact hq.get))
      | (refine gateS 5 rfl ?_; first | (refine sBox rfl rfl rfl rfl ⟨_, evl, ob1, _, evl, _, evl, ?_⟩; exact hq.get))
      | (refine gateS 6 rfl ?_; first | (refine sStore tblOk rfl rfl rfl ⟨_, _, evl, _, evl, _, evl, _, evl, ob1, _, evl, ?_⟩; exact hq.get))
      | (refine gateAc ?_; refine runA_dep (by decide +kernel) ?_; exact hq.get)
      | (refine gateA 0 rfl ?_; first | (refine runA_any tblOk rfl ⟨_, evl, _, _, _, (fun _ _ => evlA), oblF, ?_⟩; exact hq.get) | (refine runA_any tblOk rfl ⟨_, evl, _, _, _, (fun _ _ => evlA), oblS, ?_⟩; exact hq.get) | (refine runA_anyB tblOk rfl ⟨_, evl, _, _, _, (fun _ _ => evlA), oblF, ?_⟩; exact hq.get) | (refine runA_first tblOk rfl ⟨_, evl, _, _, _, (fun _ => evlA), oblF, ?_⟩; exact hq.get) | (refine runA_put ?_; exact hq.get))
      | (refine gateA 3 rfl ?_; first | (refine runA_feed (by decide +kernel) ?_; exact hq.get) | (refine runA_put ?_; exact hq.get))
      | (refine gateA 2 rfl ?_; first | (refine runA_put ?_; exact hq.get))
      | (refine gateA 4 rfl ?_; first | (refine runA_put ?_; exact hq.get))
      | (refine gateA 5 rfl ?_; first | (refine runA_put ?_; exact hq.get))
      | (refine gateA 6 rfl ?_; first | (refine runA_put ?_; exact hq.get))
      | (refine gateAn ?_; refine runA_nil ⟨_, evl, _, evl, by decide +kernel, ?_⟩; exact hq.get)
      | (refine runB_end ?_ ?_ ?_ ?_; (focus (exact rfl)); (focus (first | exact keepT _ _ | exact keepF _ rfl)); (focus (first | exact fun _ => ⟨rfl, _, rfl⟩ | exact fun h => absurd h (by decide))); exact hq.get)
      | (refine runB_endN ?_ ?_ ?_ ?_; (focus (exact rfl)); (focus (first | exact keepT _ _ | exact keepF _ rfl)); (focus (first | exact fun _ => ⟨rfl, _, rfl⟩ | exact fun h => absurd h (by decide))); exact hq.get)
      | (with_reducible refine thenA_n ?_; exact hq.get)
      | (with_reducible refine thenA_r ?_; exact hq.get)
      | (with_reducible refine thenA_e ?_; exact hq.get)
      | (with_reducible refine inBlockA_n ?_; exact hq.get)
      | (with_reducible refine inBlockA_r ?_; exact hq.get)
      | (with_reducible refine inBlockA_hit ?_; exact hq.get)
      | (with_reducible refine inBlockA_miss rfl ?_; exact hq.get)
      | (with_reducible refine wpA_seq' ?_; exact hq.get)
      | (with_reducible refine wpA_block ?_; exact hq.get)
      | (with_reducible refine wpA_skip ?_; exact hq.get)
      | (with_reducible refine wpA_ret ?_; exact hq.get)
      | (with_reducible refine wpA_exit ?_; exact hq.get)
      | (with_reducible refine wpA_label ?_; exact hq.get)
      | (refine thenA_n ?_; exact hq.get)
      | (refine thenA_r ?_; exact hq.get)
      | (refine thenA_e ?_; exact hq.get)
      | (refine inBlockA_n ?_; exact hq.get)
      | (refine inBlockA_r ?_; exact hq.get)
      | (refine inBlockA_hit ?_; exact hq.get)
      | (refine inBlockA_miss rfl ?_; exact hq.get)
      | (refine wpA_seq' ?_; exact hq.get)
      | (refine wpA_block ?_; exact hq.get)
      | (refine wpA_skip ?_; exact hq.get)
      | (refine wpA_ret ?_; exact hq.get)
      | (refine wpA_exit ?_; exact hq.get)
      | (refine wpA_label ?_; exact hq.get)
      | fail) : p := h ⟨hq⟩
end Go.Proofs.YtihnjbnlbedpaaaGreatDoor
