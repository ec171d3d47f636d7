/- The steps of a walk, for this program. -/
import Derived.Test.YtihnjbnlbedpaaaGreatDoorA7
import Derived.Test.YtihnjbnlbedpaaaGreatDoorTbl
namespace Go.Proofs.YtihnjbnlbedpaaaGreatDoor
set_option linter.unusedVariables false
set_option linter.unusedSimpArgs false
set_option maxHeartbeats 4000000
set_option maxRecDepth 100000
open Go.RowKit
/-- Whether a slice that is made is appended to in the same region. -/
def feedsApp (full : List Oper) (o : Oper) : Bool := match o.dst with
  | some d => full.any fun p => match p.op with
    | .call c => match c.callee with
      | .builtin .append => match c.args.toList with
        | Operand.tmp t :: _ => Nat.beq t d
        | _ => false
      | _ => false
    | _ => false
  | none => false
theorem runA_feed {P : Program} {full : List Oper} {all : Bool} {m : Nat} {ia : List (Nat × AK)} {es : List AEn} {ib : List Nat} {r : List Oper} {k : ASt → Prop} {nt nb : Nat} {sl sl0 : List (Nat × (Bool × AV))} {bx : List (List AV)} {rw : List ARow} {ys : (Nat × List (List AV)) × List (List AV) × Bool} {o : Oper} (_ : feedsApp full o = true) (h : runA P full all (m + 1) ia es (ib ++ [m]) r k sl0 ⟨nt, nb, sl, bx, rw, ys⟩) : runA P full all m ia es ib (o :: r) k sl0 ⟨nt, nb, sl, bx, rw, ys⟩ := runA_put h
/-- A goal that is kept apart while a step is looked for. -/
structure Hid (q : Prop) : Prop where
  get : q
/-- One step of a walk. -/
theorem stG {p q : Prop} (hq : q) (h : Hid q → p := by
    intro hq
    first
      | (refine gateS 0 rfl ?_; first | (refine runS_pure tblOk rfl rfl ⟨_, evl, _, _, _, evl, oblF, ?_⟩; exact hq.get) | (refine runS_pure tblOk rfl rfl ⟨_, evl, _, _, _, evl, oblS, ?_⟩; exact hq.get))
      | (refine gateS 2 rfl ?_; first | (refine runS_app tblOk rfl rfl rfl ⟨_, _, _, _, _, _, _, _, evl, obq, _, evl, _, evl, _, evl, _, evl, obq, obq, obq, _, evl, _, evl, ?_⟩; exact hq.get) | (refine runS_appStr tblOk rfl rfl rfl ⟨_, _, _, _, _, _, evl, obq, _, evl, _, rfl, _, evl, rfl, _, evl, _, evl, obq, obs, _, evl, _, evl, ?_⟩; exact hq.get))
      | (refine gateS 3 rfl ?_; first | (refine runS_mk tblOk rfl rfl ⟨_, evl, _, _, _, evl, oblF, ?_⟩; exact hq.get))
      | (refine gateS 4 rfl ?_; first | (refine sAlloc tblOk rfl rfl rfl rfl ⟨_, evl, _, evl, _, evl, ?_⟩; exact hq.get))
      | (refine gateS 5 rfl ?_; first | (refine sBox rfl rfl rfl rfl ⟨_, evl, ob1, _, evl, _, evl, ?_⟩; exact hq.get))
      | (refine gateS 6 rfl ?_; first | (refine sStore tblOk rfl rfl rfl ⟨_, _, evl, _, evl, _, evl, _, evl, ob1, _, evl, ?_⟩; exact hq.get))
      | (refine gateAc ?_; refine runA_dep (by decide +kernel) ?_; exact hq.get)
      | (refine gateA 0 rfl ?_; first | (refine runA_any tblOk rfl ⟨_, evl, _, _, _, (fun _ _ => evlA), oblF, ?_⟩; exact hq.get) | (refine runA_any tblOk rfl ⟨_, evl, _, _, _, (fun _ _ => evlA), oblS, ?_⟩; exact hq.get) | (refine runA_first tblOk rfl ⟨_, evl, _, _, _, (fun _ => evlA), oblF, ?_⟩; exact hq.get) | (refine runA_put ?_; exact hq.get))
      | (refine gateA 3 rfl ?_; first | (refine runA_feed (by decide +kernel) ?_; exact hq.get) | (refine runA_mk tblOk rfl ⟨_, evl, _, _, _, (fun _ _ => evlA), oblF, ?_⟩; exact hq.get) | (refine runA_put ?_; exact hq.get))
      | (refine gateA 2 rfl ?_; first | (refine runA_put ?_; exact hq.get))
      | (refine gateA 4 rfl ?_; first | (refine runA_put ?_; exact hq.get))
      | (refine gateA 5 rfl ?_; first | (refine runA_put ?_; exact hq.get))
      | (refine gateA 6 rfl ?_; first | (refine runA_put ?_; exact hq.get))
      | (refine gateAn ?_; refine runA_nil ⟨_, evl, _, evl, by decide +kernel, ?_⟩; exact hq.get)
      | (refine runB_end ?_ ?_ ?_ ?_; (focus (exact rfl)); (focus (first | exact keepT _ _ | exact keepF _ rfl)); (focus (first | exact fun _ => ⟨rfl, _, rfl⟩ | exact fun h => absurd h (by decide))); exact hq.get)
      | (refine runB_endN ?_ ?_ ?_ ?_; (focus (exact rfl)); (focus (first | exact keepT _ _ | exact keepF _ rfl)); (focus (first | exact fun _ => ⟨rfl, _, rfl⟩ | exact fun h => absurd h (by decide))); exact hq.get)
      | (with_reducible refine thenA_n ?_; exact hq.get)
      | (with_reducible refine thenA_r ?_; exact hq.get)
      | (with_reducible refine thenA_e ?_; exact hq.get)
      | (with_reducible refine inBlockA_n ?_; exact hq.get)
      | (with_reducible refine inBlockA_r ?_; exact hq.get)
      | (with_reducible refine inBlockA_hit ?_; exact hq.get)
      | (with_reducible refine inBlockA_miss rfl ?_; exact hq.get)
      | (with_reducible refine wpA_seq' ?_; exact hq.get)
      | (with_reducible refine wpA_block ?_; exact hq.get)
      | (with_reducible refine wpA_skip ?_; exact hq.get)
      | (with_reducible refine wpA_ret ?_; exact hq.get)
      | (with_reducible refine wpA_exit ?_; exact hq.get)
      | (with_reducible refine wpA_label ?_; exact hq.get)
      | (refine thenA_n ?_; exact hq.get)
      | (refine thenA_r ?_; exact hq.get)
      | (refine thenA_e ?_; exact hq.get)
      | (refine inBlockA_n ?_; exact hq.get)
      | (refine inBlockA_r ?_; exact hq.get)
      | (refine inBlockA_hit ?_; exact hq.get)
      | (refine inBlockA_miss rfl ?_; exact hq.get)
      | (refine wpA_seq' ?_; exact hq.get)
      | (refine wpA_block ?_; exact hq.get)
      | (refine wpA_skip ?_; exact hq.get)
      | (refine wpA_ret ?_; exact hq.get)
      | (refine wpA_exit ?_; exact hq.get)
      | (refine wpA_label ?_; exact hq.get)
      | fail) : p := h ⟨hq⟩
/-- One step of a walk. -/
theorem stR {p q : Prop} (hq : q) (h : Hid q → p := by
    intro hq
    first
      | (refine gateS 0 rfl ?_; first | (refine runS_pure tblOk rfl rfl ⟨_, evl, _, _, _, evl, oblF, ?_⟩; exact hq.get) | (refine runS_pure tblOk rfl rfl ⟨_, evl, _, _, _, evl, oblS, ?_⟩; exact hq.get))
      | (refine gateS 2 rfl ?_; first | (refine runS_app tblOk rfl rfl rfl ⟨_, _, _, _, _, _, _, _, evl, obq, _, evl, _, evl, _, evl, _, evl, obq, obq, obq, _, evl, _, evl, ?_⟩; exact hq.get) | (refine runS_appStr tblOk rfl rfl rfl ⟨_, _, _, _, _, _, evl, obq, _, evl, _, rfl, _, evl, rfl, _, evl, _, evl, obq, obs, _, evl, _, evl, ?_⟩; exact hq.get))
      | (refine gateS 3 rfl ?_; first | (refine runS_mkRow tblOk rfl rfl rfl ⟨_, _, _, evl, obq, _, evl, _, evl, ?_⟩; exact hq.get) | (refine runS_mk tblOk rfl rfl ⟨_, evl, _, _, _, evl, oblF, ?_⟩; exact hq.get))
      | (refine gateS 4 rfl ?_; first | (refine sAlloc tblOk rfl rfl rfl rfl ⟨_, evl, _, evl, _, evl, ?_⟩; exact hq.get))
      | (refine gateS 5 rfl ?_; first | (refine sBox rfl rfl rfl rfl ⟨_, evl, ob1, _, evl, _, evl, ?_⟩; exact hq.get))
      | (refine gateS 6 rfl ?_; first | (refine sStore tblOk rfl rfl rfl ⟨_, _, evl, _, evl, _, evl, _, evl, ob1, _, evl, ?_⟩; exact hq.get))
      | (refine gateAc ?_; refine runA_dep (by decide +kernel) ?_; exact hq.get)
      | (refine gateA 0 rfl ?_; first | (refine runA_any tblOk rfl ⟨_, evl, _, _, _, (fun _ _ => evlA), oblF, ?_⟩; exact hq.get) | (refine runA_any tblOk rfl ⟨_, evl, _, _, _, (fun _ _ => evlA), oblS, ?_⟩; exact hq.get) | (refine runA_first tblOk rfl ⟨_, evl, _, _, _, (fun _ => evlA), oblF, ?_⟩; exact hq.get) | (refine runA_put ?_; exact hq.get))
      | (refine gateA 3 rfl ?_; first | (refine runA_feed (by decide +kernel) ?_; exact hq.get) | (refine runA_mk tblOk rfl ⟨_, evl, _, _, _, (fun _ _ => evlA), oblF, ?_⟩; exact hq.get) | (refine runA_put ?_; exact hq.get))
      | (refine gateA 2 rfl ?_; first | (refine runA_put ?_; exact hq.get))
      | (refine gateA 4 rfl ?_; first | (refine runA_put ?_; exact hq.get))
      | (refine gateA 5 rfl ?_; first | (refine runA_put ?_; exact hq.get))
      | (refine gateA 6 rfl ?_; first | (refine runA_put ?_; exact hq.get))
      | (refine gateAn ?_; refine runA_nil ⟨_, evl, _, evl, by decide +kernel, ?_⟩; exact hq.get)
      | (refine runB_end ?_ ?_ ?_ ?_; (focus (exact rfl)); (focus (first | exact keepT _ _ | exact keepF _ rfl)); (focus (first | exact fun _ => ⟨rfl, _, rfl⟩ | exact fun h => absurd h (by decide))); exact hq.get)
      | (refine runB_endN ?_ ?_ ?_ ?_; (focus (exact rfl)); (focus (first | exact keepT _ _ | exact keepF _ rfl)); (focus (first | exact fun _ => ⟨rfl, _, rfl⟩ | exact fun h => absurd h (by decide))); exact hq.get)
      | (with_reducible refine thenA_n ?_; exact hq.get)
      | (with_reducible refine thenA_r ?_; exact hq.get)
      | (with_reducible refine thenA_e ?_; exact hq.get)
      | (with_reducible refine inBlockA_n ?_; exact hq.get)
      | (with_reducible refine inBlockA_r ?_; exact hq.get)
      | (with_reducible refine inBlockA_hit ?_; exact hq.get)
      | (with_reducible refine inBlockA_miss rfl ?_; exact hq.get)
      | (with_reducible refine wpA_seq' ?_; exact hq.get)
      | (with_reducible refine wpA_block ?_; exact hq.get)
      | (with_reducible refine wpA_skip ?_; exact hq.get)
      | (with_reducible refine wpA_ret ?_; exact hq.get)
      | (with_reducible refine wpA_exit ?_; exact hq.get)
      | (with_reducible refine wpA_label ?_; exact hq.get)
      | (refine thenA_n ?_; exact hq.get)
      | (refine thenA_r ?_; exact hq.get)
      | (refine thenA_e ?_; exact hq.get)
      | (refine inBlockA_n ?_; exact hq.get)
      | (refine inBlockA_r ?_; exact hq.get)
      | (refine inBlockA_hit ?_; exact hq.get)
      | (refine inBlockA_miss rfl ?_; exact hq.get)
      | (refine wpA_seq' ?_; exact hq.get)
      | (refine wpA_block ?_; exact hq.get)
      | (refine wpA_skip ?_; exact hq.get)
      | (refine wpA_ret ?_; exact hq.get)
      | (refine wpA_exit ?_; exact hq.get)
      | (refine wpA_label ?_; exact hq.get)
      | fail) : p := h ⟨hq⟩
/-- One step of a walk. -/
theorem stB {p q : Prop} (hq : q) (h : Hid q → p := by
    intro hq
    first
      | (refine gateS 0 rfl ?_; first | (refine runS_pure tblOk rfl rfl ⟨_, evl, _, _, _, evl, oblF, ?_⟩; exact hq.get) | (refine runS_pure tblOk rfl rfl ⟨_, evl, _, _, _, evl, oblS, ?_⟩; exact hq.get) | (refine runS_bsl tblOk rfl rfl ⟨_, evl, _, _, _, evl, oblF, ?_⟩; exact hq.get))
      | (refine gateS 3 rfl ?_; first | (refine runS_mkBsl tblOk rfl rfl rfl rfl ⟨_, _, _, _, _, evl, _, evl, _, _, _, evl, obq, obq, _, evl, _, evl, ?_⟩; exact hq.get))
      | (refine gateS 2 rfl ?_; first | (refine runS_app tblOk rfl rfl rfl ⟨_, _, _, _, _, _, _, _, evl, obq, _, evl, _, evl, _, evl, _, evl, obq, obq, obq, _, evl, _, evl, ?_⟩; exact hq.get) | (refine runS_appStr tblOk rfl rfl rfl ⟨_, _, _, _, _, _, evl, obq, _, evl, _, rfl, _, evl, rfl, _, evl, _, evl, obq, obs, _, evl, _, evl, ?_⟩; exact hq.get))
      | (refine gateS 3 rfl ?_; first | (refine runS_mkRow tblOk rfl rfl rfl ⟨_, _, _, evl, obq, _, evl, _, evl, ?_⟩; exact hq.get) | (refine runS_mk tblOk rfl rfl ⟨_, evl, _, _, _, evl, oblF, ?_⟩; exact hq.get))
      | (refine gateS 4 rfl ?_; first | (refine sAlloc tblOk rfl rfl rfl rfl ⟨_, evl, _, evl, _, evl, ?_⟩; exact hq.get))
      | (refine gateS 5 rfl ?_; first | (refine sBox rfl rfl rfl rfl ⟨_, evl, ob1, _, evl, _, evl, ?_⟩; exact hq.get))
      | (refine gateS 6 rfl ?_; first | (refine sStore tblOk rfl rfl rfl ⟨_, _, evl, _, evl, _, evl, _, evl, ob1, _, evl, ?_⟩; exact hq.get))
      | (refine gateAc ?_; refine runA_dep (by decide +kernel) ?_; exact hq.get)
      | (refine gateA 0 rfl ?_; first | (refine runA_any tblOk rfl ⟨_, evl, _, _, _, (fun _ _ => evlA), oblF, ?_⟩; exact hq.get) | (refine runA_any tblOk rfl ⟨_, evl, _, _, _, (fun _ _ => evlA), oblS, ?_⟩; exact hq.get) | (refine runA_anyB tblOk rfl ⟨_, evl, _, _, _, (fun _ _ => evlA), oblF, ?_⟩; exact hq.get) | (refine runA_first tblOk rfl ⟨_, evl, _, _, _, (fun _ => evlA), oblF, ?_⟩; exact hq.get) | (refine runA_put ?_; exact hq.get))
      | (refine gateA 3 rfl ?_; first | (refine runA_feed (by decide +kernel) ?_; exact hq.get) | (refine runA_put ?_; exact hq.get))
      | (refine gateA 2 rfl ?_; first | (refine runA_put ?_; exact hq.get))
      | (refine gateA 4 rfl ?_; first | (refine runA_put ?_; exact hq.get))
      | (refine gateA 5 rfl ?_; first | (refine runA_put ?_; exact hq.get))
      | (refine gateA 6 rfl ?_; first | (refine runA_put ?_; exact hq.get))
      | (refine gateAn ?_; refine runA_nil ⟨_, evl, _, evl, by decide +kernel, ?_⟩; exact hq.get)
      | (refine runB_end ?_ ?_ ?_ ?_; (focus (exact rfl)); (focus (first | exact keepT _ _ | exact keepF _ rfl)); (focus (first | exact fun _ => ⟨rfl, _, rfl⟩ | exact fun h => absurd h (by decide))); exact hq.get)
      | (refine runB_endN ?_ ?_ ?_ ?_; (focus (exact rfl)); (focus (first | exact keepT _ _ | exact keepF _ rfl)); (focus (first | exact fun _ => ⟨rfl, _, rfl⟩ | exact fun h => absurd h (by decide))); exact hq.get)
      | (with_reducible refine thenA_n ?_; exact hq.get)
      | (with_reducible refine thenA_r ?_; exact hq.get)
      | (with_reducible refine thenA_e ?_; exact hq.get)
      | (with_reducible refine inBlockA_n ?_; exact hq.get)
      | (with_reducible refine inBlockA_r ?_; exact hq.get)
      | (with_reducible refine inBlockA_hit ?_; exact hq.get)
      | (with_reducible refine inBlockA_miss rfl ?_; exact hq.get)
      | (with_reducible refine wpA_seq' ?_; exact hq.get)
      | (with_reducible refine wpA_block ?_; exact hq.get)
      | (with_reducible refine wpA_skip ?_; exact hq.get)
      | (with_reducible refine wpA_ret ?_; exact hq.get)
      | (with_reducible refine wpA_exit ?_; exact hq.get)
      | (with_reducible refine wpA_label ?_; exact hq.get)
      | (refine thenA_n ?_; exact hq.get)
      | (refine thenA_r ?_; exact hq.get)
      | (refine thenA_e ?_; exact hq.get)
      | (refine inBlockA_n ?_; exact hq.get)
      | (refine inBlockA_r ?_; exact hq.get)
      | (refine inBlockA_hit ?_; exact hq.get)
      | (refine inBlockA_miss rfl ?_; exact hq.get)
      | (refine wpA_seq' ?_; exact hq.get)
      | (refine wpA_block ?_; exact hq.get)
      | (refine wpA_skip ?_; exact hq.get)
      | (refine wpA_ret ?_; exact hq.get)
      | (refine wpA_exit ?_; exact hq.get)
      | (refine wpA_label ?_; exact hq.get)
      | fail) : p := h ⟨hq⟩
/-- Where a walk stops in the middle. -/
structure Stop (q : Prop) : Prop where
  get : q
theorem arm {c : Prop} {P : Program} {f : FuncId} {args : List AV} {x : AV} (hc : Hid c) (h : Hid c → FnA P f args x := by intro hc; first | exact FnA.at_ hc.get rfl rfl | exact FnA.at_ hc.get.1 rfl rfl | exact FnA.at_ hc.get.2.1 rfl rfl | exact FnA.at_ hc.get.2.2.1 rfl rfl | exact FnA.at_ hc.get.2.2.2.1 rfl rfl | exact FnA.at_ hc.get.2.2.2.2.1 rfl rfl | exact FnA.at_ hc.get.2.2.2.2.2.1 rfl rfl | exact FnA.at_ hc.get.2.2.2.2.2.2.1 rfl rfl | exact FnA.at_ hc.get.2.2.2.2.2.2.2.1 rfl rfl | exact FnA.at_ hc.get.2.2.2.2.2.2.2.2.1 rfl rfl | exact FnA.at_ hc.get.2.2.2.2.2.2.2.2.2.1 rfl rfl | exact FnA.at_ hc.get.2.2.2.2.2.2.2.2.2.2.1 rfl rfl | exact FnA.at_ hc.get.2.2.2.2.2.2.2.2.2.2.2.1 rfl rfl | exact FnA.at_ hc.get.2.2.2.2.2.2.2.2.2.2.2.2.1 rfl rfl | exact FnA.at_ hc.get.2.2.2.2.2.2.2.2.2.2.2.2.2.1 rfl rfl | exact FnA.at_ hc.get.2 rfl rfl | exact FnA.at_ hc.get.2.2 rfl rfl | exact FnA.at_ hc.get.2.2.2 rfl rfl | exact FnA.at_ hc.get.2.2.2.2 rfl rfl | exact FnA.at_ hc.get.2.2.2.2.2 rfl rfl | exact FnA.at_ hc.get.2.2.2.2.2.2 rfl rfl | exact FnA.at_ hc.get.2.2.2.2.2.2.2 rfl rfl | exact FnA.at_ hc.get.2.2.2.2.2.2.2.2 rfl rfl | exact FnA.at_ hc.get.2.2.2.2.2.2.2.2.2 rfl rfl | exact FnA.at_ hc.get.2.2.2.2.2.2.2.2.2.2 rfl rfl | exact FnA.at_ hc.get.2.2.2.2.2.2.2.2.2.2.2 rfl rfl | exact FnA.at_ hc.get.2.2.2.2.2.2.2.2.2.2.2.2 rfl rfl | exact FnA.at_ hc.get.2.2.2.2.2.2.2.2.2.2.2.2.2 rfl rfl | exact FnA.at_s hc.get rfl simT | exact FnA.at_s hc.get rfl simF | exact FnA.at_s hc.get.1 rfl simT | exact FnA.at_s hc.get.1 rfl simF | exact FnA.at_s hc.get.2.1 rfl simT | exact FnA.at_s hc.get.2.1 rfl simF | exact FnA.at_s hc.get.2.2.1 rfl simT | exact FnA.at_s hc.get.2.2.1 rfl simF | exact FnA.at_s hc.get.2.2.2.1 rfl simT | exact FnA.at_s hc.get.2.2.2.1 rfl simF | exact FnA.at_s hc.get.2.2.2.2.1 rfl simT | exact FnA.at_s hc.get.2.2.2.2.1 rfl simF | exact FnA.at_s hc.get.2.2.2.2.2.1 rfl simT | exact FnA.at_s hc.get.2.2.2.2.2.1 rfl simF | exact FnA.at_s hc.get.2.2.2.2.2.2.1 rfl simT | exact FnA.at_s hc.get.2.2.2.2.2.2.1 rfl simF | exact FnA.at_s hc.get.2.2.2.2.2.2.2.1 rfl simT | exact FnA.at_s hc.get.2.2.2.2.2.2.2.1 rfl simF | exact FnA.at_s hc.get.2.2.2.2.2.2.2.2.1 rfl simT | exact FnA.at_s hc.get.2.2.2.2.2.2.2.2.1 rfl simF | exact FnA.at_s hc.get.2.2.2.2.2.2.2.2.2.1 rfl simT | exact FnA.at_s hc.get.2.2.2.2.2.2.2.2.2.1 rfl simF | exact FnA.at_s hc.get.2.2.2.2.2.2.2.2.2.2.1 rfl simT | exact FnA.at_s hc.get.2.2.2.2.2.2.2.2.2.2.1 rfl simF | exact FnA.at_s hc.get.2.2.2.2.2.2.2.2.2.2.2.1 rfl simT | exact FnA.at_s hc.get.2.2.2.2.2.2.2.2.2.2.2.1 rfl simF | exact FnA.at_s hc.get.2.2.2.2.2.2.2.2.2.2.2.2.1 rfl simT | exact FnA.at_s hc.get.2.2.2.2.2.2.2.2.2.2.2.2.1 rfl simF | exact FnA.at_s hc.get.2.2.2.2.2.2.2.2.2.2.2.2.2.1 rfl simT | exact FnA.at_s hc.get.2.2.2.2.2.2.2.2.2.2.2.2.2.1 rfl simF | exact FnA.at_s hc.get.2 rfl simT | exact FnA.at_s hc.get.2 rfl simF | exact FnA.at_s hc.get.2.2 rfl simT | exact FnA.at_s hc.get.2.2 rfl simF | exact FnA.at_s hc.get.2.2.2 rfl simT | exact FnA.at_s hc.get.2.2.2 rfl simF | exact FnA.at_s hc.get.2.2.2.2 rfl simT | exact FnA.at_s hc.get.2.2.2.2 rfl simF | exact FnA.at_s hc.get.2.2.2.2.2 rfl simT | exact FnA.at_s hc.get.2.2.2.2.2 rfl simF | exact FnA.at_s hc.get.2.2.2.2.2.2 rfl simT | exact FnA.at_s hc.get.2.2.2.2.2.2 rfl simF | exact FnA.at_s hc.get.2.2.2.2.2.2.2 rfl simT | exact FnA.at_s hc.get.2.2.2.2.2.2.2 rfl simF | exact FnA.at_s hc.get.2.2.2.2.2.2.2.2 rfl simT | exact FnA.at_s hc.get.2.2.2.2.2.2.2.2 rfl simF | exact FnA.at_s hc.get.2.2.2.2.2.2.2.2.2 rfl simT | exact FnA.at_s hc.get.2.2.2.2.2.2.2.2.2 rfl simF | exact FnA.at_s hc.get.2.2.2.2.2.2.2.2.2.2 rfl simT | exact FnA.at_s hc.get.2.2.2.2.2.2.2.2.2.2 rfl simF | exact FnA.at_s hc.get.2.2.2.2.2.2.2.2.2.2.2 rfl simT | exact FnA.at_s hc.get.2.2.2.2.2.2.2.2.2.2.2 rfl simF | exact FnA.at_s hc.get.2.2.2.2.2.2.2.2.2.2.2.2 rfl simT | exact FnA.at_s hc.get.2.2.2.2.2.2.2.2.2.2.2.2 rfl simF | exact FnA.at_s hc.get.2.2.2.2.2.2.2.2.2.2.2.2.2 rfl simT | exact FnA.at_s hc.get.2.2.2.2.2.2.2.2.2.2.2.2.2 rfl simF) : FnA P f args x := h hc
/-- A walk, as far as it goes, with contracts. -/
theorem wkG {c p q : Prop} (hc : c) (hq : q) (h : Hid q → Hid c → p := by
    intro hq hc
    first
      | (refine runS_nil (hK _ ?_); clear hK K)
      | refine stG ?_
      | (refine gateS 1 rfl ?_; refine runS_call rfl rfl ⟨_, evl, _, _, _, evl, oblF, ?_⟩; apply Exists.intro; refine ⟨fun hg => ?_, ?_⟩; · exact arm hc)
      | (refine gateA 1 rfl ?_; refine runA_call rfl ⟨_, evl, _, _, _, (fun _ _ => evlA), oblF, ?_⟩; apply Exists.intro; refine ⟨fun hg => ?_, ?_⟩; · exact arm hc)
      | (refine gateA 1 rfl ?_; refine runA_put ?_)
      | (refine gateBc ?_; first | (refine runB_nil (hK _ ?_); clear hK K) | (refine runB_op rfl ⟨_, evl, fun nb' => ?_⟩))
      | refine wpA_region (fun K hK => ?_)
      | (refine gateD ?_; first | (refine wpA_drawG false rfl (by kernel_rfl) (by kernel_rfl) (fun K hK => ?_)) | (refine wpA_drawG true rfl (by kernel_rfl) (by kernel_rfl) (fun K hK => ?_)))
      | fail
    repeat first
      | (refine runS_nil (hK _ ?_); clear hK K)
      | refine stG ?_
      | (refine gateS 1 rfl ?_; refine runS_call rfl rfl ⟨_, evl, _, _, _, evl, oblF, ?_⟩; apply Exists.intro; refine ⟨fun hg => ?_, ?_⟩; · exact arm hc)
      | (refine gateA 1 rfl ?_; refine runA_call rfl ⟨_, evl, _, _, _, (fun _ _ => evlA), oblF, ?_⟩; apply Exists.intro; refine ⟨fun hg => ?_, ?_⟩; · exact arm hc)
      | (refine gateA 1 rfl ?_; refine runA_put ?_)
      | (refine gateBc ?_; first | (refine runB_nil (hK _ ?_); clear hK K) | (refine runB_op rfl ⟨_, evl, fun nb' => ?_⟩))
      | refine wpA_region (fun K hK => ?_)
      | (refine gateD ?_; first | (refine wpA_drawG false rfl (by kernel_rfl) (by kernel_rfl) (fun K hK => ?_)) | (refine wpA_drawG true rfl (by kernel_rfl) (by kernel_rfl) (fun K hK => ?_)))
    first | exact hq.get | (revert hK; revert K; exact Stop.get hq.get)) : p := h ⟨hq⟩ ⟨hc⟩
/-- A walk, as far as it goes, with contracts. -/
theorem wkR {c p q : Prop} (hc : c) (hq : q) (h : Hid q → Hid c → p := by
    intro hq hc
    first
      | (refine runS_nil (hK _ ?_); clear hK K)
      | refine stR ?_
      | (refine gateS 1 rfl ?_; first | (refine runS_call rfl rfl ⟨_, evl, _, _, _, evl, oblF, ?_⟩; apply Exists.intro; refine ⟨fun hg => ?_, ?_⟩; · exact arm hc) | (refine runS_callR rfl rfl ⟨_, evl, _, _, _, evl, _, _, evl, oblF, ?_⟩; apply Exists.intro; refine ⟨fun hg => ?_, ?_⟩; · exact arm hc))
      | (refine gateA 1 rfl ?_; refine runA_call rfl ⟨_, evl, _, _, _, (fun _ _ => evlA), oblF, ?_⟩; apply Exists.intro; refine ⟨fun hg => ?_, ?_⟩; · exact arm hc)
      | (refine gateA 1 rfl ?_; refine runA_put ?_)
      | (refine gateBc ?_; first | (refine runB_nil (hK _ ?_); clear hK K) | (refine runB_op rfl ⟨_, evl, fun nb' => ?_⟩))
      | refine wpA_region (fun K hK => ?_)
      | (refine gateD ?_; first | (refine wpA_drawG false rfl (by kernel_rfl) (by kernel_rfl) (fun K hK => ?_)) | (refine wpA_drawG true rfl (by kernel_rfl) (by kernel_rfl) (fun K hK => ?_)))
      | fail
    repeat first
      | (refine runS_nil (hK _ ?_); clear hK K)
      | refine stR ?_
      | (refine gateS 1 rfl ?_; first | (refine runS_call rfl rfl ⟨_, evl, _, _, _, evl, oblF, ?_⟩; apply Exists.intro; refine ⟨fun hg => ?_, ?_⟩; · exact arm hc) | (refine runS_callR rfl rfl ⟨_, evl, _, _, _, evl, _, _, evl, oblF, ?_⟩; apply Exists.intro; refine ⟨fun hg => ?_, ?_⟩; · exact arm hc))
      | (refine gateA 1 rfl ?_; refine runA_call rfl ⟨_, evl, _, _, _, (fun _ _ => evlA), oblF, ?_⟩; apply Exists.intro; refine ⟨fun hg => ?_, ?_⟩; · exact arm hc)
      | (refine gateA 1 rfl ?_; refine runA_put ?_)
      | (refine gateBc ?_; first | (refine runB_nil (hK _ ?_); clear hK K) | (refine runB_op rfl ⟨_, evl, fun nb' => ?_⟩))
      | refine wpA_region (fun K hK => ?_)
      | (refine gateD ?_; first | (refine wpA_drawG false rfl (by kernel_rfl) (by kernel_rfl) (fun K hK => ?_)) | (refine wpA_drawG true rfl (by kernel_rfl) (by kernel_rfl) (fun K hK => ?_)))
    first | exact hq.get | (revert hK; revert K; exact Stop.get hq.get)) : p := h ⟨hq⟩ ⟨hc⟩
/-- A walk, as far as it goes, with contracts. -/
theorem wkB {c p q : Prop} (hc : c) (hq : q) (h : Hid q → Hid c → p := by
    intro hq hc
    first
      | (refine runS_nil (hK _ ?_); clear hK K)
      | refine stB ?_
      | (refine gateS 2 rfl ?_; refine runS_appBsl tblOk rfl rfl rfl ⟨_, _, _, _, _, _, _, evl, obq, _, _, _, _, _, evl, _, evl, obq, obq, obs, _, evl, fun c hc1 hc2 => ⟨_, evl, ?_⟩⟩)
      | (refine gateS 1 rfl ?_; first | (refine runS_call rfl rfl ⟨_, evl, _, _, _, evl, oblF, ?_⟩; apply Exists.intro; refine ⟨fun hg => ?_, ?_⟩; · exact arm hc) | (refine runS_callR rfl rfl ⟨_, evl, _, _, _, evl, _, _, evl, oblF, ?_⟩; apply Exists.intro; refine ⟨fun hg => ?_, ?_⟩; · exact arm hc))
      | (refine gateA 1 rfl ?_; refine runA_call rfl ⟨_, evl, _, _, _, (fun _ _ => evlA), oblF, ?_⟩; apply Exists.intro; refine ⟨fun hg => ?_, ?_⟩; · exact arm hc)
      | (refine gateA 1 rfl ?_; refine runA_put ?_)
      | (refine gateBc ?_; first | (refine runB_nil (hK _ ?_); clear hK K) | (refine runB_op rfl ⟨_, evl, fun nb' => ?_⟩))
      | refine wpA_region (fun K hK => ?_)
      | (refine gateD ?_; first | (refine wpA_drawG false rfl (by kernel_rfl) (by kernel_rfl) (fun K hK => ?_)) | (refine wpA_drawG true rfl (by kernel_rfl) (by kernel_rfl) (fun K hK => ?_)))
      | fail
    repeat first
      | (refine runS_nil (hK _ ?_); clear hK K)
      | refine stB ?_
      | (refine gateS 2 rfl ?_; refine runS_appBsl tblOk rfl rfl rfl ⟨_, _, _, _, _, _, _, evl, obq, _, _, _, _, _, evl, _, evl, obq, obq, obs, _, evl, fun c hc1 hc2 => ⟨_, evl, ?_⟩⟩)
      | (refine gateS 1 rfl ?_; first | (refine runS_call rfl rfl ⟨_, evl, _, _, _, evl, oblF, ?_⟩; apply Exists.intro; refine ⟨fun hg => ?_, ?_⟩; · exact arm hc) | (refine runS_callR rfl rfl ⟨_, evl, _, _, _, evl, _, _, evl, oblF, ?_⟩; apply Exists.intro; refine ⟨fun hg => ?_, ?_⟩; · exact arm hc))
      | (refine gateA 1 rfl ?_; refine runA_call rfl ⟨_, evl, _, _, _, (fun _ _ => evlA), oblF, ?_⟩; apply Exists.intro; refine ⟨fun hg => ?_, ?_⟩; · exact arm hc)
      | (refine gateA 1 rfl ?_; refine runA_put ?_)
      | (refine gateBc ?_; first | (refine runB_nil (hK _ ?_); clear hK K) | (refine runB_op rfl ⟨_, evl, fun nb' => ?_⟩))
      | refine wpA_region (fun K hK => ?_)
      | (refine gateD ?_; first | (refine wpA_drawG false rfl (by kernel_rfl) (by kernel_rfl) (fun K hK => ?_)) | (refine wpA_drawG true rfl (by kernel_rfl) (by kernel_rfl) (fun K hK => ?_)))
    first | exact hq.get | (revert hK; revert K; exact Stop.get hq.get)) : p := h ⟨hq⟩ ⟨hc⟩
/-- A condition, with what is known in its branches. -/
theorem cb {a p : Prop} (h : a → p := by intro hb; first | (simp only [Bool.or_eq_true, Bool.and_eq_true, Bool.or_eq_false_iff, Bool.and_eq_false_iff, Bool.not_eq_true', Bool.not_eq_false', Bool.not_eq_true, Bool.not_eq_false, decide_eq_true_eq, decide_eq_false_iff_not, Bool.true_eq_false, Bool.false_eq_true, ne_eq, Classical.not_not, Int.not_lt, Int.not_le, Bool.not_true, Bool.not_false] at hb; exact hb) | exact hb) : a → p := h
theorem cndS {P : Program} {st : ASt} {x y : Code} {c : Operand} {Q : Exit → ASt → Prop} {p q : Prop} (h : ∃ b : Bool, st.ev c = some (true, .raw (.bool b)) ∧ ((b = true → p) ∧ (b = false → q)) ∧ (p → wpA P x Q st) ∧ (q → wpA P y Q st)) : wpA P (.cond c x y) Q st := by obtain ⟨b, hc, ⟨hp, hq⟩, hx, hy⟩ := h; exact wpA_cond' ⟨b, hc, fun h => hx (hp h), fun h => hy (hq h)⟩
/-- What was known is known no more, or said otherwise. -/
theorem wkn {nt nb : Nat} {sl sl' : List (Nat × (Bool × AV))} {bx bx' : List (List AV)} {rw rw' : List ARow} {ys : (Nat × List (List AV)) × List (List AV) × Bool} (h1 : SlSim bx rw sl' sl) (h2 : BxSim bx rw bx' bx) (h3 : RwSim bx rw rw' rw) (h4 : nb % 64 ≤ bx'.length ∧ nb / 64 ≤ rw'.length := by simp) (h5 : subSl bx'.length rw'.length sl' ∧ subB bx'.length rw'.length bx' ∧ subR bx'.length rw'.length rw' := by first | (simp [subSl, subB, subR, AV.sub, AV.subL, go_sem]; done) | (simp [subSl, subB, subR, AV.sub, AV.subL, go_sem, AV.subL_free, AV.sub_free, *]; done) | (simp_all [subSl, subB, subR, AV.sub, AV.subL, go_sem]; done)) : Weak ⟨nt, nb, sl, bx, rw, ys⟩ ⟨nt, nb, sl', bx', rw', ys⟩ := Weak.gen h1 h2 h3 h4 h5
theorem wkS {p q : Prop} (hq : q) (h : Hid q → p := by intro hq; (simp only [SlSim, BxSim, RwSim, SimsL, lookN_cons, ↓reduceIte, Nat.reduceEqDiff, Option.some.injEq, Prod.mk.injEq, true_and, and_true, exists_eq_left', and_self]); exact hq.get) : p := h ⟨hq⟩
theorem wk0 {p : Prop} (h : p := by first | (simp only [SlSim, BxSim, RwSim, SimsL, lookN_cons, ↓reduceIte, Nat.reduceEqDiff, Option.some.injEq, Prod.mk.injEq, true_and, and_true, exists_eq_left', and_self]; done) | fail) : p := h
theorem fre {p : Prop} (h : p := by first | (simp [AV.free, AV.freeL, go_sem]; done) | exact lA_free (fun _ => by simp [AV.free, AV.freeL, u8C, iC]) _ | (simp_all [AV.free, AV.freeL, sA, u8C, iC]; done) | fail) : p := h
theorem wkL {p : Prop} (h : p := by first | exact simsT | (intro _ _; exact simsT) | omega | (simp; done) | (simp; omega) | (intro _ _; refine SimsL.of_eq (els_snoc ?_ (by assumption) rfl) <;> first | rfl | omega | (simp; done) | (simp; omega)) | fail) : p := h
end Go.Proofs.YtihnjbnlbedpaaaGreatDoor
