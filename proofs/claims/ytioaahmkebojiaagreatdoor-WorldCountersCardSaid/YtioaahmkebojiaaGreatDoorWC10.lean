import Derived.Test.YtioaahmkebojiaaGreatDoorWC01
import Derived.Scope
import Derived.Test.YtioaahmkebojiaaGreatDoorWC07
import Derived.Test.YtioaahmkebojiaaGreatDoorWC09
namespace Go.Proofs.YtioaahmkebojiaaGreatDoor
set_option linter.unusedVariables false
set_option linter.unusedSimpArgs false
set_option maxHeartbeats 4000000
set_option maxRecDepth 100000
open Go.RowKit
def zVq (full : List Oper) (o : Oper) : Bool := match o.dst with
  | some d => full.any fun p => match p.op with
    | .call c => match c.callee with
      | .builtin .append => match c.args.toList with
        | Operand.tmp t :: _ => Nat.beq t d
        | _ => false
      | _ => false
    | _ => false
  | none => false
theorem zE8 {P : Program} {full : List Oper} {all : Bool} {m : Nat} {ia : List (Nat × AK)} {es : List AEn} {ib : List Nat} {r : List Oper} {k : ASt → Prop} {nt nb : Nat} {sl sl0 : List (Nat × (Bool × AV))} {bx : List (List AV)} {rw : List zV} {ys : (Nat × List (List AV)) × List (List AV) × Bool} {o : Oper} (_ : zVq full o = true) (h : zB7 P full all (m + 1) ia es (ib ++ [m]) r k sl0 ⟨nt, nb, sl, bx, rw, ys⟩) : zB7 P full all m ia es ib (o :: r) k sl0 ⟨nt, nb, sl, bx, rw, ys⟩ := zE h
@[go_sem] def offX : Op → AV
  | .binOp _ _ _ _ _ => .raw (.bool false)
  | .unOp _ _ _ => .raw (.bool false)
  | _ => .raw undef
theorem zCn {P : Program} {ops : Array Oper} {o : Oper} {st : ASt} {x : AV} (hg : y9 ops st o = some false) : vU P ops o st false x := fun _ _ _ _ _ hs => ⟨y3 hg hs, fun h => by cases h⟩
section offs
variable {P : Program} {ops : Array Oper} {r : List Oper} {k : ASt → Prop} {nt nb : Nat} {sl sl0 : List (Nat × (Bool × AV))} {bx : List (List AV)} {rw : List zV} {ys : (Nat × List (List AV)) × List (List AV) × Bool} {o : Oper} {d : Nat} {full : List Oper} {all : Bool} {m : Nat} {ia : List (Nat × AK)} {es : List AEn} {ib : List Nat}
theorem zHb (hd : o.dst = some d) (hn : Nat.blt d nt = true) (h : y9 ops ⟨nt, nb, sl, bx, rw, ys⟩ o = some false ∧ ∃ x, offX o.op = x ∧ yZ P ops r k ⟨nt, nb, (d, (false, x)) :: sl, bx, rw, ys⟩) : yZ P ops (o :: r) k ⟨nt, nb, sl, bx, rw, ys⟩ :=
  let ⟨hg, _, _, h⟩ := h
  qI hd (zCn hg) hn h
theorem zHd (hd : o.dst = some d) (h : y9 full.toArray ⟨nt, nb, sl, bx, rw, ys⟩ o = some false ∧ ∃ x, offX o.op = x ∧ zB7 P full all (m + 1) (ia ++ [(m, .any)]) (es ++ [(m, .any, (d, (false, x)))]) ib r k sl0 ⟨nt, nb, (d, (false, x)) :: sl, bx, rw, ys⟩) : zB7 P full all m ia es ib (o :: r) k sl0 ⟨nt, nb, sl, bx, rw, ys⟩ :=
  let ⟨hg, x, _, h⟩ := h
  kE (kd := .any) (g := false) (x := x) hd (fun ext rw' => zCn (st := ⟨nt, nb, sl, zNi all bx ext, rw', ys⟩) hg) h
end offs
section scopes
variable {P : Program} {b : Frame} {a : Act} {k : List Item} {cs : List Frame} {w : World}
end scopes
theorem wW {p : Prop} (h : p := by
    first
      | exact oblF
      | (intro hg
         (try simp only [yOd, yOe, yOf, yOg, yOj, yMv])
         ((repeat' first | trivial | assumption | refine And.intro ?_ ?_) <;> fail))
      | fail) : p := h
structure Hid (q : Prop) : Prop where
  get : q
theorem stG {p q : Prop} (hq : q) (h : Hid q → p := by
    intro hq
    first
      | (refine yO 0 rfl ?_; first | (refine vR zW rfl rfl ⟨_, evl, _, _, _, evl, wW, ?_⟩; exact hq.get) | (refine vR zW rfl rfl ⟨_, evl, _, _, _, evl, zZs, ?_⟩; exact hq.get) | (refine zHb rfl rfl ⟨evl, _, evl, ?_⟩; exact hq.get))
      | (refine yO 2 rfl ?_; first | (refine zAp zW rfl rfl ⟨_,evl,_,_,_,evl,wW,?_⟩; exact hq.get) | (refine zHc zW rfl rfl rfl ⟨_,_,_,_,_,_,_,_,evl,obq,_,evl,_,evl,_,evl,_,evl,obq,obq,obq,_,evl,_,evl,?_⟩; exact hq.get) | (refine zAo zW rfl rfl rfl ⟨_,_,_,_,_,_,evl,obq,_,evl,_,rfl,_,evl,rfl,_,evl,_,evl,obq,obs,_,evl,_,evl,?_⟩; exact hq.get))
      | (refine yO 3 rfl ?_; first | (refine zL7 zW rfl rfl ⟨_, evl, _, _, _, evl, wW, ?_⟩; exact hq.get))
      | (refine yO 4 rfl ?_; first | (refine zIv zW rfl rfl rfl rfl ⟨_, evl, _, evl, _, evl, ?_⟩; exact hq.get))
      | (refine yO 5 rfl ?_; first | (refine yKv rfl rfl rfl rfl ⟨_, evl, ob1, _, evl, _, evl, ?_⟩; exact hq.get))
      | (refine yO 6 rfl ?_; first | (refine zD1 zW rfl rfl rfl ⟨_, _, evl, _, evl, _, evl, _, evl, ob1, _, evl, ?_⟩; exact hq.get))
      | (refine zSp ?_; refine zHf (by decide +kernel) ?_; exact hq.get)
      | (refine z5 0 rfl ?_; first | (refine zA4 zW rfl ⟨_, evl, _, _, _, (fun _ _ => zBl), wW, ?_⟩; exact hq.get) | (refine zA4 zW rfl ⟨_, evl, _, _, _, (fun _ _ => zBl), zZs, ?_⟩; exact hq.get) | (refine zCh zW rfl ⟨_, evl, _, _, _, (fun _ => zBl), wW, ?_⟩; exact hq.get) | (refine zHd rfl ⟨evl, _, evl, ?_⟩; exact hq.get) | (refine zE ?_; exact hq.get))
      | (refine z5 3 rfl ?_; first | (refine zE8 (by decide +kernel) ?_; exact hq.get) | (refine zR0 zW rfl ⟨_, evl, _, _, _, (fun _ _ => zBl), wW, ?_⟩; exact hq.get) | (refine zE ?_; exact hq.get))
      | (refine z5 2 rfl ?_; first | (refine zE ?_; exact hq.get))
      | (refine z5 4 rfl ?_; first | (refine zE ?_; exact hq.get))
      | (refine z5 5 rfl ?_; first | (refine zE ?_; exact hq.get))
      | (refine z5 6 rfl ?_; first | (refine zE ?_; exact hq.get))
      | (refine zSo ?_; refine zHe ⟨_, evl, _, evl, by decide +kernel, ?_⟩; exact hq.get)
      | (refine zBc ?_ ?_ ?_ ?_; (focus (exact rfl)); (focus (first | exact zFv _ _ | exact jL _ rfl)); (focus (first | exact fun _ => ⟨rfl, _, rfl⟩ | exact fun h => absurd h dq)); exact hq.get)
      | (refine jP ?_ ?_ ?_ ?_; (focus (exact rfl)); (focus (first | exact zFv _ _ | exact jL _ rfl)); (focus (first | exact fun _ => ⟨rfl, _, rfl⟩ | exact fun h => absurd h dq)); exact hq.get)
      | (with_reducible refine zCb ?_; exact hq.get)
      | (with_reducible refine zCa ?_; exact hq.get)
      | (with_reducible refine zCc ?_; exact hq.get)
      | (with_reducible refine qG ?_; exact hq.get)
      | (with_reducible refine qF ?_; exact hq.get)
      | (with_reducible refine wP ?_; exact hq.get)
      | (with_reducible refine xR rfl ?_; exact hq.get)
      | (with_reducible refine j9 ?_; exact hq.get)
      | (with_reducible refine kD ?_; exact hq.get)
      | (with_reducible refine j8 ?_; exact hq.get)
      | (with_reducible refine zC5 ?_; exact hq.get)
      | (with_reducible refine zA1 ?_; exact hq.get)
      | (with_reducible refine kB ?_; exact hq.get)
      | (refine zCb ?_; exact hq.get)
      | (refine zCa ?_; exact hq.get)
      | (refine zCc ?_; exact hq.get)
      | (refine qG ?_; exact hq.get)
      | (refine qF ?_; exact hq.get)
      | (refine wP ?_; exact hq.get)
      | (refine xR rfl ?_; exact hq.get)
      | (refine j9 ?_; exact hq.get)
      | (refine kD ?_; exact hq.get)
      | (refine j8 ?_; exact hq.get)
      | (refine zC5 ?_; exact hq.get)
      | (refine zA1 ?_; exact hq.get)
      | (refine kB ?_; exact hq.get)
      | fail) : p := h ⟨hq⟩
theorem stR {p q : Prop} (hq : q) (h : Hid q → p := by
    intro hq
    first
      | (refine yO 0 rfl ?_; first | (refine vR zW rfl rfl ⟨_, evl, _, _, _, evl, wW, ?_⟩; exact hq.get) | (refine vR zW rfl rfl ⟨_, evl, _, _, _, evl, zZs, ?_⟩; exact hq.get) | (refine zHb rfl rfl ⟨evl, _, evl, ?_⟩; exact hq.get))
      | (refine yO 2 rfl ?_; first | (refine zAp zW rfl rfl ⟨_,evl,_,_,_,evl,wW,?_⟩; exact hq.get) | (refine zHc zW rfl rfl rfl ⟨_,_,_,_,_,_,_,_,evl,obq,_,evl,_,evl,_,evl,_,evl,obq,obq,obq,_,evl,_,evl,?_⟩; exact hq.get) | (refine zAo zW rfl rfl rfl ⟨_,_,_,_,_,_,evl,obq,_,evl,_,rfl,_,evl,rfl,_,evl,_,evl,obq,obs,_,evl,_,evl,?_⟩; exact hq.get))
      | (refine yO 3 rfl ?_; first | (refine zGe zW rfl rfl rfl ⟨_, _, _, evl, obq, _, evl, _, evl, ?_⟩; exact hq.get) | (refine zL7 zW rfl rfl ⟨_, evl, _, _, _, evl, wW, ?_⟩; exact hq.get))
      | (refine yO 4 rfl ?_; first | (refine zIv zW rfl rfl rfl rfl ⟨_, evl, _, evl, _, evl, ?_⟩; exact hq.get))
      | (refine yO 5 rfl ?_; first | (refine yKv rfl rfl rfl rfl ⟨_, evl, ob1, _, evl, _, evl, ?_⟩; exact hq.get))
      | (refine yO 6 rfl ?_; first | (refine zD1 zW rfl rfl rfl ⟨_, _, evl, _, evl, _, evl, _, evl, ob1, _, evl, ?_⟩; exact hq.get))
      | (refine zSp ?_; refine zHf (by decide +kernel) ?_; exact hq.get)
      | (refine z5 0 rfl ?_; first | (refine zA4 zW rfl ⟨_, evl, _, _, _, (fun _ _ => zBl), wW, ?_⟩; exact hq.get) | (refine zA4 zW rfl ⟨_, evl, _, _, _, (fun _ _ => zBl), zZs, ?_⟩; exact hq.get) | (refine zCh zW rfl ⟨_, evl, _, _, _, (fun _ => zBl), wW, ?_⟩; exact hq.get) | (refine zHd rfl ⟨evl, _, evl, ?_⟩; exact hq.get) | (refine zE ?_; exact hq.get))
      | (refine z5 3 rfl ?_; first | (refine zE8 (by decide +kernel) ?_; exact hq.get) | (refine zR0 zW rfl ⟨_, evl, _, _, _, (fun _ _ => zBl), wW, ?_⟩; exact hq.get) | (refine zE ?_; exact hq.get))
      | (refine z5 2 rfl ?_; first | (refine zE ?_; exact hq.get))
      | (refine z5 4 rfl ?_; first | (refine zE ?_; exact hq.get))
      | (refine z5 5 rfl ?_; first | (refine zE ?_; exact hq.get))
      | (refine z5 6 rfl ?_; first | (refine zE ?_; exact hq.get))
      | (refine zSo ?_; refine zHe ⟨_, evl, _, evl, by decide +kernel, ?_⟩; exact hq.get)
      | (refine zBc ?_ ?_ ?_ ?_; (focus (exact rfl)); (focus (first | exact zFv _ _ | exact jL _ rfl)); (focus (first | exact fun _ => ⟨rfl, _, rfl⟩ | exact fun h => absurd h dq)); exact hq.get)
      | (refine jP ?_ ?_ ?_ ?_; (focus (exact rfl)); (focus (first | exact zFv _ _ | exact jL _ rfl)); (focus (first | exact fun _ => ⟨rfl, _, rfl⟩ | exact fun h => absurd h dq)); exact hq.get)
      | (with_reducible refine zCb ?_; exact hq.get)
      | (with_reducible refine zCa ?_; exact hq.get)
      | (with_reducible refine zCc ?_; exact hq.get)
      | (with_reducible refine qG ?_; exact hq.get)
      | (with_reducible refine qF ?_; exact hq.get)
      | (with_reducible refine wP ?_; exact hq.get)
      | (with_reducible refine xR rfl ?_; exact hq.get)
      | (with_reducible refine j9 ?_; exact hq.get)
      | (with_reducible refine kD ?_; exact hq.get)
      | (with_reducible refine j8 ?_; exact hq.get)
      | (with_reducible refine zC5 ?_; exact hq.get)
      | (with_reducible refine zA1 ?_; exact hq.get)
      | (with_reducible refine kB ?_; exact hq.get)
      | (refine zCb ?_; exact hq.get)
      | (refine zCa ?_; exact hq.get)
      | (refine zCc ?_; exact hq.get)
      | (refine qG ?_; exact hq.get)
      | (refine qF ?_; exact hq.get)
      | (refine wP ?_; exact hq.get)
      | (refine xR rfl ?_; exact hq.get)
      | (refine j9 ?_; exact hq.get)
      | (refine kD ?_; exact hq.get)
      | (refine j8 ?_; exact hq.get)
      | (refine zC5 ?_; exact hq.get)
      | (refine zA1 ?_; exact hq.get)
      | (refine kB ?_; exact hq.get)
      | fail) : p := h ⟨hq⟩
theorem stB {p q : Prop} (hq : q) (h : Hid q → p := by
    intro hq
    first
      | (refine yO 0 rfl ?_; first | (refine vR zW rfl rfl ⟨_, evl, _, _, _, evl, wW, ?_⟩; exact hq.get) | (refine vR zW rfl rfl ⟨_, evl, _, _, _, evl, zZs, ?_⟩; exact hq.get) | (refine zUn zW rfl rfl ⟨_, evl, _, _, _, evl, wW, ?_⟩; exact hq.get) | (refine zHb rfl rfl ⟨evl, _, evl, ?_⟩; exact hq.get))
      | (refine yO 3 rfl ?_; first | (refine zP1 zW rfl rfl rfl rfl ⟨_, _, _, _, _, evl, _, evl, _, _, _, evl, obq, obq, _, evl, _, evl, ?_⟩; exact hq.get))
      | (refine yO 2 rfl ?_; first | (refine zAp zW rfl rfl ⟨_,evl,_,_,_,evl,wW,?_⟩; exact hq.get) | (refine zHc zW rfl rfl rfl ⟨_,_,_,_,_,_,_,_,evl,obq,_,evl,_,evl,_,evl,_,evl,obq,obq,obq,_,evl,_,evl,?_⟩; exact hq.get) | (refine zAo zW rfl rfl rfl ⟨_,_,_,_,_,_,evl,obq,_,evl,_,rfl,_,evl,rfl,_,evl,_,evl,obq,obs,_,evl,_,evl,?_⟩; exact hq.get))
      | (refine yO 3 rfl ?_; first | (refine zGe zW rfl rfl rfl ⟨_, _, _, evl, obq, _, evl, _, evl, ?_⟩; exact hq.get) | (refine zL7 zW rfl rfl ⟨_, evl, _, _, _, evl, wW, ?_⟩; exact hq.get))
      | (refine yO 4 rfl ?_; first | (refine zIv zW rfl rfl rfl rfl ⟨_, evl, _, evl, _, evl, ?_⟩; exact hq.get))
      | (refine yO 5 rfl ?_; first | (refine yKv rfl rfl rfl rfl ⟨_, evl, ob1, _, evl, _, evl, ?_⟩; exact hq.get))
      | (refine yO 6 rfl ?_; first | (refine zD1 zW rfl rfl rfl ⟨_, _, evl, _, evl, _, evl, _, evl, ob1, _, evl, ?_⟩; exact hq.get))
      | (refine zSp ?_; refine zHf (by decide +kernel) ?_; exact hq.get)
      | (refine z5 0 rfl ?_; first | (refine zA4 zW rfl ⟨_,evl,_,_,_,(fun _ _ => zBl),wW,?_⟩; exact hq.get) | (refine zA4 zW rfl ⟨_,evl,_,_,_,(fun _ _ => zBl),zZs,?_⟩; exact hq.get) | (refine zR1 zW rfl ⟨_,evl,_,_,_,(fun _ _ => zBl),wW,?_⟩; exact hq.get) | (refine zCh zW rfl ⟨_,evl,_,_,_,(fun _ => zBl),wW,?_⟩; exact hq.get) | (refine zHd rfl ⟨evl,_,evl,?_⟩; exact hq.get) | (refine zE ?_; exact hq.get))
      | (refine z5 3 rfl ?_; first | (refine zE8 (by decide +kernel) ?_; exact hq.get) | (refine zE ?_; exact hq.get))
      | (refine z5 2 rfl ?_; first | (refine zE ?_; exact hq.get))
      | (refine z5 4 rfl ?_; first | (refine zE ?_; exact hq.get))
      | (refine z5 5 rfl ?_; first | (refine zE ?_; exact hq.get))
      | (refine z5 6 rfl ?_; first | (refine zE ?_; exact hq.get))
      | (refine zSo ?_; refine zHe ⟨_, evl, _, evl, by decide +kernel, ?_⟩; exact hq.get)
      | (refine zBc ?_ ?_ ?_ ?_; (focus (exact rfl)); (focus (first | exact zFv _ _ | exact jL _ rfl)); (focus (first | exact fun _ => ⟨rfl, _, rfl⟩ | exact fun h => absurd h dq)); exact hq.get)
      | (refine jP ?_ ?_ ?_ ?_; (focus (exact rfl)); (focus (first | exact zFv _ _ | exact jL _ rfl)); (focus (first | exact fun _ => ⟨rfl, _, rfl⟩ | exact fun h => absurd h dq)); exact hq.get)
      | (with_reducible refine zCb ?_; exact hq.get)
      | (with_reducible refine zCa ?_; exact hq.get)
      | (with_reducible refine zCc ?_; exact hq.get)
      | (with_reducible refine qG ?_; exact hq.get)
      | (with_reducible refine qF ?_; exact hq.get)
      | (with_reducible refine wP ?_; exact hq.get)
      | (with_reducible refine xR rfl ?_; exact hq.get)
      | (with_reducible refine j9 ?_; exact hq.get)
      | (with_reducible refine kD ?_; exact hq.get)
      | (with_reducible refine j8 ?_; exact hq.get)
      | (with_reducible refine zC5 ?_; exact hq.get)
      | (with_reducible refine zA1 ?_; exact hq.get)
      | (with_reducible refine kB ?_; exact hq.get)
      | (refine zCb ?_; exact hq.get)
      | (refine zCa ?_; exact hq.get)
      | (refine zCc ?_; exact hq.get)
      | (refine qG ?_; exact hq.get)
      | (refine qF ?_; exact hq.get)
      | (refine wP ?_; exact hq.get)
      | (refine xR rfl ?_; exact hq.get)
      | (refine j9 ?_; exact hq.get)
      | (refine kD ?_; exact hq.get)
      | (refine j8 ?_; exact hq.get)
      | (refine zC5 ?_; exact hq.get)
      | (refine zA1 ?_; exact hq.get)
      | (refine kB ?_; exact hq.get)
      | fail) : p := h ⟨hq⟩
structure Stop (q : Prop) : Prop where
  get : q
theorem sM {q : Prop} (h : q) : Stop q := ⟨h⟩
theorem sG {q : Prop} (h : Stop q) : q := h.get
theorem arm {c : Prop} {P : Program} {f : FuncId} {args : List AV} {x : AV} (hc : Hid c) (h : Hid c → FnA P f args x := by intro hc; first | exact FnA.at_ (hc.get ..) rfl rfl | exact FnA.at_ (hc.get.1 ..) rfl rfl | exact FnA.at_ (hc.get.2.1 ..) rfl rfl | exact FnA.at_ (hc.get.2.2.1 ..) rfl rfl | exact FnA.at_ (hc.get.2.2.2.1 ..) rfl rfl | exact FnA.at_ (hc.get.2.2.2.2.1 ..) rfl rfl | exact FnA.at_ (hc.get.2.2.2.2.2.1 ..) rfl rfl | exact FnA.at_ (hc.get.2.2.2.2.2.2.1 ..) rfl rfl | exact FnA.at_ (hc.get.2.2.2.2.2.2.2.1 ..) rfl rfl | exact FnA.at_ (hc.get.2.2.2.2.2.2.2.2.1 ..) rfl rfl | exact FnA.at_ (hc.get.2.2.2.2.2.2.2.2.2.1 ..) rfl rfl | exact FnA.at_ (hc.get.2.2.2.2.2.2.2.2.2.2.1 ..) rfl rfl | exact FnA.at_ (hc.get.2.2.2.2.2.2.2.2.2.2.2.1 ..) rfl rfl | exact FnA.at_ (hc.get.2.2.2.2.2.2.2.2.2.2.2.2.1 ..) rfl rfl | exact FnA.at_ (hc.get.2.2.2.2.2.2.2.2.2.2.2.2.2.1 ..) rfl rfl | exact FnA.at_ (hc.get.2 ..) rfl rfl | exact FnA.at_ (hc.get.2.2 ..) rfl rfl | exact FnA.at_ (hc.get.2.2.2 ..) rfl rfl | exact FnA.at_ (hc.get.2.2.2.2 ..) rfl rfl | exact FnA.at_ (hc.get.2.2.2.2.2 ..) rfl rfl | exact FnA.at_ (hc.get.2.2.2.2.2.2 ..) rfl rfl | exact FnA.at_ (hc.get.2.2.2.2.2.2.2 ..) rfl rfl | exact FnA.at_ (hc.get.2.2.2.2.2.2.2.2 ..) rfl rfl | exact FnA.at_ (hc.get.2.2.2.2.2.2.2.2.2 ..) rfl rfl | exact FnA.at_ (hc.get.2.2.2.2.2.2.2.2.2.2 ..) rfl rfl | exact FnA.at_ (hc.get.2.2.2.2.2.2.2.2.2.2.2 ..) rfl rfl | exact FnA.at_ (hc.get.2.2.2.2.2.2.2.2.2.2.2.2 ..) rfl rfl | exact FnA.at_ (hc.get.2.2.2.2.2.2.2.2.2.2.2.2.2 ..) rfl rfl | exact FnA.at_s (hc.get ..) rfl vV | exact FnA.at_s (hc.get ..) rfl vW | exact FnA.at_s (hc.get.1 ..) rfl vV | exact FnA.at_s (hc.get.1 ..) rfl vW | exact FnA.at_s (hc.get.2.1 ..) rfl vV | exact FnA.at_s (hc.get.2.1 ..) rfl vW | exact FnA.at_s (hc.get.2.2.1 ..) rfl vV | exact FnA.at_s (hc.get.2.2.1 ..) rfl vW | exact FnA.at_s (hc.get.2.2.2.1 ..) rfl vV | exact FnA.at_s (hc.get.2.2.2.1 ..) rfl vW | exact FnA.at_s (hc.get.2.2.2.2.1 ..) rfl vV | exact FnA.at_s (hc.get.2.2.2.2.1 ..) rfl vW | exact FnA.at_s (hc.get.2.2.2.2.2.1 ..) rfl vV | exact FnA.at_s (hc.get.2.2.2.2.2.1 ..) rfl vW | exact FnA.at_s (hc.get.2.2.2.2.2.2.1 ..) rfl vV | exact FnA.at_s (hc.get.2.2.2.2.2.2.1 ..) rfl vW | exact FnA.at_s (hc.get.2.2.2.2.2.2.2.1 ..) rfl vV | exact FnA.at_s (hc.get.2.2.2.2.2.2.2.1 ..) rfl vW | exact FnA.at_s (hc.get.2.2.2.2.2.2.2.2.1 ..) rfl vV | exact FnA.at_s (hc.get.2.2.2.2.2.2.2.2.1 ..) rfl vW | exact FnA.at_s (hc.get.2.2.2.2.2.2.2.2.2.1 ..) rfl vV | exact FnA.at_s (hc.get.2.2.2.2.2.2.2.2.2.1 ..) rfl vW | exact FnA.at_s (hc.get.2.2.2.2.2.2.2.2.2.2.1 ..) rfl vV | exact FnA.at_s (hc.get.2.2.2.2.2.2.2.2.2.2.1 ..) rfl vW | exact FnA.at_s (hc.get.2.2.2.2.2.2.2.2.2.2.2.1 ..) rfl vV | exact FnA.at_s (hc.get.2.2.2.2.2.2.2.2.2.2.2.1 ..) rfl vW | exact FnA.at_s (hc.get.2.2.2.2.2.2.2.2.2.2.2.2.1 ..) rfl vV | exact FnA.at_s (hc.get.2.2.2.2.2.2.2.2.2.2.2.2.1 ..) rfl vW | exact FnA.at_s (hc.get.2.2.2.2.2.2.2.2.2.2.2.2.2.1 ..) rfl vV | exact FnA.at_s (hc.get.2.2.2.2.2.2.2.2.2.2.2.2.2.1 ..) rfl vW | exact FnA.at_s (hc.get.2 ..) rfl vV | exact FnA.at_s (hc.get.2 ..) rfl vW | exact FnA.at_s (hc.get.2.2 ..) rfl vV | exact FnA.at_s (hc.get.2.2 ..) rfl vW | exact FnA.at_s (hc.get.2.2.2 ..) rfl vV | exact FnA.at_s (hc.get.2.2.2 ..) rfl vW | exact FnA.at_s (hc.get.2.2.2.2 ..) rfl vV | exact FnA.at_s (hc.get.2.2.2.2 ..) rfl vW | exact FnA.at_s (hc.get.2.2.2.2.2 ..) rfl vV | exact FnA.at_s (hc.get.2.2.2.2.2 ..) rfl vW | exact FnA.at_s (hc.get.2.2.2.2.2.2 ..) rfl vV | exact FnA.at_s (hc.get.2.2.2.2.2.2 ..) rfl vW | exact FnA.at_s (hc.get.2.2.2.2.2.2.2 ..) rfl vV | exact FnA.at_s (hc.get.2.2.2.2.2.2.2 ..) rfl vW | exact FnA.at_s (hc.get.2.2.2.2.2.2.2.2 ..) rfl vV | exact FnA.at_s (hc.get.2.2.2.2.2.2.2.2 ..) rfl vW | exact FnA.at_s (hc.get.2.2.2.2.2.2.2.2.2 ..) rfl vV | exact FnA.at_s (hc.get.2.2.2.2.2.2.2.2.2 ..) rfl vW | exact FnA.at_s (hc.get.2.2.2.2.2.2.2.2.2.2 ..) rfl vV | exact FnA.at_s (hc.get.2.2.2.2.2.2.2.2.2.2 ..) rfl vW | exact FnA.at_s (hc.get.2.2.2.2.2.2.2.2.2.2.2 ..) rfl vV | exact FnA.at_s (hc.get.2.2.2.2.2.2.2.2.2.2.2 ..) rfl vW | exact FnA.at_s (hc.get.2.2.2.2.2.2.2.2.2.2.2.2 ..) rfl vV | exact FnA.at_s (hc.get.2.2.2.2.2.2.2.2.2.2.2.2 ..) rfl vW | exact FnA.at_s (hc.get.2.2.2.2.2.2.2.2.2.2.2.2.2 ..) rfl vV | exact FnA.at_s (hc.get.2.2.2.2.2.2.2.2.2.2.2.2.2 ..) rfl vW) : FnA P f args x := h hc
theorem wkg {c p q : Prop} (hc : c) (hq : q) (h : Hid q → Hid c → p := by
    intro hq hc
    first
      | (refine zG (hK _ ?_); clear hK K)
      | refine stG ?_
      | (refine yO 1 rfl ?_; refine yD rfl rfl ⟨_, evl, _, _, _, evl, wW, ?_⟩; apply Exists.intro; refine ⟨fun hg => ?_, ?_⟩; · exact arm hc)
      | (refine z5 1 rfl ?_; refine yJ rfl ⟨_, evl, _, _, _, (fun _ _ => zBl), wW, ?_⟩; apply Exists.intro; refine ⟨fun hg => ?_, ?_⟩; · exact arm hc)
      | (refine z5 1 rfl ?_; refine zE ?_)
      | (refine yH ?_; first | (refine zN (hK _ ?_); clear hK K) | (refine zT rfl ⟨_, evl, fun nb' => ?_⟩))
      | refine zH (fun K hK => ?_)
      | (refine wY ?_; first | (refine zD false rfl kq kq (fun K hK => ?_)) | (refine zD true rfl kq kq (fun K hK => ?_)))
      | fail
    repeat first
      | (refine zG (hK _ ?_); clear hK K)
      | refine stG ?_
      | (refine yO 1 rfl ?_; refine yD rfl rfl ⟨_, evl, _, _, _, evl, wW, ?_⟩; apply Exists.intro; refine ⟨fun hg => ?_, ?_⟩; · exact arm hc)
      | (refine z5 1 rfl ?_; refine yJ rfl ⟨_, evl, _, _, _, (fun _ _ => zBl), wW, ?_⟩; apply Exists.intro; refine ⟨fun hg => ?_, ?_⟩; · exact arm hc)
      | (refine z5 1 rfl ?_; refine zE ?_)
      | (refine yH ?_; first | (refine zN (hK _ ?_); clear hK K) | (refine zT rfl ⟨_, evl, fun nb' => ?_⟩))
      | refine zH (fun K hK => ?_)
      | (refine wY ?_; first | (refine zD false rfl kq kq (fun K hK => ?_)) | (refine zD true rfl kq kq (fun K hK => ?_)))
    first | exact hq.get | (revert hK; revert K; exact sG hq.get)) : p := h ⟨hq⟩ ⟨hc⟩
theorem wkR {c p q : Prop} (hc : c) (hq : q) (h : Hid q → Hid c → p := by
    intro hq hc
    first
      | (refine zG (hK _ ?_); clear hK K)
      | refine stR ?_
      | (refine yO 1 rfl ?_; first | (refine yD rfl rfl ⟨_, evl, _, _, _, evl, wW, ?_⟩; apply Exists.intro; refine ⟨fun hg => ?_, ?_⟩; · exact arm hc) | (refine zCg rfl rfl ⟨_, evl, _, _, _, evl, _, _, evl, wW, ?_⟩; apply Exists.intro; refine ⟨fun hg => ?_, ?_⟩; · exact arm hc))
      | (refine z5 1 rfl ?_; refine yJ rfl ⟨_, evl, _, _, _, (fun _ _ => zBl), wW, ?_⟩; apply Exists.intro; refine ⟨fun hg => ?_, ?_⟩; · exact arm hc)
      | (refine z5 1 rfl ?_; refine zE ?_)
      | (refine yH ?_; first | (refine zN (hK _ ?_); clear hK K) | (refine zT rfl ⟨_, evl, fun nb' => ?_⟩))
      | refine zH (fun K hK => ?_)
      | (refine wY ?_; first | (refine zD false rfl kq kq (fun K hK => ?_)) | (refine zD true rfl kq kq (fun K hK => ?_)))
      | fail
    repeat first
      | (refine zG (hK _ ?_); clear hK K)
      | refine stR ?_
      | (refine yO 1 rfl ?_; first | (refine yD rfl rfl ⟨_, evl, _, _, _, evl, wW, ?_⟩; apply Exists.intro; refine ⟨fun hg => ?_, ?_⟩; · exact arm hc) | (refine zCg rfl rfl ⟨_, evl, _, _, _, evl, _, _, evl, wW, ?_⟩; apply Exists.intro; refine ⟨fun hg => ?_, ?_⟩; · exact arm hc))
      | (refine z5 1 rfl ?_; refine yJ rfl ⟨_, evl, _, _, _, (fun _ _ => zBl), wW, ?_⟩; apply Exists.intro; refine ⟨fun hg => ?_, ?_⟩; · exact arm hc)
      | (refine z5 1 rfl ?_; refine zE ?_)
      | (refine yH ?_; first | (refine zN (hK _ ?_); clear hK K) | (refine zT rfl ⟨_, evl, fun nb' => ?_⟩))
      | refine zH (fun K hK => ?_)
      | (refine wY ?_; first | (refine zD false rfl kq kq (fun K hK => ?_)) | (refine zD true rfl kq kq (fun K hK => ?_)))
    first | exact hq.get | (revert hK; revert K; exact sG hq.get)) : p := h ⟨hq⟩ ⟨hc⟩
theorem wg {p q : Prop} (hq : q) (h : Hid q → p := by
    intro hq
    first
      | (refine zG (hK _ ?_); clear hK K)
      | refine stG ?_
      | (refine z5 1 rfl ?_; refine zE ?_)
      | (refine yH ?_; first | (refine zN (hK _ ?_); clear hK K) | (refine zT rfl ⟨_, evl, fun nb' => ?_⟩))
      | refine zH (fun K hK => ?_)
      | (refine wY ?_; first | (refine zD false rfl kq kq (fun K hK => ?_)) | (refine zD true rfl kq kq (fun K hK => ?_)))
      | fail
    repeat first
      | (refine zG (hK _ ?_); clear hK K)
      | refine stG ?_
      | (refine z5 1 rfl ?_; refine zE ?_)
      | (refine yH ?_; first | (refine zN (hK _ ?_); clear hK K) | (refine zT rfl ⟨_, evl, fun nb' => ?_⟩))
      | refine zH (fun K hK => ?_)
      | (refine wY ?_; first | (refine zD false rfl kq kq (fun K hK => ?_)) | (refine zD true rfl kq kq (fun K hK => ?_)))
    first | exact hq.get | (revert hK; revert K; exact sG hq.get)) : p := h ⟨hq⟩
theorem wkM {k c p q : Prop} (hk : k) (hc : c) (hq : q) (h : Hid q → Hid c → k → p := by
    intro hq hc hK
    first
      | (refine zG (hK _ ?_); (first | clear hK K | clear hK))
      | refine stG ?_
      | (refine yO 1 rfl ?_; refine yD rfl rfl ⟨_, evl, _, _, _, evl, wW, ?_⟩; apply Exists.intro; refine ⟨fun hg => ?_, ?_⟩; · exact arm hc)
      | (refine z5 1 rfl ?_; refine yJ rfl ⟨_, evl, _, _, _, (fun _ _ => zBl), wW, ?_⟩; apply Exists.intro; refine ⟨fun hg => ?_, ?_⟩; · exact arm hc)
      | (refine z5 1 rfl ?_; refine zE ?_)
      | (refine yH ?_; first | (refine zN (hK _ ?_); (first | clear hK K | clear hK)) | (refine zT rfl ⟨_, evl, fun nb' => ?_⟩))
      | refine zH (fun K hK => ?_)
      | (refine wY ?_; first | (refine zD false rfl kq kq (fun K hK => ?_)) | (refine zD true rfl kq kq (fun K hK => ?_)))
      | fail
    repeat first
      | (refine zG (hK _ ?_); (first | clear hK K | clear hK))
      | refine stG ?_
      | (refine yO 1 rfl ?_; refine yD rfl rfl ⟨_, evl, _, _, _, evl, wW, ?_⟩; apply Exists.intro; refine ⟨fun hg => ?_, ?_⟩; · exact arm hc)
      | (refine z5 1 rfl ?_; refine yJ rfl ⟨_, evl, _, _, _, (fun _ _ => zBl), wW, ?_⟩; apply Exists.intro; refine ⟨fun hg => ?_, ?_⟩; · exact arm hc)
      | (refine z5 1 rfl ?_; refine zE ?_)
      | (refine yH ?_; first | (refine zN (hK _ ?_); (first | clear hK K | clear hK)) | (refine zT rfl ⟨_, evl, fun nb' => ?_⟩))
      | refine zH (fun K hK => ?_)
      | (refine wY ?_; first | (refine zD false rfl kq kq (fun K hK => ?_)) | (refine zD true rfl kq kq (fun K hK => ?_)))
    first | exact hq.get | (revert hK; revert K; exact sG hq.get)) : p := h ⟨hq⟩ ⟨hc⟩ hk
theorem hlT {p : Prop} (h : p := by first | trivial | exact ⟨rfl, trivial⟩ | exact ⟨rfl, rfl, trivial⟩ | exact ⟨rfl, rfl, rfl, trivial⟩ | simp [zDf, AV.renL, AV.ren, zV.ren]) : p := h
theorem yKt {p : Prop} (h : p := by first | (simp [AV.subL, AV.sub]; done) | (simp only [yOd, yOe, yOf, yOg, yOi, yMv, AV.subL, AV.sub, yMy, yO4, yN9, Nat.reduceAdd]; (repeat' apply And.intro) <;> first | trivial | omega | (simp; done) | (refine AV.sub_free _ ?_; exact zO (fun _ => by simp) _) | (refine AV.subL_free _ ?_; simp; done) | (intro r hr; cases hr; done))) : p := h
theorem lenT {p : Prop} (h : p := by simp only [yMy, yO4]; omega) : p := h
theorem yBw {bx : List (List AV)} {rw : List zV} {x y : AV} (h : x = y := by first | rfl | (simp; done) | (simp_all; done) | (simp_all; omega) | (simp; grind) | (split <;> simp_all)) : xD bx rw x y := xD.of_eq h
theorem cb {a p : Prop} (h : a → p := by intro hb; first | (simp only [yOn, yNj, yOq, yOp, yNl, yOm, yNb, yP9, yNk, yOo, yPa, yO0, ne_eq, yPb, Int.not_lt, Int.not_le, yOb, yOc] at hb; exact hb) | exact hb) : a → p := h
theorem yLs {P : Program} {st : ASt} {x y : Code} {c : Operand} {Q : Exit → ASt → Prop} {p q : Prop} (h : ∃ b : Bool, st.ev c = some (true, .raw (.bool b)) ∧ ((b = true → p) ∧ (b = false → q)) ∧ (p → wpA P x Q st) ∧ (q → wpA P y Q st)) : wpA P (.cond c x y) Q st := by obtain ⟨b, hc, ⟨hp, hq⟩, hx, hy⟩ := h; exact zB ⟨b, hc, fun h => hx (hp h), fun h => hy (hq h)⟩
theorem wkn {nt nb : Nat} {sl sl' : List (Nat × (Bool × AV))} {bx bx' : List (List AV)} {rw rw' : List zV} {ys : (Nat × List (List AV)) × List (List AV) × Bool} (h1 : zFg bx rw sl' sl) (h2 : zC2 bx rw bx' bx) (h3 : zBz bx rw rw' rw) (h4 : nb % 64 ≤ bx'.length ∧ nb / 64 ≤ rw'.length := by simp) (h5 : zFq bx'.length rw'.length sl' ∧ zU3 bx'.length rw'.length bx' ∧ zU2 bx'.length rw'.length rw' := by first | (simp [zFq, zU3, zU2, AV.sub, AV.subL, go_sem]; done) | (simp [zFq, zU3, zU2, AV.sub, AV.subL, go_sem, AV.subL_free, AV.sub_free, *]; done) | (simp_all [zFq, zU3, zU2, AV.sub, AV.subL, go_sem]; done)) : xT ⟨nt, nb, sl, bx, rw, ys⟩ ⟨nt, nb, sl', bx', rw', ys⟩ := xT.gen h1 h2 h3 h4 h5
theorem wkS {p q : Prop} (hq : q) (h : Hid q → p := by intro hq; (simp only [zFg, zC2, zBz, xF, zL, ↓reduceIte, Nat.reduceEqDiff, yMc, yMu, yMv, yOi, exists_eq_left', yOj]); exact hq.get) : p := h ⟨hq⟩
theorem wk0 {p : Prop} (h : p := by first | (simp only [zFg, zC2, zBz, xF, zL, ↓reduceIte, Nat.reduceEqDiff, yMc, yMu, yMv, yOi, exists_eq_left', yOj]; done) | fail) : p := h
theorem cS {P : Program} {st : ASt} {x y : Code} {c : Operand} {Q : Exit → ASt → Prop} {p q : Prop} {b : Bool} (hx : p → wpA P x Q st) (hy : q → wpA P y Q st) (hc : st.ev c = some (true, .raw (.bool b)) := by exact evl) (hp : b = true → p := by exact cb) (hq : b = false → q := by exact cb) : wpA P (.cond c x y) Q st := zB ⟨b, hc, fun h => hx (hp h), fun h => hy (hq h)⟩
theorem fre {p : Prop} (h : p := by first | (simp [AV.free, AV.freeL, go_sem]; done) | exact zO (fun _ => by simp [AV.free, AV.freeL, u8C, iC]) _ | (simp_all [AV.free, AV.freeL, sA, u8C, iC]; done) | fail) : p := h
theorem wkL {p : Prop} (h : p := by first | exact zXn | (intro _ _; exact zXn) | omega | (simp; done) | (simp; omega) | (intro _ _; refine xF.of_eq (zVu ?_ (by assumption) rfl) <;> first | rfl | omega | (simp; done) | (simp; omega)) | fail) : p := h
theorem wkZ {nt nb : Nat} {sl sl' : List (Nat × (Bool × AV))} {bx bx' : List (List AV)} {rw rw' : List zV} {ys : (Nat × List (List AV)) × List (List AV) × Bool} (h1 : zFg bx rw sl' sl := by first | exact wk0 | ((first | refine wkS ?_ | skip); first | trivial | ((repeat' apply And.intro) <;> exact wkL))) (h2 : zC2 bx rw bx' bx := by first | exact wk0 | ((first | refine wkS ?_ | skip); first | trivial | ((repeat' apply And.intro) <;> exact wkL))) (h3 : zBz bx rw rw' rw := by first | exact wk0 | ((first | refine wkS ?_ | skip); first | trivial | ((repeat' apply And.intro) <;> exact wkL))) (h : zFg bx rw sl' sl → zC2 bx rw bx' bx → zBz bx rw rw' rw → xT ⟨nt, nb, sl, bx, rw, ys⟩ ⟨nt, nb, sl', bx', rw', ys⟩ := by intro h1 h2 h3; exact wkn h1 h2 h3) : xT ⟨nt, nb, sl, bx, rw, ys⟩ ⟨nt, nb, sl', bx', rw', ys⟩ := h h1 h2 h3
theorem en {q : Prop} {f : FuncId} {fn : Func} {c : Code} {args : List AV} {r : AV} {n : Nat} (hf : Tryz.prog.funcs[f]? = some fn) (hn : fn.ntmps = n) (rs : List ResultVar) (hb : fn.body = some c) (hq : q) (hrs : fn.results.toList = rs := by rfl) (hnm : (fn.name == "runtime.NumGoroutine") = false := by kernel_rfl) (hlen : args.length ≤ n := by simp only [yMy, yO4]; omega) (h : Hid q → wpA Tryz.prog c (kS tbl rs r) (zB2 n args) := by intro hq; simp only [zB2, zIa, yN9, Nat.reduceAdd]; exact hq.get) : FnA Tryz.prog f args r := yBu zW hf hb hnm n hn hlen rs hrs (h ⟨hq⟩)
theorem enG {q : Prop} {f : FuncId} {fn : Func} {c : Code} {args : List AV} {bx bx' : List (List AV)} {rw rw' : List zV} {r : AV} {n : Nat} (hf : Tryz.prog.funcs[f]? = some fn) (hn : fn.ntmps = n) (rs : List ResultVar) (m : Nat) (hb : fn.body = some c) (hq : q) (hrs : fn.results.toList = rs := by rfl) (hnm : (fn.name == "runtime.NumGoroutine") = false := by kernel_rfl) (hlen : args.length ≤ n := by simp only [yMy, yO4]; omega) (h64 : bx.length < 64 := by simp) (h : Hid q → wpA Tryz.prog c (zDi tbl rs m r bx' rw') (zAh n args bx rw) := by intro hq; simp only [zAh, zIa, yN9, Nat.reduceAdd, yMy, yO4]; exact hq.get) : FnG Tryz.prog f args bx rw r bx' rw' := yBs zW hf hb hnm n hn hlen rs hrs m h64 (h ⟨hq⟩)
theorem rt {q : Prop} {T : TT} {st : ASt} {rs : List ResultVar} {r : AV} {e : Exit} (hq : q) (h : Hid q → kS T rs r e st := by intro hq; exact yA sq ⟨_, _, _, evl, ob0, yP.sims hq.get fre⟩) : kS T rs r e st := h ⟨hq⟩
theorem rq {p q : Prop} {T : TT} {st : ASt} {rs : List ResultVar} {r : AV} {e : Exit} (hp : p) (hq : q) (h : Hid p → Hid q → kS T rs r e st := by intro hp hq; exact yA sq ⟨_, _, _, evl, ob0, yP.eq hp.get hq.get⟩) : kS T rs r e st := h ⟨hp⟩ ⟨hq⟩
theorem fA {p : Prop} (h : p := by (try refine yA sq ⟨_, _, _, evl, ob0, yP.sims ?_ fre⟩); first | exact xD.refl _ | exact yBw | exact x7 | (refine xD.tup ?_; simp only [xF, yOi]; (repeat' apply And.intro) <;> exact x7) | (exfalso; first | omega | (simp_all; done) | (simp_all; omega))) : p := h
end Go.Proofs.YtioaahmkebojiaaGreatDoor
