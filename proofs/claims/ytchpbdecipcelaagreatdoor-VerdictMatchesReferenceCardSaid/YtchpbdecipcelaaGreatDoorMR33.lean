import Derived.Test.YtchpbdecipcelaaGreatDoorMR01
import Derived.Laws.MakeOwn
import Derived.Test.YtchpbdecipcelaaGreatDoorMR32
namespace Go.Proofs.YtchpbdecipcelaaGreatDoor
set_option linter.unusedVariables false
set_option linter.unusedSimpArgs false
set_option maxHeartbeats 4000000
set_option maxRecDepth 100000
open Go.RowKit
def zA5 (t : List Int) : List AV := t.map fun x => .raw (.int .i64 x)
theorem jN (t : List Int) : (zA5 t).length = t.length := by simp [zA5]
class InB (t : List Int) (i : Nat) : Prop where
 lt : i < t.length
@[go_sem] theorem yDd (t : List Int) (i : Nat) [h : InB t i] : zZ7 (zA5 t) i = .raw (.int .i64 (t.getD i 0)) := by
 have h1 := zEq (cs := zA5 t) (k := i) (by rw [jN]; exact h.lt)
 have h2 := h.lt
 rw [zA5, yLo, yLm h2] at h1
 simp only [yL0, yKj] at h1
 rw [zA5, ← h1, yLp, yLm h2]
 rfl
theorem zHb : ∀ (t : List Int) (i : Nat) (v : Int), vU (zA5 t) i [.raw (.int .i64 v)] = zA5 (t.set i v)
 | [], 0, _ => rfl
 | [], _ + 1, _ => rfl
 | x :: t, 0, v => by
  have : ∀ l : List AV, kG ([] : List AV) l = l := fun l => by cases l <;> rfl
  simp [zA5, vU, kG]
 | x :: t, i + 1, v => by
  have := zHb t i v
  simp only [zA5, yLt, vU, yLd, List.cons.injEq, yKz] at this ⊢
  exact this
@[go_sem] theorem yD4 (t : List Int) (i : Nat) (v : Int) : vU (zA5 t) i [.raw (.int .i64 v)] = zA5 (t.set i v) := zHb t i v
@[simp] theorem zKs (t : List Int) : AV.freeL (zA5 t) := by
 induction t with
 | nil => trivial
 | cons x t ih => exact ⟨trivial, ih⟩
@[simp] theorem yEo (m n : Nat) (t : List Int) : AV.subL m n (zA5 t) := AV.subL_free _ (zKs t)
@[simp] theorem zXo (m : Nat) (t : List Int) : AV.belL m (zA5 t) := AV.belL_free _ (zKs t)
theorem zU8 (n : Nat) : (madeCells #[.int .i64 0] n).toList = (List.replicate n 0).map fun x : Int => Value.int .i64 x := by
 refine List.ext_getElem (by simp [madeCells]) fun i h1 h2 => ?_
 simp only [madeCells, Array.toList_map, Array.toList_range, yMg, yO6] at h1
 simp [madeCells, Nat.mod_one]
theorem zFb {ops : Array Oper} {rest : List Oper} {K : ASt → Prop} {nt nb : Nat} {sl : List (Nat × (Bool × AV))} {bx : List (List AV)} {rw : List yD} {ys : (Nat × List (List AV)) × List (List AV) × Bool} {o : Oper} {d : Nat} {l : Operand} (n : Nat) (hn0 : n ≤ 16777216)
  (hop : o.op = .makeSlice 51 l l) (hg : o.guard = none) (hd : o.dst = some d) (hn : Nat.blt d nt = true)
  (h : ASt.ev ⟨nt, nb, sl, bx, rw, ys⟩ l = some (true, .raw (.int .i64 n)) ∧ ∃ m, bx.length = m ∧ ∃ bx', bx ++ [zA5 (List.replicate n 0)] = bx' ∧ xK Tryz.prog ops rest K ⟨nt, nb, (d, (true, .bsl 1 m 0 n n)) :: sl, bx', rw, ys⟩) : xK Tryz.prog ops (o :: rest) K ⟨nt, nb, sl, bx, rw, ys⟩ := by
 obtain ⟨he, m, rfl, bx', rfl, hk⟩ := h
 intro C G a w Q hs hQ
 refine wpListIn_plain hg fun K' hK => ?_
 refine zZ (fun c hc => by rw [hop] at hc; cases hc) ?_
 obtain ⟨dst, op, type, pos, after, guard⟩ := o
 simp only at hop hd
 subst hop
 subst hd
 have e0 := (yU (x := l) fun t _ => hs.slot t) _ _ he rfl
 have e1 : a.eval l = .int .i64 (n : Int) := e0
 obtain ⟨i, hi, hz⟩ : ∃ i, Tryz.prog.info? 3 = some i ∧ (i.zero = some (.int .i64 0) ∧ i.size = 1 ∧ i.bytes = 8) := by
  have h : (Tryz.prog.info? 3).map (fun i => (i.zero, i.size, i.bytes)) = some (some (.int .i64 0), 1, 8) := by kernel_rfl
  obtain ⟨i, h1, h2⟩ := yL1.1 h
  simp only [yKy] at h2
  exact ⟨i, h1, h2⟩
 have hml : n ≤ maxLen := by simp only [maxLen]; omega
 have e3 := run_make (P := Tryz.prog) w 51 3 i (.int .i64 0) (by kernel_rfl) hi hz.1 .i64 .i64 n n (by omega) (yO8 _) (by rw [hz.2.2]; omega) (by omega)
 rw [hz.2.1, yLv, yLx, show (Value.int .i64 0).cells = #[.int .i64 0] from rfl] at e3
 have hrun : (execOp a.eval ⟨some d, .makeSlice 51 l l, type, pos, after, guard⟩).run Tryz.prog w = .ok (.value (.slice (some ⟨w.heap.size, 0, none⟩) n n)) (w.alloc (.cells (madeCells #[.int .i64 0] n) 3)) := by
  simp only [execOp, Sem.run_bind, e1, e3, Result.andThen_ok]; rfl
 rw [hrun, Oper.uponIn_value]
 have hcells : (madeCells #[.int .i64 0] n) = ((List.replicate n 0).map fun x : Int => Value.int .i64 x).toArray := by
  rw [← zU8]
 rw [hcells]
 have e2 : AV.relL G w (zA5 (List.replicate n 0)) ((List.replicate n 0).map fun x : Int => Value.int .i64 x) := AV.relL_mk (by simp [zA5]) fun j x v hx hv => by
  rw [zA5, yLo] at hx
  rw [yLo] at hv
  cases hj : (List.replicate n (0 : Int))[j]? with
  | none => rw [hj] at hx; cases hx
  | some y =>
   rw [hj] at hx hv
   cases hx
   cases hv
   rfl
 refine hK _ _ (hk C _ _ _ Q ((hs.push 3 e2).put (by simpa [yM6] using hn) (fun _ => ⟨w.heap.size, _, ?_, rfl, yKq _, hml, fun _ => rfl⟩) (fun h => by cases h)) hQ)
 show (G.bx ++ [w.heap.size])[bx.length]? = _
 rw [← hs.mem.lenB, yM2 (yKq _), yM9]
 rfl
theorem zKv (l : List zB) (hl : l.length ≤ 4611686018427387904) (g : FuncId) (cap : List AV) (hcap : AV.freeL cap) (p : zB → Bool) (hp : ∀ x ∈ l, FnA Tryz.prog g (.agg x.av :: cap) (.raw (.bool (p x)))) :
  FnA Tryz.prog 95 [lA 2 zB.av l, .fn (.func g) [] cap] (.raw (.int .i64 (vA p l))) := by
 refine en Tryz.func95 Tryz.ntmps95 [.tmp 4] rfl ?_
 try (refine wg ?_; try refine sM fun K hK => ?_)
 refine zF (fun k : Nat => ⟨19, 0, [(0, true, lA 2 zB.av l), (1, true, .fn (.func g) [] cap), (7, true, .raw (.int .i64 l.length)), (8, true, .raw (.int .i64 k))], [], [], ((0, []), [], true)⟩)
  (fun k => k ≤ l.length ∧ ∀ i, i < k → p (l.getD i default) = false) (fun k => l.length - k) 0 ?_ ⟨by omega, fun i h => by omega⟩ ?_
 ·exact wkZ
 ·rintro k ⟨hk, hall⟩
  try (refine wg ?_; try refine sM fun K hK => ?_)
  refine zA ⟨_, evl, ?_, ?_⟩
  ·intro hlt
   simp only [yLr] at hlt
   have hmem : l.getD k default ∈ l := by rw [yLp, yLm (show k < l.length by omega)]; exact yNe _
   have hpk := hp _ hmem
   have hfe : AV.freeL (zB.av (l.getD k default)) := by first | exact zB.free _ | (simp [AV.free, AV.freeL, iC, u8C, kC]; done)
   try (refine wkg hpk ?_; try refine sM fun K hK => ?_)
   refine zA ⟨_, evl, ?_, ?_⟩
   ·intro hb
    try (refine wg ?_; try refine sM fun K hK => ?_)
    refine rq ?_ ?_
    ·rw [wQ (show k < l.length by omega) hall hb]
    ·simp [AV.free]
   ·intro hb
    try (refine wg ?_; try refine sM fun K hK => ?_)
    refine ⟨k + 1, ⟨by omega, fun i hi => ?_⟩, by omega, ?_⟩
    ·rcases yNv.1 hi with h | rfl
     ·exact hall i h
     ·exact hb
    ·exact wkZ
  ·intro hge
   simp only [yMz] at hge
   try (refine wg ?_; try refine sM fun K hK => ?_)
   refine rq ?_ ?_
   ·rw [xI (fun i hi => hall i (by omega))]
   ·simp [AV.free]
theorem y9 (l : List zB) (hl : l.length ≤ 4611686018427387904) (g : FuncId) (cap : List AV) (hcap : AV.freeL cap) (p : zB → Bool) (hp : ∀ x ∈ l, FnA Tryz.prog g (.agg x.av :: cap) (.raw (.bool (p x)))) :
  FnA Tryz.prog 45 [lA 2 zB.av l, .fn (.func g) [] cap] (.raw (.bool (l.any p))) := by
 have hi := zKv l hl g cap hcap p hp
 have hany := qZ p l
 have hfr : (lA 2 zB.av l).free := zC (fun y => zB.free y) _
 generalize lA 2 zB.av l = L at hi hfr
 generalize vA p l = i at hi hany
 refine en Tryz.func45 Tryz.ntmps45 [.tmp 4] rfl ?_
 repeat' first
  | refine wkg hi ?_
  | (refine cS (fun hb => ?_) fun hb => ?_ <;> try (cases hb; done))
  | refine sM fun K hK => ?_
  | fail
 all_goals (try (refine zM (by simp) ⟨_, _, _, evl, ob0, zV.sims ?_ fre⟩))
 all_goals first | exact z5.refl _ | exact yC2 | exact yM | (refine z5.tup ?_; simp only [z8, yMs]; (repeat' apply And.intro) <;> first | exact yM | skip) | (exfalso; first | omega | (simp_all; done) | (simp_all; omega)) | skip
 all_goals (rw [hany])
theorem zKw (l : List zH) (hl : l.length ≤ 4611686018427387904) (g : FuncId) (cap : List AV) (hcap : AV.freeL cap) (p : zH → Bool) (hp : ∀ x ∈ l, FnA Tryz.prog g (.agg x.av :: cap) (.raw (.bool (p x)))) :
  FnA Tryz.prog 96 [lA 4 zH.av l, .fn (.func g) [] cap] (.raw (.int .i64 (vA p l))) := by
 refine en Tryz.func96 Tryz.ntmps96 [.tmp 4] rfl ?_
 try (refine wg ?_; try refine sM fun K hK => ?_)
 refine zF (fun k : Nat => ⟨19, 0, [(0, true, lA 4 zH.av l), (1, true, .fn (.func g) [] cap), (7, true, .raw (.int .i64 l.length)), (8, true, .raw (.int .i64 k))], [], [], ((0, []), [], true)⟩)
  (fun k => k ≤ l.length ∧ ∀ i, i < k → p (l.getD i default) = false) (fun k => l.length - k) 0 ?_ ⟨by omega, fun i h => by omega⟩ ?_
 ·exact wkZ
 ·rintro k ⟨hk, hall⟩
  try (refine wg ?_; try refine sM fun K hK => ?_)
  refine zA ⟨_, evl, ?_, ?_⟩
  ·intro hlt
   simp only [yLr] at hlt
   have hmem : l.getD k default ∈ l := by rw [yLp, yLm (show k < l.length by omega)]; exact yNe _
   have hpk := hp _ hmem
   have hfe : AV.freeL (zH.av (l.getD k default)) := by first | exact zH.free _ | (simp [AV.free, AV.freeL, iC, u8C, kC]; done)
   try (refine wkg hpk ?_; try refine sM fun K hK => ?_)
   refine zA ⟨_, evl, ?_, ?_⟩
   ·intro hb
    try (refine wg ?_; try refine sM fun K hK => ?_)
    refine rq ?_ ?_
    ·rw [wQ (show k < l.length by omega) hall hb]
    ·simp [AV.free]
   ·intro hb
    try (refine wg ?_; try refine sM fun K hK => ?_)
    refine ⟨k + 1, ⟨by omega, fun i hi => ?_⟩, by omega, ?_⟩
    ·rcases yNv.1 hi with h | rfl
     ·exact hall i h
     ·exact hb
    ·exact wkZ
  ·intro hge
   simp only [yMz] at hge
   try (refine wg ?_; try refine sM fun K hK => ?_)
   refine rq ?_ ?_
   ·rw [xI (fun i hi => hall i (by omega))]
   ·simp [AV.free]
theorem zGd (l : List zH) (hl : l.length ≤ 4611686018427387904) (g : FuncId) (cap : List AV) (hcap : AV.freeL cap) (p : zH → Bool) (hp : ∀ x ∈ l, FnA Tryz.prog g (.agg x.av :: cap) (.raw (.bool (p x)))) :
  FnA Tryz.prog 48 [lA 4 zH.av l, .fn (.func g) [] cap] (.raw (.bool (l.any p))) := by
 have hi := zKw l hl g cap hcap p hp
 have hany := qZ p l
 have hfr : (lA 4 zH.av l).free := zC (fun y => zH.free y) _
 generalize lA 4 zH.av l = L at hi hfr
 generalize vA p l = i at hi hany
 refine en Tryz.func48 Tryz.ntmps48 [.tmp 4] rfl ?_
 repeat' first
  | refine wkg hi ?_
  | (refine cS (fun hb => ?_) fun hb => ?_ <;> try (cases hb; done))
  | refine sM fun K hK => ?_
  | fail
 all_goals (try (refine zM (by simp) ⟨_, _, _, evl, ob0, zV.sims ?_ fre⟩))
 all_goals first | exact z5.refl _ | exact yC2 | exact yM | (refine z5.tup ?_; simp only [z8, yMs]; (repeat' apply And.intro) <;> first | exact yM | skip) | (exfalso; first | omega | (simp_all; done) | (simp_all; omega)) | skip
 all_goals (rw [hany])
theorem yDm (l : List zB) (hl : l.length ≤ 4611686018427387904) (p : zB) : FnA Tryz.prog 104 [lA 2 zB.av l, .agg p.av] (.raw (.int .i64 (vA (fun q => decide (p = q)) l))) := by
 have hfr : (lA 2 zB.av l).free := zC (fun y => zB.free y) _
 refine en Tryz.func104 Tryz.ntmps104 [.tmp 4] rfl ?_
 try (refine wg ?_; try refine sM fun K hK => ?_)
 refine zF (fun k : Nat => ⟨19, 0, [(0, true, lA 2 zB.av l), (3, true, .box 0 0), (7, true, .raw (.int .i64 l.length)), (8, true, .raw (.int .i64 k))], [p.av], [], ((0, []), [], true)⟩)
  (fun k => k ≤ l.length ∧ ∀ i, i < k → decide (p = l.getD i default) = false) (fun k => l.length - k) 0 ?_ ⟨by omega, fun i h => by omega⟩ ?_
 ·exact wkZ
 ·rintro k ⟨hk, hall⟩
  try (refine wg ?_; try refine sM fun K hK => ?_)
  refine zA ⟨_, evl, fun hlt => ?_, fun hge => ?_⟩
  ·simp only [yLr] at hlt
   have hpk : decide (p = l.getD k default) = (decide (p.kind = (l.getD k default).kind) && decide (p.id = (l.getD k default).id)) := by
    rw [yLb]
    cases p
    cases l.getD k default
    simp
   try (refine wg ?_; try refine sM fun K hK => ?_)
   refine zA ⟨_, evl, fun hb => ?_, fun hb => ?_⟩
   ·try (refine wg ?_; try refine sM fun K hK => ?_)
    refine rq ?_ ?_
    ·rw [wQ (show k < l.length by omega) hall (hpk.trans hb)]
    ·simp [AV.free]
   ·try (refine wg ?_; try refine sM fun K hK => ?_)
    refine ⟨k + 1, ⟨by omega, fun i hi => ?_⟩, by omega, ?_⟩
    ·rcases yNv.1 hi with h | rfl
     ·exact hall i h
     ·exact hpk.trans hb
    ·exact wkZ
  ·simp only [yMz] at hge
   try (refine wg ?_; try refine sM fun K hK => ?_)
   rw [xI (fun i hi => hall i (by omega))]
   all_goals exact fA
theorem zUu (l : List zB) (hl : l.length ≤ 4611686018427387904) (p : zB) : FnA Tryz.prog 58 [lA 2 zB.av l, .agg p.av] (.raw (.bool (decide (p ∈ l)))) := by
 have hi := yDm l hl p
 have hany : decide (p ∈ l) = decide (0 ≤ vA (fun q => decide (p = q)) l) := by
  rw [qZ, yLb, yO5, yNd]
  simp only [yLr]
  exact ⟨fun h => ⟨p, h, rfl⟩, fun ⟨q, h, e⟩ => e ▸ h⟩
 have hfr : (lA 2 zB.av l).free := zC (fun y => zB.free y) _
 rw [hany]
 generalize lA 2 zB.av l = L at hi hfr
 generalize vA (fun q => decide (p = q)) l = i at hi
 refine en Tryz.func58 Tryz.ntmps58 [.tmp 4] rfl ?_
 repeat' first
  | refine wkg hi ?_
  | (refine cS (fun hb => ?_) fun hb => ?_ <;> try (cases hb; done))
  | refine sM fun K hK => ?_
  | fail
 all_goals exact fA
def zCf (blamed : List zB) (b : zH) : Bool := !(b.who.any fun p => decide (p ∈ blamed))
theorem yBx (blamed : List zB) (hl : blamed.length ≤ 4611686018427387904) (p : zB) : FnA Tryz.prog 148 [.agg p.av, .elt [lA 2 zB.av blamed] 0] (.raw (.bool (decide (p ∈ blamed)))) := by
 have h := zUu blamed hl p
 have hfr : (lA 2 zB.av blamed).free := zC (fun y => zB.free y) _
 generalize lA 2 zB.av blamed = L at *
 refine en Tryz.func148 Tryz.ntmps148 [.tmp 3] rfl ?_
 repeat' first
  | refine wkg h ?_
  | (refine cS (fun hb => ?_) fun hb => ?_ <;> try (cases hb; done))
  | refine sM fun K hK => ?_
  | fail
 all_goals exact fA
theorem yDq (b : zH) (blamed : List zB) (hl : blamed.length ≤ 4611686018427387904) (hb : b.who.length ≤ 4611686018427387904) : FnA Tryz.prog 97 [.agg b.av, lA 2 zB.av blamed] (.raw (.bool (zCf blamed b))) := by
 have hfr : (lA 2 zB.av blamed).free := zC (fun y => zB.free y) _
 have hfw : (lA 2 zB.av b.who).free := zC (fun y => zB.free y) _
 have h := y9 b.who hb 148 [.elt [lA 2 zB.av blamed] 0] ⟨⟨hfr, trivial⟩, trivial⟩ (fun p => decide (p ∈ blamed)) (fun p _ => yBx blamed hl p)
 unfold zCf
 generalize (b.who.any fun p => decide (p ∈ blamed)) = z at *
 refine en Tryz.func97 Tryz.ntmps97 [.tmp 4] rfl ?_
 repeat (refine stG ?_)
 refine zE (fun K hK => ?_)
 iterate 3 (refine stG ?_)
 refine z0 0 obf ⟨_, evl, _, evl, ?_⟩
 try (first | refine wkM hK h ?_ | refine wkg h ?_)
 try clear hK K
 try refine sM fun K hK => ?_
 all_goals exact fA
def wJ (l : List zB) : Prop := l.length ≤ 100 ∧ ∀ p ∈ l, xS p
instance (l : List zB) : Decidable (wJ l) := by unfold wJ; infer_instance
theorem zAp (p : zB) : FnA Tryz.prog 42 [.agg p.av] (.raw (.bool (!decide (xS p)))) := by
 have h := zUh p
 generalize decide (xS p) = z at *
 refine en Tryz.func42 Tryz.ntmps42 [.tmp 2] rfl ?_
 repeat' first
  | refine wkg h ?_
  | (refine cS (fun hb => ?_) fun hb => ?_ <;> try (cases hb; done))
  | refine sM fun K hK => ?_
  | fail
 all_goals exact fA
abbrev zU0 : AV := .raw (.func (.func 42) #[] #[])
theorem zVu (l : List zB) : FnA Tryz.prog 44 [lA 2 zB.av l, .elt [zU0] 0] (.raw (.bool (decide (wJ l)))) := by
 have hfr : (lA 2 zB.av l).free := zC (fun y => zB.free y) _
 have e : decide (wJ l) = (decide ((l.length : Int) ≤ 100) && !(l.any fun p => !decide (xS p))) := by
  rw [yLb, yLq, yO5, yO5, yLs, yNc]
  simp only [wJ, yLs, yMz, yNo]
  exact ⟨fun h => ⟨by omega, h.2⟩, fun h => ⟨by omega, h.2⟩⟩
 rw [e]
 refine en Tryz.func44 Tryz.ntmps44 [.tmp 3] rfl ?_
 repeat'
  first
   | first
    | (refine zG (hK _ ?_); clear hK K)
    | refine stG ?_
    | (refine yJ 1 rfl ?_; refine zR rfl rfl ⟨_, evl, _, _, _, evl, yR, ?_⟩; apply Exists.intro; refine ⟨fun hg => ?_, ?_⟩; · first | exact FnA.at_ (y9 l (by have := yNw hg; omega) 42 [] trivial (fun p => !decide (xS p)) (fun p _ => zAp p)) rfl rfl | exact FnA.at_s (y9 l (by have := yNw hg; omega) 42 [] trivial (fun p => !decide (xS p)) (fun p _ => zAp p)) rfl yV | exact FnA.at_s (y9 l (by have := yNw hg; omega) 42 [] trivial (fun p => !decide (xS p)) (fun p _ => zAp p)) rfl yW)
    | (refine zW 1 rfl ?_; refine zS rfl ⟨_, evl, _, _, _, (fun _ _ => vH), yR, ?_⟩; apply Exists.intro; refine ⟨fun hg => ?_, ?_⟩; · first | exact FnA.at_ (y9 l (by have := yNw hg; omega) 42 [] trivial (fun p => !decide (xS p)) (fun p _ => zAp p)) rfl rfl | exact FnA.at_s (y9 l (by have := yNw hg; omega) 42 [] trivial (fun p => !decide (xS p)) (fun p _ => zAp p)) rfl yV | exact FnA.at_s (y9 l (by have := yNw hg; omega) 42 [] trivial (fun p => !decide (xS p)) (fun p _ => zAp p)) rfl yW)
    | (refine zW 1 rfl ?_; refine zJ ?_)
    | (refine yB ?_; first | (refine zP (hK _ ?_); clear hK K) | (refine zX rfl ⟨_, evl, fun nb' => ?_⟩))
    | refine zE (fun K hK => ?_)
    | (refine yZ ?_; first | (refine zD false rfl (by kernel_rfl) (by kernel_rfl) (fun K hK => ?_)) | (refine zD true rfl (by kernel_rfl) (by kernel_rfl) (fun K hK => ?_)))
    | (refine zA ⟨_, evl, fun hb => ?_, fun hb => ?_⟩ <;> (try simp only [yMy, yLq, yN1, yN0, yLs, yMx, yLi, yNm, yLr, yMz, yNn, yM7, ne_eq, yNo, yLh, yNp, yMl, yMm] at hb))
   | fail
 all_goals exact fA
abbrev zVv : AV := .fn (.func 44) [] [.elt [zU0] 0]
def xQ (n : Int) (b : zH) : Prop := (0 ≤ b.from_ ∧ b.from_ ≤ n - 1) ∧ (0 ≤ b.to_ ∧ b.to_ ≤ n - 1) ∧ (-3000000000000000 ≤ b.most ∧ b.most ≤ 3000000000000000) ∧ wJ b.who
instance (n : Int) (b : zH) : Decidable (xQ n b) := by unfold xQ; infer_instance
theorem yE9 (n : Int) (hn : 1 ≤ n ∧ n ≤ 1000) (b : zH) : FnA Tryz.prog 46 [.agg b.av, .elt [.raw (.int .i64 n)] 0, .elt [zVv] 0] (.raw (.bool (!decide (xQ n b)))) := by
 have hc := zVu b.who
 have hfr : (lA 2 zB.av b.who).free := zC (fun y => zB.free y) _
 have w1 := yO b.from_ 0 (n - 1)
 have w2 := yO b.to_ 0 (n - 1)
 have w3 := yO b.most (-3000000000000000) 3000000000000000
 have e : (!decide (xQ n b)) = (!(decide (0 ≤ b.from_) && decide (b.from_ ≤ n - 1)) || !(decide (0 ≤ b.to_) && decide (b.to_ ≤ n - 1)) || !(decide (-3000000000000000 ≤ b.most) && decide (b.most ≤ 3000000000000000)) || !decide (wJ b.who)) := by
  rw [yLb]
  simp [xQ]
  grind
 rw [e]
 clear e
 generalize decide (wJ b.who) = z at *
 generalize (decide (0 ≤ b.from_) && decide (b.from_ ≤ n - 1)) = z1 at *
 generalize (decide (0 ≤ b.to_) && decide (b.to_ ≤ n - 1)) = z2 at *
 generalize (decide (-3000000000000000 ≤ b.most) && decide (b.most ≤ 3000000000000000)) = z3 at *
 refine en Tryz.func46 Tryz.ntmps46 [.tmp 4] rfl ?_
 repeat' first
  | refine wkg (And.intro w1 (And.intro w2 (And.intro w3 hc))) ?_
  | (refine cS (fun hb => ?_) fun hb => ?_ <;> try (cases hb; done))
  | refine sM fun K hK => ?_
  | fail
 all_goals exact fA
def toE (b : zH) : Bf.E := ⟨b.from_.toNat, b.to_.toNat, b.most⟩
def zB7 (l : List zH) (blamed : List zB) : List zH := l.filter (zCf blamed)
def zBe (l : List zH) (n : Nat) (blamed : List zB) : Bool := Bf.possL ((n : Int) * 3000000000000000) ((zB7 l blamed).map toE) (n + 1) (List.replicate n 0)
theorem zLb {α : Type} [Inhabited α] {l : List α} {k : Nat} (h : k < l.length) : l.drop k = l.getD k default :: l.drop (k + 1) := by
 rw [List.drop_eq_getElem_cons h, zU h]
theorem zSg (l : List zH) (blamed : List zB) {k : Nat} (h : k < l.length) : zB7 (l.take (k + 1)) blamed = zB7 (l.take k) blamed ++ (if zCf blamed (l.getD k default) then [l.getD k default] else []) := by
 unfold zB7
 rw [yNs h, yNx, zU h]
 congr 1
 by_cases hf : zCf blamed l[k] = true <;> simp [hf]
structure InT (n : Nat) (t : List Int) : Prop where
 len : t.length = n
 lim : ∀ i, -((n : Int) * 3000000000000000) ≤ t.getD i 0 ∧ t.getD i 0 ≤ 0
theorem InT.zero (n : Nat) : InT n (List.replicate n 0) := ⟨by simp, fun i => by
 have : (List.replicate n (0 : Int)).getD i 0 = 0 := by
  rw [yLp, List.getElem?_replicate]
  split <;> rfl
 rw [this]; omega⟩
theorem InT.relax {n : Nat} {t : List Int} (h : InT n t) {e : Bf.E} (hb : e.b < n) (hl : ¬ (Bf.relaxL t e).getD e.b 0 < -((n : Int) * 3000000000000000)) : InT n (Bf.relaxL t e) := by
 refine ⟨by rw [Bf.relaxL_len, h.len], fun i => ?_⟩
 have h1 := h.lim i
 have h2 := h.lim e.b
 have h3 : (Bf.relaxL t e).getD i 0 = if i = e.b then min (t.getD e.b 0) (t.getD e.a 0 + e.m) else t.getD i 0 := Bf.getD_set (by rw [h.len]; exact hb)
 have h4 : (Bf.relaxL t e).getD e.b 0 = min (t.getD e.b 0) (t.getD e.a 0 + e.m) := by
  have := Bf.getD_set (t := t) (i := e.b) (j := e.b) (v := min (t.getD e.b 0) (t.getD e.a 0 + e.m)) (by rw [h.len]; exact hb)
  rwa [if_pos rfl] at this
 rw [h3]
 rw [h4] at hl
 split <;> omega
theorem zHc (l : List zH) (hl : l.length ≤ 1000000) (n : Nat) (hn : 1 ≤ n ∧ n ≤ 1000) (hb : ∀ b ∈ l, xQ n b) (blamed : List zB) (hbl : blamed.length ≤ 4611686018427387904) :
  FnA Tryz.prog 49 [lA 4 zH.av l, .raw (.int .i64 n), lA 2 zB.av blamed] (.raw (.bool (zBe l n blamed))) := by
 have hfl : (lA 4 zH.av l).free := zC (fun y => zH.free y) _
 have hfb : (lA 2 zB.av blamed).free := zC (fun y => zB.free y) _
 refine en Tryz.func49 Tryz.ntmps49 [.tmp 6] rfl ?_
 try (refine wg ?_; try refine sM fun K hK => ?_)
 refine zQ3 ?_
 try (refine wg ?_; try refine sM fun K hK => ?_)
 refine yP (xE.nilRow 7 36 4 rfl) ?_
 refine zF (fun k : Nat => ⟨91, 0, [(0, true, lA 4 zH.av l), (1, true, .raw (.int .i64 n)), (2, true, lA 2 zB.av blamed), (6, true, .raw (.bool false)), (7, true, .row 0 (zB7 (l.take k) blamed).length), (15, true, lA 4 zH.av l), (16, true, .raw (.int .i64 l.length)), (17, true, .raw (.int .i64 k))], [], [vL (zB7 (l.take k) blamed)], ((0, []), [], true)⟩)
  (fun k => k ≤ l.length) (fun k => l.length - k) 0 ?_ (by omega) ?_
 ·exact wkZ
 ·intro k hk
  rcases yKt k l.length with hlt | hge
  ·have hus := zSg l blamed hlt
   have hw := hb _ (w9 hlt)
   have hfa := yDq (l.getD k default) blamed hbl (by have := hw.2.2.2.1; omega)
   have hul : (zB7 (l.take k) blamed).length ≤ 1000000 := yKr (List.length_filter_le _ _) (by rw [yN3]; omega)
   generalize zB7 (l.take k) blamed = U at *
   try (refine wkR trivial ?_; try refine sM fun K hK => ?_)
   refine zA ⟨_, evl, fun _ => ?_, fun hb => absurd (yOc hb) (by omega)⟩
   try (refine wkR hfa ?_; try refine sM fun K hK => ?_)
   refine zA ⟨_, evl, fun hfr => ?_, fun hfr => ?_⟩
   ·rw [hfr, if_pos rfl] at hus
    try (refine wg ?_; try refine sM fun K hK => ?_)
    refine ⟨k + 1, by omega, by omega, ?_⟩
    rw [hus]
    refine wkn ?_ ?_ ?_
    all_goals first | exact wk0 | refine wkS ?_ | skip
    all_goals (try trivial)
    all_goals ((repeat' apply And.intro) <;> first | exact wkL | skip)
    exact fun q hq => z8.of_eq (kA rfl (by simpa using hq) rfl)
   ·rw [hfr, if_neg (by decide), yMj] at hus
    try (refine wkR trivial ?_; try refine sM fun K hK => ?_)
    refine ⟨k + 1, by omega, by omega, ?_⟩
    rw [hus]
    exact wkZ
  ·obtain rfl : k = l.length := by omega
   rw [yNt]
   unfold zBe
   have hub : ∀ b ∈ zB7 l blamed, xQ n b := fun b h => hb b (yNl.1 h).1
   have hul : (zB7 l blamed).length ≤ 1000000 := yKr (List.length_filter_le _ _) hl
   generalize zB7 l blamed = U at *
   clear hb hl hfl hbl hfb hk hge
   try (refine wkR trivial ?_; try refine sM fun K hK => ?_)
   refine zA ⟨_, evl, fun hb => absurd (yNw hb) (by omega), fun _ => ?_⟩
   try (first | refine wkN hK trivial ?_ | refine wkR trivial ?_)
   try clear hK K
   try refine sM fun K hK => ?_
   refine zFb n (by omega) rfl rfl rfl rfl ⟨evl, _, evl, _, evl, ?_⟩
   try (first | refine wkN hK trivial ?_ | refine wkR trivial ?_)
   try clear hK K
   try refine sM fun K hK => ?_
   generalize hC : (n : Int) * 3000000000000000 = C
   generalize hX : Bf.possL C (U.map toE) (n + 1) (List.replicate n 0) = X
   refine zF (fun p : Nat × List Int => ⟨91, 0, [(1, true, .raw (.int .i64 n)), (6, true, .raw (.bool false)), (7, true, .row 0 U.length), (10, true, .bsl 1 0 0 n n), (32, true, .raw (.int .i64 ((n : Int) + 1))), (33, true, .raw (.int .i64 p.1))], [zA5 p.2], [vL U], ((0, []), [], true)⟩)
    (fun p => p.1 ≤ n + 1 ∧ InT n p.2 ∧ X = Bf.possL C (U.map toE) (n + 1 - p.1) p.2) (fun p => n + 1 - p.1) (0, List.replicate n 0) ?_ ⟨by omega, InT.zero n, hX.symm⟩ ?_
   ·exact wkZ
   rintro ⟨k, t⟩ ⟨hk, ht, he⟩
   simp only at hk ht he ⊢
   clear hX
   rcases yKt k (n + 1) with hlt | hge
   ·try (refine wkR trivial ?_; try refine sM fun K hK => ?_)
    refine zA ⟨_, evl, fun _ => ?_, fun hb => absurd (yOc hb) (by omega)⟩
    try (refine wkR trivial ?_; try refine sM fun K hK => ?_)
    refine zF (fun j : Nat => ⟨91, 0, [(1, true, .raw (.int .i64 n)), (6, true, .raw (.bool false)), (7, true, .row 0 U.length), (10, true, .bsl 1 0 0 n n), (32, true, .raw (.int .i64 ((n : Int) + 1))), (33, true, .raw (.int .i64 k)), (35, true, .row 0 U.length), (36, true, .raw (.int .i64 U.length)), (37, true, .raw (.int .i64 j))], [zA5 t], [vL U], ((0, []), [], true)⟩)
     (fun j => j ≤ U.length ∧ ∀ i, i < j → t.getD (U.getD i default).to_.toNat 0 ≤ t.getD (U.getD i default).from_.toNat 0 + (U.getD i default).most) (fun j => U.length - j) 0 ?_ ⟨by omega, fun i h => by omega⟩ ?_
    ·exact wkZ
    rintro j ⟨hj, hall⟩
    rcases yKt j U.length with hlj | hgj
    ·have hbj := hub _ (w9 hlj)
     obtain ⟨hb1, hb2, hb3, -⟩ := hbj
     have hl := ht.lim
     have hl1 := ht.lim ((U.getD j default).to_.toNat * 1)
     have hl2 := ht.lim ((U.getD j default).from_.toNat * 1)
     have hlen : (zA5 t).length = n := by rw [jN, ht.len]
     haveI : InB t ((U.getD j default).to_.toNat * 1) := ⟨by rw [ht.len]; omega⟩
     haveI : InB t ((U.getD j default).from_.toNat * 1) := ⟨by rw [ht.len]; omega⟩
     try (refine wkR trivial ?_; try refine sM fun K hK => ?_)
     refine zA ⟨_, evl, fun _ => ?_, fun hb => absurd (yOc hb) (by omega)⟩
     repeat (refine stG ?_)
     refine zE (fun K hK => ?_)
     iterate 4 (refine stG ?_)
     refine z0 1 obf ⟨_, evl, _, evl, ?_⟩
     refine zG (hK _ ?_); clear hK K
     try (refine wkB trivial ?_; try refine sM fun K hK => ?_)
     rw [yLv, yLv]
     refine zA ⟨_, evl, fun hv => ?_, fun hv => ?_⟩
     ·have hv1 : Bf.viol (U.map toE) t = true := by
       rw [Bf.viol, yNd]
       exact ⟨toE (U.getD j default), yMf.2 ⟨_, w9 hlj, rfl⟩, hv⟩
      obtain ⟨f, hf⟩ : ∃ f, n + 1 - k = f + 1 := ⟨n - k, by omega⟩
      rw [hf, Bf.possL, if_pos hv1] at he
      clear hv hv1 hall hl hl1 hl2 hb1 hb2 hb3 hlen
      generalize hS : Bf.sweepL C (U.map toE) t = S at *
      try (refine wkB trivial ?_; try refine sM fun K hK => ?_)
      refine zF (fun p : Nat × List Int => ⟨91, 0, [(1, true, .raw (.int .i64 n)), (6, true, .raw (.bool false)), (7, true, .row 0 U.length), (10, true, .bsl 1 0 0 n n), (32, true, .raw (.int .i64 ((n : Int) + 1))), (33, true, .raw (.int .i64 k)), (55, true, .row 0 U.length), (56, true, .raw (.int .i64 U.length)), (57, true, .raw (.int .i64 p.1))], [zA5 p.2], [vL U], ((0, []), [], true)⟩)
       (fun p => p.1 ≤ U.length ∧ InT n p.2 ∧ S = Bf.sweepL C ((U.drop p.1).map toE) p.2) (fun p => U.length - p.1) (0, t) ?_ ⟨by omega, ht, by rw [List.drop_zero]; exact hS.symm⟩ ?_
      ·exact wkZ
      rintro ⟨i, t'⟩ ⟨hi, ht', he'⟩
      simp only at hi ht' he' ⊢
      rcases yKt i U.length with hli | hgi
      ·have hbj := hub _ (w9 hli)
       obtain ⟨hb1, hb2, hb3, -⟩ := hbj
       have hl1 := ht'.lim ((U.getD i default).to_.toNat * 1)
       have hl2 := ht'.lim ((U.getD i default).from_.toNat * 1)
       have hlen : (zA5 t').length = n := by rw [jN, ht'.len]
       haveI : InB t' ((U.getD i default).to_.toNat * 1) := ⟨by rw [ht'.len]; omega⟩
       haveI : InB t' ((U.getD i default).from_.toNat * 1) := ⟨by rw [ht'.len]; omega⟩
       try (refine wkR trivial ?_; try refine sM fun K hK => ?_)
       refine zA ⟨_, evl, fun _ => ?_, fun hb => absurd (yOc hb) (by omega)⟩
       repeat (refine stG ?_)
       refine zE (fun K hK => ?_)
       iterate 4 (refine stG ?_)
       refine z0 1 obf ⟨_, evl, _, evl, ?_⟩
       refine zG (hK _ ?_); clear hK K
       repeat (refine stB ?_)
       refine kJ true (by kernel_rfl) (by kernel_rfl) (fun K hK => ?_)
       repeat (refine stB ?_)
       refine zX rfl ⟨_, evl, fun nb' => ?_⟩
       have hin : (U.getD i default).to_.toNat * 1 + 1 ≤ (zA5 t').length := by omega
       refine zH6 yH rfl rfl rfl ⟨_, _, evl, _, evl, _, evl, _, evl, ⟨(by simp [yQ, AV.oneL, AV.one, Value.oneCell']), rfl, hin⟩, _, evl, ?_⟩
       repeat (refine stB ?_)
       refine zP (hK _ ?_); clear hK K
       have hr : t'.set ((U.getD i default).to_.toNat * 1) (min (t'.getD ((U.getD i default).to_.toNat * 1) 0) (t'.getD ((U.getD i default).from_.toNat * 1) 0 + (U.getD i default).most)) = Bf.relaxL t' (toE (U.getD i default)) := by simp only [yLv]; rfl
       rw [hr]
       have hrl : (Bf.relaxL t' (toE (U.getD i default))).length = n := by rw [Bf.relaxL_len, ht'.len]
       have hrx := ht'.relax (e := toE (U.getD i default)) (show (U.getD i default).to_.toNat < n by omega)
       have hsw : Bf.sweepL C ((U.drop i).map toE) t' = if (Bf.relaxL t' (toE (U.getD i default))).getD ((U.getD i default).to_.toNat * 1) 0 < -C then none else Bf.sweepL C ((U.drop (i + 1)).map toE) (Bf.relaxL t' (toE (U.getD i default))) := by
        rw [zLb hli, yLt, Bf.sweepL, yLv]
        rfl
       rw [hsw] at he'
       rw [show (toE (U.getD i default)).b = (U.getD i default).to_.toNat * 1 from (yLv _).symm] at hrx
       clear hr hsw
       generalize Bf.relaxL t' (toE (U.getD i default)) = T at *
       haveI : InB T ((U.getD i default).to_.toNat * 1) := ⟨by rw [hrl]; omega⟩
       have hlen2 : (zA5 T).length = n := by rw [jN, hrl]
       have f1 : IntKind.i64.wrap (-(n : Int)) = -(n : Int) := yX (k := .i64) (by simp only [inK]; omega)
       try (refine wkB trivial ?_; try refine sM fun K hK => ?_)
       refine zA ⟨_, evl, fun hbad => ?_, fun hgo => ?_⟩
       ·have : T.getD ((U.getD i default).to_.toNat * 1) 0 < -C := by
         have := yNw hbad
         omega
        rw [if_pos this] at he'
        rw [he'] at he
        try (refine wkB trivial ?_; try refine sM fun K hK => ?_)
        refine rq ?_ ?_
        ·rw [he]
        ·simp [AV.free]
       ·have hgo2 : ¬ T.getD ((U.getD i default).to_.toNat * 1) 0 < -C := by
         have := yOc hgo
         omega
        rw [if_neg hgo2] at he'
        try (refine wkB trivial ?_; try refine sM fun K hK => ?_)
        refine ⟨(i + 1, T), ⟨by simp only; omega, hrx (by rw [hC]; exact hgo2), he'⟩, by simp only; omega, ?_⟩
        exact wkZ
      ·obtain rfl : i = U.length := by omega
       rw [List.drop_length] at he'
       have he2 : S = some t' := he'
       rw [he2] at he
       try (refine wkB trivial ?_; try refine sM fun K hK => ?_)
       refine zA ⟨_, evl, fun hb => absurd (yNw hb) (by omega), fun _ => ?_⟩
       try (refine wkB trivial ?_; try refine sM fun K hK => ?_)
       refine ⟨(k + 1, t'), ⟨by simp only; omega, ht', by rw [show n + 1 - (k + 1) = f by omega]; exact he⟩, by simp only; omega, ?_⟩
       exact wkZ
     ·try (refine wkB trivial ?_; try refine sM fun K hK => ?_)
      refine ⟨j + 1, ⟨by omega, fun i hi => ?_⟩, by omega, ?_⟩
      ·rcases yNv.1 hi with h | rfl
       ·exact hall i h
       ·have := yOc hv
        omega
      ·exact wkZ
    ·obtain rfl : j = U.length := by omega
     have hv1 : Bf.viol (U.map toE) t = false := by
      rw [Bf.viol, yNc]
      intro e he2
      obtain ⟨b, hb, rfl⟩ := yMf.1 he2
      obtain ⟨i, hi, rfl⟩ := yNb.1 hb
      have := hall i hi
      rw [zU hi] at this
      refine fun h => absurd (yNw h) ?_
      show ¬ (t.getD U[i].from_.toNat 0 + U[i].most < t.getD U[i].to_.toNat 0)
      omega
     obtain ⟨f, hf⟩ : ∃ f, n + 1 - k = f + 1 := ⟨n - k, by omega⟩
     rw [hf, Bf.possL, if_neg (by rw [hv1]; decide)] at he
     try (refine wkB trivial ?_; try refine sM fun K hK => ?_)
     refine zA ⟨_, evl, fun hb => absurd (yNw hb) (by omega), fun _ => ?_⟩
     try (refine wkB trivial ?_; try refine sM fun K hK => ?_)
     refine rq ?_ ?_
     ·rw [he]
     ·simp [AV.free]
   ·obtain rfl : k = n + 1 := by omega
    rw [yM9] at he
    try (refine wkB trivial ?_; try refine sM fun K hK => ?_)
    refine zA ⟨_, evl, fun hb => absurd (yNw hb) (by omega), fun _ => ?_⟩
    try (refine wkB trivial ?_; try refine sM fun K hK => ?_)
    refine rq ?_ ?_
    ·rw [he]; rfl
    ·simp [AV.free]
end Go.Proofs.YtchpbdecipcelaaGreatDoor
