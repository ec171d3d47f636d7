import Derived.Test.YtchpbdecipcelaaGreatDoorHO01
import Derived.Laws.MakeOwn
import Derived.Test.YtchpbdecipcelaaGreatDoorHO37
namespace Go.Proofs.YtchpbdecipcelaaGreatDoor
set_option linter.unusedVariables false
set_option linter.unusedSimpArgs false
set_option maxHeartbeats 4000000
set_option maxRecDepth 100000
open Go.RowKit
def zDn (t : List Int) : List AV := t.map fun x => .raw (.int .i64 x)
theorem zEg (t : List Int) : (zDn t).length = t.length := by simp [zDn]
class InB (t : List Int) (i : Nat) : Prop where
 lt : i < t.length
@[go_sem] theorem yB1 (t : List Int) (i : Nat) [h : InB t i] : zX6 (zDn t) i = .raw (.int .i64 (t.getD i 0)) := by
 have h1 := zEd (cs := zDn t) (k := i) (by rw [zEg]; exact h.lt)
 have h2 := h.lt
 rw [zDn, yJj, yJh h2] at h1
 simp only [yIx, yIg] at h1
 rw [zDn, ← h1, yJk, yJh h2]
 rfl
theorem zGp : ∀ (t : List Int) (i : Nat) (v : Int), vG (zDn t) i [.raw (.int .i64 v)] = zDn (t.set i v)
 | [], 0, _ => rfl
 | [], _ + 1, _ => rfl
 | x :: t, 0, v => by
  have : ∀ l : List AV, qW ([] : List AV) l = l := fun l => by cases l <;> rfl
  simp [zDn, vG, qW]
 | x :: t, i + 1, v => by
  have := zGp t i v
  simp only [zDn, yJo, vG, List.set_cons_succ, List.cons.injEq, yIw] at this ⊢
  exact this
@[go_sem] theorem yAu (t : List Int) (i : Nat) (v : Int) : vG (zDn t) i [.raw (.int .i64 v)] = zDn (t.set i v) := zGp t i v
@[simp] theorem zJy (t : List Int) : AV.freeL (zDn t) := by
 induction t with
 | nil => trivial
 | cons x t ih => exact ⟨trivial, ih⟩
@[simp] theorem yCh (m n : Nat) (t : List Int) : AV.subL m n (zDn t) := AV.subL_free _ (zJy t)
@[simp] theorem yCi (m : Nat) (t : List Int) : AV.belL m (zDn t) := AV.belL_free _ (zJy t)
theorem zSr (n : Nat) : (madeCells #[.int .i64 0] n).toList = (List.replicate n 0).map fun x : Int => Value.int .i64 x := by
 refine List.ext_getElem (by simp [madeCells]) fun i h1 h2 => ?_
 simp only [madeCells, Array.toList_map, Array.toList_range, yKc, yM4] at h1
 simp [madeCells, Nat.mod_one]
theorem zLj {ops : Array Oper} {rest : List Oper} {K : ASt → Prop} {nt nb : Nat} {sl : List (Nat × (Bool × AV))} {bx : List (List AV)} {rw : List z9} {ys : (Nat × List (List AV)) × List (List AV) × Bool} {o : Oper} {d : Nat} {l : Operand} (n : Nat) (hn0 : n ≤ 16777216)
  (hop : o.op = .makeSlice 51 l l) (hg : o.guard = none) (hd : o.dst = some d) (hn : Nat.blt d nt = true)
  (h : ASt.ev ⟨nt, nb, sl, bx, rw, ys⟩ l = some (true, .raw (.int .i64 n)) ∧ ∃ m, bx.length = m ∧ ∃ bx', bx ++ [zDn (List.replicate n 0)] = bx' ∧ xM Tryz.prog ops rest K ⟨nt, nb, (d, (true, .bsl 1 m 0 n n)) :: sl, bx', rw, ys⟩) : xM Tryz.prog ops (o :: rest) K ⟨nt, nb, sl, bx, rw, ys⟩ := by
 obtain ⟨he, m, rfl, bx', rfl, hk⟩ := h
 intro C G a w Q hs hQ
 refine wpListIn_plain hg fun K' hK => ?_
 refine z0 (fun c hc => by rw [hop] at hc; cases hc) ?_
 obtain ⟨dst, op, type, pos, after, guard⟩ := o
 simp only at hop hd
 subst hop
 subst hd
 have e0 := (yX (x := l) fun t _ => hs.slot t) _ _ he rfl
 have e1 : a.eval l = .int .i64 (n : Int) := e0
 obtain ⟨i, hi, hz⟩ : ∃ i, Tryz.prog.info? 3 = some i ∧ (i.zero = some (.int .i64 0) ∧ i.size = 1 ∧ i.bytes = 8) := by
  have h : (Tryz.prog.info? 3).map (fun i => (i.zero, i.size, i.bytes)) = some (some (.int .i64 0), 1, 8) := by kernel_rfl
  obtain ⟨i, h1, h2⟩ := yIy.1 h
  simp only [yIv] at h2
  exact ⟨i, h1, h2⟩
 have hml : n ≤ maxLen := by simp only [maxLen]; omega
 have e3 := run_make (P := Tryz.prog) w 51 3 i (.int .i64 0) (by kernel_rfl) hi hz.1 .i64 .i64 n n (by omega) (yM6 _) (by rw [hz.2.2]; omega) (by omega)
 rw [hz.2.1, yJq, yJs, show (Value.int .i64 0).cells = #[.int .i64 0] from rfl] at e3
 have hrun : (execOp a.eval ⟨some d, .makeSlice 51 l l, type, pos, after, guard⟩).run Tryz.prog w = .ok (.value (.slice (some ⟨w.heap.size, 0, none⟩) n n)) (w.alloc (.cells (madeCells #[.int .i64 0] n) 3)) := by
  simp only [execOp, Sem.run_bind, e1, e3, Result.andThen_ok]; rfl
 rw [hrun, Oper.uponIn_value]
 have hcells : (madeCells #[.int .i64 0] n) = ((List.replicate n 0).map fun x : Int => Value.int .i64 x).toArray := by
  rw [← zSr]
 rw [hcells]
 have e2 : AV.relL G w (zDn (List.replicate n 0)) ((List.replicate n 0).map fun x : Int => Value.int .i64 x) := AV.relL_mk (by simp [zDn]) fun j x v hx hv => by
  rw [zDn, yJj] at hx
  rw [yJj] at hv
  cases hj : (List.replicate n (0 : Int))[j]? with
  | none => rw [hj] at hx; cases hx
  | some y =>
   rw [hj] at hx hv
   cases hx
   cases hv
   rfl
 refine hK _ _ (hk C _ _ _ Q ((hs.push 3 e2).put (by simpa [yK2] using hn) (fun _ => ⟨w.heap.size, _, ?_, rfl, yIn _, hml, fun _ => rfl⟩) (fun h => by cases h)) hQ)
 show (G.bx ++ [w.heap.size])[bx.length]? = _
 rw [← hs.mem.lenB, yJy (yIn _), yK5]
 rfl
theorem zK1 (l : List zB) (hl : l.length ≤ 4611686018427387904) (g : FuncId) (cap : List AV) (hcap : AV.freeL cap) (p : zB → Bool) (hp : ∀ x ∈ l, FnA Tryz.prog g (.agg x.av :: cap) (.raw (.bool (p x)))) :
  FnA Tryz.prog 95 [lA 2 zB.av l, .fn (.func g) [] cap] (.raw (.int .i64 (jU p l))) := by
 refine en Tryz.func95 Tryz.ntmps95 [.tmp 4] rfl ?_
 try (refine wg ?_; try refine sM fun K hK => ?_)
 refine zJ (fun k : Nat => ⟨19, 0, [(0, true, lA 2 zB.av l), (1, true, .fn (.func g) [] cap), (7, true, .raw (.int .i64 l.length)), (8, true, .raw (.int .i64 k))], [], [], ((0, []), [], true)⟩)
  (fun k => k ≤ l.length ∧ ∀ i, i < k → p (l.getD i default) = false) (fun k => l.length - k) 0 ?_ ⟨by omega, fun i h => by omega⟩ ?_
 ·exact wkZ
 ·rintro k ⟨hk, hall⟩
  try (refine wg ?_; try refine sM fun K hK => ?_)
  refine zA ⟨_, evl, ?_, ?_⟩
  ·intro hlt
   simp only [yJm] at hlt
   have hmem : l.getD k default ∈ l := by rw [yJk, yJh (show k < l.length by omega)]; exact yLb _
   have hpk := hp _ hmem
   have hfe : AV.freeL (zB.av (l.getD k default)) := by first | exact zB.free _ | (simp [AV.free, AV.freeL, iC, u8C, kC]; done)
   try (refine wkg hpk ?_; try refine sM fun K hK => ?_)
   refine zA ⟨_, evl, ?_, ?_⟩
   ·intro hb
    try (refine wg ?_; try refine sM fun K hK => ?_)
    refine rq ?_ ?_
    ·rw [vH (show k < l.length by omega) hall hb]
    ·simp [AV.free]
   ·intro hb
    try (refine wg ?_; try refine sM fun K hK => ?_)
    refine ⟨k + 1, ⟨by omega, fun i hi => ?_⟩, by omega, ?_⟩
    ·rcases yLu.1 hi with h | rfl
     ·exact hall i h
     ·exact hb
    ·exact wkZ
  ·intro hge
   simp only [yKu] at hge
   try (refine wg ?_; try refine sM fun K hK => ?_)
   refine rq ?_ ?_
   ·rw [xY (fun i hi => hall i (by omega))]
   ·simp [AV.free]
theorem y6 (l : List zB) (hl : l.length ≤ 4611686018427387904) (g : FuncId) (cap : List AV) (hcap : AV.freeL cap) (p : zB → Bool) (hp : ∀ x ∈ l, FnA Tryz.prog g (.agg x.av :: cap) (.raw (.bool (p x)))) :
  FnA Tryz.prog 45 [lA 2 zB.av l, .fn (.func g) [] cap] (.raw (.bool (l.any p))) := by
 have hi := zK1 l hl g cap hcap p hp
 have hany := jK p l
 have hfr : (lA 2 zB.av l).free := zE (fun y => zB.free y) _
 generalize lA 2 zB.av l = L at hi hfr
 generalize jU p l = i at hi hany
 refine en Tryz.func45 Tryz.ntmps45 [.tmp 4] rfl ?_
 repeat' first
  | refine wkg hi ?_
  | (refine cS (fun hb => ?_) fun hb => ?_ <;> try (cases hb; done))
  | refine sM fun K hK => ?_
  | fail
 all_goals (try (refine zR (by simp) ⟨_, _, _, evl, ob0, zV.sims ?_ fre⟩))
 all_goals first | exact z6.refl _ | exact yA9 | exact yU | (refine z6.tup ?_; simp only [z8, yKn]; (repeat' apply And.intro) <;> first | exact yU | skip) | (exfalso; first | omega | (simp_all; done) | (simp_all; omega)) | skip
 all_goals (rw [hany])
theorem zK2 (l : List zO) (hl : l.length ≤ 4611686018427387904) (g : FuncId) (cap : List AV) (hcap : AV.freeL cap) (p : zO → Bool) (hp : ∀ x ∈ l, FnA Tryz.prog g (.agg x.av :: cap) (.raw (.bool (p x)))) :
  FnA Tryz.prog 96 [lA 4 zO.av l, .fn (.func g) [] cap] (.raw (.int .i64 (jU p l))) := by
 refine en Tryz.func96 Tryz.ntmps96 [.tmp 4] rfl ?_
 try (refine wg ?_; try refine sM fun K hK => ?_)
 refine zJ (fun k : Nat => ⟨19, 0, [(0, true, lA 4 zO.av l), (1, true, .fn (.func g) [] cap), (7, true, .raw (.int .i64 l.length)), (8, true, .raw (.int .i64 k))], [], [], ((0, []), [], true)⟩)
  (fun k => k ≤ l.length ∧ ∀ i, i < k → p (l.getD i default) = false) (fun k => l.length - k) 0 ?_ ⟨by omega, fun i h => by omega⟩ ?_
 ·exact wkZ
 ·rintro k ⟨hk, hall⟩
  try (refine wg ?_; try refine sM fun K hK => ?_)
  refine zA ⟨_, evl, ?_, ?_⟩
  ·intro hlt
   simp only [yJm] at hlt
   have hmem : l.getD k default ∈ l := by rw [yJk, yJh (show k < l.length by omega)]; exact yLb _
   have hpk := hp _ hmem
   have hfe : AV.freeL (zO.av (l.getD k default)) := by first | exact zO.free _ | (simp [AV.free, AV.freeL, iC, u8C, kC]; done)
   try (refine wkg hpk ?_; try refine sM fun K hK => ?_)
   refine zA ⟨_, evl, ?_, ?_⟩
   ·intro hb
    try (refine wg ?_; try refine sM fun K hK => ?_)
    refine rq ?_ ?_
    ·rw [vH (show k < l.length by omega) hall hb]
    ·simp [AV.free]
   ·intro hb
    try (refine wg ?_; try refine sM fun K hK => ?_)
    refine ⟨k + 1, ⟨by omega, fun i hi => ?_⟩, by omega, ?_⟩
    ·rcases yLu.1 hi with h | rfl
     ·exact hall i h
     ·exact hb
    ·exact wkZ
  ·intro hge
   simp only [yKu] at hge
   try (refine wg ?_; try refine sM fun K hK => ?_)
   refine rq ?_ ?_
   ·rw [xY (fun i hi => hall i (by omega))]
   ·simp [AV.free]
theorem zFr (l : List zO) (hl : l.length ≤ 4611686018427387904) (g : FuncId) (cap : List AV) (hcap : AV.freeL cap) (p : zO → Bool) (hp : ∀ x ∈ l, FnA Tryz.prog g (.agg x.av :: cap) (.raw (.bool (p x)))) :
  FnA Tryz.prog 48 [lA 4 zO.av l, .fn (.func g) [] cap] (.raw (.bool (l.any p))) := by
 have hi := zK2 l hl g cap hcap p hp
 have hany := jK p l
 have hfr : (lA 4 zO.av l).free := zE (fun y => zO.free y) _
 generalize lA 4 zO.av l = L at hi hfr
 generalize jU p l = i at hi hany
 refine en Tryz.func48 Tryz.ntmps48 [.tmp 4] rfl ?_
 repeat' first
  | refine wkg hi ?_
  | (refine cS (fun hb => ?_) fun hb => ?_ <;> try (cases hb; done))
  | refine sM fun K hK => ?_
  | fail
 all_goals (try (refine zR (by simp) ⟨_, _, _, evl, ob0, zV.sims ?_ fre⟩))
 all_goals first | exact z6.refl _ | exact yA9 | exact yU | (refine z6.tup ?_; simp only [z8, yKn]; (repeat' apply And.intro) <;> first | exact yU | skip) | (exfalso; first | omega | (simp_all; done) | (simp_all; omega)) | skip
 all_goals (rw [hany])
theorem yBa (l : List zB) (hl : l.length ≤ 4611686018427387904) (p : zB) : FnA Tryz.prog 104 [lA 2 zB.av l, .agg p.av] (.raw (.int .i64 (jU (fun q => decide (p = q)) l))) := by
 have hfr : (lA 2 zB.av l).free := zE (fun y => zB.free y) _
 refine en Tryz.func104 Tryz.ntmps104 [.tmp 4] rfl ?_
 try (refine wg ?_; try refine sM fun K hK => ?_)
 refine zJ (fun k : Nat => ⟨19, 0, [(0, true, lA 2 zB.av l), (3, true, .box 0 0), (7, true, .raw (.int .i64 l.length)), (8, true, .raw (.int .i64 k))], [p.av], [], ((0, []), [], true)⟩)
  (fun k => k ≤ l.length ∧ ∀ i, i < k → decide (p = l.getD i default) = false) (fun k => l.length - k) 0 ?_ ⟨by omega, fun i h => by omega⟩ ?_
 ·exact wkZ
 ·rintro k ⟨hk, hall⟩
  try (refine wg ?_; try refine sM fun K hK => ?_)
  refine zA ⟨_, evl, fun hlt => ?_, fun hge => ?_⟩
  ·simp only [yJm] at hlt
   have hpk : decide (p = l.getD k default) = (decide (p.kind = (l.getD k default).kind) && decide (p.id = (l.getD k default).id)) := by
    rw [yJ8]
    cases p
    cases l.getD k default
    simp
   try (refine wg ?_; try refine sM fun K hK => ?_)
   refine zA ⟨_, evl, fun hb => ?_, fun hb => ?_⟩
   ·try (refine wg ?_; try refine sM fun K hK => ?_)
    refine rq ?_ ?_
    ·rw [vH (show k < l.length by omega) hall (hpk.trans hb)]
    ·simp [AV.free]
   ·try (refine wg ?_; try refine sM fun K hK => ?_)
    refine ⟨k + 1, ⟨by omega, fun i hi => ?_⟩, by omega, ?_⟩
    ·rcases yLu.1 hi with h | rfl
     ·exact hall i h
     ·exact hpk.trans hb
    ·exact wkZ
  ·simp only [yKu] at hge
   try (refine wg ?_; try refine sM fun K hK => ?_)
   rw [xY (fun i hi => hall i (by omega))]
   all_goals exact fA
theorem zT9 (l : List zB) (hl : l.length ≤ 4611686018427387904) (p : zB) : FnA Tryz.prog 58 [lA 2 zB.av l, .agg p.av] (.raw (.bool (decide (p ∈ l)))) := by
 have hi := yBa l hl p
 have hany : decide (p ∈ l) = decide (0 ≤ jU (fun q => decide (p = q)) l) := by
  rw [jK, yJ8, yM3, yLa]
  simp only [yJm]
  exact ⟨fun h => ⟨p, h, rfl⟩, fun ⟨q, h, e⟩ => e ▸ h⟩
 have hfr : (lA 2 zB.av l).free := zE (fun y => zB.free y) _
 rw [hany]
 generalize lA 2 zB.av l = L at hi hfr
 generalize jU (fun q => decide (p = q)) l = i at hi
 refine en Tryz.func58 Tryz.ntmps58 [.tmp 4] rfl ?_
 repeat' first
  | refine wkg hi ?_
  | (refine cS (fun hb => ?_) fun hb => ?_ <;> try (cases hb; done))
  | refine sM fun K hK => ?_
  | fail
 all_goals exact fA
def zTf (blamed : List zB) (b : zO) : Bool := !(b.who.any fun p => decide (p ∈ blamed))
theorem yA0 (blamed : List zB) (hl : blamed.length ≤ 4611686018427387904) (p : zB) : FnA Tryz.prog 148 [.agg p.av, .elt [lA 2 zB.av blamed] 0] (.raw (.bool (decide (p ∈ blamed)))) := by
 have h := zT9 blamed hl p
 have hfr : (lA 2 zB.av blamed).free := zE (fun y => zB.free y) _
 generalize lA 2 zB.av blamed = L at *
 refine en Tryz.func148 Tryz.ntmps148 [.tmp 3] rfl ?_
 repeat' first
  | refine wkg h ?_
  | (refine cS (fun hb => ?_) fun hb => ?_ <;> try (cases hb; done))
  | refine sM fun K hK => ?_
  | fail
 all_goals exact fA
theorem yBd (b : zO) (blamed : List zB) (hl : blamed.length ≤ 4611686018427387904) (hb : b.who.length ≤ 4611686018427387904) : FnA Tryz.prog 97 [.agg b.av, lA 2 zB.av blamed] (.raw (.bool (zTf blamed b))) := by
 have hfr : (lA 2 zB.av blamed).free := zE (fun y => zB.free y) _
 have hfw : (lA 2 zB.av b.who).free := zE (fun y => zB.free y) _
 have h := y6 b.who hb 148 [.elt [lA 2 zB.av blamed] 0] ⟨⟨hfr, trivial⟩, trivial⟩ (fun p => decide (p ∈ blamed)) (fun p _ => yA0 blamed hl p)
 unfold zTf
 generalize (b.who.any fun p => decide (p ∈ blamed)) = z at *
 refine en Tryz.func97 Tryz.ntmps97 [.tmp 4] rfl ?_
 repeat (refine stG ?_)
 refine zD (fun K hK => ?_)
 iterate 3 (refine stG ?_)
 refine zX 0 obf ⟨_, evl, _, evl, ?_⟩
 try (first | refine wkM hK h ?_ | refine wkg h ?_)
 try clear hK K
 try refine sM fun K hK => ?_
 all_goals exact fA
def qI (l : List zB) : Prop := l.length ≤ 100 ∧ ∀ p ∈ l, wU p
instance (l : List zB) : Decidable (qI l) := by unfold qI; infer_instance
theorem zAd (p : zB) : FnA Tryz.prog 42 [.agg p.av] (.raw (.bool (!decide (wU p)))) := by
 have h := zSx p
 generalize decide (wU p) = z at *
 refine en Tryz.func42 Tryz.ntmps42 [.tmp 2] rfl ?_
 repeat' first
  | refine wkg h ?_
  | (refine cS (fun hb => ?_) fun hb => ?_ <;> try (cases hb; done))
  | refine sM fun K hK => ?_
  | fail
 all_goals exact fA
abbrev zSj : AV := .raw (.func (.func 42) #[] #[])
theorem zU2 (l : List zB) : FnA Tryz.prog 44 [lA 2 zB.av l, .elt [zSj] 0] (.raw (.bool (decide (qI l)))) := by
 have hfr : (lA 2 zB.av l).free := zE (fun y => zB.free y) _
 have e : decide (qI l) = (decide ((l.length : Int) ≤ 100) && !(l.any fun p => !decide (wU p))) := by
  rw [yJ8, yJl, yM3, yM3, yJn, yL9]
  simp only [qI, yJn, yKu, yLl]
  exact ⟨fun h => ⟨by omega, h.2⟩, fun h => ⟨by omega, h.2⟩⟩
 rw [e]
 refine en Tryz.func44 Tryz.ntmps44 [.tmp 3] rfl ?_
 repeat'
  first
   | first
    | (refine zF (hK _ ?_); clear hK K)
    | refine stG ?_
    | (refine yH 1 rfl ?_; refine zN rfl rfl ⟨_, evl, _, _, _, evl, yR, ?_⟩; apply Exists.intro; refine ⟨fun hg => ?_, ?_⟩; · first | exact FnA.at_ (y6 l (by have := yLv hg; omega) 42 [] trivial (fun p => !decide (wU p)) (fun p _ => zAd p)) rfl rfl | exact FnA.at_s (y6 l (by have := yLv hg; omega) 42 [] trivial (fun p => !decide (wU p)) (fun p _ => zAd p)) rfl xB | exact FnA.at_s (y6 l (by have := yLv hg; omega) 42 [] trivial (fun p => !decide (wU p)) (fun p _ => zAd p)) rfl xC)
    | (refine zS 1 rfl ?_; refine zP rfl ⟨_, evl, _, _, _, (fun _ _ => w7), yR, ?_⟩; apply Exists.intro; refine ⟨fun hg => ?_, ?_⟩; · first | exact FnA.at_ (y6 l (by have := yLv hg; omega) 42 [] trivial (fun p => !decide (wU p)) (fun p _ => zAd p)) rfl rfl | exact FnA.at_s (y6 l (by have := yLv hg; omega) 42 [] trivial (fun p => !decide (wU p)) (fun p _ => zAd p)) rfl xB | exact FnA.at_s (y6 l (by have := yLv hg; omega) 42 [] trivial (fun p => !decide (wU p)) (fun p _ => zAd p)) rfl xC)
    | (refine zS 1 rfl ?_; refine zG ?_)
    | (refine z7 ?_; first | (refine zK (hK _ ?_); clear hK K) | (refine zT rfl ⟨_, evl, fun nb' => ?_⟩))
    | refine zD (fun K hK => ?_)
    | (refine xD ?_; first | (refine zC false rfl (by kernel_rfl) (by kernel_rfl) (fun K hK => ?_)) | (refine zC true rfl (by kernel_rfl) (by kernel_rfl) (fun K hK => ?_)))
    | (refine zA ⟨_, evl, fun hb => ?_, fun hb => ?_⟩ <;> (try simp only [yKt, yJl, yKw, yKv, yJn, yKs, yJd, yLj, yJm, yKu, yLk, yK3, ne_eq, yLl, yJc, yLm, yKg, yKh] at hb))
   | fail
 all_goals exact fA
abbrev zU3 : AV := .fn (.func 44) [] [.elt [zSj] 0]
def wK (n : Int) (b : zO) : Prop := (0 ≤ b.from_ ∧ b.from_ ≤ n - 1) ∧ (0 ≤ b.to_ ∧ b.to_ ≤ n - 1) ∧ (-3000000000000000 ≤ b.most ∧ b.most ≤ 3000000000000000) ∧ qI b.who
instance (n : Int) (b : zO) : Decidable (wK n b) := by unfold wK; infer_instance
theorem yBy (n : Int) (hn : 1 ≤ n ∧ n ≤ 1000) (b : zO) : FnA Tryz.prog 46 [.agg b.av, .elt [.raw (.int .i64 n)] 0, .elt [zU3] 0] (.raw (.bool (!decide (wK n b)))) := by
 have hc := zU2 b.who
 have hfr : (lA 2 zB.av b.who).free := zE (fun y => zB.free y) _
 have w1 := yK b.from_ 0 (n - 1)
 have w2 := yK b.to_ 0 (n - 1)
 have w3 := yK b.most (-3000000000000000) 3000000000000000
 have e : (!decide (wK n b)) = (!(decide (0 ≤ b.from_) && decide (b.from_ ≤ n - 1)) || !(decide (0 ≤ b.to_) && decide (b.to_ ≤ n - 1)) || !(decide (-3000000000000000 ≤ b.most) && decide (b.most ≤ 3000000000000000)) || !decide (qI b.who)) := by
  rw [yJ8]
  simp [wK]
  grind
 rw [e]
 clear e
 generalize decide (qI b.who) = z at *
 generalize (decide (0 ≤ b.from_) && decide (b.from_ ≤ n - 1)) = z1 at *
 generalize (decide (0 ≤ b.to_) && decide (b.to_ ≤ n - 1)) = z2 at *
 generalize (decide (-3000000000000000 ≤ b.most) && decide (b.most ≤ 3000000000000000)) = z3 at *
 refine en Tryz.func46 Tryz.ntmps46 [.tmp 4] rfl ?_
 repeat' first
  | refine wkg (And.intro w1 (And.intro w2 (And.intro w3 hc))) ?_
  | (refine cS (fun hb => ?_) fun hb => ?_ <;> try (cases hb; done))
  | refine sM fun K hK => ?_
  | fail
 all_goals exact fA
def toE (b : zO) : Bf.E := ⟨b.from_.toNat, b.to_.toNat, b.most⟩
def zCz (l : List zO) (blamed : List zB) : List zO := l.filter (zTf blamed)
def zDz (l : List zO) (n : Nat) (blamed : List zB) : Bool := Bf.possL ((n : Int) * 3000000000000000) ((zCz l blamed).map toE) (n + 1) (List.replicate n 0)
theorem zTw {α : Type} [Inhabited α] {l : List α} {k : Nat} (h : k < l.length) : l.drop k = l.getD k default :: l.drop (k + 1) := by
 rw [List.drop_eq_getElem_cons h, z5 h]
theorem zR2 (l : List zO) (blamed : List zB) {k : Nat} (h : k < l.length) : zCz (l.take (k + 1)) blamed = zCz (l.take k) blamed ++ (if zTf blamed (l.getD k default) then [l.getD k default] else []) := by
 unfold zCz
 rw [yLq h, List.filter_append, z5 h]
 congr 1
 by_cases hf : zTf blamed l[k] = true <;> simp [hf]
structure InT (n : Nat) (t : List Int) : Prop where
 len : t.length = n
 lim : ∀ i, -((n : Int) * 3000000000000000) ≤ t.getD i 0 ∧ t.getD i 0 ≤ 0
theorem InT.zero (n : Nat) : InT n (List.replicate n 0) := ⟨by simp, fun i => by
 have : (List.replicate n (0 : Int)).getD i 0 = 0 := by
  rw [yJk, List.getElem?_replicate]
  split <;> rfl
 rw [this]; omega⟩
theorem InT.relax {n : Nat} {t : List Int} (h : InT n t) {e : Bf.E} (hb : e.b < n) (hl : ¬ (Bf.relaxL t e).getD e.b 0 < -((n : Int) * 3000000000000000)) : InT n (Bf.relaxL t e) := by
 refine ⟨by rw [Bf.relaxL_len, h.len], fun i => ?_⟩
 have h1 := h.lim i
 have h2 := h.lim e.b
 have h3 : (Bf.relaxL t e).getD i 0 = if i = e.b then min (t.getD e.b 0) (t.getD e.a 0 + e.m) else t.getD i 0 := Bf.getD_set (by rw [h.len]; exact hb)
 have h4 : (Bf.relaxL t e).getD e.b 0 = min (t.getD e.b 0) (t.getD e.a 0 + e.m) := by
  have := Bf.getD_set (t := t) (i := e.b) (j := e.b) (v := min (t.getD e.b 0) (t.getD e.a 0 + e.m)) (by rw [h.len]; exact hb)
  rwa [if_pos rfl] at this
 rw [h3]
 rw [h4] at hl
 split <;> omega
theorem zGq (l : List zO) (hl : l.length ≤ 1000000) (n : Nat) (hn : 1 ≤ n ∧ n ≤ 1000) (hb : ∀ b ∈ l, wK n b) (blamed : List zB) (hbl : blamed.length ≤ 4611686018427387904) :
  FnA Tryz.prog 49 [lA 4 zO.av l, .raw (.int .i64 n), lA 2 zB.av blamed] (.raw (.bool (zDz l n blamed))) := by
 have hfl : (lA 4 zO.av l).free := zE (fun y => zO.free y) _
 have hfb : (lA 2 zB.av blamed).free := zE (fun y => zB.free y) _
 refine en Tryz.func49 Tryz.ntmps49 [.tmp 6] rfl ?_
 try (refine wg ?_; try refine sM fun K hK => ?_)
 refine zP1 ?_
 try (refine wg ?_; try refine sM fun K hK => ?_)
 refine yI (xJ.nilRow 7 36 4 rfl) ?_
 refine zJ (fun k : Nat => ⟨91, 0, [(0, true, lA 4 zO.av l), (1, true, .raw (.int .i64 n)), (2, true, lA 2 zB.av blamed), (6, true, .raw (.bool false)), (7, true, .row 0 (zCz (l.take k) blamed).length), (15, true, lA 4 zO.av l), (16, true, .raw (.int .i64 l.length)), (17, true, .raw (.int .i64 k))], [], [qL (zCz (l.take k) blamed)], ((0, []), [], true)⟩)
  (fun k => k ≤ l.length) (fun k => l.length - k) 0 ?_ (by omega) ?_
 ·exact wkZ
 ·intro k hk
  rcases yIq k l.length with hlt | hge
  ·have hus := zR2 l blamed hlt
   have hw := hb _ (zAn hlt)
   have hfa := yBd (l.getD k default) blamed hbl (by have := hw.2.2.2.1; omega)
   have hul : (zCz (l.take k) blamed).length ≤ 1000000 := yIo (List.length_filter_le _ _) (by rw [yKy]; omega)
   generalize zCz (l.take k) blamed = U at *
   try (refine wkR trivial ?_; try refine sM fun K hK => ?_)
   refine zA ⟨_, evl, fun _ => ?_, fun hb => absurd (yMa hb) (by omega)⟩
   try (refine wkR hfa ?_; try refine sM fun K hK => ?_)
   refine zA ⟨_, evl, fun hfr => ?_, fun hfr => ?_⟩
   ·rw [hfr, if_pos rfl] at hus
    try (refine wg ?_; try refine sM fun K hK => ?_)
    refine ⟨k + 1, by omega, by omega, ?_⟩
    rw [hus]
    refine wkn ?_ ?_ ?_
    all_goals first | exact wk0 | refine wkS ?_ | skip
    all_goals (try trivial)
    all_goals ((repeat' apply And.intro) <;> first | exact wkL | skip)
    exact fun q hq => z8.of_eq (jM rfl (by simpa using hq) rfl)
   ·rw [hfr, if_neg (by decide), yKe] at hus
    try (refine wkR trivial ?_; try refine sM fun K hK => ?_)
    refine ⟨k + 1, by omega, by omega, ?_⟩
    rw [hus]
    exact wkZ
  ·obtain rfl : k = l.length := by omega
   rw [yLr]
   unfold zDz
   have hub : ∀ b ∈ zCz l blamed, wK n b := fun b h => hb b (yLi.1 h).1
   have hul : (zCz l blamed).length ≤ 1000000 := yIo (List.length_filter_le _ _) hl
   generalize zCz l blamed = U at *
   clear hb hl hfl hbl hfb hk hge
   try (refine wkR trivial ?_; try refine sM fun K hK => ?_)
   refine zA ⟨_, evl, fun hb => absurd (yLv hb) (by omega), fun _ => ?_⟩
   try (first | refine wkN hK trivial ?_ | refine wkR trivial ?_)
   try clear hK K
   try refine sM fun K hK => ?_
   refine zLj n (by omega) rfl rfl rfl rfl ⟨evl, _, evl, _, evl, ?_⟩
   try (first | refine wkN hK trivial ?_ | refine wkR trivial ?_)
   try clear hK K
   try refine sM fun K hK => ?_
   generalize hC : (n : Int) * 3000000000000000 = C
   generalize hX : Bf.possL C (U.map toE) (n + 1) (List.replicate n 0) = X
   refine zJ (fun p : Nat × List Int => ⟨91, 0, [(1, true, .raw (.int .i64 n)), (6, true, .raw (.bool false)), (7, true, .row 0 U.length), (10, true, .bsl 1 0 0 n n), (32, true, .raw (.int .i64 ((n : Int) + 1))), (33, true, .raw (.int .i64 p.1))], [zDn p.2], [qL U], ((0, []), [], true)⟩)
    (fun p => p.1 ≤ n + 1 ∧ InT n p.2 ∧ X = Bf.possL C (U.map toE) (n + 1 - p.1) p.2) (fun p => n + 1 - p.1) (0, List.replicate n 0) ?_ ⟨by omega, InT.zero n, hX.symm⟩ ?_
   ·exact wkZ
   rintro ⟨k, t⟩ ⟨hk, ht, he⟩
   simp only at hk ht he ⊢
   clear hX
   rcases yIq k (n + 1) with hlt | hge
   ·try (refine wkR trivial ?_; try refine sM fun K hK => ?_)
    refine zA ⟨_, evl, fun _ => ?_, fun hb => absurd (yMa hb) (by omega)⟩
    try (refine wkR trivial ?_; try refine sM fun K hK => ?_)
    refine zJ (fun j : Nat => ⟨91, 0, [(1, true, .raw (.int .i64 n)), (6, true, .raw (.bool false)), (7, true, .row 0 U.length), (10, true, .bsl 1 0 0 n n), (32, true, .raw (.int .i64 ((n : Int) + 1))), (33, true, .raw (.int .i64 k)), (35, true, .row 0 U.length), (36, true, .raw (.int .i64 U.length)), (37, true, .raw (.int .i64 j))], [zDn t], [qL U], ((0, []), [], true)⟩)
     (fun j => j ≤ U.length ∧ ∀ i, i < j → t.getD (U.getD i default).to_.toNat 0 ≤ t.getD (U.getD i default).from_.toNat 0 + (U.getD i default).most) (fun j => U.length - j) 0 ?_ ⟨by omega, fun i h => by omega⟩ ?_
    ·exact wkZ
    rintro j ⟨hj, hall⟩
    rcases yIq j U.length with hlj | hgj
    ·have hbj := hub _ (zAn hlj)
     obtain ⟨hb1, hb2, hb3, -⟩ := hbj
     have hl := ht.lim
     have hl1 := ht.lim ((U.getD j default).to_.toNat * 1)
     have hl2 := ht.lim ((U.getD j default).from_.toNat * 1)
     have hlen : (zDn t).length = n := by rw [zEg, ht.len]
     haveI : InB t ((U.getD j default).to_.toNat * 1) := ⟨by rw [ht.len]; omega⟩
     haveI : InB t ((U.getD j default).from_.toNat * 1) := ⟨by rw [ht.len]; omega⟩
     try (refine wkR trivial ?_; try refine sM fun K hK => ?_)
     refine zA ⟨_, evl, fun _ => ?_, fun hb => absurd (yMa hb) (by omega)⟩
     repeat (refine stG ?_)
     refine zD (fun K hK => ?_)
     iterate 4 (refine stG ?_)
     refine zX 1 obf ⟨_, evl, _, evl, ?_⟩
     refine zF (hK _ ?_); clear hK K
     try (refine wkB trivial ?_; try refine sM fun K hK => ?_)
     rw [yJq, yJq]
     refine zA ⟨_, evl, fun hv => ?_, fun hv => ?_⟩
     ·have hv1 : Bf.viol (U.map toE) t = true := by
       rw [Bf.viol, yLa]
       exact ⟨toE (U.getD j default), yKb.2 ⟨_, zAn hlj, rfl⟩, hv⟩
      obtain ⟨f, hf⟩ : ∃ f, n + 1 - k = f + 1 := ⟨n - k, by omega⟩
      rw [hf, Bf.possL, if_pos hv1] at he
      clear hv hv1 hall hl hl1 hl2 hb1 hb2 hb3 hlen
      generalize hS : Bf.sweepL C (U.map toE) t = S at *
      try (refine wkB trivial ?_; try refine sM fun K hK => ?_)
      refine zJ (fun p : Nat × List Int => ⟨91, 0, [(1, true, .raw (.int .i64 n)), (6, true, .raw (.bool false)), (7, true, .row 0 U.length), (10, true, .bsl 1 0 0 n n), (32, true, .raw (.int .i64 ((n : Int) + 1))), (33, true, .raw (.int .i64 k)), (55, true, .row 0 U.length), (56, true, .raw (.int .i64 U.length)), (57, true, .raw (.int .i64 p.1))], [zDn p.2], [qL U], ((0, []), [], true)⟩)
       (fun p => p.1 ≤ U.length ∧ InT n p.2 ∧ S = Bf.sweepL C ((U.drop p.1).map toE) p.2) (fun p => U.length - p.1) (0, t) ?_ ⟨by omega, ht, by rw [List.drop_zero]; exact hS.symm⟩ ?_
      ·exact wkZ
      rintro ⟨i, t'⟩ ⟨hi, ht', he'⟩
      simp only at hi ht' he' ⊢
      rcases yIq i U.length with hli | hgi
      ·have hbj := hub _ (zAn hli)
       obtain ⟨hb1, hb2, hb3, -⟩ := hbj
       have hl1 := ht'.lim ((U.getD i default).to_.toNat * 1)
       have hl2 := ht'.lim ((U.getD i default).from_.toNat * 1)
       have hlen : (zDn t').length = n := by rw [zEg, ht'.len]
       haveI : InB t' ((U.getD i default).to_.toNat * 1) := ⟨by rw [ht'.len]; omega⟩
       haveI : InB t' ((U.getD i default).from_.toNat * 1) := ⟨by rw [ht'.len]; omega⟩
       try (refine wkR trivial ?_; try refine sM fun K hK => ?_)
       refine zA ⟨_, evl, fun _ => ?_, fun hb => absurd (yMa hb) (by omega)⟩
       repeat (refine stG ?_)
       refine zD (fun K hK => ?_)
       iterate 4 (refine stG ?_)
       refine zX 1 obf ⟨_, evl, _, evl, ?_⟩
       refine zF (hK _ ?_); clear hK K
       repeat (refine stB ?_)
       refine xW true (by kernel_rfl) (by kernel_rfl) (fun K hK => ?_)
       repeat (refine stB ?_)
       refine zT rfl ⟨_, evl, fun nb' => ?_⟩
       have hin : (U.getD i default).to_.toNat * 1 + 1 ≤ (zDn t').length := by omega
       refine zJ0 yQ rfl rfl rfl ⟨_, _, evl, _, evl, _, evl, _, evl, ⟨(by simp [yO, AV.oneL, AV.one, Value.oneCell']), rfl, hin⟩, _, evl, ?_⟩
       repeat (refine stB ?_)
       refine zK (hK _ ?_); clear hK K
       have hr : t'.set ((U.getD i default).to_.toNat * 1) (min (t'.getD ((U.getD i default).to_.toNat * 1) 0) (t'.getD ((U.getD i default).from_.toNat * 1) 0 + (U.getD i default).most)) = Bf.relaxL t' (toE (U.getD i default)) := by simp only [yJq]; rfl
       rw [hr]
       have hrl : (Bf.relaxL t' (toE (U.getD i default))).length = n := by rw [Bf.relaxL_len, ht'.len]
       have hrx := ht'.relax (e := toE (U.getD i default)) (show (U.getD i default).to_.toNat < n by omega)
       have hsw : Bf.sweepL C ((U.drop i).map toE) t' = if (Bf.relaxL t' (toE (U.getD i default))).getD ((U.getD i default).to_.toNat * 1) 0 < -C then none else Bf.sweepL C ((U.drop (i + 1)).map toE) (Bf.relaxL t' (toE (U.getD i default))) := by
        rw [zTw hli, yJo, Bf.sweepL, yJq]
        rfl
       rw [hsw] at he'
       rw [show (toE (U.getD i default)).b = (U.getD i default).to_.toNat * 1 from (yJq _).symm] at hrx
       clear hr hsw
       generalize Bf.relaxL t' (toE (U.getD i default)) = T at *
       haveI : InB T ((U.getD i default).to_.toNat * 1) := ⟨by rw [hrl]; omega⟩
       have hlen2 : (zDn T).length = n := by rw [zEg, hrl]
       have f1 : IntKind.i64.wrap (-(n : Int)) = -(n : Int) := y8 (k := .i64) (by simp only [inK]; omega)
       try (refine wkB trivial ?_; try refine sM fun K hK => ?_)
       refine zA ⟨_, evl, fun hbad => ?_, fun hgo => ?_⟩
       ·have : T.getD ((U.getD i default).to_.toNat * 1) 0 < -C := by
         have := yLv hbad
         omega
        rw [if_pos this] at he'
        rw [he'] at he
        try (refine wkB trivial ?_; try refine sM fun K hK => ?_)
        refine rq ?_ ?_
        ·rw [he]
        ·simp [AV.free]
       ·have hgo2 : ¬ T.getD ((U.getD i default).to_.toNat * 1) 0 < -C := by
         have := yMa hgo
         omega
        rw [if_neg hgo2] at he'
        try (refine wkB trivial ?_; try refine sM fun K hK => ?_)
        refine ⟨(i + 1, T), ⟨by simp only; omega, hrx (by rw [hC]; exact hgo2), he'⟩, by simp only; omega, ?_⟩
        exact wkZ
      ·obtain rfl : i = U.length := by omega
       rw [List.drop_length] at he'
       have he2 : S = some t' := he'
       rw [he2] at he
       try (refine wkB trivial ?_; try refine sM fun K hK => ?_)
       refine zA ⟨_, evl, fun hb => absurd (yLv hb) (by omega), fun _ => ?_⟩
       try (refine wkB trivial ?_; try refine sM fun K hK => ?_)
       refine ⟨(k + 1, t'), ⟨by simp only; omega, ht', by rw [show n + 1 - (k + 1) = f by omega]; exact he⟩, by simp only; omega, ?_⟩
       exact wkZ
     ·try (refine wkB trivial ?_; try refine sM fun K hK => ?_)
      refine ⟨j + 1, ⟨by omega, fun i hi => ?_⟩, by omega, ?_⟩
      ·rcases yLu.1 hi with h | rfl
       ·exact hall i h
       ·have := yMa hv
        omega
      ·exact wkZ
    ·obtain rfl : j = U.length := by omega
     have hv1 : Bf.viol (U.map toE) t = false := by
      rw [Bf.viol, yL9]
      intro e he2
      obtain ⟨b, hb, rfl⟩ := yKb.1 he2
      obtain ⟨i, hi, rfl⟩ := yL8.1 hb
      have := hall i hi
      rw [z5 hi] at this
      refine fun h => absurd (yLv h) ?_
      show ¬ (t.getD U[i].from_.toNat 0 + U[i].most < t.getD U[i].to_.toNat 0)
      omega
     obtain ⟨f, hf⟩ : ∃ f, n + 1 - k = f + 1 := ⟨n - k, by omega⟩
     rw [hf, Bf.possL, if_neg (by rw [hv1]; decide)] at he
     try (refine wkB trivial ?_; try refine sM fun K hK => ?_)
     refine zA ⟨_, evl, fun hb => absurd (yLv hb) (by omega), fun _ => ?_⟩
     try (refine wkB trivial ?_; try refine sM fun K hK => ?_)
     refine rq ?_ ?_
     ·rw [he]
     ·simp [AV.free]
   ·obtain rfl : k = n + 1 := by omega
    rw [yK5] at he
    try (refine wkB trivial ?_; try refine sM fun K hK => ?_)
    refine zA ⟨_, evl, fun hb => absurd (yLv hb) (by omega), fun _ => ?_⟩
    try (refine wkB trivial ?_; try refine sM fun K hK => ?_)
    refine rq ?_ ?_
    ·rw [he]; rfl
    ·simp [AV.free]
end Go.Proofs.YtchpbdecipcelaaGreatDoor
