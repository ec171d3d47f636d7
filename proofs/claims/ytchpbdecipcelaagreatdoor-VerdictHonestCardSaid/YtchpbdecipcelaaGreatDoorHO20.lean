import Derived.Test.YtchpbdecipcelaaGreatDoorHO01
import Derived.Test.YtchpbdecipcelaaGreatDoorHO17
import Derived.Test.YtchpbdecipcelaaGreatDoorHO19
namespace Go.Proofs.YtchpbdecipcelaaGreatDoor
set_option linter.unusedVariables false
set_option linter.unusedSimpArgs false
set_option maxHeartbeats 4000000
set_option maxRecDepth 100000
open Go.RowKit
structure wY where
 host : Int
 auth : Int
 changes : List Change
 deriving Inhabited, DecidableEq
@[go_sem] def wY.av (x : wY) : List AV := [.raw (.int .i64 x.host), .raw (.int .i64 x.auth), lA 5 Change.av x.changes]
@[simp] theorem wY.free (x : wY) : AV.freeL x.av := ⟨trivial, trivial, zE (fun y => Change.free y) _, trivial⟩
def isW (h a : Int) (w : wY) : Bool := decide (w.host = h) && decide (w.auth = a)
theorem zOi (w : wY) : FnA Tryz.prog 181 [.agg w.av] (.agg [.raw (.int .i64 w.host), .raw (.int .i64 w.auth)]) := by
 refine en Tryz.func181 Tryz.ntmps181 [.cell 2 225] rfl ?_
 repeat' first
  | refine wkg trivial ?_
  | (refine cS (fun hb => ?_) fun hb => ?_ <;> try (cases hb; done))
  | refine sM fun K hK => ?_
  | fail
 refine rq ?_ ?_
 ·rfl
 ·simp [AV.free, AV.freeL]
abbrev zMh : AV := .raw (.func (.func 181) #[] #[])
theorem zZ9 (w : wY) (h a : Int) : FnG Tryz.prog 225 [.agg w.av, .box 0 0, .box 1 0] [[zMh], [.raw (.int .i64 h), .raw (.int .i64 a)]] [] (.raw (.bool (isW h a w))) [[zMh], [.raw (.int .i64 h), .raw (.int .i64 a)]] [] := by
 have he := zOi w
 refine enG Tryz.func225 Tryz.ntmps225 [.tmp 4] 2 rfl ?_
 repeat' first
  | refine wkg he ?_
  | (refine cS (fun hb => ?_) fun hb => ?_ <;> try (cases hb; done))
  | refine sM fun K hK => ?_
  | fail
 all_goals (refine yE (by simp) ⟨_, _, _, evl, obq, jB.bel ?_ obb, by simp, ?_, rfl, obb, obb⟩)
 all_goals first | rfl | (simp [isW]; done) | (simp_all [isW]; done) | (simp_all [isW]; omega) | (simp [isW]; grind) | (split <;> simp_all) | skip
theorem zVw (l : List wY) (hl : l.length ≤ 4611686018427387904) (h a : Int) : FnG Tryz.prog 129 [lA 3 wY.av l, .fn (.func 225) [] [.box 0 0, .box 1 0]] [[zMh], [.raw (.int .i64 h), .raw (.int .i64 a)]] [] (.raw (.int .i64 (jU (isW h a) l))) [[zMh], [.raw (.int .i64 h), .raw (.int .i64 a)]] [] := by
 refine enG Tryz.func129 Tryz.ntmps129 [.tmp 4] 2 rfl ?_
 try (refine wg ?_; try refine sM fun K hK => ?_)
 refine zJ (fun k : Nat => ⟨19, 2, [(0, true, lA 3 wY.av l), (1, true, .fn (.func 225) [] [.box 0 0, .box 1 0]), (7, true, .raw (.int .i64 l.length)), (8, true, .raw (.int .i64 k))], [[zMh], [.raw (.int .i64 h), .raw (.int .i64 a)]], [], ((0, []), [], true)⟩)
  (fun k => k ≤ l.length ∧ ∀ i, i < k → isW h a (l.getD i default) = false) (fun k => l.length - k) 0 ?_ ⟨by omega, fun i h => by omega⟩ ?_
 ·exact wkZ
 ·rintro k ⟨hk, hall⟩
  have hpk := zZ9 (l.getD k default) h a
  try (refine wg ?_; try refine sM fun K hK => ?_)
  refine zA ⟨_, evl, fun hlt => ?_, fun hge => ?_⟩
  ·simp only [yJm] at hlt
   try (first | refine wkM hK trivial ?_ | refine wkg trivial ?_)
   try clear hK K
   try refine sM fun K hK => ?_
   refine xV [0, 1] [] (hpk) rfl rfl rfl ⟨_, evl, _, evl, _, evl, obl, by decide, by decide, hlT, hlT, zX1, _, evl, _, evl, _, evl, ?_⟩
   try (first | refine wkM hK trivial ?_ | refine wkg trivial ?_)
   try clear hK K
   try refine sM fun K hK => ?_
   refine zA ⟨_, evl, fun hb => ?_, fun hb => ?_⟩
   ·try (refine wg ?_; try refine sM fun K hK => ?_)
    rw [vH (show k < l.length by omega) hall hb]
    all_goals (refine yE (by simp) ⟨_, _, _, evl, obq, jB.bel ?_ obb, by simp, ?_, rfl, obb, obb⟩)
    all_goals first | rfl | (simp []; done) | (simp_all []; done) | (simp_all []; omega) | (simp []; grind) | (split <;> simp_all) | skip
   ·try (refine wg ?_; try refine sM fun K hK => ?_)
    refine ⟨k + 1, ⟨by omega, fun i hi => ?_⟩, by omega, ?_⟩
    ·rcases yLu.1 hi with h | rfl
     ·exact hall i h
     ·exact hb
    ·exact wkZ
  ·simp only [yKu] at hge
   try (refine wg ?_; try refine sM fun K hK => ?_)
   rw [xY (fun i hi => hall i (by omega))]
   all_goals (refine yE (by simp) ⟨_, _, _, evl, obq, jB.bel ?_ obb, by simp, ?_, rfl, obb, obb⟩)
   all_goals first | rfl | (simp []; done) | (simp_all []; done) | (simp_all []; omega) | (simp []; grind) | (split <;> simp_all) | skip
def zE1 (l : List wY) (h a : Int) : wY × Bool := if jU (isW h a) l < 0 then (⟨0, 0, []⟩, false) else (l.getD (jU (isW h a) l).toNat default, true)
theorem kU {α : Type} (p : α → Bool) (l : List α) : -1 ≤ jU p l ∧ jU p l < l.length := by
 unfold jU
 split
 ·rename_i i h
  have := (List.findIdx?_eq_some_iff_findIdx_eq.1 h).1
  omega
 ·omega
theorem zTm (l : List wY) (hl : l.length ≤ 4611686018427387904) (h a : Int) : FnA Tryz.prog 180 [lA 3 wY.av l, zMh, .agg [.raw (.int .i64 h), .raw (.int .i64 a)]] (.tup [.agg (zE1 l h a).1.av, .raw (.bool (zE1 l h a).2)]) := by
 have hi := zVw l hl h a
 have hr := kU (isW h a) l
 unfold zE1
 generalize jU (isW h a) l = q at *
 refine en Tryz.func180 Tryz.ntmps180 [.cell 6 134, .tmp 7] rfl ?_
 try (first | refine wkM hK trivial ?_ | refine wkg trivial ?_)
 try clear hK K
 try refine sM fun K hK => ?_
 refine xV [0, 1] [] (hi) rfl rfl rfl ⟨_, evl, _, evl, _, evl, obl, by decide, by decide, hlT, hlT, zX1, _, evl, _, evl, _, evl, ?_⟩
 try (first | refine wkM hK trivial ?_ | refine wkg trivial ?_)
 try clear hK K
 try refine sM fun K hK => ?_
 refine zA ⟨_, evl, fun hb => ?_, fun hb => ?_⟩
 ·simp only [yJm] at hb
  rw [if_pos hb]
  try (refine wg ?_; try refine sM fun K hK => ?_)
  refine rt ?_
  exact z6.tup (show z8 _ _ [_, _] [_, _] from ⟨z6.agg (show z8 _ _ [_, _, _] [_, _, _] from ⟨z6.refl _, z6.refl _, (Sim.nil rfl).s, trivial⟩), z6.refl _, trivial⟩)
 ·simp only [yKu] at hb
  rw [if_neg hb]
  try (refine wg ?_; try refine sM fun K hK => ?_)
  refine rq ?_ ?_
  ·rfl
  ·exact ⟨wY.free _, trivial, trivial⟩
def yA6 (l : List wY) (i : Nat) : Prop := (zE1 (l.take i) (l.getD i default).host (l.getD i default).auth).2 = false ∧ (1 ≤ (l.getD i default).host ∧ (l.getD i default).host ≤ 64) ∧ (1 ≤ (l.getD i default).auth ∧ (l.getD i default).auth ≤ 16) ∧ Lk.ValidP (l.getD i default).changes
instance (l : List wY) (i : Nat) : Decidable (yA6 l i) := by unfold yA6; infer_instance
def w6 (l : List wY) : Prop := (∀ i, i < l.length → yA6 l i) ∧ l.length ≤ 1024
instance (l : List wY) : Decidable (w6 l) := by unfold w6; infer_instance
theorem zVk (l : List Change) (hmax : l.length ≤ 4611686018427387904) : FnA Tryz.prog 191 [lA 5 Change.av l] (.raw (.bool (decide (Lk.ValidP l)))) := Lk.valid_A l hmax
theorem zXl (l : List wY) (hl : l.length ≤ 4611686018427387904) (hc : ∀ w ∈ l, w.changes.length ≤ 4611686018427387904) : FnA Tryz.prog 178 [lA 3 wY.av l] (.raw (.bool (decide (w6 l)))) := by
 refine en Tryz.func178 Tryz.ntmps178 [.tmp 2] rfl ?_
 repeat' first
  | refine wkg trivial ?_
  | (refine cS (fun hb => ?_) fun hb => ?_ <;> try (cases hb; done))
  | refine sM fun K hK => ?_
  | fail
 refine zJ (fun k : Nat => ⟨54, 0, [(0, true, lA 3 wY.av l), (7, true, lA 3 wY.av l), (8, true, .raw (.int .i64 l.length)), (9, true, .raw (.int .i64 k))], [], [], ((0, []), [], true)⟩)
  (fun k => k ≤ l.length ∧ ∀ i, i < k → yA6 l i) (fun k => l.length - k) 0 ?_ ⟨by omega, fun i h => by omega⟩ ?_
 ·exact wkZ
 ·rintro k ⟨hk, hall⟩
  rcases yIq k l.length with hlt | hge
  ·have hmem : l.getD k default ∈ l := by rw [z5 hlt]; exact yLb _
   have hv := zVk _ (hc _ hmem)
   have he := zOi (l.getD k default)
   have hfi := zTm (l.take k) (by rw [yKy]; omega) (l.getD k default).host (l.getD k default).auth
   have hfi2 := FnA.sim hfi (args := [.lst 3 k (els wY.av l), zMh, .agg [.raw (.int .i64 (l.getD k default).host), .raw (.int .i64 (l.getD k default).auth)]]) ⟨Sim.lstE (by rw [yKy]; omega) (fun i hi => by simp [els, yIk, hi]), Sim.of_eq rfl, Sim.of_eq rfl, trivial⟩
   generalize hfe : zE1 (l.take k) (l.getD k default).host (l.getD k default).auth = f at *
   generalize hvb : decide (Lk.ValidP (l.getD k default).changes) = v at *
   have hok : yA6 l k ↔ f.2 = false ∧ (1 ≤ (l.getD k default).host ∧ (l.getD k default).host ≤ 64) ∧ (1 ≤ (l.getD k default).auth ∧ (l.getD k default).auth ≤ 16) ∧ v = true := by
    unfold yA6; rw [hfe, ← hvb, yM3]
   clear hfi hc hfe hvb
   repeat' first
    | refine wkg (And.intro he (And.intro hfi2 hv)) ?_
    | (refine cS (fun hb => ?_) fun hb => ?_ <;> try (cases hb; done))
    | refine sM fun K hK => ?_
    | fail
   ·refine zR (by simp) ⟨_, _, _, evl, ob0, zV.eq ?_ (by simp [AV.free])⟩
    simp only [AV.raw.injEq, Value.bool.injEq]
    rw [eq_comm, yKu]
    intro h
    have := hok.1 (h.1 k hlt)
    rcases hb with ((((hb | hb) | hb) | hb) | hb) | hb
    ·rw [this.1] at hb; cases hb
    ·omega
    ·omega
    ·omega
    ·omega
    ·rw [this.2.2.2] at hb; cases hb
   ·refine ⟨k + 1, ⟨by omega, fun i hi => ?_⟩, by omega, ?_⟩
    ·rcases yLu.1 hi with h | rfl
     ·exact hall i h
     ·exact hok.2 ⟨hb.1.1.1.1.1, ⟨hb.1.1.1.1.2, hb.1.1.1.2⟩, ⟨hb.1.1.2, hb.1.2⟩, hb.2⟩
    ·exact wkZ
   ·exfalso; omega
  ·repeat' first
    | refine wkg trivial ?_
    | (refine cS (fun hb => ?_) fun hb => ?_ <;> try (cases hb; done))
    | refine sM fun K hK => ?_
    | fail
   all_goals first | (exfalso; omega) | skip
   refine rq ?_ ?_
   ·rw [show decide (w6 l) = decide ((l.length : Int) ≤ 1024) from by
     rw [decide_eq_decide]
     exact ⟨fun h => by have := h.2; omega, fun h => ⟨fun i hi => hall i (by omega), by omega⟩⟩]
   ·simp [AV.free]
theorem zY0 (ib ir : List Nat) {P : Program} {ops : Array Oper} {rest : List Oper} {K : ASt → Prop} {nt nb : Nat} {sl : List (Nat × (Bool × AV))} {bx : List (List AV)} {rw : List z9} {ys : (Nat × List (List AV)) × List (List AV) × Bool} {o : Oper} {d : Nat} {f : FuncId} {args : List AV} {sub sub' : List (List AV)} {rsub rsub' : List z9} {r : AV}
  (hgd : xP ops ⟨nt, nb, sl, bx, rw, ys⟩ o = some true) (F : FnG P f args sub rsub r sub' rsub') (hd : o.dst = some d) (hn : Nat.blt d nt = true)
  (h : ∃ m, bx.length = m ∧ ∃ n, rw.length = n ∧ ∃ cs, jQ ⟨nt, nb, sl, bx, rw, ys⟩ o.op = some (cs, f, AV.renL (idx ib m) (idx ir n) args) ∧ (∀ c ∈ cs, c = true) ∧ ib.Nodup ∧ ir.Nodup ∧ zCd bx (AV.renL (idx ib m) (idx ir n)) ib sub ∧ zCd rw (z9.ren (idx ib m) (idx ir n)) ir rsub ∧
   ((∀ cs ∈ sub, AV.subL ib.length ir.length cs) ∧ (∀ r ∈ rsub, ∀ q, q < r.n → AV.subL ib.length ir.length (r.el q)) ∧ AV.subL ib.length ir.length args ∧ ib.length ≤ sub'.length ∧ ir.length ≤ rsub'.length) ∧
   ∃ r1, r.ren (idx ib m) (idx ir n) = r1 ∧ ∃ bx1, wC bx ib (sub'.map (AV.renL (idx ib m) (idx ir n))) = bx1 ∧ ∃ rw1, wC rw ir (rsub'.map (z9.ren (idx ib m) (idx ir n))) = rw1 ∧
   xM P ops rest K ⟨nt, nb, (d, (true, r1)) :: sl, bx1, rw1, ys⟩) : xM P ops (o :: rest) K ⟨nt, nb, sl, bx, rw, ys⟩ := by
 obtain ⟨m, rfl, n, rfl, cs, h1, h2, h3, h4, h5, h6, ⟨h7, h8, h9, h10, h11⟩, r1, rfl, bx1, rfl, rw1, rfl, h14⟩ := h
 intro C G a w Q hs hQ
 have hw := xA hgd (G := G) (w := w) (a := a) (fun t _ => hs.slot t)
 have hdl : d < nt := by simpa [yK2] using hn
 unfold wpListIn
 rw [hw]
 simp only [if_true]
 have F' := F.frame ib ir (zFc h3 h4 h5 h6 h7 h8) h9 h10 h11
 obtain ⟨vs, g1, g2⟩ := qJ (P := P) (a := a) h1 (fun y hy => yX fun t ht => hs.slot t) h2 F'.ok
 refine z0 (fun c hc => by rw [hc] at h1; simp [jQ] at h1) ?_
 rw [g2, Oper.uponIn_enter]
 refine ⟨fun h => by simp [fen] at h, wN ?_⟩
 refine (F'.calls G w vs hs.tabs hs.tabs_own hs.mem g1).mono ?_
 rintro e w' ⟨v, G', rfl, hout, hle, hfr, hB, hR', hm1, hv⟩
 rw [hd]
 exact h14 C G' _ w' Q ((hs.called hout hle hfr hB hR' hm1).put hdl (fun _ => hv) (fun h => by cases h)) hQ
def zAm (l : List zM) (i : Nat) : Int := if i = 0 then 0 else (l.getD (i - 1) default).auth
def zRw (host : Int) (l : List zM) (i : Nat) : Prop := zAm l i < (l.getD i default).auth ∧ (l.getD i default).host = host ∧ (l.getD i default).round = (l.getD 0 default).round ∧ yJ (l.getD i default)
instance (host : Int) (l : List zM) (i : Nat) : Decidable (zRw host l i) := by unfold zRw; infer_instance
abbrev rBx (x host : Int) (l : List zM) : List (List AV) := [[.raw (.int .i64 x)], [.raw (.int .i64 host)], [lA 10 zM.av l]]
theorem zV8 (host : Int) (l : List zM) (hf : ∀ r ∈ l, r.fits) (i : Nat) (hi : i < l.length) :
  FnG Tryz.prog 223 [.agg (l.getD i default).av, .box 0 0, .box 1 0, .box 2 0] (rBx (zAm l i) host l) [] (.raw (.bool (!decide (zRw host l i)))) (rBx (l.getD i default).auth host l) [] := by
 have hv := zNa (l.getD i default) (hf _ (by rw [z5 hi]; exact yLb _))
 have e : (!decide (zRw host l i)) = (decide ((l.getD i default).auth ≤ zAm l i) || !decide ((l.getD i default).host = host) || !decide ((l.getD i default).round = (l.getD 0 default).round) || !decide (yJ (l.getD i default))) := by
  rw [yJ8, yJn, yKu]
  simp only [yJn, yKu, yKt, yJm, zRw, Classical.not_and_iff_not_or_not, yJc, or_assoc]
 rw [e]
 clear e hf
 have hl : (0 : Int) < l.length := by omega
 generalize zAm l i = x at *
 generalize decide (yJ (l.getD i default)) = v at *
 refine enG Tryz.func223 Tryz.ntmps223 [.tmp 5] 3 rfl ?_
 repeat' first
  | refine wkg hv ?_
  | (refine cS (fun hb => ?_) fun hb => ?_ <;> try (cases hb; done))
  | refine sM fun K hK => ?_
  | fail
 all_goals (refine yE (by simp) ⟨_, _, _, evl, obq, jB.bel ?_ obb, by simp, ?_, rfl, obb, obb⟩)
 all_goals first | rfl | (simp []; done) | (simp_all []; done) | (simp_all []; omega) | (simp []; grind) | (split <;> simp_all) | skip
def zQs (host : Int) (l : List zM) : Int := jU (fun i => !decide (zRw host l i)) (List.range l.length)
theorem zC3 {n i : Nat} (h : i < n) : (List.range n).getD i default = i := by simp [yJk, h]
def zJv (host : Int) (l : List zM) : Nat := if zQs host l < 0 then l.length else (zQs host l).toNat + 1
abbrev zRq : AV := .fn (.func 223) [] [.box 0 0, .box 1 0, .box 2 0]
theorem zVx (host : Int) (l : List zM) (hl : l.length ≤ 4611686018427387904) (hf : ∀ r ∈ l, r.fits) : FnG Tryz.prog 244 [lA 10 zM.av l, zRq] (rBx 0 host l) [] (.raw (.int .i64 (zQs host l))) (rBx (zAm l (zJv host l)) host l) [] := by
 refine enG Tryz.func244 Tryz.ntmps244 [.tmp 4] 3 rfl ?_
 try (refine wg ?_; try refine sM fun K hK => ?_)
 refine zJ (fun k : Nat => ⟨19, 3, [(0, true, lA 10 zM.av l), (1, true, zRq), (7, true, .raw (.int .i64 l.length)), (8, true, .raw (.int .i64 k))], rBx (zAm l k) host l, [], ((0, []), [], true)⟩)
  (fun k => k ≤ l.length ∧ ∀ i, i < k → zRw host l i) (fun k => l.length - k) 0 ?_ ⟨by omega, fun i h => by omega⟩ ?_
 ·rw [show zAm l 0 = 0 from rfl]
  exact wkZ
 ·rintro k ⟨hk, hall⟩
  try (refine wg ?_; try refine sM fun K hK => ?_)
  refine zA ⟨_, evl, fun hlt => ?_, fun hge => ?_⟩
  ·simp only [yJm] at hlt
   have hpk := zV8 host l hf k (by omega)
   try (first | refine wkM hK trivial ?_ | refine wkg trivial ?_)
   try clear hK K
   try refine sM fun K hK => ?_
   refine xV [0, 1, 2] [] (hpk) rfl rfl rfl ⟨_, evl, _, evl, _, evl, obl, by decide, by decide, hlT, hlT, zX1, _, evl, _, evl, _, evl, ?_⟩
   try (first | refine wkM hK trivial ?_ | refine wkg trivial ?_)
   try clear hK K
   try refine sM fun K hK => ?_
   refine zA ⟨_, evl, fun hb => ?_, fun hb => ?_⟩
   ·try (refine wg ?_; try refine sM fun K hK => ?_)
    have hq : zQs host l = (k : Int) := vH (by rw [yM4]; omega) (fun i hi => by rw [zC3 (by omega)]; simp [hall i hi]) (by rw [zC3 (by omega)]; exact hb)
    have hq2 : zAm l (zJv host l) = (l.getD k default).auth := by
     unfold zJv
     rw [hq, if_neg (by omega)]
     simp [zAm]
    rw [hq, hq2]
    clear hpk hall hf
    all_goals (refine yE (by simp) ⟨_, _, _, evl, obq, jB.bel ?_ obb, by simp, ?_, rfl, obb, obb⟩)
    all_goals first | rfl | (simp []; done) | (simp_all []; done) | (simp_all []; omega) | (simp []; grind) | (split <;> simp_all) | skip
   ·try (refine wg ?_; try refine sM fun K hK => ?_)
    refine ⟨k + 1, ⟨by omega, fun i hi => ?_⟩, by omega, ?_⟩
    ·rcases yLu.1 hi with h | rfl
     ·exact hall i h
     ·simpa using hb
    ·rw [show zAm l (k + 1) = (l.getD k default).auth from by simp [zAm]]
     clear hpk hall hf
     exact wkZ
  ·simp only [yKu] at hge
   try (refine wg ?_; try refine sM fun K hK => ?_)
   have hq : zQs host l = -1 := xY (fun i hi => by rw [yM4] at hi; rw [zC3 hi]; simp [hall i (by omega)])
   have hq2 : zAm l (zJv host l) = zAm l k := by
    unfold zJv
    rw [hq, if_pos (by omega), show k = l.length from by omega]
   rw [hq, hq2]
   clear hall hf
   all_goals (refine yE (by simp) ⟨_, _, _, evl, obq, jB.bel ?_ obb, by simp, ?_, rfl, obb, obb⟩)
   all_goals first | rfl | (simp []; done) | (simp_all []; done) | (simp_all []; omega) | (simp []; grind) | (split <;> simp_all) | skip
theorem zMk (host : Int) (l : List zM) (hl : l.length ≤ 4611686018427387904) (hf : ∀ r ∈ l, r.fits) : FnG Tryz.prog 224 [lA 10 zM.av l, zRq] (rBx 0 host l) [] (.raw (.bool (decide (0 ≤ zQs host l)))) (rBx (zAm l (zJv host l)) host l) [] := by
 have hi := zVx host l hl hf
 clear hl hf
 generalize zAm l (zJv host l) = x at *
 generalize zQs host l = q at *
 refine enG Tryz.func224 Tryz.ntmps224 [.tmp 4] 3 rfl ?_
 try (first | refine wkM hK trivial ?_ | refine wkg trivial ?_)
 try clear hK K
 try refine sM fun K hK => ?_
 refine xV [0, 1, 2] [] (hi) rfl rfl rfl ⟨_, evl, _, evl, _, evl, obl, by decide, by decide, hlT, hlT, zX1, _, evl, _, evl, _, evl, ?_⟩
 try (first | refine wkM hK trivial ?_ | refine wkg trivial ?_)
 try clear hK K
 try refine sM fun K hK => ?_
 all_goals (refine yE (by simp) ⟨_, _, _, evl, obq, jB.bel ?_ obb, by simp, ?_, rfl, obb, obb⟩)
 all_goals first | rfl | (simp []; done) | (simp_all []; done) | (simp_all []; omega) | (simp []; grind) | (split <;> simp_all) | skip
def zDi (host : Int) (l : List zM) : Prop := l.length ≤ 16 ∧ ∀ i, i < l.length → zRw host l i
instance (host : Int) (l : List zM) : Decidable (zDi host l) := by unfold zDi; infer_instance
theorem zZw (host : Int) (l : List zM) : 0 ≤ zQs host l ↔ ¬ ∀ i, i < l.length → zRw host l i := by
 have h := jK (fun i => !decide (zRw host l i)) (List.range l.length)
 constructor
 ·intro h0 hall
  have h1 : zQs host l = -1 := xY (fun i hi => by rw [yM4] at hi; rw [zC3 hi]; simp [hall i hi])
  omega
 ·intro hn
  have h2 : (List.range l.length).any (fun i => !decide (zRw host l i)) = true := by
   rw [yLa]
   refine yM5 fun hc => hn fun i hi => yM5 fun hr => hc ⟨i, yL1.2 hi, by simp [hr]⟩
  rw [h2] at h
  exact yLv h
theorem zY5 (host : Int) (l : List zM) (hl : l.length ≤ 4611686018427387904) (hf : ∀ r ∈ l, r.fits) : FnA Tryz.prog 179 [.raw (.int .i64 host), lA 10 zM.av l] (.raw (.bool (decide (zDi host l)))) := by
 have hc := zMk host l hl hf
 have hb := zZw host l
 have hfr : (lA 10 zM.av l).free := zE (fun y => zM.free y) _
 clear hl hf
 generalize zAm l (zJv host l) = x at *
 by_cases h16 : l.length ≤ 16
 ·have e : decide (zDi host l) = !decide (0 ≤ zQs host l) := by
   rw [yJ8, yJn, yM3, yKu, hb, yLl]
   exact ⟨fun h => h.2, fun h => ⟨h16, h⟩⟩
  rw [e]
  clear e hb
  generalize zQs host l = q at *
  refine en Tryz.func179 Tryz.ntmps179 [.tmp 4] rfl ?_
  try (refine wg ?_; try refine sM fun K hK => ?_)
  rw [yM1 (show (l.length : Int) ≤ 16 by omega)]
  refine zY0 [2, 0, 1] [] evl hc rfl rfl ⟨_, evl, _, evl, _, evl, obl, by decide, by decide, (by first | trivial | exact ⟨rfl, trivial⟩ | exact ⟨rfl, rfl, trivial⟩ | exact ⟨rfl, rfl, rfl, trivial⟩ | simp [zCd, AV.renL, AV.ren, z9.ren]), (by first | trivial | exact ⟨rfl, trivial⟩ | exact ⟨rfl, rfl, trivial⟩ | exact ⟨rfl, rfl, rfl, trivial⟩ | simp [zCd, AV.renL, AV.ren, z9.ren]), (by first | (simp [AV.subL, AV.sub]; done) | (simp only [yKi, yKj, yKk, yKl, yKn, yIw, AV.subL, AV.sub, yIz, yK8, yJa, Nat.reduceAdd]; (repeat' apply And.intro) <;> first | trivial | omega | (simp; done) | (refine AV.sub_free _ ?_; exact zE (fun _ => by simp) _) | (refine AV.subL_free _ ?_; simp; done) | (intro r hr; cases hr; done))), _, evl, _, evl, _, evl, ?_⟩
  try (first | refine wkM hK trivial ?_ | refine wkg trivial ?_)
  try clear hK K
  try refine sM fun K hK => ?_
  refine rq ?_ ?_
  ·simp
  ·simp [AV.free]
 ·rw [yM2 (fun h : zDi host l => h16 h.1)]
  clear hb
  generalize zQs host l = q at *
  refine en Tryz.func179 Tryz.ntmps179 [.tmp 4] rfl ?_
  try (refine wg ?_; try refine sM fun K hK => ?_)
  rw [yM2 (show ¬ (l.length : Int) ≤ 16 by omega)]
  refine yH 1 rfl ?_
  refine zN rfl rfl ⟨_, evl, _, _, _, evl, (fun hg => by cases hg), ?_⟩
  refine ⟨.raw (.bool false), (fun hg => by cases hg), ?_⟩
  try (first | refine wkM hK trivial ?_ | refine wkg trivial ?_)
  try clear hK K
  try refine sM fun K hK => ?_
  refine rq ?_ ?_
  ·simp
  ·simp [AV.free]
end Go.Proofs.YtchpbdecipcelaaGreatDoor
