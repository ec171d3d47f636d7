import Derived.Test.YtchpbdecipcelaaGreatDoorMR01
import Derived.Test.YtchpbdecipcelaaGreatDoorMR15
import Derived.Test.YtchpbdecipcelaaGreatDoorMR17
namespace Go.Proofs.YtchpbdecipcelaaGreatDoor
set_option linter.unusedVariables false
set_option linter.unusedSimpArgs false
set_option maxHeartbeats 4000000
set_option maxRecDepth 100000
open Go.RowKit
structure wU where
 host : Int
 auth : Int
 changes : List Change
 deriving Inhabited, DecidableEq
@[go_sem] def wU.av (x : wU) : List AV := [.raw (.int .i64 x.host), .raw (.int .i64 x.auth), lA 5 Change.av x.changes]
@[simp] theorem wU.free (x : wU) : AV.freeL x.av := ⟨trivial, trivial, zC (fun y => Change.free y) _, trivial⟩
def isW (h a : Int) (w : wU) : Bool := decide (w.host = h) && decide (w.auth = a)
theorem zPj (w : wU) : FnA Tryz.prog 181 [.agg w.av] (.agg [.raw (.int .i64 w.host), .raw (.int .i64 w.auth)]) := by
 refine en Tryz.func181 Tryz.ntmps181 [.cell 2 225] rfl ?_
 repeat' first
  | refine wkg trivial ?_
  | (refine cS (fun hb => ?_) fun hb => ?_ <;> try (cases hb; done))
  | refine sM fun K hK => ?_
  | fail
 refine rq ?_ ?_
 ·rfl
 ·simp [AV.free, AV.freeL]
abbrev zNi : AV := .raw (.func (.func 181) #[] #[])
theorem yBa (w : wU) (h a : Int) : FnG Tryz.prog 225 [.agg w.av, .box 0 0, .box 1 0] [[zNi], [.raw (.int .i64 h), .raw (.int .i64 a)]] [] (.raw (.bool (isW h a w))) [[zNi], [.raw (.int .i64 h), .raw (.int .i64 a)]] [] := by
 have he := zPj w
 refine enG Tryz.func225 Tryz.ntmps225 [.tmp 4] 2 rfl ?_
 repeat' first
  | refine wkg he ?_
  | (refine cS (fun hb => ?_) fun hb => ?_ <;> try (cases hb; done))
  | refine sM fun K hK => ?_
  | fail
 all_goals (refine yG (by simp) ⟨_, _, _, evl, obq, jD.bel ?_ obb, by simp, ?_, rfl, obb, obb⟩)
 all_goals first | rfl | (simp [isW]; done) | (simp_all [isW]; done) | (simp_all [isW]; omega) | (simp [isW]; grind) | (split <;> simp_all) | skip
theorem zXp (l : List wU) (hl : l.length ≤ 4611686018427387904) (h a : Int) : FnG Tryz.prog 129 [lA 3 wU.av l, .fn (.func 225) [] [.box 0 0, .box 1 0]] [[zNi], [.raw (.int .i64 h), .raw (.int .i64 a)]] [] (.raw (.int .i64 (vA (isW h a) l))) [[zNi], [.raw (.int .i64 h), .raw (.int .i64 a)]] [] := by
 refine enG Tryz.func129 Tryz.ntmps129 [.tmp 4] 2 rfl ?_
 try (refine wg ?_; try refine sM fun K hK => ?_)
 refine zF (fun k : Nat => ⟨19, 2, [(0, true, lA 3 wU.av l), (1, true, .fn (.func 225) [] [.box 0 0, .box 1 0]), (7, true, .raw (.int .i64 l.length)), (8, true, .raw (.int .i64 k))], [[zNi], [.raw (.int .i64 h), .raw (.int .i64 a)]], [], ((0, []), [], true)⟩)
  (fun k => k ≤ l.length ∧ ∀ i, i < k → isW h a (l.getD i default) = false) (fun k => l.length - k) 0 ?_ ⟨by omega, fun i h => by omega⟩ ?_
 ·exact wkZ
 ·rintro k ⟨hk, hall⟩
  have hpk := yBa (l.getD k default) h a
  try (refine wg ?_; try refine sM fun K hK => ?_)
  refine zA ⟨_, evl, fun hlt => ?_, fun hge => ?_⟩
  ·simp only [yLr] at hlt
   try (first | refine wkM hK trivial ?_ | refine wkg trivial ?_)
   try clear hK K
   try refine sM fun K hK => ?_
   refine xW [0, 1] [] (hpk) rfl rfl rfl ⟨_, evl, _, evl, _, evl, obl, by decide, by decide, hlT, hlT, zWv, _, evl, _, evl, _, evl, ?_⟩
   try (first | refine wkM hK trivial ?_ | refine wkg trivial ?_)
   try clear hK K
   try refine sM fun K hK => ?_
   refine zA ⟨_, evl, fun hb => ?_, fun hb => ?_⟩
   ·try (refine wg ?_; try refine sM fun K hK => ?_)
    rw [wQ (show k < l.length by omega) hall hb]
    all_goals (refine yG (by simp) ⟨_, _, _, evl, obq, jD.bel ?_ obb, by simp, ?_, rfl, obb, obb⟩)
    all_goals first | rfl | (simp []; done) | (simp_all []; done) | (simp_all []; omega) | (simp []; grind) | (split <;> simp_all) | skip
   ·try (refine wg ?_; try refine sM fun K hK => ?_)
    refine ⟨k + 1, ⟨by omega, fun i hi => ?_⟩, by omega, ?_⟩
    ·rcases yNv.1 hi with h | rfl
     ·exact hall i h
     ·exact hb
    ·exact wkZ
  ·simp only [yMz] at hge
   try (refine wg ?_; try refine sM fun K hK => ?_)
   rw [xI (fun i hi => hall i (by omega))]
   all_goals (refine yG (by simp) ⟨_, _, _, evl, obq, jD.bel ?_ obb, by simp, ?_, rfl, obb, obb⟩)
   all_goals first | rfl | (simp []; done) | (simp_all []; done) | (simp_all []; omega) | (simp []; grind) | (split <;> simp_all) | skip
def zBk (l : List wU) (h a : Int) : wU × Bool := if vA (isW h a) l < 0 then (⟨0, 0, []⟩, false) else (l.getD (vA (isW h a) l).toNat default, true)
theorem wC {α : Type} (p : α → Bool) (l : List α) : -1 ≤ vA p l ∧ vA p l < l.length := by
 unfold vA
 split
 ·rename_i i h
  have := (List.findIdx?_eq_some_iff_findIdx_eq.1 h).1
  omega
 ·omega
theorem zVa (l : List wU) (hl : l.length ≤ 4611686018427387904) (h a : Int) : FnA Tryz.prog 180 [lA 3 wU.av l, zNi, .agg [.raw (.int .i64 h), .raw (.int .i64 a)]] (.tup [.agg (zBk l h a).1.av, .raw (.bool (zBk l h a).2)]) := by
 have hi := zXp l hl h a
 have hr := wC (isW h a) l
 unfold zBk
 generalize vA (isW h a) l = q at *
 refine en Tryz.func180 Tryz.ntmps180 [.cell 6 134, .tmp 7] rfl ?_
 try (first | refine wkM hK trivial ?_ | refine wkg trivial ?_)
 try clear hK K
 try refine sM fun K hK => ?_
 refine xW [0, 1] [] (hi) rfl rfl rfl ⟨_, evl, _, evl, _, evl, obl, by decide, by decide, hlT, hlT, zWv, _, evl, _, evl, _, evl, ?_⟩
 try (first | refine wkM hK trivial ?_ | refine wkg trivial ?_)
 try clear hK K
 try refine sM fun K hK => ?_
 refine zA ⟨_, evl, fun hb => ?_, fun hb => ?_⟩
 ·simp only [yLr] at hb
  rw [if_pos hb]
  try (refine wg ?_; try refine sM fun K hK => ?_)
  refine rt ?_
  exact z5.tup (show z8 _ _ [_, _] [_, _] from ⟨z5.agg (show z8 _ _ [_, _, _] [_, _, _] from ⟨z5.refl _, z5.refl _, (Sim.nil rfl).s, trivial⟩), z5.refl _, trivial⟩)
 ·simp only [yMz] at hb
  rw [if_neg hb]
  try (refine wg ?_; try refine sM fun K hK => ?_)
  refine rq ?_ ?_
  ·rfl
  ·exact ⟨wU.free _, trivial, trivial⟩
def zYw (l : List wU) (i : Nat) : Prop := (zBk (l.take i) (l.getD i default).host (l.getD i default).auth).2 = false ∧ (1 ≤ (l.getD i default).host ∧ (l.getD i default).host ≤ 64) ∧ (1 ≤ (l.getD i default).auth ∧ (l.getD i default).auth ≤ 16) ∧ Lk.ValidP (l.getD i default).changes
instance (l : List wU) (i : Nat) : Decidable (zYw l i) := by unfold zYw; infer_instance
def x6 (l : List wU) : Prop := (∀ i, i < l.length → zYw l i) ∧ l.length ≤ 1024
instance (l : List wU) : Decidable (x6 l) := by unfold x6; infer_instance
theorem zXc (l : List Change) (hmax : l.length ≤ 4611686018427387904) : FnA Tryz.prog 191 [lA 5 Change.av l] (.raw (.bool (decide (Lk.ValidP l)))) := Lk.valid_A l hmax
theorem zZj (l : List wU) (hl : l.length ≤ 4611686018427387904) (hc : ∀ w ∈ l, w.changes.length ≤ 4611686018427387904) : FnA Tryz.prog 178 [lA 3 wU.av l] (.raw (.bool (decide (x6 l)))) := by
 refine en Tryz.func178 Tryz.ntmps178 [.tmp 2] rfl ?_
 repeat' first
  | refine wkg trivial ?_
  | (refine cS (fun hb => ?_) fun hb => ?_ <;> try (cases hb; done))
  | refine sM fun K hK => ?_
  | fail
 refine zF (fun k : Nat => ⟨54, 0, [(0, true, lA 3 wU.av l), (7, true, lA 3 wU.av l), (8, true, .raw (.int .i64 l.length)), (9, true, .raw (.int .i64 k))], [], [], ((0, []), [], true)⟩)
  (fun k => k ≤ l.length ∧ ∀ i, i < k → zYw l i) (fun k => l.length - k) 0 ?_ ⟨by omega, fun i h => by omega⟩ ?_
 ·exact wkZ
 ·rintro k ⟨hk, hall⟩
  rcases yKt k l.length with hlt | hge
  ·have hmem : l.getD k default ∈ l := by rw [zU hlt]; exact yNe _
   have hv := zXc _ (hc _ hmem)
   have he := zPj (l.getD k default)
   have hfi := zVa (l.take k) (by rw [yN3]; omega) (l.getD k default).host (l.getD k default).auth
   have hfi2 := FnA.sim hfi (args := [.lst 3 k (els wU.av l), zNi, .agg [.raw (.int .i64 (l.getD k default).host), .raw (.int .i64 (l.getD k default).auth)]]) ⟨Sim.lstE (by rw [yN3]; omega) (fun i hi => by simp [els, yKn, hi]), Sim.of_eq rfl, Sim.of_eq rfl, trivial⟩
   generalize hfe : zBk (l.take k) (l.getD k default).host (l.getD k default).auth = f at *
   generalize hvb : decide (Lk.ValidP (l.getD k default).changes) = v at *
   have hok : zYw l k ↔ f.2 = false ∧ (1 ≤ (l.getD k default).host ∧ (l.getD k default).host ≤ 64) ∧ (1 ≤ (l.getD k default).auth ∧ (l.getD k default).auth ≤ 16) ∧ v = true := by
    unfold zYw; rw [hfe, ← hvb, yO5]
   clear hfi hc hfe hvb
   repeat' first
    | refine wkg (And.intro he (And.intro hfi2 hv)) ?_
    | (refine cS (fun hb => ?_) fun hb => ?_ <;> try (cases hb; done))
    | refine sM fun K hK => ?_
    | fail
   ·refine zM (by simp) ⟨_, _, _, evl, ob0, zV.eq ?_ (by simp [AV.free])⟩
    simp only [AV.raw.injEq, Value.bool.injEq]
    rw [eq_comm, yMz]
    intro h
    have := hok.1 (h.1 k hlt)
    rcases hb with ((((hb | hb) | hb) | hb) | hb) | hb
    ·rw [this.1] at hb; cases hb
    ·omega
    ·omega
    ·omega
    ·omega
    ·rw [this.2.2.2] at hb; cases hb
   ·refine ⟨k + 1, ⟨by omega, fun i hi => ?_⟩, by omega, ?_⟩
    ·rcases yNv.1 hi with h | rfl
     ·exact hall i h
     ·exact hok.2 ⟨hb.1.1.1.1.1, ⟨hb.1.1.1.1.2, hb.1.1.1.2⟩, ⟨hb.1.1.2, hb.1.2⟩, hb.2⟩
    ·exact wkZ
   ·exfalso; omega
  ·repeat' first
    | refine wkg trivial ?_
    | (refine cS (fun hb => ?_) fun hb => ?_ <;> try (cases hb; done))
    | refine sM fun K hK => ?_
    | fail
   all_goals first | (exfalso; omega) | skip
   refine rq ?_ ?_
   ·rw [show decide (x6 l) = decide ((l.length : Int) ≤ 1024) from by
     rw [decide_eq_decide]
     exact ⟨fun h => by have := h.2; omega, fun h => ⟨fun i hi => hall i (by omega), by omega⟩⟩]
   ·simp [AV.free]
theorem yA1 (ib ir : List Nat) {P : Program} {ops : Array Oper} {rest : List Oper} {K : ASt → Prop} {nt nb : Nat} {sl : List (Nat × (Bool × AV))} {bx : List (List AV)} {rw : List yD} {ys : (Nat × List (List AV)) × List (List AV) × Bool} {o : Oper} {d : Nat} {f : FuncId} {args : List AV} {sub sub' : List (List AV)} {rsub rsub' : List yD} {r : AV}
  (hgd : xL ops ⟨nt, nb, sl, bx, rw, ys⟩ o = some true) (F : FnG P f args sub rsub r sub' rsub') (hd : o.dst = some d) (hn : Nat.blt d nt = true)
  (h : ∃ m, bx.length = m ∧ ∃ n, rw.length = n ∧ ∃ cs, jW ⟨nt, nb, sl, bx, rw, ys⟩ o.op = some (cs, f, AV.renL (idx ib m) (idx ir n) args) ∧ (∀ c ∈ cs, c = true) ∧ ib.Nodup ∧ ir.Nodup ∧ zCe bx (AV.renL (idx ib m) (idx ir n)) ib sub ∧ zCe rw (yD.ren (idx ib m) (idx ir n)) ir rsub ∧
   ((∀ cs ∈ sub, AV.subL ib.length ir.length cs) ∧ (∀ r ∈ rsub, ∀ q, q < r.n → AV.subL ib.length ir.length (r.el q)) ∧ AV.subL ib.length ir.length args ∧ ib.length ≤ sub'.length ∧ ir.length ≤ rsub'.length) ∧
   ∃ r1, r.ren (idx ib m) (idx ir n) = r1 ∧ ∃ bx1, wI bx ib (sub'.map (AV.renL (idx ib m) (idx ir n))) = bx1 ∧ ∃ rw1, wI rw ir (rsub'.map (yD.ren (idx ib m) (idx ir n))) = rw1 ∧
   xK P ops rest K ⟨nt, nb, (d, (true, r1)) :: sl, bx1, rw1, ys⟩) : xK P ops (o :: rest) K ⟨nt, nb, sl, bx, rw, ys⟩ := by
 obtain ⟨m, rfl, n, rfl, cs, h1, h2, h3, h4, h5, h6, ⟨h7, h8, h9, h10, h11⟩, r1, rfl, bx1, rfl, rw1, rfl, h14⟩ := h
 intro C G a w Q hs hQ
 have hw := y7 hgd (G := G) (w := w) (a := a) (fun t _ => hs.slot t)
 have hdl : d < nt := by simpa [yM6] using hn
 unfold wpListIn
 rw [hw]
 simp only [if_true]
 have F' := F.frame ib ir (zG0 h3 h4 h5 h6 h7 h8) h9 h10 h11
 obtain ⟨vs, g1, g2⟩ := qR (P := P) (a := a) h1 (fun y hy => yU fun t ht => hs.slot t) h2 F'.ok
 refine zZ (fun c hc => by rw [hc] at h1; simp [jW] at h1) ?_
 rw [g2, Oper.uponIn_enter]
 refine ⟨fun h => by simp [fen] at h, wT ?_⟩
 refine (F'.calls G w vs hs.tabs hs.tabs_own hs.mem g1).mono ?_
 rintro e w' ⟨v, G', rfl, hout, hle, hfr, hB, hR', hm1, hv⟩
 rw [hd]
 exact h14 C G' _ w' Q ((hs.called hout hle hfr hB hR' hm1).put hdl (fun _ => hv) (fun h => by cases h)) hQ
def zAx (l : List zN) (i : Nat) : Int := if i = 0 then 0 else (l.getD (i - 1) default).auth
def zTh (host : Int) (l : List zN) (i : Nat) : Prop := zAx l i < (l.getD i default).auth ∧ (l.getD i default).host = host ∧ (l.getD i default).round = (l.getD 0 default).round ∧ z9 (l.getD i default)
instance (host : Int) (l : List zN) (i : Nat) : Decidable (zTh host l i) := by unfold zTh; infer_instance
abbrev rBx (x host : Int) (l : List zN) : List (List AV) := [[.raw (.int .i64 x)], [.raw (.int .i64 host)], [lA 10 zN.av l]]
theorem zWz (host : Int) (l : List zN) (hf : ∀ r ∈ l, r.fits) (i : Nat) (hi : i < l.length) :
  FnG Tryz.prog 223 [.agg (l.getD i default).av, .box 0 0, .box 1 0, .box 2 0] (rBx (zAx l i) host l) [] (.raw (.bool (!decide (zTh host l i)))) (rBx (l.getD i default).auth host l) [] := by
 have hv := zOe (l.getD i default) (hf _ (by rw [zU hi]; exact yNe _))
 have e : (!decide (zTh host l i)) = (decide ((l.getD i default).auth ≤ zAx l i) || !decide ((l.getD i default).host = host) || !decide ((l.getD i default).round = (l.getD 0 default).round) || !decide (z9 (l.getD i default))) := by
  rw [yLb, yLs, yMz]
  simp only [yLs, yMz, yMy, yLr, zTh, Classical.not_and_iff_not_or_not, yLh, or_assoc]
 rw [e]
 clear e hf
 have hl : (0 : Int) < l.length := by omega
 generalize zAx l i = x at *
 generalize decide (z9 (l.getD i default)) = v at *
 refine enG Tryz.func223 Tryz.ntmps223 [.tmp 5] 3 rfl ?_
 repeat' first
  | refine wkg hv ?_
  | (refine cS (fun hb => ?_) fun hb => ?_ <;> try (cases hb; done))
  | refine sM fun K hK => ?_
  | fail
 all_goals (refine yG (by simp) ⟨_, _, _, evl, obq, jD.bel ?_ obb, by simp, ?_, rfl, obb, obb⟩)
 all_goals first | rfl | (simp []; done) | (simp_all []; done) | (simp_all []; omega) | (simp []; grind) | (split <;> simp_all) | skip
def zS4 (host : Int) (l : List zN) : Int := vA (fun i => !decide (zTh host l i)) (List.range l.length)
theorem zC5 {n i : Nat} (h : i < n) : (List.range n).getD i default = i := by simp [yLp, h]
def zKp (host : Int) (l : List zN) : Nat := if zS4 host l < 0 then l.length else (zS4 host l).toNat + 1
abbrev zT5 : AV := .fn (.func 223) [] [.box 0 0, .box 1 0, .box 2 0]
theorem zXq (host : Int) (l : List zN) (hl : l.length ≤ 4611686018427387904) (hf : ∀ r ∈ l, r.fits) : FnG Tryz.prog 244 [lA 10 zN.av l, zT5] (rBx 0 host l) [] (.raw (.int .i64 (zS4 host l))) (rBx (zAx l (zKp host l)) host l) [] := by
 refine enG Tryz.func244 Tryz.ntmps244 [.tmp 4] 3 rfl ?_
 try (refine wg ?_; try refine sM fun K hK => ?_)
 refine zF (fun k : Nat => ⟨19, 3, [(0, true, lA 10 zN.av l), (1, true, zT5), (7, true, .raw (.int .i64 l.length)), (8, true, .raw (.int .i64 k))], rBx (zAx l k) host l, [], ((0, []), [], true)⟩)
  (fun k => k ≤ l.length ∧ ∀ i, i < k → zTh host l i) (fun k => l.length - k) 0 ?_ ⟨by omega, fun i h => by omega⟩ ?_
 ·rw [show zAx l 0 = 0 from rfl]
  exact wkZ
 ·rintro k ⟨hk, hall⟩
  try (refine wg ?_; try refine sM fun K hK => ?_)
  refine zA ⟨_, evl, fun hlt => ?_, fun hge => ?_⟩
  ·simp only [yLr] at hlt
   have hpk := zWz host l hf k (by omega)
   try (first | refine wkM hK trivial ?_ | refine wkg trivial ?_)
   try clear hK K
   try refine sM fun K hK => ?_
   refine xW [0, 1, 2] [] (hpk) rfl rfl rfl ⟨_, evl, _, evl, _, evl, obl, by decide, by decide, hlT, hlT, zWv, _, evl, _, evl, _, evl, ?_⟩
   try (first | refine wkM hK trivial ?_ | refine wkg trivial ?_)
   try clear hK K
   try refine sM fun K hK => ?_
   refine zA ⟨_, evl, fun hb => ?_, fun hb => ?_⟩
   ·try (refine wg ?_; try refine sM fun K hK => ?_)
    have hq : zS4 host l = (k : Int) := wQ (by rw [yO6]; omega) (fun i hi => by rw [zC5 (by omega)]; simp [hall i hi]) (by rw [zC5 (by omega)]; exact hb)
    have hq2 : zAx l (zKp host l) = (l.getD k default).auth := by
     unfold zKp
     rw [hq, if_neg (by omega)]
     simp [zAx]
    rw [hq, hq2]
    clear hpk hall hf
    all_goals (refine yG (by simp) ⟨_, _, _, evl, obq, jD.bel ?_ obb, by simp, ?_, rfl, obb, obb⟩)
    all_goals first | rfl | (simp []; done) | (simp_all []; done) | (simp_all []; omega) | (simp []; grind) | (split <;> simp_all) | skip
   ·try (refine wg ?_; try refine sM fun K hK => ?_)
    refine ⟨k + 1, ⟨by omega, fun i hi => ?_⟩, by omega, ?_⟩
    ·rcases yNv.1 hi with h | rfl
     ·exact hall i h
     ·simpa using hb
    ·rw [show zAx l (k + 1) = (l.getD k default).auth from by simp [zAx]]
     clear hpk hall hf
     exact wkZ
  ·simp only [yMz] at hge
   try (refine wg ?_; try refine sM fun K hK => ?_)
   have hq : zS4 host l = -1 := xI (fun i hi => by rw [yO6] at hi; rw [zC5 hi]; simp [hall i (by omega)])
   have hq2 : zAx l (zKp host l) = zAx l k := by
    unfold zKp
    rw [hq, if_pos (by omega), show k = l.length from by omega]
   rw [hq, hq2]
   clear hall hf
   all_goals (refine yG (by simp) ⟨_, _, _, evl, obq, jD.bel ?_ obb, by simp, ?_, rfl, obb, obb⟩)
   all_goals first | rfl | (simp []; done) | (simp_all []; done) | (simp_all []; omega) | (simp []; grind) | (split <;> simp_all) | skip
theorem zNl (host : Int) (l : List zN) (hl : l.length ≤ 4611686018427387904) (hf : ∀ r ∈ l, r.fits) : FnG Tryz.prog 224 [lA 10 zN.av l, zT5] (rBx 0 host l) [] (.raw (.bool (decide (0 ≤ zS4 host l)))) (rBx (zAx l (zKp host l)) host l) [] := by
 have hi := zXq host l hl hf
 clear hl hf
 generalize zAx l (zKp host l) = x at *
 generalize zS4 host l = q at *
 refine enG Tryz.func224 Tryz.ntmps224 [.tmp 4] 3 rfl ?_
 try (first | refine wkM hK trivial ?_ | refine wkg trivial ?_)
 try clear hK K
 try refine sM fun K hK => ?_
 refine xW [0, 1, 2] [] (hi) rfl rfl rfl ⟨_, evl, _, evl, _, evl, obl, by decide, by decide, hlT, hlT, zWv, _, evl, _, evl, _, evl, ?_⟩
 try (first | refine wkM hK trivial ?_ | refine wkg trivial ?_)
 try clear hK K
 try refine sM fun K hK => ?_
 all_goals (refine yG (by simp) ⟨_, _, _, evl, obq, jD.bel ?_ obb, by simp, ?_, rfl, obb, obb⟩)
 all_goals first | rfl | (simp []; done) | (simp_all []; done) | (simp_all []; omega) | (simp []; grind) | (split <;> simp_all) | skip
def zDs (host : Int) (l : List zN) : Prop := l.length ≤ 16 ∧ ∀ i, i < l.length → zTh host l i
instance (host : Int) (l : List zN) : Decidable (zDs host l) := by unfold zDs; infer_instance
theorem yBu (host : Int) (l : List zN) : 0 ≤ zS4 host l ↔ ¬ ∀ i, i < l.length → zTh host l i := by
 have h := qZ (fun i => !decide (zTh host l i)) (List.range l.length)
 constructor
 ·intro h0 hall
  have h1 : zS4 host l = -1 := xI (fun i hi => by rw [yO6] at hi; rw [zC5 hi]; simp [hall i hi])
  omega
 ·intro hn
  have h2 : (List.range l.length).any (fun i => !decide (zTh host l i)) = true := by
   rw [yNd]
   refine yO7 fun hc => hn fun i hi => yO7 fun hr => hc ⟨i, yN5.2 hi, by simp [hr]⟩
  rw [h2] at h
  exact yNw h
theorem yA3 (host : Int) (l : List zN) (hl : l.length ≤ 4611686018427387904) (hf : ∀ r ∈ l, r.fits) : FnA Tryz.prog 179 [.raw (.int .i64 host), lA 10 zN.av l] (.raw (.bool (decide (zDs host l)))) := by
 have hc := zNl host l hl hf
 have hb := yBu host l
 have hfr : (lA 10 zN.av l).free := zC (fun y => zN.free y) _
 clear hl hf
 generalize zAx l (zKp host l) = x at *
 by_cases h16 : l.length ≤ 16
 ·have e : decide (zDs host l) = !decide (0 ≤ zS4 host l) := by
   rw [yLb, yLs, yO5, yMz, hb, yNo]
   exact ⟨fun h => h.2, fun h => ⟨h16, h⟩⟩
  rw [e]
  clear e hb
  generalize zS4 host l = q at *
  refine en Tryz.func179 Tryz.ntmps179 [.tmp 4] rfl ?_
  try (refine wg ?_; try refine sM fun K hK => ?_)
  rw [yO3 (show (l.length : Int) ≤ 16 by omega)]
  refine yA1 [2, 0, 1] [] evl hc rfl rfl ⟨_, evl, _, evl, _, evl, obl, by decide, by decide, (by first | trivial | exact ⟨rfl, trivial⟩ | exact ⟨rfl, rfl, trivial⟩ | exact ⟨rfl, rfl, rfl, trivial⟩ | simp [zCe, AV.renL, AV.ren, yD.ren]), (by first | trivial | exact ⟨rfl, trivial⟩ | exact ⟨rfl, rfl, trivial⟩ | exact ⟨rfl, rfl, rfl, trivial⟩ | simp [zCe, AV.renL, AV.ren, yD.ren]), (by first | (simp [AV.subL, AV.sub]; done) | (simp only [yMn, yMo, yMp, yMq, yMs, yKz, AV.subL, AV.sub, yL2, yMc, yLe, Nat.reduceAdd]; (repeat' apply And.intro) <;> first | trivial | omega | (simp; done) | (refine AV.sub_free _ ?_; exact zC (fun _ => by simp) _) | (refine AV.subL_free _ ?_; simp; done) | (intro r hr; cases hr; done))), _, evl, _, evl, _, evl, ?_⟩
  try (first | refine wkM hK trivial ?_ | refine wkg trivial ?_)
  try clear hK K
  try refine sM fun K hK => ?_
  refine rq ?_ ?_
  ·simp
  ·simp [AV.free]
 ·rw [yO4 (fun h : zDs host l => h16 h.1)]
  clear hb
  generalize zS4 host l = q at *
  refine en Tryz.func179 Tryz.ntmps179 [.tmp 4] rfl ?_
  try (refine wg ?_; try refine sM fun K hK => ?_)
  rw [yO4 (show ¬ (l.length : Int) ≤ 16 by omega)]
  refine yJ 1 rfl ?_
  refine zR rfl rfl ⟨_, evl, _, _, _, evl, (fun hg => by cases hg), ?_⟩
  refine ⟨.raw (.bool false), (fun hg => by cases hg), ?_⟩
  try (first | refine wkM hK trivial ?_ | refine wkg trivial ?_)
  try clear hK K
  try refine sM fun K hK => ?_
  refine rq ?_ ?_
  ·simp
  ·simp [AV.free]
end Go.Proofs.YtchpbdecipcelaaGreatDoor
