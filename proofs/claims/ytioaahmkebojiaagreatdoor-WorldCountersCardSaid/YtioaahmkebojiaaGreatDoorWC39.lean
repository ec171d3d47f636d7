import Derived.Test.YtioaahmkebojiaaGreatDoorWC01
import Derived.Test.YtioaahmkebojiaaGreatDoorWC38
namespace Go.Proofs.YtioaahmkebojiaaGreatDoor
set_option linter.unusedVariables false
set_option linter.unusedSimpArgs false
set_option maxHeartbeats 4000000
set_option maxRecDepth 100000
set_option linter.unusedSectionVars false
open Go.RowKit
variable [SpT]
mutual
/-- All numbers in a value are among some. -/
def CV.inK (K : Nat → Bool) : CV → Bool
 | .raw _ => true
 | .agg cs => CV.inKL K cs
 | .tup cs => CV.inKL K cs
 | .box k _ => K k
 | .bsl _ k _ _ _ => K k
 | .fn _ first cap => CV.inKL K first && CV.inKL K cap
 | .mp _ => false
 | .yld _ => false
 | .gp _ _ => true
 | .sym _ => true
 | .ifc _ x => x.inK K
 | .row _ _ => false
def CV.inKL (K : Nat → Bool) : List CV → Bool
 | [] => true
 | x :: xs => x.inK K && CV.inKL K xs
end
def zW3 (K : Nat → Bool) (φ : Phi) : Phi := fun k => bif K k then φ k else none
theorem zCu {K : Nat → Bool} {φ : Phi} {k : Nat} (h : K k = true) : zW3 K φ k = φ k := by simp [zW3, h]
theorem zF0 {K : Nat → Bool} {φ : Phi} {k b : Nat} (h : zW3 K φ k = some b) : K k = true ∧ φ k = some b := by
 unfold zW3 at h
 cases hk : K k with
 | true => rw [hk] at h; exact ⟨rfl, h⟩
 | false => rw [hk] at h; cases h
mutual
theorem CV.rel_cut {K : Nat → Bool} {φ : Phi} {w : World} : ∀ (x : CV) (v : Value), x.inK K = true → x.rel φ w v → x.rel (zW3 K φ) w v
 | .raw _, _, _, h => h
 | .agg cs, _, hk, ⟨vs, e, h⟩ => ⟨vs, e, CV.relL_cut cs vs hk h⟩
 | .tup cs, _, hk, ⟨vs, e, h⟩ => ⟨vs, e, CV.relL_cut cs vs hk h⟩
 | .box k _, _, hk, ⟨b, h1, h2⟩ => ⟨b, (zCu hk).trans h1, h2⟩
 | .bsl _ k _ _ _, _, hk, ⟨b, c, p, h1, h2⟩ => ⟨b, c, p, (zCu hk).trans h1, h2⟩
 | .fn _ first cap, _, hk, ⟨fs, cs, e, h1, h2⟩ => by
  simp only [CV.inK, yNj] at hk
  exact ⟨fs, cs, e, CV.relL_cut first fs hk.1 h1, CV.relL_cut cap cs hk.2 h2⟩
 | .mp _, _, hk, _ => by cases hk
 | .yld _, _, hk, _ => by cases hk
 | .gp _ _, _, _, h => h
 | .sym _, _, _, h => h
 | .ifc _ x, _, hk, ⟨u, e, h⟩ => ⟨u, e, CV.rel_cut x u hk h⟩
 | .row _ _, _, hk, _ => by cases hk
theorem CV.relL_cut {K : Nat → Bool} {φ : Phi} {w : World} : ∀ (xs : List CV) (vs : List Value), CV.inKL K xs = true → CV.relL φ w xs vs → CV.relL (zW3 K φ) w xs vs
 | [], _, _, h => h
 | x :: xs, _, hk, ⟨v, r, e, h1, h2⟩ => by
  simp only [CV.inKL, yNj] at hk
  exact ⟨v, r, e, CV.rel_cut x v hk.1 h1, CV.relL_cut xs r hk.2 h2⟩
end
structure ME where
 args : List CV
 hs : List (Nat × Bool × List CV)
 n0 : Nat
 r : CV
noncomputable def eqB (a b : Bool) : Bool := @Bool.rec (fun _ => Bool) (noB b) b a
theorem yBz {a b : Bool} (h : eqB a b = true) : a = b := by cases a <;> cases b <;> first | rfl | cases h
noncomputable def cbEq (o : Option CB) (full : Bool) (cs : List CV) : Bool := @Option.rec CB (fun _ => Bool) false (fun b => @CB.rec (fun _ => Bool) (fun full' cs' => anB (eqB full' full) (CV.beqL cs' cs)) (fun _ => false) (fun _ _ _ _ _ _ => false) false false b) o
theorem zTc {o : Option CB} {full : Bool} {cs : List CV} (h : cbEq o full cs = true) : o = some (.cells full cs) := by
 cases o with
 | none => cases h
 | some b =>
  cases b with
  | cells full' cs' =>
   change anB (eqB full' full) (CV.beqL cs' cs) = true at h
   rw [zBw, yNj] at h
   rw [yBz h.1, CV.beqL_ok _ _ h.2]
  | _ => cases h
noncomputable def mtQ (e : ME) (args : List CV) (h : CH) : Bool := anB (CV.beqL args e.args) (allQ (fun b => cbEq (getN h b.1) b.2.1 b.2.2) e.hs)
noncomputable def lookQ (l : List ME) (args : List CV) (h : CH) (d : Option CV) : Option CV := @List.rec ME (fun _ => Option CV) d (fun e _ ih => @Bool.rec (fun _ => Option CV) ih (some e.r) (mtQ e args h)) l
theorem zNo {args : List CV} {h : CH} {d : Option CV} {r : CV} : ∀ {l : List ME}, lookQ l args h d = some r → d = some r ∨ ∃ e ∈ l, mtQ e args h = true ∧ e.r = r
 | [], hl => .inl hl
 | e :: l, hl => by
  change @Bool.rec (fun _ => Option CV) (lookQ l args h d) (some e.r) (mtQ e args h) = some r at hl
  cases hm : mtQ e args h with
  | true => rw [hm] at hl; cases hl; exact .inr ⟨e, by simp, hm, rfl⟩
  | false =>
   rw [hm] at hl
   rcases zNo hl with h1 | ⟨x, h1, h2⟩
   ·exact .inl h1
   ·exact .inr ⟨x, by simp [h1], h2⟩
noncomputable def tellM (tb : Tr (List ME)) (O : FuncId → List CV → CH → Option CV) : FuncId → List CV → CH → Option CV := fun f args h => @Option.rec (List ME) (fun _ => Option CV) (O f args h) (fun l => lookQ l args h (O f args h)) (getN tb f)
noncomputable def hT (hs : List (Nat × Bool × List CV)) : CH := @List.rec (Nat × Bool × List CV) (fun _ => CH) .e (fun b _ ih => setP (some (.cells b.2.1 b.2.2)) (pathQ b.1) ih fun t => t) hs
theorem zJr {k : Nat} {blk : CB} : ∀ {hs : List (Nat × Bool × List CV)}, (hT hs).get k = some blk → ∃ full cs, (k, full, cs) ∈ hs ∧ blk = .cells full cs
 | [], h => by cases h
 | b :: r, h => by
  change (setP (some (.cells b.2.1 b.2.2)) (pathQ b.1) (hT r) fun t => t).get k = some blk at h
  rw [wD, Tr.get_put] at h
  cases hk : Nat.beq k b.1 with
  | true =>
   rw [hk] at h
   cases h
   exact ⟨b.2.1, b.2.2, by rw [yMs hk]; simp, rfl⟩
  | false =>
   rw [hk] at h
   obtain ⟨full, cs, h1, h2⟩ := zJr h
   exact ⟨full, cs, by simp [h1], h2⟩
noncomputable def isK (t : CH) (k : Nat) : Bool := @Option.rec CB (fun _ => Bool) false (fun _ => true) (getN t k)
theorem yBl {t : CH} {k : Nat} (h : isK t k = true) : ∃ blk, t.get k = some blk := by
 unfold isK at h
 rw [yX] at h
 cases hg : t.get k with
 | none => rw [hg] at h; cases h
 | some blk => exact ⟨blk, rfl⟩
theorem yBm {t : CH} {k : Nat} {blk : CB} (h : t.get k = some blk) : isK t k = true := by
 unfold isK
 rw [yX, h]
noncomputable def entOk (O : FuncId → List CV → CH → Option CV) (T : TT) (F : FuncId → Option FnE) (m : Nat) (f : Nat) (e : ME) : Bool :=
 anB (anB (CV.plain e.r) (CV.inKL (isK (hT e.hs)) e.args)) (anB (allQ (fun b => anB (Nat.blt b.1 e.n0) (CV.inKL (isK (hT e.hs)) b.2.2)) e.hs)
  (@Option.rec (CV × CH × Nat) (fun _ => Bool) false (fun q => @Prod.rec CV (CH × Nat) (fun _ => Bool) (fun r q => @Prod.rec CH Nat (fun _ => Bool) (fun h _ => anB (CV.beq r e.r) (allQ (fun b => cbEq (getN h b.1) b.2.1 b.2.2) e.hs)) q) q) (evalFQ O T F (drawQ T) m (.fn f) e.args (hT e.hs) e.n0)))
theorem zVt {O : FuncId → List CV → CH → Option CV} {T : TT} {F : FuncId → Option FnE} {m f : Nat} {e : ME} (h : entOk O T F m f e = true) :
  CV.plain e.r = true ∧ CV.inKL (isK (hT e.hs)) e.args = true ∧ (∀ b ∈ e.hs, b.1 < e.n0 ∧ CV.inKL (isK (hT e.hs)) b.2.2 = true) ∧ ∃ h' n', xV O T F (drawQ T) m (.fn f) e.args (hT e.hs) e.n0 = some (e.r, h', n') ∧ ∀ b ∈ e.hs, h'.get b.1 = some (.cells b.2.1 b.2.2) := by
 unfold entOk at h
 simp only [zBw, yNj] at h
 obtain ⟨⟨h1, h2⟩, h3, h4⟩ := h
 refine ⟨h1, h2, fun b hb => ?_, ?_⟩
 ·have := v7 h3 b hb
  rw [yNj] at this
  exact ⟨yY this.1, this.2⟩
 ·rw [kH] at h4
  cases he : xV O T F (drawQ T) m (.fn f) e.args (hT e.hs) e.n0 with
  | none => rw [he] at h4; cases h4
  | some q =>
   obtain ⟨r, h', n'⟩ := q
   rw [he] at h4
   simp only [yNj] at h4
   refine ⟨h', n', by rw [CV.beq_ok _ _ h4.1], fun b hb => ?_⟩
   have := zTc (v7 h4.2 b hb)
   rw [yX] at this
   exact this
theorem zOs {P : Program} {O : FuncId → List CV → CH → Option CV} {T : TT} {F : FuncId → Option FnE} (hM : MOk P) (hO : v8 P O) (hT' : TOk P T) (hF : zU9 P F) (hm : P.follows .mixedOrders = true) {m f : Nat} {e : ME} (he : entOk O T F m f e = true) {h : CH} (hmt : mtQ e e.args h = true) :
  wS P f ∧ ∀ (w0 : FW) φ nx w vs, HS P w0 φ h nx w → CV.relL φ w e.args vs → Calls P f vs.toArray w fun e' w' => ∃ v φ', e' = .returned v ∧ y0 φ w φ' w' ∧ HS P w0 φ' h nx w' ∧ e.r.rel φ' w' v := by
 obtain ⟨hp, ha, hb, h', n', hev, hpost⟩ := zVt he
 have hC := qM hM hO hT' hF (fun call n hC => zBp hC hT' hm n) m
 obtain ⟨k1, k2⟩ := hC.fn _ _ _ _ _ _ _ hev
 unfold mtQ at hmt
 rw [zBw, yNj] at hmt
 have hpre : ∀ b ∈ e.hs, h.get b.1 = some (.cells b.2.1 b.2.2) := fun b hb => by
  have := zTc (v7 hmt.2 b hb)
  rw [yX] at this; exact this
 have hk : ∀ k, isK (hT e.hs) k = true → ∃ full cs, (k, full, cs) ∈ e.hs ∧ (hT e.hs).get k = some (.cells full cs) := fun k hk => by
  obtain ⟨blk, h1⟩ := yBl hk
  obtain ⟨full, cs, h2, rfl⟩ := zJr h1
  exact ⟨full, cs, h2, h1⟩
 refine ⟨k1, fun w0 φ nx w vs hs hr => ?_⟩
 have F2 : ∃ F2 : FW, F2.w = w ∧ F2.sz = w0.sz ∧ (∀ b, F2.kp b ↔ ((w0.kp b ∨ ((∃ k, φ k = some b) ∧ ∀ k, isK (hT e.hs) k = true → φ k ≠ some b)) ∧ b < w.heap.size)) ∧ F2.n0 = 0 ∧ ∀ k, ¬ F2.no k :=
  ⟨⟨w, w0.sz, fun b => ((w0.kp b ∨ ((∃ k, φ k = some b) ∧ ∀ k, isK (hT e.hs) k = true → φ k ≠ some b)) ∧ b < w.heap.size), 0, fun _ => False, yMk w0.le hs.below.size, fun b h => h.2, fun k h => h.elim⟩, rfl, rfl, fun _ => Iff.rfl, rfl, fun _ h => h⟩
 obtain ⟨F2, f1, f2, f3, f4, f5⟩ := F2
 have notfree : ∀ b, ¬ w0.free b → ¬ F2.free b := fun b hb hf => by
  refine hb ⟨by rw [← f2]; exact hf.1, fun hk => hf.2 ((f3 b).2 ⟨.inl hk, ?_⟩)⟩
  exact yMl (w0.lt b hk) hs.below.size
 have H2 : HS P F2 (zW3 (isK (hT e.hs)) φ) (hT e.hs) e.n0 w := by
  refine ⟨⟨by rw [f1], by rw [f1], by rw [f1], by rw [f1]; exact yMj _, fun _ _ => by rw [f1]⟩, ⟨fun k blk hkb => ?_, fun k k' blk blk' b hkb hkb' e1 e2 => ?_, fun k hkn => ?_⟩, fun w' hw => hs.tabs w' fun g hg => ?_, hs.tab, by rw [f4]; exact yMh _, fun k hk => absurd hk (f5 k)⟩
  ·obtain ⟨full, cs, h1, rfl⟩ := zJr hkb
   obtain ⟨b, g1, g2, g3⟩ := hs.heap.here k _ (hpre _ h1)
   have hK := yBm hkb
   refine ⟨b, (zCu hK).trans g1, ⟨by rw [f2]; exact g2.1, fun hkp => ?_⟩, ?_⟩
   ·rcases ((f3 b).1 hkp).1 with h2 | h2
    ·exact g2.2 h2
    ·exact h2.2 k hK g1
   ·obtain ⟨us, tail, T, q1, q2, q3⟩ := g3
    exact ⟨us, tail, T, q1, CV.relL_cut _ _ (hb _ h1).2 q2, q3⟩
  ·obtain ⟨full, cs, h1, rfl⟩ := zJr hkb
   obtain ⟨full', cs', h1', rfl⟩ := zJr hkb'
   exact hs.heap.inj k k' _ _ b (hpre _ h1) (hpre _ h1') (zF0 e1).2 (zF0 e2).2
  ·cases hK : isK (hT e.hs) k with
   | false => simp [zW3, hK]
   | true =>
    obtain ⟨full, cs, h1, _⟩ := hk k hK
    have := (hb _ h1).1
    simp only at this
    omega
  ·have h1 := hw g (by rw [f2]; exact hg)
   rw [f1] at h1
   exact h1.trans (hs.below.block g fun hf => by have := hf.1; omega)
 refine (k2 F2 _ w vs H2 (CV.relL_cut _ _ ha hr)).mono ?_
 rintro e' w' ⟨v, φ', rfl, E, hs', hv⟩
 have kept : ∀ b, ¬ F2.free b → w'.heap[b]? = w.heap[b]? := fun b h => by
  have := hs'.below.block b h
  rw [f1] at this; exact this
 have E2 : y0 φ w φ w' := fun k b hkb => ⟨hkb, by
  rcases Classical.em (∃ k', isK (hT e.hs) k' = true ∧ φ k' = some b) with ⟨k', h1, h2⟩ | hn
  ·exact (E k' b ((zCu h1).trans h2)).2
  ·rcases yMn b w.heap.size with h1 | h1
   ·have : w'.heap[b]? = w.heap[b]? := kept b fun hf => hf.2 ((f3 b).2 ⟨.inr ⟨⟨k, hkb⟩, fun k' h2 h3 => hn ⟨k', h2, h3⟩⟩, h1⟩)
    exact szK.same this
   ·exact szK.none h1⟩
 refine ⟨v, φ, rfl, E2, ⟨⟨?_, ?_, ?_, ?_, fun b hb => (kept b (notfree b hb)).trans (hs.below.block b hb)⟩, ⟨fun k blk hkb => ?_, hs.heap.inj, hs.heap.fresh⟩, hs.tabs, hs.tab, hs.num⟩, CV.plain_rel _ _ hp hv⟩
 ·have := hs'.below.os; rw [f1] at this; exact this.trans hs.below.os
 ·have := hs'.below.tape; rw [f1] at this; exact this.trans hs.below.tape
 ·have := hs'.below.output; rw [f1] at this; exact this.trans hs.below.output
 ·have := hs'.below.size; rw [f1] at this; exact yMk hs.below.size this
 ·obtain ⟨b, g1, g2, g3⟩ := hs.heap.here k blk hkb
  refine ⟨b, g1, g2, ?_⟩
  cases hK : isK (hT e.hs) k with
  | true =>
   obtain ⟨full, cs, h1, _⟩ := hk k hK
   rw [hpre _ h1] at hkb
   cases hkb
   obtain ⟨b', d1, _, d3⟩ := hs'.heap.here k _ (hpost _ h1)
   have d4 := (E k b ((zCu hK).trans g1)).1
   rw [d4] at d1
   cases d1
   obtain ⟨us, tail, T, q1, q2, q3⟩ := d3
   refine ⟨us, tail, T, q1, CV.relL_mono (φ := zW3 (isK (hT e.hs)) φ') (fun j c hj => ⟨?_, szK.refl _ _⟩) _ _ (CV.relL_cut _ _ (hb _ h1).2 q2), q3⟩
   obtain ⟨hj1, hj2⟩ := zF0 hj
   obtain ⟨full2, cs2, h2, _⟩ := hk j hj1
   obtain ⟨c2, m1, _, _⟩ := hs.heap.here j _ (hpre _ h2)
   rw [(E j c2 ((zCu hj1).trans m1)).1] at hj2
   cases hj2
   exact m1
  | false =>
   refine g3.mono E2 (kept b fun hf => hf.2 ((f3 b).2 ⟨.inr ⟨⟨k, g1⟩, fun k' h2 h3 => ?_⟩, g3.lt⟩))
   obtain ⟨full, cs, h4, _⟩ := hk k' h2
   have := hs.heap.inj k k' _ _ b hkb (hpre _ h4) g1 h3
   subst this
   rw [hK] at h2; cases h2
def zX1 (O : FuncId → List CV → CH → Option CV) (T : TT) (F : FuncId → Option FnE) (m : Nat) (tb : Tr (List ME)) : Prop := ∀ f l, tb.get f = some l → ∀ e ∈ l, entOk O T F m f e = true
theorem qU {P : Program} {O : FuncId → List CV → CH → Option CV} {T : TT} {F : FuncId → Option FnE} (hM : MOk P) (hO : v8 P O) (hT : TOk P T) (hF : zU9 P F) (hm : P.follows .mixedOrders = true) {m : Nat} {tb : Tr (List ME)} (h : zX1 O T F m tb) : v8 P (tellM tb O) := fun f args hp r hr => by
 unfold tellM at hr
 rw [yX] at hr
 cases hg : tb.get f with
 | none => rw [hg] at hr; exact hO f args hp r hr
 | some l =>
  rw [hg] at hr
  rcases zNo hr with h1 | ⟨e, he, hmt, rfl⟩
  ·exact hO f args hp r h1
  ·have ha : args = e.args := by
    unfold mtQ at hmt
    rw [zBw, yNj] at hmt
    exact CV.beqL_ok _ _ hmt.1
   subst ha
   exact zOs hM hO hT hF hm (h f l hg e he) hmt
noncomputable def allT (p : Nat → ME → Bool) (t : Tr (List ME)) : (Nat → Nat) → Bool := @Tr.rec (List ME) (fun _ => (Nat → Nat) → Bool) (fun _ => true) (fun o _ _ ihl ihr k => anB (@Option.rec (List ME) (fun _ => Bool) true (fun l => allQ (p (k 0)) l) o) (anB (ihl fun i => k (Nat.succ (Nat.mul 2 i))) (ihr fun i => k (Nat.succ (Nat.succ (Nat.mul 2 i)))))) t
theorem zMl {p : Nat → ME → Bool} : ∀ (t : Tr (List ME)) (k : Nat → Nat), allT p t k = true → ∀ f l, t.get f = some l → ∀ e ∈ l, p (k f) e = true
 | .e, _, _, _, _, h, _, _ => by cases h
 | .n x a b, k, h, f, l, hf, e, he => by
  change anB (@Option.rec (List ME) (fun _ => Bool) true (fun l => allQ (p (k 0)) l) x) (anB (allT p a fun i => k (Nat.succ (Nat.mul 2 i))) (allT p b fun i => k (Nat.succ (Nat.succ (Nat.mul 2 i))))) = true at h
  rw [zBw, zBw, yNj, yNj] at h
  cases f with
  | zero =>
   change x = some l at hf
   subst hf
   exact v7 h.1 e he
  | succ m =>
   simp only [Tr.get, zOe, show Nat.beq (m + 1) 0 = false from rfl, yN5, show Nat.pred (m + 1) = m from rfl] at hf
   cases hb : Nat.beq (Nat.mod m 2) 0 with
   | true =>
    rw [hb] at hf
    have h1 := zMl a _ h.2.1 _ _ hf e he
    have h2 : m % 2 = 0 := yMs hb
    have h3 : Nat.succ (Nat.mul 2 (Nat.div m 2)) = m + 1 := by
     show 2 * (m / 2) + 1 = m + 1
     omega
    rw [h3] at h1
    exact h1
   | false =>
    rw [hb] at hf
    have h1 := zMl b _ h.2.2 _ _ hf e he
    have h2 : ¬ m % 2 = 0 := fun h => by
     rw [show Nat.beq (Nat.mod m 2) 0 = Nat.beq (m % 2) 0 from rfl, h] at hb; cases hb
    have h3 : Nat.succ (Nat.succ (Nat.mul 2 (Nat.div m 2))) = m + 1 := by
     show 2 * (m / 2) + 2 = m + 1
     omega
    rw [h3] at h1
    exact h1
theorem vT {O : FuncId → List CV → CH → Option CV} {T : TT} {F : FuncId → Option FnE} {m : Nat} {tb : Tr (List ME)} (h : allT (entOk O T F m) tb (fun f => f) = true) : zX1 O T F m tb := fun f l hf e he => zMl tb _ h f l hf e he
end Go.Proofs.YtioaahmkebojiaaGreatDoor
