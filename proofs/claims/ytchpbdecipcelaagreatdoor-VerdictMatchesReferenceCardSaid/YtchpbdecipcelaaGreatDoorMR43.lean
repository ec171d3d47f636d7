import Derived.Test.YtchpbdecipcelaaGreatDoorMR01
import Derived.Test.YtchpbdecipcelaaGreatDoorMR41
import Derived.Test.YtchpbdecipcelaaGreatDoorMR42
namespace Go.Proofs.YtchpbdecipcelaaGreatDoor
set_option linter.unusedVariables false
set_option linter.unusedSimpArgs false
set_option maxHeartbeats 4000000
set_option maxRecDepth 100000
open Go.RowKit
theorem zRw (l : List zB) {k : Nat} (h : k < l.length) : wK (l.take (k + 1)) = wK (l.take k) + if (l.getD k default).kind = 1 then 1 else 0 := by
 rw [yNs h, zU h]
 unfold wK
 rw [List.countP_append, List.countP_singleton]
 by_cases hq : l[k].kind = 1 <;> simp [hq]
section
variable {nt nb : Nat} {sl sl' : List (Nat × (Bool × AV))} {bx : List (List AV)} {rw : List yD} {ys : (Nat × List (List AV)) × List (List AV) × Bool}
end
theorem zV0 {a b : List AV} (ha : AV.freeL a) (hb : AV.freeL b) : AV.freeL (a ++ b) := by
 induction a with
 | nil => exact hb
 | cons x a ih => exact ⟨ha.1, ih ha.2⟩
theorem zXy {a : List AV} (n : Nat) (ha : AV.freeL a) : AV.freeL (a.drop n) := by
 induction n generalizing a with
 | zero => exact ha
 | succ n ih =>
  cases a with
  | nil => exact ha
  | cons x a => exact ih ha.2
def yKf (bx : List (List AV)) (b c : Nat) (L : List zB) : Prop := ∃ zs, bx[b]? = some (pcs L ++ zs) ∧ L.length ≤ c ∧ c ≤ maxLen ∧ c * 2 ≤ (pcs L ++ zs).length ∧ (0 < c → 1 ≤ b) ∧ AV.freeL zs
section
variable {P : Program} {T : TT} {ops : Array Oper} {rest : List Oper} {K : ASt → Prop} {nt nb : Nat} {sl : List (Nat × (Bool × AV))} {p0 : List AV} {bx : List (List AV)} {rw : List yD} {ys : (Nat × List (List AV)) × List (List AV) × Bool} {o : Oper} {d : Nat}
theorem zFc (hT : TOk P T) (hg : o.guard = none) (hd : o.dst = some d) (hn : Nat.blt d nt = true)
  {cs : List Bool} {b n c m : Nat} {us : List AV} {p : Prop} {t t' : TypeId} (h1 : yC0 ⟨nt, nb, sl, p0 :: bx, rw, ys⟩ .append o.op = some (cs, (2, b, 0, n, c), (2, m, us, p), t, t')) (hc : ∀ c ∈ cs, c = true) (hp : p) (htt : t' = t)
  {e s1 b1 : Nat} {z1 : List Value} {q1 : List CK} (h2 : T t = some ⟨.slice e, s1, b1, z1, q1⟩) {j : TI} (h3 : T e = some j) (hsz : j.size = 2 ∧ j.zero = [.int .i64 0, .int .i64 0] ∧ j.bytes = 16) {L M : List zB} (hA : yKf (p0 :: bx) b c L) (hL : L.length = n) (hM : M.length = m) (hus : us = pcs M)
  (hmax : n + m ≤ 1000000)
  (h : ∀ bx' b' c', yKf (p0 :: bx') b' c' (L ++ M) → xK P ops rest K ⟨nt, nb, (d, (true, .bsl 2 b' 0 (n + m) c')) :: sl, p0 :: bx', rw, ys⟩) : xK P ops (o :: rest) K ⟨nt, nb, sl, p0 :: bx, rw, ys⟩ := by
 obtain ⟨zs, a1, a2, a3, a4, a5, a6⟩ := hA
 obtain ⟨j1, j2, j3⟩ := hsz
 have hj : 2 = j.size ∧ 2 = j.size ∧ 0 < j.size ∧ j.zero.length = j.size := by rw [j1, j2]; exact ⟨rfl, rfl, by decide, rfl⟩
 subst hL hM hus
 rcases yLj M.length with h0 | h0
 ·obtain rfl := yO9.1 h0
  refine zDa hT hg hd hn h1 hc hp htt h2 h3 hj ?_
  exact h bx b c ⟨zs, by rw [yMj]; exact a1, by rw [yMj]; exact a2, a3, by rw [yMj]; exact a4, a5, a6⟩
 ·refine zFd hT hg hd hn h1 hc hp htt h2 h3 hj h0 a1 (zMo _ _) (by omega) ⟨by simp only [maxLen]; omega, by rw [j3]; omega⟩ (fun hr bx' hb => ?_) (fun hr c' hc1 hc2 bx' bn hbn hb => ?_)
  ·have hb1 : 1 ≤ b := a5 (by omega)
   obtain ⟨b, rfl⟩ : ∃ b1, b = b1 + 1 := ⟨b - 1, by omega⟩
   rw [yLd] at hb
   subst hb
   rw [yKk] at a1
   have hlt := (yLk.1 a1).1
   refine h _ _ _ ⟨zs.drop (M.length * 2), ?_, by rw [yL5]; exact hr, a3, ?_, a5, zXy _ a6⟩
   ·rw [yKk, yN9 hlt, yLe]
    rw [yL5, xP] at a4
    conv => lhs; rw [← yNh (M.length * 2) zs]
    rw [zMm (xP _) (by rw [xP, yN3]; omega), jL, yN2]
   ·rw [yL5, xP] at a4 ⊢
    rw [yN4, yL5]
    omega
  ·have e1 : ((pcs L ++ zs).drop 0).take (L.length * 2) ++ pcs M ++ vB (c' - (L.length + M.length)) j.zero = pcs (L ++ M) ++ pcs (List.replicate (c' - (L.length + M.length)) default) := by
    rw [List.drop_zero, List.take_left' (xP _), ← jL, j2, j8]
   rw [e1] at hb
   clear e1
   subst hb hbn
   rw [yL3]
   refine h _ _ _ ⟨pcs (List.replicate (c' - (L.length + M.length)) default), ?_, by rw [yL5]; exact hc1, hc2, ?_, fun _ => by simp, zEo _⟩
   ·rw [yL2, yKk, yM2 (yKq _), yM9]
    rfl
   ·rw [yL5, xP, xP, yL5, List.length_replicate]
    omega
end
theorem zV9 {α β : Type} {l : List α} {f g : α → List β} (h : ∀ i ∈ l, f i = g i) : l.flatMap f = l.flatMap g := by
 rw [List.flatMap_def, List.flatMap_def, List.map_congr_left h]
theorem yB7 (R : List zB) {k : Nat} (h : k ≤ R.length) : (List.range k).flatMap (els zB.av R) = pcs (R.take k) := by
 have hk : (R.take k).length = k := by rw [yN3]; omega
 rw [← jP, hk]
 refine zV9 fun i hi => ?_
 have hi := yN5.1 hi
 unfold els
 rw [show (R.take k).getD i default = R.getD i default by rw [zU (by omega), zU (by omega)]; simp]
theorem yB8 (R : List zB) {k : Nat} (h : k ≤ R.length) : (List.range (R.length - k)).flatMap (fun i => els zB.av R (k + i)) = pcs (R.drop k) := by
 have hk : (R.drop k).length = R.length - k := yN4
 rw [← jP, hk]
 refine zV9 fun i hi => ?_
 have hi := yN5.1 hi
 unfold els
 rw [show (R.drop k).getD i default = R.getD (k + i) default by rw [zU (by omega), zU (by omega)]; simp]
theorem yDp {bx : List (List AV)} {b c n : Nat} {L : List zB} (h : yKf bx b c L) (hL : L.length = n) : AV.frz 0 bx (.bsl 2 b 0 n c) = .lst 2 n (z7 2 ((bx[b]?).getD [])) ∧ AV.okF 0 bx (.bsl 2 b 0 n c) ∧ ∀ i, i < n → z7 2 ((bx[b]?).getD []) i = els zB.av L i := by
 obtain ⟨zs, a1, a2, a3, a4, a5, a6⟩ := h
 have hlt := (yLk.1 a1).1
 subst hL
 rw [a1]
 refine ⟨?_, ?_, fun i hi => ?_⟩
 ·unfold AV.frz
  rw [a1]
  rfl
 ·refine .inr ⟨hlt, ?_, ?_⟩
  ·rw [a1]
   exact AV.belL_free _ (zV0 (zEo _) a6)
  ·rw [a1]
   simp only [yLa, yL5, xP]
   omega
 ·simp only [yLa]
  exact zRp (enc := zB.av) (sz := 2) (fun _ => rfl) hi
theorem Vd.ins_at {α : Type} [DecidableEq α] [Inhabited α] (lt : α → α → Bool) (p : α) : ∀ (R : List α) (k : Nat), k ≤ R.length → (∀ i, i < k → lt (R.getD i default) p = true) → (k = R.length ∨ lt (R.getD k default) p = false) →
  Vd.ins lt R p = if k = R.length ∨ R.getD k default ≠ p then R.take k ++ p :: R.drop k else R
 | [], k, h1, _, _ => by
  obtain rfl : k = 0 := by simpa using h1
  simp [Vd.ins]
 | q :: R, 0, _, _, h3 => by
  have h3 : lt q p = false := by simpa using h3
  by_cases hq : q = p
  ·subst hq
   simp [Vd.ins, h3]
  ·simp [Vd.ins, h3, hq]
 | q :: R, k + 1, h1, h2, h3 => by
  have h0 : lt q p = true := by simpa using h2 0 (by omega)
  have ih := Vd.ins_at lt p R k (by simpa using h1) (fun i hi => by simpa using h2 (i + 1) (by omega)) (by simpa using h3)
  rw [Vd.ins, if_pos h0, ih]
  simp only [yL2, List.getD_cons_succ, Nat.add_right_cancel_iff, List.take_succ_cons, List.drop_succ_cons, yL3]
  split <;> rfl
theorem zN9 (L : List zB) (p : zB) : Vd.insAll ltP (L ++ [p]) = Vd.ins ltP (Vd.insAll ltP L) p := by
 unfold Vd.insAll
 rw [List.foldl_append]
 rfl
theorem zRb {L : List zB} (h : ∀ x ∈ L, xS x) : (Vd.insAll ltP L).length ≤ 83 := by
 refine Vd.nodup_len (t := zEt) (Vd.sorted_nodup zX9 (Vd.insAll_ok zX9 _).1) fun x hx => zL6 (h x ?_)
 exact ((Vd.insAll_ok zX9 _).2 x).1 hx
theorem zW4 (a b : zB) : FnA Tryz.prog 64 [.agg a.av, .agg b.av] (.raw (.bool (ltP a b))) := by
 have e : ltP a b = (decide (a.kind < b.kind) || (decide (a.kind = b.kind) && decide (a.id < b.id))) := by
  rw [yLb, zFu]
  simp
 rw [e]
 clear e
 refine en Tryz.func64 Tryz.ntmps64 [.tmp 4] rfl ?_
 try (refine wg ?_; try refine sM fun K hK => ?_)
 all_goals exact fA
theorem yEb (l : List zH) (hl : l.length ≤ 1000000) (hc : ∀ b ∈ l, wJ b.who) : FnA Tryz.prog 26 [lA 4 zH.av l] (lA 2 zB.av (zGo l)) := by
 have hfl : (lA 4 zH.av l).free := zC (fun y => zH.free y) _
 unfold zGo
 refine en Tryz.func26 Tryz.ntmps26 [.tmp 2] rfl ?_
 try (refine wg ?_; try refine sM fun K hK => ?_)
 refine zF (fun k : Nat => ⟨74, 0, [(0, true, lA 4 zH.av l), (3, true, lA 2 zB.av (Vd.insAll ltP (qU (l.take k)))), (4, true, .raw (.int .i64 k))], [], [], ((0, []), [], true)⟩)
  (fun k => k ≤ l.length) (fun k => l.length - k) 0 ?_ (by omega) ?_
 ·simp only [yMi]
  show xE _ ⟨_, _, [(0, true, lA 4 zH.av l), (3, true, lA 2 zB.av []), _], _, _, _⟩
  exact wkZ
 intro k hk
 rcases yKt k l.length with hlt | hge
 ·have hst := zO0 l hlt
  have hcw := hc _ (w9 hlt)
  have hpk : ∀ x ∈ qU (l.take k), xS x := fun x hx => by
   obtain ⟨b, hb, hx⟩ := yOb.1 hx
   exact (hc b (yMh hb)).2 x hx
  generalize qU (l.take k) = W0 at *
  try (refine wg ?_; try refine sM fun K hK => ?_)
  refine zA ⟨_, evl, fun _ => ?_, fun hb => absurd (yOc hb) (by omega)⟩
  try (refine wg ?_; try refine sM fun K hK => ?_)
  refine zF (fun i : Nat => ⟨74, 0, [(0, true, lA 4 zH.av l), (3, true, lA 2 zB.av (Vd.insAll ltP (W0 ++ (l.getD k default).who.take i))), (4, true, .raw (.int .i64 k)), (5, true, .raw (.int .i64 i))], [], [], ((0, []), [], true)⟩)
   (fun i => i ≤ (l.getD k default).who.length) (fun i => (l.getD k default).who.length - i) 0 ?_ (by omega) ?_
  ·simp only [yMi, yMj]
   exact wkZ
  intro i hi
  rcases yKt i (l.getD k default).who.length with hlw | hgw
  ·have hsn : ∀ i2, i2 = i + 1 → Vd.insAll ltP (W0 ++ (l.getD k default).who.take i2) = Vd.ins ltP (Vd.insAll ltP (W0 ++ (l.getD k default).who.take i)) ((l.getD k default).who.getD i default) := fun i2 e => by
    subst e
    rw [yNs hlw, ← yN2, zN9, zU hlw]
   have hR : (Vd.insAll ltP (W0 ++ (l.getD k default).who.take i)).length ≤ 83 := zRb fun x hx => (yMa.1 hx).elim (hpk x) fun hx => hcw.2 x (yMh hx)
   generalize hRe : Vd.insAll ltP (W0 ++ (l.getD k default).who.take i) = R at *
   clear hRe
   have hfR : (lA 2 zB.av R).free := zC (fun y => zB.free y) _
   have hw1 : (l.getD k default).who.length ≤ 100 := hcw.1
   try (refine wg ?_; try refine sM fun K hK => ?_)
   refine zA ⟨_, evl, fun _ => ?_, fun hb => absurd (yOc hb) (by omega)⟩
   try (refine wg ?_; try refine sM fun K hK => ?_)
   generalize hpe : (l.getD k default).who.getD i default = p at *
   clear hpe
   refine zF (fun a : Nat => ⟨74, 0, [(0, true, lA 4 zH.av l), (3, true, lA 2 zB.av R), (4, true, .raw (.int .i64 k)), (5, true, .raw (.int .i64 i)), (6, true, .box 0 0), (7, true, .raw (.int .i64 a))], [p.av], [], ((0, []), [], true)⟩)
    (fun a => a ≤ R.length ∧ ∀ j, j < a → ltP (R.getD j default) p = true) (fun a => R.length - a) 0 ?_ ⟨by omega, fun j hj => absurd hj (by omega)⟩ ?_
   ·exact wkZ
   rintro a ⟨ha, hall⟩
   have hbf := zW4 (R.getD a default) p
   have hin := Vd.ins_at ltP p R a ha hall
   generalize hlt2 : ltP (R.getD a default) p = lt at *
   try (refine wkg hbf ?_; try refine sM fun K hK => ?_)
   refine zA ⟨_, evl, fun hb => ?_, fun hb => ?_⟩
   ·have hb2 : a < R.length ∧ lt = true := by simpa using hb
    obtain ⟨ha2, rfl⟩ := hb2
    clear hb hin
    try (refine wg ?_; try refine sM fun K hK => ?_)
    refine ⟨a + 1, ⟨by omega, fun j hj => ?_⟩, by omega, ?_⟩
    ·rcases yNv.1 hj with h | rfl
     ·exact hall j h
     ·exact hlt2
    ·exact wkZ
   ·have hb2 : a = R.length ∨ lt = false := by
     rcases yKt a R.length with h | h
     ·have hq : (a : Int) < R.length := by omega
      simp only [hq, decide_true] at hb
      right
      simpa using hb
     ·exact .inl (by omega)
    replace hin := hin hb2
    clear hb hb2 hall hlt2
    try (refine wg ?_; try refine sM fun K hK => ?_)
    rw [eqPQ]
    refine zA ⟨_, evl, fun hb => ?_, fun hb => ?_⟩
    ·have hb3 : a = R.length ∨ R.getD a default ≠ p := by
      simp only [yMy, yLs, yLr, yMz] at hb
      exact hb.imp (fun h => by omega) id
     rw [if_pos hb3] at hin
     clear hb hb3
     repeat (refine stG ?_)
     refine zE (fun K hK => ?_)
     refine stB ?_
     iterate 3 (refine stG ?_)
     refine zFc (L := []) (n := 0) (M := R.take a) yH rfl rfl rfl evl (by simp) (by trivial) (by rfl) (by rfl) (by rfl) (by exact ⟨rfl, rfl, rfl⟩) ?_ rfl ?_ ?_ (by omega) (fun bx1 b1 c1 h1 => ?_)
     ·exact ⟨[], rfl, yKq _, yKo _, yKq _, fun h => absurd h (by decide), trivial⟩
     ·rw [yN3]; omega
     ·exact yB7 R ha
     rw [yLc] at h1
     rw [yLe]
     refine stG ?_
     refine zG (hK _ ?_); clear hK K
     repeat (refine stG ?_)
     refine zE (fun K hK => ?_)
     iterate 3 (refine stG ?_)
     refine zFc (M := [p]) (m := 1) yH rfl rfl rfl evl (by simp) (by trivial) (by rfl) (by rfl) (by rfl) (by exact ⟨rfl, rfl, rfl⟩) h1 (by rw [yN3]; omega) rfl ?_ (by omega) (fun bx2 b2 c2 h2 => ?_)
     ·rfl
     clear h1
     refine stG ?_
     refine zG (hK _ ?_); clear hK K
     repeat (refine stG ?_)
     refine zE (fun K hK => ?_)
     iterate 4 (refine stG ?_)
     refine zFc (M := R.drop a) (m := R.length - a) yH rfl rfl rfl evl (by simp) (by trivial) (by rfl) (by rfl) (by rfl) (by exact ⟨rfl, rfl, rfl⟩) h2 (by rw [yL5, yN3, List.length_singleton]; omega) (by rw [yN4]) ?_ (by omega) (fun bx3 b3 c3 h3 => ?_)
     ·exact yB8 R ha
     clear h2
     have hN : a + 1 + (R.length - a) = R.length + 1 := by omega
     rw [yN2, List.singleton_append, ← hin] at h3
     rw [hN]
     refine stG ?_
     refine xX (xE.sl (sl' := [(0, true, lA 4 zH.av l), (3, true, .bsl 2 b3 0 (R.length + 1) c3), (4, true, .raw (.int .i64 k)), (5, true, .raw (.int .i64 i))]) ?_) ?_
     ·simp only [vZ, zO, ↓reduceIte, Nat.reduceEqDiff, yMs, yKz, yKj, yKy]
      all_goals ((repeat' apply And.intro) <;> first | rfl | omega)
     have hiL : (Vd.ins ltP R p).length = R.length + 1 := by
      rw [hin, yL5, yN3, yL2, yN4]
      omega
     obtain ⟨f1, f2, f3⟩ := yDp h3 hiL
     refine xX (xE.freeze 0 (yKq _) trivial (by simp [zLy]) ?_) ?_
     ·exact ⟨fun i hi => AV.belL_free _ (hfl i hi), f2, trivial, trivial, trivial⟩
     simp only [zXx, f1, yB5, yMi, show ∀ bx, AV.frz 0 bx (lA 4 zH.av l) = lA 4 zH.av l from fun _ => rfl]
     refine zG (hK _ ?_); clear hK K
     try (first | refine wkM hK trivial ?_ | refine wkg trivial ?_)
     try clear hK K
     try refine sM fun K hK => ?_
     refine ⟨i + 1, by omega, by omega, ?_⟩
     rw [hsn (i + 1) rfl]
     clear f1 f2
     generalize z7 2 _ = ch at *
     generalize Vd.ins ltP R p = R2 at *
     refine wkn ?_ ?_ ?_
     all_goals first | exact wk0 | refine wkS ?_ | skip
     all_goals (try trivial)
     all_goals ((repeat' apply And.intro) <;> first | exact wkL | skip)
     exact (Sim.lstE hiL.symm f3).s
    ·have hb3 : ¬ (a = R.length ∨ R.getD a default ≠ p) := by
      simp only [yN1, yMx, yLr, yMz] at hb
      exact fun h => h.elim (fun h => hb.1 (by omega)) fun h => h hb.2
     rw [if_neg hb3] at hin
     try (refine wg ?_; try refine sM fun K hK => ?_)
     refine ⟨i + 1, by omega, by omega, ?_⟩
     rw [hsn (i + 1) rfl, hin]
     exact wkZ
  ·obtain rfl : i = (l.getD k default).who.length := by omega
   rw [yNt, ← hst]
   try (refine wg ?_; try refine sM fun K hK => ?_)
   refine zA ⟨_, evl, fun hb => absurd (yNw hb) (by omega), fun _ => ?_⟩
   try (refine wg ?_; try refine sM fun K hK => ?_)
   refine ⟨k + 1, by omega, by omega, ?_⟩
   exact wkZ
 ·obtain rfl : k = l.length := by omega
  rw [yNt]
  try (refine wg ?_; try refine sM fun K hK => ?_)
  refine zA ⟨_, evl, fun hb => absurd (yNw hb) (by omega), fun _ => ?_⟩
  try (refine wg ?_; try refine sM fun K hK => ?_)
  all_goals exact fA
end Go.Proofs.YtchpbdecipcelaaGreatDoor
