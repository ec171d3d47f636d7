import Derived.Test.YtchpbdecipcelaaGreatDoorMR01
import Derived.Test.YtchpbdecipcelaaGreatDoorMR41
import Derived.Test.YtchpbdecipcelaaGreatDoorMR43
namespace Go.Proofs.YtchpbdecipcelaaGreatDoor
set_option linter.unusedVariables false
set_option linter.unusedSimpArgs false
set_option maxHeartbeats 4000000
set_option maxRecDepth 100000
open Go.RowKit
theorem zNr {m : zL} (h : (zT m).2.2 ≠ 0) : (zT m).1 = [] := by
 unfold zT at *
 split
 ·rfl
 ·split
  ·rfl
  ·split
   ·rfl
   ·rename_i h1 h2 h3
    rw [if_neg h1, if_neg h2, if_neg h3] at h
    exact absurd rfl h
theorem zX8 (p : zB) : FnA Tryz.prog 98 [.agg p.av] (.raw (.bool (decide (xS p)))) := by
 have e : decide (xS p) = if p.kind = 1 then (decide (1 ≤ p.id) && decide (p.id ≤ 16)) else if p.kind = 2 then (decide (1 ≤ p.id) && decide (p.id ≤ 64)) else (decide (p.kind = 3) && decide (p.id = 0)) := by
  rw [yLb, yO5]
  unfold xS
  by_cases h1 : p.kind = 1
  ·simp [h1]
  ·by_cases h2 : p.kind = 2
   ·simp [h2]
   ·simp [h1, h2]
 rw [e]
 clear e
 refine en Tryz.func98 Tryz.ntmps98 [.tmp 2] rfl ?_
 try (refine wg ?_; try refine sM fun K hK => ?_)
 refine zA ⟨_, evl, fun hb => ?_, fun hb => ?_⟩
 ·rw [if_pos (yNw hb)]
  try (refine wg ?_; try refine sM fun K hK => ?_)
  all_goals exact fA
 ·rw [if_neg (yOc hb)]
  try (refine wg ?_; try refine sM fun K hK => ?_)
  refine zA ⟨_, evl, fun hb => ?_, fun hb => ?_⟩
  ·rw [if_pos (yNw hb)]
   try (refine wg ?_; try refine sM fun K hK => ?_)
   all_goals exact fA
  ·rw [if_neg (yOc hb)]
   try (refine wg ?_; try refine sM fun K hK => ?_)
   all_goals exact fA
theorem zHe (l : List zB) (hl : l.length ≤ 4611686018427387904) : FnA Tryz.prog 50 [lA 2 zB.av l] (.raw (.bool (decide (wJ l)))) := by
 have hfl : (lA 2 zB.av l).free := zC (fun y => zB.free y) _
 refine en Tryz.func50 Tryz.ntmps50 [.tmp 2] rfl ?_
 try (refine wg ?_; try refine sM fun K hK => ?_)
 refine zF (fun k : Nat => ⟨21, 0, [(0, true, lA 2 zB.av l), (3, true, .raw (.int .i64 k))], [], [], ((0, []), [], true)⟩)
  (fun k => k ≤ l.length ∧ ∀ i, i < k → xS (l.getD i default)) (fun k => l.length - k) 0 ?_ ⟨by omega, fun i h => by omega⟩ ?_
 ·exact wkZ
 rintro k ⟨hk, hall⟩
 rcases yKt k l.length with hlt | hge
 ·have hh := zX8 (l.getD k default)
  generalize hz : decide (xS (l.getD k default)) = z at hh
  try (refine wg ?_; try refine sM fun K hK => ?_)
  refine zA ⟨_, evl, fun _ => ?_, fun hb => absurd (yOc hb) (by omega)⟩
  try (refine wkg hh ?_; try refine sM fun K hK => ?_)
  refine zA ⟨_, evl, fun hb => ?_, fun hb => ?_⟩
  ·have hm : ¬ wJ l := fun h => by
    have := yO3 (h.2 _ (w9 hlt))
    rw [hz] at this
    rw [this] at hb
    simp at hb
   try (refine wg ?_; try refine sM fun K hK => ?_)
   refine rq ?_ ?_
   ·rw [yO4 hm]
   ·simp [AV.free]
  ·rw [yMx] at hb
   subst hb
   try (refine wg ?_; try refine sM fun K hK => ?_)
   refine ⟨k + 1, ⟨by omega, fun i hi => ?_⟩, by omega, ?_⟩
   ·rcases yNv.1 hi with h | rfl
    ·exact hall i h
    ·exact yNw hz
   ·exact wkZ
 ·obtain rfl : k = l.length := by omega
  have e : decide (wJ l) = decide ((l.length : Int) ≤ 100) := by
   refine decide_eq_decide.2 ⟨fun h => by have := h.1; omega, fun h => ⟨by omega, fun p hp => ?_⟩⟩
   obtain ⟨i, hi, rfl⟩ := vN hp
   exact hall i hi
  rw [e]
  clear e
  try (refine wg ?_; try refine sM fun K hK => ?_)
  refine zA ⟨_, evl, fun hb => absurd (yNw hb) (by omega), fun _ => ?_⟩
  try (refine wg ?_; try refine sM fun K hK => ?_)
  all_goals exact fA
theorem zYq (l : List zB) (hl : l.length ≤ 4611686018427387904) : FnA Tryz.prog 61 [lA 2 zB.av l] (.raw (.int .i64 (wK l))) := by
 have hfl : (lA 2 zB.av l).free := zC (fun y => zB.free y) _
 refine en Tryz.func61 Tryz.ntmps61 [.tmp 2] rfl ?_
 try (refine wg ?_; try refine sM fun K hK => ?_)
 refine zF (fun k : Nat => ⟨20, 0, [(0, true, lA 2 zB.av l), (3, true, .raw (.int .i64 (wK (l.take k)))), (4, true, .raw (.int .i64 k))], [], [], ((0, []), [], true)⟩)
  (fun k => k ≤ l.length) (fun k => l.length - k) 0 ?_ (by omega) ?_
 ·exact wkZ
 intro k hk
 rcases yKt k l.length with hlt | hge
 ·have hs := zRw l hlt
  have hal : wK (l.take k) ≤ k := by
   unfold wK
   exact yKr List.countP_le_length (by rw [yN3]; omega)
  generalize wK (l.take k) = a0 at *
  try (refine wg ?_; try refine sM fun K hK => ?_)
  refine zA ⟨_, evl, fun _ => ?_, fun hb => absurd (yOc hb) (by omega)⟩
  try (refine wg ?_; try refine sM fun K hK => ?_)
  refine zA ⟨_, evl, fun hb => ?_, fun hb => ?_⟩
  ·rw [if_pos (yNw hb)] at hs
   try (refine wg ?_; try refine sM fun K hK => ?_)
   refine ⟨k + 1, by omega, by omega, ?_⟩
   rw [hs]
   exact wkZ
  ·rw [if_neg (yOc hb), Nat.add_zero] at hs
   try (refine wg ?_; try refine sM fun K hK => ?_)
   refine ⟨k + 1, by omega, by omega, ?_⟩
   rw [hs]
   exact wkZ
 ·obtain rfl : k = l.length := by omega
  rw [yNt]
  try (refine wg ?_; try refine sM fun K hK => ?_)
  refine zA ⟨_, evl, fun hb => absurd (yNw hb) (by omega), fun _ => ?_⟩
  try (refine wg ?_; try refine sM fun K hK => ?_)
  all_goals exact fA
theorem yAc (l : List zH) (hl : l.length ≤ 4611686018427387904) (hw : ∀ b ∈ l, b.who.length ≤ 4611686018427387904) (n : Int) (blamed : List zB) (hb : blamed.length ≤ 4611686018427387904) :
  FnA Tryz.prog 16 [lA 4 zH.av l, .raw (.int .i64 n), lA 2 zB.av blamed] (.tup [.raw (.bool (zE7 l n blamed).1), .raw (.int .i64 (zE7 l n blamed).2)]) := by
 have hfl : (lA 4 zH.av l).free := zC (fun y => zH.free y) _
 have hfb : (lA 2 zB.av blamed).free := zC (fun y => zB.free y) _
 have hp := zHe blamed hb
 have hno : ¬ zYs l n blamed → zE7 l n blamed = (false, 1) := fun h => by unfold zE7; rw [if_neg h]
 generalize hcb : decide (wJ blamed) = cb at *
 refine en Tryz.func16 Tryz.ntmps16 [.tmp 6, .tmp 7] rfl ?_
 try (refine wkg hp ?_; try refine sM fun K hK => ?_)
 refine zA ⟨_, evl, fun hc => ?_, fun hc => ?_⟩
 ·have hn : ¬ zYs l n blamed := by
   rintro ⟨⟨a1, a2⟩, a3, a4, _⟩
   rw [yO3 a4] at hcb
   subst hcb
   simp at hc
   omega
  rw [hno hn]
  try (refine wg ?_; try refine sM fun K hK => ?_)
  all_goals exact fA
 simp only [yN1, yMx, yMz] at hc
 obtain ⟨⟨⟨c1, c2⟩, c3⟩, rfl⟩ := hc
 have hcb := yNw hcb
 try (refine wg ?_; try refine sM fun K hK => ?_)
 refine zF (fun k : Nat => ⟨102, 0, [(0, true, lA 4 zH.av l), (1, true, .raw (.int .i64 n)), (2, true, lA 2 zB.av blamed), (9, true, .raw (.int .i64 k))], [], [], ((0, []), [], true)⟩)
  (fun k => k ≤ l.length ∧ ∀ i, i < k → xQ n (l.getD i default)) (fun k => l.length - k) 0 ?_ ⟨by omega, fun i h => by omega⟩ ?_
 ·exact wkZ
 rintro k ⟨hk, hall⟩
 rcases yKt k l.length with hlt | hge
 ·have hw1 := zHe (l.getD k default).who (hw _ (w9 hlt))
  have hfw : (lA 2 zB.av (l.getD k default).who).free := zC (fun y => zB.free y) _
  generalize hcw : decide (wJ (l.getD k default).who) = cw at *
  try (refine wg ?_; try refine sM fun K hK => ?_)
  refine zA ⟨_, evl, fun _ => ?_, fun hb => absurd (yOc hb) (by omega)⟩
  try (refine wkg hw1 ?_; try refine sM fun K hK => ?_)
  refine zA ⟨_, evl, fun hc => ?_, fun hc => ?_⟩
  ·have hn : ¬ zYs l n blamed := by
    rintro ⟨_, _, _, a4⟩
    obtain ⟨b1, b2, b3, b4⟩ := a4 _ (w9 hlt)
    rw [yO3 b4] at hcw
    subst hcw
    simp only [yMy, yMl, yM7, false_or, yLr] at hc
    omega
   rw [hno hn]
   try (refine wg ?_; try refine sM fun K hK => ?_)
   all_goals exact fA
  ·have hk1 : xQ n (l.getD k default) := by
    simp only [yN1, yMx, yMz] at hc
    obtain ⟨⟨⟨⟨⟨⟨d1, d2⟩, d3⟩, d4⟩, d5⟩, d6⟩, d7⟩ := hc
    subst d1
    exact ⟨by omega, by omega, by omega, yNw hcw⟩
   clear hc
   try (refine wg ?_; try refine sM fun K hK => ?_)
   refine ⟨k + 1, ⟨by omega, fun i hi => ?_⟩, by omega, ?_⟩
   ·rcases yNv.1 hi with h | rfl
    ·exact hall i h
    ·exact hk1
   ·exact wkZ
 ·obtain rfl : k = l.length := by omega
  have hbs : ∀ b ∈ l, xQ n b := fun b hb => by
   obtain ⟨i, hi, rfl⟩ := vN hb
   exact hall i hi
  have hask : zYs l n blamed := ⟨by omega, by omega, hcb, hbs⟩
  have hpe : zE7 l n blamed = (zBe l n.toNat blamed, 0) := by unfold zE7; rw [if_pos hask]
  obtain ⟨N, rfl⟩ : ∃ N : Nat, n = N := ⟨n.toNat, by omega⟩
  rw [yLx] at hpe
  have hT := zO8 l (by omega) N (by omega) hbs blamed hb
  have hI := zJj (by omega) hbs blamed
  rw [hpe, ← hI]
  generalize zBz l N blamed = T at *
  clear hpe hI hno
  cases T with
  | none =>
   simp only [zT8] at hT
   try (refine wg ?_; try refine sM fun K hK => ?_)
   refine zA ⟨_, evl, fun hb => absurd (yNw hb) (by omega), fun _ => ?_⟩
   try (refine wkg hT ?_; try refine sM fun K hK => ?_)
   all_goals exact fA
  | some t =>
   simp only [zT8] at hT
   try (refine wg ?_; try refine sM fun K hK => ?_)
   refine zA ⟨_, evl, fun hb => absurd (yNw hb) (by omega), fun _ => ?_⟩
   try (refine wkg hT ?_; try refine sM fun K hK => ?_)
   all_goals exact fA
theorem zKb {P : Program} {T : TT} (hT : TOk P T) {ops : Array Oper} {o : Oper} {st : ASt} {g : Bool} {cs : List Bool} {x : AV} {p : Prop} (hg : xL ops st o = some g) (h : mkA T st o.op = some (cs, x, p))
  (hp : g = true → (∀ c ∈ cs, c = true) ∧ p) : j4 P ops o st g (.ful x) := by
 intro G a w htb hm hs
 refine ⟨y7 hg hs, fun hgt ro K Q hK => ?_⟩
 obtain ⟨hc, hq⟩ := hp hgt
 clear hp
 have hev : ∀ y ∈ o.op.operands.toList, zGm G w a st y := fun y hy => yU fun t ht => hs t (xU (by rw [← ht]; exact hy))
 refine zZ (fun c hc => by rw [hc] at h; simp [mkA] at h) ?_
 obtain ⟨dst, op, type, pos, after, guard⟩ := o
 simp only at h hev
 unfold mkA at h
 split at h
 ·rename_i t len parts
  split at h
  ·rename_i e _ _ _ _ h1
   split at h
   ·rename_i j h2
    split at h
    ·rename_i gs cs' p' h3
     simp only [yKj, yKy] at h
     obtain ⟨rfl, rfl, rfl⟩ := h
     obtain ⟨q1, q2, q3, q4⟩ := hq
     have hev' : ∀ q ∈ parts.toList, zGm G w a st q.2 := fun q hq => hev q.2 (by simp [Op.operands]; exact ⟨q.1, by simpa using hq⟩)
     obtain ⟨us, e1, e2⟩ := wR (a := a) hm _ _ _ _ _ _ hev' h3 hc q1 (wV len j.zero)
     have e3 := vV (w := w) (hT _ _ h1) rfl (hT _ _ h2) q2 q3 q4 (parts := parts.map fun q => (q.1, a.eval q.2)) (us := us) (by simpa using e1)
     have hlen : us.length = len * j.size := by
      have := zCk _ _ _ e1
      simp only [yM5, xT, q4] at this
      exact this
     simp only [execOp, Sem.run_bind, e3, Result.andThen_ok, Sem.run_pure]
     have hcell : ∀ k u, us[k]? = some u → (w.alloc (.cells us.toArray e)).cell? ⟨w.heap.size, k, none⟩ = some u := fun k u hk => by
      have := heap_alloc_new w (.cells us.toArray e)
      simp only [World.cell?, this]
      simpa using hk
     have E := wP hm ((Below.refl _ _).alloc (yKq _) (.cells us.toArray e)) (fun b o => G.imm b o ∨ (b = w.heap.size ∧ o < us.length)) (fun b o i => .inl i) (fun b o i => i.elim .inl fun i => .inr (by omega))
      (fun b o i => by
       rcases i with i | ⟨rfl, i⟩
       ·have := hm.lt_imm i
        rw [World.cell?_of_block (w := w) (heap_alloc_old w _ this)]
        exact hm.immOk b o i
       ·rw [hcell o us[o] (yLm i)]; rfl)
     refine hK _ _ _ E ⟨⟨_, len, rfl, yKq _, ?_, fun hn => ⟨w.heap.size, 0, rfl, fun i hi => ?_⟩⟩, _, _, rfl⟩
     ·have : len ≤ len * j.size := Nat.le_mul_of_pos_right _ q2
      simp only [maxLen]; omega
     ·refine ⟨(us.drop (i * j.size)).take j.size, AV.relL_take _ (AV.relL_drop _ (AV.relL_mono E.le _ _ e2)), ?_, fun k u hk => ?_⟩
      ·have : (i + 1) * j.size ≤ len * j.size := yLl _ hi
       rw [Nat.succ_mul] at this
       simp; omega
      ·rw [yKn] at hk
       split at hk
       ·rw [yKm] at hk
        have hlt := (yLk.1 hk).1
        rw [yLe]
        exact ⟨.inr ⟨rfl, hlt⟩, hcell _ _ hk⟩
       ·cases hk
    ·cases h
   ·cases h
  ·cases h
 ·cases h
theorem zQj {P : Program} {T : TT} {ops : Array Oper} {r : List Oper} {k : ASt → Prop} {nt nb : Nat} {sl : List (Nat × (Bool × AV))} {bx : List (List AV)} {rw : List yD} {ys : (Nat × List (List AV)) × List (List AV) × Bool} {o : Oper} {d : Nat} (hT : TOk P T) (hd : o.dst = some d) (hn : Nat.blt d nt = true)
  (h : ∃ g, xL ops ⟨nt, nb, sl, bx, rw, ys⟩ o = some g ∧ ∃ cs x p, mkA T ⟨nt, nb, sl, bx, rw, ys⟩ o.op = some (cs, x, p) ∧ (g = true → (∀ c ∈ cs, c = true) ∧ p) ∧ xK P ops r k ⟨nt, nb, (d, (g, .ful x)) :: sl, bx, rw, ys⟩) : xK P ops (o :: r) k ⟨nt, nb, sl, bx, rw, ys⟩ :=
 let ⟨_, hg, _, _, _, h, hp, hk⟩ := h
 zA0 hd (zKb hT hg h hp) hn hk
theorem zT1 {P : Program} {T : TT} {ops : Array Oper} {rest : List Oper} {K : ASt → Prop} {nt nb : Nat} {sl : List (Nat × (Bool × AV))} {bx : List (List AV)} {rw : List yD} {ys : (Nat × List (List AV)) × List (List AV) × Bool} {o : Oper} {d : Nat} (hT : TOk P T) (hg : o.guard = none) (hd : o.dst = some d) (hn : Nat.blt d nt = true)
  {x y : Operand} {t : TypeId} (hop : o.op = .call ⟨.builtin .append, #[x, y], #[t, t]⟩) {X : AV} (hx : (ASt.mk nt nb sl bx rw ys).ev x = some (true, X)) {sz : Nat} {el : Nat → List AV} (hy : (ASt.mk nt nb sl bx rw ys).ev y = some (true, .lst sz 0 el))
  (hX : ∀ G w v, AV.rel G w X v → ∃ A n cap, v = .slice A n cap ∧ n ≤ cap)
  {e s1 b1 : Nat} {z1 : List Value} {q1 : List CK} (h2 : T t = some ⟨.slice e, s1, b1, z1, q1⟩) {j : TI} (h3 : T e = some j) (hsz : 0 < j.size ∧ j.zero.length = j.size)
  (hk : xK P ops rest K ⟨nt, nb, (d, (true, X)) :: sl, bx, rw, ys⟩) : xK P ops (o :: rest) K ⟨nt, nb, sl, bx, rw, ys⟩ := by
 obtain ⟨j0, jz⟩ := hsz
 intro C G a w Q hs hQ
 have hev : ∀ y ∈ o.op.operands.toList, zGm G w a ⟨nt, nb, sl, bx, rw, ys⟩ y := fun y hy => yU fun t ht => hs.slot t
 have hxr := hev x (by rw [hop]; simp [Op.operands, Call.operands]) _ _ hx rfl
 obtain ⟨A, n, cap, ex, hnc⟩ := hX _ _ _ hxr
 obtain ⟨A', cap', ey, _⟩ := hev y (by rw [hop]; simp [Op.operands, Call.operands]) _ _ hy rfl
 have hu := zEj hT h2
 obtain ⟨ie, z, g2', g1', g3, g4, e2⟩ := zIs hT h3
 have hf : (Builtin.firstCells j.size 0 (.slice A' 0 cap')).run P w = .ok #[] w := by
  cases A' with
  | none => simp [run_firstCells_none]
  | some A => exact run_firstCells_some (P := P) w j.size 0 A 0 cap' [] (by simp) (fun q u hq => by simp at hq)
 refine wpListIn_plain hg fun K' hK => ?_
 refine zZ (fun c hc => by rw [hop] at hc; cases hc) ?_
 have hexec : (execOp a.eval o).run P w = .ok (.value (.slice A n cap)) w := by
  obtain ⟨dst, op, type, pos, after, guard⟩ := o
  simp only at hop
  subst hop
  cases A with
  | none => simp [execOp, resolve, invoke, builtin, ex, ey, Builtin.append_, run_underlying hu, Builtin.lenOf, sizeOf, typeInfo, g2', g1', hf, hnc]
  | some A =>
   have hst : (storeCells (A.add (n * j.size)) []).run P w = .ok () w := by simp [storeCells]
   simp [execOp, resolve, invoke, builtin, ex, ey, Builtin.append_, run_underlying hu, Builtin.lenOf, sizeOf, typeInfo, g2', g1', hf, hnc, hst]
 rw [ex] at hxr
 rw [hexec, Oper.uponIn_value, hd]
 exact hK _ _ (hk C _ _ _ Q (hs.put (by simpa [yM6] using hn) (fun _ => hxr) (fun h => by cases h)) hQ)
theorem zUz {s n : Nat} {el : Nat → List AV} (G : Gh) (w : World) (v : Value) (h : AV.rel G w (.ful (.lst s n el)) v) : ∃ A n cap, v = .slice A n cap ∧ n ≤ cap := by
 obtain ⟨_, A, m, hv⟩ := h
 exact ⟨A, m, m, hv, yKq _⟩
theorem Sim.ful (x : AV) : Sim (.ful x) x := fun _ _ _ h => h.1
theorem zEw {α : Type} [Inhabited α] {enc : α → List AV} {bx : List (List AV)} {rw : List yD} {L : List α} {x : α} {el : Nat → List AV} (h : z8 bx rw (el 0) (enc x)) : ∀ q, q < L.length + 1 → z8 bx rw (vX L.length (els enc L) el q) (els enc (L ++ [x]) q) := by
 intro q hq
 rw [← yT (l := L) (n := L.length) rfl]
 rcases yKt q L.length with hb | hb
 ·rw [xJ hb, xJ hb]
  exact z8.refl _
 ·obtain h0 : q - L.length = 0 := by omega
  rw [y6 hb, y6 hb, h0]
  exact h
end Go.Proofs.YtchpbdecipcelaaGreatDoor
