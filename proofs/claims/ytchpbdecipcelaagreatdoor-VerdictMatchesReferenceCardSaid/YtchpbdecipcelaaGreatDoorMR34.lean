import Derived.Test.YtchpbdecipcelaaGreatDoorMR01
import Derived.Test.YtchpbdecipcelaaGreatDoorMR33
namespace Go.Proofs.YtchpbdecipcelaaGreatDoor
set_option linter.unusedVariables false
set_option linter.unusedSimpArgs false
set_option maxHeartbeats 4000000
set_option maxRecDepth 100000
open Go.RowKit
def zYs (l : List zH) (n : Int) (blamed : List zB) : Prop := (1 ≤ n ∧ n ≤ 1000) ∧ l.length ≤ 20000 ∧ wJ blamed ∧ ∀ b ∈ l, xQ n b
instance (l : List zH) (n : Int) (blamed : List zB) : Decidable (zYs l n blamed) := by unfold zYs; infer_instance
def zE7 (l : List zH) (n : Int) (blamed : List zB) : Bool × Int := if zYs l n blamed then (zBe l n.toNat blamed, 0) else (false, 1)
theorem yEa (l : List zH) (n : Int) (blamed : List zB) : (!decide (zYs l n blamed)) = (!(decide (1 ≤ n) && decide (n ≤ 1000)) || decide (20000 < (l.length : Int)) || !decide (wJ blamed) || l.any fun b => !decide (xQ n b)) := by
 rw [yLb, yLs, yMz]
 simp only [yLs, yMz, yMy, yN0, yLr, yNd]
 unfold zYs
 constructor
 ·intro h
  refine yO7 fun hn => h ⟨⟨?_, ?_⟩, ?_, ?_, fun b hb => ?_⟩
  ·exact yO7 fun h2 => hn (.inl (.inl (.inl (.inl h2))))
  ·exact yO7 fun h2 => hn (.inl (.inl (.inl (.inr h2))))
  ·exact yO7 fun h2 => hn (.inl (.inl (.inr (by omega))))
  ·exact yO7 fun h2 => hn (.inl (.inr h2))
  ·exact yO7 fun h2 => hn (.inr ⟨b, hb, h2⟩)
 ·rintro h ⟨⟨h1, h2⟩, h3, h4, h5⟩
  rcases h with (((h | h) | h) | h) | ⟨b, hb, h⟩
  ·exact h h1
  ·exact h h2
  ·omega
  ·exact h h4
  ·exact h (h5 b hb)
theorem zAv (l : List zH) (n : Int) (h : (1 ≤ n ∧ n ≤ 1000) ∧ l.length ≤ 20000) : FnA Tryz.prog 48 [lA 4 zH.av l, .fn (.func 46) [] [.elt [.raw (.int .i64 n)] 0, .elt [zVv] 0]] (.raw (.bool (l.any fun b => !decide (xQ n b)))) :=
 zGd l (by omega) 46 [.elt [.raw (.int .i64 n)] 0, .elt [zVv] 0] (by simp [AV.free, AV.freeL]) (fun b => !decide (xQ n b)) fun b _ => yE9 n h.1 b
theorem zI3 (l : List zH) (n : Int) (blamed : List zB) : FnA Tryz.prog 15 [lA 4 zH.av l, .raw (.int .i64 n), lA 2 zB.av blamed] (.tup [.raw (.bool (zE7 l n blamed).1), .raw (.int .i64 (zE7 l n blamed).2)]) := by
 have hfl : (lA 4 zH.av l).free := zC (fun y => zH.free y) _
 have hfb : (lA 2 zB.av blamed).free := zC (fun y => zB.free y) _
 have hask := yEa l n blamed
 have hcr := zVu blamed
 have hw := yO n 1 1000
 refine en Tryz.func15 Tryz.ntmps15 [.tmp 6, .tmp 7] rfl ?_
 repeat (refine stG ?_)
 refine zE (fun K hK => ?_)
 iterate 3 (refine stG ?_)
 refine zG (hK _ ?_); clear hK K
 repeat (refine stG ?_)
 refine zE (fun K hK => ?_)
 iterate 2 (refine stG ?_)
 refine z0 0 obf ⟨_, evl, _, evl, ?_⟩
 refine zG (hK _ ?_); clear hK K
 repeat (refine stG ?_)
 refine zE (fun K hK => ?_)
 iterate 3 (refine stG ?_)
 refine z0 0 obf ⟨_, evl, _, evl, ?_⟩
 refine zG (hK _ ?_); clear hK K

 repeat
  first
   | (refine zG (hK _ ?_); clear hK K)
   | refine stG ?_
   | (refine yJ 1 rfl ?_; refine zR rfl rfl ⟨_, evl, _, _, _, evl, yR, ?_⟩; apply Exists.intro; refine ⟨fun hg => ?_, ?_⟩; · first | exact FnA.at_ (hw) rfl rfl | exact FnA.at_ (hcr) rfl rfl | exact FnA.at_ (zAv l n (by simp only [yLs, yN1, yMx, yLq, yLr, yMz] at hg; omega)) rfl rfl | exact FnA.at_s (hw) rfl yV | exact FnA.at_s (hw) rfl yW | exact FnA.at_s (hcr) rfl yV | exact FnA.at_s (hcr) rfl yW | exact FnA.at_s (zAv l n (by simp only [yLs, yN1, yMx, yLq, yLr, yMz] at hg; omega)) rfl yV | exact FnA.at_s (zAv l n (by simp only [yLs, yN1, yMx, yLq, yLr, yMz] at hg; omega)) rfl yW)
   | (refine zW 1 rfl ?_; refine zS rfl ⟨_, evl, _, _, _, (fun _ _ => vH), yR, ?_⟩; apply Exists.intro; refine ⟨fun hg => ?_, ?_⟩; · first | exact FnA.at_ (hw) rfl rfl | exact FnA.at_ (hcr) rfl rfl | exact FnA.at_ (zAv l n (by simp only [yLs, yN1, yMx, yLq, yLr, yMz] at hg; omega)) rfl rfl | exact FnA.at_s (hw) rfl yV | exact FnA.at_s (hw) rfl yW | exact FnA.at_s (hcr) rfl yV | exact FnA.at_s (hcr) rfl yW | exact FnA.at_s (zAv l n (by simp only [yLs, yN1, yMx, yLq, yLr, yMz] at hg; omega)) rfl yV | exact FnA.at_s (zAv l n (by simp only [yLs, yN1, yMx, yLq, yLr, yMz] at hg; omega)) rfl yW)
   | (refine zW 1 rfl ?_; refine zJ ?_)
   | (refine yB ?_; first | (refine zP (hK _ ?_); clear hK K) | (refine zX rfl ⟨_, evl, fun nb' => ?_⟩))
   | refine zE (fun K hK => ?_)
   | (refine yZ ?_; first | (refine zD false rfl (by kernel_rfl) (by kernel_rfl) (fun K hK => ?_)) | (refine zD true rfl (by kernel_rfl) (by kernel_rfl) (fun K hK => ?_)))
 refine zA ⟨_, evl, fun hb => ?_, fun hb => ?_⟩
 ·rw [← hask, yLs, yMz] at hb
  unfold zE7
  rw [if_neg hb]
  try (refine wg ?_; try refine sM fun K hK => ?_)
  refine rq ?_ ?_
  ·rfl
  ·simp [AV.free, AV.freeL]
 ·rw [← hask, yMx, yLr] at hb
  unfold zE7
  rw [if_pos hb]
  obtain ⟨k, rfl⟩ : ∃ k : Nat, n = k := ⟨n.toNat, by have := hb.1; omega⟩
  have hp := zHc l (by have := hb.2.1; omega) k (by have := hb.1; omega) hb.2.2.2 blamed (by have := hb.2.2.1.1; omega)
  try (refine wkg hp ?_; try refine sM fun K hK => ?_)
  refine rq ?_ ?_
  ·rfl
  ·simp [AV.free, AV.freeL]
section
variable {nt nb : Nat} {sl sl' : List (Nat × (Bool × AV))} {bx : List (List AV)} {rw : List yD} {ys : (Nat × List (List AV)) × List (List AV) × Bool}
theorem xE.nilBsl (d sz b : Nat) (h : xG d sl = some (true, .raw (.slice none 0 0))) (hb : b < bx.length) : xE ⟨nt, nb, sl, bx, rw, ys⟩ ⟨nt, nb, (d, (true, .bsl sz b 0 0 0)) :: sl, bx, rw, ys⟩ :=
 xE.slot d h fun G w v hm hr => by
  have hv : v = .slice none 0 0 := hr
  have hl : b < G.bx.length := by rw [hm.lenB]; exact hb
  exact ⟨G.bx[b], none, yLm hl, hv, yKq _, yKo _, fun h => absurd h (by decide)⟩
theorem xE.dropB {bx1 : List (List AV)} {old new : List AV} (hnb : nb % 64 ≤ bx1.length) (hfree : ∀ cs ∈ bx1 ++ [new], AV.freeL cs)
  (hsl : ∀ e ∈ sl', xG e.1 sl = some (e.2.1, AV.ren (fun k => if k < bx1.length then k else k + 1) id e.2.2) ∧ AV.sub (bx1.length + 1) 0 e.2.2) : xE ⟨nt, nb, sl, bx1 ++ [old, new], [], ys⟩ ⟨nt, nb, sl', bx1 ++ [new], [], ys⟩ := by
 intro P C G a w hs
 have hm := hs.mem
 have hlen : G.bx.length = bx1.length + 2 := by rw [hm.lenB]; simp
 have hmem : ∀ x ∈ G.bx.take bx1.length ++ G.bx.drop (bx1.length + 1), x ∈ G.bx := fun x hx => by
  rcases yMa.1 hx with h | h
  ·exact yMh h
  ·exact yN7 h
 have hidx : ∀ k, k < bx1.length + 1 → (G.bx.take bx1.length ++ G.bx.drop (bx1.length + 1))[k]? = G.bx[if k < bx1.length then k else k + 1]? := fun k hk => by
  have hl1 : (G.bx.take bx1.length).length = bx1.length := by rw [yN3]; omega
  split
  ·rename_i h
   rw [yM1 (by omega), yKn, if_pos h]
  ·rename_i h
   rw [yM2 (by omega), hl1, yKm]
   congr 1
   omega
 have hrel : ∀ (x : AV) (v : Value), x.sub (bx1.length + 1) 0 → (x.ren (fun k => if k < bx1.length then k else k + 1) id).rel G w v → x.rel ⟨G.imm, G.bx.take bx1.length ++ G.bx.drop (bx1.length + 1), G.rw⟩ w v :=
  fun x v h1 h2 => AV.rel_unren (G := ⟨G.imm, G.bx.take bx1.length ++ G.bx.drop (bx1.length + 1), G.rw⟩) (G' := G) (f := fun k => if k < bx1.length then k else k + 1) (g := id) (fun _ _ i => i) (fun k y hk hy => (hidx k hk).trans hy) (fun k e hk => absurd hk (Nat.not_lt_zero _)) x v h1 h2
 obtain ⟨D, hD⟩ := hs.env
 refine ⟨⟨G.imm, G.bx.take bx1.length ++ G.bx.drop (bx1.length + 1), G.rw⟩, ⟨hs.size, hs.callers, hs.frame, ⟨hs.le.imm, hs.le.cell, fun k x hk => ?_, hs.le.rw⟩, hs.fresh, fun blk hb => hs.ownB blk (hmem blk hb), hs.ownR, ⟨D, ⟨hD.l, hD.cons, hD.sub, hD.lt, fun k hk => hD.bx k (hmem k hk), hD.rw, hD.imm, hD.marks, hD.record⟩⟩, ?_, fun t c x hl => ?_⟩⟩
 ·have hkl : k < bx1.length := by
   have := (yLk.1 hk).1
   have h2 := hs.callers.1
   simp only at h2
   omega
  show (G.bx.take bx1.length ++ G.bx.drop (bx1.length + 1))[k]? = _
  rw [hidx k (by omega), if_pos hkl]
  exact hs.le.bx k x hk
 ·refine ⟨hm.immOk, ?_, hm.lenR, ?_, fun k cs blk hk hG => ?_, fun k r x hr => ?_, fun k x g hx hg hgb => hm.sepB k x g hx hg (hmem g hgb), hm.sepR⟩
  ·simp only [yL5, yN3, yN4, yL2, yMc]; omega
  ·refine (List.Sublist.append (List.Sublist.refl _) (List.drop_sublist_drop_left G.bx (Nat.le_succ _))).trans ?_ |>.nodup hm.nodup
   rw [yNh]
   exact List.Sublist.refl _
  ·have hkl : k < bx1.length + 1 := by
    have := (yLk.1 hk).1
    simpa using this
   have hG' : G.bx[if k < bx1.length then k else k + 1]? = some blk := by rw [← hidx k hkl]; exact hG
   have hk' : (bx1 ++ [old, new])[if k < bx1.length then k else k + 1]? = some cs := by
    split
    ·rename_i h
     rw [yM1 h] at hk ⊢
     exact hk
    ·rename_i h
     obtain rfl : k = bx1.length := by omega
     rw [yM2 (yKq _), yM9] at hk
     rw [yM2 (by omega), show bx1.length + 1 - bx1.length = 1 from by omega]
     exact hk
   obtain ⟨h1, vs, T, h2, h3⟩ := hm.box _ cs blk hk' hG'
   exact ⟨h1, vs, T, h2, AV.relL_free (G := G) (G' := ⟨G.imm, G.bx.take bx1.length ++ G.bx.drop (bx1.length + 1), G.rw⟩) (fun _ _ i => i) _ _ (hfree cs (yLz hk)) h3⟩
  ·simp at hr
 ·obtain ⟨h1, h2⟩ := hsl _ (zFv hl)
  obtain ⟨v, h3, h4, h5⟩ := hs.slot t c _ h1
  exact ⟨v, h3, fun hc => hrel _ _ h2 (h4 hc), h5⟩
end
section
variable {P : Program} {T : TT} {ops : Array Oper} {rest : List Oper} {K : ASt → Prop} {nt nb : Nat} {sl : List (Nat × (Bool × AV))} {bx : List (List AV)} {rw : List yD} {ys : (Nat × List (List AV)) × List (List AV) × Bool} {o : Oper} {d : Nat}
theorem zDa (hT : TOk P T) (hg : o.guard = none) (hd : o.dst = some d) (hn : Nat.blt d nt = true)
  {cs : List Bool} {sz b off n cap sz' : Nat} {us : List AV} {p : Prop} {t t' : TypeId} (h1 : yC0 ⟨nt, nb, sl, bx, rw, ys⟩ .append o.op = some (cs, (sz, b, off, n, cap), (sz', 0, us, p), t, t')) (hc : ∀ c ∈ cs, c = true) (hp : p) (htt : t' = t)
  {e s1 b1 : Nat} {z1 : List Value} {q1 : List CK} (h2 : T t = some ⟨.slice e, s1, b1, z1, q1⟩) {j : TI} (h3 : T e = some j) (hsz : sz = j.size ∧ sz' = j.size ∧ 0 < j.size ∧ j.zero.length = j.size)
  (hk : xK P ops rest K ⟨nt, nb, (d, (true, .bsl sz b off n cap)) :: sl, bx, rw, ys⟩) : xK P ops (o :: rest) K ⟨nt, nb, sl, bx, rw, ys⟩ := by
 obtain ⟨x, y, g1, g2, v, hop, rfl, hx, hy, hsrc⟩ := zO7 h1
 obtain ⟨rfl, rfl, j0, jz⟩ := hsz
 subst htt
 intro C G a w Q hs hQ
 have hev : ∀ y ∈ o.op.operands.toList, zGm G w a ⟨nt, nb, sl, bx, rw, ys⟩ y := fun y hy => yU fun t ht => hs.slot t
 obtain ⟨blk, A, hA0, ex, hnc, hcm, hA⟩ := hev x (by rw [hop]; simp [Op.operands, Call.operands]) _ _ hx (hc g1 (by simp))
 obtain ⟨A', cap', vs, ey, hvl, hvr, hva⟩ := zJr hs.mem hsrc hp j0 (hev y (by rw [hop]; simp [Op.operands, Call.operands]) _ _ hy (hc g2 (by simp)))
 have hu := zEj hT h2
 obtain ⟨ie, z, g2', g1', g3, g4, e2⟩ := zIs hT h3
 have hf : (Builtin.firstCells j.size 0 (.slice A' 0 cap')).run P w = .ok #[] w := by
  cases A' with
  | none => simp [run_firstCells_none]
  | some A => exact run_firstCells_some (P := P) w j.size 0 A 0 cap' [] (by simp) (fun q u hq => by simp at hq)
 refine wpListIn_plain hg fun K' hK => ?_
 refine zZ (fun c hc => by rw [hop] at hc; cases hc) ?_
 have hexec : (execOp a.eval o).run P w = .ok (.value (.slice A n cap)) w := by
  obtain ⟨dst, op, type, pos, after, guard⟩ := o
  simp only at hop
  subst hop
  cases A with
  | none => simp [execOp, resolve, invoke, builtin, ex, ey, Builtin.append_, run_underlying hu, Builtin.lenOf, sizeOf, typeInfo, g2', g1', hf, hnc]
  | some A =>
   have hst : (storeCells (A.add (n * j.size)) []).run P w = .ok () w := by simp [storeCells]
   simp [execOp, resolve, invoke, builtin, ex, ey, Builtin.append_, run_underlying hu, Builtin.lenOf, sizeOf, typeInfo, g2', g1', hf, hnc, hst]
 rw [hexec, Oper.uponIn_value, hd]
 exact hK _ _ (hk C _ _ _ Q (hs.put (by simpa [yM6] using hn) (fun _ => ⟨blk, A, hA0, rfl, hnc, hcm, hA⟩) (fun h => by cases h)) hQ)
theorem zK0 {α : Type} : ∀ (l : List α) (n : Nat), vU l n [] = l
 | l, 0 => by cases l <;> rfl
 | [], n + 1 => rfl
 | x :: l, n + 1 => by rw [vU, zK0 l n]
theorem zQm (hT : TOk P T) {x : Operand} {t e : TypeId} {s1 b1 : Nat} {z1 : List Value} {q1 : List CK} {sz b off n cap : Nat} {cl : List AV} {j : TI} (hop : o.op = .call ⟨.builtin .clear, #[x], #[t]⟩) (hg : o.guard = none) (hd : o.dst = none)
  (hx : ASt.ev ⟨nt, nb, sl, bx, rw, ys⟩ x = some (true, .bsl sz b off n cap)) (h2 : T t = some ⟨.slice e, s1, b1, z1, q1⟩) (h3 : T e = some j) (hsz : sz = j.size ∧ j.zero.length = j.size ∧ ∀ v ∈ j.zero, v.oneCell' = true)
  (hb : bx[b]? = some cl) (hfit : off + n * sz ≤ cl.length) (hk : ∀ bx', bx.set b (vU cl off (vB n j.zero)) = bx' → xK P ops rest K ⟨nt, nb, sl, bx', rw, ys⟩) : xK P ops (o :: rest) K ⟨nt, nb, sl, bx, rw, ys⟩ := by
 obtain ⟨rfl, jz, hone⟩ := hsz
 intro C G a w Q hs hQ
 obtain ⟨blk, A, hA0, ex, hnc, hcm, hA⟩ := (yU (x := x) fun t _ => hs.slot t) _ _ hx rfl
 have hu := zEj hT h2
 obtain ⟨ie, z, g2', g1', g3, g4, e2⟩ := zIs hT h3
 refine wpListIn_plain hg fun K' hK => ?_
 refine zZ (fun c hc => by rw [hop] at hc; cases hc) ?_
 rcases yLj n with rfl | h0
 ·have hexec : (execOp a.eval o).run P w = .ok (.value (.tuple #[])) w := by
   obtain ⟨dst, op, type, pos, after, guard⟩ := o
   simp only at hop
   subst hop
   cases A <;> simp [execOp, resolve, invoke, builtin, ex, Builtin.clear_, run_underlying hu]
  rw [hexec, Oper.uponIn_value, hd]
  have hsame : bx.set b cl = bx := by
   obtain ⟨h4, h5⟩ := yLk.1 hb
   rw [← h5]; exact List.set_getElem_self h4
  exact hK _ _ (hk bx (by rw [vB, zK0]; exact hsame) C _ _ _ Q hs hQ)
 ·have hA := hA (by omega)
  subst hA
  obtain ⟨_, ws, Ty, b3, b4⟩ := hs.mem.box b cl blk hb hA0
  have hwl := AV.relL_length b4
  have hzl := xT n j.zero
  rw [jz] at hzl
  obtain ⟨w', e8, e9⟩ := zC1 (P := P) (off := off) (us := vG n j.zero) b3 (by omega) (fun u hu => by
   have : ∀ k, u ∈ vG k j.zero → u.oneCell' = true := by
    intro k
    induction k with
    | zero => intro h; cases h
    | succ k ih =>
     intro h
     rw [vG, yMa] at h
     exact h.elim (hone u) ih
   exact this n hu)
  obtain ⟨s1', le⟩ := hs.stored hb hA0 e9 (zC4 b4 (wV n j.zero))
  have hexec : (execOp a.eval o).run P w = .ok (.value (.tuple #[])) w' := by
   obtain ⟨dst, op, type, pos, after, guard⟩ := o
   simp only at hop
   subst hop
   have hz : (zeroValue e).run P w = .ok z w := by simp [zeroValue, typeInfo, g2', g3]
   obtain ⟨k, rfl⟩ : ∃ k, n = k + 1 := ⟨n - 1, by omega⟩
   simp [execOp, resolve, invoke, builtin, ex, Builtin.clear_, run_underlying hu, hz, kB, e2, e8]
  rw [hexec, Oper.uponIn_value, hd]
  exact hK _ _ (hk _ rfl C _ _ _ Q s1' hQ)
end
end Go.Proofs.YtchpbdecipcelaaGreatDoor
