import Derived.Test.YtchpbdecipcelaaGreatDoorHO01
import Derived.Test.YtchpbdecipcelaaGreatDoorHO38
namespace Go.Proofs.YtchpbdecipcelaaGreatDoor
set_option linter.unusedVariables false
set_option linter.unusedSimpArgs false
set_option maxHeartbeats 4000000
set_option maxRecDepth 100000
open Go.RowKit
def yC2 (l : List zO) (n : Int) (blamed : List zB) : Prop := (1 ≤ n ∧ n ≤ 1000) ∧ l.length ≤ 20000 ∧ qI blamed ∧ ∀ b ∈ l, wK n b
instance (l : List zO) (n : Int) (blamed : List zB) : Decidable (yC2 l n blamed) := by unfold yC2; infer_instance
def zS2 (l : List zO) (n : Int) (blamed : List zB) : Bool × Int := if yC2 l n blamed then (zDz l n.toNat blamed, 0) else (false, 1)
theorem yC1 (l : List zO) (n : Int) (blamed : List zB) : (!decide (yC2 l n blamed)) = (!(decide (1 ≤ n) && decide (n ≤ 1000)) || decide (20000 < (l.length : Int)) || !decide (qI blamed) || l.any fun b => !decide (wK n b)) := by
 rw [yJ8, yJn, yKu]
 simp only [yJn, yKu, yKt, yKv, yJm, yLa]
 unfold yC2
 constructor
 ·intro h
  refine yM5 fun hn => h ⟨⟨?_, ?_⟩, ?_, ?_, fun b hb => ?_⟩
  ·exact yM5 fun h2 => hn (.inl (.inl (.inl (.inl h2))))
  ·exact yM5 fun h2 => hn (.inl (.inl (.inl (.inr h2))))
  ·exact yM5 fun h2 => hn (.inl (.inl (.inr (by omega))))
  ·exact yM5 fun h2 => hn (.inl (.inr h2))
  ·exact yM5 fun h2 => hn (.inr ⟨b, hb, h2⟩)
 ·rintro h ⟨⟨h1, h2⟩, h3, h4, h5⟩
  rcases h with (((h | h) | h) | h) | ⟨b, hb, h⟩
  ·exact h h1
  ·exact h h2
  ·omega
  ·exact h h4
  ·exact h (h5 b hb)
theorem zAj (l : List zO) (n : Int) (h : (1 ≤ n ∧ n ≤ 1000) ∧ l.length ≤ 20000) : FnA Tryz.prog 48 [lA 4 zO.av l, .fn (.func 46) [] [.elt [.raw (.int .i64 n)] 0, .elt [zU3] 0]] (.raw (.bool (l.any fun b => !decide (wK n b)))) :=
 zFr l (by omega) 46 [.elt [.raw (.int .i64 n)] 0, .elt [zU3] 0] (by simp [AV.free, AV.freeL]) (fun b => !decide (wK n b)) fun b _ => yBy n h.1 b
theorem zQo (l : List zO) (n : Int) (blamed : List zB) : FnA Tryz.prog 15 [lA 4 zO.av l, .raw (.int .i64 n), lA 2 zB.av blamed] (.tup [.raw (.bool (zS2 l n blamed).1), .raw (.int .i64 (zS2 l n blamed).2)]) := by
 have hfl : (lA 4 zO.av l).free := zE (fun y => zO.free y) _
 have hfb : (lA 2 zB.av blamed).free := zE (fun y => zB.free y) _
 have hask := yC1 l n blamed
 have hcr := zU2 blamed
 have hw := yK n 1 1000
 refine en Tryz.func15 Tryz.ntmps15 [.tmp 6, .tmp 7] rfl ?_
 repeat (refine stG ?_)
 refine zD (fun K hK => ?_)
 iterate 3 (refine stG ?_)
 refine zF (hK _ ?_); clear hK K
 repeat (refine stG ?_)
 refine zD (fun K hK => ?_)
 iterate 2 (refine stG ?_)
 refine zX 0 obf ⟨_, evl, _, evl, ?_⟩
 refine zF (hK _ ?_); clear hK K
 repeat (refine stG ?_)
 refine zD (fun K hK => ?_)
 iterate 3 (refine stG ?_)
 refine zX 0 obf ⟨_, evl, _, evl, ?_⟩
 refine zF (hK _ ?_); clear hK K

 repeat
  first
   | (refine zF (hK _ ?_); clear hK K)
   | refine stG ?_
   | (refine yH 1 rfl ?_; refine zN rfl rfl ⟨_, evl, _, _, _, evl, yR, ?_⟩; apply Exists.intro; refine ⟨fun hg => ?_, ?_⟩; · first | exact FnA.at_ (hw) rfl rfl | exact FnA.at_ (hcr) rfl rfl | exact FnA.at_ (zAj l n (by simp only [yJn, yKw, yKs, yJl, yJm, yKu] at hg; omega)) rfl rfl | exact FnA.at_s (hw) rfl xB | exact FnA.at_s (hw) rfl xC | exact FnA.at_s (hcr) rfl xB | exact FnA.at_s (hcr) rfl xC | exact FnA.at_s (zAj l n (by simp only [yJn, yKw, yKs, yJl, yJm, yKu] at hg; omega)) rfl xB | exact FnA.at_s (zAj l n (by simp only [yJn, yKw, yKs, yJl, yJm, yKu] at hg; omega)) rfl xC)
   | (refine zS 1 rfl ?_; refine zP rfl ⟨_, evl, _, _, _, (fun _ _ => w7), yR, ?_⟩; apply Exists.intro; refine ⟨fun hg => ?_, ?_⟩; · first | exact FnA.at_ (hw) rfl rfl | exact FnA.at_ (hcr) rfl rfl | exact FnA.at_ (zAj l n (by simp only [yJn, yKw, yKs, yJl, yJm, yKu] at hg; omega)) rfl rfl | exact FnA.at_s (hw) rfl xB | exact FnA.at_s (hw) rfl xC | exact FnA.at_s (hcr) rfl xB | exact FnA.at_s (hcr) rfl xC | exact FnA.at_s (zAj l n (by simp only [yJn, yKw, yKs, yJl, yJm, yKu] at hg; omega)) rfl xB | exact FnA.at_s (zAj l n (by simp only [yJn, yKw, yKs, yJl, yJm, yKu] at hg; omega)) rfl xC)
   | (refine zS 1 rfl ?_; refine zG ?_)
   | (refine z7 ?_; first | (refine zK (hK _ ?_); clear hK K) | (refine zT rfl ⟨_, evl, fun nb' => ?_⟩))
   | refine zD (fun K hK => ?_)
   | (refine xD ?_; first | (refine zC false rfl (by kernel_rfl) (by kernel_rfl) (fun K hK => ?_)) | (refine zC true rfl (by kernel_rfl) (by kernel_rfl) (fun K hK => ?_)))
 refine zA ⟨_, evl, fun hb => ?_, fun hb => ?_⟩
 ·rw [← hask, yJn, yKu] at hb
  unfold zS2
  rw [if_neg hb]
  try (refine wg ?_; try refine sM fun K hK => ?_)
  refine rq ?_ ?_
  ·rfl
  ·simp [AV.free, AV.freeL]
 ·rw [← hask, yKs, yJm] at hb
  unfold zS2
  rw [if_pos hb]
  obtain ⟨k, rfl⟩ : ∃ k : Nat, n = k := ⟨n.toNat, by have := hb.1; omega⟩
  have hp := zGq l (by have := hb.2.1; omega) k (by have := hb.1; omega) hb.2.2.2 blamed (by have := hb.2.2.1.1; omega)
  try (refine wkg hp ?_; try refine sM fun K hK => ?_)
  refine rq ?_ ?_
  ·rfl
  ·simp [AV.free, AV.freeL]
section
variable {nt nb : Nat} {sl sl' : List (Nat × (Bool × AV))} {bx : List (List AV)} {rw : List z9} {ys : (Nat × List (List AV)) × List (List AV) × Bool}
theorem xJ.nilBsl (d sz b : Nat) (h : xG d sl = some (true, .raw (.slice none 0 0))) (hb : b < bx.length) : xJ ⟨nt, nb, sl, bx, rw, ys⟩ ⟨nt, nb, (d, (true, .bsl sz b 0 0 0)) :: sl, bx, rw, ys⟩ :=
 xJ.slot d h fun G w v hm hr => by
  have hv : v = .slice none 0 0 := hr
  have hl : b < G.bx.length := by rw [hm.lenB]; exact hb
  exact ⟨G.bx[b], none, yJh hl, hv, yIn _, yIl _, fun h => absurd h (by decide)⟩
theorem xJ.dropB {bx1 : List (List AV)} {old new : List AV} (hnb : nb % 64 ≤ bx1.length) (hfree : ∀ cs ∈ bx1 ++ [new], AV.freeL cs)
  (hsl : ∀ e ∈ sl', xG e.1 sl = some (e.2.1, AV.ren (fun k => if k < bx1.length then k else k + 1) id e.2.2) ∧ AV.sub (bx1.length + 1) 0 e.2.2) : xJ ⟨nt, nb, sl, bx1 ++ [old, new], [], ys⟩ ⟨nt, nb, sl', bx1 ++ [new], [], ys⟩ := by
 intro P C G a w hs
 have hm := hs.mem
 have hlen : G.bx.length = bx1.length + 2 := by rw [hm.lenB]; simp
 have hmem : ∀ x ∈ G.bx.take bx1.length ++ G.bx.drop (bx1.length + 1), x ∈ G.bx := fun x hx => by
  rcases yK6.1 hx with h | h
  ·exact yKd h
  ·exact yL3 h
 have hidx : ∀ k, k < bx1.length + 1 → (G.bx.take bx1.length ++ G.bx.drop (bx1.length + 1))[k]? = G.bx[if k < bx1.length then k else k + 1]? := fun k hk => by
  have hl1 : (G.bx.take bx1.length).length = bx1.length := by rw [yKy]; omega
  split
  ·rename_i h
   rw [yJw (by omega), yIk, if_pos h]
  ·rename_i h
   rw [yJy (by omega), hl1, yIj]
   congr 1
   omega
 have hrel : ∀ (x : AV) (v : Value), x.sub (bx1.length + 1) 0 → (x.ren (fun k => if k < bx1.length then k else k + 1) id).rel G w v → x.rel ⟨G.imm, G.bx.take bx1.length ++ G.bx.drop (bx1.length + 1), G.rw⟩ w v :=
  fun x v h1 h2 => AV.rel_unren (G := ⟨G.imm, G.bx.take bx1.length ++ G.bx.drop (bx1.length + 1), G.rw⟩) (G' := G) (f := fun k => if k < bx1.length then k else k + 1) (g := id) (fun _ _ i => i) (fun k y hk hy => (hidx k hk).trans hy) (fun k e hk => absurd hk (Nat.not_lt_zero _)) x v h1 h2
 obtain ⟨D, hD⟩ := hs.env
 refine ⟨⟨G.imm, G.bx.take bx1.length ++ G.bx.drop (bx1.length + 1), G.rw⟩, ⟨hs.size, hs.callers, hs.frame, ⟨hs.le.imm, hs.le.cell, fun k x hk => ?_, hs.le.rw⟩, hs.fresh, fun blk hb => hs.ownB blk (hmem blk hb), hs.ownR, ⟨D, ⟨hD.l, hD.cons, hD.sub, hD.lt, fun k hk => hD.bx k (hmem k hk), hD.rw, hD.imm, hD.marks, hD.record⟩⟩, ?_, fun t c x hl => ?_⟩⟩
 ·have hkl : k < bx1.length := by
   have := (yJf.1 hk).1
   have h2 := hs.callers.1
   simp only at h2
   omega
  show (G.bx.take bx1.length ++ G.bx.drop (bx1.length + 1))[k]? = _
  rw [hidx k (by omega), if_pos hkl]
  exact hs.le.bx k x hk
 ·refine ⟨hm.immOk, ?_, hm.lenR, ?_, fun k cs blk hk hG => ?_, fun k r x hr => ?_, fun k x g hx hg hgb => hm.sepB k x g hx hg (hmem g hgb), hm.sepR⟩
  ·simp only [yJ2, yKy, yKz, yIz, yK8]; omega
  ·refine (List.Sublist.append (List.Sublist.refl _) (List.drop_sublist_drop_left G.bx (Nat.le_succ _))).trans ?_ |>.nodup hm.nodup
   rw [yLe]
   exact List.Sublist.refl _
  ·have hkl : k < bx1.length + 1 := by
    have := (yJf.1 hk).1
    simpa using this
   have hG' : G.bx[if k < bx1.length then k else k + 1]? = some blk := by rw [← hidx k hkl]; exact hG
   have hk' : (bx1 ++ [old, new])[if k < bx1.length then k else k + 1]? = some cs := by
    split
    ·rename_i h
     rw [yJw h] at hk ⊢
     exact hk
    ·rename_i h
     obtain rfl : k = bx1.length := by omega
     rw [yJy (yIn _), yK5] at hk
     rw [yJy (by omega), show bx1.length + 1 - bx1.length = 1 from by omega]
     exact hk
   obtain ⟨h1, vs, T, h2, h3⟩ := hm.box _ cs blk hk' hG'
   exact ⟨h1, vs, T, h2, AV.relL_free (G := G) (G' := ⟨G.imm, G.bx.take bx1.length ++ G.bx.drop (bx1.length + 1), G.rw⟩) (fun _ _ i => i) _ _ (hfree cs (yJu hk)) h3⟩
  ·simp at hr
 ·obtain ⟨h1, h2⟩ := hsl _ (zF8 hl)
  obtain ⟨v, h3, h4, h5⟩ := hs.slot t c _ h1
  exact ⟨v, h3, fun hc => hrel _ _ h2 (h4 hc), h5⟩
end
section
variable {P : Program} {T : TT} {ops : Array Oper} {rest : List Oper} {K : ASt → Prop} {nt nb : Nat} {sl : List (Nat × (Bool × AV))} {bx : List (List AV)} {rw : List z9} {ys : (Nat × List (List AV)) × List (List AV) × Bool} {o : Oper} {d : Nat}
theorem zGm (hT : TOk P T) (hg : o.guard = none) (hd : o.dst = some d) (hn : Nat.blt d nt = true)
  {cs : List Bool} {sz b off n cap sz' : Nat} {us : List AV} {p : Prop} {t t' : TypeId} (h1 : yAi ⟨nt, nb, sl, bx, rw, ys⟩ .append o.op = some (cs, (sz, b, off, n, cap), (sz', 0, us, p), t, t')) (hc : ∀ c ∈ cs, c = true) (hp : p) (htt : t' = t)
  {e s1 b1 : Nat} {z1 : List Value} {q1 : List CK} (h2 : T t = some ⟨.slice e, s1, b1, z1, q1⟩) {j : TI} (h3 : T e = some j) (hsz : sz = j.size ∧ sz' = j.size ∧ 0 < j.size ∧ j.zero.length = j.size)
  (hk : xM P ops rest K ⟨nt, nb, (d, (true, .bsl sz b off n cap)) :: sl, bx, rw, ys⟩) : xM P ops (o :: rest) K ⟨nt, nb, sl, bx, rw, ys⟩ := by
 obtain ⟨x, y, g1, g2, v, hop, rfl, hx, hy, hsrc⟩ := zN2 h1
 obtain ⟨rfl, rfl, j0, jz⟩ := hsz
 subst htt
 intro C G a w Q hs hQ
 have hev : ∀ y ∈ o.op.operands.toList, zHg G w a ⟨nt, nb, sl, bx, rw, ys⟩ y := fun y hy => yX fun t ht => hs.slot t
 obtain ⟨blk, A, hA0, ex, hnc, hcm, hA⟩ := hev x (by rw [hop]; simp [Op.operands, Call.operands]) _ _ hx (hc g1 (by simp))
 obtain ⟨A', cap', vs, ey, hvl, hvr, hva⟩ := zIx hs.mem hsrc hp j0 (hev y (by rw [hop]; simp [Op.operands, Call.operands]) _ _ hy (hc g2 (by simp)))
 have hu := zHp hT h2
 obtain ⟨ie, z, g2', g1', g3, g4, e2⟩ := zM6 hT h3
 have hf : (Builtin.firstCells j.size 0 (.slice A' 0 cap')).run P w = .ok #[] w := by
  cases A' with
  | none => simp [run_firstCells_none]
  | some A => exact run_firstCells_some (P := P) w j.size 0 A 0 cap' [] (by simp) (fun q u hq => by simp at hq)
 refine wpListIn_plain hg fun K' hK => ?_
 refine z0 (fun c hc => by rw [hop] at hc; cases hc) ?_
 have hexec : (execOp a.eval o).run P w = .ok (.value (.slice A n cap)) w := by
  obtain ⟨dst, op, type, pos, after, guard⟩ := o
  simp only at hop
  subst hop
  cases A with
  | none => simp [execOp, resolve, invoke, builtin, ex, ey, Builtin.append_, run_underlying hu, Builtin.lenOf, sizeOf, typeInfo, g2', g1', hf, hnc]
  | some A =>
   have hst : (storeCells (A.add (n * j.size)) []).run P w = .ok () w := by simp [storeCells]
   simp [execOp, resolve, invoke, builtin, ex, ey, Builtin.append_, run_underlying hu, Builtin.lenOf, sizeOf, typeInfo, g2', g1', hf, hnc, hst]
 rw [hexec, Oper.uponIn_value, hd]
 exact hK _ _ (hk C _ _ _ Q (hs.put (by simpa [yK2] using hn) (fun _ => ⟨blk, A, hA0, rfl, hnc, hcm, hA⟩) (fun h => by cases h)) hQ)
theorem zJ8 {α : Type} : ∀ (l : List α) (n : Nat), vG l n [] = l
 | l, 0 => by cases l <;> rfl
 | [], n + 1 => rfl
 | x :: l, n + 1 => by rw [vG, zJ8 l n]
theorem zPn (hT : TOk P T) {x : Operand} {t e : TypeId} {s1 b1 : Nat} {z1 : List Value} {q1 : List CK} {sz b off n cap : Nat} {cl : List AV} {j : TI} (hop : o.op = .call ⟨.builtin .clear, #[x], #[t]⟩) (hg : o.guard = none) (hd : o.dst = none)
  (hx : ASt.ev ⟨nt, nb, sl, bx, rw, ys⟩ x = some (true, .bsl sz b off n cap)) (h2 : T t = some ⟨.slice e, s1, b1, z1, q1⟩) (h3 : T e = some j) (hsz : sz = j.size ∧ j.zero.length = j.size ∧ ∀ v ∈ j.zero, v.oneCell' = true)
  (hb : bx[b]? = some cl) (hfit : off + n * sz ≤ cl.length) (hk : ∀ bx', bx.set b (vG cl off (w5 n j.zero)) = bx' → xM P ops rest K ⟨nt, nb, sl, bx', rw, ys⟩) : xM P ops (o :: rest) K ⟨nt, nb, sl, bx, rw, ys⟩ := by
 obtain ⟨rfl, jz, hone⟩ := hsz
 intro C G a w Q hs hQ
 obtain ⟨blk, A, hA0, ex, hnc, hcm, hA⟩ := (yX (x := x) fun t _ => hs.slot t) _ _ hx rfl
 have hu := zHp hT h2
 obtain ⟨ie, z, g2', g1', g3, g4, e2⟩ := zM6 hT h3
 refine wpListIn_plain hg fun K' hK => ?_
 refine z0 (fun c hc => by rw [hop] at hc; cases hc) ?_
 rcases yJe n with rfl | h0
 ·have hexec : (execOp a.eval o).run P w = .ok (.value (.tuple #[])) w := by
   obtain ⟨dst, op, type, pos, after, guard⟩ := o
   simp only at hop
   subst hop
   cases A <;> simp [execOp, resolve, invoke, builtin, ex, Builtin.clear_, run_underlying hu]
  rw [hexec, Oper.uponIn_value, hd]
  have hsame : bx.set b cl = bx := by
   obtain ⟨h4, h5⟩ := yJf.1 hb
   rw [← h5]; exact List.set_getElem_self h4
  exact hK _ _ (hk bx (by rw [w5, zJ8]; exact hsame) C _ _ _ Q hs hQ)
 ·have hA := hA (by omega)
  subst hA
  obtain ⟨_, ws, Ty, b3, b4⟩ := hs.mem.box b cl blk hb hA0
  have hwl := AV.relL_length b4
  have hzl := x7 n j.zero
  rw [jz] at hzl
  obtain ⟨w', e8, e9⟩ := zBv (P := P) (off := off) (us := wZ n j.zero) b3 (by omega) (fun u hu => by
   have : ∀ k, u ∈ wZ k j.zero → u.oneCell' = true := by
    intro k
    induction k with
    | zero => intro h; cases h
    | succ k ih =>
     intro h
     rw [wZ, yK6] at h
     exact h.elim (hone u) ih
   exact this n hu)
  obtain ⟨s1', le⟩ := hs.stored hb hA0 e9 (zC2 b4 (w8 n j.zero))
  have hexec : (execOp a.eval o).run P w = .ok (.value (.tuple #[])) w' := by
   obtain ⟨dst, op, type, pos, after, guard⟩ := o
   simp only at hop
   subst hop
   have hz : (zeroValue e).run P w = .ok z w := by simp [zeroValue, typeInfo, g2', g3]
   obtain ⟨k, rfl⟩ : ∃ k, n = k + 1 := ⟨n - 1, by omega⟩
   simp [execOp, resolve, invoke, builtin, ex, Builtin.clear_, run_underlying hu, hz, qQ, e2, e8]
  rw [hexec, Oper.uponIn_value, hd]
  exact hK _ _ (hk _ rfl C _ _ _ Q s1' hQ)
end
end Go.Proofs.YtchpbdecipcelaaGreatDoor
