import Derived.Test.YtioaahmkebojiaaGreatDoorWC47
namespace Go.Proofs.YtioaahmkebojiaaGreatDoor
open Tryz
set_option linter.unusedVariables false
set_option linter.unusedSimpArgs false
set_option maxHeartbeats 4000000
set_option maxRecDepth 100000
open Go.RowKit
def yF (n : Net) (t : Int) : List Liv := n.hosts.map fun h => ⟨h.id, t, 0, 0, 0⟩
theorem zLv : FnA Tryz.prog 19 [] (.agg [.raw (.int .i64 0), .raw (.int .i64 3000000000000000)]) := by
 refine en func19 ntmps19 [.cell 0 29] rfl ?_
 repeat' first
  | refine wkg trivial ?_
  | (refine cS (fun hb => ?_) fun hb => ?_ <;> try (cases hb; done))
  | refine sM fun K hK => ?_
  | fail
 all_goals exact fA
theorem zSb {n : Net} (hv : FnA Tryz.prog 17 [.agg n.av] (.raw (.bool false))) (t : Int) : FnA Tryz.prog 6 [.agg n.av, .raw (.int .i64 t)] (.tup [.agg jH, .raw (.int .i64 1)]) := by
 obtain ⟨f1, f2, f3, f4⟩ := yG n
 have h2 := wU t
 refine en func6 ntmps6 [.cell 4 49, .tmp 5] rfl ?_
 repeat' first
  | refine wkR (And.intro hv h2) ?_
  | (refine cS (fun hb => ?_) fun hb => ?_ <;> try (cases hb; done))
  | refine sM fun K hK => ?_
  | fail
 all_goals exact fA
def mkP (l : List Liv) : Nat × Option (List AV × Nat) → Prop
 | (k, none) => k = 0
 | (k, some (zs, c)) => k ≤ l.length ∧ k ≤ c ∧ c ≤ maxLen ∧ c * 22 ≤ ((l.take k).flatMap (Liv.av zX) ++ zs).length ∧ StillZ zs
def mkB (l : List Liv) : Nat × Option (List AV × Nat) → List (List AV)
 | (_, none) => []
 | (k, some (zs, _)) => [(l.take k).flatMap (Liv.av zX) ++ zs]
def mkR (n : Net) (t : Int) (r : AV) (bx : List (List AV)) (rw : List zV) : Prop := rw = [] ∧ ∃ zs c, r = .tup [.agg (wav n t (.bsl 22 3 0 (yF n t).length c)), .raw (.int .i64 0)] ∧
 bx = [n.av, wav n t (.bsl 22 3 0 (yF n t).length c), wav n t (.bsl 22 3 0 (yF n t).length c), (yF n t).flatMap (Liv.av zX) ++ zs] ∧ (yF n t).length ≤ c ∧ c ≤ maxLen ∧ c * 22 ≤ ((yF n t).flatMap (Liv.av zX) ++ zs).length ∧ StillZ zs
theorem yBe {n : Net} (hv : FnA Tryz.prog 17 [.agg n.av] (.raw (.bool true))) (hpos : 0 < n.hosts.length ∧ n.hosts.length ≤ 64) (t : Int) (ht : 0 ≤ t ∧ t ≤ 3000000000000000) :
  FnX Tryz.prog 6 [.agg n.av, .raw (.int .i64 t)] [] [] (mkR n t) := by
 obtain ⟨f1, f2, f3, f4⟩ := yG n
 have h2 := wU t
 rw [yPm ht.1, yPm ht.2] at h2
 have hig := zLv
 refine zWy zW func6 rfl kq 41 ntmps6 lenT [.cell 4 49, .tmp 5] rfl sq ?_
 simp only [zAh, zIa, yN9, Nat.reduceAdd, yMy, yO4]
 try (refine wkg (And.intro hv h2) ?_; try refine sM fun K hK => ?_)
 refine zB ⟨_, evl, fun hb => ?_, fun _ => ?_⟩
 ·simp at hb
 try (refine wg ?_; try refine sM fun K hK => ?_)
 refine y6 (xT.nilBslV 2 8 22 0 rfl rfl sq) ?_
 refine zP (fun q : Nat × Option (List AV × Nat) => ⟨41,0,[(1,true,.raw (.int .i64 t)),(2,true,.box 0 0),(4,true,.box 1 0),(5,true,.raw (.int .i64 0)),(6,true,.box 2 0),(22,true,lA 6 xY.av n.hosts),(23,true,.raw (.int .i64 n.hosts.length)),(24,true,.raw (.int .i64 q.1))],[n.av,jH,zU8 n t q] ++ mkB (yF n t) q,[],((0,[]),[],true)⟩)
  (fun q => mkP (yF n t) q) (fun q => n.hosts.length - q.1) (0, none) ?_ rfl ?_
 ·simp only [zU8, mkB]
  exact wkZ
 rintro ⟨k, q⟩ hq
 have hml : (yF n t).length = n.hosts.length := by simp [yF]
 rcases yMn k n.hosts.length with hlt | hge
 ·have hx : (yF n t).getD k default = ⟨(n.hosts.getD k default).id, t, 0, 0, 0⟩ := by
   rw [yB oq, yB hlt]
   simp [yF]
  cases q with
  | none =>
   simp only [zU8, mkB, yMz, yN8]
   try (refine wg ?_; try refine sM fun K hK => ?_)
   refine zB ⟨_, evl, fun _ => ?_, fun hb => absurd (yPo hb) oq⟩
   repeat (refine stG ?_)
   refine zH (fun K hK => ?_)
   repeat
    first
     | (refine zG (hK _ ?_); clear hK K)
     | refine stG ?_
     | (refine z5 1 rfl ?_; refine zE ?_)
     | (refine yH ?_; first | (refine zN (hK _ ?_); clear hK K) | (refine zT rfl ⟨_, evl, fun nb' => ?_⟩))
   refine zB9 true kq kq (fun K hK => ?_)
   repeat
    first
     | (refine zG (hK _ ?_); clear hK K)
     | refine stG ?_
     | (refine yO 1 rfl ?_; refine yD rfl rfl ⟨_, evl, _, _, _, evl, wW, ?_⟩; apply Exists.intro; refine ⟨fun hg => ?_, ?_⟩; · first | exact FnA.at_ (hig) rfl rfl | exact FnA.at_s (hig) rfl vV | exact FnA.at_s (hig) rfl vW)
     | (refine z5 1 rfl ?_; refine yJ rfl ⟨_, evl, _, _, _, (fun _ _ => zBl), wW, ?_⟩; apply Exists.intro; refine ⟨fun hg => ?_, ?_⟩; · first | exact FnA.at_ (hig) rfl rfl | exact FnA.at_s (hig) rfl vV | exact FnA.at_s (hig) rfl vW)
     | (refine z5 1 rfl ?_; refine zE ?_)
     | (refine yH ?_; first | (refine zN (hK _ ?_); clear hK K) | (refine zT rfl ⟨_, evl, fun nb' => ?_⟩))
   refine zE7 ⟨_, evl, _, evl, by decide +kernel, ?_⟩
   refine zA2 (by decide +kernel) ?_
   rw [zA5]
   dsimp only [zAt]
   refine zT rfl ⟨_, evl, fun nb' => ?_⟩
   refine zGg (k := 3) (enc := Liv.av zX) ((yF n t).getD k default) sq zW rfl rfl rfl evl sq (by trivial) (by rfl) (by rfl) (by rfl) (by exact ⟨rfl, rfl, by decide, by decide⟩) ?_ sq (fun bx1 b1 c1 ht1 hl1 hA1 => ?_)
   ·rw [hx]; rfl
   obtain ⟨r, rfl⟩ := zUf ht1
   refine zBc rfl (zFv _ _) (fun h => by cases h) ?_
   refine zT (by simp only [yMy, yO4] at hl1 ⊢; rw [yNz]; omega) ⟨_, evl, fun nb' => ?_⟩
   refine stG ?_
   refine jP rfl (zFv _ _) (fun h => by cases h) ?_
   refine zN (hK _ ?_); clear hK K
   try (first | refine wkM hK trivial ?_ | refine wkg trivial ?_)
   try clear hK K
   try refine sM fun K hK => ?_
   obtain rfl : k = 0 := hq
   obtain ⟨zs, a1, a2, a3, a4, a5, a6⟩ := hA1
   have e1 : [(yF n t).getD 0 default] = (yF n t).take (0 + 1) := by rw [yPe oq, yB oq]; rfl
   rw [e1] at a1 a2 a4
   obtain ⟨b, rfl⟩ : ∃ b, b1 = b + 3 := ⟨b1 - 3, by have := a5 (by rw [yOt] at a2; omega); omega⟩
   refine ⟨(0 + 1, some (zs, c1)), ⟨by omega, by rw [yOt] at a2; omega, a3, a4, a6⟩, by simp only; omega, ?_⟩
   exact xT.sel (sl' := [(1, true, .raw (.int .i64 t)), (2, true, .box 0 0), (4, true, .box 1 0), (5, true, .raw (.int .i64 0)), (6, true, .box 2 0), (22, true, lA 6 xY.av n.hosts), (23, true, .raw (.int .i64 n.hosts.length)), (24, true, .raw (.int .i64 (0 + 1 : Nat)))]) [0, 1, 2, b + 3] sq (fun k hk => absurd hk sq)
    ⟨⟨_, rfl, zI (Net.free n)⟩, ⟨_, rfl, zI (by simp [AV.freeL, AV.free])⟩, ⟨_, rfl, kO rfl sq n t _ _⟩, ⟨_, a1, zI (yR (xS (fun x => Liv.free (ch := zX) trivial x) _) a6.free)⟩, trivial⟩
    ⟨⟨_,rfl,.inl ⟨trivial,rfl⟩⟩,⟨_,rfl,.inr ⟨rfl,by simp [AV.sub]⟩⟩,⟨_,rfl,.inr ⟨rfl,by simp [AV.sub]⟩⟩,⟨_,rfl,.inl ⟨trivial,rfl⟩⟩,⟨_,rfl,.inr ⟨rfl,by simp [AV.sub]⟩⟩,⟨_,rfl,.inl ⟨f2,rfl⟩⟩,⟨_,rfl,.inl ⟨trivial,rfl⟩⟩,⟨_,rfl,.inl ⟨trivial,rfl⟩⟩,trivial⟩
  | some p =>
   obtain ⟨zs0, c0⟩ := p
   obtain ⟨q1, q2, q3, q4, q5⟩ := hq
   simp only [zU8, mkB, yMz, yN8]
   try (refine wg ?_; try refine sM fun K hK => ?_)
   refine zB ⟨_, evl, fun _ => ?_, fun hb => absurd (yPo hb) oq⟩
   repeat (refine stG ?_)
   refine zH (fun K hK => ?_)
   repeat
    first
     | (refine zG (hK _ ?_); clear hK K)
     | refine stG ?_
     | (refine z5 1 rfl ?_; refine zE ?_)
     | (refine yH ?_; first | (refine zN (hK _ ?_); clear hK K) | (refine zT rfl ⟨_, evl, fun nb' => ?_⟩))
   refine zB9 true kq kq (fun K hK => ?_)
   repeat
    first
     | (refine zG (hK _ ?_); clear hK K)
     | refine stG ?_
     | (refine yO 1 rfl ?_; refine yD rfl rfl ⟨_, evl, _, _, _, evl, wW, ?_⟩; apply Exists.intro; refine ⟨fun hg => ?_, ?_⟩; · first | exact FnA.at_ (hig) rfl rfl | exact FnA.at_s (hig) rfl vV | exact FnA.at_s (hig) rfl vW)
     | (refine z5 1 rfl ?_; refine yJ rfl ⟨_, evl, _, _, _, (fun _ _ => zBl), wW, ?_⟩; apply Exists.intro; refine ⟨fun hg => ?_, ?_⟩; · first | exact FnA.at_ (hig) rfl rfl | exact FnA.at_s (hig) rfl vV | exact FnA.at_s (hig) rfl vW)
     | (refine z5 1 rfl ?_; refine zE ?_)
     | (refine yH ?_; first | (refine zN (hK _ ?_); clear hK K) | (refine zT rfl ⟨_, evl, fun nb' => ?_⟩))
   refine zE7 ⟨_, evl, _, evl, by decide +kernel, ?_⟩
   refine zA2 (by decide +kernel) ?_
   rw [zA5]
   dsimp only [zAt]
   refine zT rfl ⟨_, evl, fun nb' => ?_⟩
   refine zIw (k := 3) (L := (yF n t).take k) (enc := Liv.av zX) ⟨zs0, rfl, by rw [yOt]; omega, q3, q4, fun _ => yMj _, q5⟩ ((yF n t).getD k default) sq zW rfl rfl rfl evl sq (by trivial) (by rfl) (by rfl) (by rfl) (by exact ⟨rfl, rfl, by decide, by decide⟩) (by rw [yOt]; omega) ?_ oq (fun bx1 b1 c1 ht1 hl1 hA1 => ?_)
   ·rw [hx]; rfl
   obtain ⟨r, rfl⟩ := zUf ht1
   refine zBc rfl (zFv _ _) (fun h => by cases h) ?_
   refine zT (by simp only [yMy, yO4] at hl1 ⊢; rw [yNz]; omega) ⟨_, evl, fun nb' => ?_⟩
   refine stG ?_
   refine jP rfl (zFv _ _) (fun h => by cases h) ?_
   refine zN (hK _ ?_); clear hK K
   try (first | refine wkM hK trivial ?_ | refine wkg trivial ?_)
   try clear hK K
   try refine sM fun K hK => ?_
   obtain ⟨zs, a1, a2, a3, a4, a5, a6⟩ := hA1
   have e1 : (yF n t).take k ++ [(yF n t).getD k default] = (yF n t).take (k + 1) := by rw [yPe oq, yB oq]
   rw [e1] at a1 a2 a4
   obtain ⟨b, rfl⟩ : ∃ b, b1 = b + 3 := ⟨b1 - 3, by have := a5 (by rw [yOt] at a2; omega); omega⟩
   refine ⟨(k + 1, some (zs, c1)), ⟨by omega, by rw [yOt] at a2; omega, a3, a4, a6⟩, by simp only; omega, ?_⟩
   exact xT.sel (sl' := [(1, true, .raw (.int .i64 t)), (2, true, .box 0 0), (4, true, .box 1 0), (5, true, .raw (.int .i64 0)), (6, true, .box 2 0), (22, true, lA 6 xY.av n.hosts), (23, true, .raw (.int .i64 n.hosts.length)), (24, true, .raw (.int .i64 (k + 1 : Nat)))]) [0, 1, 2, b + 3] sq (fun k hk => absurd hk sq)
    ⟨⟨_, rfl, zI (Net.free n)⟩, ⟨_, rfl, zI (by simp [AV.freeL, AV.free])⟩, ⟨_, rfl, kO rfl sq n t _ _⟩, ⟨_, a1, zI (yR (xS (fun x => Liv.free (ch := zX) trivial x) _) a6.free)⟩, trivial⟩
    ⟨⟨_,rfl,.inl ⟨trivial,rfl⟩⟩,⟨_,rfl,.inr ⟨rfl,by simp [AV.sub]⟩⟩,⟨_,rfl,.inr ⟨rfl,by simp [AV.sub]⟩⟩,⟨_,rfl,.inl ⟨trivial,rfl⟩⟩,⟨_,rfl,.inr ⟨rfl,by simp [AV.sub]⟩⟩,⟨_,rfl,.inl ⟨f2,rfl⟩⟩,⟨_,rfl,.inl ⟨trivial,rfl⟩⟩,⟨_,rfl,.inl ⟨trivial,rfl⟩⟩,trivial⟩
 ·have hkl : k = n.hosts.length := by
   cases q with
   | none => have : k = 0 := hq; omega
   | some p => have := hq.1; omega
  cases q with
  | none => have : k = 0 := hq; omega
  | some p =>
   obtain ⟨zs0, c0⟩ := p
   obtain ⟨q1, q2, q3, q4, q5⟩ := hq
   obtain rfl : k = (yF n t).length := by omega
   simp only [zU8, mkB, yMz, yN8]
   try (refine wg ?_; try refine sM fun K hK => ?_)
   refine zB ⟨_, evl, fun hb => absurd (yPn hb) oq, fun _ => ?_⟩
   try (refine wg ?_; try refine sM fun K hK => ?_)
   rw [List.take_length] at q4 ⊢
   exact zRa 4 (.tup [.agg (wav n t (.bsl 22 3 0 (yF n t).length c0)), .raw (.int .i64 0)]) [n.av, wav n t (.bsl 22 3 0 (yF n t).length c0), wav n t (.bsl 22 3 0 (yF n t).length c0), (yF n t).flatMap (Liv.av zX) ++ zs0] [] ⟨rfl, zs0, c0, rfl, rfl, by omega, q3, q4, q5⟩ sq
    ⟨_, _, _, evl, obq, zQ4.bel rfl ⟨zAk n t dq _ _, trivial, trivial⟩, by simp, rfl, rfl, ⟨belL_free _ (Net.free n), zAk n t dq _ _, zAk n t dq _ _, belL_free _ (yR (xS (fun x => Liv.free (ch := zX) trivial x) _) q5.free), trivial⟩, fun r hr => by cases hr⟩
abbrev zYb (n : Nat) : AV := .lst 0 n fun _ => []
@[go_sem] def zHs (id base count part err : Int) (u v : Bool) (i1 i2 i3 i4 i5 i6 i7 i8 i9 : Int) (n1 n2 n3 n4 n5 n6 : Nat) : List AV := [.raw (.int .i64 id), .raw (.int .i64 base), .raw (.int .i64 count), .raw (.int .i64 part), .raw (.int .i64 err), .raw (.bool u), .raw (.bool v), .raw (.int .i64 i1), .raw (.int .i64 i2), .raw (.int .i64 i3),
 .raw (.int .i64 i4), .raw (.int .i64 i5), .raw (.int .i64 i6), zYb n1, .raw (.int .i64 i7), .raw (.int .i64 i8), zYb n2, zYb n3, .raw (.int .i64 i9), zYb n4, zYb n5, zYb n6]
theorem kG (n : Nat) : (zYb n).free := fun _ _ => trivial
theorem zSk (id base count part err : Int) (u v : Bool) (i1 i2 i3 i4 i5 i6 i7 i8 i9 : Int) (n1 n2 n3 n4 n5 n6 : Nat) : AV.freeL (zHs id base count part err u v i1 i2 i3 i4 i5 i6 i7 i8 i9 n1 n2 n3 n4 n5 n6) :=
 ⟨trivial, trivial, trivial, trivial, trivial, trivial, trivial, trivial, trivial, trivial, trivial, trivial, trivial, kG n1, trivial, trivial, kG n2, kG n3, trivial, kG n4, kG n5, kG n6, trivial⟩
theorem zNn (id t u : Int) : (Liv.mk id t 0 0 0).sum u / 1000000000 = u - t := by
 unfold Liv.sum
 simp only
 omega
theorem zPf {id t : Int} (h : 0 ≤ t ∧ t ≤ 900000000000000) : (Liv.mk id t 0 0 0).right := by
 refine ⟨⟨?_, ?_⟩, ⟨?_, ?_⟩, ⟨?_, ?_⟩, ?_, ?_⟩ <;> simp only <;> omega
theorem zYa {l : List Liv} {t : Int} (h : ∀ x ∈ l, ∃ id, x = ⟨id, t, 0, 0, 0⟩) (ht : 0 ≤ t ∧ t ≤ 900000000000000) : ∀ x ∈ l, okH t x := fun x hx => by
 obtain ⟨id, rfl⟩ := h x hx
 refine ⟨zPf ht, Int.le_refl _, ?_⟩
 rw [zNn]
 omega
theorem zJd {h : Liv} {l : List Liv} {t : Int} (hl : ∀ x ∈ l, ∃ id, x = ⟨id, t, 0, 0, 0⟩) (ht : t ≤ 900000000000000) : zLh (h :: l) t ↔ okH t h := by
 constructor
 ·exact fun k => by simpa using k.2 0 sq
 ·intro k
  have h0 : 0 ≤ t := Int.le_trans k.1.1.1 k.2.1
  refine ⟨h0, fun i hi => ?_⟩
  cases i with
  | zero => exact k
  | succ i =>
   have hi' : i < l.length := by simpa using hi
   rw [show (h :: l).getD (i + 1) default = l.getD i default from rfl, yB hi']
   exact zYa hl ⟨h0, ht⟩ _ (yP5 hi')
theorem yB2 {h : Liv} {l : List Liv} {t u : Int} (hl : ∀ x ∈ l, ∃ id, x = ⟨id, t, 0, 0, 0⟩) (h0 : 0 ≤ t) (hu : u ≤ 900000000000000) (hs : h.sum u / 1000000000 ≤ 3000000000000000) : ∀ i, i < (h :: l).length → ((h :: l).getD i default).sum u / 1000000000 ≤ 3000000000000000 := fun i hi => by
 cases i with
 | zero => exact hs
 | succ i =>
  have hi' : i < l.length := by simpa using hi
  rw [show (h :: l).getD (i + 1) default = l.getD i default from rfl, yB hi']
  obtain ⟨id, e⟩ := hl _ (yP5 hi')
  rw [e, zNn]
  omega
theorem zOp {h : Liv} {t e : Int} (hr : h.right) (h0 : h.base ≤ t) (ht : t ≤ 900000000000000) (hs : h.sum t / 1000000000 ≤ 3000000000000000) (he : -1000000 ≤ e ∧ e ≤ 1000000) : (h.turn t e).right := by
 have h1 := zQl hr h0
 have h2 : 0 ≤ h.base := hr.1.1
 unfold Liv.turn Liv.right
 simp only
 refine ⟨by omega, by omega, by omega, he⟩
theorem zOw {n : Net} {h1 : Liv} {l : List Liv} (hm : zFi n (h1 :: l)) (t0 t1 e : Int) (hl : ∀ x ∈ l, ∃ id, x = ⟨id, t0, 0, 0, 0⟩) (h01 : t0 ≤ t1) (ht : t1 ≤ 900000000000000) (hin : -9223372036854775808 ≤ t1) (he : -1000000 ≤ e ∧ e ≤ 1000000) :
  (∃ c : Int, (c = 1 ∨ c = 3) ∧ FnA Tryz.prog 7 [.agg (wav n t0 (lA 22 (Liv.av zX) (h1 :: l))), zAq t1 h1.id e] (.tup [.agg jH, .agg ev0, .raw (.int .i64 c)])) ∨
  (okH t0 h1 ∧ 0 ≤ t0 ∧ h1.sum t1 / 1000000000 ≤ 3000000000000000 ∧ FnA Tryz.prog 7 [.agg (wav n t0 (lA 22 (Liv.av zX) (h1 :: l))), zAq t1 h1.id e] (.tup [.agg (wav n t1 (lA 22 (Liv.av mtA) (h1.turn t1 e :: l))), .agg ev1, .raw (.int .i64 0)])) := by
 have hid := (hm.id 0 hm.pos.1).2
 rw [show (h1 :: l).getD 0 default = h1 from rfl] at hid
 rcases Int.lt_or_le t1 0 with hneg | hpos
 ·exact .inl ⟨1, .inl rfl, zQp n _ t0 t1 h1.id e (zFw hin oq hid.1 hid.2 he.1 he.2)⟩
 have hs := zLq hpos ht hid.1 hid.2 he.1 he.2
 by_cases hk : okH t0 h1
 ·have hall := (zJd hl oq).2 hk
  by_cases hS : h1.sum t1 / 1000000000 ≤ 3000000000000000
  ·exact .inr ⟨hk, hall.1, hS, yB4 hm t0 t1 e h01 ht hall (yB2 hl hall.1 ht hS) hs⟩
  ·exact .inl ⟨3, .inr rfl, zIo n _ t0 t1 h1.id e 3 hs dq (zPy hm t0 t1 h01 ht hall hS)⟩
 ·exact .inl ⟨1, .inl rfl, zIo n _ t0 t1 h1.id e 1 hs dq (zWe hm t0 t1 oq fun h => hk ((zJd hl oq).1 h))⟩
def zPe (n : Net) (t : Int) (k : Nat) : List Liv := (yF n t).take k ++ (yF n 0).drop k
theorem zV4 (n : Net) (t : Int) (k : Nat) : (zPe n t k).length = (yF n 0).length := by simp [zPe, yF]; omega
theorem zS5 (n : Net) (t : Int) : zPe n t 0 = yF n 0 := by simp [zPe]
theorem zV5 (n : Net) (t : Int) {k : Nat} (hk : (yF n 0).length ≤ k) : zPe n t k = yF n t := by
 have : (yF n t).length ≤ k := by simpa [yF] using hk
 rw [zPe, List.take_of_length_le this, List.drop_of_length_le hk, yO9]
theorem zY8 (n : Net) (t : Int) {k : Nat} (hk : k < (yF n 0).length) (zs : List AV) : wT ((zPe n t k).flatMap (Liv.av zX) ++ zs) (k * 22 + 1) [.raw (.int .i64 t)] = (zPe n t (k + 1)).flatMap (Liv.av zX) ++ zs := by
 have hk' : k < n.hosts.length := by simpa [yF] using hk
 have e1 : (yF n t).take (k + 1) = (yF n t).take k ++ [⟨(n.hosts.getD k default).id, t, 0, 0, 0⟩] := by
  rw [yPe (by simpa [yF] using hk'), yB hk']
  simp [yF]
 have e2 : (yF n 0).drop k = ⟨(n.hosts.getD k default).id, 0, 0, 0, 0⟩ :: (yF n 0).drop (k + 1) := by
  rw [List.drop_eq_getElem_cons hk, yB hk']
  simp [yF]
 have hl : (((yF n t).take k).flatMap (Liv.av zX)).length = k * 22 := by
  rw [k9 (sz := 22) (fun _ => rfl), yOt, show (yF n t).length = n.hosts.length by simp [yF], Nat.min_eq_left oq]
 unfold zPe
 rw [e1, e2]
 simp only [List.flatMap_append, yP3, List.flatMap_nil, yO9, yOs]
 show wT (((yF n t).take k).flatMap (Liv.av zX) ++ (.raw (.int .i64 (n.hosts.getD k default).id) :: .raw (.int .i64 0) :: _)) _ _ = _
 rw [show ∀ (A R : List AV) (x y : AV), A ++ (x :: y :: R) = (A ++ [x]) ++ ([y] ++ R) from fun A R x y => by simp]
 refine (zRi (B := [AV.raw (.int .i64 0)]) (us := [AV.raw (.int .i64 t)]) ?_ rfl).trans ?_
 ·rw [yN1, hl]; rfl
 simp only [yOs]
 rfl
theorem zIz {α : Type} [Inhabited α] {f : α → Int} {l : List α} {most : Int} (h : kF f l most) : ∀ i, i < l.length → 1 ≤ f (l.getD i default) ∧ f (l.getD i default) ≤ most
 | 0, hi => by
  have h1 := h.2 0 hi
  have h2 := h1.1
  simp only [jW] at h2
  exact ⟨by omega, h1.2⟩
 | i + 1, hi => by
  have ih := zIz h i oq
  have h1 := h.2 (i + 1) hi
  have h2 := h1.1
  simp only [jW] at h2
  exact ⟨by omega, h1.2⟩
theorem zTj {n : Net} (hv : zY5 n) (hsv : FnA Tryz.prog 17 [.agg n.av] (.raw (.bool true))) (hl : n.hosts.length ≤ 64) {x : xY} {xs : List xY} (hx : n.hosts = x :: xs) {h1 : Liv} (hid : h1.id = x.id) (t : Int) : zFi n (h1 :: xs.map fun h : xY => (⟨h.id, t, 0, 0, 0⟩ : Liv)) := by
 refine ⟨hsv, by rw [hx]; simp, ⟨by simp, by rw [hx] at hl; simpa using hl⟩, fun i hi => ?_⟩
 have hi' : i < n.hosts.length := by rw [hx]; simpa using hi
 have hr := zIz hv.2.1.1 i hi'
 have e : ((h1 :: xs.map fun h : xY => (⟨h.id, t, 0, 0, 0⟩ : Liv)).getD i default).id = (n.hosts.getD i default).id := by
  rw [hx]
  cases i with
  | zero => exact hid
  | succ i =>
   have hj : i < xs.length := by simpa using hi
   show ((xs.map fun h : xY => (⟨h.id, t, 0, 0, 0⟩ : Liv)).getD i default).id = (xs.getD i default).id
   rw [yB (by simpa using hj), yB hj]
   simp
 rw [e]
 exact ⟨rfl, hr⟩
end Go.Proofs.YtioaahmkebojiaaGreatDoor
