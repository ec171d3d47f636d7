import Derived.Test.YtioaahmkebojiaaGreatDoorWC01
import Derived.Test.YtioaahmkebojiaaGreatDoorWC11
import Derived.Test.YtioaahmkebojiaaGreatDoorWC42
import Derived.Test.YtioaahmkebojiaaGreatDoorWC43
namespace Go.Proofs.YtioaahmkebojiaaGreatDoor
open Tryz
set_option linter.unusedVariables false
set_option linter.unusedSimpArgs false
set_option maxHeartbeats 4000000
set_option maxRecDepth 100000
open Go.RowKit
instance encM : Enc 22 (Liv.av mtA) := ⟨fun _ => rfl, fun h => Liv.free yU h, fun st h => by (repeat' apply And.intro) <;> first | rfl | trivial⟩
instance encN : Enc 22 (Liv.av zX) := ⟨fun _ => rfl, fun h => Liv.free (ch := zX) trivial h, fun st h => by (repeat' apply And.intro) <;> first | rfl | trivial⟩
abbrev jH : List AV := [zX, zX, zX, zX, .raw (.int .i64 0), .raw (.int .i64 0), .raw (.int .i64 0), .raw (.int .i64 0), zX]
structure zFi (n : Net) (l : List Liv) : Prop where
 valid : FnA Tryz.prog 17 [.agg n.av] (.raw (.bool true))
 len : l.length = n.hosts.length
 pos : 0 < l.length ∧ l.length ≤ 64
 id : ∀ i, i < l.length → (l.getD i default).id = (n.hosts.getD i default).id ∧ 1 ≤ (l.getD i default).id ∧ (l.getD i default).id ≤ 64
def zLh (l : List Liv) (now : Int) : Prop := 0 ≤ now ∧ ∀ i, i < l.length → okH now (l.getD i default)
instance (l : List Liv) (now : Int) : Decidable (zLh l now) := by unfold zLh; infer_instance
theorem zWe {n : Net} {l : List Liv} (hm : zFi n l) (now t : Int) (hn : now ≤ 900000000000000) (h : ¬ zLh l now) : FnA Tryz.prog 14 [.agg (wav n now (lA 22 (Liv.av zX) l)), .raw (.int .i64 t)] (.tup [.agg jH, .raw (.int .i64 1)]) := by
 obtain ⟨f1, f2, f3, f4⟩ := yG n
 have f5 := wQ (ch := zX) trivial l
 have h1 := zDy n l now hm.valid hm.len hm.pos.2 hm.id hn
 rw [show decide (0 ≤ now ∧ ∀ i, i < l.length → okH now (l.getD i default)) = false from yPl h] at h1
 have h2 := wU t
 refine en func14 ntmps14 [.cell 4 49, .tmp 5] rfl ?_
 try (refine wkg (And.intro h1 h2) ?_; try refine sM fun K hK => ?_)
 refine zB ⟨_, evl, fun _ => ?_, fun hb => ?_⟩
 ·try (refine wg ?_; try refine sM fun K hK => ?_)
  all_goals exact fA
 ·simp at hb
theorem zPy {n : Net} {l : List Liv} (hm : zFi n l) (now t : Int) (hn : now ≤ t) (ht : t ≤ 900000000000000) (h : zLh l now) (hno : ¬ (l.getD 0 default).sum t / 1000000000 ≤ 3000000000000000) : FnA Tryz.prog 14 [.agg (wav n now (lA 22 (Liv.av zX) l)), .raw (.int .i64 t)] (.tup [.agg jH, .raw (.int .i64 3)]) := by
 obtain ⟨f1, f2, f3, f4⟩ := yG n
 have f5 := wQ (ch := zX) trivial l
 have h1 := zDy n l now hm.valid hm.len hm.pos.2 hm.id oq
 rw [show decide (0 ≤ now ∧ ∀ i, i < l.length → okH now (l.getD i default)) = true from yPm h] at h1
 have h2 := wU t
 rw [yPm (by have := h.1; omega : 0 ≤ t), yPm (by omega : t ≤ 3000000000000000)] at h2
 have hk := h.2 0 hm.pos.1
 have h3 := zF1 (l.getD 0 default) hk.1 zX zZo t (by have := hk.2.1; omega) ht
 rw [yPl hno] at h3
 have hpos := hm.pos
 refine en func14 ntmps14 [.cell 4 49, .tmp 5] rfl ?_
 try (refine wkg (And.intro h1 h2) ?_; try refine sM fun K hK => ?_)
 refine zB ⟨_, evl, fun hb => ?_, fun _ => ?_⟩
 ·simp at hb
 try (refine wg ?_; try refine sM fun K hK => ?_)
 refine zB ⟨_, evl, fun hb => ?_, fun _ => ?_⟩
 ·simp at hb; omega
 try (refine wg ?_; try refine sM fun K hK => ?_)
 refine zP (fun _ : Unit => ⟨79, 0, [(1, true, .raw (.int .i64 t)), (2, true, .box 0 0), (4, true, .box 1 0), (5, true, .raw (.int .i64 0)), (34, true, lA 22 (Liv.av zX) l), (35, true, .raw (.int .i64 l.length)), (36, true, .raw (.int .i64 0))], [wav n now (lA 22 (Liv.av zX) l), jH], [], ((0, []), [], true)⟩)
  (fun _ => True) (fun _ => 0) () ?_ trivial ?_
 ·exact wkZ
 rintro _ -
 try (refine wg ?_; try refine sM fun K hK => ?_)
 refine zB ⟨_, evl, fun hb => ?_, fun hb => ?_⟩
 ·try (refine wkg h3 ?_; try refine sM fun K hK => ?_)
  refine zB ⟨_, evl, fun _ => ?_, fun hb => ?_⟩
  ·try (refine wg ?_; try refine sM fun K hK => ?_)
   all_goals exact fA
  ·simp at hb
 ·have := yPo hb
  omega
theorem zAk (n : Net) (t : Int) {b m : Nat} (hb : b < m) (k c : Nat) : AV.belL m (wav n t (.bsl 22 b 0 k c)) := by
 obtain ⟨f1, f2, f3, f4⟩ := yG n
 exact ⟨AV.bel_free _ f1, AV.bel_free _ f2, AV.bel_free _ f3, AV.bel_free _ f4, trivial, trivial, trivial, trivial, hb, trivial⟩
theorem zUf {α : Type} {l : List α} {a b c : α} (h : l.take 3 = [a, b, c]) : ∃ r, l = a :: b :: c :: r := by
 rcases l with _ | ⟨x, _ | ⟨y, _ | ⟨z, r⟩⟩⟩ <;> simp at h
 obtain ⟨rfl, rfl, rfl⟩ := h
 exact ⟨r, rfl⟩
theorem kO {f : Nat → Nat} {m b b' : Nat} (hb : f b' = b) (hm : b' < m) (n : Net) (t : Int) (k c : Nat) : zZp f m (wav n t (.bsl 22 b 0 k c)) (wav n t (.bsl 22 b' 0 k c)) := by
 obtain ⟨f1, f2, f3, f4⟩ := yG n
 subst hb
 exact ⟨.inl ⟨f1, rfl⟩, .inl ⟨f2, rfl⟩, .inl ⟨f3, rfl⟩, .inl ⟨f4, rfl⟩, .inl ⟨trivial, rfl⟩, .inl ⟨trivial, rfl⟩, .inl ⟨trivial, rfl⟩, .inl ⟨trivial, rfl⟩, .inr ⟨rfl, hm⟩, trivial⟩
def advP (l : List Liv) : Nat × Option (List AV × Nat) → Prop
 | (k, none) => k = 0
 | (k, some (zs, c)) => k ≤ l.length ∧ k ≤ c ∧ c ≤ maxLen ∧ c * 22 ≤ ((l.take k).flatMap (Liv.av mtA) ++ zs).length ∧ StillZ zs
def zU8 (n : Net) (t : Int) : Nat × Option (List AV × Nat) → List AV
 | (_, none) => wav n t (.bsl 22 0 0 0 0)
 | (k, some (_, c)) => wav n t (.bsl 22 3 0 k c)
def yCg (l : List Liv) : Nat × Option (List AV × Nat) → List (List AV)
 | (_, none) => []
 | (k, some (zs, _)) => [(l.take k).flatMap (Liv.av mtA) ++ zs]
def advR (n : Net) (l : List Liv) (now t : Int) (r : AV) (bx : List (List AV)) (rw : List zV) : Prop := rw = [] ∧ ∃ zs c, r = .tup [.agg (wav n t (.bsl 22 3 0 l.length c)), .raw (.int .i64 0)] ∧
 bx = [wav n now (lA 22 (Liv.av zX) l), wav n t (.bsl 22 3 0 l.length c), wav n t (.bsl 22 3 0 l.length c), l.flatMap (Liv.av mtA) ++ zs] ∧ l.length ≤ c ∧ c ≤ maxLen ∧ c * 22 ≤ (l.flatMap (Liv.av mtA) ++ zs).length ∧ StillZ zs
theorem zTu {n : Net} {l : List Liv} (hm : zFi n l) (now t : Int) (hn : now ≤ t) (ht : t ≤ 900000000000000) (h : zLh l now) (hok : ∀ i, i < l.length → (l.getD i default).sum t / 1000000000 ≤ 3000000000000000) :
  FnX Tryz.prog 14 [.agg (wav n now (lA 22 (Liv.av zX) l)), .raw (.int .i64 t)] [] [] (advR n l now t) := by
 obtain ⟨f1, f2, f3, f4⟩ := yG n
 have f5 := wQ (ch := zX) trivial l
 have h1 := zDy n l now hm.valid hm.len hm.pos.2 hm.id oq
 rw [show decide (0 ≤ now ∧ ∀ i, i < l.length → okH now (l.getD i default)) = true from yPm h] at h1
 have h2 := wU t
 rw [yPm (by have := h.1; omega : 0 ≤ t), yPm (by omega : t ≤ 3000000000000000)] at h2
 have hpos := hm.pos
 refine zWy zW func14 rfl kq 79 ntmps14 lenT [.cell 4 49, .tmp 5] rfl sq ?_
 simp only [zAh, zIa, yN9, Nat.reduceAdd, yMy, yO4]
 try (refine wkg (And.intro h1 h2) ?_; try refine sM fun K hK => ?_)
 refine zB ⟨_, evl, fun hb => ?_, fun _ => ?_⟩
 ·simp at hb
 try (refine wg ?_; try refine sM fun K hK => ?_)
 refine zB ⟨_, evl, fun hb => ?_, fun _ => ?_⟩
 ·simp at hb; omega
 try (refine wg ?_; try refine sM fun K hK => ?_)
 refine y6 (xT.nilBslV 2 8 22 0 rfl rfl sq) ?_
 refine zP (fun q : Nat × Option (List AV × Nat) => ⟨79,0,[(1,true,.raw (.int .i64 t)),(2,true,.box 0 0),(4,true,.box 1 0),(5,true,.raw (.int .i64 0)),(6,true,.box 2 0),(34,true,lA 22 (Liv.av zX) l),(35,true,.raw (.int .i64 l.length)),(36,true,.raw (.int .i64 q.1))],[wav n now (lA 22 (Liv.av zX) l),jH,zU8 n t q] ++ yCg l q,[],((0,[]),[],true)⟩)
  (fun q => advP l q) (fun q => l.length - q.1) (0, none) ?_ rfl ?_
 ·simp only [zU8, yCg]
  exact wkZ
 rintro ⟨k, q⟩ hq
 rcases yMn k l.length with hlt | hge
 ·have hk := h.2 k hlt
  have h3 := zF1 (l.getD k default) hk.1 zX zZo t (by have := hk.2.1; omega) ht
  rw [yPm (hok k hlt)] at h3
  have h4 := zW5 (l.getD k default)
  generalize (l.getD k default).sum t / 1000000000 = S at *
  generalize (l.getD k default).sum t % 1000000000 = R at *
  clear hk h1 h2
  cases q with
  | none =>
   simp only [zU8, yCg, yMz, yN8]
   try (refine wg ?_; try refine sM fun K hK => ?_)
   refine zB ⟨_, evl, fun _ => ?_, fun hb => absurd (yPo hb) oq⟩
   try (refine wkg (And.intro h3 h4) ?_; try refine sM fun K hK => ?_)
   refine zB ⟨_, evl, fun hb => ?_, fun _ => ?_⟩
   ·simp at hb
   try (refine wkg (And.intro h3 h4) ?_; try refine sM fun K hK => ?_)
   refine zB ⟨_, evl, fun hb => ?_, fun _ => ?_⟩
   ·simp at hb
   repeat (refine stG ?_)
   refine zH (fun K hK => ?_)
   iterate 4 (refine stG ?_)
   refine zGg (k := 3) (enc := Liv.av mtA) (l.getD k default) sq zW rfl rfl rfl evl sq (by trivial) (by rfl) (by rfl) (by rfl) (by exact ⟨rfl, rfl, by decide, by decide⟩) ?_ sq (fun bx1 b1 c1 ht1 hl1 hA1 => ?_)
   ·rfl
   obtain ⟨r, rfl⟩ := zUf ht1
   try (first | refine wkM hK trivial ?_ | refine wkg trivial ?_)
   try clear hK K
   try refine sM fun K hK => ?_
   obtain rfl : k = 0 := hq
   obtain ⟨zs, a1, a2, a3, a4, a5, a6⟩ := hA1
   have e1 : [l.getD 0 default] = l.take (0 + 1) := by rw [yPe hlt, yB hlt]; rfl
   rw [e1] at a1 a2 a4
   obtain ⟨b, rfl⟩ : ∃ b, b1 = b + 3 := ⟨b1 - 3, by have := a5 (by rw [yOt] at a2; omega); omega⟩
   refine ⟨(0 + 1, some (zs, c1)), ⟨by omega, by rw [yOt] at a2; omega, a3, a4, a6⟩, by simp only; omega, ?_⟩
   exact xT.sel (sl' := [(1, true, .raw (.int .i64 t)), (2, true, .box 0 0), (4, true, .box 1 0), (5, true, .raw (.int .i64 0)), (6, true, .box 2 0), (34, true, lA 22 (Liv.av zX) l), (35, true, .raw (.int .i64 l.length)), (36, true, .raw (.int .i64 (0 + 1 : Nat)))]) [0, 1, 2, b + 3] sq (fun k hk => absurd hk sq)
    ⟨⟨_, rfl, zI (zBa n now f5)⟩, ⟨_, rfl, zI (by simp [AV.freeL, AV.free])⟩, ⟨_, rfl, kO rfl sq n t _ _⟩, ⟨_, a1, zI (yR (xS (fun x => Liv.free yU x) _) a6.free)⟩, trivial⟩
    ⟨⟨_,rfl,.inl ⟨trivial,rfl⟩⟩,⟨_,rfl,.inr ⟨rfl,by simp [AV.sub]⟩⟩,⟨_,rfl,.inr ⟨rfl,by simp [AV.sub]⟩⟩,⟨_,rfl,.inl ⟨trivial,rfl⟩⟩,⟨_,rfl,.inr ⟨rfl,by simp [AV.sub]⟩⟩,⟨_,rfl,.inl ⟨f5,rfl⟩⟩,⟨_,rfl,.inl ⟨trivial,rfl⟩⟩,⟨_,rfl,.inl ⟨trivial,rfl⟩⟩,trivial⟩
  | some p =>
   obtain ⟨zs0, c0⟩ := p
   obtain ⟨q1, q2, q3, q4, q5⟩ := hq
   simp only [zU8, yCg, yMz, yN8]
   try (refine wg ?_; try refine sM fun K hK => ?_)
   refine zB ⟨_, evl, fun _ => ?_, fun hb => absurd (yPo hb) oq⟩
   try (refine wkg (And.intro h3 h4) ?_; try refine sM fun K hK => ?_)
   refine zB ⟨_, evl, fun hb => ?_, fun _ => ?_⟩
   ·simp at hb
   try (refine wkg (And.intro h3 h4) ?_; try refine sM fun K hK => ?_)
   refine zB ⟨_, evl, fun hb => ?_, fun _ => ?_⟩
   ·simp at hb
   repeat (refine stG ?_)
   refine zH (fun K hK => ?_)
   iterate 4 (refine stG ?_)
   refine zIw (k := 3) (L := l.take k) (enc := Liv.av mtA) ⟨zs0, rfl, by rw [yOt]; omega, q3, q4, fun _ => yMj _, q5⟩ (l.getD k default) sq zW rfl rfl rfl evl sq (by trivial) (by rfl) (by rfl) (by rfl) (by exact ⟨rfl, rfl, by decide, by decide⟩) (by rw [yOt]; omega) ?_ oq (fun bx1 b1 c1 ht1 hl1 hA1 => ?_)
   ·rfl
   obtain ⟨r, rfl⟩ := zUf ht1
   try (first | refine wkM hK trivial ?_ | refine wkg trivial ?_)
   try clear hK K
   try refine sM fun K hK => ?_
   obtain ⟨zs, a1, a2, a3, a4, a5, a6⟩ := hA1
   have e1 : l.take k ++ [l.getD k default] = l.take (k + 1) := by rw [yPe hlt, yB hlt]
   rw [e1] at a1 a2 a4
   obtain ⟨b, rfl⟩ : ∃ b, b1 = b + 3 := ⟨b1 - 3, by have := a5 (by rw [yOt] at a2; omega); omega⟩
   refine ⟨(k + 1, some (zs, c1)), ⟨by omega, by rw [yOt] at a2; omega, a3, a4, a6⟩, by simp only; omega, ?_⟩
   exact xT.sel (sl' := [(1, true, .raw (.int .i64 t)), (2, true, .box 0 0), (4, true, .box 1 0), (5, true, .raw (.int .i64 0)), (6, true, .box 2 0), (34, true, lA 22 (Liv.av zX) l), (35, true, .raw (.int .i64 l.length)), (36, true, .raw (.int .i64 (k + 1 : Nat)))]) [0, 1, 2, b + 3] sq (fun k hk => absurd hk sq)
    ⟨⟨_, rfl, zI (zBa n now f5)⟩, ⟨_, rfl, zI (by simp [AV.freeL, AV.free])⟩, ⟨_, rfl, kO rfl sq n t _ _⟩, ⟨_, a1, zI (yR (xS (fun x => Liv.free yU x) _) a6.free)⟩, trivial⟩
    ⟨⟨_,rfl,.inl ⟨trivial,rfl⟩⟩,⟨_,rfl,.inr ⟨rfl,by simp [AV.sub]⟩⟩,⟨_,rfl,.inr ⟨rfl,by simp [AV.sub]⟩⟩,⟨_,rfl,.inl ⟨trivial,rfl⟩⟩,⟨_,rfl,.inr ⟨rfl,by simp [AV.sub]⟩⟩,⟨_,rfl,.inl ⟨f5,rfl⟩⟩,⟨_,rfl,.inl ⟨trivial,rfl⟩⟩,⟨_,rfl,.inl ⟨trivial,rfl⟩⟩,trivial⟩
 ·have hkl : k = l.length := by
   cases q with
   | none => have : k = 0 := hq; omega
   | some p => have := hq.1; omega
  subst hkl
  cases q with
  | none => have : l.length = 0 := hq; omega
  | some p =>
   obtain ⟨zs0, c0⟩ := p
   obtain ⟨q1, q2, q3, q4, q5⟩ := hq
   simp only [zU8, yCg, yMz, yN8]
   try (refine wg ?_; try refine sM fun K hK => ?_)
   refine zB ⟨_, evl, fun hb => absurd (yPn hb) oq, fun _ => ?_⟩
   try (refine wg ?_; try refine sM fun K hK => ?_)
   rw [List.take_length] at q4 ⊢
   exact zRa 4 (.tup [.agg (wav n t (.bsl 22 3 0 l.length c0)), .raw (.int .i64 0)]) [wav n now (lA 22 (Liv.av zX) l), wav n t (.bsl 22 3 0 l.length c0), wav n t (.bsl 22 3 0 l.length c0), l.flatMap (Liv.av mtA) ++ zs0] [] ⟨rfl, zs0, c0, rfl, rfl, by omega, q3, q4, q5⟩ sq
    ⟨_, _, _, evl, obq, zQ4.bel rfl ⟨zAk n t dq _ _, trivial, trivial⟩, by simp, rfl, rfl, ⟨belL_free _ (zBa n now f5), zAk n t dq _ _, zAk n t dq _ _, belL_free _ (yR (xS (fun x => Liv.free yU x) _) q5.free), trivial⟩, fun r hr => by cases hr⟩
end Go.Proofs.YtioaahmkebojiaaGreatDoor
