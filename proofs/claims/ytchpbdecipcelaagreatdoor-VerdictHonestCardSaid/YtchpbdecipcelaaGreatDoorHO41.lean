import Derived.Test.YtchpbdecipcelaaGreatDoorHO01
import Derived.Test.YtchpbdecipcelaaGreatDoorHO39
import Derived.Test.YtchpbdecipcelaaGreatDoorHO40
namespace Go.Proofs.YtchpbdecipcelaaGreatDoor
set_option linter.unusedVariables false
set_option linter.unusedSimpArgs false
set_option maxHeartbeats 4000000
set_option maxRecDepth 100000
open Go.RowKit
theorem zDs {α : Type} [DecidableEq α] : ∀ (l : List α) (x : α), Vd.compact (l ++ [x]) = if l.getLast? = some x then Vd.compact l else Vd.compact l ++ [x]
 | [], x => by simp [Vd.compact]
 | [a], x => by by_cases h : a = x <;> simp [Vd.compact, h]
 | a :: b :: r, x => by
  have ih := zDs (b :: r) x
  rw [show a :: b :: r ++ [x] = a :: b :: (r ++ [x]) from rfl, Vd.compact, Vd.compact, show b :: (r ++ [x]) = b :: r ++ [x] from rfl, ih, show (a :: b :: r).getLast? = (b :: r).getLast? from by simp [List.getLast?_cons]]
  split <;> split <;> simp
theorem j8 {α : Type} [DecidableEq α] [Inhabited α] {l : List α} {k : Nat} (h0 : 0 < k) (h : k < l.length) : Vd.compact (l.take (k + 1)) = if l.getD (k - 1) default = l.getD k default then Vd.compact (l.take k) else Vd.compact (l.take k) ++ [l.getD k default] := by
 have e : (l.take k).getLast? = some (l.getD (k - 1) default) := by
  rw [List.getLast?_eq_getElem?, yKy, yIk, if_pos (by omega), show min k l.length - 1 = k - 1 from by omega, yJh (by omega), z5 (by omega)]
 rw [yLq h, zDs, e, z5 h]
 simp
theorem zB5 (a b : List zB) : pcs (a ++ b) = pcs a ++ pcs b := by simp [pcs]
theorem zBq : ∀ n, w5 n [.int .i64 0, .int .i64 0] = pcs (List.replicate n default)
 | 0 => rfl
 | n + 1 => by rw [w5, zBq n, yJ4, qN]; rfl
theorem zJ7 (a b d : List zB) (zs : List AV) (h : d.length = b.length) : vG (pcs (a ++ b) ++ zs) (a.length * 2) (pcs d) = pcs (a ++ d) ++ zs := by
 rw [zB5, zB5, yKx, yKx]
 exact zRx (vN a) (by rw [vN, vN, h])
theorem eqPP (p q : zB) : (decide (p.kind = q.kind) && decide (p.id = q.id)) = decide (q = p) := by
 rw [yJ8]
 cases p
 cases q
 simp
 omega
theorem zIu {α : Type} : ∀ {l : List α} {k : Nat}, k < l.length → ∀ x : α, (l.set k x).take (l.take k ++ [x]).length = l.take k ++ [x]
 | [], _, h, _ => by simp at h
 | y :: l, 0, _, x => by simp
 | y :: l, k + 1, h, x => by
  have := zIu (l := l) (k := k) (by simpa using h) x
  simpa using this
class FreeZ (zs : List AV) : Prop where
 free : AV.freeL zs
@[simp] theorem zLo (l : List zB) (zs : List AV) [h : FreeZ zs] : AV.freeL (pcs l ++ zs) := by
 have : ∀ xs : List AV, AV.freeL xs → AV.freeL (xs ++ zs) := fun xs => by
  induction xs with
  | nil => exact fun _ => h.free
  | cons x xs ih => exact fun hx => ⟨hx.1, ih hx.2⟩
 exact this _ (zNq l)
@[simp] theorem yAr (m n : Nat) (l : List zB) (zs : List AV) [FreeZ zs] : AV.subL m n (pcs l ++ zs) := AV.subL_free _ (zLo l zs)
@[simp] theorem yAs (m : Nat) (l : List zB) (zs : List AV) [FreeZ zs] : AV.belL m (pcs l ++ zs) := AV.belL_free _ (zLo l zs)
class AtP (l : List zB) (off : Nat) (i : outParam Nat) : Prop where
 eq : off = i * 2
 lt : i < l.length
@[go_sem] theorem yI6 (l : List zB) (zs : List AV) (off : Nat) (i : Nat) [h : AtP l off i] : List.take 2 (List.drop off (pcs l ++ zs)) = (l.getD i default).av := by
 rw [h.eq]
 exact zLs l zs i h.lt
@[go_sem] theorem yCe (l : List zB) (zs : List AV) (off : Nat) (i : Nat) (x : zB) [h : AtP l off i] : vG (pcs l ++ zs) off [.raw (.int .i64 x.kind), .raw (.int .i64 x.id)] = pcs (l.set i x) ++ zs := by
 rw [h.eq]
 exact zS5 l zs i x h.lt
def kY (l : List zB) : List zB := Vd.compact l ++ List.replicate (l.length - (Vd.compact l).length) default
structure InC (l C : List zB) (i : Nat) : Prop where
 len : C.length = l.length
 take : C.take (Vd.compact (l.take i)).length = Vd.compact (l.take i)
 drop : ∀ j, i ≤ j + 1 → C.getD j default = l.getD j default
theorem zQf {l : List zB} {i k : Nat} (h0 : 0 < i) (h : (Vd.compact (l.take i)).length < i) (k0 : i ≤ k) (hk : k ≤ l.length) : (Vd.compact (l.take k)).length < k := by
 induction k with
 | zero => omega
 | succ k ih =>
  rcases yIq i (k + 1) with hlt | hge
  ·rw [j8 (by omega) (by omega)]
   have := ih (by omega) (by omega)
   split
   ·omega
   ·rw [yJ2]; simp; omega
  ·obtain rfl : i = k + 1 := by omega
   exact h
theorem zL2 (l : List zB) (hl : l.length < 4611686018427387904) (c : Nat) (hlc : l.length ≤ c) (zs : List AV) [FreeZ zs] :
  FnG Tryz.prog 53 [.bsl 2 0 0 l.length c] [pcs l ++ zs] [] (.bsl 2 0 0 (Vd.compact l).length c) [pcs (kY l) ++ zs] [] := by
 refine enG Tryz.func53 Tryz.ntmps53 [.tmp 2] 1 rfl ?_
 try (refine wkB trivial ?_; try refine sM fun K hK => ?_)
 refine zA ⟨_, evl, fun hb => ?_, fun hb => ?_⟩
 ·simp only [yJm] at hb
  have e : Vd.compact l = l := by
   rcases l with _ | ⟨a, _ | ⟨b, r⟩⟩
   ·rfl
   ·rfl
   ·simp at hb; omega
  rw [kY, e, yK5, yJ3, yKe]
  try (refine wkB trivial ?_; try refine sM fun K hK => ?_)
  all_goals (refine yE (by simp) ⟨_, _, _, evl, obq, jB.bel ?_ obb, by simp, ?_, rfl, obb, obb⟩)
  all_goals first | rfl | (simp []; done) | (simp_all []; done) | (simp_all []; omega) | (simp []; grind) | (split <;> simp_all) | skip
 ·simp only [yKu] at hb
  try (refine wkB trivial ?_; try refine sM fun K hK => ?_)
  refine zJ (fun k : Nat => ⟨61, 1, [(0, true, .bsl 2 0 0 l.length c), (3, true, .raw (.int .i64 k))], [pcs l ++ zs], [], ((0, []), [], true)⟩)
   (fun k => 1 ≤ k ∧ k ≤ l.length ∧ Vd.compact (l.take k) = l.take k) (fun k => l.length - k) 1 ?_ ⟨by omega, by omega, ?_⟩ ?_
  ·exact wkZ
  ·rcases l with _ | ⟨a, r⟩
   ·rfl
   ·rfl
  ·rintro k ⟨hk0, hk, hc⟩
   try (refine wkB trivial ?_; try refine sM fun K hK => ?_)
   refine zA ⟨_, evl, fun hlt => ?_, fun hge => ?_⟩
   ·simp only [yJm] at hlt
    have hst := j8 hk0 (show k < l.length by omega)
    have hlp := vN l
    have hlz : (pcs l ++ zs).length = l.length * 2 + zs.length := by rw [yJ2, hlp]
    haveI i1 : AtP l (k * 2) k := ⟨rfl, by omega⟩
    haveI i2 : AtP l (((k : Int) - 1).toNat * 2) (k - 1) := ⟨by omega, by omega⟩
    try (refine wkB trivial ?_; try refine sM fun K hK => ?_)
    rw [eqPP]
    refine zA ⟨_, evl, fun hb => ?_, fun hb => ?_⟩
    ·simp only [yJm] at hb
     rw [if_pos hb, hc] at hst
     clear i1 i2
     try (refine wkB trivial ?_; try refine sM fun K hK => ?_)
     refine zJ (fun p : Nat × List zB => ⟨61, 1, [(0, true, .bsl 2 0 0 l.length c), (3, true, .raw (.int .i64 (Vd.compact (l.take (k + p.1))).length)), (4, true, .bsl 2 0 (k * 2) (l.length - k) (c - k)), (5, true, .raw (.int .i64 p.1))], [pcs p.2 ++ zs], [], ((0, []), [], true)⟩)
      (fun p => 1 ≤ p.1 ∧ p.1 ≤ l.length - k ∧ InC l p.2 (k + p.1)) (fun p => l.length - p.1) (1, l) ?_ ⟨by omega, by simp only; omega, ⟨rfl, ?_, fun _ _ => rfl⟩⟩ ?_
     ·simp only [hst, yKy, Nat.min_eq_left hk]
      exact wkZ
     ·simp only [hst, yKy, Nat.min_eq_left hk]
     ·rintro ⟨k2, C⟩ ⟨h1, h2, hC⟩
      simp only at h1 h2 hC
      have hlt2 : (Vd.compact (l.take (k + k2))).length < k + k2 := zQf (i := k + 1) (by omega) (by rw [hst, yKy]; omega) (by omega) (by omega)
      have hlp := vN C
      have hCl := hC.len
      have hlz : (pcs C ++ zs).length = l.length * 2 + zs.length := by rw [yJ2, hlp, hCl]
      simp only
      rcases yIq k2 (l.length - k) with hlt3 | hge3
      ·have hs2 := j8 (l := l) (k := k + k2) (by omega) (by omega)
       have r1 := hC.drop (k + k2) (by omega)
       have r2 := hC.drop (k + k2 - 1) (by omega)
       have hnx := hC.take
       rw [← r1, ← r2] at hs2
       try (refine wkB trivial ?_; try refine sM fun K hK => ?_)
       refine zA ⟨_, evl, fun _ => ?_, fun hb => absurd (yMa hb) (by omega)⟩
       haveI i1 : AtP C (k * 2 + k2 * 2) (k + k2) := ⟨by omega, by omega⟩
       haveI i2 : AtP C (k * 2 + ((k2 : Int) - 1).toNat * 2) (k + k2 - 1) := ⟨by omega, by omega⟩
       generalize hk' : (Vd.compact (l.take (k + k2))).length = k' at *
       haveI i3 : AtP C (k' * 2) k' := ⟨rfl, by omega⟩
       try (refine wkB trivial ?_; try refine sM fun K hK => ?_)
       rw [eqPP]
       refine zA ⟨_, evl, fun hb => ?_, fun hb => ?_⟩
       ·simp only [yJn, yKu] at hb
        rw [if_neg hb] at hs2
        clear i1 i2 i3
        haveI i1 : AtP C (k * 2 + k2 * 2) (k + k2) := ⟨by omega, by omega⟩
        haveI i3 : AtP C (k' * 2) k' := ⟨rfl, by omega⟩
        try (refine wkB trivial ?_; try refine sM fun K hK => ?_)
        refine zJ0 yQ rfl rfl rfl ⟨_, _, evl, _, evl, _, evl, _, evl, (by refine ⟨by simp [AV.oneL, AV.one, yO, Value.oneCell'], rfl, ?_⟩; show k' * 2 + 2 ≤ _; omega), _, evl, ?_⟩
        refine zF (hK _ ?_); clear hK K
        try (refine wkB trivial ?_; try refine sM fun K hK => ?_)
        refine ⟨(k2 + 1, C.set k' (C.getD (k + k2) default)), ⟨by simp only; omega, by simp only; omega, ⟨by simp [hCl], ?_, fun j hj => ?_⟩⟩, by simp only; omega, ?_⟩
        ·simp only
         rw [← yJi, hs2, ← hnx]
         exact zIu (by omega) _
        ·simp only at hj
         rw [← hC.drop j (by omega), yJk, yL4 (by omega), ← yJk]
        ·simp only
         rw [← yJi, hs2, yJ2, hk']
         exact wkZ
       ·simp only [yKs, yJm] at hb
        rw [if_pos hb] at hs2
        clear i1 i2 i3
        try (refine wkB trivial ?_; try refine sM fun K hK => ?_)
        refine ⟨(k2 + 1, C), ⟨by simp only; omega, by simp only; omega, ⟨hCl, ?_, fun j hj => hC.drop j (by simp only at hj; omega)⟩⟩, by simp only; omega, ?_⟩
        ·simp only
         rw [← yJi, hs2, hk', hnx]
        ·simp only
         rw [← yJi, hs2, hk']
         exact wkZ
      ·obtain rfl : k2 = l.length - k := by omega
       rw [show k + (l.length - k) = l.length from by omega] at hlt2 hC ⊢
       have hnx := hC.take
       rw [yLr] at hlt2 hnx ⊢
       generalize hk' : (Vd.compact l).length = k' at *
       try (refine wkB trivial ?_; try refine sM fun K hK => ?_)
       refine zA ⟨_, evl, fun hb => absurd (yLv hb) (by omega), fun _ => ?_⟩
       try (refine wkB trivial ?_; try refine sM fun K hK => ?_)
       have hzl : w5 (l.length - k') [Value.int .i64 0, Value.int .i64 0] = pcs (List.replicate (l.length - k') default) := zBq _
       have hput : vG (pcs C ++ zs) (k' * 2) (w5 (l.length - k') [Value.int .i64 0, Value.int .i64 0]) = pcs (kY l) ++ zs := by
        have e1 : C = Vd.compact l ++ C.drop k' := by rw [← hnx, yLe]
        have e2 := zJ7 (Vd.compact l) (C.drop k') (List.replicate (l.length - k') default) zs (by rw [List.length_replicate, yKz, hCl])
        rw [hk', ← e1, ← hzl] at e2
        rw [e2, kY, hk']
       refine zPn yQ rfl rfl rfl rfl rfl rfl ⟨rfl, rfl, by simp [Value.oneCell']⟩ rfl (show k' * 2 + (l.length - k') * 2 ≤ _ by omega) fun bx' hbx => ?_
       rw [show (⟨.struct [(0, 3), (1, 3)], 2, 16, [Value.int .i64 0, Value.int .i64 0], [.int, .int]⟩ : TI).zero = [Value.int .i64 0, Value.int .i64 0] from rfl, hput] at hbx
       subst hbx
       refine zF (hK _ ?_); clear hK K
       try (refine wkB trivial ?_; try refine sM fun K hK => ?_)
       all_goals (refine yE (by simp) ⟨_, _, _, evl, obq, jB.bel ?_ obb, by simp, ?_, rfl, obb, obb⟩)
       all_goals first | rfl | (simp []; done) | (simp_all []; done) | (simp_all []; omega) | (simp []; grind) | (split <;> simp_all) | skip
    ·simp only [yKu] at hb
     rw [if_neg hb] at hst
     clear i1 i2
     try (refine wkB trivial ?_; try refine sM fun K hK => ?_)
     refine ⟨k + 1, ⟨by omega, by omega, ?_⟩, by omega, ?_⟩
     ·rw [hst, hc, z5 (by omega), ← yLq]
     ·exact wkZ
   ·simp only [yKu] at hge
    obtain rfl : k = l.length := by omega
    rw [yLr] at hc
    have hz : pcs (kY l) ++ zs = pcs l ++ zs := by rw [kY, hc, yK5, yJ3, yKe]
    rw [hz, hc]
    try (refine wkB trivial ?_; try refine sM fun K hK => ?_)
    all_goals (refine yE (by simp) ⟨_, _, _, evl, obq, jB.bel ?_ obb, by simp, ?_, rfl, obb, obb⟩)
    all_goals first | rfl | (simp []; done) | (simp_all []; done) | (simp_all []; omega) | (simp []; grind) | (split <;> simp_all) | skip
theorem zK0 (l : List (List zB)) (hl : l.length ≤ 4611686018427387904) (g : FuncId) (cap : List AV) (hcap : AV.freeL cap) (p : (List zB) → Bool) (hp : ∀ x ∈ l, FnA Tryz.prog g (lA 2 zB.av x :: cap) (.raw (.bool (p x)))) :
  FnA Tryz.prog 105 [lA 1 (fun l => [lA 2 zB.av l]) l, .fn (.func g) [] cap] (.raw (.int .i64 (jU p l))) := by
 refine en Tryz.func105 Tryz.ntmps105 [.tmp 4] rfl ?_
 try (refine wg ?_; try refine sM fun K hK => ?_)
 refine zJ (fun k : Nat => ⟨19, 0, [(0, true, lA 1 (fun l => [lA 2 zB.av l]) l), (1, true, .fn (.func g) [] cap), (7, true, .raw (.int .i64 l.length)), (8, true, .raw (.int .i64 k))], [], [], ((0, []), [], true)⟩)
  (fun k => k ≤ l.length ∧ ∀ i, i < k → p (l.getD i default) = false) (fun k => l.length - k) 0 ?_ ⟨by omega, fun i h => by omega⟩ ?_
 ·exact wkZ
 ·rintro k ⟨hk, hall⟩
  try (refine wg ?_; try refine sM fun K hK => ?_)
  refine zA ⟨_, evl, ?_, ?_⟩
  ·intro hlt
   simp only [yJm] at hlt
   have hmem : l.getD k default ∈ l := by rw [yJk, yJh (show k < l.length by omega)]; exact yLb _
   have hpk := hp _ hmem
   have hfe : AV.freeL ((fun l => [lA 2 zB.av l]) (l.getD k default)) := by first | exact ⟨zE (fun z => zB.free z) _, trivial⟩ | (simp [AV.free, AV.freeL, iC, u8C, kC]; done)
   try (refine wkg hpk ?_; try refine sM fun K hK => ?_)
   refine zA ⟨_, evl, ?_, ?_⟩
   ·intro hb
    try (refine wg ?_; try refine sM fun K hK => ?_)
    refine rq ?_ ?_
    ·rw [vH (show k < l.length by omega) hall hb]
    ·simp [AV.free]
   ·intro hb
    try (refine wg ?_; try refine sM fun K hK => ?_)
    refine ⟨k + 1, ⟨by omega, fun i hi => ?_⟩, by omega, ?_⟩
    ·rcases yLu.1 hi with h | rfl
     ·exact hall i h
     ·exact hb
    ·exact wkZ
  ·intro hge
   simp only [yKu] at hge
   try (refine wg ?_; try refine sM fun K hK => ?_)
   refine rq ?_ ?_
   ·rw [xY (fun i hi => hall i (by omega))]
   ·simp [AV.free]
theorem j7 (l : List (List zB)) (hl : l.length ≤ 4611686018427387904) (g : FuncId) (cap : List AV) (hcap : AV.freeL cap) (p : (List zB) → Bool) (hp : ∀ x ∈ l, FnA Tryz.prog g (lA 2 zB.av x :: cap) (.raw (.bool (p x)))) :
  FnA Tryz.prog 59 [lA 1 (fun l => [lA 2 zB.av l]) l, .fn (.func g) [] cap] (.raw (.bool (l.any p))) := by
 have hi := zK0 l hl g cap hcap p hp
 have hany := jK p l
 have hfr : (lA 1 (fun l => [lA 2 zB.av l]) l).free := zE (fun y => show AV.freeL ((fun l => [lA 2 zB.av l]) y) from ⟨zE (fun z => zB.free z) _, trivial⟩) _
 generalize lA 1 (fun l => [lA 2 zB.av l]) l = L at hi hfr
 generalize jU p l = i at hi hany
 refine en Tryz.func59 Tryz.ntmps59 [.tmp 4] rfl ?_
 repeat' first
  | refine wkg hi ?_
  | (refine cS (fun hb => ?_) fun hb => ?_ <;> try (cases hb; done))
  | refine sM fun K hK => ?_
  | fail
 all_goals (try (refine zR (by simp) ⟨_, _, _, evl, ob0, zV.sims ?_ fre⟩))
 all_goals first | exact z6.refl _ | exact yA9 | exact yU | (refine z6.tup ?_; simp only [z8, yKn]; (repeat' apply And.intro) <;> first | exact yU | skip) | (exfalso; first | omega | (simp_all; done) | (simp_all; omega)) | skip
 all_goals (rw [hany])
theorem zZ1 (set : List zB) (hl : set.length ≤ 4611686018427387904) (p : zB) : FnA Tryz.prog 57 [.agg p.av, .elt [lA 2 zB.av set] 0] (.raw (.bool (!decide (p ∈ set)))) := by
 have h := zT9 set hl p
 have hfr : (lA 2 zB.av set).free := zE (fun y => zB.free y) _
 generalize lA 2 zB.av set = L at *
 generalize decide (p ∈ set) = z at *
 refine en Tryz.func57 Tryz.ntmps57 [.tmp 3] rfl ?_
 repeat' first
  | refine wkg h ?_
  | (refine cS (fun hb => ?_) fun hb => ?_ <;> try (cases hb; done))
  | refine sM fun K hK => ?_
  | fail
 all_goals exact fA
theorem zYf (a b : List zB) : Vd.part a b = !(a.any fun p => !decide (p ∈ b)) := by
 rw [yJ8, Vd.part_iff, yJn, yL9]
 simp
theorem zVt (set : List zB) (hl : set.length ≤ 4611686018427387904) (small : List zB) (hs : small.length ≤ 4611686018427387904) : FnA Tryz.prog 56 [lA 2 zB.av small, .elt [lA 2 zB.av set] 0] (.raw (.bool (Vd.part small set))) := by
 have hfr : (lA 2 zB.av small).free := zE (fun y => zB.free y) _
 have hfs : (lA 2 zB.av set).free := zE (fun y => zB.free y) _
 have h := y6 small hs 57 [.elt [lA 2 zB.av set] 0] ⟨⟨hfs, trivial⟩, trivial⟩ (fun p => !decide (p ∈ set)) (fun p _ => zZ1 set hl p)
 rw [zYf]
 generalize (small.any fun p => !decide (p ∈ set)) = z at *
 generalize lA 2 zB.av set = L at *
 refine en Tryz.func56 Tryz.ntmps56 [.tmp 3] rfl ?_
 repeat' first
  | refine wkg h ?_
  | (refine cS (fun hb => ?_) fun hb => ?_ <;> try (cases hb; done))
  | refine sM fun K hK => ?_
  | fail
 all_goals exact fA
def zA3 (s : List zB) : Nat := s.countP fun p => decide (p.kind = 1)
def okS (f : Int) (l : List zO) (n : Nat) (s : List zB) : Bool := decide ((zA3 s : Int) ≤ f) && zDz l n s
abbrev sC2 (x : List zB) : List AV := [lA 2 zB.av x]
abbrev zNe (O : List (List zB)) : z9 := ⟨32, 1, O.length, els sC2 O⟩
abbrev zEt (m : zQ) (O : List (List zB)) (l : List zO) (n : Nat) : List (List AV) := [m.av, [.row 0 O.length], [lA 4 zO.av l], [.raw (.int .i64 n)]]
theorem zWp {m : Nat} (O : List (List zB)) : zMp m [zNe O] := by
 intro r hr q _
 simp only [yJb, yKj, yKq] at hr
 subst hr
 exact AV.belL_free _ ⟨zE (fun z => zB.free z) _, trivial⟩
theorem yAo (m : zQ) (O : List (List zB)) (l : List zO) (n : Nat) (set : List zB) (hl : set.length ≤ 4611686018427387904) (hO : ∀ s ∈ O, s.length ≤ 4611686018427387904) (hOl : O.length ≤ 100000000000)
  (hp : FnA Tryz.prog 49 [lA 4 zO.av l, .raw (.int .i64 n), lA 2 zB.av set] (.raw (.bool (zDz l n set)))) :
  FnG Tryz.prog 55 [lA 2 zB.av set, .box 0 0, .box 1 0, .box 2 0, .box 3 0] (zEt m O l n) [zNe O] (.tup []) (zEt m (Vd.stepS (okS m.evidence.f l n) O set) l n) [zNe (Vd.stepS (okS m.evidence.f l n) O set)] := by
 have hfs : (lA 2 zB.av set).free := zE (fun y => zB.free y) _
 have hfl : (lA 4 zO.av l).free := zE (fun y => zO.free y) _
 have hm := zQ.free m
 have hfO : (lA 1 sC2 O).free := zE (fun y => show AV.freeL (sC2 y) from ⟨zE (fun z => zB.free z) _, trivial⟩) _
 have hc : FnA Tryz.prog 59 [lA 1 sC2 O, .fn (.func 56) [] [.elt [lA 2 zB.av set] 0]] (.raw (.bool (O.any fun t => Vd.part t set))) := j7 O (by omega) 56 [.elt [lA 2 zB.av set] 0] ⟨⟨hfs, trivial⟩, trivial⟩ (fun t => Vd.part t set) (fun t ht => zVt set hl t (hO t ht))
 refine enG Tryz.func55 Tryz.ntmps55 [] 4 rfl ?_
 try (refine wkR trivial ?_; try refine sM fun K hK => ?_)
 refine zJ (fun k : Nat => ⟨44, 68, [(1, true, .box 0 0), (2, true, .box 1 0), (3, true, .box 2 0), (4, true, .box 3 0), (5, true, .box 4 0), (6, true, .raw (.int .i64 (zA3 (set.take k)))), (10, true, lA 2 zB.av set), (11, true, .raw (.int .i64 set.length)), (12, true, .raw (.int .i64 k))], zEt m O l n ++ [[lA 2 zB.av set]], [zNe O], ((0, []), [], true)⟩)
  (fun k => k ≤ set.length) (fun k => set.length - k) 0 ?_ (by omega) ?_
 ·exact wkZ
 ·intro k hk
  have hstep : k < set.length → (zA3 (set.take (k + 1)) : Int) = zA3 (set.take k) + if (set.getD k default).kind = 1 then 1 else 0 := fun h => by
   rw [yLq h, z5 h]
   unfold zA3
   rw [List.countP_append, List.countP_singleton]
   by_cases hq : set[k].kind = 1 <;> simp [hq]
  have hal : zA3 (set.take k) ≤ k := by
   unfold zA3
   exact yIo List.countP_le_length (by rw [yKy]; omega)
  try (refine wkR trivial ?_; try refine sM fun K hK => ?_)
  refine zA ⟨_, evl, fun hlt => ?_, fun hge => ?_⟩
  ·simp only [yJm] at hlt
   have hs := hstep (by omega)
   generalize zA3 (set.take k) = a0 at *
   try (refine wkR trivial ?_; try refine sM fun K hK => ?_)
   refine zA ⟨_, evl, fun hb => ?_, fun hb => ?_⟩
   ·simp only [yJm] at hb
    rw [if_pos hb] at hs
    try (refine wkR trivial ?_; try refine sM fun K hK => ?_)
    refine ⟨k + 1, by omega, by omega, ?_⟩
    refine wkn ?_ ?_ ?_
    all_goals first | exact wk0 | refine wkS ?_ | skip
    all_goals (try trivial)
    all_goals ((repeat' apply And.intro) <;> first | exact wkL | skip)
    try exact z6.of_eq (by rw [hs])
   ·simp only [yKu] at hb
    rw [if_neg hb] at hs
    try (refine wkR trivial ?_; try refine sM fun K hK => ?_)
    refine ⟨k + 1, by omega, by omega, ?_⟩
    refine wkn ?_ ?_ ?_
    all_goals first | exact wk0 | refine wkS ?_ | skip
    all_goals (try trivial)
    all_goals ((repeat' apply And.intro) <;> first | exact wkL | skip)
    try exact z6.of_eq (by rw [hs, Int.add_zero])
  ·simp only [yKu] at hge
   obtain rfl : k = set.length := by omega
   rw [yLr]
   have hok : Vd.stepS (okS m.evidence.f l n) O set = if (decide ((zA3 set : Int) ≤ m.evidence.f) && !(O.any fun t => Vd.part t set)) && zDz l n set then O ++ [set] else O := by
    unfold Vd.stepS okS
    congr 1
    cases decide ((zA3 set : Int) ≤ m.evidence.f) <;> cases zDz l n set <;> simp
   rw [hok]
   clear hok hstep hO hal
   generalize zDz l n set = pm at *
   generalize (O.any fun t => Vd.part t set) = oa at *
   generalize zA3 set = a0 at *
   repeat (refine stR ?_)
   refine zCy 4 obf ⟨_, evl, _, evl, ?_⟩
   try (refine wkR (And.intro hc hp) ?_; try refine sM fun K hK => ?_)
   refine zA ⟨_, evl, fun hb => ?_, fun hb => ?_⟩
   ·rw [if_pos (by simpa using hb)]
    refine zBs ?_
    try (refine wg ?_; try refine sM fun K hK => ?_)
    refine ⟨⟨44, 68, [], zEt m (O ++ [set]) l n, [zNe (O ++ [set])], ((0, []), [], true)⟩, ?_, ?_⟩
    ·have hlen : O.length + 1 = (O ++ [set]).length := by simp
     refine wkn ?_ ?_ ?_
     all_goals first | exact wk0 | refine wkS ?_ | skip
     all_goals (try trivial)
     all_goals ((repeat' apply And.intro) <;> first | exact wkL | skip)
     all_goals first | exact z6.rowN hlen | exact hlen | skip
     exact fun q hq => z8.of_eq (jM rfl (by omega) rfl)
    ·refine yE (by simp) ⟨_, _, _, evl, obq, jB.bel rfl obb, by simp, rfl, rfl, obb, zWp _⟩
   ·rw [if_neg (by simpa using hb)]
    try (refine wkR trivial ?_; try refine sM fun K hK => ?_)
    refine yE (by simp) ⟨_, _, _, evl, obq, jB.bel rfl obb, by simp, rfl, rfl, obb, zWp _⟩
end Go.Proofs.YtchpbdecipcelaaGreatDoor
