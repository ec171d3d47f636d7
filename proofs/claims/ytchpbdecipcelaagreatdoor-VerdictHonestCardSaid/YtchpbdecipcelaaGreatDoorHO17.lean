import Derived.Test.YtchpbdecipcelaaGreatDoorHO01
import Derived.Test.YtchpbdecipcelaaGreatDoorHO16
namespace Go.Proofs.YtchpbdecipcelaaGreatDoor
set_option linter.unusedVariables false
set_option linter.unusedSimpArgs false
set_option maxHeartbeats 4000000
set_option maxRecDepth 100000
open Go.RowKit
structure Change where
 at_ : Int
 outLo : Int
 outHi : Int
 backLo : Int
 backHi : Int
 deriving Inhabited, DecidableEq
@[go_sem] def Change.av (x : Change) : List AV := [.raw (.int .i64 x.at_), .raw (.int .i64 x.outLo), .raw (.int .i64 x.outHi), .raw (.int .i64 x.backLo), .raw (.int .i64 x.backHi)]
@[simp] theorem Change.free (x : Change) : AV.freeL x.av := ⟨trivial, trivial, trivial, trivial, trivial, trivial⟩
namespace Lk
def gD {α : Type} [Inhabited α] (l : List α) (i : Nat) : α := l.getD i default
theorem yBc {α : Type} [Inhabited α] {l : List α} {i : Nat} (h : i < l.length) : gD l i = l[i] := by simp [gD, h]
end Lk
@[go_sem] def Change.c (c : Change) : List AV := [.raw (.int .i64 c.at_), .raw (.int .i64 c.outLo), .raw (.int .i64 c.outHi), .raw (.int .i64 c.backLo), .raw (.int .i64 c.backHi)]
namespace Lk
def chL (l : List Change) : AV := .lst 5 l.length fun i => (gD l i).c
end Lk
@[go_sem] def Iv.c (c : Iv) : List AV := [.raw (.int .i64 c.lo), .raw (.int .i64 c.hi)]
namespace Lk
def zBi (lo hi : Int) : Bool := decide (0 ≤ lo) && decide (lo ≤ hi) && decide (hi ≤ 1000000)
theorem zOt (lo hi : Int) : FnA Tryz.prog 245 [.raw (.int .i64 lo), .raw (.int .i64 hi)] (.raw (.bool (zBi lo hi))) := by
 refine en Tryz.func245 Tryz.ntmps245 [.tmp 4] rfl ?_
 try (refine wg ?_; try refine sM fun K hK => ?_)
 refine rq ?_ ?_
 ·simp [zBi]
 ·simp [AV.free]
def formedM (c : Change) : Bool := zBi c.outLo c.outHi && zBi c.backLo c.backHi
theorem formed_A (c : Change) : FnA Tryz.prog 226 [.agg c.c] (.raw (.bool (formedM c))) := by
 refine en Tryz.func226 Tryz.ntmps226 [.tmp 2] rfl ?_
 try (first | refine wkM hK zOt ?_ | refine wkg zOt ?_)
 try clear hK K
 try refine sM fun K hK => ?_
 refine rq ?_ ?_
 ·simp [formedM]
 ·simp [AV.free]
def vOk (l : List Change) (i : Nat) : Prop := formedM (gD l i) = true ∧ (0 < i → (gD l (i - 1)).at_ < (gD l i).at_)
instance (l : List Change) (i : Nat) : Decidable (vOk l i) := by unfold vOk; infer_instance
def ValidP (l : List Change) : Prop := 1 ≤ l.length ∧ l.length ≤ 20 ∧ (gD l 0).at_ = 0 ∧ (gD l (l.length - 1)).at_ ≤ 3000000000000000 ∧ ∀ i, i < l.length → vOk l i
instance (l : List Change) : Decidable (ValidP l) := by unfold ValidP; infer_instance
def validM (l : List Change) : Bool := decide (ValidP l)
theorem valid_A (l : List Change) (hmax : l.length ≤ 4611686018427387904) : FnA Tryz.prog 191 [chL l] (.raw (.bool (validM l))) := by
 unfold chL
 refine en Tryz.func191 Tryz.ntmps191 [.tmp 2] rfl ?_
 try (first | refine wkM hK formed_A ?_ | refine wkg formed_A ?_)
 try clear hK K
 try refine sM fun K hK => ?_
 refine zA ⟨_, evl, ?_, ?_⟩
 ·intro hb
  try (refine wg ?_; try refine sM fun K hK => ?_)
  refine rq ?_ ?_
  ·simp only [AV.raw.injEq, Value.bool.injEq]
   rw [eq_comm, validM, yKu]
   rintro ⟨h1, h2, h3, h4, h5⟩
   have e : ((l.length : Int) - 1).toNat = l.length - 1 := by omega
   rw [e] at hb
   simp at hb
   omega
  ·simp [AV.free]
 ·intro hb
  simp only [yKw, yKu, yKs, yJm] at hb
  obtain ⟨⟨⟨hb1, hb2⟩, hb3⟩, hb4⟩ := hb
  try (first | refine wkM hK formed_A ?_ | refine wkg formed_A ?_)
  try clear hK K
  try refine sM fun K hK => ?_
  refine zJ (fun k : Nat => ⟨56, 0, [(0, true, .lst 5 l.length fun i => (gD l i).c), (30, true, .lst 5 l.length fun i => (gD l i).c), (31, true, .raw (.int .i64 l.length)), (32, true, .raw (.int .i64 k))], [], [], ((0, []), [], true)⟩)
   (fun k => k ≤ l.length ∧ ∀ i, i < k → vOk l i) (fun k => l.length - k) 0 ?_ ⟨by omega, fun i h => by omega⟩ ?_
  ·refine xJ.sl ?_
   (try simp only [vX, zL, ↓reduceIte, Nat.reduceEqDiff, yKn, yIw, yIg, yIv, AV.raw.injEq, Value.int.injEq, Value.bool.injEq])
   all_goals ((repeat' apply And.intro) <;> first | rfl | omega | (simp; done))
  ·rintro k ⟨hk, hall⟩
   try (first | refine wkM hK formed_A ?_ | refine wkg formed_A ?_)
   try clear hK K
   try refine sM fun K hK => ?_
   refine zA ⟨_, evl, ?_, ?_⟩
   ·intro hlt
    simp only [yJm] at hlt
    try (first | refine wkM hK formed_A ?_ | refine wkg formed_A ?_)
    try clear hK K
    try refine sM fun K hK => ?_
    refine zA ⟨_, evl, ?_, ?_⟩
    ·intro hbad
     try (refine wg ?_; try refine sM fun K hK => ?_)
     refine rq ?_ ?_
     ·simp only [AV.raw.injEq, Value.bool.injEq]
      rw [eq_comm, validM, yKu]
      rintro ⟨_, _, _, _, h5⟩
      obtain ⟨h6, h7⟩ := h5 k (by omega)
      have e : ((k : Int) - 1).toNat = k - 1 := by omega
      rw [h6, e] at hbad
      simp at hbad
      have := h7 (by omega)
      omega
     ·simp [AV.free]
    ·intro hgood
     try (refine wg ?_; try refine sM fun K hK => ?_)
     refine ⟨k + 1, ⟨by omega, fun i hi => ?_⟩, by omega, ?_⟩
     ·by_cases hik : i < k
      ·exact hall i hik
      ·obtain rfl : i = k := by omega
       have e : ((i : Int) - 1).toNat = i - 1 := by omega
       rw [e] at hgood
       simp at hgood
       exact ⟨hgood.1, fun h => by have := hgood.2 h; omega⟩
     ·refine xJ.mk rfl ?_ ?_
      rotate_left
      ·simp [zKw, jY, AV.bel, AV.belL, go_sem]
      (try simp only [vX, zL, ↓reduceIte, Nat.reduceEqDiff, yKn, yIw, yIg, yIv, AV.raw.injEq, Value.int.injEq, Value.bool.injEq])
      all_goals ((repeat' apply And.intro) <;> first | rfl | omega | (simp; done))
   ·intro hge
    simp only [yKu] at hge
    try (first | refine wkM hK formed_A ?_ | refine wkg formed_A ?_)
    try clear hK K
    try refine sM fun K hK => ?_
    refine rq ?_ ?_
    ·simp only [AV.raw.injEq, Value.bool.injEq]
     rw [eq_comm, validM, yJm]
     have e : ((l.length : Int) - 1).toNat = l.length - 1 := by omega
     rw [e] at hb4
     exact ⟨by omega, by omega, hb3, by omega, fun i hi => hall i (by omega)⟩
    ·simp [AV.free]
def qA (i : Iv) : Bool := decide (0 ≤ i.lo) && decide (i.lo ≤ i.hi) && decide (i.hi ≤ 3000000000000000)
theorem zMz (i : Iv) : FnA Tryz.prog 177 [.agg i.c] (.raw (.bool (qA i))) := by
 refine en Tryz.func177 Tryz.ntmps177 [.tmp 2] rfl ?_
 try (refine wg ?_; try refine sM fun K hK => ?_)
 refine rq ?_ ?_
 ·simp [qA]
 ·simp [AV.free]
def zFx (s : Iv) (lo hi : Int) : Iv × Int := if hi < lo ∨ s.hi < lo then (⟨0, 0⟩, 22) else (⟨max 0 (s.lo - hi), s.hi - lo⟩, 0)
theorem zAi (s : Iv) (lo hi : Int) (h1 : inK .i64 (s.lo - hi)) (h2 : inK .i64 (s.hi - lo)) : FnA Tryz.prog 227 [.agg s.c, .raw (.int .i64 lo), .raw (.int .i64 hi)] (.tup [.agg (zFx s lo hi).1.c, .raw (.int .i64 (zFx s lo hi).2)]) := by
 refine en Tryz.func227 Tryz.ntmps227 [.cell 6 90, .tmp 7] rfl ?_
 try (refine wg ?_; try refine sM fun K hK => ?_)
 refine zA ⟨_, evl, ?_, ?_⟩
 ·intro hb
  simp at hb
  try (refine wg ?_; try refine sM fun K hK => ?_)
  refine rq ?_ ?_
  ·simp [zFx, hb, Iv.c]
  ·simp [AV.free, AV.freeL]
 ·intro hb
  simp at hb
  try (refine wg ?_; try refine sM fun K hK => ?_)
  refine rq ?_ ?_
  ·rw [zFx, if_neg (by omega)]; rfl
  ·simp [AV.free, AV.freeL]
def sentM (c : Change) (s : Iv) : Iv × Int := if formedM c = true ∧ qA s = true then zFx s c.outLo c.outHi else (⟨0, 0⟩, 1)
theorem formed_iff (c : Change) : formedM c = true ↔ 0 ≤ c.outLo ∧ c.outLo ≤ c.outHi ∧ c.outHi ≤ 1000000 ∧ 0 ≤ c.backLo ∧ c.backLo ≤ c.backHi ∧ c.backHi ≤ 1000000 := by simp [formedM, zBi, and_assoc]
theorem kD (i : Iv) : qA i = true ↔ 0 ≤ i.lo ∧ i.lo ≤ i.hi ∧ i.hi ≤ 3000000000000000 := by simp [qA, and_assoc]
theorem sent_A (c : Change) (s : Iv) : FnA Tryz.prog 182 [.agg c.c, .agg s.c] (.tup [.agg (sentM c s).1.c, .raw (.int .i64 (sentM c s).2)]) := by
 refine en Tryz.func182 Tryz.ntmps182 [.cell 4 90, .tmp 5] rfl ?_
 try (refine wkg (And.intro (formed_A c) (zMz s)) ?_; try refine sM fun K hK => ?_)
 refine zA ⟨_, evl, ?_, ?_⟩
 ·intro hb
  try (refine wg ?_; try refine sM fun K hK => ?_)
  refine rq ?_ ?_
  ·rw [sentM, if_neg (by simp at hb; rcases hb with h | h <;> simp [h])]; rfl
  ·simp [AV.free, AV.freeL]
 ·intro hb
  have hf : formedM c = true ∧ qA s = true := by simpa using hb
  have h1 := (formed_iff c).1 hf.1
  have h2 := (kD s).1 hf.2
  repeat
   first
    | (refine zF (hK _ ?_); clear hK K)
    | refine stG ?_
    | (refine yH 1 rfl ?_; refine zN rfl rfl ⟨_, evl, _, _, _, evl, yR, ?_⟩; apply Exists.intro; refine ⟨fun hg => ?_, ?_⟩; · first | exact FnA.at_ (zAi s c.outLo c.outHi (by simp only [inK]; omega) (by simp only [inK]; omega)) rfl rfl | exact FnA.at_s (zAi s c.outLo c.outHi (by simp only [inK]; omega) (by simp only [inK]; omega)) rfl xB | exact FnA.at_s (zAi s c.outLo c.outHi (by simp only [inK]; omega) (by simp only [inK]; omega)) rfl xC)
    | (refine zS 1 rfl ?_; refine zP rfl ⟨_, evl, _, _, _, (fun _ _ => w7), yR, ?_⟩; apply Exists.intro; refine ⟨fun hg => ?_, ?_⟩; · first | exact FnA.at_ (zAi s c.outLo c.outHi (by simp only [inK]; omega) (by simp only [inK]; omega)) rfl rfl | exact FnA.at_s (zAi s c.outLo c.outHi (by simp only [inK]; omega) (by simp only [inK]; omega)) rfl xB | exact FnA.at_s (zAi s c.outLo c.outHi (by simp only [inK]; omega) (by simp only [inK]; omega)) rfl xC)
    | (refine zS 1 rfl ?_; refine zG ?_)
    | (refine z7 ?_; first | (refine zK (hK _ ?_); clear hK K) | (refine zT rfl ⟨_, evl, fun nb' => ?_⟩))
    | refine zD (fun K hK => ?_)
    | (refine xD ?_; first | (refine zC false rfl (by kernel_rfl) (by kernel_rfl) (fun K hK => ?_)) | (refine zC true rfl (by kernel_rfl) (by kernel_rfl) (fun K hK => ?_)))
  refine rq ?_ ?_
  ·rw [sentM, if_pos hf]; rfl
  ·simp [AV.free, AV.freeL]
def zO4 (l : List Change) (i : Iv) : AV := .fn (.func 231) [] [.elt [chL l] 0, .elt i.c 0]
theorem zT5 (l : List Change) (i : Iv) : FnA Tryz.prog 192 [chL l, .agg i.c] (zO4 l i) := by
 unfold chL
 refine en Tryz.func192 Tryz.ntmps192 [.tmp 4] rfl ?_
 try (refine wg ?_; try refine sM fun K hK => ?_)
 refine zR (by simp) ⟨_, _, _, evl, ob0, ?_⟩
 refine zV.fn rfl ⟨_, _, rfl, zV.box rfl ⟨_, _, rfl, zV.free ?_, rfl⟩, _, _, rfl, zV.box rfl ⟨_, _, rfl, zV.free ?_, _, _, rfl, zV.free ?_, rfl⟩, rfl⟩
 ·simp [AV.free, AV.freeL, Change.c]
 ·simp [AV.free]
 ·simp [AV.free]
theorem zYg (c : Change) : FnA Tryz.prog 194 [.agg c.c] (.raw (.int .i64 c.outLo)) := by
 refine en Tryz.func194 Tryz.ntmps194 [.tmp 2] rfl ?_
 try (refine wg ?_; try refine sM fun K hK => ?_)
 refine rq ?_ ?_
 ·rfl
 ·simp [AV.free]
theorem zYh (c : Change) : FnA Tryz.prog 195 [.agg c.c] (.raw (.int .i64 c.outHi)) := by
 refine en Tryz.func195 Tryz.ntmps195 [.tmp 2] rfl ?_
 try (refine wg ?_; try refine sM fun K hK => ?_)
 refine rq ?_ ?_
 ·rfl
 ·simp [AV.free]
theorem zWr (c : Change) : FnA Tryz.prog 196 [.agg c.c] (.raw (.int .i64 c.backLo)) := by
 refine en Tryz.func196 Tryz.ntmps196 [.tmp 2] rfl ?_
 try (refine wg ?_; try refine sM fun K hK => ?_)
 refine rq ?_ ?_
 ·rfl
 ·simp [AV.free]
theorem zWs (c : Change) : FnA Tryz.prog 197 [.agg c.c] (.raw (.int .i64 c.backHi)) := by
 refine en Tryz.func197 Tryz.ntmps197 [.tmp 2] rfl ?_
 try (refine wg ?_; try refine sM fun K hK => ?_)
 refine rq ?_ ?_
 ·rfl
 ·simp [AV.free]
theorem isNaN_A (x : Int) : FnA Tryz.prog 159 [.raw (.int .i64 x)] (.raw (.bool false)) := by
 refine en Tryz.func159 Tryz.ntmps159 [.tmp 2] rfl ?_
 try (refine wg ?_; try refine sM fun K hK => ?_)
 refine rq ?_ ?_
 ·simp
 ·simp [AV.free]
def zUt (x y : Int) : Int := if x < y then -1 else if y < x then 1 else 0
theorem compare_A (x y : Int) : FnA Tryz.prog 102 [.raw (.int .i64 x), .raw (.int .i64 y)] (.raw (.int .i64 (zUt x y))) := by
 refine en Tryz.func102 Tryz.ntmps102 [.tmp 4] rfl ?_
 try (first | refine wkM hK isNaN_A ?_ | refine wkg isNaN_A ?_)
 try clear hK K
 try refine sM fun K hK => ?_
 refine zA ⟨_, evl, ?_, ?_⟩
 ·intro h; cases h
 intro _
 try (refine wg ?_; try refine sM fun K hK => ?_)
 refine zA ⟨_, evl, ?_, ?_⟩
 ·intro h; cases h
 intro _
 try (refine wg ?_; try refine sM fun K hK => ?_)
 refine zA ⟨_, evl, ?_, ?_⟩
 ·intro h
  simp at h
  try (refine wg ?_; try refine sM fun K hK => ?_)
  refine rq ?_ ?_
  ·simp [zUt, h]
  ·simp [AV.free]
 intro h
 simp at h
 try (refine wg ?_; try refine sM fun K hK => ?_)
 refine zA ⟨_, evl, ?_, ?_⟩
 ·intro h'
  simp at h'
  try (refine wg ?_; try refine sM fun K hK => ?_)
  refine rq ?_ ?_
  ·simp [zUt, h', yJc.2 h]
  ·simp [AV.free]
 intro h'
 simp at h'
 try (refine wg ?_; try refine sM fun K hK => ?_)
 refine rq ?_ ?_
 ·simp [zUt, yJc.2 h, yJc.2 h']
 ·simp [AV.free]
def inF (l : List Change) (i : Iv) (k : Nat) : Bool := (!(decide ((k : Int) + 1 < l.length) && decide ((gD l ((k : Int) + 1).toNat).at_ ≤ i.lo))) && decide ((gD l k).at_ ≤ i.hi)
def qO (l : List Change) (i : Iv) (n : Nat) : List Change := ((List.range n).filter (inF l i)).map (gD l)
def zDm (l : List Change) (i : Iv) (n : Nat) : List (List AV) := (qO l i n).map fun c => [.agg c.c]
theorem qH (l : List Change) (i : Iv) (k : Nat) : zDm l i (k + 1) = zDm l i k ++ if inF l i k then [[.agg (gD l k).c]] else [] := by
 simp only [zDm, qO, yLc, List.filter_append, yLh, List.filter_cons, List.filter_nil]
 split <;> simp
theorem zJw (l : List Change) (i : Iv) {k n : Nat} (h : k ≤ n) : zDm l i k <+: zDm l i n := by
 induction n with
 | zero =>
  obtain rfl : k = 0 := by omega
  exact yLw _
 | succ n ih =>
  by_cases hk : k = n + 1
  ·subst hk; exact yLw _
  ·exact (ih (by omega)).trans (by rw [qH]; exact List.prefix_append _ _)
theorem zQ6 (l : List Change) (i : Iv) (hmax : l.length ≤ 4611686018427387904) : yAa Tryz.prog 231 [.elt [chL l] 0, .elt i.c 0] (zDm l i l.length) := by
 unfold chL
 refine zLg Tryz.func231 rfl (by kernel_rfl) 46 Tryz.ntmps231 yHr rfl (fun y => ?_)
 simp only [zBk, yJa, Nat.reduceAdd, yJ0, yJ9]
 try (refine wg ?_; try refine sM fun K hK => ?_)
 refine zJ (fun k : Nat => ⟨46, 0, [(9, true, .raw (.int .i64 k)), (8, true, .raw (.int .i64 l.length)), (7, true, .lst 5 l.length fun i => (gD l i).c), (0, true, .raw (.func (.yield y) #[] #[])), (1, true, .elt [.lst 5 l.length fun i => (gD l i).c] 0), (2, true, .elt i.c 0)], [], [], ((y, zDm l i l.length), zDm l i k, false)⟩)
  (fun k => k ≤ l.length) (fun k => l.length - k) 0 ?_ (by omega) ?_
 ·refine xJ.sl ?_
  (try simp only [vX, zL, ↓reduceIte, Nat.reduceEqDiff, yKn, yIw, yIg, yIv, AV.raw.injEq, Value.int.injEq, Value.bool.injEq])
  all_goals ((repeat' apply And.intro) <;> first | rfl | omega | (simp; done))
 ·intro k hk
  try (refine wg ?_; try refine sM fun K hK => ?_)
  refine zA ⟨_, evl, ?_, ?_⟩
  ·intro hlt
   simp only [yJm] at hlt
   try (first | refine wkM hK trivial ?_ | refine wkg trivial ?_)
   try clear hK K
   try refine sM fun K hK => ?_
   refine kK rfl rfl ⟨_, evl, _, _, evl, ?_, ?_, ?_⟩
   ·intro hg
    refine ⟨fun c hc => ?_, by simp [AV.free, AV.freeL], ?_⟩
    ·simp only [yJb, yKj, yKq] at hc
     rcases hc with rfl | rfl <;> first | rfl | exact hg
    have := zJw l i (k := k + 1) (n := l.length) (by omega)
    rw [qH, if_pos (show inF l i k = true from hg)] at this
    exact this
   ·intro hg
    simp only [hg]
    try (first | refine wkM hK trivial ?_ | refine wkg trivial ?_)
    try clear hK K
    try refine sM fun K hK => ?_
    refine zA ⟨_, evl, ?_, ?_⟩
    ·intro h; simp at h
    intro _
    try (first | refine wkM hK trivial ?_ | refine wkg trivial ?_)
    try clear hK K
    try refine sM fun K hK => ?_
    refine ⟨k + 1, by omega, by omega, ?_⟩
    rw [qH, if_neg (by rw [show inF l i k = false from hg]; simp), yKe]
    refine xJ.mk rfl ?_ ?_
    rotate_left
    ·simp [zKw, jY, AV.bel, AV.belL, go_sem]
    (try simp only [vX, zL, ↓reduceIte, Nat.reduceEqDiff, yKn, yIw, yIg, yIv, AV.raw.injEq, Value.int.injEq, Value.bool.injEq])
    all_goals ((repeat' apply And.intro) <;> first | rfl | omega | (simp; done))
   ·intro hg b
    simp only [hg]
    try (first | refine wkM hK trivial ?_ | refine wkg trivial ?_)
    try clear hK K
    try refine sM fun K hK => ?_
    refine zA ⟨_, evl, ?_, ?_⟩
    ·intro h
     simp at h
     subst h
     try (first | refine wkM hK trivial ?_ | refine wkg trivial ?_)
     try clear hK K
     try refine sM fun K hK => ?_
     refine ⟨.inr rfl, ?_, fun h => by simp at h⟩
     have := zJw l i (k := k + 1) (n := l.length) (by omega)
     rw [qH, if_pos (show inF l i k = true from hg)] at this
     exact this
    intro h
    simp at h
    subst h
    try (refine wg ?_; try refine sM fun K hK => ?_)
    refine ⟨k + 1, by omega, by omega, ?_⟩
    rw [qH, if_pos (show inF l i k = true from hg)]
    refine xJ.mk rfl ?_ ?_
    rotate_left
    ·simp [zKw, jY, AV.bel, AV.belL, go_sem]
    (try simp only [vX, zL, ↓reduceIte, Nat.reduceEqDiff, yKn, yIw, yIg, yIv, AV.raw.injEq, Value.int.injEq, Value.bool.injEq])
    all_goals ((repeat' apply And.intro) <;> first | rfl | omega | (simp; done))
  ·intro hge
   simp only [yKu] at hge
   have : k = l.length := by omega
   subst this
   try (refine wg ?_; try refine sM fun K hK => ?_)
   exact ⟨.inl rfl, yLw _, fun _ => rfl⟩
def wH (sign : Int) (p : Change → Int) (s : Int × Bool) (c : Change) : Int × Bool := if (s.2 || decide (zUt (p c) s.1 * sign < 0)) = true then (p c, false) else s
def zFi (sign : Int) (p : Change → Int) (cs : List Change) : Int × Bool := cs.foldl (wH sign p) (0, true)
theorem zCl (sign : Int) (p : Change → Int) (cs : List Change) (c : Change) : zFi sign p (cs ++ [c]) = wH sign p (zFi sign p cs) c := by simp [zFi]
theorem zZm (x y : Int) : -1 ≤ zUt x y ∧ zUt x y ≤ 1 := by
 unfold zUt
 split
 ·omega
 ·split <;> omega
def zAt (cs : List Change) : List (List AV) := cs.map fun c => [.agg c.c]
theorem zI4 {h : List (List AV)} {item : List AV} {pre cs : List Change} (hp : pre <+: cs) (e : h = zAt pre) (hi : (h ++ [item]) <+: zAt cs) : ∃ c, item = [.agg c.c] ∧ (pre ++ [c]) <+: cs := by
 subst e
 obtain ⟨r, rfl⟩ := hp
 simp only [zAt, yLh] at hi
 cases r with
 | nil => exfalso; have := hi.length_le; simp at this; omega
 | cons c r =>
  rw [yLx] at hi
  simp only [yJo, List.cons_prefix_cons, List.nil_prefix, yKn] at hi
  exact ⟨c, hi, by simp⟩
theorem roundEnd_n {nt nb m : Nat} {sl : List (Nat × (Bool × AV))} {bx bx' ex : List (List AV)} {ys : (Nat × List (List AV)) × List (List AV) × Bool} {Inv : yAb} {h : List (List AV)} (hb : bx = bx' ++ ex) (h2 : nb % 64 ≤ bx'.length ∧ jY bx'.length bx') (hlen : bx'.length = m) (hi : Inv h none bx' [] ys) :
  zE9 m Inv h .normal ⟨nt, nb, sl, bx, [], ys⟩ := ⟨nt, nb, [], bx', [], ys, xJ.mk hb trivial ⟨h2.1, trivial, h2.2⟩, hlen, hi⟩
theorem zCk (f : FuncId) (cap : List AV) (hcap : AV.freeL cap) (cs : List Change) (hseq : yAa Tryz.prog f cap (zAt cs)) (sign : Int) (hs : sign = 1 ∨ sign = -1) (g : FuncId) (p : Change → Int) (hp : ∀ c : Change, FnA Tryz.prog g [.agg c.c] (.raw (.int .i64 (p c)))) :
  FnA Tryz.prog 193 [.fn (.func f) [] cap, .raw (.int .i64 sign), .raw (.func (.func g) #[] #[])] (.raw (.int .i64 (zFi sign p cs).1)) := by
 refine en Tryz.func193 Tryz.ntmps193 [.tmp 6] rfl ?_
 try (first | refine wkM hK hp ?_ | refine wkg hp ?_)
 try clear hK K
 try refine sM fun K hK => ?_
 refine vP (fun h j bx rw ys => j = none ∧ rw = [] ∧ ys = ((0, []), [], true) ∧ ∃ pre, pre <+: cs ∧ h = zAt pre ∧ bx = [[.raw (.int .i64 sign)], [.raw (.func (.func g) #[] #[])], [.raw (.int .i64 (zFi sign p pre).1)], [.raw (.bool (zFi sign p pre).2)]]) rfl rfl hcap hseq ⟨by simp, by simp⟩ (by simp) ⟨rfl, rfl, rfl, [], by simp, rfl, rfl⟩ ?_ ?_ ?_
 ·rintro h item bx rw ys ⟨_, rfl, rfl, pre, hpre, rfl, rfl⟩ hpr _
  obtain ⟨c, rfl, hc⟩ := zI4 hpre rfl hpr
  refine ⟨rfl, ?_⟩
  have hcm := zZm (p c) (zFi sign p pre).1
  simp only [zBp, yJ0, yJ9]
  try (refine wkg (hp c) ?_; try refine sM fun K hK => ?_)
  refine ⟨rfl, ?_⟩
  rcases hs with rfl | rfl
  ·try (first | refine wkM hK (And.intro (hp c) compare_A) ?_ | refine wkg (And.intro (hp c) compare_A) ?_)
   try clear hK K
   try refine sM fun K hK => ?_
   refine zA ⟨_, evl, ?_, ?_⟩
   ·intro hb
    try (refine wg ?_; try refine sM fun K hK => ?_)
    refine roundEnd_n (bx' := [[AV.raw (Value.int .i64 1)], [AV.raw (.func (.func g) #[] #[])], [AV.raw (.int .i64 (p c))], [AV.raw (.bool false)]]) rfl (by simp [jY, AV.bel, AV.belL]) rfl ⟨rfl, rfl, rfl, pre ++ [c], hc, by simp [zAt], ?_⟩
    rw [zCl, wH, if_pos hb]
   ·intro hb
    try (refine wg ?_; try refine sM fun K hK => ?_)
    refine roundEnd_n (bx' := [[AV.raw (Value.int .i64 1)], [.raw (.func (.func g) #[] #[])], [.raw (.int .i64 (zFi (1) p pre).1)], [.raw (.bool (zFi (1) p pre).2)]]) rfl (by simp [jY, AV.bel, AV.belL]) rfl ⟨rfl, rfl, rfl, pre ++ [c], hc, by simp [zAt], ?_⟩
    rw [zCl, wH, if_neg (by rw [hb]; simp)]
  ·try (first | refine wkM hK (And.intro (hp c) compare_A) ?_ | refine wkg (And.intro (hp c) compare_A) ?_)
   try clear hK K
   try refine sM fun K hK => ?_
   refine zA ⟨_, evl, ?_, ?_⟩
   ·intro hb
    try (refine wg ?_; try refine sM fun K hK => ?_)
    refine roundEnd_n (bx' := [[AV.raw (Value.int .i64 (-1))], [AV.raw (.func (.func g) #[] #[])], [AV.raw (.int .i64 (p c))], [AV.raw (.bool false)]]) rfl (by simp [jY, AV.bel, AV.belL]) rfl ⟨rfl, rfl, rfl, pre ++ [c], hc, by simp [zAt], ?_⟩
    rw [zCl, wH, if_pos hb]
   ·intro hb
    try (refine wg ?_; try refine sM fun K hK => ?_)
    refine roundEnd_n (bx' := [[AV.raw (Value.int .i64 (-1))], [.raw (.func (.func g) #[] #[])], [.raw (.int .i64 (zFi (-1) p pre).1)], [.raw (.bool (zFi (-1) p pre).2)]]) rfl (by simp [jY, AV.bel, AV.belL]) rfl ⟨rfl, rfl, rfl, pre ++ [c], hc, by simp [zAt], ?_⟩
    rw [zCl, wH, if_neg (by rw [hb]; simp)]
 ·rintro bx rw ys ⟨_, rfl, rfl, pre, hpre, he, rfl⟩
  have : pre = cs := by
   have := congrArg List.length he
   simp [zAt] at this
   exact hpre.eq_of_length this.symm
  subst this
  try (refine wg ?_; try refine sM fun K hK => ?_)
  refine rq ?_ ?_
  ·rfl
  ·simp [AV.free]
 ·rintro h j bx rw ys _ ⟨hj, _⟩
  cases hj
def linkBoundsM (l : List Change) (i : Iv) : Change × Int := if validM l = true ∧ qA i = true then
  (⟨i.lo, (zFi 1 Change.outLo (qO l i l.length)).1, (zFi (-1) Change.outHi (qO l i l.length)).1, (zFi 1 Change.backLo (qO l i l.length)).1, (zFi (-1) Change.backHi (qO l i l.length)).1⟩, 0) else (⟨0, 0, 0, 0, 0⟩, 1)
theorem zOq (l : List Change) : (chL l).free := by simp [chL, AV.free, AV.freeL, Change.c]
theorem linkBounds_A (l : List Change) (i : Iv) (hmax : l.length ≤ 4611686018427387904) : FnA Tryz.prog 131 [chL l, .agg i.c] (.tup [.agg (linkBoundsM l i).1.c, .raw (.int .i64 (linkBoundsM l i).2)]) := by
 have hcap : AV.freeL [.elt [chL l] 0, .elt i.c 0] := ⟨⟨zOq l, trivial⟩, by simp [AV.free, AV.freeL, Iv.c], trivial⟩
 have hseq := zQ6 l i hmax
 have hfr := zOq l
 have e1 := zCk _ _ hcap _ hseq 1 (.inl rfl) _ _ zYg
 have e2 := zCk _ _ hcap _ hseq (-1) (.inr rfl) _ _ zYh
 have e3 := zCk _ _ hcap _ hseq 1 (.inl rfl) _ _ zWr
 have e4 := zCk _ _ hcap _ hseq (-1) (.inr rfl) _ _ zWs
 have hv := valid_A l hmax
 have hi := zT5 l i
 unfold zO4 at hi
 generalize hL : chL l = L at hfr hv hi e1 e2 e3 e4 hcap ⊢
 refine en Tryz.func131 Tryz.ntmps131 [.cell 4 125, .tmp 5] rfl ?_
 try (refine wkg (And.intro hv (zMz i)) ?_; try refine sM fun K hK => ?_)
 refine zA ⟨_, evl, ?_, ?_⟩
 ·intro hb
  try (refine wg ?_; try refine sM fun K hK => ?_)
  refine rq ?_ ?_
  ·rw [linkBoundsM, if_neg (by simp at hb; rcases hb with h | h <;> simp [h])]; rfl
  ·simp [AV.free, AV.freeL]
 ·intro hb
  have hf : validM l = true ∧ qA i = true := by simpa using hb
  try (refine wkg (And.intro hi (And.intro e1 (And.intro e2 (And.intro e3 e4)))) ?_; try refine sM fun K hK => ?_)
  refine rq ?_ ?_
  ·rw [linkBoundsM, if_pos hf]; rfl
  ·simp [AV.free, AV.freeL]
end Lk
end Go.Proofs.YtchpbdecipcelaaGreatDoor
