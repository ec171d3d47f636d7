import Derived.Test.YtchpbdecipcelaaGreatDoorMR01
import Derived.Test.YtchpbdecipcelaaGreatDoorMR14
namespace Go.Proofs.YtchpbdecipcelaaGreatDoor
set_option linter.unusedVariables false
set_option linter.unusedSimpArgs false
set_option maxHeartbeats 4000000
set_option maxRecDepth 100000
open Go.RowKit
structure Change where
 at_ : Int
 outLo : Int
 outHi : Int
 backLo : Int
 backHi : Int
 deriving Inhabited, DecidableEq
@[go_sem] def Change.av (x : Change) : List AV := [.raw (.int .i64 x.at_), .raw (.int .i64 x.outLo), .raw (.int .i64 x.outHi), .raw (.int .i64 x.backLo), .raw (.int .i64 x.backHi)]
@[simp] theorem Change.free (x : Change) : AV.freeL x.av := ⟨trivial, trivial, trivial, trivial, trivial, trivial⟩
namespace Lk
def gD {α : Type} [Inhabited α] (l : List α) (i : Nat) : α := l.getD i default
theorem yDo {α : Type} [Inhabited α] {l : List α} {i : Nat} (h : i < l.length) : gD l i = l[i] := by simp [gD, h]
end Lk
@[go_sem] def Change.c (c : Change) : List AV := [.raw (.int .i64 c.at_), .raw (.int .i64 c.outLo), .raw (.int .i64 c.outHi), .raw (.int .i64 c.backLo), .raw (.int .i64 c.backHi)]
namespace Lk
def chL (l : List Change) : AV := .lst 5 l.length fun i => (gD l i).c
end Lk
@[go_sem] def Iv.c (c : Iv) : List AV := [.raw (.int .i64 c.lo), .raw (.int .i64 c.hi)]
namespace Lk
def zBo (lo hi : Int) : Bool := decide (0 ≤ lo) && decide (lo ≤ hi) && decide (hi ≤ 1000000)
theorem zPu (lo hi : Int) : FnA Tryz.prog 245 [.raw (.int .i64 lo), .raw (.int .i64 hi)] (.raw (.bool (zBo lo hi))) := by
 refine en Tryz.func245 Tryz.ntmps245 [.tmp 4] rfl ?_
 try (refine wg ?_; try refine sM fun K hK => ?_)
 refine rq ?_ ?_
 ·simp [zBo]
 ·simp [AV.free]
def formedM (c : Change) : Bool := zBo c.outLo c.outHi && zBo c.backLo c.backHi
theorem formed_A (c : Change) : FnA Tryz.prog 226 [.agg c.c] (.raw (.bool (formedM c))) := by
 refine en Tryz.func226 Tryz.ntmps226 [.tmp 2] rfl ?_
 try (first | refine wkM hK zPu ?_ | refine wkg zPu ?_)
 try clear hK K
 try refine sM fun K hK => ?_
 refine rq ?_ ?_
 ·simp [formedM]
 ·simp [AV.free]
def vOk (l : List Change) (i : Nat) : Prop := formedM (gD l i) = true ∧ (0 < i → (gD l (i - 1)).at_ < (gD l i).at_)
instance (l : List Change) (i : Nat) : Decidable (vOk l i) := by unfold vOk; infer_instance
def ValidP (l : List Change) : Prop := 1 ≤ l.length ∧ l.length ≤ 20 ∧ (gD l 0).at_ = 0 ∧ (gD l (l.length - 1)).at_ ≤ 3000000000000000 ∧ ∀ i, i < l.length → vOk l i
instance (l : List Change) : Decidable (ValidP l) := by unfold ValidP; infer_instance
def validM (l : List Change) : Bool := decide (ValidP l)
theorem valid_A (l : List Change) (hmax : l.length ≤ 4611686018427387904) : FnA Tryz.prog 191 [chL l] (.raw (.bool (validM l))) := by
 unfold chL
 refine en Tryz.func191 Tryz.ntmps191 [.tmp 2] rfl ?_
 try (first | refine wkM hK formed_A ?_ | refine wkg formed_A ?_)
 try clear hK K
 try refine sM fun K hK => ?_
 refine zA ⟨_, evl, ?_, ?_⟩
 ·intro hb
  try (refine wg ?_; try refine sM fun K hK => ?_)
  refine rq ?_ ?_
  ·simp only [AV.raw.injEq, Value.bool.injEq]
   rw [eq_comm, validM, yMz]
   rintro ⟨h1, h2, h3, h4, h5⟩
   have e : ((l.length : Int) - 1).toNat = l.length - 1 := by omega
   rw [e] at hb
   simp at hb
   omega
  ·simp [AV.free]
 ·intro hb
  simp only [yN1, yMz, yMx, yLr] at hb
  obtain ⟨⟨⟨hb1, hb2⟩, hb3⟩, hb4⟩ := hb
  try (first | refine wkM hK formed_A ?_ | refine wkg formed_A ?_)
  try clear hK K
  try refine sM fun K hK => ?_
  refine zF (fun k : Nat => ⟨56, 0, [(0, true, .lst 5 l.length fun i => (gD l i).c), (30, true, .lst 5 l.length fun i => (gD l i).c), (31, true, .raw (.int .i64 l.length)), (32, true, .raw (.int .i64 k))], [], [], ((0, []), [], true)⟩)
   (fun k => k ≤ l.length ∧ ∀ i, i < k → vOk l i) (fun k => l.length - k) 0 ?_ ⟨by omega, fun i h => by omega⟩ ?_
  ·refine xE.sl ?_
   (try simp only [vZ, zO, ↓reduceIte, Nat.reduceEqDiff, yMs, yKz, yKj, yKy, AV.raw.injEq, Value.int.injEq, Value.bool.injEq])
   all_goals ((repeat' apply And.intro) <;> first | rfl | omega | (simp; done))
  ·rintro k ⟨hk, hall⟩
   try (first | refine wkM hK formed_A ?_ | refine wkg formed_A ?_)
   try clear hK K
   try refine sM fun K hK => ?_
   refine zA ⟨_, evl, ?_, ?_⟩
   ·intro hlt
    simp only [yLr] at hlt
    try (first | refine wkM hK formed_A ?_ | refine wkg formed_A ?_)
    try clear hK K
    try refine sM fun K hK => ?_
    refine zA ⟨_, evl, ?_, ?_⟩
    ·intro hbad
     try (refine wg ?_; try refine sM fun K hK => ?_)
     refine rq ?_ ?_
     ·simp only [AV.raw.injEq, Value.bool.injEq]
      rw [eq_comm, validM, yMz]
      rintro ⟨_, _, _, _, h5⟩
      obtain ⟨h6, h7⟩ := h5 k (by omega)
      have e : ((k : Int) - 1).toNat = k - 1 := by omega
      rw [h6, e] at hbad
      simp at hbad
      have := h7 (by omega)
      omega
     ·simp [AV.free]
    ·intro hgood
     try (refine wg ?_; try refine sM fun K hK => ?_)
     refine ⟨k + 1, ⟨by omega, fun i hi => ?_⟩, by omega, ?_⟩
     ·by_cases hik : i < k
      ·exact hall i hik
      ·obtain rfl : i = k := by omega
       have e : ((i : Int) - 1).toNat = i - 1 := by omega
       rw [e] at hgood
       simp at hgood
       exact ⟨hgood.1, fun h => by have := hgood.2 h; omega⟩
     ·refine xE.mk rfl ?_ ?_
      rotate_left
      ·simp [zLr, j6, AV.bel, AV.belL, go_sem]
      (try simp only [vZ, zO, ↓reduceIte, Nat.reduceEqDiff, yMs, yKz, yKj, yKy, AV.raw.injEq, Value.int.injEq, Value.bool.injEq])
      all_goals ((repeat' apply And.intro) <;> first | rfl | omega | (simp; done))
   ·intro hge
    simp only [yMz] at hge
    try (first | refine wkM hK formed_A ?_ | refine wkg formed_A ?_)
    try clear hK K
    try refine sM fun K hK => ?_
    refine rq ?_ ?_
    ·simp only [AV.raw.injEq, Value.bool.injEq]
     rw [eq_comm, validM, yLr]
     have e : ((l.length : Int) - 1).toNat = l.length - 1 := by omega
     rw [e] at hb4
     exact ⟨by omega, by omega, hb3, by omega, fun i hi => hall i (by omega)⟩
    ·simp [AV.free]
def qJ (i : Iv) : Bool := decide (0 ≤ i.lo) && decide (i.lo ≤ i.hi) && decide (i.hi ≤ 3000000000000000)
theorem zO4 (i : Iv) : FnA Tryz.prog 177 [.agg i.c] (.raw (.bool (qJ i))) := by
 refine en Tryz.func177 Tryz.ntmps177 [.tmp 2] rfl ?_
 try (refine wg ?_; try refine sM fun K hK => ?_)
 refine rq ?_ ?_
 ·simp [qJ]
 ·simp [AV.free]
def zGh (s : Iv) (lo hi : Int) : Iv × Int := if hi < lo ∨ s.hi < lo then (⟨0, 0⟩, 22) else (⟨max 0 (s.lo - hi), s.hi - lo⟩, 0)
theorem zAt (s : Iv) (lo hi : Int) (h1 : inK .i64 (s.lo - hi)) (h2 : inK .i64 (s.hi - lo)) : FnA Tryz.prog 227 [.agg s.c, .raw (.int .i64 lo), .raw (.int .i64 hi)] (.tup [.agg (zGh s lo hi).1.c, .raw (.int .i64 (zGh s lo hi).2)]) := by
 refine en Tryz.func227 Tryz.ntmps227 [.cell 6 90, .tmp 7] rfl ?_
 try (refine wg ?_; try refine sM fun K hK => ?_)
 refine zA ⟨_, evl, ?_, ?_⟩
 ·intro hb
  simp at hb
  try (refine wg ?_; try refine sM fun K hK => ?_)
  refine rq ?_ ?_
  ·simp [zGh, hb, Iv.c]
  ·simp [AV.free, AV.freeL]
 ·intro hb
  simp at hb
  try (refine wg ?_; try refine sM fun K hK => ?_)
  refine rq ?_ ?_
  ·rw [zGh, if_neg (by omega)]; rfl
  ·simp [AV.free, AV.freeL]
def sentM (c : Change) (s : Iv) : Iv × Int := if formedM c = true ∧ qJ s = true then zGh s c.outLo c.outHi else (⟨0, 0⟩, 1)
theorem formed_iff (c : Change) : formedM c = true ↔ 0 ≤ c.outLo ∧ c.outLo ≤ c.outHi ∧ c.outHi ≤ 1000000 ∧ 0 ≤ c.backLo ∧ c.backLo ≤ c.backHi ∧ c.backHi ≤ 1000000 := by simp [formedM, zBo, and_assoc]
theorem kL (i : Iv) : qJ i = true ↔ 0 ≤ i.lo ∧ i.lo ≤ i.hi ∧ i.hi ≤ 3000000000000000 := by simp [qJ, and_assoc]
theorem sent_A (c : Change) (s : Iv) : FnA Tryz.prog 182 [.agg c.c, .agg s.c] (.tup [.agg (sentM c s).1.c, .raw (.int .i64 (sentM c s).2)]) := by
 refine en Tryz.func182 Tryz.ntmps182 [.cell 4 90, .tmp 5] rfl ?_
 try (refine wkg (And.intro (formed_A c) (zO4 s)) ?_; try refine sM fun K hK => ?_)
 refine zA ⟨_, evl, ?_, ?_⟩
 ·intro hb
  try (refine wg ?_; try refine sM fun K hK => ?_)
  refine rq ?_ ?_
  ·rw [sentM, if_neg (by simp at hb; rcases hb with h | h <;> simp [h])]; rfl
  ·simp [AV.free, AV.freeL]
 ·intro hb
  have hf : formedM c = true ∧ qJ s = true := by simpa using hb
  have h1 := (formed_iff c).1 hf.1
  have h2 := (kL s).1 hf.2
  repeat
   first
    | (refine zG (hK _ ?_); clear hK K)
    | refine stG ?_
    | (refine yJ 1 rfl ?_; refine zR rfl rfl ⟨_, evl, _, _, _, evl, yR, ?_⟩; apply Exists.intro; refine ⟨fun hg => ?_, ?_⟩; · first | exact FnA.at_ (zAt s c.outLo c.outHi (by simp only [inK]; omega) (by simp only [inK]; omega)) rfl rfl | exact FnA.at_s (zAt s c.outLo c.outHi (by simp only [inK]; omega) (by simp only [inK]; omega)) rfl yV | exact FnA.at_s (zAt s c.outLo c.outHi (by simp only [inK]; omega) (by simp only [inK]; omega)) rfl yW)
    | (refine zW 1 rfl ?_; refine zS rfl ⟨_, evl, _, _, _, (fun _ _ => vH), yR, ?_⟩; apply Exists.intro; refine ⟨fun hg => ?_, ?_⟩; · first | exact FnA.at_ (zAt s c.outLo c.outHi (by simp only [inK]; omega) (by simp only [inK]; omega)) rfl rfl | exact FnA.at_s (zAt s c.outLo c.outHi (by simp only [inK]; omega) (by simp only [inK]; omega)) rfl yV | exact FnA.at_s (zAt s c.outLo c.outHi (by simp only [inK]; omega) (by simp only [inK]; omega)) rfl yW)
    | (refine zW 1 rfl ?_; refine zJ ?_)
    | (refine yB ?_; first | (refine zP (hK _ ?_); clear hK K) | (refine zX rfl ⟨_, evl, fun nb' => ?_⟩))
    | refine zE (fun K hK => ?_)
    | (refine yZ ?_; first | (refine zD false rfl (by kernel_rfl) (by kernel_rfl) (fun K hK => ?_)) | (refine zD true rfl (by kernel_rfl) (by kernel_rfl) (fun K hK => ?_)))
  refine rq ?_ ?_
  ·rw [sentM, if_pos hf]; rfl
  ·simp [AV.free, AV.freeL]
def zP4 (l : List Change) (i : Iv) : AV := .fn (.func 231) [] [.elt [chL l] 0, .elt i.c 0]
theorem zUp (l : List Change) (i : Iv) : FnA Tryz.prog 192 [chL l, .agg i.c] (zP4 l i) := by
 unfold chL
 refine en Tryz.func192 Tryz.ntmps192 [.tmp 4] rfl ?_
 try (refine wg ?_; try refine sM fun K hK => ?_)
 refine zM (by simp) ⟨_, _, _, evl, ob0, ?_⟩
 refine zV.fn rfl ⟨_, _, rfl, zV.box rfl ⟨_, _, rfl, zV.free ?_, rfl⟩, _, _, rfl, zV.box rfl ⟨_, _, rfl, zV.free ?_, _, _, rfl, zV.free ?_, rfl⟩, rfl⟩
 ·simp [AV.free, AV.freeL, Change.c]
 ·simp [AV.free]
 ·simp [AV.free]
theorem yAh (c : Change) : FnA Tryz.prog 194 [.agg c.c] (.raw (.int .i64 c.outLo)) := by
 refine en Tryz.func194 Tryz.ntmps194 [.tmp 2] rfl ?_
 try (refine wg ?_; try refine sM fun K hK => ?_)
 refine rq ?_ ?_
 ·rfl
 ·simp [AV.free]
theorem yAi (c : Change) : FnA Tryz.prog 195 [.agg c.c] (.raw (.int .i64 c.outHi)) := by
 refine en Tryz.func195 Tryz.ntmps195 [.tmp 2] rfl ?_
 try (refine wg ?_; try refine sM fun K hK => ?_)
 refine rq ?_ ?_
 ·rfl
 ·simp [AV.free]
theorem zYn (c : Change) : FnA Tryz.prog 196 [.agg c.c] (.raw (.int .i64 c.backLo)) := by
 refine en Tryz.func196 Tryz.ntmps196 [.tmp 2] rfl ?_
 try (refine wg ?_; try refine sM fun K hK => ?_)
 refine rq ?_ ?_
 ·rfl
 ·simp [AV.free]
theorem zYo (c : Change) : FnA Tryz.prog 197 [.agg c.c] (.raw (.int .i64 c.backHi)) := by
 refine en Tryz.func197 Tryz.ntmps197 [.tmp 2] rfl ?_
 try (refine wg ?_; try refine sM fun K hK => ?_)
 refine rq ?_ ?_
 ·rfl
 ·simp [AV.free]
theorem isNaN_A (x : Int) : FnA Tryz.prog 159 [.raw (.int .i64 x)] (.raw (.bool false)) := by
 refine en Tryz.func159 Tryz.ntmps159 [.tmp 2] rfl ?_
 try (refine wg ?_; try refine sM fun K hK => ?_)
 refine rq ?_ ?_
 ·simp
 ·simp [AV.free]
def zWl (x y : Int) : Int := if x < y then -1 else if y < x then 1 else 0
theorem compare_A (x y : Int) : FnA Tryz.prog 102 [.raw (.int .i64 x), .raw (.int .i64 y)] (.raw (.int .i64 (zWl x y))) := by
 refine en Tryz.func102 Tryz.ntmps102 [.tmp 4] rfl ?_
 try (first | refine wkM hK isNaN_A ?_ | refine wkg isNaN_A ?_)
 try clear hK K
 try refine sM fun K hK => ?_
 refine zA ⟨_, evl, ?_, ?_⟩
 ·intro h; cases h
 intro _
 try (refine wg ?_; try refine sM fun K hK => ?_)
 refine zA ⟨_, evl, ?_, ?_⟩
 ·intro h; cases h
 intro _
 try (refine wg ?_; try refine sM fun K hK => ?_)
 refine zA ⟨_, evl, ?_, ?_⟩
 ·intro h
  simp at h
  try (refine wg ?_; try refine sM fun K hK => ?_)
  refine rq ?_ ?_
  ·simp [zWl, h]
  ·simp [AV.free]
 intro h
 simp at h
 try (refine wg ?_; try refine sM fun K hK => ?_)
 refine zA ⟨_, evl, ?_, ?_⟩
 ·intro h'
  simp at h'
  try (refine wg ?_; try refine sM fun K hK => ?_)
  refine rq ?_ ?_
  ·simp [zWl, h', yLh.2 h]
  ·simp [AV.free]
 intro h'
 simp at h'
 try (refine wg ?_; try refine sM fun K hK => ?_)
 refine rq ?_ ?_
 ·simp [zWl, yLh.2 h, yLh.2 h']
 ·simp [AV.free]
def inF (l : List Change) (i : Iv) (k : Nat) : Bool := (!(decide ((k : Int) + 1 < l.length) && decide ((gD l ((k : Int) + 1).toNat).at_ ≤ i.lo))) && decide ((gD l k).at_ ≤ i.hi)
def q9 (l : List Change) (i : Iv) (n : Nat) : List Change := ((List.range n).filter (inF l i)).map (gD l)
def zDx (l : List Change) (i : Iv) (n : Nat) : List (List AV) := (q9 l i n).map fun c => [.agg c.c]
theorem qO (l : List Change) (i : Iv) (k : Nat) : zDx l i (k + 1) = zDx l i k ++ if inF l i k then [[.agg (gD l k).c]] else [] := by
 simp only [zDx, q9, yNf, yNx, yNk, List.filter_cons, List.filter_nil]
 split <;> simp
theorem zKq (l : List Change) (i : Iv) {k n : Nat} (h : k ≤ n) : zDx l i k <+: zDx l i n := by
 induction n with
 | zero =>
  obtain rfl : k = 0 := by omega
  exact yNy _
 | succ n ih =>
  by_cases hk : k = n + 1
  ·subst hk; exact yNy _
  ·exact (ih (by omega)).trans (by rw [qO]; exact List.prefix_append _ _)
theorem zRc (l : List Change) (i : Iv) (hmax : l.length ≤ 4611686018427387904) : yC3 Tryz.prog 231 [.elt [chL l] 0, .elt i.c 0] (zDx l i l.length) := by
 unfold chL
 refine zMd Tryz.func231 rfl (by kernel_rfl) 46 Tryz.ntmps231 yJr rfl (fun y => ?_)
 simp only [zBq, yLe, Nat.reduceAdd, yL3, yLc]
 try (refine wg ?_; try refine sM fun K hK => ?_)
 refine zF (fun k : Nat => ⟨46, 0, [(9, true, .raw (.int .i64 k)), (8, true, .raw (.int .i64 l.length)), (7, true, .lst 5 l.length fun i => (gD l i).c), (0, true, .raw (.func (.yield y) #[] #[])), (1, true, .elt [.lst 5 l.length fun i => (gD l i).c] 0), (2, true, .elt i.c 0)], [], [], ((y, zDx l i l.length), zDx l i k, false)⟩)
  (fun k => k ≤ l.length) (fun k => l.length - k) 0 ?_ (by omega) ?_
 ·refine xE.sl ?_
  (try simp only [vZ, zO, ↓reduceIte, Nat.reduceEqDiff, yMs, yKz, yKj, yKy, AV.raw.injEq, Value.int.injEq, Value.bool.injEq])
  all_goals ((repeat' apply And.intro) <;> first | rfl | omega | (simp; done))
 ·intro k hk
  try (refine wg ?_; try refine sM fun K hK => ?_)
  refine zA ⟨_, evl, ?_, ?_⟩
  ·intro hlt
   simp only [yLr] at hlt
   try (first | refine wkM hK trivial ?_ | refine wkg trivial ?_)
   try clear hK K
   try refine sM fun K hK => ?_
   refine kR rfl rfl ⟨_, evl, _, _, evl, ?_, ?_, ?_⟩
   ·intro hg
    refine ⟨fun c hc => ?_, by simp [AV.free, AV.freeL], ?_⟩
    ·simp only [yLf, yMo, yMv] at hc
     rcases hc with rfl | rfl <;> first | rfl | exact hg
    have := zKq l i (k := k + 1) (n := l.length) (by omega)
    rw [qO, if_pos (show inF l i k = true from hg)] at this
    exact this
   ·intro hg
    simp only [hg]
    try (first | refine wkM hK trivial ?_ | refine wkg trivial ?_)
    try clear hK K
    try refine sM fun K hK => ?_
    refine zA ⟨_, evl, ?_, ?_⟩
    ·intro h; simp at h
    intro _
    try (first | refine wkM hK trivial ?_ | refine wkg trivial ?_)
    try clear hK K
    try refine sM fun K hK => ?_
    refine ⟨k + 1, by omega, by omega, ?_⟩
    rw [qO, if_neg (by rw [show inF l i k = false from hg]; simp), yMj]
    refine xE.mk rfl ?_ ?_
    rotate_left
    ·simp [zLr, j6, AV.bel, AV.belL, go_sem]
    (try simp only [vZ, zO, ↓reduceIte, Nat.reduceEqDiff, yMs, yKz, yKj, yKy, AV.raw.injEq, Value.int.injEq, Value.bool.injEq])
    all_goals ((repeat' apply And.intro) <;> first | rfl | omega | (simp; done))
   ·intro hg b
    simp only [hg]
    try (first | refine wkM hK trivial ?_ | refine wkg trivial ?_)
    try clear hK K
    try refine sM fun K hK => ?_
    refine zA ⟨_, evl, ?_, ?_⟩
    ·intro h
     simp at h
     subst h
     try (first | refine wkM hK trivial ?_ | refine wkg trivial ?_)
     try clear hK K
     try refine sM fun K hK => ?_
     refine ⟨.inr rfl, ?_, fun h => by simp at h⟩
     have := zKq l i (k := k + 1) (n := l.length) (by omega)
     rw [qO, if_pos (show inF l i k = true from hg)] at this
     exact this
    intro h
    simp at h
    subst h
    try (refine wg ?_; try refine sM fun K hK => ?_)
    refine ⟨k + 1, by omega, by omega, ?_⟩
    rw [qO, if_pos (show inF l i k = true from hg)]
    refine xE.mk rfl ?_ ?_
    rotate_left
    ·simp [zLr, j6, AV.bel, AV.belL, go_sem]
    (try simp only [vZ, zO, ↓reduceIte, Nat.reduceEqDiff, yMs, yKz, yKj, yKy, AV.raw.injEq, Value.int.injEq, Value.bool.injEq])
    all_goals ((repeat' apply And.intro) <;> first | rfl | omega | (simp; done))
  ·intro hge
   simp only [yMz] at hge
   have : k = l.length := by omega
   subst this
   try (refine wg ?_; try refine sM fun K hK => ?_)
   exact ⟨.inl rfl, yNy _, fun _ => rfl⟩
def wM (sign : Int) (p : Change → Int) (s : Int × Bool) (c : Change) : Int × Bool := if (s.2 || decide (zWl (p c) s.1 * sign < 0)) = true then (p c, false) else s
def zG4 (sign : Int) (p : Change → Int) (cs : List Change) : Int × Bool := cs.foldl (wM sign p) (0, true)
theorem zCm (sign : Int) (p : Change → Int) (cs : List Change) (c : Change) : zG4 sign p (cs ++ [c]) = wM sign p (zG4 sign p cs) c := by simp [zG4]
theorem yBl (x y : Int) : -1 ≤ zWl x y ∧ zWl x y ≤ 1 := by
 unfold zWl
 split
 ·omega
 ·split <;> omega
def zB3 (cs : List Change) : List (List AV) := cs.map fun c => [.agg c.c]
theorem zIr {h : List (List AV)} {item : List AV} {pre cs : List Change} (hp : pre <+: cs) (e : h = zB3 pre) (hi : (h ++ [item]) <+: zB3 cs) : ∃ c, item = [.agg c.c] ∧ (pre ++ [c]) <+: cs := by
 subst e
 obtain ⟨r, rfl⟩ := hp
 simp only [zB3, yNk] at hi
 cases r with
 | nil => exfalso; have := hi.length_le; simp at this; omega
 | cons c r =>
  rw [yNz] at hi
  simp only [yLt, List.cons_prefix_cons, List.nil_prefix, yMs] at hi
  exact ⟨c, hi, by simp⟩
theorem roundEnd_n {nt nb m : Nat} {sl : List (Nat × (Bool × AV))} {bx bx' ex : List (List AV)} {ys : (Nat × List (List AV)) × List (List AV) × Bool} {Inv : yC4} {h : List (List AV)} (hb : bx = bx' ++ ex) (h2 : nb % 64 ≤ bx'.length ∧ j6 bx'.length bx') (hlen : bx'.length = m) (hi : Inv h none bx' [] ys) :
  zEk m Inv h .normal ⟨nt, nb, sl, bx, [], ys⟩ := ⟨nt, nb, [], bx', [], ys, xE.mk hb trivial ⟨h2.1, trivial, h2.2⟩, hlen, hi⟩
theorem zCl (f : FuncId) (cap : List AV) (hcap : AV.freeL cap) (cs : List Change) (hseq : yC3 Tryz.prog f cap (zB3 cs)) (sign : Int) (hs : sign = 1 ∨ sign = -1) (g : FuncId) (p : Change → Int) (hp : ∀ c : Change, FnA Tryz.prog g [.agg c.c] (.raw (.int .i64 (p c)))) :
  FnA Tryz.prog 193 [.fn (.func f) [] cap, .raw (.int .i64 sign), .raw (.func (.func g) #[] #[])] (.raw (.int .i64 (zG4 sign p cs).1)) := by
 refine en Tryz.func193 Tryz.ntmps193 [.tmp 6] rfl ?_
 try (first | refine wkM hK hp ?_ | refine wkg hp ?_)
 try clear hK K
 try refine sM fun K hK => ?_
 refine v8 (fun h j bx rw ys => j = none ∧ rw = [] ∧ ys = ((0, []), [], true) ∧ ∃ pre, pre <+: cs ∧ h = zB3 pre ∧ bx = [[.raw (.int .i64 sign)], [.raw (.func (.func g) #[] #[])], [.raw (.int .i64 (zG4 sign p pre).1)], [.raw (.bool (zG4 sign p pre).2)]]) rfl rfl hcap hseq ⟨by simp, by simp⟩ (by simp) ⟨rfl, rfl, rfl, [], by simp, rfl, rfl⟩ ?_ ?_ ?_
 ·rintro h item bx rw ys ⟨_, rfl, rfl, pre, hpre, rfl, rfl⟩ hpr _
  obtain ⟨c, rfl, hc⟩ := zIr hpre rfl hpr
  refine ⟨rfl, ?_⟩
  have hcm := yBl (p c) (zG4 sign p pre).1
  simp only [zBv, yL3, yLc]
  try (refine wkg (hp c) ?_; try refine sM fun K hK => ?_)
  refine ⟨rfl, ?_⟩
  rcases hs with rfl | rfl
  ·try (first | refine wkM hK (And.intro (hp c) compare_A) ?_ | refine wkg (And.intro (hp c) compare_A) ?_)
   try clear hK K
   try refine sM fun K hK => ?_
   refine zA ⟨_, evl, ?_, ?_⟩
   ·intro hb
    try (refine wg ?_; try refine sM fun K hK => ?_)
    refine roundEnd_n (bx' := [[AV.raw (Value.int .i64 1)], [AV.raw (.func (.func g) #[] #[])], [AV.raw (.int .i64 (p c))], [AV.raw (.bool false)]]) rfl (by simp [j6, AV.bel, AV.belL]) rfl ⟨rfl, rfl, rfl, pre ++ [c], hc, by simp [zB3], ?_⟩
    rw [zCm, wM, if_pos hb]
   ·intro hb
    try (refine wg ?_; try refine sM fun K hK => ?_)
    refine roundEnd_n (bx' := [[AV.raw (Value.int .i64 1)], [.raw (.func (.func g) #[] #[])], [.raw (.int .i64 (zG4 (1) p pre).1)], [.raw (.bool (zG4 (1) p pre).2)]]) rfl (by simp [j6, AV.bel, AV.belL]) rfl ⟨rfl, rfl, rfl, pre ++ [c], hc, by simp [zB3], ?_⟩
    rw [zCm, wM, if_neg (by rw [hb]; simp)]
  ·try (first | refine wkM hK (And.intro (hp c) compare_A) ?_ | refine wkg (And.intro (hp c) compare_A) ?_)
   try clear hK K
   try refine sM fun K hK => ?_
   refine zA ⟨_, evl, ?_, ?_⟩
   ·intro hb
    try (refine wg ?_; try refine sM fun K hK => ?_)
    refine roundEnd_n (bx' := [[AV.raw (Value.int .i64 (-1))], [AV.raw (.func (.func g) #[] #[])], [AV.raw (.int .i64 (p c))], [AV.raw (.bool false)]]) rfl (by simp [j6, AV.bel, AV.belL]) rfl ⟨rfl, rfl, rfl, pre ++ [c], hc, by simp [zB3], ?_⟩
    rw [zCm, wM, if_pos hb]
   ·intro hb
    try (refine wg ?_; try refine sM fun K hK => ?_)
    refine roundEnd_n (bx' := [[AV.raw (Value.int .i64 (-1))], [.raw (.func (.func g) #[] #[])], [.raw (.int .i64 (zG4 (-1) p pre).1)], [.raw (.bool (zG4 (-1) p pre).2)]]) rfl (by simp [j6, AV.bel, AV.belL]) rfl ⟨rfl, rfl, rfl, pre ++ [c], hc, by simp [zB3], ?_⟩
    rw [zCm, wM, if_neg (by rw [hb]; simp)]
 ·rintro bx rw ys ⟨_, rfl, rfl, pre, hpre, he, rfl⟩
  have : pre = cs := by
   have := congrArg List.length he
   simp [zB3] at this
   exact hpre.eq_of_length this.symm
  subst this
  try (refine wg ?_; try refine sM fun K hK => ?_)
  refine rq ?_ ?_
  ·rfl
  ·simp [AV.free]
 ·rintro h j bx rw ys _ ⟨hj, _⟩
  cases hj
def linkBoundsM (l : List Change) (i : Iv) : Change × Int := if validM l = true ∧ qJ i = true then
  (⟨i.lo, (zG4 1 Change.outLo (q9 l i l.length)).1, (zG4 (-1) Change.outHi (q9 l i l.length)).1, (zG4 1 Change.backLo (q9 l i l.length)).1, (zG4 (-1) Change.backHi (q9 l i l.length)).1⟩, 0) else (⟨0, 0, 0, 0, 0⟩, 1)
theorem zPr (l : List Change) : (chL l).free := by simp [chL, AV.free, AV.freeL, Change.c]
theorem linkBounds_A (l : List Change) (i : Iv) (hmax : l.length ≤ 4611686018427387904) : FnA Tryz.prog 131 [chL l, .agg i.c] (.tup [.agg (linkBoundsM l i).1.c, .raw (.int .i64 (linkBoundsM l i).2)]) := by
 have hcap : AV.freeL [.elt [chL l] 0, .elt i.c 0] := ⟨⟨zPr l, trivial⟩, by simp [AV.free, AV.freeL, Iv.c], trivial⟩
 have hseq := zRc l i hmax
 have hfr := zPr l
 have e1 := zCl _ _ hcap _ hseq 1 (.inl rfl) _ _ yAh
 have e2 := zCl _ _ hcap _ hseq (-1) (.inr rfl) _ _ yAi
 have e3 := zCl _ _ hcap _ hseq 1 (.inl rfl) _ _ zYn
 have e4 := zCl _ _ hcap _ hseq (-1) (.inr rfl) _ _ zYo
 have hv := valid_A l hmax
 have hi := zUp l i
 unfold zP4 at hi
 generalize hL : chL l = L at hfr hv hi e1 e2 e3 e4 hcap ⊢
 refine en Tryz.func131 Tryz.ntmps131 [.cell 4 125, .tmp 5] rfl ?_
 try (refine wkg (And.intro hv (zO4 i)) ?_; try refine sM fun K hK => ?_)
 refine zA ⟨_, evl, ?_, ?_⟩
 ·intro hb
  try (refine wg ?_; try refine sM fun K hK => ?_)
  refine rq ?_ ?_
  ·rw [linkBoundsM, if_neg (by simp at hb; rcases hb with h | h <;> simp [h])]; rfl
  ·simp [AV.free, AV.freeL]
 ·intro hb
  have hf : validM l = true ∧ qJ i = true := by simpa using hb
  try (refine wkg (And.intro hi (And.intro e1 (And.intro e2 (And.intro e3 e4)))) ?_; try refine sM fun K hK => ?_)
  refine rq ?_ ?_
  ·rw [linkBoundsM, if_pos hf]; rfl
  ·simp [AV.free, AV.freeL]
end Lk
end Go.Proofs.YtchpbdecipcelaaGreatDoor
