import Derived.Test.YtchpbdecipcelaaGreatDoorHO01
import Derived.Test.YtchpbdecipcelaaGreatDoorHO06
import Derived.Test.YtchpbdecipcelaaGreatDoorHO14
namespace Go.Proofs.YtchpbdecipcelaaGreatDoor
set_option linter.unusedVariables false
set_option linter.unusedSimpArgs false
set_option maxHeartbeats 4000000
set_option maxRecDepth 100000
open Go.RowKit
structure zH where
 auth : Int
 id : Int
 pub : Int
 from_ : Int
 until_ : Int
 sig : Sig
 deriving Inhabited, DecidableEq
@[go_sem] def zH.av (x : zH) : List AV := [.raw (.int .i64 x.auth), .raw (.int .i64 x.id), .raw (.int .i64 x.pub), .raw (.int .i64 x.from_), .raw (.int .i64 x.until_), .raw (.int .i64 x.sig.c), .raw (.int .i64 x.sig.s)]
def zH.fits (x : zH) : Prop := (inK .i64 x.auth) ∧ (inK .i64 x.id) ∧ (inK .i64 x.pub) ∧ (inK .i64 x.from_) ∧ (inK .i64 x.until_) ∧ (x.sig.fits)
@[simp] theorem zH.free (x : zH) : AV.freeL x.av := ⟨trivial, trivial, trivial, trivial, trivial, trivial, trivial, trivial⟩
theorem zKv (n lo hi : Int) : FnA Tryz.prog 173 [.raw (.int .i64 n), .raw (.int .i64 lo), .raw (.int .i64 hi)] (.raw (.bool (decide (lo ≤ n) && decide (n ≤ hi)))) := by
 refine en Tryz.func173 Tryz.ntmps173 [.tmp 6] rfl ?_
 repeat' first
  | refine wkg trivial ?_
  | (refine cS (fun hb => ?_) fun hb => ?_ <;> try (cases hb; done))
  | refine sM fun K hK => ?_
  | fail
 all_goals exact fA
def xI (k : zH) : Prop := 1 ≤ k.auth ∧ k.auth ≤ 16 ∧ 1 ≤ k.id ∧ k.id ≤ 1000 ∧ 0 ≤ k.from_ ∧ k.from_ < k.until_ ∧ k.until_ ≤ 3000000000000000 ∧ k.pub ≠ 1 ∧ xQ k.pub = true ∧ zU k.sig.c 0 = true ∧ zU k.sig.s 0 = true
instance (k : zH) : Decidable (xI k) := by unfold xI; infer_instance
theorem formed_A (k : zH) : FnA Tryz.prog 118 [.agg k.av] (.raw (.bool (decide (xI k)))) := by
 refine en Tryz.func118 Tryz.ntmps118 [.tmp 2] rfl ?_
 repeat' first
  | (refine wkM hK (And.intro zKv zEf) ?_)
  | refine wkg (And.intro zKv zEf) ?_
  | (refine cS (fun hb => ?_) fun hb => ?_ <;> try (cases hb; done))
  | refine sM fun K hK => ?_
  | fail
 all_goals (try (refine zR (by simp) ⟨_, _, _, evl, ob0, zV.sims ?_ fre⟩))
 all_goals first | exact z6.refl _ | (refine z6.of_eq ?_; first | rfl | (simp [xI]; done) | (simp_all [xI]; done) | (simp_all [xI]; omega) | (simp [xI, zU]; grind) | (simp [xI]; grind) | (split <;> simp_all)) | exact yU | (refine z6.tup ?_; simp only [z8, yKn]; (repeat' apply And.intro) <;> first | exact yU | skip) | (exfalso; first | omega | (simp_all; done) | (simp_all; omega)) | skip
def zF6 (k : zH) : List Int := [k.auth, k.id, k.pub, k.from_, k.until_]
theorem zSz (l : List Int) : FnA Tryz.prog 243 [liA l] (liA l) := by
 refine en Tryz.func243 Tryz.ntmps243 [.tmp 2] rfl ?_
 repeat' first
  | refine wkg trivial ?_
  | (refine cS (fun hb => ?_) fun hb => ?_ <;> try (cases hb; done))
  | refine sM fun K hK => ?_
  | fail
 all_goals exact fA
theorem zSq (k : zH) : FnA Tryz.prog 222 [.agg k.av] (liA (zF6 k)) := by
 refine en Tryz.func222 Tryz.ntmps222 [.tmp 2] rfl ?_
 repeat' first
  | refine wkg (zSz (zF6 k)) ?_
  | (refine cS (fun hb => ?_) fun hb => ?_ <;> try (cases hb; done))
  | refine sM fun K hK => ?_
  | fail
 all_goals exact fA
theorem zE0 (l : List zH) (hl : l.length ≤ 4611686018427387904) (g : FuncId) (cap : List AV) (hcap : AV.freeL cap) (p : zH → Bool) (hp : ∀ x ∈ l, FnA Tryz.prog g (.agg x.av :: cap) (.raw (.bool (p x)))) :
  FnA Tryz.prog 220 [lA 7 zH.av l, .fn (.func g) [] cap] (.raw (.int .i64 (jU p l))) := by
 refine en Tryz.func220 Tryz.ntmps220 [.tmp 4] rfl ?_
 try (refine wg ?_; try refine sM fun K hK => ?_)
 refine zJ (fun k : Nat => ⟨19, 0, [(0, true, lA 7 zH.av l), (1, true, .fn (.func g) [] cap), (7, true, .raw (.int .i64 l.length)), (8, true, .raw (.int .i64 k))], [], [], ((0, []), [], true)⟩)
  (fun k => k ≤ l.length ∧ ∀ i, i < k → p (l.getD i default) = false) (fun k => l.length - k) 0 ?_ ⟨by omega, fun i h => by omega⟩ ?_
 ·exact wkZ
 ·rintro k ⟨hk, hall⟩
  try (refine wg ?_; try refine sM fun K hK => ?_)
  refine zA ⟨_, evl, ?_, ?_⟩
  ·intro hlt
   simp only [yJm] at hlt
   have hmem : l.getD k default ∈ l := by rw [yJk, yJh (show k < l.length by omega)]; exact yLb _
   have hpk := hp _ hmem
   have hfe : AV.freeL (zH.av (l.getD k default)) := by first | exact zH.free _ | (simp [AV.free, AV.freeL, iC, u8C, kC]; done)
   try (refine wkg hpk ?_; try refine sM fun K hK => ?_)
   refine zA ⟨_, evl, ?_, ?_⟩
   ·intro hb
    try (refine wg ?_; try refine sM fun K hK => ?_)
    refine rq ?_ ?_
    ·rw [vH (show k < l.length by omega) hall hb]
    ·simp [AV.free]
   ·intro hb
    try (refine wg ?_; try refine sM fun K hK => ?_)
    refine ⟨k + 1, ⟨by omega, fun i hi => ?_⟩, by omega, ?_⟩
    ·rcases yLu.1 hi with h | rfl
     ·exact hall i h
     ·exact hb
    ·exact wkZ
  ·intro hge
   simp only [yKu] at hge
   try (refine wg ?_; try refine sM fun K hK => ?_)
   refine rq ?_ ?_
   ·rw [xY (fun i hi => hall i (by omega))]
   ·simp [AV.free]
theorem zBh (l : List zH) (hl : l.length ≤ 4611686018427387904) (g : FuncId) (cap : List AV) (hcap : AV.freeL cap) (p : zH → Bool) (hp : ∀ x ∈ l, FnA Tryz.prog g (.agg x.av :: cap) (.raw (.bool (p x)))) :
  FnA Tryz.prog 171 [lA 7 zH.av l, .fn (.func g) [] cap] (.raw (.bool (l.any p))) := by
 have hi := zE0 l hl g cap hcap p hp
 have hany := jK p l
 have hfr : (lA 7 zH.av l).free := zE (fun y => zH.free y) _
 generalize lA 7 zH.av l = L at hi hfr
 generalize jU p l = i at hi hany
 refine en Tryz.func171 Tryz.ntmps171 [.tmp 4] rfl ?_
 repeat' first
  | refine wkg hi ?_
  | (refine cS (fun hb => ?_) fun hb => ?_ <;> try (cases hb; done))
  | refine sM fun K hK => ?_
  | fail
 all_goals (try (refine zR (by simp) ⟨_, _, _, evl, ob0, zV.sims ?_ fre⟩))
 all_goals first | exact z6.refl _ | exact yA9 | exact yU | (refine z6.tup ?_; simp only [z8, yKn]; (repeat' apply And.intro) <;> first | exact yU | skip) | (exfalso; first | omega | (simp_all; done) | (simp_all; omega)) | skip
 all_goals (rw [hany])
theorem isNaN_A (x : Int) : FnA Tryz.prog 159 [.raw (.int .i64 x)] (.raw (.bool false)) := by
 refine en Tryz.func159 Tryz.ntmps159 [.tmp 2] rfl ?_
 repeat' first
  | refine wkg trivial ?_
  | (refine cS (fun hb => ?_) fun hb => ?_ <;> try (cases hb; done))
  | refine sM fun K hK => ?_
  | fail
 all_goals exact fA
def zEi (x y : Int) : Int := if x < y then -1 else if y < x then 1 else 0
theorem zAh (x y : Int) : FnA Tryz.prog 102 [.raw (.int .i64 x), .raw (.int .i64 y)] (.raw (.int .i64 (zEi x y))) := by
 refine en Tryz.func102 Tryz.ntmps102 [.tmp 4] rfl ?_
 repeat' first
  | (refine wkM hK isNaN_A ?_)
  | refine wkg isNaN_A ?_
  | (refine cS (fun hb => ?_) fun hb => ?_ <;> try (cases hb; done))
  | refine sM fun K hK => ?_
  | fail
 all_goals (try (refine zR (by simp) ⟨_, _, _, evl, ob0, zV.sims ?_ fre⟩))
 all_goals first | exact z6.refl _ | (refine z6.of_eq ?_; first | rfl | (simp [zEi]; done) | (simp_all [zEi]; done) | (simp_all [zEi]; omega) | (simp [zEi]; grind) | (split <;> simp_all)) | exact yU | (refine z6.tup ?_; simp only [z8, yKn]; (repeat' apply And.intro) <;> first | exact yU | skip) | (exfalso; first | omega | (simp_all; done) | (simp_all; omega)) | skip
theorem yAz (a b : Int) : FnA Tryz.prog 101 [liA [a, b]] (.raw (.int .i64 (if a = 0 then b else a))) := by
 refine en Tryz.func101 Tryz.ntmps101 [.tmp 2] rfl ?_
 try (refine wg ?_; try refine sM fun K hK => ?_)
 refine zJ (fun k : Nat => ⟨18, 0, [(3, true, .raw (.int .i64 0)), (6, true, liA [a, b]), (7, true, .raw (.int .i64 2)), (8, true, .raw (.int .i64 k))], [], [], ((0, []), [], true)⟩)
  (fun k => k ≤ 2 ∧ ∀ i, i < k → [a, b].getD i 0 = 0) (fun k => 2 - k) 0 ?_ ⟨by omega, fun i h => by omega⟩ ?_
 ·exact wkZ
 ·rintro k ⟨hk, hall⟩
  try (refine wg ?_; try refine sM fun K hK => ?_)
  refine zA ⟨_, evl, ?_, ?_⟩
  ·intro hlt
   simp only [yJm] at hlt
   try (refine wg ?_; try refine sM fun K hK => ?_)
   refine zA ⟨_, evl, ?_, ?_⟩
   ·intro hb
    try (refine wg ?_; try refine sM fun K hK => ?_)
    refine rq ?_ ?_
    ·match k, hlt, hall, hb with
     | 0, _, _, hb => simp at hb; simp [hb]
     | 1, _, hall, hb => have := hall 0 (by omega); simp at this hb; simp [this]
    ·simp [AV.free]
   ·intro hb
    try (refine wg ?_; try refine sM fun K hK => ?_)
    refine ⟨k + 1, ⟨by omega, fun i hi => ?_⟩, by omega, ?_⟩
    ·rcases yLu.1 hi with h | rfl
     ·exact hall i h
     ·simpa using hb
    ·exact wkZ
  ·intro hge
   simp only [yKu] at hge
   obtain rfl : k = 2 := by omega
   have h0 := hall 0 (by omega)
   have h1 := hall 1 (by omega)
   simp at h0 h1
   try (refine wg ?_; try refine sM fun K hK => ?_)
   refine rq ?_ ?_
   ·simp [h0, h1]
   ·simp [AV.free]
def zU4 (k : zH) (auth id : Int) : Int := if zEi k.auth auth = 0 then zEi k.id id else zEi k.auth auth
theorem zZa (k : zH) (auth id : Int) : FnA Tryz.prog 254 [.agg k.av, liA [auth, id]] (.raw (.int .i64 (zU4 k auth id))) := by
 unfold zU4
 have h1 := zAh k.auth auth
 have h2 := zAh k.id id
 generalize zEi k.auth auth = c1 at *
 generalize zEi k.id id = c2 at *
 refine en Tryz.func254 Tryz.ntmps254 [.tmp 4] rfl ?_
 repeat' first
  | refine wkg (And.intro h1 (And.intro h2 (yAz c1 c2))) ?_
  | (refine cS (fun hb => ?_) fun hb => ?_ <;> try (cases hb; done))
  | refine sM fun K hK => ?_
  | fail
 all_goals exact fA
def zQq (l : List zH) (c : zH → Int) : Nat := l.findIdx fun k => decide (0 ≤ c k)
theorem zSs (l : List zH) (c : zH → Int) : zQq l c ≤ l.length := List.findIdx_le_length
theorem z5 {α : Type} [Inhabited α] {l : List α} {i : Nat} (h : i < l.length) : l.getD i default = l[i] := by simp [h]
theorem zYt {l : List zH} {c : zH → Int} {i : Nat} (h : i < zQq l c) : c (l.getD i default) < 0 := by
 have hl := zSs l c
 rw [z5 (by omega)]
 have := List.not_of_lt_findIdx h
 simpa using this
theorem zYu {l : List zH} {c : zH → Int} (h : zQq l c < l.length) : 0 ≤ c (l.getD (zQq l c) default) := by
 rw [z5 h]
 have := List.findIdx_getElem (w := h)
 exact yLv this
def zX2 (l : List zH) (c : zH → Int) : Prop := ∀ i j, i ≤ j → j < l.length → c (l.getD j default) < 0 → c (l.getD i default) < 0
theorem u64w {n : Int} (h : 0 ≤ n ∧ n < 18446744073709551616) : IntKind.u64.wrap n = n := y8 (k := .u64) (by simp only [inK]; omega)
theorem yHc (x : Nat) : (x : Int).fdiv (2 ^ min 1 64) = ((x / 2 : Nat) : Int) := shr1 x
theorem zU8 (l : List zH) (hl : l.length ≤ 4611686018427387904) (t : AV) (ht : t.free) (g : FuncId) (c : zH → Int) (hc : ∀ k, FnA Tryz.prog g [.agg k.av, t] (.raw (.int .i64 (c k)))) (hr : zX2 l c) :
  FnA Tryz.prog 253 [lA 7 zH.av l, t, .raw (.func (.func g) #[] #[])]
   (.tup [.raw (.int .i64 (zQq l c)), .raw (.bool (decide (zQq l c < l.length) && decide (c (l.getD (zQq l c) default) = 0)))]) := by
 have hle := zSs l c
 have hlt := fun i => zYt (l := l) (c := c) (i := i)
 have hge := zYu (l := l) (c := c)
 have hr' := fun i j => hr i j
 generalize zQq l c = m at *
 refine en Tryz.func253 Tryz.ntmps253 [.tmp 6, .tmp 7] rfl ?_
 try (refine wg ?_; try refine sM fun K hK => ?_)
 refine zJ (fun s : Nat × Nat => ⟨49, 0, [(0, true, lA 7 zH.av l), (1, true, t), (2, true, .raw (.func (.func g) #[] #[])), (8, true, .raw (.int .i64 l.length)), (9, true, .raw (.int .i64 s.1)), (10, true, .raw (.int .i64 s.2))], [], [], ((0, []), [], true)⟩)
  (fun s => s.1 ≤ m ∧ m ≤ s.2 ∧ s.2 ≤ l.length) (fun s => s.2 - s.1) (0, l.length) ?_ ⟨by simp, hle, by simp⟩ ?_
 ·exact wkZ
 ·rintro ⟨i, j⟩ ⟨h1, h2, h3⟩
  dsimp only at h1 h2 h3 ⊢
  have e1 : IntKind.u64.wrap ((i : Int) + j) = ((i + j : Nat) : Int) := by rw [u64w (by omega)]; simp
  try (refine wg ?_; try refine sM fun K hK => ?_)
  refine zA ⟨_, evl, ?_, ?_⟩
  ·intro hb
   simp only [yJm] at hb
   try (refine wg ?_; try refine sM fun K hK => ?_)
   rw [e1, yHc]
   have hmid : (i + j) / 2 < l.length := by omega
   try (first | refine wkM hK hc ?_ | refine wkg hc ?_)
   try clear hK K
   try refine sM fun K hK => ?_
   refine zA ⟨_, evl, ?_, ?_⟩
   ·intro hb2
    simp only [yJm] at hb2
    try (refine wg ?_; try refine sM fun K hK => ?_)
    refine ⟨((i + j) / 2 + 1, j), ⟨?_, h2, h3⟩, by show j - ((i + j) / 2 + 1) < j - i; omega, ?_⟩
    ·show (i + j) / 2 + 1 ≤ m
     rcases yIq ((i + j) / 2) m with h | h
     ·exact h
     ·have q1 := hr' m ((i + j) / 2) h hmid hb2
      have q2 := hge (by omega)
      omega
    ·exact wkZ
   ·intro hb2
    simp only [yKu] at hb2
    try (refine wg ?_; try refine sM fun K hK => ?_)
    refine ⟨(i, (i + j) / 2), ⟨h1, ?_, by show (i + j) / 2 ≤ _; omega⟩, by show (i + j) / 2 - i < j - i; omega, ?_⟩
    ·show m ≤ (i + j) / 2
     rcases yIq ((i + j) / 2) m with h | h
     ·exact absurd (hlt _ h) hb2
     ·exact h
    ·exact wkZ
  ·intro hb
   simp only [yKu] at hb
   obtain rfl : i = m := by omega
   try (first | refine wkM hK hc ?_ | refine wkg hc ?_)
   try clear hK K
   try refine sM fun K hK => ?_
   refine rq ?_ ?_
   ·simp
   ·simp [AV.free, AV.freeL]
end Go.Proofs.YtchpbdecipcelaaGreatDoor
