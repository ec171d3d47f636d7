import Derived.Test.YtchpbdecipcelaaGreatDoorHO01
import Derived.Test.YtchpbdecipcelaaGreatDoorHO21
import Derived.Test.YtchpbdecipcelaaGreatDoorHO29
import Derived.Test.YtchpbdecipcelaaGreatDoorHO31
namespace Go.Proofs.YtchpbdecipcelaaGreatDoor
set_option linter.unusedVariables false
set_option linter.unusedSimpArgs false
set_option maxHeartbeats 4000000
set_option maxRecDepth 100000
open Go.RowKit
structure zB where
 kind : Int
 id : Int
 deriving Inhabited, DecidableEq
@[go_sem] def zB.av (x : zB) : List AV := [.raw (.int .i64 x.kind), .raw (.int .i64 x.id)]
@[simp] theorem zB.free (x : zB) : AV.freeL x.av := ⟨trivial, trivial, trivial⟩
structure zO where
 from_ : Int
 to_ : Int
 most : Int
 who : List zB
 deriving Inhabited, DecidableEq
@[go_sem] def zO.av (x : zO) : List AV := [.raw (.int .i64 x.from_), .raw (.int .i64 x.to_), .raw (.int .i64 x.most), lA 2 zB.av x.who]
@[simp] theorem zO.free (x : zO) : AV.freeL x.av := ⟨trivial, trivial, trivial, zE (fun y => zB.free y) _, trivial⟩
structure qM where
 host : Int
 rate : Int
 sent : List Int
 got : List (List Int)
 deriving Inhabited, DecidableEq
@[go_sem] def qM.av (x : qM) : List AV := [.raw (.int .i64 x.host), .raw (.int .i64 x.rate), lA 1 iC x.sent, lA 1 (fun l => [lA 1 iC l]) x.got]
@[simp] theorem qM.free (x : qM) : AV.freeL x.av := ⟨trivial, trivial, zE (fun y => show AV.freeL (iC y) from ⟨trivial, trivial⟩) _, zE (fun y => show AV.freeL ((fun l => [lA 1 iC l]) y) from ⟨zE (fun y => show AV.freeL (iC y) from ⟨trivial, trivial⟩) _, trivial⟩) _, trivial⟩
structure zCv where
 keys : List zH
 auths : List q9
 f : Int
 chains : List xS
 deriving Inhabited, DecidableEq
@[go_sem] def zCv.av (x : zCv) : List AV := [lA 7 zH.av x.keys, lA 4 q9.av x.auths, .raw (.int .i64 x.f), lA 2 xS.av x.chains]
@[simp] theorem zCv.free (x : zCv) : AV.freeL x.av := ⟨zE (fun y => zH.free y) _, zE (fun y => q9.free y) _, trivial, zE (fun y => xS.free y) _, trivial⟩
structure zQ where
 evidence : zCv
 diaries : List qM
 wires : List wY
 deriving Inhabited, DecidableEq
@[go_sem] def zQ.av (x : zQ) : List AV := [lA 7 zH.av x.evidence.keys, lA 4 q9.av x.evidence.auths, .raw (.int .i64 x.evidence.f), lA 2 xS.av x.evidence.chains, lA 4 qM.av x.diaries, lA 3 wY.av x.wires]
@[simp] theorem zQ.free (x : zQ) : AV.freeL x.av := ⟨zE (fun y => zH.free y) _, zE (fun y => q9.free y) _, trivial, zE (fun y => xS.free y) _, zE (fun y => qM.free y) _, zE (fun y => wY.free y) _, trivial⟩
theorem yK (n lo hi : Int) : FnA Tryz.prog 47 [.raw (.int .i64 n), .raw (.int .i64 lo), .raw (.int .i64 hi)] (.raw (.bool (decide (lo ≤ n) && decide (n ≤ hi)))) := by
 refine en Tryz.func47 Tryz.ntmps47 [.tmp 6] rfl ?_
 repeat' first
  | refine wkg trivial ?_
  | (refine cS (fun hb => ?_) fun hb => ?_ <;> try (cases hb; done))
  | refine sM fun K hK => ?_
  | fail
 all_goals exact fA
def wU (p : zB) : Prop := (p.kind = 1 ∧ 1 ≤ p.id ∧ p.id ≤ 16) ∨ (p.kind = 2 ∧ 1 ≤ p.id ∧ p.id ≤ 64) ∨ (p.kind = 3 ∧ p.id = 0)
instance (p : zB) : Decidable (wU p) := by unfold wU; infer_instance
theorem zSx (p : zB) : FnA Tryz.prog 43 [.agg p.av] (.raw (.bool (decide (wU p)))) := by
 refine en Tryz.func43 Tryz.ntmps43 [.tmp 2] rfl ?_
 repeat' first
  | (refine wkM hK yK ?_)
  | refine wkg yK ?_
  | (refine cS (fun hb => ?_) fun hb => ?_ <;> try (cases hb; done))
  | refine sM fun K hK => ?_
  | fail
 all_goals (try (refine zR (by simp) ⟨_, _, _, evl, ob0, zV.sims ?_ fre⟩))
 all_goals first | exact z6.refl _ | (refine z6.of_eq ?_; first | rfl | (simp [wU]; done) | (simp_all [wU]; done) | (simp_all [wU]; omega) | (simp [wU]; grind) | (split <;> simp_all)) | exact yU | (refine z6.tup ?_; simp only [z8, yKn]; (repeat' apply And.intro) <;> first | exact yU | skip) | (exfalso; first | omega | (simp_all; done) | (simp_all; omega)) | skip
theorem yB4 (x y : Int) : FnA Tryz.prog 189 [.raw (.int .i64 x), .raw (.int .i64 y)] (.raw (.bool (decide (x < y)))) := by
 refine en Tryz.func189 Tryz.ntmps189 [.tmp 4] rfl ?_
 repeat' first
  | (refine wkM hK isNaN_A ?_)
  | refine wkg isNaN_A ?_
  | (refine cS (fun hb => ?_) fun hb => ?_ <;> try (cases hb; done))
  | refine sM fun K hK => ?_
  | fail
 all_goals exact fA
def zHo (l : List Int) : Prop := ∀ i, i + 1 < l.length → l.getD i default ≤ l.getD (i + 1) default
instance (l : List Int) : Decidable (zHo l) := decidable_of_iff (∀ i, i < l.length - 1 → l.getD i default ≤ l.getD (i + 1) default) ⟨fun h i hi => h i (by omega), fun h i hi => h i (by omega)⟩
theorem zQ5 (l : List Int) (hl : l.length ≤ 4611686018427387904) : FnA Tryz.prog 124 [liA l] (.raw (.bool (decide (zHo l)))) := by
 refine en Tryz.func124 Tryz.ntmps124 [.tmp 2] rfl ?_
 try (refine wg ?_; try refine sM fun K hK => ?_)
 refine zJ (fun k : Nat => ⟨21, 0, [(0, true, liA l), (3, true, .raw (.int .i64 ((l.length : Int) - 1 - k)))], [], [], ((0, []), [], true)⟩)
  (fun k => k ≤ l.length ∧ ∀ i, l.length < i + 2 + k → i + 1 < l.length → l.getD i default ≤ l.getD (i + 1) default) (fun k => l.length - k) 0 ?_ ⟨by omega, fun i h h2 => by omega⟩ ?_
 ·exact wkZ
 ·rintro k ⟨hk, hall⟩
  try (refine wg ?_; try refine sM fun K hK => ?_)
  refine zA ⟨_, evl, fun hb => ?_, fun hb => ?_⟩
  ·simp only [yJm] at hb
   obtain ⟨j, hj⟩ : ∃ j : Nat, (l.length : Int) - 1 - k = (j : Int) + 1 := ⟨l.length - 2 - k, by omega⟩
   have hls := yB4 (l.getD ((j : Int) + 1).toNat default) (l.getD ((j : Int) + 1 - 1).toNat default)
   have e1 : ((j : Int) + 1).toNat = j + 1 := by omega
   have e2 : ((j : Int) + 1 - 1).toNat = j := by omega
   rw [hj]
   repeat' first
    | refine wkg hls ?_
    | (refine cS (fun hb => ?_) fun hb => ?_ <;> try (cases hb; done))
    | refine sM fun K hK => ?_
    | fail
   ·refine zR (by simp) ⟨_, _, _, evl, ob0, zV.eq ?_ (by simp [AV.free])⟩
    simp only [AV.raw.injEq, Value.bool.injEq]
    rw [eq_comm, yKu]
    intro h
    have h3 : l.getD j 0 ≤ l.getD (j + 1) 0 := h j (by omega)
    rw [e1, e2] at hb
    have h4 : l.getD (j + 1) 0 < l.getD j 0 := hb
    omega
   ·rw [e1, e2] at hb
    have h4 : l.getD j 0 ≤ l.getD (j + 1) 0 := hb
    refine ⟨k + 1, ⟨by omega, fun i h1 h2 => ?_⟩, by omega, ?_⟩
    ·rcases yIq (i + 2 + k) (l.length + 1) with h | h
     ·obtain rfl : i = j := by omega
      exact h4
     ·exact hall i (by omega) h2
    ·exact wkZ
  ·try (refine wg ?_; try refine sM fun K hK => ?_)
   refine zR (by simp) ⟨_, _, _, evl, ob0, zV.eq ?_ (by simp [AV.free])⟩
   simp only [AV.raw.injEq, Value.bool.injEq]
   rw [eq_comm, yJm]
   simp only [yKu] at hb
   exact fun i hi => hall i (by omega) hi
def inD (n : Int) : Prop := 0 ≤ n ∧ n ≤ 1000000000000000
instance (n : Int) : Decidable (inD n) := by unfold inD; infer_instance
def zZl (c : xS) (d : qM) (i : Nat) : Prop := inD (d.sent.getD i default) ∧ (d.got.getD i default).length = (c.rounds.getD i default).replies.length ∧ ∀ u ∈ d.got.getD i default, d.sent.getD i default ≤ u ∧ u ≤ 1000000000000000
instance (c : xS) (d : qM) (i : Nat) : Decidable (zZl c d i) := by unfold zZl; infer_instance
def zDr (c : xS) (d : qM) : Prop := d.host = c.host ∧ (0 ≤ d.rate ∧ d.rate ≤ 1000000) ∧ d.sent.length = c.rounds.length ∧ d.got.length = c.rounds.length ∧ zHo d.sent ∧ ∀ i, i < c.rounds.length → zZl c d i
instance (c : xS) (d : qM) : Decidable (zDr c d) := by unfold zDr; infer_instance
theorem zG4 (l : List Int) (hl : l.length ≤ 4611686018427387904) (g : FuncId) (cap : List AV) (hcap : AV.freeL cap) (p : Int → Bool) (hp : ∀ x ∈ l, FnA Tryz.prog g (.raw (.int .i64 x) :: cap) (.raw (.bool (p x)))) :
  FnA Tryz.prog 190 [lA 1 iC l, .fn (.func g) [] cap] (.raw (.int .i64 (jU p l))) := by
 refine en Tryz.func190 Tryz.ntmps190 [.tmp 4] rfl ?_
 try (refine wg ?_; try refine sM fun K hK => ?_)
 refine zJ (fun k : Nat => ⟨19, 0, [(0, true, lA 1 iC l), (1, true, .fn (.func g) [] cap), (7, true, .raw (.int .i64 l.length)), (8, true, .raw (.int .i64 k))], [], [], ((0, []), [], true)⟩)
  (fun k => k ≤ l.length ∧ ∀ i, i < k → p (l.getD i default) = false) (fun k => l.length - k) 0 ?_ ⟨by omega, fun i h => by omega⟩ ?_
 ·exact wkZ
 ·rintro k ⟨hk, hall⟩
  try (refine wg ?_; try refine sM fun K hK => ?_)
  refine zA ⟨_, evl, ?_, ?_⟩
  ·intro hlt
   simp only [yJm] at hlt
   have hmem : l.getD k default ∈ l := by rw [yJk, yJh (show k < l.length by omega)]; exact yLb _
   have hpk := hp _ hmem
   have hfe : AV.freeL (iC (l.getD k default)) := by first | exact Int.free _ | (simp [AV.free, AV.freeL, iC, u8C, kC]; done)
   try (refine wkg hpk ?_; try refine sM fun K hK => ?_)
   refine zA ⟨_, evl, ?_, ?_⟩
   ·intro hb
    try (refine wg ?_; try refine sM fun K hK => ?_)
    refine rq ?_ ?_
    ·rw [vH (show k < l.length by omega) hall hb]
    ·simp [AV.free]
   ·intro hb
    try (refine wg ?_; try refine sM fun K hK => ?_)
    refine ⟨k + 1, ⟨by omega, fun i hi => ?_⟩, by omega, ?_⟩
    ·rcases yLu.1 hi with h | rfl
     ·exact hall i h
     ·exact hb
    ·exact wkZ
  ·intro hge
   simp only [yKu] at hge
   try (refine wg ?_; try refine sM fun K hK => ?_)
   refine rq ?_ ?_
   ·rw [xY (fun i hi => hall i (by omega))]
   ·simp [AV.free]
theorem zDd (l : List Int) (hl : l.length ≤ 4611686018427387904) (g : FuncId) (cap : List AV) (hcap : AV.freeL cap) (p : Int → Bool) (hp : ∀ x ∈ l, FnA Tryz.prog g (.raw (.int .i64 x) :: cap) (.raw (.bool (p x)))) :
  FnA Tryz.prog 126 [lA 1 iC l, .fn (.func g) [] cap] (.raw (.bool (l.any p))) := by
 have hi := zG4 l hl g cap hcap p hp
 have hany := jK p l
 have hfr : (lA 1 iC l).free := zE (fun _ => by simp [AV.free, AV.freeL, go_sem]) _
 generalize lA 1 iC l = L at hi hfr
 generalize jU p l = i at hi hany
 refine en Tryz.func126 Tryz.ntmps126 [.tmp 4] rfl ?_
 repeat' first
  | refine wkg hi ?_
  | (refine cS (fun hb => ?_) fun hb => ?_ <;> try (cases hb; done))
  | refine sM fun K hK => ?_
  | fail
 all_goals (try (refine zR (by simp) ⟨_, _, _, evl, ob0, zV.sims ?_ fre⟩))
 all_goals first | exact z6.refl _ | exact yA9 | exact yU | (refine z6.tup ?_; simp only [z8, yKn]; (repeat' apply And.intro) <;> first | exact yU | skip) | (exfalso; first | omega | (simp_all; done) | (simp_all; omega)) | skip
 all_goals (rw [hany])
theorem zZh (u s : Int) : FnA Tryz.prog 125 [.raw (.int .i64 u), .elt [.raw (.int .i64 s)] 0] (.raw (.bool (!(decide (s ≤ u) && decide (u ≤ 1000000000000000))))) := by
 refine en Tryz.func125 Tryz.ntmps125 [.tmp 3] rfl ?_
 repeat' first
  | (refine wkM hK yK ?_)
  | refine wkg yK ?_
  | (refine cS (fun hb => ?_) fun hb => ?_ <;> try (cases hb; done))
  | refine sM fun K hK => ?_
  | fail
 all_goals exact fA
theorem yB6 (c : xS) (d : qM) (hl : d.sent.length ≤ 4611686018427387904) (hg : ∀ g ∈ d.got, g.length ≤ 4611686018427387904) : FnA Tryz.prog 76 [.agg c.av, .agg d.av] (.raw (.bool (decide (zDr c d)))) := by
 have hso := zQ5 d.sent hl
 have hf1 : (lA 1 yP.av c.rounds).free := zE (fun y => yP.free y) _
 have hf2 := qM.free d
 have hno : ∀ i, i < c.rounds.length → ¬ zZl c d i → ¬ zDr c d := fun i hi hn h => hn (h.2.2.2.2.2 i hi)
 refine en Tryz.func76 Tryz.ntmps76 [.tmp 4] rfl ?_
 try (first | refine wkM hK (And.intro yK hso) ?_ | refine wkg (And.intro yK hso) ?_)
 try clear hK K
 try refine sM fun K hK => ?_
 refine yFd ⟨_, evl, ⟨cb, cb⟩, fun hb => ?_, fun hb => ?_⟩
 ·try (refine wg ?_; try refine sM fun K hK => ?_)
  refine zR (by simp) ⟨_, _, _, evl, ob0, zV.eq ?_ (by simp [AV.free])⟩
  simp only [AV.raw.injEq, Value.bool.injEq]
  rw [eq_comm, yKu]
  intro h
  obtain ⟨h1, h2, h3, h4, h5, h6⟩ := h
  simp [h5] at hb
  omega
 ·have hc : d.host = c.host ∧ (0 ≤ d.rate ∧ d.rate ≤ 1000000) ∧ d.sent.length = c.rounds.length ∧ d.got.length = c.rounds.length ∧ zHo d.sent := by
   exact ⟨by omega, by omega, by omega, by omega, hb.2⟩
  clear hb
  try (refine wg ?_; try refine sM fun K hK => ?_)
  refine zJ (fun k : Nat => ⟨81, 0, [(2, true, .box 0 0), (3, true, .box 1 0), (44, true, liA d.sent), (45, true, .raw (.int .i64 d.sent.length)), (46, true, .raw (.int .i64 k))], [c.av, d.av], [], ((0, []), [], true)⟩)
   (fun k => k ≤ d.sent.length ∧ ∀ i, i < k → zZl c d i) (fun k => d.sent.length - k) 0 ?_ ⟨by omega, fun i h => by omega⟩ ?_
  ·exact wkZ
  ·rintro k ⟨hk, hall⟩
   try (refine wg ?_; try refine sM fun K hK => ?_)
   refine zA ⟨_, evl, fun hb => ?_, fun hb => ?_⟩
   ·simp only [yJm] at hb
    have hlt : k < d.sent.length := by omega
    have hgk := hg _ (zAn (show k < d.got.length by omega))
    have hcf := zDd (d.got.getD k default) (by omega) 125 [.elt [.raw (.int .i64 (d.sent.getD k default))] 0] ⟨⟨trivial, trivial⟩, trivial⟩ (fun u => !(decide (d.sent.getD k default ≤ u) && decide (u ≤ 1000000000000000))) (fun u _ => zZh u _)
    have hnk := hno k (by omega)
    repeat (refine stG ?_)
    refine zD (fun K hK => ?_)
    iterate 6 (refine stG ?_)
    refine zX 2 obf ⟨_, evl, _, evl, ?_⟩
    try (first | refine wkM hK (And.intro yK hcf) ?_ | refine wkg (And.intro yK hcf) ?_)
    try clear hK K
    try refine sM fun K hK => ?_
    have e : (!(decide (0 ≤ d.sent.getD k 0) && decide (d.sent.getD k 0 ≤ 1000000000000000)) || !(decide (((d.got.getD k default).length : Int) = (c.rounds.getD k default).replies.length)) || (d.got.getD k default).any fun u => !(decide (d.sent.getD k 0 ≤ u) && decide (u ≤ 1000000000000000))) = !decide (zZl c d k) := by
     rw [yJ8, yJn, yKu]
     unfold zZl inD
     simp only [yKt, yJn, yKv, yKu, yLa, show (default : Int) = 0 from rfl]
     constructor
     ·rintro ((h | h) | ⟨u, hu, h⟩) h2
      ·omega
      ·have := h2.2.1; omega
      ·have := h2.2.2 u hu; omega
     ·intro h
      refine yM5 fun h2 => h ⟨?_, ?_, fun u hu => ?_⟩
      ·exact yM5 fun h3 => h2 (.inl (.inl (by omega)))
      ·exact yM5 fun h3 => h2 (.inl (.inr (by omega)))
      ·exact yM5 fun h3 => h2 (.inr ⟨u, hu, by omega⟩)
    refine zA ⟨_, evl, fun hb2 => ?_, fun hb2 => ?_⟩
    ·rw [e] at hb2
     try (refine wg ?_; try refine sM fun K hK => ?_)
     refine zR (by simp) ⟨_, _, _, evl, ob0, zV.eq ?_ (by simp [AV.free])⟩
     simp only [AV.raw.injEq, Value.bool.injEq]
     rw [eq_comm, yKu]
     exact hnk (by simpa using hb2)
    ·rw [e] at hb2
     try (refine wg ?_; try refine sM fun K hK => ?_)
     refine ⟨k + 1, ⟨by omega, fun i hi => ?_⟩, by omega, ?_⟩
     ·rcases yLu.1 hi with h | rfl
      ·exact hall i h
      ·simpa using hb2
     ·exact wkZ
   ·simp only [yKu] at hb
    try (refine wg ?_; try refine sM fun K hK => ?_)
    refine zR (by simp) ⟨_, _, _, evl, ob0, zV.eq ?_ (by simp [AV.free])⟩
    simp only [AV.raw.injEq, Value.bool.injEq]
    rw [eq_comm, yJm]
    exact ⟨hc.1, hc.2.1, hc.2.2.1, hc.2.2.2.1, hc.2.2.2.2, fun i hi => hall i (by omega)⟩
def zJc (l : List q9) (i : Nat) : Int := if i = 0 then 0 else (l.getD (i - 1) default).id
def zDf (l : List q9) (i : Nat) : Prop := (zJc l i < (l.getD i default).id ∧ (l.getD i default).id ≤ 16) ∧ 0 ≤ (l.getD i default).err ∧ (l.getD i default).err ≤ 1000000
instance (l : List q9) (i : Nat) : Decidable (zDf l i) := by unfold zDf; infer_instance
def jV (l : List q9) : Prop := ∀ i, i < l.length → zDf l i
instance (l : List q9) : Decidable (jV l) := by unfold jV; infer_instance
theorem zIf (l : List q9) (hl : l.length ≤ 4611686018427387904) : FnA Tryz.prog 73 [lA 4 q9.av l] (.raw (.bool (decide (jV l)))) := by
 have hfr : (lA 4 q9.av l).free := zE (fun y => q9.free y) _
 refine en Tryz.func73 Tryz.ntmps73 [.tmp 2] rfl ?_
 try (refine wg ?_; try refine sM fun K hK => ?_)
 refine zJ (fun k : Nat => ⟨30, 0, [(3, true, .raw (.int .i64 (zJc l k))), (6, true, lA 4 q9.av l), (7, true, .raw (.int .i64 l.length)), (8, true, .raw (.int .i64 k))], [], [], ((0, []), [], true)⟩)
  (fun k => k ≤ l.length ∧ ∀ i, i < k → zDf l i) (fun k => l.length - k) 0 ?_ ⟨by omega, fun i h => by omega⟩ ?_
 ·exact wkZ
 ·rintro k ⟨hk, hall⟩
  have hs : zJc l (k + 1) = (l.getD k default).id := rfl
  have ho : zDf l k ↔ (zJc l k < (l.getD k default).id ∧ (l.getD k default).id ≤ 16) ∧ 0 ≤ (l.getD k default).err ∧ (l.getD k default).err ≤ 1000000 := Iff.rfl
  have hno : jV l → k < l.length → zDf l k := fun h => h k
  generalize zJc l k = pv at *
  repeat' first
   | (refine wkM hK yK ?_)
   | refine wkg yK ?_
   | (refine cS (fun hb => ?_) fun hb => ?_ <;> try (cases hb; done))
   | refine sM fun K hK => ?_
   | fail
  ·refine zR (by simp) ⟨_, _, _, evl, ob0, zV.eq ?_ (by simp [AV.free])⟩
   simp only [AV.raw.injEq, Value.bool.injEq]
   rw [eq_comm, yKu]
   intro h
   have := ho.1 (hno h (by omega))
   omega
  ·refine ⟨k + 1, ⟨by omega, fun i hi => ?_⟩, by omega, ?_⟩
   ·rcases yLu.1 hi with h | rfl
    ·exact hall i h
    ·exact ho.2 (by omega)
   ·rw [hs]
    exact wkZ
  ·refine zR (by simp) ⟨_, _, _, evl, ob0, zV.eq ?_ (by simp [AV.free])⟩
   simp only [AV.raw.injEq, Value.bool.injEq]
   rw [eq_comm, yJm]
   exact fun i hi => hall i (by omega)
theorem zQy (l : List wY) (hl : l.length ≤ 4611686018427387904) (hc : ∀ w ∈ l, w.changes.length ≤ 4611686018427387904) : FnA Tryz.prog 74 [lA 3 wY.av l] (.raw (.bool (decide (w6 l)))) := by
 have h := zXy [] (by simp) (by simp) l hl hc 1 [] (by simp) (by simp) ⟨0, 0⟩
 have e : zPj [] l 1 [] ⟨0, 0⟩ = ([], if w6 l then 0 else 1) := by
  unfold zPj
  by_cases hw : w6 l
  ·rw [if_pos ⟨by decide, by decide, by decide, hw, by decide⟩, if_pos hw]; rfl
  ·rw [if_neg fun h => hw h.2.2.2.1, if_neg hw]
 rw [e] at h
 have hw : decide (w6 l) = decide ((if w6 l then (0 : Int) else 1) = 0) := by
  by_cases hw : w6 l <;> simp [hw]
 rw [hw]
 generalize (if w6 l then (0 : Int) else 1) = z at *
 clear e hw
 have hfr : (lA 2 Iv.av []).free := zE (fun y => Iv.free y) _
 refine en Tryz.func74 Tryz.ntmps74 [.tmp 2] rfl ?_
 repeat'
  first
   | first
    | (refine zF (hK _ ?_); clear hK K)
    | refine stG ?_
    | (refine yH 1 rfl ?_; refine zN rfl rfl ⟨_, evl, _, _, _, evl, yR, ?_⟩; apply Exists.intro; refine ⟨fun hg => ?_, ?_⟩; · first | exact FnA.sim h ⟨Sim.nil rfl, Sim.refl _, Sim.refl _, Sim.agg ⟨Sim.nil rfl, trivial⟩, Sim.refl _, trivial⟩ )
    | (refine zS 1 rfl ?_; refine zP rfl ⟨_, evl, _, _, _, (fun _ _ => w7), yR, ?_⟩; apply Exists.intro; refine ⟨fun hg => ?_, ?_⟩; · first | exact FnA.sim h ⟨Sim.nil rfl, Sim.refl _, Sim.refl _, Sim.agg ⟨Sim.nil rfl, trivial⟩, Sim.refl _, trivial⟩ )
    | (refine zS 1 rfl ?_; refine zG ?_)
    | (refine z7 ?_; first | (refine zK (hK _ ?_); clear hK K) | (refine zT rfl ⟨_, evl, fun nb' => ?_⟩))
    | refine zD (fun K hK => ?_)
    | (refine xD ?_; first | (refine zC false rfl (by kernel_rfl) (by kernel_rfl) (fun K hK => ?_)) | (refine zC true rfl (by kernel_rfl) (by kernel_rfl) (fun K hK => ?_)))
    | (refine zA ⟨_, evl, fun hb => ?_, fun hb => ?_⟩ <;> (try simp only [yKt, yJl, yKw, yKv, yJn, yKs, yJd, yLj, yJm, yKu, yLk, yK3, ne_eq, yLl, yJc, yLm, yKg, yKh] at hb))
   | fail
 all_goals exact fA
structure OkM (m : zQ) : Prop where
 kl : m.evidence.keys.length ≤ 4611686018427387904
 kf : ∀ k ∈ m.evidence.keys, k.fits
 al : m.evidence.auths.length ≤ 4611686018427387904
 wl : m.wires.length ≤ 4611686018427387904
 wc : ∀ w ∈ m.wires, w.changes.length ≤ 4611686018427387904
 cl : m.evidence.chains.length ≤ 4611686018427387904
 ch : ∀ c ∈ m.evidence.chains, c.rounds.length ≤ 4611686018427387904 ∧ inK .i64 c.host ∧ ∀ r ∈ c.rounds, r.replies.length ≤ 400000 ∧ ∀ x ∈ r.replies, x.fits
 dl : m.diaries.length ≤ 4611686018427387904
 di : ∀ d ∈ m.diaries, d.sent.length ≤ 4611686018427387904 ∧ ∀ g ∈ d.got, g.length ≤ 4611686018427387904
def zC5 (l : List xS) (i : Nat) : Int := if i = 0 then 0 else (l.getD (i - 1) default).host
def zMn (m : zQ) (i : Nat) : Prop := zC5 m.evidence.chains i < (m.evidence.chains.getD i default).host ∧ j9 (m.evidence.chains.getD i default) ∧ zDr (m.evidence.chains.getD i default) (m.diaries.getD i default)
instance (m : zQ) (i : Nat) : Decidable (zMn m i) := by unfold zMn; infer_instance
def zBf (m : zQ) : Prop := ValidP m.evidence.keys ∧ jV m.evidence.auths ∧ (0 ≤ m.evidence.f ∧ m.evidence.f ≤ 5) ∧ w6 m.wires ∧ m.evidence.chains.length ≤ 8 ∧ m.diaries.length = m.evidence.chains.length ∧ ∀ i, i < m.evidence.chains.length → zMn m i
instance (m : zQ) : Decidable (zBf m) := by unfold zBf; infer_instance
theorem zQ7 (m : zQ) (h : OkM m) : FnA Tryz.prog 30 [.agg m.av] (.raw (.bool (decide (zBf m)))) := by
 have h1 := valid_A m.evidence.keys h.kl h.kf
 have h2 := zIf m.evidence.auths h.al
 have h3 := zQy m.wires h.wl h.wc
 have f0 := zQ.free m
 have f1 : (lA 7 zH.av m.evidence.keys).free := zE (fun y => zH.free y) _
 have f2 : (lA 4 q9.av m.evidence.auths).free := zE (fun y => q9.free y) _
 have f3 : (lA 3 wY.av m.wires).free := zE (fun y => wY.free y) _
 by_cases hc : ValidP m.evidence.keys ∧ jV m.evidence.auths ∧ (0 ≤ m.evidence.f ∧ m.evidence.f ≤ 5) ∧ w6 m.wires ∧ m.evidence.chains.length ≤ 8 ∧ m.diaries.length = m.evidence.chains.length
 ·have hno : ∀ i, i < m.evidence.chains.length → ¬ zMn m i → decide (zBf m) = false := fun i hi hn => yM2 fun h => hn (h.2.2.2.2.2.2 i hi)
  have hyes : (∀ i, i < m.evidence.chains.length → zMn m i) → decide (zBf m) = true := fun h => yM1 ⟨hc.1, hc.2.1, hc.2.2.1, hc.2.2.2.1, hc.2.2.2.2.1, hc.2.2.2.2.2, h⟩
  rw [yM1 hc.1] at h1
  rw [yM1 hc.2.1] at h2
  rw [yM1 hc.2.2.2.1] at h3
  have h4 := yK m.evidence.f 0 5
  rw [yM1 hc.2.2.1.1, yM1 hc.2.2.1.2] at h4
  have hl1 := hc.2.2.2.2.1
  have hl2 := hc.2.2.2.2.2
  have hfive := hc.2.2.1
  have hch := h.ch
  have hdi := h.di
  clear hc h
  generalize decide (zBf m) = F at *
  refine en Tryz.func30 Tryz.ntmps30 [.tmp 2] rfl ?_
  try (refine wkg (And.intro h1 (And.intro h2 (And.intro h3 h4))) ?_; try refine sM fun K hK => ?_)
  refine zA ⟨_, evl, fun hb => absurd hb (by simp; omega), fun _ => ?_⟩
  try (refine wg ?_; try refine sM fun K hK => ?_)
  refine zJ (fun k : Nat => ⟨76, 0, [(1, true, .box 0 0), (3, true, .box 1 0), (4, true, .raw (.int .i64 (zC5 m.evidence.chains k))), (47, true, lA 2 xS.av m.evidence.chains), (48, true, .raw (.int .i64 m.evidence.chains.length)), (49, true, .raw (.int .i64 k))], [m.av, m.evidence.av], [], ((0, []), [], true)⟩)
   (fun k => k ≤ m.evidence.chains.length ∧ ∀ i, i < k → zMn m i) (fun k => m.evidence.chains.length - k) 0 ?_ ⟨by omega, fun i h => by omega⟩ ?_
  ·exact wkZ
  ·rintro k ⟨hk, hall⟩
   clear h1 h2 h3 h4
   rcases yIq k m.evidence.chains.length with hlt | hge
   ·have hs : zC5 m.evidence.chains (k + 1) = (m.evidence.chains.getD k default).host := rfl
    obtain ⟨g1, g2, g3⟩ := hch _ (zAn hlt)
    obtain ⟨g4, g5⟩ := hdi _ (zAn (show k < m.diaries.length by omega))
    have h5 := zWl (m.evidence.chains.getD k default) g1 g2 g3
    have h6 := yB6 (m.evidence.chains.getD k default) (m.diaries.getD k default) g4 g5
    have hnk := hno k hlt
    have ho : zMn m k ↔ zC5 m.evidence.chains k < (m.evidence.chains.getD k default).host ∧ decide (j9 (m.evidence.chains.getD k default)) = true ∧ decide (zDr (m.evidence.chains.getD k default) (m.diaries.getD k default)) = true := by
     rw [yJm, yJm]; rfl
    have hfc := xS.free (m.evidence.chains.getD k default)
    have hfd := qM.free (m.diaries.getD k default)
    clear hch hdi hno g1 g2 g3 g4 g5
    generalize decide (j9 (m.evidence.chains.getD k default)) = b1 at *
    generalize decide (zDr (m.evidence.chains.getD k default) (m.diaries.getD k default)) = b2 at *
    generalize zC5 m.evidence.chains k = pv at *
    try (refine wg ?_; try refine sM fun K hK => ?_)
    refine zA ⟨_, evl, fun _ => ?_, fun hb => absurd (yMa hb) (by omega)⟩
    try (refine wkg (And.intro h5 h6) ?_; try refine sM fun K hK => ?_)
    refine yFd ⟨_, evl, ⟨cb, cb⟩, fun hb => ?_, fun hb => ?_⟩
    ·rw [hnk fun h => by
      obtain ⟨a1, a2, a3⟩ := ho.1 h
      rcases hb with (hb | hb) | hb
      ·omega
      ·rw [a2] at hb; cases hb
      ·rw [a3] at hb; cases hb]
     try (refine wg ?_; try refine sM fun K hK => ?_)
     refine rq ?_ ?_
     ·rfl
     ·simp [AV.free]
    ·try (refine wg ?_; try refine sM fun K hK => ?_)
     refine ⟨k + 1, ⟨by omega, fun i hi => ?_⟩, by omega, ?_⟩
     ·rcases yLu.1 hi with h | rfl
      ·exact hall i h
      ·exact ho.2 ⟨by omega, by simp_all, by simp_all⟩
     ·rw [hs]
      exact wkZ
   ·obtain rfl : k = m.evidence.chains.length := by omega
    rw [hyes hall]
    try (refine wg ?_; try refine sM fun K hK => ?_)
    refine zA ⟨_, evl, fun hb => absurd (yLv hb) (by omega), fun _ => ?_⟩
    try (refine wg ?_; try refine sM fun K hK => ?_)
    refine rq ?_ ?_
    ·rfl
    ·simp [AV.free]
 ·rw [yM2 fun h : zBf m => hc ⟨h.1, h.2.1, h.2.2.1, h.2.2.2.1, h.2.2.2.2.1, h.2.2.2.2.2.1⟩]
  have hno : decide (ValidP m.evidence.keys) = true → decide (jV m.evidence.auths) = true → (0 ≤ m.evidence.f ∧ m.evidence.f ≤ 5) → decide (w6 m.wires) = true → (m.evidence.chains.length : Int) ≤ 8 → (m.diaries.length : Int) = m.evidence.chains.length → False :=
   fun a b c d e f => hc ⟨yLv a, yLv b, c, yLv d, by omega, by omega⟩
  clear hc h
  generalize decide (ValidP m.evidence.keys) = b1 at *
  generalize decide (jV m.evidence.auths) = b2 at *
  generalize decide (w6 m.wires) = b3 at *
  refine en Tryz.func30 Tryz.ntmps30 [.tmp 2] rfl ?_
  try (first | refine wkM hK (And.intro h1 (And.intro h2 (And.intro h3 yK))) ?_ | refine wkg (And.intro h1 (And.intro h2 (And.intro h3 yK))) ?_)
  try clear hK K
  try refine sM fun K hK => ?_
  refine yFd ⟨_, evl, ⟨cb, cb⟩, fun hb => ?_, fun hb => ?_⟩
  ·try (refine wg ?_; try refine sM fun K hK => ?_)
   refine rq ?_ ?_
   ·rfl
   ·simp [AV.free]
  ·exfalso
   exact hno (by simp_all) (by simp_all) (by omega) (by simp_all) (by omega) (by omega)
end Go.Proofs.YtchpbdecipcelaaGreatDoor
