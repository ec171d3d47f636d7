import Derived.Test.YtchpbdecipcelaaGreatDoorSM23
import Derived.Test.YtchpbdecipcelaaGreatDoorSM29
import Derived.Test.YtchpbdecipcelaaGreatDoorSM30
namespace Go.Proofs.YtchpbdecipcelaaGreatDoor
set_option linter.unusedVariables false
set_option linter.unusedSimpArgs false
set_option maxHeartbeats 4000000
set_option maxRecDepth 100000
open Go.RowKit
structure Party where
  kind : Int
  id : Int
  deriving Inhabited, DecidableEq
@[go_sem] def Party.av (x : Party) : List AV := [.raw (.int .i64 x.kind), .raw (.int .i64 x.id)]
@[simp] theorem Party.free (x : Party) : AV.freeL x.av := ⟨trivial, trivial, trivial⟩
structure Bound where
  from_ : Int
  to_ : Int
  most : Int
  who : List Party
  deriving Inhabited, DecidableEq
@[go_sem] def Bound.av (x : Bound) : List AV := [.raw (.int .i64 x.from_), .raw (.int .i64 x.to_), .raw (.int .i64 x.most), lA 2 Party.av x.who]
@[simp] theorem Bound.free (x : Bound) : AV.freeL x.av := ⟨trivial, trivial, trivial, lA_free (fun y => Party.free y) _, trivial⟩
structure Diary where
  host : Int
  rate : Int
  sent : List Int
  got : List (List Int)
  deriving Inhabited, DecidableEq
@[go_sem] def Diary.av (x : Diary) : List AV := [.raw (.int .i64 x.host), .raw (.int .i64 x.rate), lA 1 iC x.sent, lA 1 (fun l => [lA 1 iC l]) x.got]
@[simp] theorem Diary.free (x : Diary) : AV.freeL x.av := ⟨trivial, trivial, lA_free (fun y => show AV.freeL (iC y) from ⟨trivial, trivial⟩) _, lA_free (fun y => show AV.freeL ((fun l => [lA 1 iC l]) y) from ⟨lA_free (fun y => show AV.freeL (iC y) from ⟨trivial, trivial⟩) _, trivial⟩) _, trivial⟩
structure Evidence where
  keys : List KeyWin
  auths : List Auth
  f : Int
  chains : List Chain
  deriving Inhabited, DecidableEq
@[go_sem] def Evidence.av (x : Evidence) : List AV := [lA 7 KeyWin.av x.keys, lA 4 Auth.av x.auths, .raw (.int .i64 x.f), lA 2 Chain.av x.chains]
@[simp] theorem Evidence.free (x : Evidence) : AV.freeL x.av := ⟨lA_free (fun y => KeyWin.free y) _, lA_free (fun y => Auth.free y) _, trivial, lA_free (fun y => Chain.free y) _, trivial⟩
structure Matter where
  evidence : Evidence
  diaries : List Diary
  wires : List Wire
  deriving Inhabited, DecidableEq
@[go_sem] def Matter.av (x : Matter) : List AV := [lA 7 KeyWin.av x.evidence.keys, lA 4 Auth.av x.evidence.auths, .raw (.int .i64 x.evidence.f), lA 2 Chain.av x.evidence.chains, lA 4 Diary.av x.diaries, lA 3 Wire.av x.wires]
@[simp] theorem Matter.free (x : Matter) : AV.freeL x.av := ⟨lA_free (fun y => KeyWin.free y) _, lA_free (fun y => Auth.free y) _, trivial, lA_free (fun y => Chain.free y) _, lA_free (fun y => Diary.free y) _, lA_free (fun y => Wire.free y) _, trivial⟩
theorem within44_A (n lo hi : Int) : FnA Tryz.prog 47 [.raw (.int .i64 n), .raw (.int .i64 lo), .raw (.int .i64 hi)] (.raw (.bool (decide (lo ≤ n) && decide (n ≤ hi)))) := by
  refine fnA_of tblOk Tryz.func47 rfl (by kernel_rfl) 15 Tryz.ntmps47 lenT [.tmp 6] rfl ?_
  simp only [entrySt, argSl, Nat.zero_add, Nat.reduceAdd]
  repeat' first
    | refine wkG trivial ?_
    | (refine cndS ⟨_, evl, ⟨cb, cb⟩, fun hb => ?_, fun hb => ?_⟩ <;> try (cases hb; done))
    | (refine Stop.mk ?_; intro K hK)
    | fail
  all_goals (try (refine ret_of (by simp) ⟨_, _, _, evl, ob0, OutOk.sims ?_ fre⟩))
  all_goals first | exact Sims.refl _ | exact finT | exact simsF | (refine Sims.tup ?_; simp only [SimsL, and_true]; (repeat' apply And.intro) <;> first | exact simsF | skip) | (exfalso; first | omega | (simp_all; done) | (simp_all; omega)) | skip
def partyP (p : Party) : Prop := (p.kind = 1 ∧ 1 ≤ p.id ∧ p.id ≤ 16) ∨ (p.kind = 2 ∧ 1 ≤ p.id ∧ p.id ≤ 64) ∨ (p.kind = 3 ∧ p.id = 0)
instance (p : Party) : Decidable (partyP p) := by unfold partyP; infer_instance
theorem isParty_A (p : Party) : FnA Tryz.prog 43 [.agg p.av] (.raw (.bool (decide (partyP p)))) := by
  refine fnA_of tblOk Tryz.func43 rfl (by kernel_rfl) 18 Tryz.ntmps43 lenT [.tmp 2] rfl ?_
  simp only [entrySt, argSl, Nat.zero_add, Nat.reduceAdd]
  repeat' first
    | (refine wkM hK within44_A ?_)
    | refine wkG within44_A ?_
    | (refine cndS ⟨_, evl, ⟨cb, cb⟩, fun hb => ?_, fun hb => ?_⟩ <;> try (cases hb; done))
    | (refine Stop.mk ?_; intro K hK)
    | fail
  all_goals (try (refine ret_of (by simp) ⟨_, _, _, evl, ob0, OutOk.sims ?_ fre⟩))
  all_goals first | exact Sims.refl _ | (refine Sims.of_eq ?_; first | rfl | (simp [partyP]; done) | (simp_all [partyP]; done) | (simp_all [partyP]; omega) | (simp [partyP]; grind) | (split <;> simp_all)) | exact simsF | (refine Sims.tup ?_; simp only [SimsL, and_true]; (repeat' apply And.intro) <;> first | exact simsF | skip) | (exfalso; first | omega | (simp_all; done) | (simp_all; omega)) | skip
theorem less_A (x y : Int) : FnA Tryz.prog 189 [.raw (.int .i64 x), .raw (.int .i64 y)] (.raw (.bool (decide (x < y)))) := by
  refine fnA_of tblOk Tryz.func189 rfl (by kernel_rfl) 17 Tryz.ntmps189 lenT [.tmp 4] rfl ?_
  simp only [entrySt, argSl, Nat.zero_add, Nat.reduceAdd]
  repeat' first
    | (refine wkM hK isNaN_A ?_)
    | refine wkG isNaN_A ?_
    | (refine cndS ⟨_, evl, ⟨cb, cb⟩, fun hb => ?_, fun hb => ?_⟩ <;> try (cases hb; done))
    | (refine Stop.mk ?_; intro K hK)
    | fail
  all_goals (try (refine ret_of (by simp) ⟨_, _, _, evl, ob0, OutOk.sims ?_ fre⟩))
  all_goals first | exact Sims.refl _ | exact finT | exact simsF | (refine Sims.tup ?_; simp only [SimsL, and_true]; (repeat' apply And.intro) <;> first | exact simsF | skip) | (exfalso; first | omega | (simp_all; done) | (simp_all; omega)) | skip
def sortedP (l : List Int) : Prop := ∀ i, i + 1 < l.length → l.getD i default ≤ l.getD (i + 1) default
instance (l : List Int) : Decidable (sortedP l) := decidable_of_iff (∀ i, i < l.length - 1 → l.getD i default ≤ l.getD (i + 1) default) ⟨fun h i hi => h i (by omega), fun h i hi => h i (by omega)⟩
theorem isSorted_A (l : List Int) (hl : l.length ≤ 4611686018427387904) : FnA Tryz.prog 124 [liA l] (.raw (.bool (decide (sortedP l)))) := by
  refine fnA_of tblOk Tryz.func124 rfl (by kernel_rfl) 21 Tryz.ntmps124 lenT [.tmp 2] rfl ?_
  simp only [entrySt, argSl, Nat.zero_add, Nat.reduceAdd]
  try refine wkG trivial ?_
  try (refine Stop.mk ?_; intro K hK)
  refine wpA_loop (fun k : Nat => ⟨21, 0, [(0, true, liA l), (3, true, .raw (.int .i64 ((l.length : Int) - 1 - k)))], [], [], ((0, []), [], true)⟩)
    (fun k => k ≤ l.length ∧ ∀ i, l.length < i + 2 + k → i + 1 < l.length → l.getD i default ≤ l.getD (i + 1) default) (fun k => l.length - k) 0 ?_ ⟨by omega, fun i h h2 => by omega⟩ ?_
  · refine wkn ?_ ?_ ?_
    all_goals first | exact wk0 | refine wkS ?_ | skip
    all_goals (try trivial)
    all_goals ((repeat' apply And.intro) <;> first | exact wkL | skip)
  · rintro k ⟨hk, hall⟩
    try refine wkG trivial ?_
    try (refine Stop.mk ?_; intro K hK)
    refine wpA_cond' ⟨_, evl, fun hb => ?_, fun hb => ?_⟩
    · simp only [decide_eq_true_eq] at hb
      obtain ⟨j, hj⟩ : ∃ j : Nat, (l.length : Int) - 1 - k = (j : Int) + 1 := ⟨l.length - 2 - k, by omega⟩
      have hls := less_A (l.getD ((j : Int) + 1).toNat default) (l.getD ((j : Int) + 1 - 1).toNat default)
      have e1 : ((j : Int) + 1).toNat = j + 1 := by omega
      have e2 : ((j : Int) + 1 - 1).toNat = j := by omega
      rw [hj]
      repeat' first
        | refine wkG hls ?_
        | (refine cndS ⟨_, evl, ⟨cb, cb⟩, fun hb => ?_, fun hb => ?_⟩ <;> try (cases hb; done))
        | (refine Stop.mk ?_; intro K hK)
        | fail
      · refine ret_of (by simp) ⟨_, _, _, evl, ob0, OutOk.eq ?_ (by simp [AV.free])⟩
        simp only [AV.raw.injEq, Value.bool.injEq]
        rw [eq_comm, decide_eq_false_iff_not]
        intro h
        have h3 : l.getD j 0 ≤ l.getD (j + 1) 0 := h j (by omega)
        rw [e1, e2] at hb
        have h4 : l.getD (j + 1) 0 < l.getD j 0 := hb
        omega
      · rw [e1, e2] at hb
        have h4 : l.getD j 0 ≤ l.getD (j + 1) 0 := hb
        refine ⟨k + 1, ⟨by omega, fun i h1 h2 => ?_⟩, by omega, ?_⟩
        · rcases Nat.lt_or_ge (i + 2 + k) (l.length + 1) with h | h
          · obtain rfl : i = j := by omega
            exact h4
          · exact hall i (by omega) h2
        · refine wkn ?_ ?_ ?_
          all_goals first | exact wk0 | refine wkS ?_ | skip
          all_goals (try trivial)
          all_goals ((repeat' apply And.intro) <;> first | exact wkL | skip)
    · try refine wkG trivial ?_
      try (refine Stop.mk ?_; intro K hK)
      refine ret_of (by simp) ⟨_, _, _, evl, ob0, OutOk.eq ?_ (by simp [AV.free])⟩
      simp only [AV.raw.injEq, Value.bool.injEq]
      rw [eq_comm, decide_eq_true_eq]
      simp only [decide_eq_false_iff_not] at hb
      exact fun i hi => hall i (by omega) hi
def inD (n : Int) : Prop := 0 ≤ n ∧ n ≤ 1000000000000000
instance (n : Int) : Decidable (inD n) := by unfold inD; infer_instance
def dayP (c : Chain) (d : Diary) (i : Nat) : Prop := inD (d.sent.getD i default) ∧ (d.got.getD i default).length = (c.rounds.getD i default).replies.length ∧ ∀ u ∈ d.got.getD i default, d.sent.getD i default ≤ u ∧ u ≤ 1000000000000000
instance (c : Chain) (d : Diary) (i : Nat) : Decidable (dayP c d i) := by unfold dayP; infer_instance
def diaryP (c : Chain) (d : Diary) : Prop := d.host = c.host ∧ (0 ≤ d.rate ∧ d.rate ≤ 1000000) ∧ d.sent.length = c.rounds.length ∧ d.got.length = c.rounds.length ∧ sortedP d.sent ∧ ∀ i, i < c.rounds.length → dayP c d i
instance (c : Chain) (d : Diary) : Decidable (diaryP c d) := by unfold diaryP; infer_instance
theorem indexFunc_Ints (l : List Int) (hl : l.length ≤ 4611686018427387904) (g : FuncId) (cap : List AV) (hcap : AV.freeL cap) (p : Int → Bool) (hp : ∀ x ∈ l, FnA Tryz.prog g (.raw (.int .i64 x) :: cap) (.raw (.bool (p x)))) :
    FnA Tryz.prog 190 [lA 1 iC l, .fn (.func g) [] cap] (.raw (.int .i64 (idxM p l))) := by
  refine fnA_of tblOk Tryz.func190 rfl (by kernel_rfl) 19 Tryz.ntmps190 lenT [.tmp 4] rfl ?_
  simp only [entrySt, argSl, Nat.zero_add, Nat.reduceAdd]
  try refine wkG trivial ?_
  try (refine Stop.mk ?_; intro K hK)
  refine wpA_loop (fun k : Nat => ⟨19, 0, [(0, true, lA 1 iC l), (1, true, .fn (.func g) [] cap), (7, true, .raw (.int .i64 l.length)), (8, true, .raw (.int .i64 k))], [], [], ((0, []), [], true)⟩)
    (fun k => k ≤ l.length ∧ ∀ i, i < k → p (l.getD i default) = false) (fun k => l.length - k) 0 ?_ ⟨by omega, fun i h => by omega⟩ ?_
  · refine wkn ?_ ?_ ?_
    all_goals first | exact wk0 | refine wkS ?_ | skip
    all_goals (try trivial)
    all_goals ((repeat' apply And.intro) <;> first | exact wkL | skip)
  · rintro k ⟨hk, hall⟩
    try refine wkG trivial ?_
    try (refine Stop.mk ?_; intro K hK)
    refine wpA_cond' ⟨_, evl, ?_, ?_⟩
    · intro hlt
      simp only [decide_eq_true_eq] at hlt
      have hmem : l.getD k default ∈ l := by rw [List.getD_eq_getElem?_getD, List.getElem?_eq_getElem (show k < l.length by omega)]; exact List.getElem_mem _
      have hpk := hp _ hmem
      have hfe : AV.freeL (iC (l.getD k default)) := by first | exact Int.free _ | (simp [AV.free, AV.freeL, iC, u8C, kC]; done)
      try refine wkG hpk ?_
      try (refine Stop.mk ?_; intro K hK)
      refine wpA_cond' ⟨_, evl, ?_, ?_⟩
      · intro hb
        try refine wkG trivial ?_
        try (refine Stop.mk ?_; intro K hK)
        refine ret_of (by simp) ⟨_, _, _, evl, ob0, OutOk.eq ?_ ?_⟩
        · rw [idxM_hit (show k < l.length by omega) hall hb]
        · simp [AV.free]
      · intro hb
        try refine wkG trivial ?_
        try (refine Stop.mk ?_; intro K hK)
        refine ⟨k + 1, ⟨by omega, fun i hi => ?_⟩, by omega, ?_⟩
        · rcases Nat.lt_succ_iff_lt_or_eq.1 hi with h | rfl
          · exact hall i h
          · exact hb
        · refine wkn ?_ ?_ ?_
          all_goals first | exact wk0 | refine wkS ?_ | skip
          all_goals (try trivial)
          all_goals ((repeat' apply And.intro) <;> first | exact wkL | skip)
    · intro hge
      simp only [decide_eq_false_iff_not] at hge
      try refine wkG trivial ?_
      try (refine Stop.mk ?_; intro K hK)
      refine ret_of (by simp) ⟨_, _, _, evl, ob0, OutOk.eq ?_ ?_⟩
      · rw [idxM_none (fun i hi => hall i (by omega))]
      · simp [AV.free]
theorem containsFunc_Ints (l : List Int) (hl : l.length ≤ 4611686018427387904) (g : FuncId) (cap : List AV) (hcap : AV.freeL cap) (p : Int → Bool) (hp : ∀ x ∈ l, FnA Tryz.prog g (.raw (.int .i64 x) :: cap) (.raw (.bool (p x)))) :
    FnA Tryz.prog 126 [lA 1 iC l, .fn (.func g) [] cap] (.raw (.bool (l.any p))) := by
  have hi := indexFunc_Ints l hl g cap hcap p hp
  have hany := idxM_any p l
  have hfr : (lA 1 iC l).free := lA_free (fun _ => by simp [AV.free, AV.freeL, go_sem]) _
  generalize lA 1 iC l = L at hi hfr
  generalize idxM p l = i at hi hany
  refine fnA_of tblOk Tryz.func126 rfl (by kernel_rfl) 9 Tryz.ntmps126 lenT [.tmp 4] rfl ?_
  simp only [entrySt, argSl, Nat.zero_add, Nat.reduceAdd]
  repeat' first
    | refine wkG hi ?_
    | (refine cndS ⟨_, evl, ⟨cb, cb⟩, fun hb => ?_, fun hb => ?_⟩ <;> try (cases hb; done))
    | (refine Stop.mk ?_; intro K hK)
    | fail
  all_goals (try (refine ret_of (by simp) ⟨_, _, _, evl, ob0, OutOk.sims ?_ fre⟩))
  all_goals first | exact Sims.refl _ | exact finT | exact simsF | (refine Sims.tup ?_; simp only [SimsL, and_true]; (repeat' apply And.intro) <;> first | exact simsF | skip) | (exfalso; first | omega | (simp_all; done) | (simp_all; omega)) | skip
  all_goals (rw [hany])
theorem early_A (u s : Int) : FnA Tryz.prog 125 [.raw (.int .i64 u), .elt [.raw (.int .i64 s)] 0] (.raw (.bool (!(decide (s ≤ u) && decide (u ≤ 1000000000000000))))) := by
  refine fnA_of tblOk Tryz.func125 rfl (by kernel_rfl) 8 Tryz.ntmps125 lenT [.tmp 3] rfl ?_
  simp only [entrySt, argSl, Nat.zero_add, Nat.reduceAdd]
  repeat' first
    | (refine wkM hK within44_A ?_)
    | refine wkG within44_A ?_
    | (refine cndS ⟨_, evl, ⟨cb, cb⟩, fun hb => ?_, fun hb => ?_⟩ <;> try (cases hb; done))
    | (refine Stop.mk ?_; intro K hK)
    | fail
  all_goals (try (refine ret_of (by simp) ⟨_, _, _, evl, ob0, OutOk.sims ?_ fre⟩))
  all_goals first | exact Sims.refl _ | exact finT | exact simsF | (refine Sims.tup ?_; simp only [SimsL, and_true]; (repeat' apply And.intro) <;> first | exact simsF | skip) | (exfalso; first | omega | (simp_all; done) | (simp_all; omega)) | skip
theorem kept_A (c : Chain) (d : Diary) (hl : d.sent.length ≤ 4611686018427387904) (hg : ∀ g ∈ d.got, g.length ≤ 4611686018427387904) : FnA Tryz.prog 76 [.agg c.av, .agg d.av] (.raw (.bool (decide (diaryP c d)))) := by
  have hso := isSorted_A d.sent hl
  have hf1 : (lA 1 Round.av c.rounds).free := lA_free (fun y => Round.free y) _
  have hf2 := Diary.free d
  have hno : ∀ i, i < c.rounds.length → ¬ dayP c d i → ¬ diaryP c d := fun i hi hn h => hn (h.2.2.2.2.2 i hi)
  refine fnA_of tblOk Tryz.func76 rfl (by kernel_rfl) 81 Tryz.ntmps76 lenT [.tmp 4] rfl ?_
  simp only [entrySt, argSl, Nat.zero_add, Nat.reduceAdd]
  try (first | refine wkM hK (And.intro within44_A hso) ?_ | refine wkG (And.intro within44_A hso) ?_)
  try clear hK K
  try (refine Stop.mk ?_; intro K hK)
  refine cndS ⟨_, evl, ⟨cb, cb⟩, fun hb => ?_, fun hb => ?_⟩
  · try refine wkG trivial ?_
    try (refine Stop.mk ?_; intro K hK)
    refine ret_of (by simp) ⟨_, _, _, evl, ob0, OutOk.eq ?_ (by simp [AV.free])⟩
    simp only [AV.raw.injEq, Value.bool.injEq]
    rw [eq_comm, decide_eq_false_iff_not]
    intro h
    obtain ⟨h1, h2, h3, h4, h5, h6⟩ := h
    simp [h5] at hb
    omega
  · have hc : d.host = c.host ∧ (0 ≤ d.rate ∧ d.rate ≤ 1000000) ∧ d.sent.length = c.rounds.length ∧ d.got.length = c.rounds.length ∧ sortedP d.sent := by
      exact ⟨by omega, by omega, by omega, by omega, hb.2⟩
    clear hb
    try refine wkG trivial ?_
    try (refine Stop.mk ?_; intro K hK)
    refine wpA_loop (fun k : Nat => ⟨81, 0, [(2, true, .box 0 0), (3, true, .box 1 0), (44, true, liA d.sent), (45, true, .raw (.int .i64 d.sent.length)), (46, true, .raw (.int .i64 k))], [c.av, d.av], [], ((0, []), [], true)⟩)
      (fun k => k ≤ d.sent.length ∧ ∀ i, i < k → dayP c d i) (fun k => d.sent.length - k) 0 ?_ ⟨by omega, fun i h => by omega⟩ ?_
    · refine wkn ?_ ?_ ?_
      all_goals first | exact wk0 | refine wkS ?_ | skip
      all_goals (try trivial)
      all_goals ((repeat' apply And.intro) <;> first | exact wkL | skip)
    · rintro k ⟨hk, hall⟩
      try refine wkG trivial ?_
      try (refine Stop.mk ?_; intro K hK)
      refine wpA_cond' ⟨_, evl, fun hb => ?_, fun hb => ?_⟩
      · simp only [decide_eq_true_eq] at hb
        have hlt : k < d.sent.length := by omega
        have hgk := hg _ (memD (show k < d.got.length by omega))
        have hcf := containsFunc_Ints (d.got.getD k default) (by omega) 125 [.elt [.raw (.int .i64 (d.sent.getD k default))] 0] ⟨⟨trivial, trivial⟩, trivial⟩ (fun u => !(decide (d.sent.getD k default ≤ u) && decide (u ≤ 1000000000000000))) (fun u _ => early_A u _)
        have hnk := hno k (by omega)
        repeat (refine stG ?_)
        refine wpA_region (fun K hK => ?_)
        iterate 6 (refine stG ?_)
        refine runS_freeze 2 obf ⟨_, evl, _, evl, ?_⟩
        try (first | refine wkM hK (And.intro within44_A hcf) ?_ | refine wkG (And.intro within44_A hcf) ?_)
        try clear hK K
        try (refine Stop.mk ?_; intro K hK)
        have e : (!(decide (0 ≤ d.sent.getD k 0) && decide (d.sent.getD k 0 ≤ 1000000000000000)) || !(decide (((d.got.getD k default).length : Int) = (c.rounds.getD k default).replies.length)) || (d.got.getD k default).any fun u => !(decide (d.sent.getD k 0 ≤ u) && decide (u ≤ 1000000000000000))) = !decide (dayP c d k) := by
          rw [Bool.eq_iff_iff, Bool.not_eq_true', decide_eq_false_iff_not]
          unfold dayP inD
          simp only [Bool.or_eq_true, Bool.not_eq_true', Bool.and_eq_false_iff, decide_eq_false_iff_not, List.any_eq_true, show (default : Int) = 0 from rfl]
          constructor
          · rintro ((h | h) | ⟨u, hu, h⟩) h2
            · omega
            · have := h2.2.1; omega
            · have := h2.2.2 u hu; omega
          · intro h
            refine Classical.byContradiction fun h2 => h ⟨?_, ?_, fun u hu => ?_⟩
            · exact Classical.byContradiction fun h3 => h2 (.inl (.inl (by omega)))
            · exact Classical.byContradiction fun h3 => h2 (.inl (.inr (by omega)))
            · exact Classical.byContradiction fun h3 => h2 (.inr ⟨u, hu, by omega⟩)
        refine wpA_cond' ⟨_, evl, fun hb2 => ?_, fun hb2 => ?_⟩
        · rw [e] at hb2
          try refine wkG trivial ?_
          try (refine Stop.mk ?_; intro K hK)
          refine ret_of (by simp) ⟨_, _, _, evl, ob0, OutOk.eq ?_ (by simp [AV.free])⟩
          simp only [AV.raw.injEq, Value.bool.injEq]
          rw [eq_comm, decide_eq_false_iff_not]
          exact hnk (by simpa using hb2)
        · rw [e] at hb2
          try refine wkG trivial ?_
          try (refine Stop.mk ?_; intro K hK)
          refine ⟨k + 1, ⟨by omega, fun i hi => ?_⟩, by omega, ?_⟩
          · rcases Nat.lt_succ_iff_lt_or_eq.1 hi with h | rfl
            · exact hall i h
            · simpa using hb2
          · refine wkn ?_ ?_ ?_
            all_goals first | exact wk0 | refine wkS ?_ | skip
            all_goals (try trivial)
            all_goals ((repeat' apply And.intro) <;> first | exact wkL | skip)
      · simp only [decide_eq_false_iff_not] at hb
        try refine wkG trivial ?_
        try (refine Stop.mk ?_; intro K hK)
        refine ret_of (by simp) ⟨_, _, _, evl, ob0, OutOk.eq ?_ (by simp [AV.free])⟩
        simp only [AV.raw.injEq, Value.bool.injEq]
        rw [eq_comm, decide_eq_true_eq]
        exact ⟨hc.1, hc.2.1, hc.2.2.1, hc.2.2.2.1, hc.2.2.2.2, fun i hi => hall i (by omega)⟩
def prevId (l : List Auth) (i : Nat) : Int := if i = 0 then 0 else (l.getD (i - 1) default).id
def authOkP (l : List Auth) (i : Nat) : Prop := (prevId l i < (l.getD i default).id ∧ (l.getD i default).id ≤ 16) ∧ 0 ≤ (l.getD i default).err ∧ (l.getD i default).err ≤ 1000000
instance (l : List Auth) (i : Nat) : Decidable (authOkP l i) := by unfold authOkP; infer_instance
def authsP (l : List Auth) : Prop := ∀ i, i < l.length → authOkP l i
instance (l : List Auth) : Decidable (authsP l) := by unfold authsP; infer_instance
theorem authorities_A (l : List Auth) (hl : l.length ≤ 4611686018427387904) : FnA Tryz.prog 73 [lA 4 Auth.av l] (.raw (.bool (decide (authsP l)))) := by
  have hfr : (lA 4 Auth.av l).free := lA_free (fun y => Auth.free y) _
  refine fnA_of tblOk Tryz.func73 rfl (by kernel_rfl) 30 Tryz.ntmps73 lenT [.tmp 2] rfl ?_
  simp only [entrySt, argSl, Nat.zero_add, Nat.reduceAdd]
  try refine wkG trivial ?_
  try (refine Stop.mk ?_; intro K hK)
  refine wpA_loop (fun k : Nat => ⟨30, 0, [(3, true, .raw (.int .i64 (prevId l k))), (6, true, lA 4 Auth.av l), (7, true, .raw (.int .i64 l.length)), (8, true, .raw (.int .i64 k))], [], [], ((0, []), [], true)⟩)
    (fun k => k ≤ l.length ∧ ∀ i, i < k → authOkP l i) (fun k => l.length - k) 0 ?_ ⟨by omega, fun i h => by omega⟩ ?_
  · refine wkn ?_ ?_ ?_
    all_goals first | exact wk0 | refine wkS ?_ | skip
    all_goals (try trivial)
    all_goals ((repeat' apply And.intro) <;> first | exact wkL | skip)
  · rintro k ⟨hk, hall⟩
    have hs : prevId l (k + 1) = (l.getD k default).id := rfl
    have ho : authOkP l k ↔ (prevId l k < (l.getD k default).id ∧ (l.getD k default).id ≤ 16) ∧ 0 ≤ (l.getD k default).err ∧ (l.getD k default).err ≤ 1000000 := Iff.rfl
    have hno : authsP l → k < l.length → authOkP l k := fun h => h k
    generalize prevId l k = pv at *
    repeat' first
      | (refine wkM hK within44_A ?_)
      | refine wkG within44_A ?_
      | (refine cndS ⟨_, evl, ⟨cb, cb⟩, fun hb => ?_, fun hb => ?_⟩ <;> try (cases hb; done))
      | (refine Stop.mk ?_; intro K hK)
      | fail
    · refine ret_of (by simp) ⟨_, _, _, evl, ob0, OutOk.eq ?_ (by simp [AV.free])⟩
      simp only [AV.raw.injEq, Value.bool.injEq]
      rw [eq_comm, decide_eq_false_iff_not]
      intro h
      have := ho.1 (hno h (by omega))
      omega
    · refine ⟨k + 1, ⟨by omega, fun i hi => ?_⟩, by omega, ?_⟩
      · rcases Nat.lt_succ_iff_lt_or_eq.1 hi with h | rfl
        · exact hall i h
        · exact ho.2 (by omega)
      · rw [hs]
        refine wkn ?_ ?_ ?_
        all_goals first | exact wk0 | refine wkS ?_ | skip
        all_goals (try trivial)
        all_goals ((repeat' apply And.intro) <;> first | exact wkL | skip)
    · refine ret_of (by simp) ⟨_, _, _, evl, ob0, OutOk.eq ?_ (by simp [AV.free])⟩
      simp only [AV.raw.injEq, Value.bool.injEq]
      rw [eq_comm, decide_eq_true_eq]
      exact fun i hi => hall i (by omega)
theorem wired44_A (l : List Wire) (hl : l.length ≤ 4611686018427387904) (hc : ∀ w ∈ l, w.changes.length ≤ 4611686018427387904) : FnA Tryz.prog 74 [lA 3 Wire.av l] (.raw (.bool (decide (wiredP l)))) := by
  have h := sentR_A [] (by simp) (by simp) l hl hc 1 [] (by simp) (by simp) ⟨0, 0⟩
  have e : sentS [] l 1 [] ⟨0, 0⟩ = ([], if wiredP l then 0 else 1) := by
    unfold sentS
    by_cases hw : wiredP l
    · rw [if_pos ⟨by decide, by decide, by decide, hw, by decide⟩, if_pos hw]; rfl
    · rw [if_neg fun h => hw h.2.2.2.1, if_neg hw]
  rw [e] at h
  have hw : decide (wiredP l) = decide ((if wiredP l then (0 : Int) else 1) = 0) := by
    by_cases hw : wiredP l <;> simp [hw]
  rw [hw]
  generalize (if wiredP l then (0 : Int) else 1) = z at *
  clear e hw
  have hfr : (lA 2 Iv.av []).free := lA_free (fun y => Iv.free y) _
  refine fnA_of tblOk Tryz.func74 rfl (by kernel_rfl) 14 Tryz.ntmps74 lenT [.tmp 2] rfl ?_
  simp only [entrySt, argSl, Nat.zero_add, Nat.reduceAdd]
  repeat'
    first
      | first
        | (refine runS_nil (hK _ ?_); clear hK K)
        | refine stG ?_
        | (refine gateS 1 rfl ?_; refine runS_call rfl rfl ⟨_, evl, _, _, _, evl, oblG, ?_⟩; apply Exists.intro; refine ⟨fun hg => ?_, ?_⟩; · first | exact FnA.sim h ⟨Sim.nil rfl, Sim.refl _, Sim.refl _, Sim.agg ⟨Sim.nil rfl, trivial⟩, Sim.refl _, trivial⟩ )
        | (refine gateA 1 rfl ?_; refine runA_call rfl ⟨_, evl, _, _, _, (fun _ _ => evlA), oblG, ?_⟩; apply Exists.intro; refine ⟨fun hg => ?_, ?_⟩; · first | exact FnA.sim h ⟨Sim.nil rfl, Sim.refl _, Sim.refl _, Sim.agg ⟨Sim.nil rfl, trivial⟩, Sim.refl _, trivial⟩ )
        | (refine gateA 1 rfl ?_; refine runA_put ?_)
        | (refine gateBc ?_; first | (refine runB_nil (hK _ ?_); clear hK K) | (refine runB_op rfl ⟨_, evl, fun nb' => ?_⟩))
        | refine wpA_region (fun K hK => ?_)
        | (refine gateD ?_; first | (refine wpA_drawG false rfl (by kernel_rfl) (by kernel_rfl) (fun K hK => ?_)) | (refine wpA_drawG true rfl (by kernel_rfl) (by kernel_rfl) (fun K hK => ?_)))
        | (refine wpA_cond' ⟨_, evl, fun hb => ?_, fun hb => ?_⟩ <;> (try simp only [Bool.or_eq_true, Bool.and_eq_true, Bool.or_eq_false_iff, Bool.and_eq_false_iff, Bool.not_eq_true', Bool.not_eq_false', Bool.not_eq_true, Bool.not_eq_false, decide_eq_true_eq, decide_eq_false_iff_not, Bool.true_eq_false, Bool.false_eq_true, ne_eq, Classical.not_not, Int.not_lt, Int.not_le, Bool.not_true, Bool.not_false] at hb))
      | fail
  all_goals (try (refine ret_of (by simp) ⟨_, _, _, evl, ob0, OutOk.sims ?_ fre⟩))
  all_goals first | exact Sims.refl _ | exact finT | exact simsF | (refine Sims.tup ?_; simp only [SimsL, and_true]; (repeat' apply And.intro) <;> first | exact simsF | skip) | (exfalso; first | omega | (simp_all; done) | (simp_all; omega)) | skip
structure OkM (m : Matter) : Prop where
  kl : m.evidence.keys.length ≤ 4611686018427387904
  kf : ∀ k ∈ m.evidence.keys, k.fits
  al : m.evidence.auths.length ≤ 4611686018427387904
  wl : m.wires.length ≤ 4611686018427387904
  wc : ∀ w ∈ m.wires, w.changes.length ≤ 4611686018427387904
  cl : m.evidence.chains.length ≤ 4611686018427387904
  ch : ∀ c ∈ m.evidence.chains, c.rounds.length ≤ 4611686018427387904 ∧ inK .i64 c.host ∧ ∀ r ∈ c.rounds, r.replies.length ≤ 400000 ∧ ∀ x ∈ r.replies, x.fits
  dl : m.diaries.length ≤ 4611686018427387904
  di : ∀ d ∈ m.diaries, d.sent.length ≤ 4611686018427387904 ∧ ∀ g ∈ d.got, g.length ≤ 4611686018427387904
def prevHost (l : List Chain) (i : Nat) : Int := if i = 0 then 0 else (l.getD (i - 1) default).host
def caseP (m : Matter) (i : Nat) : Prop := prevHost m.evidence.chains i < (m.evidence.chains.getD i default).host ∧ chainP (m.evidence.chains.getD i default) ∧ diaryP (m.evidence.chains.getD i default) (m.diaries.getD i default)
instance (m : Matter) (i : Nat) : Decidable (caseP m i) := by unfold caseP; infer_instance
def formP (m : Matter) : Prop := ValidP m.evidence.keys ∧ authsP m.evidence.auths ∧ (0 ≤ m.evidence.f ∧ m.evidence.f ≤ 5) ∧ wiredP m.wires ∧ m.evidence.chains.length ≤ 8 ∧ m.diaries.length = m.evidence.chains.length ∧ ∀ i, i < m.evidence.chains.length → caseP m i
instance (m : Matter) : Decidable (formP m) := by unfold formP; infer_instance
theorem formed44_A (m : Matter) (h : OkM m) : FnA Tryz.prog 30 [.agg m.av] (.raw (.bool (decide (formP m)))) := by
  have h1 := valid_A m.evidence.keys h.kl h.kf
  have h2 := authorities_A m.evidence.auths h.al
  have h3 := wired44_A m.wires h.wl h.wc
  have f0 := Matter.free m
  have f1 : (lA 7 KeyWin.av m.evidence.keys).free := lA_free (fun y => KeyWin.free y) _
  have f2 : (lA 4 Auth.av m.evidence.auths).free := lA_free (fun y => Auth.free y) _
  have f3 : (lA 3 Wire.av m.wires).free := lA_free (fun y => Wire.free y) _
  by_cases hc : ValidP m.evidence.keys ∧ authsP m.evidence.auths ∧ (0 ≤ m.evidence.f ∧ m.evidence.f ≤ 5) ∧ wiredP m.wires ∧ m.evidence.chains.length ≤ 8 ∧ m.diaries.length = m.evidence.chains.length
  · have hno : ∀ i, i < m.evidence.chains.length → ¬ caseP m i → decide (formP m) = false := fun i hi hn => decide_eq_false fun h => hn (h.2.2.2.2.2.2 i hi)
    have hyes : (∀ i, i < m.evidence.chains.length → caseP m i) → decide (formP m) = true := fun h => decide_eq_true ⟨hc.1, hc.2.1, hc.2.2.1, hc.2.2.2.1, hc.2.2.2.2.1, hc.2.2.2.2.2, h⟩
    rw [decide_eq_true hc.1] at h1
    rw [decide_eq_true hc.2.1] at h2
    rw [decide_eq_true hc.2.2.2.1] at h3
    have h4 := within44_A m.evidence.f 0 5
    rw [decide_eq_true hc.2.2.1.1, decide_eq_true hc.2.2.1.2] at h4
    have hl1 := hc.2.2.2.2.1
    have hl2 := hc.2.2.2.2.2
    have hfive := hc.2.2.1
    have hch := h.ch
    have hdi := h.di
    clear hc h
    generalize decide (formP m) = F at *
    refine fnA_of tblOk Tryz.func30 rfl (by kernel_rfl) 76 Tryz.ntmps30 lenT [.tmp 2] rfl ?_
    simp only [entrySt, argSl, Nat.zero_add, Nat.reduceAdd]
    try refine wkG (And.intro h1 (And.intro h2 (And.intro h3 h4))) ?_
    try (refine Stop.mk ?_; intro K hK)
    refine wpA_cond' ⟨_, evl, fun hb => absurd hb (by simp; omega), fun _ => ?_⟩
    try refine wkG trivial ?_
    try (refine Stop.mk ?_; intro K hK)
    refine wpA_loop (fun k : Nat => ⟨76, 0, [(1, true, .box 0 0), (3, true, .box 1 0), (4, true, .raw (.int .i64 (prevHost m.evidence.chains k))), (47, true, lA 2 Chain.av m.evidence.chains), (48, true, .raw (.int .i64 m.evidence.chains.length)), (49, true, .raw (.int .i64 k))], [m.av, m.evidence.av], [], ((0, []), [], true)⟩)
      (fun k => k ≤ m.evidence.chains.length ∧ ∀ i, i < k → caseP m i) (fun k => m.evidence.chains.length - k) 0 ?_ ⟨by omega, fun i h => by omega⟩ ?_
    · refine wkn ?_ ?_ ?_
      all_goals first | exact wk0 | refine wkS ?_ | skip
      all_goals (try trivial)
      all_goals ((repeat' apply And.intro) <;> first | exact wkL | skip)
    · rintro k ⟨hk, hall⟩
      clear h1 h2 h3 h4
      rcases Nat.lt_or_ge k m.evidence.chains.length with hlt | hge
      · have hs : prevHost m.evidence.chains (k + 1) = (m.evidence.chains.getD k default).host := rfl
        obtain ⟨g1, g2, g3⟩ := hch _ (memD hlt)
        obtain ⟨g4, g5⟩ := hdi _ (memD (show k < m.diaries.length by omega))
        have h5 := cvalid_A (m.evidence.chains.getD k default) g1 g2 g3
        have h6 := kept_A (m.evidence.chains.getD k default) (m.diaries.getD k default) g4 g5
        have hnk := hno k hlt
        have ho : caseP m k ↔ prevHost m.evidence.chains k < (m.evidence.chains.getD k default).host ∧ decide (chainP (m.evidence.chains.getD k default)) = true ∧ decide (diaryP (m.evidence.chains.getD k default) (m.diaries.getD k default)) = true := by
          rw [decide_eq_true_eq, decide_eq_true_eq]; rfl
        have hfc := Chain.free (m.evidence.chains.getD k default)
        have hfd := Diary.free (m.diaries.getD k default)
        clear hch hdi hno g1 g2 g3 g4 g5
        generalize decide (chainP (m.evidence.chains.getD k default)) = b1 at *
        generalize decide (diaryP (m.evidence.chains.getD k default) (m.diaries.getD k default)) = b2 at *
        generalize prevHost m.evidence.chains k = pv at *
        try refine wkG trivial ?_
        try (refine Stop.mk ?_; intro K hK)
        refine wpA_cond' ⟨_, evl, fun _ => ?_, fun hb => absurd (of_decide_eq_false hb) (by omega)⟩
        try refine wkG (And.intro h5 h6) ?_
        try (refine Stop.mk ?_; intro K hK)
        refine cndS ⟨_, evl, ⟨cb, cb⟩, fun hb => ?_, fun hb => ?_⟩
        · rw [hnk fun h => by
            obtain ⟨a1, a2, a3⟩ := ho.1 h
            rcases hb with (hb | hb) | hb
            · omega
            · rw [a2] at hb; cases hb
            · rw [a3] at hb; cases hb]
          try refine wkG trivial ?_
          try (refine Stop.mk ?_; intro K hK)
          refine ret_of (by simp) ⟨_, _, _, evl, ob0, OutOk.eq ?_ ?_⟩
          · rfl
          · simp [AV.free]
        · try refine wkG trivial ?_
          try (refine Stop.mk ?_; intro K hK)
          refine ⟨k + 1, ⟨by omega, fun i hi => ?_⟩, by omega, ?_⟩
          · rcases Nat.lt_succ_iff_lt_or_eq.1 hi with h | rfl
            · exact hall i h
            · exact ho.2 ⟨by omega, by simp_all, by simp_all⟩
          · rw [hs]
            refine wkn ?_ ?_ ?_
            all_goals first | exact wk0 | refine wkS ?_ | skip
            all_goals (try trivial)
            all_goals ((repeat' apply And.intro) <;> first | exact wkL | skip)
      · obtain rfl : k = m.evidence.chains.length := by omega
        rw [hyes hall]
        try refine wkG trivial ?_
        try (refine Stop.mk ?_; intro K hK)
        refine wpA_cond' ⟨_, evl, fun hb => absurd (of_decide_eq_true hb) (by omega), fun _ => ?_⟩
        try refine wkG trivial ?_
        try (refine Stop.mk ?_; intro K hK)
        refine ret_of (by simp) ⟨_, _, _, evl, ob0, OutOk.eq ?_ ?_⟩
        · rfl
        · simp [AV.free]
  · rw [decide_eq_false fun h : formP m => hc ⟨h.1, h.2.1, h.2.2.1, h.2.2.2.1, h.2.2.2.2.1, h.2.2.2.2.2.1⟩]
    have hno : decide (ValidP m.evidence.keys) = true → decide (authsP m.evidence.auths) = true → (0 ≤ m.evidence.f ∧ m.evidence.f ≤ 5) → decide (wiredP m.wires) = true → (m.evidence.chains.length : Int) ≤ 8 → (m.diaries.length : Int) = m.evidence.chains.length → False :=
      fun a b c d e f => hc ⟨of_decide_eq_true a, of_decide_eq_true b, c, of_decide_eq_true d, by omega, by omega⟩
    clear hc h
    generalize decide (ValidP m.evidence.keys) = b1 at *
    generalize decide (authsP m.evidence.auths) = b2 at *
    generalize decide (wiredP m.wires) = b3 at *
    refine fnA_of tblOk Tryz.func30 rfl (by kernel_rfl) 76 Tryz.ntmps30 lenT [.tmp 2] rfl ?_
    simp only [entrySt, argSl, Nat.zero_add, Nat.reduceAdd]
    try (first | refine wkM hK (And.intro h1 (And.intro h2 (And.intro h3 within44_A))) ?_ | refine wkG (And.intro h1 (And.intro h2 (And.intro h3 within44_A))) ?_)
    try clear hK K
    try (refine Stop.mk ?_; intro K hK)
    refine cndS ⟨_, evl, ⟨cb, cb⟩, fun hb => ?_, fun hb => ?_⟩
    · try refine wkG trivial ?_
      try (refine Stop.mk ?_; intro K hK)
      refine ret_of (by simp) ⟨_, _, _, evl, ob0, OutOk.eq ?_ ?_⟩
      · rfl
      · simp [AV.free]
    · exfalso
      exact hno (by simp_all) (by simp_all) (by omega) (by simp_all) (by omega) (by omega)
end Go.Proofs.YtchpbdecipcelaaGreatDoor
