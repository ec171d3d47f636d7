import Derived.Test.YtchpbdecipcelaaGreatDoorSM06
import Derived.Test.YtchpbdecipcelaaGreatDoorSM14
namespace Go.Proofs.YtchpbdecipcelaaGreatDoor
set_option linter.unusedVariables false
set_option linter.unusedSimpArgs false
set_option maxHeartbeats 4000000
set_option maxRecDepth 100000
open Go.RowKit
structure KeyWin where
  auth : Int
  id : Int
  pub : Int
  from_ : Int
  until_ : Int
  sig : Sig
  deriving Inhabited, DecidableEq
@[go_sem] def KeyWin.av (x : KeyWin) : List AV := [.raw (.int .i64 x.auth), .raw (.int .i64 x.id), .raw (.int .i64 x.pub), .raw (.int .i64 x.from_), .raw (.int .i64 x.until_), .raw (.int .i64 x.sig.c), .raw (.int .i64 x.sig.s)]
def KeyWin.fits (x : KeyWin) : Prop := (inK .i64 x.auth) ∧ (inK .i64 x.id) ∧ (inK .i64 x.pub) ∧ (inK .i64 x.from_) ∧ (inK .i64 x.until_) ∧ (x.sig.fits)
@[simp] theorem KeyWin.free (x : KeyWin) : AV.freeL x.av := ⟨trivial, trivial, trivial, trivial, trivial, trivial, trivial, trivial⟩
theorem between_A (n lo hi : Int) : FnA Tryz.prog 173 [.raw (.int .i64 n), .raw (.int .i64 lo), .raw (.int .i64 hi)] (.raw (.bool (decide (lo ≤ n) && decide (n ≤ hi)))) := by
  refine fnA_of tblOk Tryz.func173 rfl (by kernel_rfl) 15 Tryz.ntmps173 lenT [.tmp 6] rfl ?_
  simp only [entrySt, argSl, Nat.zero_add, Nat.reduceAdd]
  repeat' first
    | refine wkG trivial ?_
    | (refine cndS ⟨_, evl, ⟨cb, cb⟩, fun hb => ?_, fun hb => ?_⟩ <;> try (cases hb; done))
    | (refine Stop.mk ?_; intro K hK)
    | fail
  all_goals (try (refine ret_of (by simp) ⟨_, _, _, evl, ob0, OutOk.sims ?_ fre⟩))
  all_goals first | exact Sims.refl _ | exact finT | exact simsF | (refine Sims.tup ?_; simp only [SimsL, and_true]; (repeat' apply And.intro) <;> first | exact simsF | skip) | (exfalso; first | omega | (simp_all; done) | (simp_all; omega)) | skip
def formedP (k : KeyWin) : Prop := 1 ≤ k.auth ∧ k.auth ≤ 16 ∧ 1 ≤ k.id ∧ k.id ≤ 1000 ∧ 0 ≤ k.from_ ∧ k.from_ < k.until_ ∧ k.until_ ≤ 3000000000000000 ∧ k.pub ≠ 1 ∧ memberM k.pub = true ∧ withinM k.sig.c 0 = true ∧ withinM k.sig.s 0 = true
instance (k : KeyWin) : Decidable (formedP k) := by unfold formedP; infer_instance
theorem formed_A (k : KeyWin) : FnA Tryz.prog 118 [.agg k.av] (.raw (.bool (decide (formedP k)))) := by
  refine fnA_of tblOk Tryz.func118 rfl (by kernel_rfl) 50 Tryz.ntmps118 lenT [.tmp 2] rfl ?_
  simp only [entrySt, argSl, Nat.zero_add, Nat.reduceAdd]
  repeat' first
    | (refine wkM hK (And.intro between_A member_A) ?_)
    | refine wkG (And.intro between_A member_A) ?_
    | (refine cndS ⟨_, evl, ⟨cb, cb⟩, fun hb => ?_, fun hb => ?_⟩ <;> try (cases hb; done))
    | (refine Stop.mk ?_; intro K hK)
    | fail
  all_goals (try (refine ret_of (by simp) ⟨_, _, _, evl, ob0, OutOk.sims ?_ fre⟩))
  all_goals first | exact Sims.refl _ | (refine Sims.of_eq ?_; first | rfl | (simp [formedP]; done) | (simp_all [formedP]; done) | (simp_all [formedP]; omega) | (simp [formedP, withinM]; grind) | (simp [formedP]; grind) | (split <;> simp_all)) | exact simsF | (refine Sims.tup ?_; simp only [SimsL, and_true]; (repeat' apply And.intro) <;> first | exact simsF | skip) | (exfalso; first | omega | (simp_all; done) | (simp_all; omega)) | skip
def msgM (k : KeyWin) : List Int := [k.auth, k.id, k.pub, k.from_, k.until_]
theorem ints_KA (l : List Int) : FnA Tryz.prog 243 [liA l] (liA l) := by
  refine fnA_of tblOk Tryz.func243 rfl (by kernel_rfl) 4 Tryz.ntmps243 lenT [.tmp 2] rfl ?_
  simp only [entrySt, argSl, Nat.zero_add, Nat.reduceAdd]
  repeat' first
    | refine wkG trivial ?_
    | (refine cndS ⟨_, evl, ⟨cb, cb⟩, fun hb => ?_, fun hb => ?_⟩ <;> try (cases hb; done))
    | (refine Stop.mk ?_; intro K hK)
    | fail
  all_goals (try (refine ret_of (by simp) ⟨_, _, _, evl, ob0, OutOk.sims ?_ fre⟩))
  all_goals first | exact Sims.refl _ | exact finT | exact simsF | (refine Sims.tup ?_; simp only [SimsL, and_true]; (repeat' apply And.intro) <;> first | exact simsF | skip) | (exfalso; first | omega | (simp_all; done) | (simp_all; omega)) | skip
theorem message_A (k : KeyWin) : FnA Tryz.prog 222 [.agg k.av] (liA (msgM k)) := by
  refine fnA_of tblOk Tryz.func222 rfl (by kernel_rfl) 15 Tryz.ntmps222 lenT [.tmp 2] rfl ?_
  simp only [entrySt, argSl, Nat.zero_add, Nat.reduceAdd]
  repeat' first
    | refine wkG (ints_KA (msgM k)) ?_
    | (refine cndS ⟨_, evl, ⟨cb, cb⟩, fun hb => ?_, fun hb => ?_⟩ <;> try (cases hb; done))
    | (refine Stop.mk ?_; intro K hK)
    | fail
  all_goals (try (refine ret_of (by simp) ⟨_, _, _, evl, ob0, OutOk.sims ?_ fre⟩))
  all_goals first | exact Sims.refl _ | exact finT | exact simsF | (refine Sims.tup ?_; simp only [SimsL, and_true]; (repeat' apply And.intro) <;> first | exact simsF | skip) | (exfalso; first | omega | (simp_all; done) | (simp_all; omega)) | skip
theorem indexFunc_KeyWin (l : List KeyWin) (hl : l.length ≤ 4611686018427387904) (g : FuncId) (cap : List AV) (hcap : AV.freeL cap) (p : KeyWin → Bool) (hp : ∀ x ∈ l, FnA Tryz.prog g (.agg x.av :: cap) (.raw (.bool (p x)))) :
    FnA Tryz.prog 220 [lA 7 KeyWin.av l, .fn (.func g) [] cap] (.raw (.int .i64 (idxM p l))) := by
  refine fnA_of tblOk Tryz.func220 rfl (by kernel_rfl) 19 Tryz.ntmps220 lenT [.tmp 4] rfl ?_
  simp only [entrySt, argSl, Nat.zero_add, Nat.reduceAdd]
  try refine wkG trivial ?_
  try (refine Stop.mk ?_; intro K hK)
  refine wpA_loop (fun k : Nat => ⟨19, 0, [(0, true, lA 7 KeyWin.av l), (1, true, .fn (.func g) [] cap), (7, true, .raw (.int .i64 l.length)), (8, true, .raw (.int .i64 k))], [], [], ((0, []), [], true)⟩)
    (fun k => k ≤ l.length ∧ ∀ i, i < k → p (l.getD i default) = false) (fun k => l.length - k) 0 ?_ ⟨by omega, fun i h => by omega⟩ ?_
  · refine wkn ?_ ?_ ?_
    all_goals first | exact wk0 | refine wkS ?_ | skip
    all_goals (try trivial)
    all_goals ((repeat' apply And.intro) <;> first | exact wkL | skip)
  · rintro k ⟨hk, hall⟩
    try refine wkG trivial ?_
    try (refine Stop.mk ?_; intro K hK)
    refine wpA_cond' ⟨_, evl, ?_, ?_⟩
    · intro hlt
      simp only [decide_eq_true_eq] at hlt
      have hmem : l.getD k default ∈ l := by rw [List.getD_eq_getElem?_getD, List.getElem?_eq_getElem (show k < l.length by omega)]; exact List.getElem_mem _
      have hpk := hp _ hmem
      have hfe : AV.freeL (KeyWin.av (l.getD k default)) := by first | exact KeyWin.free _ | (simp [AV.free, AV.freeL, iC, u8C, kC]; done)
      try refine wkG hpk ?_
      try (refine Stop.mk ?_; intro K hK)
      refine wpA_cond' ⟨_, evl, ?_, ?_⟩
      · intro hb
        try refine wkG trivial ?_
        try (refine Stop.mk ?_; intro K hK)
        refine ret_of (by simp) ⟨_, _, _, evl, ob0, OutOk.eq ?_ ?_⟩
        · rw [idxM_hit (show k < l.length by omega) hall hb]
        · simp [AV.free]
      · intro hb
        try refine wkG trivial ?_
        try (refine Stop.mk ?_; intro K hK)
        refine ⟨k + 1, ⟨by omega, fun i hi => ?_⟩, by omega, ?_⟩
        · rcases Nat.lt_succ_iff_lt_or_eq.1 hi with h | rfl
          · exact hall i h
          · exact hb
        · refine wkn ?_ ?_ ?_
          all_goals first | exact wk0 | refine wkS ?_ | skip
          all_goals (try trivial)
          all_goals ((repeat' apply And.intro) <;> first | exact wkL | skip)
    · intro hge
      simp only [decide_eq_false_iff_not] at hge
      try refine wkG trivial ?_
      try (refine Stop.mk ?_; intro K hK)
      refine ret_of (by simp) ⟨_, _, _, evl, ob0, OutOk.eq ?_ ?_⟩
      · rw [idxM_none (fun i hi => hall i (by omega))]
      · simp [AV.free]
theorem containsFunc_KeyWin (l : List KeyWin) (hl : l.length ≤ 4611686018427387904) (g : FuncId) (cap : List AV) (hcap : AV.freeL cap) (p : KeyWin → Bool) (hp : ∀ x ∈ l, FnA Tryz.prog g (.agg x.av :: cap) (.raw (.bool (p x)))) :
    FnA Tryz.prog 171 [lA 7 KeyWin.av l, .fn (.func g) [] cap] (.raw (.bool (l.any p))) := by
  have hi := indexFunc_KeyWin l hl g cap hcap p hp
  have hany := idxM_any p l
  have hfr : (lA 7 KeyWin.av l).free := lA_free (fun y => KeyWin.free y) _
  generalize lA 7 KeyWin.av l = L at hi hfr
  generalize idxM p l = i at hi hany
  refine fnA_of tblOk Tryz.func171 rfl (by kernel_rfl) 9 Tryz.ntmps171 lenT [.tmp 4] rfl ?_
  simp only [entrySt, argSl, Nat.zero_add, Nat.reduceAdd]
  repeat' first
    | refine wkG hi ?_
    | (refine cndS ⟨_, evl, ⟨cb, cb⟩, fun hb => ?_, fun hb => ?_⟩ <;> try (cases hb; done))
    | (refine Stop.mk ?_; intro K hK)
    | fail
  all_goals (try (refine ret_of (by simp) ⟨_, _, _, evl, ob0, OutOk.sims ?_ fre⟩))
  all_goals first | exact Sims.refl _ | exact finT | exact simsF | (refine Sims.tup ?_; simp only [SimsL, and_true]; (repeat' apply And.intro) <;> first | exact simsF | skip) | (exfalso; first | omega | (simp_all; done) | (simp_all; omega)) | skip
  all_goals (rw [hany])
end Go.Proofs.YtchpbdecipcelaaGreatDoor
namespace Go.Proofs.YtchpbdecipcelaaGreatDoor
set_option linter.unusedVariables false
set_option linter.unusedSimpArgs false
set_option maxHeartbeats 4000000
set_option maxRecDepth 100000
open Go.RowKit
theorem isNaN_A (x : Int) : FnA Tryz.prog 159 [.raw (.int .i64 x)] (.raw (.bool false)) := by
  refine fnA_of tblOk Tryz.func159 rfl (by kernel_rfl) 6 Tryz.ntmps159 lenT [.tmp 2] rfl ?_
  simp only [entrySt, argSl, Nat.zero_add, Nat.reduceAdd]
  repeat' first
    | refine wkG trivial ?_
    | (refine cndS ⟨_, evl, ⟨cb, cb⟩, fun hb => ?_, fun hb => ?_⟩ <;> try (cases hb; done))
    | (refine Stop.mk ?_; intro K hK)
    | fail
  all_goals (try (refine ret_of (by simp) ⟨_, _, _, evl, ob0, OutOk.sims ?_ fre⟩))
  all_goals first | exact Sims.refl _ | exact finT | exact simsF | (refine Sims.tup ?_; simp only [SimsL, and_true]; (repeat' apply And.intro) <;> first | exact simsF | skip) | (exfalso; first | omega | (simp_all; done) | (simp_all; omega)) | skip
def cmpI (x y : Int) : Int := if x < y then -1 else if y < x then 1 else 0
theorem compareI_A (x y : Int) : FnA Tryz.prog 102 [.raw (.int .i64 x), .raw (.int .i64 y)] (.raw (.int .i64 (cmpI x y))) := by
  refine fnA_of tblOk Tryz.func102 rfl (by kernel_rfl) 20 Tryz.ntmps102 lenT [.tmp 4] rfl ?_
  simp only [entrySt, argSl, Nat.zero_add, Nat.reduceAdd]
  repeat' first
    | (refine wkM hK isNaN_A ?_)
    | refine wkG isNaN_A ?_
    | (refine cndS ⟨_, evl, ⟨cb, cb⟩, fun hb => ?_, fun hb => ?_⟩ <;> try (cases hb; done))
    | (refine Stop.mk ?_; intro K hK)
    | fail
  all_goals (try (refine ret_of (by simp) ⟨_, _, _, evl, ob0, OutOk.sims ?_ fre⟩))
  all_goals first | exact Sims.refl _ | (refine Sims.of_eq ?_; first | rfl | (simp [cmpI]; done) | (simp_all [cmpI]; done) | (simp_all [cmpI]; omega) | (simp [cmpI]; grind) | (split <;> simp_all)) | exact simsF | (refine Sims.tup ?_; simp only [SimsL, and_true]; (repeat' apply And.intro) <;> first | exact simsF | skip) | (exfalso; first | omega | (simp_all; done) | (simp_all; omega)) | skip
theorem or2_A (a b : Int) : FnA Tryz.prog 101 [liA [a, b]] (.raw (.int .i64 (if a = 0 then b else a))) := by
  refine fnA_of tblOk Tryz.func101 rfl (by kernel_rfl) 18 Tryz.ntmps101 lenT [.tmp 2] rfl ?_
  simp only [entrySt, argSl, Nat.zero_add, Nat.reduceAdd]
  try refine wkG trivial ?_
  try (refine Stop.mk ?_; intro K hK)
  refine wpA_loop (fun k : Nat => ⟨18, 0, [(3, true, .raw (.int .i64 0)), (6, true, liA [a, b]), (7, true, .raw (.int .i64 2)), (8, true, .raw (.int .i64 k))], [], [], ((0, []), [], true)⟩)
    (fun k => k ≤ 2 ∧ ∀ i, i < k → [a, b].getD i 0 = 0) (fun k => 2 - k) 0 ?_ ⟨by omega, fun i h => by omega⟩ ?_
  · refine wkn ?_ ?_ ?_
    all_goals first | exact wk0 | refine wkS ?_ | skip
    all_goals (try trivial)
    all_goals ((repeat' apply And.intro) <;> first | exact wkL | skip)
  · rintro k ⟨hk, hall⟩
    try refine wkG trivial ?_
    try (refine Stop.mk ?_; intro K hK)
    refine wpA_cond' ⟨_, evl, ?_, ?_⟩
    · intro hlt
      simp only [decide_eq_true_eq] at hlt
      try refine wkG trivial ?_
      try (refine Stop.mk ?_; intro K hK)
      refine wpA_cond' ⟨_, evl, ?_, ?_⟩
      · intro hb
        try refine wkG trivial ?_
        try (refine Stop.mk ?_; intro K hK)
        refine ret_of (by simp) ⟨_, _, _, evl, ob0, OutOk.eq ?_ ?_⟩
        · match k, hlt, hall, hb with
          | 0, _, _, hb => simp at hb; simp [hb]
          | 1, _, hall, hb => have := hall 0 (by omega); simp at this hb; simp [this]
        · simp [AV.free]
      · intro hb
        try refine wkG trivial ?_
        try (refine Stop.mk ?_; intro K hK)
        refine ⟨k + 1, ⟨by omega, fun i hi => ?_⟩, by omega, ?_⟩
        · rcases Nat.lt_succ_iff_lt_or_eq.1 hi with h | rfl
          · exact hall i h
          · simpa using hb
        · refine wkn ?_ ?_ ?_
          all_goals first | exact wk0 | refine wkS ?_ | skip
          all_goals (try trivial)
          all_goals ((repeat' apply And.intro) <;> first | exact wkL | skip)
    · intro hge
      simp only [decide_eq_false_iff_not] at hge
      obtain rfl : k = 2 := by omega
      have h0 := hall 0 (by omega)
      have h1 := hall 1 (by omega)
      simp at h0 h1
      try refine wkG trivial ?_
      try (refine Stop.mk ?_; intro K hK)
      refine ret_of (by simp) ⟨_, _, _, evl, ob0, OutOk.eq ?_ ?_⟩
      · simp [h0, h1]
      · simp [AV.free]
def cmpK (k : KeyWin) (auth id : Int) : Int := if cmpI k.auth auth = 0 then cmpI k.id id else cmpI k.auth auth
theorem find1_A (k : KeyWin) (auth id : Int) : FnA Tryz.prog 254 [.agg k.av, liA [auth, id]] (.raw (.int .i64 (cmpK k auth id))) := by
  unfold cmpK
  have h1 := compareI_A k.auth auth
  have h2 := compareI_A k.id id
  generalize cmpI k.auth auth = c1 at *
  generalize cmpI k.id id = c2 at *
  refine fnA_of tblOk Tryz.func254 rfl (by kernel_rfl) 19 Tryz.ntmps254 lenT [.tmp 4] rfl ?_
  simp only [entrySt, argSl, Nat.zero_add, Nat.reduceAdd]
  repeat' first
    | refine wkG (And.intro h1 (And.intro h2 (or2_A c1 c2))) ?_
    | (refine cndS ⟨_, evl, ⟨cb, cb⟩, fun hb => ?_, fun hb => ?_⟩ <;> try (cases hb; done))
    | (refine Stop.mk ?_; intro K hK)
    | fail
  all_goals (try (refine ret_of (by simp) ⟨_, _, _, evl, ob0, OutOk.sims ?_ fre⟩))
  all_goals first | exact Sims.refl _ | exact finT | exact simsF | (refine Sims.tup ?_; simp only [SimsL, and_true]; (repeat' apply And.intro) <;> first | exact simsF | skip) | (exfalso; first | omega | (simp_all; done) | (simp_all; omega)) | skip
def lowN (l : List KeyWin) (c : KeyWin → Int) : Nat := l.findIdx fun k => decide (0 ≤ c k)
theorem lowN_le (l : List KeyWin) (c : KeyWin → Int) : lowN l c ≤ l.length := List.findIdx_le_length
theorem getD_get {α : Type} [Inhabited α] {l : List α} {i : Nat} (h : i < l.length) : l.getD i default = l[i] := by simp [h]
theorem lowN_lt {l : List KeyWin} {c : KeyWin → Int} {i : Nat} (h : i < lowN l c) : c (l.getD i default) < 0 := by
  have hl := lowN_le l c
  rw [getD_get (by omega)]
  have := List.not_of_lt_findIdx h
  simpa using this
theorem lowN_ge {l : List KeyWin} {c : KeyWin → Int} (h : lowN l c < l.length) : 0 ≤ c (l.getD (lowN l c) default) := by
  rw [getD_get h]
  have := List.findIdx_getElem (w := h)
  exact of_decide_eq_true this
def risesC (l : List KeyWin) (c : KeyWin → Int) : Prop := ∀ i j, i ≤ j → j < l.length → c (l.getD j default) < 0 → c (l.getD i default) < 0
theorem u64w {n : Int} (h : 0 ≤ n ∧ n < 18446744073709551616) : IntKind.u64.wrap n = n := inK_wrap (k := .u64) (by simp only [inK]; omega)
theorem shr64 (x : Nat) : (x : Int).fdiv (2 ^ min 1 64) = ((x / 2 : Nat) : Int) := shr1 x
theorem bsearch_A (l : List KeyWin) (hl : l.length ≤ 4611686018427387904) (t : AV) (ht : t.free) (g : FuncId) (c : KeyWin → Int) (hc : ∀ k, FnA Tryz.prog g [.agg k.av, t] (.raw (.int .i64 (c k)))) (hr : risesC l c) :
    FnA Tryz.prog 253 [lA 7 KeyWin.av l, t, .raw (.func (.func g) #[] #[])]
      (.tup [.raw (.int .i64 (lowN l c)), .raw (.bool (decide (lowN l c < l.length) && decide (c (l.getD (lowN l c) default) = 0)))]) := by
  have hle := lowN_le l c
  have hlt := fun i => lowN_lt (l := l) (c := c) (i := i)
  have hge := lowN_ge (l := l) (c := c)
  have hr' := fun i j => hr i j
  generalize lowN l c = m at *
  refine fnA_of tblOk Tryz.func253 rfl (by kernel_rfl) 49 Tryz.ntmps253 lenT [.tmp 6, .tmp 7] rfl ?_
  simp only [entrySt, argSl, Nat.zero_add, Nat.reduceAdd]
  try refine wkG trivial ?_
  try (refine Stop.mk ?_; intro K hK)
  refine wpA_loop (fun s : Nat × Nat => ⟨49, 0, [(0, true, lA 7 KeyWin.av l), (1, true, t), (2, true, .raw (.func (.func g) #[] #[])), (8, true, .raw (.int .i64 l.length)), (9, true, .raw (.int .i64 s.1)), (10, true, .raw (.int .i64 s.2))], [], [], ((0, []), [], true)⟩)
    (fun s => s.1 ≤ m ∧ m ≤ s.2 ∧ s.2 ≤ l.length) (fun s => s.2 - s.1) (0, l.length) ?_ ⟨by simp, hle, by simp⟩ ?_
  · refine wkn ?_ ?_ ?_
    all_goals first | exact wk0 | refine wkS ?_ | skip
    all_goals (try trivial)
    all_goals ((repeat' apply And.intro) <;> first | exact wkL | skip)
  · rintro ⟨i, j⟩ ⟨h1, h2, h3⟩
    dsimp only at h1 h2 h3 ⊢
    have e1 : IntKind.u64.wrap ((i : Int) + j) = ((i + j : Nat) : Int) := by rw [u64w (by omega)]; simp
    try refine wkG trivial ?_
    try (refine Stop.mk ?_; intro K hK)
    refine wpA_cond' ⟨_, evl, ?_, ?_⟩
    · intro hb
      simp only [decide_eq_true_eq] at hb
      try refine wkG trivial ?_
      try (refine Stop.mk ?_; intro K hK)
      rw [e1, shr64]
      have hmid : (i + j) / 2 < l.length := by omega
      try (first | refine wkM hK hc ?_ | refine wkG hc ?_)
      try clear hK K
      try (refine Stop.mk ?_; intro K hK)
      refine wpA_cond' ⟨_, evl, ?_, ?_⟩
      · intro hb2
        simp only [decide_eq_true_eq] at hb2
        try refine wkG trivial ?_
        try (refine Stop.mk ?_; intro K hK)
        refine ⟨((i + j) / 2 + 1, j), ⟨?_, h2, h3⟩, by show j - ((i + j) / 2 + 1) < j - i; omega, ?_⟩
        · show (i + j) / 2 + 1 ≤ m
          rcases Nat.lt_or_ge ((i + j) / 2) m with h | h
          · exact h
          · have q1 := hr' m ((i + j) / 2) h hmid hb2
            have q2 := hge (by omega)
            omega
        · refine wkn ?_ ?_ ?_
          all_goals first | exact wk0 | refine wkS ?_ | skip
          all_goals (try trivial)
          all_goals ((repeat' apply And.intro) <;> first | exact wkL | skip)
      · intro hb2
        simp only [decide_eq_false_iff_not] at hb2
        try refine wkG trivial ?_
        try (refine Stop.mk ?_; intro K hK)
        refine ⟨(i, (i + j) / 2), ⟨h1, ?_, by show (i + j) / 2 ≤ _; omega⟩, by show (i + j) / 2 - i < j - i; omega, ?_⟩
        · show m ≤ (i + j) / 2
          rcases Nat.lt_or_ge ((i + j) / 2) m with h | h
          · exact absurd (hlt _ h) hb2
          · exact h
        · refine wkn ?_ ?_ ?_
          all_goals first | exact wk0 | refine wkS ?_ | skip
          all_goals (try trivial)
          all_goals ((repeat' apply And.intro) <;> first | exact wkL | skip)
    · intro hb
      simp only [decide_eq_false_iff_not] at hb
      obtain rfl : i = m := by omega
      try (first | refine wkM hK hc ?_ | refine wkG hc ?_)
      try clear hK K
      try (refine Stop.mk ?_; intro K hK)
      refine ret_of (by simp) ⟨_, _, _, evl, ob0, OutOk.eq ?_ ?_⟩
      · simp
      · simp [AV.free, AV.freeL]
end Go.Proofs.YtchpbdecipcelaaGreatDoor
