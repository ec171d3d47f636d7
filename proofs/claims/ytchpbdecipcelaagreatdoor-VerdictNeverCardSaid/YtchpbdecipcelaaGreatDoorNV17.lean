import Derived.Test.YtchpbdecipcelaaGreatDoorNV16
namespace Go.Proofs.YtchpbdecipcelaaGreatDoor
set_option linter.unusedVariables false
set_option linter.unusedSimpArgs false
set_option maxHeartbeats 4000000
set_option maxRecDepth 100000
open Go.RowKit
structure Change where
  at_ : Int
  outLo : Int
  outHi : Int
  backLo : Int
  backHi : Int
  deriving Inhabited, DecidableEq
@[go_sem] def Change.av (x : Change) : List AV := [.raw (.int .i64 x.at_), .raw (.int .i64 x.outLo), .raw (.int .i64 x.outHi), .raw (.int .i64 x.backLo), .raw (.int .i64 x.backHi)]
@[simp] theorem Change.free (x : Change) : AV.freeL x.av := ⟨trivial, trivial, trivial, trivial, trivial, trivial⟩
namespace Lk
def gD {α : Type} [Inhabited α] (l : List α) (i : Nat) : α := l.getD i default
theorem gD_eq {α : Type} [Inhabited α] {l : List α} {i : Nat} (h : i < l.length) : gD l i = l[i] := by simp [gD, h]
end Lk
@[go_sem] def Change.c (c : Change) : List AV := [.raw (.int .i64 c.at_), .raw (.int .i64 c.outLo), .raw (.int .i64 c.outHi), .raw (.int .i64 c.backLo), .raw (.int .i64 c.backHi)]
namespace Lk
def chL (l : List Change) : AV := .lst 5 l.length fun i => (gD l i).c
end Lk
@[go_sem] def Iv.c (c : Iv) : List AV := [.raw (.int .i64 c.lo), .raw (.int .i64 c.hi)]
namespace Lk
def boundsM (lo hi : Int) : Bool := decide (0 ≤ lo) && decide (lo ≤ hi) && decide (hi ≤ 1000000)
theorem bounds_A (lo hi : Int) : FnA Tryz.prog 245 [.raw (.int .i64 lo), .raw (.int .i64 hi)] (.raw (.bool (boundsM lo hi))) := by
  refine fnA_of tblOk Tryz.func245 rfl (by kernel_rfl) 16 Tryz.ntmps245 lenT [.tmp 4] rfl ?_
  simp only [entrySt, argSl, Nat.zero_add, Nat.reduceAdd]
  try refine wkG trivial ?_
  try (refine Stop.mk ?_; intro K hK)
  refine ret_of (by simp) ⟨_, _, _, evl, ob0, OutOk.eq ?_ ?_⟩
  · simp [boundsM]
  · simp [AV.free]
def formedM (c : Change) : Bool := boundsM c.outLo c.outHi && boundsM c.backLo c.backHi
theorem formed_A (c : Change) : FnA Tryz.prog 226 [.agg c.c] (.raw (.bool (formedM c))) := by
  refine fnA_of tblOk Tryz.func226 rfl (by kernel_rfl) 15 Tryz.ntmps226 lenT [.tmp 2] rfl ?_
  simp only [entrySt, argSl, Nat.zero_add, Nat.reduceAdd]
  try (first | refine wkM hK bounds_A ?_ | refine wkG bounds_A ?_)
  try clear hK K
  try (refine Stop.mk ?_; intro K hK)
  refine ret_of (by simp) ⟨_, _, _, evl, ob0, OutOk.eq ?_ ?_⟩
  · simp [formedM]
  · simp [AV.free]
def vOk (l : List Change) (i : Nat) : Prop := formedM (gD l i) = true ∧ (0 < i → (gD l (i - 1)).at_ < (gD l i).at_)
instance (l : List Change) (i : Nat) : Decidable (vOk l i) := by unfold vOk; infer_instance
def ValidP (l : List Change) : Prop := 1 ≤ l.length ∧ l.length ≤ 20 ∧ (gD l 0).at_ = 0 ∧ (gD l (l.length - 1)).at_ ≤ 3000000000000000 ∧ ∀ i, i < l.length → vOk l i
instance (l : List Change) : Decidable (ValidP l) := by unfold ValidP; infer_instance
def validM (l : List Change) : Bool := decide (ValidP l)
theorem valid_A (l : List Change) (hmax : l.length ≤ 4611686018427387904) : FnA Tryz.prog 191 [chL l] (.raw (.bool (validM l))) := by
  unfold chL
  refine fnA_of tblOk Tryz.func191 rfl (by kernel_rfl) 56 Tryz.ntmps191 lenT [.tmp 2] rfl ?_
  simp only [entrySt, argSl, Nat.zero_add, Nat.reduceAdd]
  try (first | refine wkM hK formed_A ?_ | refine wkG formed_A ?_)
  try clear hK K
  try (refine Stop.mk ?_; intro K hK)
  refine wpA_cond' ⟨_, evl, ?_, ?_⟩
  · intro hb
    try refine wkG trivial ?_
    try (refine Stop.mk ?_; intro K hK)
    refine ret_of (by simp) ⟨_, _, _, evl, ob0, OutOk.eq ?_ ?_⟩
    · simp only [AV.raw.injEq, Value.bool.injEq]
      rw [eq_comm, validM, decide_eq_false_iff_not]
      rintro ⟨h1, h2, h3, h4, h5⟩
      have e : ((l.length : Int) - 1).toNat = l.length - 1 := by omega
      rw [e] at hb
      simp at hb
      omega
    · simp [AV.free]
  · intro hb
    simp only [Bool.or_eq_false_iff, decide_eq_false_iff_not, Bool.not_eq_false', decide_eq_true_eq] at hb
    obtain ⟨⟨⟨hb1, hb2⟩, hb3⟩, hb4⟩ := hb
    try (first | refine wkM hK formed_A ?_ | refine wkG formed_A ?_)
    try clear hK K
    try (refine Stop.mk ?_; intro K hK)
    refine wpA_loop (fun k : Nat => ⟨56, 0, [(0, true, .lst 5 l.length fun i => (gD l i).c), (30, true, .lst 5 l.length fun i => (gD l i).c), (31, true, .raw (.int .i64 l.length)), (32, true, .raw (.int .i64 k))], [], [], ((0, []), [], true)⟩)
      (fun k => k ≤ l.length ∧ ∀ i, i < k → vOk l i) (fun k => l.length - k) 0 ?_ ⟨by omega, fun i h => by omega⟩ ?_
    · refine Weak.sl ?_
      (try simp only [SubSl, lookN_cons, ↓reduceIte, Nat.reduceEqDiff, and_true, true_and, Option.some.injEq, Prod.mk.injEq, AV.raw.injEq, Value.int.injEq, Value.bool.injEq])
      all_goals ((repeat' apply And.intro) <;> first | rfl | omega | (simp; done))
    · rintro k ⟨hk, hall⟩
      try (first | refine wkM hK formed_A ?_ | refine wkG formed_A ?_)
      try clear hK K
      try (refine Stop.mk ?_; intro K hK)
      refine wpA_cond' ⟨_, evl, ?_, ?_⟩
      · intro hlt
        simp only [decide_eq_true_eq] at hlt
        try (first | refine wkM hK formed_A ?_ | refine wkG formed_A ?_)
        try clear hK K
        try (refine Stop.mk ?_; intro K hK)
        refine wpA_cond' ⟨_, evl, ?_, ?_⟩
        · intro hbad
          try refine wkG trivial ?_
          try (refine Stop.mk ?_; intro K hK)
          refine ret_of (by simp) ⟨_, _, _, evl, ob0, OutOk.eq ?_ ?_⟩
          · simp only [AV.raw.injEq, Value.bool.injEq]
            rw [eq_comm, validM, decide_eq_false_iff_not]
            rintro ⟨_, _, _, _, h5⟩
            obtain ⟨h6, h7⟩ := h5 k (by omega)
            have e : ((k : Int) - 1).toNat = k - 1 := by omega
            rw [h6, e] at hbad
            simp at hbad
            have := h7 (by omega)
            omega
          · simp [AV.free]
        · intro hgood
          try refine wkG trivial ?_
          try (refine Stop.mk ?_; intro K hK)
          refine ⟨k + 1, ⟨by omega, fun i hi => ?_⟩, by omega, ?_⟩
          · by_cases hik : i < k
            · exact hall i hik
            · obtain rfl : i = k := by omega
              have e : ((i : Int) - 1).toNat = i - 1 := by omega
              rw [e] at hgood
              simp at hgood
              exact ⟨hgood.1, fun h => by have := hgood.2 h; omega⟩
          · refine Weak.mk rfl ?_ ?_
            rotate_left
            · simp [belS, belB, AV.bel, AV.belL, go_sem]
            (try simp only [SubSl, lookN_cons, ↓reduceIte, Nat.reduceEqDiff, and_true, true_and, Option.some.injEq, Prod.mk.injEq, AV.raw.injEq, Value.int.injEq, Value.bool.injEq])
            all_goals ((repeat' apply And.intro) <;> first | rfl | omega | (simp; done))
      · intro hge
        simp only [decide_eq_false_iff_not] at hge
        try (first | refine wkM hK formed_A ?_ | refine wkG formed_A ?_)
        try clear hK K
        try (refine Stop.mk ?_; intro K hK)
        refine ret_of (by simp) ⟨_, _, _, evl, ob0, OutOk.eq ?_ ?_⟩
        · simp only [AV.raw.injEq, Value.bool.injEq]
          rw [eq_comm, validM, decide_eq_true_eq]
          have e : ((l.length : Int) - 1).toNat = l.length - 1 := by omega
          rw [e] at hb4
          exact ⟨by omega, by omega, hb3, by omega, fun i hi => hall i (by omega)⟩
        · simp [AV.free]
def validI (i : Iv) : Bool := decide (0 ≤ i.lo) && decide (i.lo ≤ i.hi) && decide (i.hi ≤ 3000000000000000)
theorem validI_A (i : Iv) : FnA Tryz.prog 177 [.agg i.c] (.raw (.bool (validI i))) := by
  refine fnA_of tblOk Tryz.func177 rfl (by kernel_rfl) 18 Tryz.ntmps177 lenT [.tmp 2] rfl ?_
  simp only [entrySt, argSl, Nat.zero_add, Nat.reduceAdd]
  try refine wkG trivial ?_
  try (refine Stop.mk ?_; intro K hK)
  refine ret_of (by simp) ⟨_, _, _, evl, ob0, OutOk.eq ?_ ?_⟩
  · simp [validI]
  · simp [AV.free]
def beforeM (s : Iv) (lo hi : Int) : Iv × Int := if hi < lo ∨ s.hi < lo then (⟨0, 0⟩, 22) else (⟨max 0 (s.lo - hi), s.hi - lo⟩, 0)
theorem before_A (s : Iv) (lo hi : Int) (h1 : inK .i64 (s.lo - hi)) (h2 : inK .i64 (s.hi - lo)) : FnA Tryz.prog 227 [.agg s.c, .raw (.int .i64 lo), .raw (.int .i64 hi)] (.tup [.agg (beforeM s lo hi).1.c, .raw (.int .i64 (beforeM s lo hi).2)]) := by
  refine fnA_of tblOk Tryz.func227 rfl (by kernel_rfl) 28 Tryz.ntmps227 lenT [.cell 6 90, .tmp 7] rfl ?_
  simp only [entrySt, argSl, Nat.zero_add, Nat.reduceAdd]
  try refine wkG trivial ?_
  try (refine Stop.mk ?_; intro K hK)
  refine wpA_cond' ⟨_, evl, ?_, ?_⟩
  · intro hb
    simp at hb
    try refine wkG trivial ?_
    try (refine Stop.mk ?_; intro K hK)
    refine ret_of (by simp) ⟨_, _, _, evl, ob0, OutOk.eq ?_ ?_⟩
    · simp [beforeM, hb, Iv.c]
    · simp [AV.free, AV.freeL]
  · intro hb
    simp at hb
    try refine wkG trivial ?_
    try (refine Stop.mk ?_; intro K hK)
    refine ret_of (by simp) ⟨_, _, _, evl, ob0, OutOk.eq ?_ ?_⟩
    · rw [beforeM, if_neg (by omega)]; rfl
    · simp [AV.free, AV.freeL]
def sentM (c : Change) (s : Iv) : Iv × Int := if formedM c = true ∧ validI s = true then beforeM s c.outLo c.outHi else (⟨0, 0⟩, 1)
theorem formed_iff (c : Change) : formedM c = true ↔ 0 ≤ c.outLo ∧ c.outLo ≤ c.outHi ∧ c.outHi ≤ 1000000 ∧ 0 ≤ c.backLo ∧ c.backLo ≤ c.backHi ∧ c.backHi ≤ 1000000 := by simp [formedM, boundsM, and_assoc]
theorem validI_iff (i : Iv) : validI i = true ↔ 0 ≤ i.lo ∧ i.lo ≤ i.hi ∧ i.hi ≤ 3000000000000000 := by simp [validI, and_assoc]
theorem sent_A (c : Change) (s : Iv) : FnA Tryz.prog 182 [.agg c.c, .agg s.c] (.tup [.agg (sentM c s).1.c, .raw (.int .i64 (sentM c s).2)]) := by
  refine fnA_of tblOk Tryz.func182 rfl (by kernel_rfl) 23 Tryz.ntmps182 lenT [.cell 4 90, .tmp 5] rfl ?_
  simp only [entrySt, argSl, Nat.zero_add, Nat.reduceAdd]
  try refine wkG (And.intro (formed_A c) (validI_A s)) ?_
  try (refine Stop.mk ?_; intro K hK)
  refine wpA_cond' ⟨_, evl, ?_, ?_⟩
  · intro hb
    try refine wkG trivial ?_
    try (refine Stop.mk ?_; intro K hK)
    refine ret_of (by simp) ⟨_, _, _, evl, ob0, OutOk.eq ?_ ?_⟩
    · rw [sentM, if_neg (by simp at hb; rcases hb with h | h <;> simp [h])]; rfl
    · simp [AV.free, AV.freeL]
  · intro hb
    have hf : formedM c = true ∧ validI s = true := by simpa using hb
    have h1 := (formed_iff c).1 hf.1
    have h2 := (validI_iff s).1 hf.2
    repeat
      first
        | (refine runS_nil (hK _ ?_); clear hK K)
        | refine stG ?_
        | (refine gateS 1 rfl ?_; refine runS_call rfl rfl ⟨_, evl, _, _, _, evl, oblG, ?_⟩; apply Exists.intro; refine ⟨fun hg => ?_, ?_⟩; · first | exact FnA.at_ (before_A s c.outLo c.outHi (by simp only [inK]; omega) (by simp only [inK]; omega)) rfl rfl | exact FnA.at_s (before_A s c.outLo c.outHi (by simp only [inK]; omega) (by simp only [inK]; omega)) rfl simT | exact FnA.at_s (before_A s c.outLo c.outHi (by simp only [inK]; omega) (by simp only [inK]; omega)) rfl simF)
        | (refine gateA 1 rfl ?_; refine runA_call rfl ⟨_, evl, _, _, _, (fun _ _ => evlA), oblG, ?_⟩; apply Exists.intro; refine ⟨fun hg => ?_, ?_⟩; · first | exact FnA.at_ (before_A s c.outLo c.outHi (by simp only [inK]; omega) (by simp only [inK]; omega)) rfl rfl | exact FnA.at_s (before_A s c.outLo c.outHi (by simp only [inK]; omega) (by simp only [inK]; omega)) rfl simT | exact FnA.at_s (before_A s c.outLo c.outHi (by simp only [inK]; omega) (by simp only [inK]; omega)) rfl simF)
        | (refine gateA 1 rfl ?_; refine runA_put ?_)
        | (refine gateBc ?_; first | (refine runB_nil (hK _ ?_); clear hK K) | (refine runB_op rfl ⟨_, evl, fun nb' => ?_⟩))
        | refine wpA_region (fun K hK => ?_)
        | (refine gateD ?_; first | (refine wpA_drawG false rfl (by kernel_rfl) (by kernel_rfl) (fun K hK => ?_)) | (refine wpA_drawG true rfl (by kernel_rfl) (by kernel_rfl) (fun K hK => ?_)))
    refine ret_of (by simp) ⟨_, _, _, evl, ob0, OutOk.eq ?_ ?_⟩
    · rw [sentM, if_pos hf]; rfl
    · simp [AV.free, AV.freeL]
def inForceF (l : List Change) (i : Iv) : AV := .fn (.func 231) [] [.elt [chL l] 0, .elt i.c 0]
theorem inForce_A (l : List Change) (i : Iv) : FnA Tryz.prog 192 [chL l, .agg i.c] (inForceF l i) := by
  unfold chL
  refine fnA_of tblOk Tryz.func192 rfl (by kernel_rfl) 6 Tryz.ntmps192 lenT [.tmp 4] rfl ?_
  simp only [entrySt, argSl, Nat.zero_add, Nat.reduceAdd]
  try refine wkG trivial ?_
  try (refine Stop.mk ?_; intro K hK)
  refine ret_of (by simp) ⟨_, _, _, evl, ob0, ?_⟩
  refine OutOk.fn rfl ⟨_, _, rfl, OutOk.box rfl ⟨_, _, rfl, OutOk.free ?_, rfl⟩, _, _, rfl, OutOk.box rfl ⟨_, _, rfl, OutOk.free ?_, _, _, rfl, OutOk.free ?_, rfl⟩, rfl⟩
  · simp [AV.free, AV.freeL, Change.c]
  · simp [AV.free]
  · simp [AV.free]
theorem outLo_A (c : Change) : FnA Tryz.prog 194 [.agg c.c] (.raw (.int .i64 c.outLo)) := by
  refine fnA_of tblOk Tryz.func194 rfl (by kernel_rfl) 5 Tryz.ntmps194 lenT [.tmp 2] rfl ?_
  simp only [entrySt, argSl, Nat.zero_add, Nat.reduceAdd]
  try refine wkG trivial ?_
  try (refine Stop.mk ?_; intro K hK)
  refine ret_of (by simp) ⟨_, _, _, evl, ob0, OutOk.eq ?_ ?_⟩
  · rfl
  · simp [AV.free]
theorem outHi_A (c : Change) : FnA Tryz.prog 195 [.agg c.c] (.raw (.int .i64 c.outHi)) := by
  refine fnA_of tblOk Tryz.func195 rfl (by kernel_rfl) 5 Tryz.ntmps195 lenT [.tmp 2] rfl ?_
  simp only [entrySt, argSl, Nat.zero_add, Nat.reduceAdd]
  try refine wkG trivial ?_
  try (refine Stop.mk ?_; intro K hK)
  refine ret_of (by simp) ⟨_, _, _, evl, ob0, OutOk.eq ?_ ?_⟩
  · rfl
  · simp [AV.free]
theorem backLo_A (c : Change) : FnA Tryz.prog 196 [.agg c.c] (.raw (.int .i64 c.backLo)) := by
  refine fnA_of tblOk Tryz.func196 rfl (by kernel_rfl) 5 Tryz.ntmps196 lenT [.tmp 2] rfl ?_
  simp only [entrySt, argSl, Nat.zero_add, Nat.reduceAdd]
  try refine wkG trivial ?_
  try (refine Stop.mk ?_; intro K hK)
  refine ret_of (by simp) ⟨_, _, _, evl, ob0, OutOk.eq ?_ ?_⟩
  · rfl
  · simp [AV.free]
theorem backHi_A (c : Change) : FnA Tryz.prog 197 [.agg c.c] (.raw (.int .i64 c.backHi)) := by
  refine fnA_of tblOk Tryz.func197 rfl (by kernel_rfl) 5 Tryz.ntmps197 lenT [.tmp 2] rfl ?_
  simp only [entrySt, argSl, Nat.zero_add, Nat.reduceAdd]
  try refine wkG trivial ?_
  try (refine Stop.mk ?_; intro K hK)
  refine ret_of (by simp) ⟨_, _, _, evl, ob0, OutOk.eq ?_ ?_⟩
  · rfl
  · simp [AV.free]
theorem isNaN_A (x : Int) : FnA Tryz.prog 159 [.raw (.int .i64 x)] (.raw (.bool false)) := by
  refine fnA_of tblOk Tryz.func159 rfl (by kernel_rfl) 6 Tryz.ntmps159 lenT [.tmp 2] rfl ?_
  simp only [entrySt, argSl, Nat.zero_add, Nat.reduceAdd]
  try refine wkG trivial ?_
  try (refine Stop.mk ?_; intro K hK)
  refine ret_of (by simp) ⟨_, _, _, evl, ob0, OutOk.eq ?_ ?_⟩
  · simp
  · simp [AV.free]
def cmpM (x y : Int) : Int := if x < y then -1 else if y < x then 1 else 0
theorem compare_A (x y : Int) : FnA Tryz.prog 102 [.raw (.int .i64 x), .raw (.int .i64 y)] (.raw (.int .i64 (cmpM x y))) := by
  refine fnA_of tblOk Tryz.func102 rfl (by kernel_rfl) 20 Tryz.ntmps102 lenT [.tmp 4] rfl ?_
  simp only [entrySt, argSl, Nat.zero_add, Nat.reduceAdd]
  try (first | refine wkM hK isNaN_A ?_ | refine wkG isNaN_A ?_)
  try clear hK K
  try (refine Stop.mk ?_; intro K hK)
  refine wpA_cond' ⟨_, evl, ?_, ?_⟩
  · intro h; cases h
  intro _
  try refine wkG trivial ?_
  try (refine Stop.mk ?_; intro K hK)
  refine wpA_cond' ⟨_, evl, ?_, ?_⟩
  · intro h; cases h
  intro _
  try refine wkG trivial ?_
  try (refine Stop.mk ?_; intro K hK)
  refine wpA_cond' ⟨_, evl, ?_, ?_⟩
  · intro h
    simp at h
    try refine wkG trivial ?_
    try (refine Stop.mk ?_; intro K hK)
    refine ret_of (by simp) ⟨_, _, _, evl, ob0, OutOk.eq ?_ ?_⟩
    · simp [cmpM, h]
    · simp [AV.free]
  intro h
  simp at h
  try refine wkG trivial ?_
  try (refine Stop.mk ?_; intro K hK)
  refine wpA_cond' ⟨_, evl, ?_, ?_⟩
  · intro h'
    simp at h'
    try refine wkG trivial ?_
    try (refine Stop.mk ?_; intro K hK)
    refine ret_of (by simp) ⟨_, _, _, evl, ob0, OutOk.eq ?_ ?_⟩
    · simp [cmpM, h', Int.not_lt.2 h]
    · simp [AV.free]
  intro h'
  simp at h'
  try refine wkG trivial ?_
  try (refine Stop.mk ?_; intro K hK)
  refine ret_of (by simp) ⟨_, _, _, evl, ob0, OutOk.eq ?_ ?_⟩
  · simp [cmpM, Int.not_lt.2 h, Int.not_lt.2 h']
  · simp [AV.free]
def inF (l : List Change) (i : Iv) (k : Nat) : Bool := (!(decide ((k : Int) + 1 < l.length) && decide ((gD l ((k : Int) + 1).toNat).at_ ≤ i.lo))) && decide ((gD l k).at_ ≤ i.hi)
def forceL (l : List Change) (i : Iv) (n : Nat) : List Change := ((List.range n).filter (inF l i)).map (gD l)
def itemsF (l : List Change) (i : Iv) (n : Nat) : List (List AV) := (forceL l i n).map fun c => [.agg c.c]
theorem itemsF_succ (l : List Change) (i : Iv) (k : Nat) : itemsF l i (k + 1) = itemsF l i k ++ if inF l i k then [[.agg (gD l k).c]] else [] := by
  simp only [itemsF, forceL, List.range_succ, List.filter_append, List.map_append, List.filter_cons, List.filter_nil]
  split <;> simp
theorem itemsF_le (l : List Change) (i : Iv) {k n : Nat} (h : k ≤ n) : itemsF l i k <+: itemsF l i n := by
  induction n with
  | zero => obtain rfl : k = 0 := by omega
            exact List.prefix_refl _
  | succ n ih =>
    by_cases hk : k = n + 1
    · subst hk; exact List.prefix_refl _
    · exact (ih (by omega)).trans (by rw [itemsF_succ]; exact List.prefix_append _ _)
theorem inForce1_S (l : List Change) (i : Iv) (hmax : l.length ≤ 4611686018427387904) : SeqA Tryz.prog 231 [.elt [chL l] 0, .elt i.c 0] (itemsF l i l.length) := by
  unfold chL
  refine seqA_of Tryz.func231 rfl (by kernel_rfl) 46 Tryz.ntmps231 lenT rfl (fun y => ?_)
  simp only [argSl, Nat.zero_add, Nat.reduceAdd, List.cons_append, List.nil_append]
  try refine wkG trivial ?_
  try (refine Stop.mk ?_; intro K hK)
  refine wpA_loop (fun k : Nat => ⟨46, 0, [(9, true, .raw (.int .i64 k)), (8, true, .raw (.int .i64 l.length)), (7, true, .lst 5 l.length fun i => (gD l i).c), (0, true, .raw (.func (.yield y) #[] #[])), (1, true, .elt [.lst 5 l.length fun i => (gD l i).c] 0), (2, true, .elt i.c 0)], [], [], ((y, itemsF l i l.length), itemsF l i k, false)⟩)
    (fun k => k ≤ l.length) (fun k => l.length - k) 0 ?_ (by omega) ?_
  · refine Weak.sl ?_
    (try simp only [SubSl, lookN_cons, ↓reduceIte, Nat.reduceEqDiff, and_true, true_and, Option.some.injEq, Prod.mk.injEq, AV.raw.injEq, Value.int.injEq, Value.bool.injEq])
    all_goals ((repeat' apply And.intro) <;> first | rfl | omega | (simp; done))
  · intro k hk
    try refine wkG trivial ?_
    try (refine Stop.mk ?_; intro K hK)
    refine wpA_cond' ⟨_, evl, ?_, ?_⟩
    · intro hlt
      simp only [decide_eq_true_eq] at hlt
      try (first | refine wkM hK trivial ?_ | refine wkG trivial ?_)
      try clear hK K
      try (refine Stop.mk ?_; intro K hK)
      refine runS_yield rfl rfl ⟨_, evl, _, _, evl, ?_, ?_, ?_⟩
      · intro hg
        refine ⟨fun c hc => ?_, by simp [AV.free, AV.freeL], ?_⟩
        · simp only [List.mem_cons, List.not_mem_nil, or_false] at hc
          rcases hc with rfl | rfl <;> first | rfl | exact hg
        have := itemsF_le l i (k := k + 1) (n := l.length) (by omega)
        rw [itemsF_succ, if_pos (show inF l i k = true from hg)] at this
        exact this
      · intro hg
        simp only [hg]
        try (first | refine wkM hK trivial ?_ | refine wkG trivial ?_)
        try clear hK K
        try (refine Stop.mk ?_; intro K hK)
        refine wpA_cond' ⟨_, evl, ?_, ?_⟩
        · intro h; simp at h
        intro _
        try (first | refine wkM hK trivial ?_ | refine wkG trivial ?_)
        try clear hK K
        try (refine Stop.mk ?_; intro K hK)
        refine ⟨k + 1, by omega, by omega, ?_⟩
        rw [itemsF_succ, if_neg (by rw [show inF l i k = false from hg]; simp), List.append_nil]
        refine Weak.mk rfl ?_ ?_
        rotate_left
        · simp [belS, belB, AV.bel, AV.belL, go_sem]
        (try simp only [SubSl, lookN_cons, ↓reduceIte, Nat.reduceEqDiff, and_true, true_and, Option.some.injEq, Prod.mk.injEq, AV.raw.injEq, Value.int.injEq, Value.bool.injEq])
        all_goals ((repeat' apply And.intro) <;> first | rfl | omega | (simp; done))
      · intro hg b
        simp only [hg]
        try (first | refine wkM hK trivial ?_ | refine wkG trivial ?_)
        try clear hK K
        try (refine Stop.mk ?_; intro K hK)
        refine wpA_cond' ⟨_, evl, ?_, ?_⟩
        · intro h
          simp at h
          subst h
          try (first | refine wkM hK trivial ?_ | refine wkG trivial ?_)
          try clear hK K
          try (refine Stop.mk ?_; intro K hK)
          refine ⟨.inr rfl, ?_, fun h => by simp at h⟩
          have := itemsF_le l i (k := k + 1) (n := l.length) (by omega)
          rw [itemsF_succ, if_pos (show inF l i k = true from hg)] at this
          exact this
        intro h
        simp at h
        subst h
        try refine wkG trivial ?_
        try (refine Stop.mk ?_; intro K hK)
        refine ⟨k + 1, by omega, by omega, ?_⟩
        rw [itemsF_succ, if_pos (show inF l i k = true from hg)]
        refine Weak.mk rfl ?_ ?_
        rotate_left
        · simp [belS, belB, AV.bel, AV.belL, go_sem]
        (try simp only [SubSl, lookN_cons, ↓reduceIte, Nat.reduceEqDiff, and_true, true_and, Option.some.injEq, Prod.mk.injEq, AV.raw.injEq, Value.int.injEq, Value.bool.injEq])
        all_goals ((repeat' apply And.intro) <;> first | rfl | omega | (simp; done))
    · intro hge
      simp only [decide_eq_false_iff_not] at hge
      have : k = l.length := by omega
      subst this
      try refine wkG trivial ?_
      try (refine Stop.mk ?_; intro K hK)
      exact ⟨.inl rfl, List.prefix_refl _, fun _ => rfl⟩
def extStep (sign : Int) (p : Change → Int) (s : Int × Bool) (c : Change) : Int × Bool := if (s.2 || decide (cmpM (p c) s.1 * sign < 0)) = true then (p c, false) else s
def extM (sign : Int) (p : Change → Int) (cs : List Change) : Int × Bool := cs.foldl (extStep sign p) (0, true)
theorem extM_snoc (sign : Int) (p : Change → Int) (cs : List Change) (c : Change) : extM sign p (cs ++ [c]) = extStep sign p (extM sign p cs) c := by simp [extM]
theorem cmpM_le (x y : Int) : -1 ≤ cmpM x y ∧ cmpM x y ≤ 1 := by
  unfold cmpM
  split
  · omega
  · split <;> omega
def itemsC (cs : List Change) : List (List AV) := cs.map fun c => [.agg c.c]
theorem itemsC_prefix {h : List (List AV)} {item : List AV} {pre cs : List Change} (hp : pre <+: cs) (e : h = itemsC pre) (hi : (h ++ [item]) <+: itemsC cs) : ∃ c, item = [.agg c.c] ∧ (pre ++ [c]) <+: cs := by
  subst e
  obtain ⟨r, rfl⟩ := hp
  simp only [itemsC, List.map_append] at hi
  cases r with
  | nil => exfalso; have := hi.length_le; simp at this; omega
  | cons c r =>
    rw [List.prefix_append_right_inj] at hi
    simp only [List.map_cons, List.cons_prefix_cons, List.nil_prefix, and_true] at hi
    exact ⟨c, hi, by simp⟩
theorem roundEnd_n {nt nb m : Nat} {sl : List (Nat × (Bool × AV))} {bx bx' ex : List (List AV)} {ys : (Nat × List (List AV)) × List (List AV) × Bool} {Inv : LInv} {h : List (List AV)} (hb : bx = bx' ++ ex) (h2 : nb % 64 ≤ bx'.length ∧ belB bx'.length bx') (hlen : bx'.length = m) (hi : Inv h none bx' [] ys) :
    roundEnd m Inv h .normal ⟨nt, nb, sl, bx, [], ys⟩ := ⟨nt, nb, [], bx', [], ys, Weak.mk hb trivial ⟨h2.1, trivial, h2.2⟩, hlen, hi⟩
theorem extreme_A (f : FuncId) (cap : List AV) (hcap : AV.freeL cap) (cs : List Change) (hseq : SeqA Tryz.prog f cap (itemsC cs)) (sign : Int) (hs : sign = 1 ∨ sign = -1) (g : FuncId) (p : Change → Int) (hp : ∀ c : Change, FnA Tryz.prog g [.agg c.c] (.raw (.int .i64 (p c)))) :
    FnA Tryz.prog 193 [.fn (.func f) [] cap, .raw (.int .i64 sign), .raw (.func (.func g) #[] #[])] (.raw (.int .i64 (extM sign p cs).1)) := by
  refine fnA_of tblOk Tryz.func193 rfl (by kernel_rfl) 27 Tryz.ntmps193 lenT [.tmp 6] rfl ?_
  simp only [entrySt, argSl, Nat.zero_add, Nat.reduceAdd]
  try (first | refine wkM hK hp ?_ | refine wkG hp ?_)
  try clear hK K
  try (refine Stop.mk ?_; intro K hK)
  refine wpA_rangeFunc (fun h j bx rw ys => j = none ∧ rw = [] ∧ ys = ((0, []), [], true) ∧ ∃ pre, pre <+: cs ∧ h = itemsC pre ∧ bx = [[.raw (.int .i64 sign)], [.raw (.func (.func g) #[] #[])], [.raw (.int .i64 (extM sign p pre).1)], [.raw (.bool (extM sign p pre).2)]]) rfl rfl hcap hseq ⟨by simp, by simp⟩ (by simp) ⟨rfl, rfl, rfl, [], by simp, rfl, rfl⟩ ?_ ?_ ?_
  · rintro h item bx rw ys ⟨_, rfl, rfl, pre, hpre, rfl, rfl⟩ hpr _
    obtain ⟨c, rfl, hc⟩ := itemsC_prefix hpre rfl hpr
    refine ⟨rfl, ?_⟩
    have hcm := cmpM_le (p c) (extM sign p pre).1
    simp only [zipSl, List.cons_append, List.nil_append]
    try refine wkG (hp c) ?_
    try (refine Stop.mk ?_; intro K hK)
    refine ⟨rfl, ?_⟩
    rcases hs with rfl | rfl
    · try (first | refine wkM hK (And.intro (hp c) compare_A) ?_ | refine wkG (And.intro (hp c) compare_A) ?_)
      try clear hK K
      try (refine Stop.mk ?_; intro K hK)
      refine wpA_cond' ⟨_, evl, ?_, ?_⟩
      · intro hb
        try refine wkG trivial ?_
        try (refine Stop.mk ?_; intro K hK)
        refine roundEnd_n (bx' := [[AV.raw (Value.int .i64 1)], [AV.raw (.func (.func g) #[] #[])], [AV.raw (.int .i64 (p c))], [AV.raw (.bool false)]]) rfl (by simp [belB, AV.bel, AV.belL]) rfl ⟨rfl, rfl, rfl, pre ++ [c], hc, by simp [itemsC], ?_⟩
        rw [extM_snoc, extStep, if_pos hb]
      · intro hb
        try refine wkG trivial ?_
        try (refine Stop.mk ?_; intro K hK)
        refine roundEnd_n (bx' := [[AV.raw (Value.int .i64 1)], [.raw (.func (.func g) #[] #[])], [.raw (.int .i64 (extM (1) p pre).1)], [.raw (.bool (extM (1) p pre).2)]]) rfl (by simp [belB, AV.bel, AV.belL]) rfl ⟨rfl, rfl, rfl, pre ++ [c], hc, by simp [itemsC], ?_⟩
        rw [extM_snoc, extStep, if_neg (by rw [hb]; simp)]
    · try (first | refine wkM hK (And.intro (hp c) compare_A) ?_ | refine wkG (And.intro (hp c) compare_A) ?_)
      try clear hK K
      try (refine Stop.mk ?_; intro K hK)
      refine wpA_cond' ⟨_, evl, ?_, ?_⟩
      · intro hb
        try refine wkG trivial ?_
        try (refine Stop.mk ?_; intro K hK)
        refine roundEnd_n (bx' := [[AV.raw (Value.int .i64 (-1))], [AV.raw (.func (.func g) #[] #[])], [AV.raw (.int .i64 (p c))], [AV.raw (.bool false)]]) rfl (by simp [belB, AV.bel, AV.belL]) rfl ⟨rfl, rfl, rfl, pre ++ [c], hc, by simp [itemsC], ?_⟩
        rw [extM_snoc, extStep, if_pos hb]
      · intro hb
        try refine wkG trivial ?_
        try (refine Stop.mk ?_; intro K hK)
        refine roundEnd_n (bx' := [[AV.raw (Value.int .i64 (-1))], [.raw (.func (.func g) #[] #[])], [.raw (.int .i64 (extM (-1) p pre).1)], [.raw (.bool (extM (-1) p pre).2)]]) rfl (by simp [belB, AV.bel, AV.belL]) rfl ⟨rfl, rfl, rfl, pre ++ [c], hc, by simp [itemsC], ?_⟩
        rw [extM_snoc, extStep, if_neg (by rw [hb]; simp)]
  · rintro bx rw ys ⟨_, rfl, rfl, pre, hpre, he, rfl⟩
    have : pre = cs := by
      have := congrArg List.length he
      simp [itemsC] at this
      exact hpre.eq_of_length this.symm
    subst this
    try refine wkG trivial ?_
    try (refine Stop.mk ?_; intro K hK)
    refine ret_of (by simp) ⟨_, _, _, evl, ob0, OutOk.eq ?_ ?_⟩
    · rfl
    · simp [AV.free]
  · rintro h j bx rw ys _ ⟨hj, _⟩
    cases hj
def linkBoundsM (l : List Change) (i : Iv) : Change × Int := if validM l = true ∧ validI i = true then
    (⟨i.lo, (extM 1 Change.outLo (forceL l i l.length)).1, (extM (-1) Change.outHi (forceL l i l.length)).1, (extM 1 Change.backLo (forceL l i l.length)).1, (extM (-1) Change.backHi (forceL l i l.length)).1⟩, 0) else (⟨0, 0, 0, 0, 0⟩, 1)
theorem chL_free (l : List Change) : (chL l).free := by simp [chL, AV.free, AV.freeL, Change.c]
theorem linkBounds_A (l : List Change) (i : Iv) (hmax : l.length ≤ 4611686018427387904) : FnA Tryz.prog 131 [chL l, .agg i.c] (.tup [.agg (linkBoundsM l i).1.c, .raw (.int .i64 (linkBoundsM l i).2)]) := by
  have hcap : AV.freeL [.elt [chL l] 0, .elt i.c 0] := ⟨⟨chL_free l, trivial⟩, by simp [AV.free, AV.freeL, Iv.c], trivial⟩
  have hseq := inForce1_S l i hmax
  have hfr := chL_free l
  have e1 := extreme_A _ _ hcap _ hseq 1 (.inl rfl) _ _ outLo_A
  have e2 := extreme_A _ _ hcap _ hseq (-1) (.inr rfl) _ _ outHi_A
  have e3 := extreme_A _ _ hcap _ hseq 1 (.inl rfl) _ _ backLo_A
  have e4 := extreme_A _ _ hcap _ hseq (-1) (.inr rfl) _ _ backHi_A
  have hv := valid_A l hmax
  have hi := inForce_A l i
  unfold inForceF at hi
  generalize hL : chL l = L at hfr hv hi e1 e2 e3 e4 hcap ⊢
  refine fnA_of tblOk Tryz.func131 rfl (by kernel_rfl) 30 Tryz.ntmps131 lenT [.cell 4 125, .tmp 5] rfl ?_
  simp only [entrySt, argSl, Nat.zero_add, Nat.reduceAdd]
  try refine wkG (And.intro hv (validI_A i)) ?_
  try (refine Stop.mk ?_; intro K hK)
  refine wpA_cond' ⟨_, evl, ?_, ?_⟩
  · intro hb
    try refine wkG trivial ?_
    try (refine Stop.mk ?_; intro K hK)
    refine ret_of (by simp) ⟨_, _, _, evl, ob0, OutOk.eq ?_ ?_⟩
    · rw [linkBoundsM, if_neg (by simp at hb; rcases hb with h | h <;> simp [h])]; rfl
    · simp [AV.free, AV.freeL]
  · intro hb
    have hf : validM l = true ∧ validI i = true := by simpa using hb
    try refine wkG (And.intro hi (And.intro e1 (And.intro e2 (And.intro e3 e4)))) ?_
    try (refine Stop.mk ?_; intro K hK)
    refine ret_of (by simp) ⟨_, _, _, evl, ob0, OutOk.eq ?_ ?_⟩
    · rw [linkBoundsM, if_pos hf]; rfl
    · simp [AV.free, AV.freeL]
end Lk
end Go.Proofs.YtchpbdecipcelaaGreatDoor
