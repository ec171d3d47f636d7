/- package regulatorref10: what the reference of chapter 10 computes (as there). -/
import Derived.Test.YtihnjbnlbedpaaaGreatDoorLkA
namespace Go.Proofs.YtihnjbnlbedpaaaGreatDoor
set_option linter.unusedVariables false
set_option linter.unusedSimpArgs false
set_option maxHeartbeats 4000000
set_option maxRecDepth 100000
open Go.RowKit
namespace Lk
theorem delaysR_A (lo hi : Int) : FnA Tryz.prog 190 [.raw (.int .i64 lo), .raw (.int .i64 hi)] (.raw (.bool (boundsM lo hi))) := by
  refine fnA_of tblOk Tryz.func190 rfl (by kernel_rfl) 16 Tryz.ntmps190 (by simp only [List.length_cons, List.length_nil]; omega) [.tmp 4] rfl ?_
  simp only [entrySt, argSl, Nat.zero_add, Nat.reduceAdd]
  try refine wkG trivial ?_
  try (refine Stop.mk ?_; intro K hK)
  refine ret_of (by simp) ⟨_, _, _, evl, ob0, OutOk.eq ?_ ?_⟩
  · simp [boundsM]
  · simp [AV.free]
theorem formR_A (c : Change) : FnA Tryz.prog 146 [.agg c.c] (.raw (.bool (formedM c))) := by
  refine fnA_of tblOk Tryz.func146 rfl (by kernel_rfl) 15 Tryz.ntmps146 (by simp only [List.length_cons, List.length_nil]; omega) [.tmp 2] rfl ?_
  simp only [entrySt, argSl, Nat.zero_add, Nat.reduceAdd]
  repeat
    first
      | (refine runS_nil (hK _ ?_); clear hK K)
      | refine stG ?_
      | (refine gateS 1 rfl ?_; refine runS_call rfl rfl ⟨_, evl, _, _, _, evl, oblF, ?_⟩; apply Exists.intro; refine ⟨fun hg => ?_, ?_⟩; · first | exact FnA.at_ (delaysR_A _ _) rfl rfl | exact FnA.at_s (delaysR_A _ _) rfl simT | exact FnA.at_s (delaysR_A _ _) rfl simF)
      | (refine gateA 1 rfl ?_; refine runA_call rfl ⟨_, evl, _, _, _, (fun _ _ => evlA), oblF, ?_⟩; apply Exists.intro; refine ⟨fun hg => ?_, ?_⟩; · first | exact FnA.at_ (delaysR_A _ _) rfl rfl | exact FnA.at_s (delaysR_A _ _) rfl simT | exact FnA.at_s (delaysR_A _ _) rfl simF)
      | (refine gateA 1 rfl ?_; refine runA_put ?_)
      | (refine gateBc ?_; first | (refine runB_nil (hK _ ?_); clear hK K) | (refine runB_op rfl ⟨_, evl, fun nb' => ?_⟩))
      | refine wpA_region (fun K hK => ?_)
      | (refine gateD ?_; first | (refine wpA_drawG false rfl (by kernel_rfl) (by kernel_rfl) (fun K hK => ?_)) | (refine wpA_drawG true rfl (by kernel_rfl) (by kernel_rfl) (fun K hK => ?_)))
  refine ret_of (by simp) ⟨_, _, _, evl, ob0, OutOk.eq ?_ ?_⟩
  · simp [formedM]
  · simp [AV.free]
theorem validIR_A (i : Iv) : FnA Tryz.prog 34 [.agg i.c] (.raw (.bool (validI i))) := by
  refine fnA_of tblOk Tryz.func34 rfl (by kernel_rfl) 18 Tryz.ntmps34 (by simp only [List.length_cons, List.length_nil]; omega) [.tmp 2] rfl ?_
  simp only [entrySt, argSl, Nat.zero_add, Nat.reduceAdd]
  try refine wkG trivial ?_
  try (refine Stop.mk ?_; intro K hK)
  refine ret_of (by simp) ⟨_, _, _, evl, ob0, OutOk.eq ?_ ?_⟩
  · simp [validI]
  · simp [AV.free]
theorem few_A (l : List Change) : FnA Tryz.prog 92 [chL l] (.raw (.bool (decide (l.length ≤ 30)))) := by
  unfold chL
  refine fnA_of tblOk Tryz.func92 rfl (by kernel_rfl) 6 Tryz.ntmps92 (by simp only [List.length_cons, List.length_nil]; omega) [.tmp 2] rfl ?_
  simp only [entrySt, argSl, Nat.zero_add, Nat.reduceAdd]
  try refine wkG trivial ?_
  try (refine Stop.mk ?_; intro K hK)
  refine ret_of (by simp) ⟨_, _, _, evl, ob0, OutOk.eq ?_ ?_⟩
  · simp; omega
  · simp [AV.free]
theorem sentR_A (c : Change) (s : Iv) : FnA Tryz.prog 76 [.agg c.c, .agg s.c] (.tup [.agg (sentM c s).1.c, .raw (.int .i64 (sentM c s).2)]) := by
  refine fnA_of tblOk Tryz.func76 rfl (by kernel_rfl) 38 Tryz.ntmps76 (by simp only [List.length_cons, List.length_nil]; omega) [.cell 4 27, .tmp 5] rfl ?_
  simp only [entrySt, argSl, Nat.zero_add, Nat.reduceAdd]
  try refine wkG (And.intro (formR_A c) (validIR_A s)) ?_
  try (refine Stop.mk ?_; intro K hK)
  refine wpA_cond' ⟨_, evl, ?_, ?_⟩
  · intro hb
    try refine wkG trivial ?_
    try (refine Stop.mk ?_; intro K hK)
    refine ret_of (by simp) ⟨_, _, _, evl, ob0, OutOk.eq ?_ ?_⟩
    · rw [sentM, if_neg (by simp at hb; rcases hb with h | h <;> simp [h])]; rfl
    · simp [AV.free, AV.freeL]
  · intro hb
    have hf : formedM c = true ∧ validI s = true := by simpa using hb
    have h1 := (formed_iff c).1 hf.1
    have h2 := (validI_iff s).1 hf.2
    try refine wkG trivial ?_
    try (refine Stop.mk ?_; intro K hK)
    refine wpA_cond' ⟨_, evl, ?_, ?_⟩
    · intro hc
      simp at hc
      try refine wkG trivial ?_
      try (refine Stop.mk ?_; intro K hK)
      refine ret_of (by simp) ⟨_, _, _, evl, ob0, OutOk.eq ?_ ?_⟩
      · rw [sentM, if_pos hf, beforeM, if_pos (by omega)]; rfl
      · simp [AV.free, AV.freeL]
    · intro hc
      simp at hc
      try refine wkG trivial ?_
      try (refine Stop.mk ?_; intro K hK)
      refine ret_of (by simp) ⟨_, _, _, evl, ob0, OutOk.eq ?_ ?_⟩
      · rw [sentM, if_pos hf, beforeM, if_neg (by omega)]; rfl
      · simp [AV.free, AV.freeL]
def vR (l : List Change) (i : Nat) : Prop := formedM (gD l i) = true ∧ (i = 0 → (gD l i).at_ = 0) ∧ (0 < i → (gD l (i - 1)).at_ < (gD l i).at_) ∧ (gD l i).at_ ≤ 3000000000000000
theorem at_mono {l : List Change} (h : ∀ i, i < l.length → vOk l i) : ∀ i j, i ≤ j → j < l.length → (gD l i).at_ ≤ (gD l j).at_ := by
  intro i j hij
  induction j with
  | zero => intro _; obtain rfl : i = 0 := by omega
            exact Int.le_refl _
  | succ j ih =>
    intro hj
    by_cases e : i = j + 1
    · subst e; exact Int.le_refl _
    · have h1 := ih (by omega) (by omega)
      have h2 := (h (j + 1) hj).2 (by omega)
      rw [Nat.add_sub_cancel] at h2
      omega
theorem validP_iff (l : List Change) : ValidP l ↔ 1 ≤ l.length ∧ l.length ≤ 20 ∧ ∀ i, i < l.length → vR l i := by
  constructor
  · rintro ⟨h1, h2, h3, h4, h5⟩
    refine ⟨h1, h2, fun i hi => ⟨(h5 i hi).1, fun e => by rw [e]; exact h3, (h5 i hi).2, ?_⟩⟩
    have := at_mono h5 i (l.length - 1) (by omega) (by omega)
    omega
  · rintro ⟨h1, h2, h3⟩
    exact ⟨h1, h2, (h3 0 (by omega)).2.1 rfl, (h3 (l.length - 1) (by omega)).2.2.2, fun i hi => ⟨(h3 i hi).1, (h3 i hi).2.2.1⟩⟩
theorem validR_A (l : List Change) (hmax : l.length ≤ 1000) : FnA Tryz.prog 143 [chL l] (.raw (.bool (validM l))) := by
  unfold chL
  refine fnA_of tblOk Tryz.func143 rfl (by kernel_rfl) 64 Tryz.ntmps143 (by simp only [List.length_cons, List.length_nil]; omega) [.tmp 2] rfl ?_
  simp only [entrySt, argSl, Nat.zero_add, Nat.reduceAdd]
  try refine wkG trivial ?_
  try (refine Stop.mk ?_; intro K hK)
  refine wpA_loop (fun k : Nat => ⟨64, 0, [(0, true, .lst 5 l.length fun i => (gD l i).c), (3, true, .raw (.int .i64 k))], [], [], ((0, []), [], true)⟩)
    (fun k => k ≤ l.length ∧ ∀ i, i < k → vR l i) (fun k => l.length - k) 0 ?_ ⟨by omega, fun i h => by omega⟩ ?_
  · refine Weak.sl ?_
    (try simp only [SubSl, lookN_cons, ↓reduceIte, Nat.reduceEqDiff, and_true, true_and, Option.some.injEq, Prod.mk.injEq, AV.raw.injEq, Value.int.injEq, Value.bool.injEq])
    all_goals ((repeat' apply And.intro) <;> first | rfl | omega | (simp; done))
  · rintro k ⟨hk, hall⟩
    try refine wkG trivial ?_
    try (refine Stop.mk ?_; intro K hK)
    refine wpA_cond' ⟨_, evl, ?_, ?_⟩
    · intro hlt
      simp only [decide_eq_true_eq] at hlt
      repeat
        first
          | (refine runS_nil (hK _ ?_); clear hK K)
          | refine stG ?_
          | (refine gateS 1 rfl ?_; refine runS_call rfl rfl ⟨_, evl, _, _, _, evl, oblF, ?_⟩; apply Exists.intro; refine ⟨fun hg => ?_, ?_⟩; · first | exact FnA.at_ (formR_A _) rfl rfl | exact FnA.at_s (formR_A _) rfl simT | exact FnA.at_s (formR_A _) rfl simF)
          | (refine gateA 1 rfl ?_; refine runA_call rfl ⟨_, evl, _, _, _, (fun _ _ => evlA), oblF, ?_⟩; apply Exists.intro; refine ⟨fun hg => ?_, ?_⟩; · first | exact FnA.at_ (formR_A _) rfl rfl | exact FnA.at_s (formR_A _) rfl simT | exact FnA.at_s (formR_A _) rfl simF)
          | (refine gateA 1 rfl ?_; refine runA_put ?_)
          | (refine gateBc ?_; first | (refine runB_nil (hK _ ?_); clear hK K) | (refine runB_op rfl ⟨_, evl, fun nb' => ?_⟩))
          | refine wpA_region (fun K hK => ?_)
          | (refine gateD ?_; first | (refine wpA_drawG false rfl (by kernel_rfl) (by kernel_rfl) (fun K hK => ?_)) | (refine wpA_drawG true rfl (by kernel_rfl) (by kernel_rfl) (fun K hK => ?_)))
      refine wpA_cond' ⟨_, evl, ?_, ?_⟩
      · intro hbad
        try refine wkG trivial ?_
        try (refine Stop.mk ?_; intro K hK)
        refine ret_of (by simp) ⟨_, _, _, evl, ob0, OutOk.eq ?_ ?_⟩
        · simp only [AV.raw.injEq, Value.bool.injEq]
          rw [eq_comm, validM, decide_eq_false_iff_not, validP_iff]
          rintro ⟨_, _, h5⟩
          obtain ⟨h6, h7, h8, h9⟩ := h5 k (by omega)
          have e : ((k : Int) - 1).toNat = k - 1 := by omega
          simp [h6, e] at hbad
          omega
        · simp [AV.free]
      · intro hgood
        try refine wkG trivial ?_
        try (refine Stop.mk ?_; intro K hK)
        refine ⟨k + 1, ⟨by omega, fun i hi => ?_⟩, by omega, ?_⟩
        · by_cases hik : i < k
          · exact hall i hik
          · obtain rfl : i = k := by omega
            have e : ((i : Int) - 1).toNat = i - 1 := by omega
            simp [e] at hgood
            refine ⟨by simp [hgood], fun h => by omega, fun h => by omega, by omega⟩
        · refine Weak.mk rfl ?_ ?_
          rotate_left
          · simp [belS, belB, AV.bel, AV.belL, go_sem]
          (try simp only [SubSl, lookN_cons, ↓reduceIte, Nat.reduceEqDiff, and_true, true_and, Option.some.injEq, Prod.mk.injEq, AV.raw.injEq, Value.int.injEq, Value.bool.injEq])
          all_goals ((repeat' apply And.intro) <;> first | rfl | omega | (simp; done))
    · intro hge
      simp only [decide_eq_false_iff_not] at hge
      try refine wkG trivial ?_
      try (refine Stop.mk ?_; intro K hK)
      refine ret_of (by simp) ⟨_, _, _, evl, ob0, OutOk.eq ?_ ?_⟩
      · simp only [AV.raw.injEq, Value.bool.injEq]
        have hv : ValidP l ↔ 1 ≤ l.length ∧ l.length ≤ 20 := by
          rw [validP_iff]
          exact ⟨fun h => ⟨h.1, h.2.1⟩, fun h => ⟨h.1, h.2, fun i hi => hall i (by omega)⟩⟩
        rw [validM, Bool.eq_iff_iff, decide_eq_true_iff, hv]
        simp only [Bool.and_eq_true, decide_eq_true_eq]
        omega
      · simp [AV.free]
def joinM (a b : Change) : Change := ⟨a.at_, min a.outLo b.outLo, max a.outHi b.outHi, min a.backLo b.backLo, max a.backHi b.backHi⟩
theorem joinR_A (a b : Change) : FnA Tryz.prog 145 [.agg a.c, .agg b.c] (.agg (joinM a b).c) := by
  refine fnA_of tblOk Tryz.func145 rfl (by kernel_rfl) 28 Tryz.ntmps145 (by simp only [List.length_cons, List.length_nil]; omega) [.cell 4 67] rfl ?_
  simp only [entrySt, argSl, Nat.zero_add, Nat.reduceAdd]
  try refine wkG trivial ?_
  try (refine Stop.mk ?_; intro K hK)
  refine ret_of (by simp) ⟨_, _, _, evl, ob0, OutOk.eq ?_ ?_⟩
  · rfl
  · simp [AV.free, AV.freeL]
def atM (l : List Change) (t : Int) (n : Nat) : Change := (List.range n).foldl (fun o k => if (gD l k).at_ ≤ t then gD l k else o) (gD l 0)
theorem atM_succ (l : List Change) (t : Int) (n : Nat) : atM l t (n + 1) = if (gD l n).at_ ≤ t then gD l n else atM l t n := by simp [atM, List.range_succ]
theorem atR_A (l : List Change) (t : Int) (hmax : l.length ≤ 1000) (h1 : 1 ≤ l.length) : FnA Tryz.prog 144 [chL l, .raw (.int .i64 t)] (.agg (atM l t l.length).c) := by
  unfold chL
  refine fnA_of tblOk Tryz.func144 rfl (by kernel_rfl) 28 Tryz.ntmps144 (by simp only [List.length_cons, List.length_nil]; omega) [.cell 4 67] rfl ?_
  simp only [entrySt, argSl, Nat.zero_add, Nat.reduceAdd]
  try refine wkG trivial ?_
  try (refine Stop.mk ?_; intro K hK)
  refine wpA_loop (fun k : Nat => ⟨28, 0, [(0, true, .lst 5 l.length fun i => (gD l i).c), (1, true, .raw (.int .i64 t)), (4, true, .box 0 0), (5, true, .box 1 0), (6, true, .raw (.int .i64 k))], [Change.c ⟨0, 0, 0, 0, 0⟩, (atM l t k).c], [], ((0, []), [], true)⟩)
    (fun k => k ≤ l.length) (fun k => l.length - k) 0 ?_ (by omega) ?_
  · refine Weak.sl ?_
    (try simp only [SubSl, lookN_cons, ↓reduceIte, Nat.reduceEqDiff, and_true, true_and, Option.some.injEq, Prod.mk.injEq, AV.raw.injEq, Value.int.injEq, Value.bool.injEq])
    all_goals ((repeat' apply And.intro) <;> first | rfl | omega | (simp; done))
  · intro k hk
    try refine wkG trivial ?_
    try (refine Stop.mk ?_; intro K hK)
    refine wpA_cond' ⟨_, evl, ?_, ?_⟩
    · intro hlt
      simp only [decide_eq_true_eq] at hlt
      try refine wkG trivial ?_
      try (refine Stop.mk ?_; intro K hK)
      refine wpA_cond' ⟨_, evl, ?_, ?_⟩
      · intro hc
        simp at hc
        try refine wkG trivial ?_
        try (refine Stop.mk ?_; intro K hK)
        refine ⟨k + 1, by omega, by omega, ?_⟩
        rw [atM_succ, if_pos hc]
        refine Weak.mk rfl ?_ ?_
        rotate_left
        · simp [belS, belB, AV.bel, AV.belL, go_sem]
        (try simp only [SubSl, lookN_cons, ↓reduceIte, Nat.reduceEqDiff, and_true, true_and, Option.some.injEq, Prod.mk.injEq, AV.raw.injEq, Value.int.injEq, Value.bool.injEq])
        all_goals ((repeat' apply And.intro) <;> first | rfl | omega | (simp; done))
      · intro hc
        simp at hc
        try refine wkG trivial ?_
        try (refine Stop.mk ?_; intro K hK)
        refine ⟨k + 1, by omega, by omega, ?_⟩
        rw [atM_succ, if_neg (by omega)]
        refine Weak.mk rfl ?_ ?_
        rotate_left
        · simp [belS, belB, AV.bel, AV.belL, go_sem]
        (try simp only [SubSl, lookN_cons, ↓reduceIte, Nat.reduceEqDiff, and_true, true_and, Option.some.injEq, Prod.mk.injEq, AV.raw.injEq, Value.int.injEq, Value.bool.injEq])
        all_goals ((repeat' apply And.intro) <;> first | rfl | omega | (simp; done))
    · intro hge
      simp only [decide_eq_false_iff_not] at hge
      have : k = l.length := by omega
      subst this
      try refine wkG trivial ?_
      try (refine Stop.mk ?_; intro K hK)
      refine ret_of (by simp) ⟨_, _, _, evl, ob0, OutOk.eq ?_ ?_⟩
      · rfl
      · simp [AV.free, AV.freeL]
def boundR (l : List Change) (i : Iv) (n : Nat) : Change := (List.range n).foldl (fun o k => if i.lo < (gD l k).at_ ∧ (gD l k).at_ ≤ i.hi then joinM o (gD l k) else o) { atM l i.lo l.length with at_ := i.lo }
theorem boundR_succ (l : List Change) (i : Iv) (n : Nat) : boundR l i (n + 1) = if i.lo < (gD l n).at_ ∧ (gD l n).at_ ≤ i.hi then joinM (boundR l i n) (gD l n) else boundR l i n := by simp [boundR, List.range_succ]
def refBoundsM (l : List Change) (i : Iv) : Change × Int := if validM l = true ∧ validI i = true then (boundR l i l.length, 0) else (⟨0, 0, 0, 0, 0⟩, 1)
theorem boundsR_A (l : List Change) (i : Iv) (hmax : l.length ≤ 1000) : FnA Tryz.prog 75 [chL l, .agg i.c] (.tup [.agg (refBoundsM l i).1.c, .raw (.int .i64 (refBoundsM l i).2)]) := by
  have hv := validR_A l hmax
  have ha := atR_A l i.lo hmax
  unfold chL at hv ha ⊢
  refine fnA_of tblOk Tryz.func75 rfl (by kernel_rfl) 59 Tryz.ntmps75 (by simp only [List.length_cons, List.length_nil]; omega) [.cell 4 67, .tmp 5] rfl ?_
  simp only [entrySt, argSl, Nat.zero_add, Nat.reduceAdd]
  try refine wkG (And.intro hv (validIR_A i)) ?_
  try (refine Stop.mk ?_; intro K hK)
  refine wpA_cond' ⟨_, evl, ?_, ?_⟩
  · intro hb
    try refine wkG trivial ?_
    try (refine Stop.mk ?_; intro K hK)
    refine ret_of (by simp) ⟨_, _, _, evl, ob0, OutOk.eq ?_ ?_⟩
    · rw [refBoundsM, if_neg (by simp at hb; rcases hb with h | h <;> simp [h])]; rfl
    · simp [AV.free, AV.freeL]
  · intro hb
    have hf : validM l = true ∧ validI i = true := by simpa using hb
    have hl : 1 ≤ l.length := by
      have := hf.1
      rw [validM, decide_eq_true_eq] at this
      exact this.1
    have ha := ha hl
    try refine wkG ha ?_
    try (refine Stop.mk ?_; intro K hK)
    refine wpA_loop (fun k : Nat => ⟨59, 0, [(0, true, .lst 5 l.length fun i => (gD l i).c), (3, true, .box 0 0), (4, true, .box 1 0), (8, true, .box 2 0), (9, true, .raw (.int .i64 k)), (5, true, .raw (.int .i64 0))], [i.c, Change.c ⟨0, 0, 0, 0, 0⟩, (boundR l i k).c], [], ((0, []), [], true)⟩)
      (fun k => k ≤ l.length) (fun k => l.length - k) 0 ?_ (by omega) ?_
    · refine Weak.sl ?_
      (try simp only [SubSl, lookN_cons, ↓reduceIte, Nat.reduceEqDiff, and_true, true_and, Option.some.injEq, Prod.mk.injEq, AV.raw.injEq, Value.int.injEq, Value.bool.injEq])
      all_goals ((repeat' apply And.intro) <;> first | rfl | omega | (simp; done))
    · intro k hk
      try refine wkG trivial ?_
      try (refine Stop.mk ?_; intro K hK)
      refine wpA_cond' ⟨_, evl, ?_, ?_⟩
      · intro hlt
        simp only [decide_eq_true_eq] at hlt
        try refine wkG trivial ?_
        try (refine Stop.mk ?_; intro K hK)
        refine wpA_cond' ⟨_, evl, ?_, ?_⟩
        · intro hc
          simp at hc
          try refine wkG (joinR_A (boundR l i k) (gD l k)) ?_
          try (refine Stop.mk ?_; intro K hK)
          refine ⟨k + 1, by omega, by omega, ?_⟩
          rw [boundR_succ, if_pos hc]
          refine Weak.mk rfl ?_ ?_
          rotate_left
          · simp [belS, belB, AV.bel, AV.belL, go_sem]
          (try simp only [SubSl, lookN_cons, ↓reduceIte, Nat.reduceEqDiff, and_true, true_and, Option.some.injEq, Prod.mk.injEq, AV.raw.injEq, Value.int.injEq, Value.bool.injEq])
          all_goals ((repeat' apply And.intro) <;> first | rfl | omega | (simp; done))
        · intro hc
          simp at hc
          try refine wkG trivial ?_
          try (refine Stop.mk ?_; intro K hK)
          refine ⟨k + 1, by omega, by omega, ?_⟩
          rw [boundR_succ, if_neg (by intro h; have := hc h.1; omega)]
          refine Weak.mk rfl ?_ ?_
          rotate_left
          · simp [belS, belB, AV.bel, AV.belL, go_sem]
          (try simp only [SubSl, lookN_cons, ↓reduceIte, Nat.reduceEqDiff, and_true, true_and, Option.some.injEq, Prod.mk.injEq, AV.raw.injEq, Value.int.injEq, Value.bool.injEq])
          all_goals ((repeat' apply And.intro) <;> first | rfl | omega | (simp; done))
      · intro hge
        simp only [decide_eq_false_iff_not] at hge
        have : k = l.length := by omega
        subst this
        try refine wkG trivial ?_
        try (refine Stop.mk ?_; intro K hK)
        refine ret_of (by simp) ⟨_, _, _, evl, ob0, OutOk.eq ?_ ?_⟩
        · rw [refBoundsM, if_pos hf]; rfl
        · simp [AV.free, AV.freeL]
theorem at_strict {l : List Change} (h : ∀ i, i < l.length → vOk l i) : ∀ i j, i < j → j < l.length → (gD l i).at_ < (gD l j).at_ := by
  intro i j hij hj
  have h1 := at_mono h i (j - 1) (by omega) (by omega)
  have h2 := (h j hj).2 (by omega)
  omega
theorem extStep_min (p : Change → Int) (b : Int) (c : Change) : extStep 1 p (b, false) c = (min b (p c), false) := by
  unfold extStep cmpM
  by_cases h : p c < b
  · simp [h]; try omega
  · by_cases h2 : b < p c
    · simp [h, h2]; try omega
    · simp [h, h2]; try omega
theorem extStep_max (p : Change → Int) (b : Int) (c : Change) : extStep (-1) p (b, false) c = (max b (p c), false) := by
  unfold extStep cmpM
  by_cases h : p c < b
  · simp [h]; try omega
  · by_cases h2 : b < p c
    · simp [h, h2]; try omega
    · simp [h, h2]; try omega
theorem extM_min (p : Change → Int) (c : Change) (r : List Change) : extM 1 p (c :: r) = (r.foldl (fun b x => min b (p x)) (p c), false) := by
  have : ∀ (r : List Change) (b : Int), r.foldl (extStep 1 p) (b, false) = (r.foldl (fun b x => min b (p x)) b, false) := by
    intro r
    induction r with
    | nil => intro b; rfl
    | cons x r ih => intro b; simp only [List.foldl_cons, extStep_min, ih]
  simp only [extM, List.foldl_cons]
  rw [show extStep 1 p (0, true) c = (p c, false) from by simp [extStep], this]
theorem extM_max (p : Change → Int) (c : Change) (r : List Change) : extM (-1) p (c :: r) = (r.foldl (fun b x => max b (p x)) (p c), false) := by
  have : ∀ (r : List Change) (b : Int), r.foldl (extStep (-1) p) (b, false) = (r.foldl (fun b x => max b (p x)) b, false) := by
    intro r
    induction r with
    | nil => intro b; rfl
    | cons x r ih => intro b; simp only [List.foldl_cons, extStep_max, ih]
  simp only [extM, List.foldl_cons]
  rw [show extStep (-1) p (0, true) c = (p c, false) from by simp [extStep], this]
/-- The delays that begin to be in force within an interval. -/
def laterL (l : List Change) (i : Iv) (n : Nat) : List Change := ((List.range n).filter fun k => decide (i.lo < (gD l k).at_ ∧ (gD l k).at_ ≤ i.hi)).map (gD l)
theorem boundR_eq (l : List Change) (i : Iv) (n : Nat) : boundR l i n = (laterL l i n).foldl joinM { atM l i.lo l.length with at_ := i.lo } := by
  induction n with
  | zero => rfl
  | succ n ih =>
    rw [boundR_succ, laterL, List.range_succ, List.filter_append, List.map_append, List.foldl_append]
    rw [show (((List.range n).filter fun k => decide (i.lo < (gD l k).at_ ∧ (gD l k).at_ ≤ i.hi)).map (gD l)) = laterL l i n from rfl, ← ih]
    by_cases h : i.lo < (gD l n).at_ ∧ (gD l n).at_ ≤ i.hi <;> simp [h]
theorem join_fold (r : List Change) : ∀ a : Change, r.foldl joinM a = ⟨a.at_, r.foldl (fun b x => min b x.outLo) a.outLo, r.foldl (fun b x => max b x.outHi) a.outHi, r.foldl (fun b x => min b x.backLo) a.backLo, r.foldl (fun b x => max b x.backHi) a.backHi⟩ := by
  induction r with
  | nil => intro a; rfl
  | cons x r ih => intro a; simp only [List.foldl_cons, ih, joinM]
theorem lastAt {l : List Change} {lo : Int} (h1 : 1 ≤ l.length) (h0 : (gD l 0).at_ ≤ lo) (hs : ∀ i j, i < j → j < l.length → (gD l i).at_ < (gD l j).at_) : ∃ a, a < l.length ∧ (gD l a).at_ ≤ lo ∧ ∀ k, a < k → k < l.length → lo < (gD l k).at_ := by
  have : ∀ n, n < l.length → ∃ a, a ≤ n ∧ (gD l a).at_ ≤ lo ∧ ∀ k, a < k → k ≤ n → lo < (gD l k).at_ := by
    intro n
    induction n with
    | zero => intro _; exact ⟨0, Nat.le_refl _, h0, fun k h h' => by omega⟩
    | succ n ih =>
      intro hn
      obtain ⟨a, e1, e2, e3⟩ := ih (by omega)
      by_cases hc : (gD l (n + 1)).at_ ≤ lo
      · exact ⟨n + 1, Nat.le_refl _, hc, fun k h h' => by omega⟩
      · refine ⟨a, by omega, e2, fun k h h' => ?_⟩
        by_cases hk : k = n + 1
        · subst hk; omega
        · exact e3 k h (by omega)
  obtain ⟨a, e1, e2, e3⟩ := this (l.length - 1) (by omega)
  exact ⟨a, by omega, e2, fun k h h' => e3 k h (by omega)⟩
theorem force_eq {l : List Change} {i : Iv} (h1 : 1 ≤ l.length) (h0 : (gD l 0).at_ ≤ i.lo) (hi : i.lo ≤ i.hi) (hs : ∀ i j, i < j → j < l.length → (gD l i).at_ < (gD l j).at_) : forceL l i l.length = atM l i.lo l.length :: laterL l i l.length := by
  obtain ⟨a, e1, e2, e3⟩ := lastAt h1 h0 hs
  have hP : ∀ k, k < l.length → (inF l i k = true ↔ k = a ∨ (i.lo < (gD l k).at_ ∧ (gD l k).at_ ≤ i.hi)) := by
    intro k hk
    have e : ((k : Int) + 1).toNat = k + 1 := by omega
    simp only [inF, e, Bool.and_eq_true, Bool.not_eq_true', Bool.and_eq_false_iff, decide_eq_false_iff_not, decide_eq_true_eq]
    rcases Nat.lt_trichotomy k a with h | h | h
    · have h2 := hs k a h e1
      have h3 : (gD l (k + 1)).at_ ≤ i.lo := by
        by_cases hka : k + 1 = a
        · rw [hka]; exact e2
        · have := hs (k + 1) a (by omega) e1; omega
      constructor
      · rintro ⟨h4 | h4, _⟩ <;> omega
      · rintro (h4 | h4) <;> omega
    · subst h
      refine ⟨fun _ => .inl rfl, fun _ => ⟨?_, by omega⟩⟩
      by_cases hn : k + 1 < l.length
      · have := e3 (k + 1) (by omega) hn; omega
      · omega
    · have h2 := e3 k h hk
      constructor
      · rintro ⟨_, h4⟩; exact .inr ⟨h2, h4⟩
      · rintro (h4 | h4)
        · omega
        · refine ⟨?_, h4.2⟩
          by_cases hn : k + 1 < l.length
          · have := e3 (k + 1) (by omega) hn; omega
          · omega
  have key : ∀ n, n ≤ l.length → (List.range n).filter (inF l i) = (if a < n then [a] else []) ++ (List.range n).filter (fun k => decide (i.lo < (gD l k).at_ ∧ (gD l k).at_ ≤ i.hi)) ∧ (a < n → atM l i.lo n = gD l a) := by
    intro n
    induction n with
    | zero => intro _; simp
    | succ n ih =>
      intro hn
      obtain ⟨i1, i2⟩ := ih (by omega)
      have hp := hP n (by omega)
      rw [List.range_succ, List.filter_append, List.filter_append, i1, atM_succ]
      rcases Nat.lt_trichotomy n a with h | h | h
      · have hq : ¬ i.lo < (gD l n).at_ := by have := hs n a h e1; omega
        have hf : inF l i n = false := by rw [Bool.eq_false_iff]; intro h4; rcases hp.1 h4 with h5 | h5 <;> omega
        refine ⟨by simp [hf, hq, show ¬ a < n from by omega, show ¬ a < n + 1 from by omega], fun h => by omega⟩
      · subst h
        have hq : ¬ i.lo < (gD l n).at_ := by omega
        have hnil : (List.range n).filter (fun k => decide (i.lo < (gD l k).at_ ∧ (gD l k).at_ ≤ i.hi)) = [] := by
          rw [List.filter_eq_nil_iff]
          intro k hk
          have := hs k n (List.mem_range.1 hk) e1
          simp; omega
        refine ⟨by rw [hnil]; simp [hp.2 (.inl rfl), hq], fun _ => by rw [if_pos e2]⟩
      · have h2 := e3 n h (by omega)
        have hb : inF l i n = decide (i.lo < (gD l n).at_ ∧ (gD l n).at_ ≤ i.hi) := by
          rw [Bool.eq_iff_iff, decide_eq_true_iff, hp]
          exact ⟨fun h => h.resolve_left (by omega), .inr⟩
        refine ⟨by simp [hb, h, show a < n + 1 from by omega, List.append_assoc, List.filter_cons], fun _ => by rw [if_neg (by omega)]; exact i2 h⟩
  obtain ⟨k1, k2⟩ := key l.length (Nat.le_refl _)
  rw [forceL, k1, if_pos e1, k2 e1]
  rfl
theorem refBounds_eq (l : List Change) (i : Iv) : refBoundsM l i = linkBoundsM l i := by
  unfold refBoundsM linkBoundsM
  split
  · rename_i h
    have hv := h.1
    rw [validM, decide_eq_true_eq] at hv
    obtain ⟨v1, v2, v3, v4, v5⟩ := hv
    have hi := (validI_iff i).1 h.2
    rw [force_eq v1 (by omega) hi.2.1 (at_strict v5), boundR_eq, join_fold]
    simp only [extM_min, extM_max]
  · rfl
end Lk
end Go.Proofs.YtihnjbnlbedpaaaGreatDoor
