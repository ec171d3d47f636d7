/- package site: Valid. -/
import Derived.Test.YtcdgncmkkknmlaaGreatDoorSl
namespace Go.Proofs.YtcdgncmkkknmlaaGreatDoor
set_option linter.unusedVariables false
set_option linter.unusedSimpArgs false
set_option maxHeartbeats 4000000
set_option maxRecDepth 100000
open Go.RowKit
theorem indexFunc_T (l : List Table) (hl : l.length ≤ 4611686018427387904) (g : FuncId) (cap : List AV) (hcap : AV.freeL cap) (p : Table → Bool) (hp : ∀ x ∈ l, FnA Tryz.prog g (.agg x.av :: cap) (.raw (.bool (p x)))) :
    FnA Tryz.prog 89 [lA 3 Table.av l, .fn (.func g) [] cap] (.raw (.int .i64 (idxM p l))) := by
  refine fnA_of tblOk Tryz.func89 rfl (by kernel_rfl) 19 Tryz.ntmps89 (by simp only [List.length_cons, List.length_nil]; omega) [.tmp 4] rfl ?_
  simp only [entrySt, argSl, Nat.zero_add, Nat.reduceAdd]
  try refine wkG trivial ?_
  try (refine Stop.mk ?_; intro K hK)
  refine wpA_loop (fun k : Nat => ⟨19, 0, [(0, true, lA 3 Table.av l), (1, true, .fn (.func g) [] cap), (7, true, .raw (.int .i64 l.length)), (8, true, .raw (.int .i64 k))], [], [], ((0, []), [], true)⟩)
    (fun k => k ≤ l.length ∧ ∀ i, i < k → p (l.getD i default) = false) (fun k => l.length - k) 0 ?_ ⟨by omega, fun i h => by omega⟩ ?_
  · refine wkn ?_ ?_ ?_
    all_goals first | exact wk0 | refine wkS ?_ | skip
    all_goals (try trivial)
    all_goals ((repeat' apply And.intro) <;> first | exact wkL | skip)
  · rintro k ⟨hk, hall⟩
    try refine wkG trivial ?_
    try (refine Stop.mk ?_; intro K hK)
    refine wpA_cond' ⟨_, evl, ?_, ?_⟩
    · intro hlt
      simp only [decide_eq_true_eq] at hlt
      have hmem : l.getD k default ∈ l := by rw [List.getD_eq_getElem?_getD, List.getElem?_eq_getElem (show k < l.length by omega)]; exact List.getElem_mem _
      have hpk := hp _ hmem
      have hfe : AV.freeL (Table.av (l.getD k default)) := by first | exact Table.free _ | (simp [AV.free, AV.freeL, iC, u8C, kC]; done)
      try refine wkG hpk ?_
      try (refine Stop.mk ?_; intro K hK)
      refine wpA_cond' ⟨_, evl, ?_, ?_⟩
      · intro hb
        try refine wkG trivial ?_
        try (refine Stop.mk ?_; intro K hK)
        refine ret_of (by simp) ⟨_, _, _, evl, ob0, OutOk.eq ?_ ?_⟩
        · rw [idxM_hit (show k < l.length by omega) hall hb]
        · simp [AV.free]
      · intro hb
        try refine wkG trivial ?_
        try (refine Stop.mk ?_; intro K hK)
        refine ⟨k + 1, ⟨by omega, fun i hi => ?_⟩, by omega, ?_⟩
        · rcases Nat.lt_succ_iff_lt_or_eq.1 hi with h | rfl
          · exact hall i h
          · exact hb
        · refine wkn ?_ ?_ ?_
          all_goals first | exact wk0 | refine wkS ?_ | skip
          all_goals (try trivial)
          all_goals ((repeat' apply And.intro) <;> first | exact wkL | skip)
    · intro hge
      simp only [decide_eq_false_iff_not] at hge
      try refine wkG trivial ?_
      try (refine Stop.mk ?_; intro K hK)
      refine ret_of (by simp) ⟨_, _, _, evl, ob0, OutOk.eq ?_ ?_⟩
      · rw [idxM_none (fun i hi => hall i (by omega))]
      · simp [AV.free]
theorem containsFunc_T (l : List Table) (hl : l.length ≤ 4611686018427387904) (g : FuncId) (cap : List AV) (hcap : AV.freeL cap) (p : Table → Bool) (hp : ∀ x ∈ l, FnA Tryz.prog g (.agg x.av :: cap) (.raw (.bool (p x)))) :
    FnA Tryz.prog 44 [lA 3 Table.av l, .fn (.func g) [] cap] (.raw (.bool (l.any p))) := by
  have hi := indexFunc_T l hl g cap hcap p hp
  have hany := idxM_any p l
  have hfr : (lA 3 Table.av l).free := lA_free (fun y => Table.free y) _
  generalize lA 3 Table.av l = L at hi hfr
  generalize idxM p l = i at hi hany
  refine fnA_of tblOk Tryz.func44 rfl (by kernel_rfl) 9 Tryz.ntmps44 (by simp only [List.length_cons, List.length_nil]; omega) [.tmp 4] rfl ?_
  simp only [entrySt, argSl, Nat.zero_add, Nat.reduceAdd]
  repeat' first
    | refine wkG hi ?_
    | (refine cndS ⟨_, evl, ⟨cb, cb⟩, fun hb => ?_, fun hb => ?_⟩ <;> try (cases hb; done))
    | (refine Stop.mk ?_; intro K hK)
    | fail
  all_goals (try (refine ret_of (by simp) ⟨_, _, _, evl, ob0, OutOk.sims ?_ fre⟩))
  all_goals first | exact Sims.refl _ | (refine Sims.of_eq ?_; first | rfl | (simp []; done) | (simp_all []; done) | (simp_all []; omega) | (simp []; grind) | (split <;> simp_all)) | exact simsF | (refine Sims.tup ?_; simp only [SimsL, and_true]; (repeat' apply And.intro) <;> first | exact simsF | skip) | (exfalso; first | omega | (simp_all; done) | (simp_all; omega)) | skip
  all_goals (rw [hany])
theorem indexFunc_H (l : List Host) (hl : l.length ≤ 4611686018427387904) (g : FuncId) (cap : List AV) (hcap : AV.freeL cap) (p : Host → Bool) (hp : ∀ x ∈ l, FnA Tryz.prog g (.agg x.av :: cap) (.raw (.bool (p x)))) :
    FnA Tryz.prog 81 [lA 6 Host.av l, .fn (.func g) [] cap] (.raw (.int .i64 (idxM p l))) := by
  refine fnA_of tblOk Tryz.func81 rfl (by kernel_rfl) 19 Tryz.ntmps81 (by simp only [List.length_cons, List.length_nil]; omega) [.tmp 4] rfl ?_
  simp only [entrySt, argSl, Nat.zero_add, Nat.reduceAdd]
  try refine wkG trivial ?_
  try (refine Stop.mk ?_; intro K hK)
  refine wpA_loop (fun k : Nat => ⟨19, 0, [(0, true, lA 6 Host.av l), (1, true, .fn (.func g) [] cap), (7, true, .raw (.int .i64 l.length)), (8, true, .raw (.int .i64 k))], [], [], ((0, []), [], true)⟩)
    (fun k => k ≤ l.length ∧ ∀ i, i < k → p (l.getD i default) = false) (fun k => l.length - k) 0 ?_ ⟨by omega, fun i h => by omega⟩ ?_
  · refine wkn ?_ ?_ ?_
    all_goals first | exact wk0 | refine wkS ?_ | skip
    all_goals (try trivial)
    all_goals ((repeat' apply And.intro) <;> first | exact wkL | skip)
  · rintro k ⟨hk, hall⟩
    try refine wkG trivial ?_
    try (refine Stop.mk ?_; intro K hK)
    refine wpA_cond' ⟨_, evl, ?_, ?_⟩
    · intro hlt
      simp only [decide_eq_true_eq] at hlt
      have hmem : l.getD k default ∈ l := by rw [List.getD_eq_getElem?_getD, List.getElem?_eq_getElem (show k < l.length by omega)]; exact List.getElem_mem _
      have hpk := hp _ hmem
      have hfe : AV.freeL (Host.av (l.getD k default)) := by first | exact Host.free _ | (simp [AV.free, AV.freeL, iC, u8C, kC]; done)
      try refine wkG hpk ?_
      try (refine Stop.mk ?_; intro K hK)
      refine wpA_cond' ⟨_, evl, ?_, ?_⟩
      · intro hb
        try refine wkG trivial ?_
        try (refine Stop.mk ?_; intro K hK)
        refine ret_of (by simp) ⟨_, _, _, evl, ob0, OutOk.eq ?_ ?_⟩
        · rw [idxM_hit (show k < l.length by omega) hall hb]
        · simp [AV.free]
      · intro hb
        try refine wkG trivial ?_
        try (refine Stop.mk ?_; intro K hK)
        refine ⟨k + 1, ⟨by omega, fun i hi => ?_⟩, by omega, ?_⟩
        · rcases Nat.lt_succ_iff_lt_or_eq.1 hi with h | rfl
          · exact hall i h
          · exact hb
        · refine wkn ?_ ?_ ?_
          all_goals first | exact wk0 | refine wkS ?_ | skip
          all_goals (try trivial)
          all_goals ((repeat' apply And.intro) <;> first | exact wkL | skip)
    · intro hge
      simp only [decide_eq_false_iff_not] at hge
      try refine wkG trivial ?_
      try (refine Stop.mk ?_; intro K hK)
      refine ret_of (by simp) ⟨_, _, _, evl, ob0, OutOk.eq ?_ ?_⟩
      · rw [idxM_none (fun i hi => hall i (by omega))]
      · simp [AV.free]
theorem containsFunc_H (l : List Host) (hl : l.length ≤ 4611686018427387904) (g : FuncId) (cap : List AV) (hcap : AV.freeL cap) (p : Host → Bool) (hp : ∀ x ∈ l, FnA Tryz.prog g (.agg x.av :: cap) (.raw (.bool (p x)))) :
    FnA Tryz.prog 46 [lA 6 Host.av l, .fn (.func g) [] cap] (.raw (.bool (l.any p))) := by
  have hi := indexFunc_H l hl g cap hcap p hp
  have hany := idxM_any p l
  have hfr : (lA 6 Host.av l).free := lA_free (fun y => Host.free y) _
  generalize lA 6 Host.av l = L at hi hfr
  generalize idxM p l = i at hi hany
  refine fnA_of tblOk Tryz.func46 rfl (by kernel_rfl) 9 Tryz.ntmps46 (by simp only [List.length_cons, List.length_nil]; omega) [.tmp 4] rfl ?_
  simp only [entrySt, argSl, Nat.zero_add, Nat.reduceAdd]
  repeat' first
    | refine wkG hi ?_
    | (refine cndS ⟨_, evl, ⟨cb, cb⟩, fun hb => ?_, fun hb => ?_⟩ <;> try (cases hb; done))
    | (refine Stop.mk ?_; intro K hK)
    | fail
  all_goals (try (refine ret_of (by simp) ⟨_, _, _, evl, ob0, OutOk.sims ?_ fre⟩))
  all_goals first | exact Sims.refl _ | (refine Sims.of_eq ?_; first | rfl | (simp []; done) | (simp_all []; done) | (simp_all []; omega) | (simp []; grind) | (split <;> simp_all)) | exact simsF | (refine Sims.tup ?_; simp only [SimsL, and_true]; (repeat' apply And.intro) <;> first | exact simsF | skip) | (exfalso; first | omega | (simp_all; done) | (simp_all; omega)) | skip
  all_goals (rw [hany])
theorem indexFunc_U (l : List Auth) (hl : l.length ≤ 4611686018427387904) (g : FuncId) (cap : List AV) (hcap : AV.freeL cap) (p : Auth → Bool) (hp : ∀ x ∈ l, FnA Tryz.prog g (.agg x.av :: cap) (.raw (.bool (p x)))) :
    FnA Tryz.prog 90 [lA 4 Auth.av l, .fn (.func g) [] cap] (.raw (.int .i64 (idxM p l))) := by
  refine fnA_of tblOk Tryz.func90 rfl (by kernel_rfl) 19 Tryz.ntmps90 (by simp only [List.length_cons, List.length_nil]; omega) [.tmp 4] rfl ?_
  simp only [entrySt, argSl, Nat.zero_add, Nat.reduceAdd]
  try refine wkG trivial ?_
  try (refine Stop.mk ?_; intro K hK)
  refine wpA_loop (fun k : Nat => ⟨19, 0, [(0, true, lA 4 Auth.av l), (1, true, .fn (.func g) [] cap), (7, true, .raw (.int .i64 l.length)), (8, true, .raw (.int .i64 k))], [], [], ((0, []), [], true)⟩)
    (fun k => k ≤ l.length ∧ ∀ i, i < k → p (l.getD i default) = false) (fun k => l.length - k) 0 ?_ ⟨by omega, fun i h => by omega⟩ ?_
  · refine wkn ?_ ?_ ?_
    all_goals first | exact wk0 | refine wkS ?_ | skip
    all_goals (try trivial)
    all_goals ((repeat' apply And.intro) <;> first | exact wkL | skip)
  · rintro k ⟨hk, hall⟩
    try refine wkG trivial ?_
    try (refine Stop.mk ?_; intro K hK)
    refine wpA_cond' ⟨_, evl, ?_, ?_⟩
    · intro hlt
      simp only [decide_eq_true_eq] at hlt
      have hmem : l.getD k default ∈ l := by rw [List.getD_eq_getElem?_getD, List.getElem?_eq_getElem (show k < l.length by omega)]; exact List.getElem_mem _
      have hpk := hp _ hmem
      have hfe : AV.freeL (Auth.av (l.getD k default)) := by first | exact Auth.free _ | (simp [AV.free, AV.freeL, iC, u8C, kC]; done)
      try refine wkG hpk ?_
      try (refine Stop.mk ?_; intro K hK)
      refine wpA_cond' ⟨_, evl, ?_, ?_⟩
      · intro hb
        try refine wkG trivial ?_
        try (refine Stop.mk ?_; intro K hK)
        refine ret_of (by simp) ⟨_, _, _, evl, ob0, OutOk.eq ?_ ?_⟩
        · rw [idxM_hit (show k < l.length by omega) hall hb]
        · simp [AV.free]
      · intro hb
        try refine wkG trivial ?_
        try (refine Stop.mk ?_; intro K hK)
        refine ⟨k + 1, ⟨by omega, fun i hi => ?_⟩, by omega, ?_⟩
        · rcases Nat.lt_succ_iff_lt_or_eq.1 hi with h | rfl
          · exact hall i h
          · exact hb
        · refine wkn ?_ ?_ ?_
          all_goals first | exact wk0 | refine wkS ?_ | skip
          all_goals (try trivial)
          all_goals ((repeat' apply And.intro) <;> first | exact wkL | skip)
    · intro hge
      simp only [decide_eq_false_iff_not] at hge
      try refine wkG trivial ?_
      try (refine Stop.mk ?_; intro K hK)
      refine ret_of (by simp) ⟨_, _, _, evl, ob0, OutOk.eq ?_ ?_⟩
      · rw [idxM_none (fun i hi => hall i (by omega))]
      · simp [AV.free]
theorem containsFunc_U (l : List Auth) (hl : l.length ≤ 4611686018427387904) (g : FuncId) (cap : List AV) (hcap : AV.freeL cap) (p : Auth → Bool) (hp : ∀ x ∈ l, FnA Tryz.prog g (.agg x.av :: cap) (.raw (.bool (p x)))) :
    FnA Tryz.prog 50 [lA 4 Auth.av l, .fn (.func g) [] cap] (.raw (.bool (l.any p))) := by
  have hi := indexFunc_U l hl g cap hcap p hp
  have hany := idxM_any p l
  have hfr : (lA 4 Auth.av l).free := lA_free (fun y => Auth.free y) _
  generalize lA 4 Auth.av l = L at hi hfr
  generalize idxM p l = i at hi hany
  refine fnA_of tblOk Tryz.func50 rfl (by kernel_rfl) 9 Tryz.ntmps50 (by simp only [List.length_cons, List.length_nil]; omega) [.tmp 4] rfl ?_
  simp only [entrySt, argSl, Nat.zero_add, Nat.reduceAdd]
  repeat' first
    | refine wkG hi ?_
    | (refine cndS ⟨_, evl, ⟨cb, cb⟩, fun hb => ?_, fun hb => ?_⟩ <;> try (cases hb; done))
    | (refine Stop.mk ?_; intro K hK)
    | fail
  all_goals (try (refine ret_of (by simp) ⟨_, _, _, evl, ob0, OutOk.sims ?_ fre⟩))
  all_goals first | exact Sims.refl _ | (refine Sims.of_eq ?_; first | rfl | (simp []; done) | (simp_all []; done) | (simp_all []; omega) | (simp []; grind) | (split <;> simp_all)) | exact simsF | (refine Sims.tup ?_; simp only [SimsL, and_true]; (repeat' apply And.intro) <;> first | exact simsF | skip) | (exfalso; first | omega | (simp_all; done) | (simp_all; omega)) | skip
  all_goals (rw [hany])
theorem badT_A (t : Table) (ht : t.fits) : FnA Tryz.prog 39 [.agg t.av] (.raw (.bool (!decide (tabP t)))) := by
  have h := tvalid_A t ht
  have hf1 := liA_free t.temps
  have hf2 := liA_free t.ages
  have hf3 : (lA 1 liC t.rates).free := lA_free (fun y => show AV.freeL (liC y) from ⟨liA_free y, trivial⟩) _
  generalize decide (tabP t) = v at *
  refine fnA_of tblOk Tryz.func39 rfl (by kernel_rfl) 6 Tryz.ntmps39 (by simp only [List.length_cons, List.length_nil]; omega) [.tmp 2] rfl ?_
  simp only [entrySt, argSl, Nat.zero_add, Nat.reduceAdd]
  repeat' first
    | refine wkG h ?_
    | (refine cndS ⟨_, evl, ⟨cb, cb⟩, fun hb => ?_, fun hb => ?_⟩ <;> try (cases hb; done))
    | (refine Stop.mk ?_; intro K hK)
    | fail
  all_goals (try (refine ret_of (by simp) ⟨_, _, _, evl, ob0, OutOk.sims ?_ fre⟩))
  all_goals first | exact Sims.refl _ | (refine Sims.of_eq ?_; first | rfl | (simp []; done) | (simp_all []; done) | (simp_all []; omega) | (simp []; grind) | (split <;> simp_all)) | exact simsF | (refine Sims.tup ?_; simp only [SimsL, and_true]; (repeat' apply And.intro) <;> first | exact simsF | skip) | (exfalso; first | omega | (simp_all; done) | (simp_all; omega)) | skip
theorem badU_A (a : Auth) : FnA Tryz.prog 42 [.agg a.av] (.raw (.bool (!decide (authF a)))) := by
  have h := formedU_A a
  generalize decide (authF a) = v at *
  refine fnA_of tblOk Tryz.func42 rfl (by kernel_rfl) 6 Tryz.ntmps42 (by simp only [List.length_cons, List.length_nil]; omega) [.tmp 2] rfl ?_
  simp only [entrySt, argSl, Nat.zero_add, Nat.reduceAdd]
  repeat' first
    | refine wkG h ?_
    | (refine cndS ⟨_, evl, ⟨cb, cb⟩, fun hb => ?_, fun hb => ?_⟩ <;> try (cases hb; done))
    | (refine Stop.mk ?_; intro K hK)
    | fail
  all_goals (try (refine ret_of (by simp) ⟨_, _, _, evl, ob0, OutOk.sims ?_ fre⟩))
  all_goals first | exact Sims.refl _ | (refine Sims.of_eq ?_; first | rfl | (simp []; done) | (simp_all []; done) | (simp_all []; omega) | (simp []; grind) | (split <;> simp_all)) | exact simsF | (refine Sims.tup ?_; simp only [SimsL, and_true]; (repeat' apply And.intro) <;> first | exact simsF | skip) | (exfalso; first | omega | (simp_all; done) | (simp_all; omega)) | skip
theorem badH_A (n : Net) (hl : n.tables.length ≤ 1000) (hf : ∀ t ∈ n.tables, t.fits) (h : Host) : FnA Tryz.prog 41 [.agg h.av, .elt n.av 0] (.raw (.bool (!decide ((boundN n h).2 = 0)))) := by
  have hb := bound_A n hl hf h
  have f1 : (lA 3 Table.av n.tables).free := lA_free (fun y => Table.free y) _
  have f2 : (lA 6 Host.av n.hosts).free := lA_free (fun y => Host.free y) _
  have f3 : (lA 4 Auth.av n.auths).free := lA_free (fun y => Auth.free y) _
  have f4 : (lA 3 Wire.av n.wires).free := lA_free (fun y => Wire.free y) _
  generalize boundN n h = w at *
  refine fnA_of tblOk Tryz.func41 rfl (by kernel_rfl) 14 Tryz.ntmps41 (by simp only [List.length_cons, List.length_nil]; omega) [.tmp 3] rfl ?_
  simp only [entrySt, argSl, Nat.zero_add, Nat.reduceAdd]
  repeat'
    first
      | first
        | (refine runS_nil (hK _ ?_); clear hK K)
        | refine stG ?_
        | (refine gateS 1 rfl ?_; refine runS_call rfl rfl ⟨_, evl, _, _, _, evl, oblG, ?_⟩; apply Exists.intro; refine ⟨fun hg => ?_, ?_⟩; · first | exact FnA.at_ (hb) rfl rfl | exact FnA.at_s (hb) rfl simT | exact FnA.at_s (hb) rfl simF)
        | (refine gateA 1 rfl ?_; refine runA_call rfl ⟨_, evl, _, _, _, (fun _ _ => evlA), oblG, ?_⟩; apply Exists.intro; refine ⟨fun hg => ?_, ?_⟩; · first | exact FnA.at_ (hb) rfl rfl | exact FnA.at_s (hb) rfl simT | exact FnA.at_s (hb) rfl simF)
        | (refine gateA 1 rfl ?_; refine runA_put ?_)
        | (refine gateBc ?_; first | (refine runB_nil (hK _ ?_); clear hK K) | (refine runB_op rfl ⟨_, evl, fun nb' => ?_⟩))
        | refine wpA_region (fun K hK => ?_)
        | (refine gateD ?_; first | (refine wpA_drawG false rfl (by kernel_rfl) (by kernel_rfl) (fun K hK => ?_)) | (refine wpA_drawG true rfl (by kernel_rfl) (by kernel_rfl) (fun K hK => ?_)))
        | (refine wpA_cond' ⟨_, evl, fun hb => ?_, fun hb => ?_⟩ <;> (try simp only [Bool.or_eq_true, Bool.and_eq_true, Bool.or_eq_false_iff, Bool.and_eq_false_iff, Bool.not_eq_true', Bool.not_eq_false', Bool.not_eq_true, Bool.not_eq_false, decide_eq_true_eq, decide_eq_false_iff_not, Bool.true_eq_false, Bool.false_eq_true, ne_eq, Classical.not_not, Int.not_lt, Int.not_le, Bool.not_true, Bool.not_false] at hb))
      | fail
  all_goals (try (refine ret_of (by simp) ⟨_, _, _, evl, ob0, OutOk.sims ?_ fre⟩))
  all_goals first | exact Sims.refl _ | (refine Sims.of_eq ?_; first | rfl | (simp []; done) | (simp_all []; done) | (simp_all []; omega) | (simp []; grind) | (split <;> simp_all)) | exact simsF | (refine Sims.tup ?_; simp only [SimsL, and_true]; (repeat' apply And.intro) <;> first | exact simsF | skip) | (exfalso; first | omega | (simp_all; done) | (simp_all; omega)) | skip
def netP (n : Net) : Prop := (n.tables.length ≤ 16 ∧ ∀ t ∈ n.tables, tabP t) ∧ (risesP (fun h : Host => h.id) n.hosts 64 ∧ ∀ h ∈ n.hosts, (boundN n h).2 = 0) ∧ (risesP (fun a : Auth => a.id) n.auths 16 ∧ ∀ a ∈ n.auths, authF a) ∧ wiredN n ∧ (0 ≤ n.f ∧ n.f ≤ 5) ∧ (0 ≤ n.lost ∧ n.lost ≤ 5) ∧ 1 ≤ n.timeout ∧ n.timeout ≤ 1000000000
instance (n : Net) : Decidable (netP n) := by unfold netP; infer_instance
theorem netP_eq (n : Net) : decide (netP n) = (decide ((n.tables.length : Int) ≤ 16) && !(n.tables.any fun t => !decide (tabP t)) && decide (risesP (fun h : Host => h.id) n.hosts 64) && !(n.hosts.any fun h => !decide ((boundN n h).2 = 0)) && decide (risesP (fun a : Auth => a.id) n.auths 16) && !(n.auths.any fun a => !decide (authF a)) && decide (wiredN n) && (decide (0 ≤ n.f) && decide (n.f ≤ 5)) && (decide (0 ≤ n.lost) && decide (n.lost ≤ 5)) && (decide (1 ≤ n.timeout) && decide (n.timeout ≤ 1000000000))) := by
  rw [Bool.eq_iff_iff, decide_eq_true_iff]
  simp only [netP, Bool.and_eq_true, decide_eq_true_eq, Bool.not_eq_true', List.any_eq_false, Bool.not_eq_false', and_assoc, Bool.not_eq_true, decide_eq_false_iff_not, Classical.not_not]
  constructor
  · rintro ⟨h1, h2, h3, h4, h5, h6, h7⟩
    exact ⟨by omega, h2, h3, h4, h5, h6, h7⟩
  · rintro ⟨h1, h2, h3, h4, h5, h6, h7⟩
    exact ⟨by omega, h2, h3, h4, h5, h6, h7⟩
theorem svalid_A (n : Net) (h1 : n.tables.length ≤ 1000) (h2 : n.hosts.length ≤ 1000) (h3 : n.auths.length ≤ 1000) (h4 : n.wires.length ≤ 1000) (hc : ∀ w ∈ n.wires, w.changes.length ≤ 1000) (hf : ∀ t ∈ n.tables, t.fits) : FnA Tryz.prog 13 [.agg n.av] (.raw (.bool (decide (netP n)))) := by
  have f1 : (lA 3 Table.av n.tables).free := lA_free (fun y => Table.free y) _
  have f2 : (lA 6 Host.av n.hosts).free := lA_free (fun y => Host.free y) _
  have f3 : (lA 4 Auth.av n.auths).free := lA_free (fun y => Auth.free y) _
  have f4 : (lA 3 Wire.av n.wires).free := lA_free (fun y => Wire.free y) _
  have a1 := containsFunc_T n.tables (by omega) _ [] trivial (fun t => !decide (tabP t)) (fun t ht => badT_A t (hf t ht))
  have a2 := hosts_A n h2
  have a3 := risingH_A n.hosts (by omega) 64
  have a4 := containsFunc_H n.hosts (by omega) _ [.elt n.av 0] ⟨⟨f1, f2, f3, f4, trivial, trivial, trivial, trivial⟩, trivial⟩ (fun h => !decide ((boundN n h).2 = 0)) (fun h _ => badH_A n h1 hf h)
  have a5 := auths_A n h3
  have a6 := risingU_A n.auths (by omega) 16
  have a7 := containsFunc_U n.auths (by omega) _ [] trivial (fun a => !decide (authF a)) (fun a _ => badU_A a)
  have a8 := wired_A n h2 h3 h4 hc
  have b1 := sbetween_A n.f 0 5
  have b2 := sbetween_A n.lost 0 5
  have b3 := sbetween_A n.timeout 1 1000000000
  rw [netP_eq]
  generalize (n.tables.any fun t => !decide (tabP t)) = v1 at *
  generalize decide (risesP (fun h : Host => h.id) n.hosts 64) = v2 at *
  generalize (n.hosts.any fun h => !decide ((boundN n h).2 = 0)) = v3 at *
  generalize decide (risesP (fun a : Auth => a.id) n.auths 16) = v4 at *
  generalize (n.auths.any fun a => !decide (authF a)) = v5 at *
  generalize decide (wiredN n) = v6 at *
  clear h1 h2 h3 h4 hc hf
  refine fnA_of tblOk Tryz.func13 rfl (by kernel_rfl) 61 Tryz.ntmps13 (by simp only [List.length_cons, List.length_nil]; omega) [.tmp 2] rfl ?_
  simp only [entrySt, argSl, Nat.zero_add, Nat.reduceAdd]
  repeat
    first
      | (refine runS_nil (hK _ ?_); clear hK K)
      | refine stG ?_
      | (refine gateA 1 rfl ?_; refine runA_put ?_)
      | (refine gateBc ?_; first | (refine runB_nil (hK _ ?_); clear hK K) | (refine runB_op rfl ⟨_, evl, fun nb' => ?_⟩))
      | refine wpA_region (fun K hK => ?_)
      | (refine gateD ?_; first | (refine wpA_drawG false rfl (by kernel_rfl) (by kernel_rfl) (fun K hK => ?_)) | (refine wpA_drawG true rfl (by kernel_rfl) (by kernel_rfl) (fun K hK => ?_)))
  refine runS_freeze 0 obf ⟨_, evl, _, evl, ?_⟩
  repeat
    first
      | (refine runS_nil (hK _ ?_); clear hK K)
      | refine stG ?_
      | (refine gateS 1 rfl ?_; refine runS_call rfl rfl ⟨_, evl, _, _, _, evl, oblG, ?_⟩; apply Exists.intro; refine ⟨fun hg => ?_, ?_⟩; · first | exact FnA.at_ (a1) rfl rfl | exact FnA.at_ (a2) rfl rfl | exact FnA.at_ (a3) rfl rfl | exact FnA.at_ (a4) rfl rfl | exact FnA.at_ (a5) rfl rfl | exact FnA.at_ (a6) rfl rfl | exact FnA.at_ (a7) rfl rfl | exact FnA.at_ (a8) rfl rfl | exact FnA.at_ (b1) rfl rfl | exact FnA.at_ (b2) rfl rfl | exact FnA.at_ (b3) rfl rfl | exact FnA.at_s (a1) rfl simT | exact FnA.at_s (a1) rfl simF | exact FnA.at_s (a2) rfl simT | exact FnA.at_s (a2) rfl simF | exact FnA.at_s (a3) rfl simT | exact FnA.at_s (a3) rfl simF | exact FnA.at_s (a4) rfl simT | exact FnA.at_s (a4) rfl simF | exact FnA.at_s (a5) rfl simT | exact FnA.at_s (a5) rfl simF | exact FnA.at_s (a6) rfl simT | exact FnA.at_s (a6) rfl simF | exact FnA.at_s (a7) rfl simT | exact FnA.at_s (a7) rfl simF | exact FnA.at_s (a8) rfl simT | exact FnA.at_s (a8) rfl simF | exact FnA.at_s (b1) rfl simT | exact FnA.at_s (b1) rfl simF | exact FnA.at_s (b2) rfl simT | exact FnA.at_s (b2) rfl simF | exact FnA.at_s (b3) rfl simT | exact FnA.at_s (b3) rfl simF)
      | (refine gateA 1 rfl ?_; refine runA_call rfl ⟨_, evl, _, _, _, (fun _ _ => evlA), oblG, ?_⟩; apply Exists.intro; refine ⟨fun hg => ?_, ?_⟩; · first | exact FnA.at_ (a1) rfl rfl | exact FnA.at_ (a2) rfl rfl | exact FnA.at_ (a3) rfl rfl | exact FnA.at_ (a4) rfl rfl | exact FnA.at_ (a5) rfl rfl | exact FnA.at_ (a6) rfl rfl | exact FnA.at_ (a7) rfl rfl | exact FnA.at_ (a8) rfl rfl | exact FnA.at_ (b1) rfl rfl | exact FnA.at_ (b2) rfl rfl | exact FnA.at_ (b3) rfl rfl | exact FnA.at_s (a1) rfl simT | exact FnA.at_s (a1) rfl simF | exact FnA.at_s (a2) rfl simT | exact FnA.at_s (a2) rfl simF | exact FnA.at_s (a3) rfl simT | exact FnA.at_s (a3) rfl simF | exact FnA.at_s (a4) rfl simT | exact FnA.at_s (a4) rfl simF | exact FnA.at_s (a5) rfl simT | exact FnA.at_s (a5) rfl simF | exact FnA.at_s (a6) rfl simT | exact FnA.at_s (a6) rfl simF | exact FnA.at_s (a7) rfl simT | exact FnA.at_s (a7) rfl simF | exact FnA.at_s (a8) rfl simT | exact FnA.at_s (a8) rfl simF | exact FnA.at_s (b1) rfl simT | exact FnA.at_s (b1) rfl simF | exact FnA.at_s (b2) rfl simT | exact FnA.at_s (b2) rfl simF | exact FnA.at_s (b3) rfl simT | exact FnA.at_s (b3) rfl simF)
      | (refine gateA 1 rfl ?_; refine runA_put ?_)
      | (refine gateBc ?_; first | (refine runB_nil (hK _ ?_); clear hK K) | (refine runB_op rfl ⟨_, evl, fun nb' => ?_⟩))
      | refine wpA_region (fun K hK => ?_)
      | (refine gateD ?_; first | (refine wpA_drawG false rfl (by kernel_rfl) (by kernel_rfl) (fun K hK => ?_)) | (refine wpA_drawG true rfl (by kernel_rfl) (by kernel_rfl) (fun K hK => ?_)))
  refine ret_of (by simp) ⟨_, _, _, evl, ob0, OutOk.eq ?_ ?_⟩
  · first | rfl | (simp [Bool.and_assoc]; done)
  · simp [AV.free]
end Go.Proofs.YtcdgncmkkknmlaaGreatDoor
