/- The reference of chapter 28: hosts, wires. -/
import Derived.Test.YtcdgncmkkknmlaaGreatDoorSx
namespace Go.Proofs.YtcdgncmkkknmlaaGreatDoor
set_option linter.unusedVariables false
set_option linter.unusedSimpArgs false
set_option maxHeartbeats 4000000
set_option maxRecDepth 100000
open Go.RowKit
theorem rise_geK {α : Type} [Inhabited α] {f : α → Int} {l : List α} {most : Int} {k : Nat} (h : ∀ i, i < k → riseOk f l most i) : ∀ i, i < k → (i : Int) + 1 ≤ f (l.getD i default)
  | 0, hi => by have := (h 0 hi).1; simp only [lastId] at this; omega
  | i + 1, hi => by
    have h1 := rise_geK h i (by omega)
    have h2 := (h (i + 1) hi).1
    simp only [lastId] at h2
    omega
theorem riseOk_iff {α : Type} [Inhabited α] {f : α → Int} {l : List α} {most : Int} {k : Nat} (h : ∀ i, i < k → riseOk f l most i) : riseOk f l most k ↔ 1 ≤ f (l.getD k default) ∧ f (l.getD k default) ≤ most ∧ (0 < k → f (l.getD (k - 1) default) < f (l.getD k default)) := by
  unfold riseOk
  rcases Nat.eq_zero_or_pos k with rfl | h0
  · simp only [lastId]; omega
  · rw [lastId_pos h0]
    have := rise_geK h (k - 1) (by omega)
    omega
theorem hostsR_A (n : Net) (hl : n.hosts.length ≤ 1000) (htl : n.tables.length ≤ 1000) (hf : ∀ t ∈ n.tables, fewT t) : FnA Tryz.prog 54 [.agg n.av] (.raw (.bool (decide (risesP (fun h : Host => h.id) n.hosts 64 ∧ ∀ h ∈ n.hosts, (boundN n h).2 = 0)))) := by
  refine fnA_of tblOk Tryz.func54 rfl (by kernel_rfl) 82 Tryz.ntmps54 (by simp only [List.length_cons, List.length_nil]; omega) [.tmp 2] rfl ?_
  simp only [entrySt, argSl, Nat.zero_add, Nat.reduceAdd]
  try refine wkG trivial ?_
  try (refine Stop.mk ?_; intro K hK)
  refine wpA_loop (fun k : Nat => ⟨82, 0, [(1, true, .box 0 0), (3, true, .raw (.int .i64 k))], [n.av], [], ((0, []), [], true)⟩)
    (fun k => k ≤ n.hosts.length ∧ ∀ i, i < k → riseOk (fun h : Host => h.id) n.hosts 64 i ∧ (boundN n (n.hosts.getD i default)).2 = 0) (fun k => n.hosts.length - k) 0 ?_ ⟨by omega, fun i h => by omega⟩ ?_
  · refine wkn ?_ ?_ ?_
    all_goals first | exact wk0 | refine wkS ?_ | skip
    all_goals (try trivial)
    all_goals ((repeat' apply And.intro) <;> first | exact wkL | skip)
  · rintro k ⟨hk, hall⟩
    try refine wkG trivial ?_
    try (refine Stop.mk ?_; intro K hK)
    refine wpA_cond' ⟨_, evl, fun hb => ?_, fun hb => ?_⟩
    · simp only [decide_eq_true_eq] at hb
      have hmem : n.hosts.getD k default ∈ n.hosts := getD_mem (show k < n.hosts.length by omega)
      have e1 : ((k : Int) - 1).toNat = k - 1 := by omega
      have hro := riseOk_iff (fun i hi => (hall i hi).1)
      have hno : (risesP (fun h : Host => h.id) n.hosts 64 ∧ ∀ h ∈ n.hosts, (boundN n h).2 = 0) → riseOk (fun h : Host => h.id) n.hosts 64 k ∧ (boundN n (n.hosts.getD k default)).2 = 0 := fun h => ⟨h.1.2 k (by omega), h.2 _ hmem⟩
      have hbo : (boundN n (n.hosts.getD k default)).2 = 0 → 0 ≤ (n.hosts.getD k default).table ∧ (n.hosts.getD k default).table ≤ n.tables.length - 1 := fun h => by
        unfold boundN at h
        split at h
        · assumption
        · cases h
      try refine wkG trivial ?_
      try (refine Stop.mk ?_; intro K hK)
      refine cndS ⟨_, evl, ⟨cb, cb⟩, fun hb2 => ?_, fun hb2 => ?_⟩
      · try refine wkG trivial ?_
        try (refine Stop.mk ?_; intro K hK)
        refine ret_of (by simp) ⟨_, _, _, evl, ob0, OutOk.eq ?_ (by simp [AV.free])⟩
        simp only [AV.raw.injEq, Value.bool.injEq]
        rw [eq_comm, decide_eq_false_iff_not]
        intro h
        obtain ⟨g1, g2⟩ := hno h
        have g3 := hbo g2
        have g4 := hro.1 g1
        simp only [e1] at hb2
        try simp only at g4
        omega
      · simp only [e1] at hb2
        have hin : 0 ≤ (n.hosts.getD k default).table ∧ (n.hosts.getD k default).table ≤ n.tables.length - 1 := by omega
        have hr : riseOk (fun h : Host => h.id) n.hosts 64 k := hro.2 (by first | omega | (simp only; omega))
        have hw := worstR_A _ (hf _ (getD_mem (show (n.hosts.getD k default).table.toNat < n.tables.length by omega))) (n.hosts.getD k default).temp (n.hosts.getD k default).age
        have hbe : boundN n (n.hosts.getD k default) = worstM (n.tables.getD (n.hosts.getD k default).table.toNat default) (n.hosts.getD k default).temp (n.hosts.getD k default).age := by rw [boundN, if_pos hin]
        have hf1 := liA_free (n.tables.getD (n.hosts.getD k default).table.toNat default).temps
        have hf2 := liA_free (n.tables.getD (n.hosts.getD k default).table.toNat default).ages
        have hf3 : (lA 1 liC (n.tables.getD (n.hosts.getD k default).table.toNat default).rates).free := lA_free (fun y => show AV.freeL (liC y) from ⟨liA_free y, trivial⟩) _
        rw [← hbe] at hw
        clear hro hb2 hbe hf
        generalize hq : boundN n (n.hosts.getD k default) = q at *
        try refine wkG hw ?_
        try (refine Stop.mk ?_; intro K hK)
        refine wpA_cond' ⟨_, evl, fun hb3 => ?_, fun hb3 => ?_⟩
        · try refine wkG trivial ?_
          try (refine Stop.mk ?_; intro K hK)
          refine ret_of (by simp) ⟨_, _, _, evl, ob0, OutOk.eq ?_ (by simp [AV.free])⟩
          simp only [AV.raw.injEq, Value.bool.injEq]
          rw [eq_comm, decide_eq_false_iff_not]
          intro h
          have h0 := (hno h).2
          simp [h0] at hb3
        · try refine wkG trivial ?_
          try (refine Stop.mk ?_; intro K hK)
          refine ⟨k + 1, ⟨by omega, fun i hi => ?_⟩, by omega, ?_⟩
          · rcases Nat.lt_succ_iff_lt_or_eq.1 hi with h | rfl
            · exact hall i h
            · refine ⟨hr, ?_⟩
              rw [hq]
              simpa using hb3
          · refine wkn ?_ ?_ ?_
            all_goals first | exact wk0 | refine wkS ?_ | skip
            all_goals (try trivial)
            all_goals ((repeat' apply And.intro) <;> first | exact wkL | skip)
    · simp only [decide_eq_false_iff_not] at hb
      obtain rfl : k = n.hosts.length := by omega
      have hA : ∀ a ∈ n.hosts, (boundN n a).2 = 0 := fun t ht => by
        obtain ⟨q, hq, rfl⟩ := mem_getD ht
        exact (hall q hq).2
      try refine wkG trivial ?_
      try (refine Stop.mk ?_; intro K hK)
      refine ret_of (by simp) ⟨_, _, _, evl, ob0, OutOk.eq ?_ ?_⟩
      · congr 2
        rw [Bool.eq_iff_iff, decide_eq_true_iff]
        simp only [Bool.and_eq_true, decide_eq_true_eq]
        constructor
        · rintro ⟨h1, h2⟩
          exact ⟨⟨by omega, fun i hi => (hall i hi).1⟩, hA⟩
        · rintro ⟨h1, _⟩
          have := rises_len h1
          have := h1.1
          omega
      · simp [AV.free]
theorem wiresR_A (n : Net) (h1 : n.hosts.length ≤ 1000) (h2 : n.auths.length ≤ 1000) (h3 : n.wires.length ≤ 1000) (hc : ∀ w ∈ n.wires, w.changes.length ≤ 1000) : FnA Tryz.prog 56 [.agg n.av] (.raw (.bool (decide (wiredN n)))) := by
  refine fnA_of tblOk Tryz.func56 rfl (by kernel_rfl) 75 Tryz.ntmps56 (by simp only [List.length_cons, List.length_nil]; omega) [.tmp 2] rfl ?_
  simp only [entrySt, argSl, Nat.zero_add, Nat.reduceAdd]
  try refine wkG trivial ?_
  try (refine Stop.mk ?_; intro K hK)
  refine wpA_loop (fun k : Nat => ⟨75, 0, [(1, true, .box 0 0), (3, true, .raw (.int .i64 k))], [n.av], [], ((0, []), [], true)⟩)
    (fun k => k ≤ n.wires.length ∧ ∀ i, i < k → wireOk n i) (fun k => n.wires.length - k) 0 ?_ ⟨by omega, fun i h => by omega⟩ ?_
  · refine wkn ?_ ?_ ?_
    all_goals first | exact wk0 | refine wkS ?_ | skip
    all_goals (try trivial)
    all_goals ((repeat' apply And.intro) <;> first | exact wkL | skip)
  · rintro k ⟨hk, hall⟩
    try refine wkG trivial ?_
    try (refine Stop.mk ?_; intro K hK)
    refine wpA_cond' ⟨_, evl, fun hb => ?_, fun hb => ?_⟩
    · simp only [decide_eq_true_eq] at hb
      have hmem : n.wires.getD k default ∈ n.wires := getD_mem (show k < n.wires.length by omega)
      have e1 : ((k : Int) - 1).toNat = k - 1 := by omega
      have hno : wiredN n → wireOk n k := fun h => h k (by omega)
      have hok : wireOk n k ↔ (¬ idxM (isH (n.wires.getD k default).host) n.hosts < 0 ∧ ¬ idxM (isU (n.wires.getD k default).auth) n.auths < 0) ∧ Lk.ValidP (n.wires.getD k default).changes ∧ (0 < k → lexLt (n.wires.getD (k - 1) default) (n.wires.getD k default)) := by
        rw [wireOk, mem_knOut, idxM_neg, idxM_neg]
        simp only [isH, isU, decide_eq_false_iff_not, Classical.not_forall, Classical.not_not]
        have a1 : (∃ p, p < n.hosts.length ∧ (n.hosts.getD p default).id = (n.wires.getD k default).host) ↔ ∃ x, ∃ (_ : x ∈ n.hosts), x.id = (n.wires.getD k default).host := ⟨fun ⟨p, hp, e⟩ => ⟨_, getD_mem hp, e⟩, fun ⟨x, hx, e⟩ => by obtain ⟨p, hp, rfl⟩ := mem_getD hx; exact ⟨p, hp, e⟩⟩
        have a2 : (∃ p, p < n.auths.length ∧ (n.auths.getD p default).id = (n.wires.getD k default).auth) ↔ ∃ x, ∃ (_ : x ∈ n.auths), x.id = (n.wires.getD k default).auth := ⟨fun ⟨p, hp, e⟩ => ⟨_, getD_mem hp, e⟩, fun ⟨x, hx, e⟩ => by obtain ⟨p, hp, rfl⟩ := mem_getD hx; exact ⟨p, hp, e⟩⟩
        rw [a1, a2]
      have hv := Lk.validR_A _ (hc _ hmem)
      have o1 := hostR_A n h1 (n.wires.getD k default).host
      have o2 := authR_A n h2 (n.wires.getD k default).auth
      have hf1 : (lA 5 Change.av (n.wires.getD k default).changes).free := lA_free (fun y => Change.free y) _
      obtain ⟨f1, f2, f3, f4⟩ : (lA 3 Table.av n.tables).free ∧ (lA 6 Host.av n.hosts).free ∧ (lA 4 Auth.av n.auths).free ∧ (lA 3 Wire.av n.wires).free := ⟨lA_free (fun y => Table.free y) _, lA_free (fun y => Host.free y) _, lA_free (fun y => Auth.free y) _, lA_free (fun y => Wire.free y) _⟩
      generalize idxM (isH (n.wires.getD k default).host) n.hosts = j1 at *
      generalize idxM (isU (n.wires.getD k default).auth) n.auths = j2 at *
      try refine wkG (And.intro hv (And.intro o1 o2)) ?_
      try (refine Stop.mk ?_; intro K hK)
      refine cndS ⟨_, evl, ⟨cb, cb⟩, fun hb2 => ?_, fun hb2 => ?_⟩
      · try refine wkG trivial ?_
        try (refine Stop.mk ?_; intro K hK)
        refine ret_of (by simp) ⟨_, _, _, evl, ob0, OutOk.eq ?_ (by simp [AV.free])⟩
        simp only [AV.raw.injEq, Value.bool.injEq]
        rw [eq_comm, decide_eq_false_iff_not]
        intro h
        obtain ⟨⟨a1, a2⟩, a3, _⟩ := hok.1 (hno h)
        rw [Lk.validM, decide_eq_true a3] at hb2
        rcases hb2 with (hb2 | hb2) | hb2
        · cases hb2
        · exact a1 hb2
        · exact a2 hb2
      · obtain ⟨⟨b1, b2⟩, b3⟩ := hb2
        try refine wkG trivial ?_
        try (refine Stop.mk ?_; intro K hK)
        refine cndS ⟨_, evl, ⟨cb, cb⟩, fun hb3 => ?_, fun hb3 => ?_⟩
        · try refine wkG trivial ?_
          try (refine Stop.mk ?_; intro K hK)
          refine ret_of (by simp) ⟨_, _, _, evl, ob0, OutOk.eq ?_ (by simp [AV.free])⟩
          simp only [AV.raw.injEq, Value.bool.injEq]
          rw [eq_comm, decide_eq_false_iff_not]
          intro h
          obtain ⟨_, _, a3⟩ := hok.1 (hno h)
          simp only [e1] at hb3
          have := a3 (by omega)
          unfold lexLt at this
          omega
        · simp only [e1] at hb3
          try refine wkG trivial ?_
          try (refine Stop.mk ?_; intro K hK)
          refine ⟨k + 1, ⟨by omega, fun i hi => ?_⟩, by omega, ?_⟩
          · rcases Nat.lt_succ_iff_lt_or_eq.1 hi with h | rfl
            · exact hall i h
            · refine hok.2 ⟨⟨by omega, by omega⟩, ?_, fun h0 => ?_⟩
              · rw [Lk.validM, decide_eq_true_eq] at b1; exact b1
              · unfold lexLt; omega
          · refine wkn ?_ ?_ ?_
            all_goals first | exact wk0 | refine wkS ?_ | skip
            all_goals (try trivial)
            all_goals ((repeat' apply And.intro) <;> first | exact wkL | skip)
    · simp only [decide_eq_false_iff_not] at hb
      obtain rfl : k = n.wires.length := by omega
      try refine wkG trivial ?_
      try (refine Stop.mk ?_; intro K hK)
      rw [decide_eq_true (show wiredN n from hall)]
      refine ret_of (by simp) ⟨_, _, _, evl, ob0, OutOk.eq ?_ ?_⟩
      · rfl
      · simp [AV.free]
end Go.Proofs.YtcdgncmkkknmlaaGreatDoor
