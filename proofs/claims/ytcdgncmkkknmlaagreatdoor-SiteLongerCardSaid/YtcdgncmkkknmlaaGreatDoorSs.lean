/- The reference of chapter 28: Keys, Same, Few. -/
import Derived.Test.YtcdgncmkkknmlaaGreatDoorSr
namespace Go.Proofs.YtcdgncmkkknmlaaGreatDoor
set_option linter.unusedVariables false
set_option linter.unusedSimpArgs false
set_option maxHeartbeats 4000000
set_option maxRecDepth 100000
open Go.RowKit
theorem keysR28_A (n : Net) (h : smallN n) (hf : ∀ t ∈ n.tables, fewT t) : FnA Tryz.prog 19 [.agg n.av] (.tup [lA 7 KeyWin.av (keysM n).1, .raw (.int .i64 (keysM n).2)]) := by
  have hv := validR28_A n h hf
  obtain ⟨f1, f2, f3, f4⟩ := net_free n
  by_cases hc : netP n
  · rw [keysM, if_pos hc]
    rw [decide_eq_true hc] at hv
    have hl : (n.auths.map keyA).length = n.auths.length := List.length_map ..
    have hal := h.2.2.1
    refine fnA_of tblOk Tryz.func19 rfl (by kernel_rfl) 36 Tryz.ntmps19 (by simp only [List.length_cons, List.length_nil]; omega) [.tmp 2, .tmp 3] rfl ?_
    simp only [entrySt, argSl, Nat.zero_add, Nat.reduceAdd]
    try refine wkR hv ?_
    try (refine Stop.mk ?_; intro K hK)
    refine wpA_cond' ⟨_, evl, fun hb => absurd hb (by decide), fun _ => ?_⟩
    try refine wkR trivial ?_
    try (refine Stop.mk ?_; intro K hK)
    refine wpA_weak (Weak.nilRow 5 84 7 rfl) ?_
    refine wpA_freeze 0 obf ⟨_, evl, _, evl, ?_⟩
    refine wpA_loop (fun k : Nat => ⟨36, 0, [(1, true, .elt n.av 0), (2, true, .raw (.slice none 0 0)), (3, true, .raw (.int .i64 0)), (5, true, .row 0 ((n.auths.map keyA).take k).length), (6, true, .raw (.int .i64 k))], [], [⟨84, 7, ((n.auths.map keyA).take k).length, els KeyWin.av ((n.auths.map keyA).take k)⟩], ((0, []), [], true)⟩)
      (fun k => k ≤ n.auths.length) (fun k => n.auths.length - k) 0 ?_ (by omega) ?_
    · simp only [List.take_zero, List.length_nil]
      refine wkn ?_ ?_ ?_
      all_goals first | exact wk0 | refine wkS ?_ | skip
      all_goals (try trivial)
      all_goals ((repeat' apply And.intro) <;> first | exact wkL | skip)
    · intro k hk
      have hlen : ((n.auths.map keyA).take k).length = k := by rw [List.length_take, hl]; omega
      rcases Nat.lt_or_ge k n.auths.length with hlt | hge
      · have hs : (n.auths.map keyA).take (k + 1) = (n.auths.map keyA).take k ++ [keyA (n.auths.getD k default)] := by
          rw [List.take_succ_eq_append_getElem (by omega), List.getElem_map, getD_get hlt]
        have hex := publicR_A (n.auths.getD k default).key (by have := (hc.2.2.1.2 _ (getD_mem hlt)).2.2; omega)
        clear h hc hv hf
        try refine wkR trivial ?_
        try (refine Stop.mk ?_; intro K hK)
        refine wpA_cond' ⟨_, evl, fun _ => ?_, fun hb => absurd (of_decide_eq_false hb) (by omega)⟩
        try refine wkR hex ?_
        try (refine Stop.mk ?_; intro K hK)
        refine ⟨k + 1, by omega, by omega, ?_⟩
        rw [hs, List.length_append]
        generalize (n.auths.map keyA).take k = R at *
        refine wkn ?_ ?_ ?_
        all_goals first | exact wk0 | refine wkS ?_ | skip
        all_goals (try trivial)
        all_goals ((repeat' apply And.intro) <;> first | exact wkL | skip)
      · obtain rfl : k = n.auths.length := by omega
        rw [← hl, List.take_length]
        generalize hR : n.auths.map keyA = R at *
        have hfr := lA_free (sz := 7) (fun y => KeyWin.free y) R
        try refine wkR trivial ?_
        try (refine Stop.mk ?_; intro K hK)
        refine wpA_cond' ⟨_, evl, fun hb => absurd (of_decide_eq_true hb) (by omega), fun _ => ?_⟩
        try refine wkR trivial ?_
        try (refine Stop.mk ?_; intro K hK)
        refine ret_of (by simp) ⟨_, _, _, evl, ob0, OutOk.sims ?_ ?_⟩
        · exact Sims.tup ⟨Sims.row rfl rfl rfl rfl (fun i hi => rfl), Sims.refl _, trivial⟩
        · exact ⟨hfr, trivial, trivial⟩
  · rw [keysM, if_neg hc]
    rw [decide_eq_false hc] at hv
    refine fnA_of tblOk Tryz.func19 rfl (by kernel_rfl) 36 Tryz.ntmps19 (by simp only [List.length_cons, List.length_nil]; omega) [.tmp 2, .tmp 3] rfl ?_
    simp only [entrySt, argSl, Nat.zero_add, Nat.reduceAdd]
    try refine wkR hv ?_
    try (refine Stop.mk ?_; intro K hK)
    refine wpA_cond' ⟨_, evl, fun _ => ?_, fun hb => absurd hb (by decide)⟩
    try refine wkR trivial ?_
    try (refine Stop.mk ?_; intro K hK)
    refine ret_of (by simp) ⟨_, _, _, evl, ob0, OutOk.sims ?_ ?_⟩
    · exact Sims.tup ⟨(Sim.nil rfl).s, Sims.refl _, trivial⟩
    · exact ⟨lA_free (fun y => KeyWin.free y) _, trivial, trivial⟩
theorem peer_ext {x y : Peer} (h : x.auth = y.auth ∧ x.err = y.err ∧ x.cost = y.cost ∧ x.link.at_ = y.link.at_ ∧ x.link.outLo = y.link.outLo ∧ x.link.outHi = y.link.outHi ∧ x.link.backLo = y.link.backLo ∧ x.link.backHi = y.link.backHi) : x = y := by
  obtain ⟨_, _, _, ⟨_, _, _, _, _⟩⟩ := x
  obtain ⟨_, _, _, ⟨_, _, _, _, _⟩⟩ := y
  simp only at h
  obtain ⟨rfl, rfl, rfl, rfl, rfl, rfl, rfl, rfl⟩ := h
  rfl
theorem same28_A (a b : Site) (hl : a.peers.length ≤ 4611686018427387904) : FnA Tryz.prog 17 [.agg a.av, .agg b.av] (.raw (.bool (decide (a = b)))) := by
  refine fnA_of tblOk Tryz.func17 rfl (by kernel_rfl) 59 Tryz.ntmps17 (by simp only [List.length_cons, List.length_nil]; omega) [.tmp 4] rfl ?_
  simp only [entrySt, argSl, Nat.zero_add, Nat.reduceAdd]
  try refine wkG trivial ?_
  try (refine Stop.mk ?_; intro K hK)
  refine cndS ⟨_, evl, ⟨cb, cb⟩, fun hb => ?_, fun hb => ?_⟩
  · try refine wkG trivial ?_
    try (refine Stop.mk ?_; intro K hK)
    refine ret_of (by simp) ⟨_, _, _, evl, ob0, OutOk.eq ?_ (by simp [AV.free])⟩
    simp only [AV.raw.injEq, Value.bool.injEq]
    rw [eq_comm, decide_eq_false_iff_not]
    rintro rfl
    simp at hb
  · try refine wkG trivial ?_
    try (refine Stop.mk ?_; intro K hK)
    refine wpA_loop (fun k : Nat => ⟨59, 0, [(2, true, .box 0 0), (3, true, .box 1 0), (5, true, .raw (.int .i64 k))], [a.av, b.av], [], ((0, []), [], true)⟩)
      (fun k => k ≤ a.peers.length ∧ ∀ i, i < k → a.peers.getD i default = b.peers.getD i default) (fun k => a.peers.length - k) 0 ?_ ⟨by omega, fun i h => by omega⟩ ?_
    · refine wkn ?_ ?_ ?_
      all_goals first | exact wk0 | refine wkS ?_ | skip
      all_goals (try trivial)
      all_goals ((repeat' apply And.intro) <;> first | exact wkL | skip)
    · rintro k ⟨hk, hall⟩
      try refine wkG trivial ?_
      try (refine Stop.mk ?_; intro K hK)
      refine wpA_cond' ⟨_, evl, fun hb2 => ?_, fun hb2 => ?_⟩
      · simp only [decide_eq_true_eq] at hb2
        try refine wkG trivial ?_
        try (refine Stop.mk ?_; intro K hK)
        refine cndS ⟨_, evl, ⟨cb, cb⟩, fun hb3 => ?_, fun hb3 => ?_⟩
        · try refine wkG trivial ?_
          try (refine Stop.mk ?_; intro K hK)
          refine ret_of (by simp) ⟨_, _, _, evl, ob0, OutOk.eq ?_ (by simp [AV.free])⟩
          simp only [AV.raw.injEq, Value.bool.injEq]
          rw [eq_comm, decide_eq_false_iff_not]
          rintro rfl
          simp at hb3
        · try refine wkG trivial ?_
          try (refine Stop.mk ?_; intro K hK)
          refine ⟨k + 1, ⟨by omega, fun i hi => ?_⟩, by omega, ?_⟩
          · rcases Nat.lt_succ_iff_lt_or_eq.1 hi with h | rfl
            · exact hall i h
            · refine peer_ext ?_
              simp at hb3
              simp_all
          · refine wkn ?_ ?_ ?_
            all_goals first | exact wk0 | refine wkS ?_ | skip
            all_goals (try trivial)
            all_goals ((repeat' apply And.intro) <;> first | exact wkL | skip)
      · simp only [decide_eq_false_iff_not] at hb2
        try refine wkG trivial ?_
        try (refine Stop.mk ?_; intro K hK)
        refine ret_of (by simp) ⟨_, _, _, evl, ob0, OutOk.eq ?_ (by simp [AV.free])⟩
        simp only [AV.raw.injEq, Value.bool.injEq]
        rw [eq_comm, decide_eq_true_eq]
        have hp : a.peers = b.peers := same_step (by omega) fun i hi => hall i (by omega)
        obtain ⟨a1, a2, a3, a4, a5⟩ := a
        obtain ⟨b1, b2, b3, b4, b5⟩ := b
        simp only at hp hb
        subst hp
        simp only [Site.mk.injEq, and_true]
        omega
def fewN (n : Net) : Prop := (n.tables.length ≤ 20 ∧ n.hosts.length ≤ 20 ∧ n.auths.length ≤ 20 ∧ n.wires.length ≤ 60) ∧ (∀ i, i < n.tables.length → ((n.tables.getD i default).temps.length ≤ 10 ∧ (n.tables.getD i default).ages.length ≤ 10 ∧ (n.tables.getD i default).rates.length ≤ 10) ∧ ∀ j, j < (n.tables.getD i default).rates.length → ((n.tables.getD i default).rates.getD j default).length ≤ 10) ∧ ∀ i, i < n.wires.length → (n.wires.getD i default).changes.length ≤ 30
instance (n : Net) : Decidable (fewN n) := by unfold fewN; infer_instance
theorem few28_A (n : Net) : FnA Tryz.prog 10 [.agg n.av] (.raw (.bool (decide (fewN n)))) := by
  obtain ⟨f1, f2, f3, f4⟩ := net_free n
  refine fnA_of tblOk Tryz.func10 rfl (by kernel_rfl) 88 Tryz.ntmps10 (by simp only [List.length_cons, List.length_nil]; omega) [.tmp 2] rfl ?_
  simp only [entrySt, argSl, Nat.zero_add, Nat.reduceAdd]
  try refine wkG trivial ?_
  try (refine Stop.mk ?_; intro K hK)
  refine cndS ⟨_, evl, ⟨cb, cb⟩, fun hb => ?_, fun hb => ?_⟩
  · try refine wkG trivial ?_
    try (refine Stop.mk ?_; intro K hK)
    refine ret_of (by simp) ⟨_, _, _, evl, ob0, OutOk.eq ?_ (by simp [AV.free])⟩
    simp only [AV.raw.injEq, Value.bool.injEq]
    rw [eq_comm, decide_eq_false_iff_not]
    intro h
    have := h.1
    omega
  · try refine wkG trivial ?_
    try (refine Stop.mk ?_; intro K hK)
    refine wpA_loop (fun k : Nat => ⟨88, 0, [(1, true, .box 0 0), (3, true, .raw (.int .i64 k))], [n.av], [], ((0, []), [], true)⟩)
      (fun k => k ≤ n.tables.length ∧ ∀ i, i < k → ((n.tables.getD i default).temps.length ≤ 10 ∧ (n.tables.getD i default).ages.length ≤ 10 ∧ (n.tables.getD i default).rates.length ≤ 10) ∧ ∀ j, j < (n.tables.getD i default).rates.length → ((n.tables.getD i default).rates.getD j default).length ≤ 10) (fun k => n.tables.length - k) 0 ?_ ⟨by omega, fun i h => by omega⟩ ?_
    · refine wkn ?_ ?_ ?_
      all_goals first | exact wk0 | refine wkS ?_ | skip
      all_goals (try trivial)
      all_goals ((repeat' apply And.intro) <;> first | exact wkL | skip)
    · rintro k ⟨hk, hall⟩
      have hno : fewN n → k < n.tables.length → ((n.tables.getD k default).temps.length ≤ 10 ∧ (n.tables.getD k default).ages.length ≤ 10 ∧ (n.tables.getD k default).rates.length ≤ 10) ∧ ∀ j, j < (n.tables.getD k default).rates.length → ((n.tables.getD k default).rates.getD j default).length ≤ 10 := fun h => h.2.1 k
      try refine wkG trivial ?_
      try (refine Stop.mk ?_; intro K hK)
      refine wpA_cond' ⟨_, evl, fun hb2 => ?_, fun hb2 => ?_⟩
      · simp only [decide_eq_true_eq] at hb2
        try refine wkG trivial ?_
        try (refine Stop.mk ?_; intro K hK)
        refine cndS ⟨_, evl, ⟨cb, cb⟩, fun hb3 => ?_, fun hb3 => ?_⟩
        · try refine wkG trivial ?_
          try (refine Stop.mk ?_; intro K hK)
          refine ret_of (by simp) ⟨_, _, _, evl, ob0, OutOk.eq ?_ (by simp [AV.free])⟩
          simp only [AV.raw.injEq, Value.bool.injEq]
          rw [eq_comm, decide_eq_false_iff_not]
          intro h
          have := (hno h (by omega)).1
          omega
        · try refine wkG trivial ?_
          try (refine Stop.mk ?_; intro K hK)
          refine wpA_loop (fun j : Nat => ⟨88, 0, [(1, true, .box 0 0), (3, true, .raw (.int .i64 k)), (4, true, .box 1 0), (5, true, .raw (.int .i64 j))], [n.av, Table.av (n.tables.getD k default)], [], ((0, []), [], true)⟩)
            (fun j => j ≤ (n.tables.getD k default).rates.length ∧ ∀ q, q < j → ((n.tables.getD k default).rates.getD q default).length ≤ 10) (fun j => (n.tables.getD k default).rates.length - j) 0 ?_ ⟨by omega, fun i h => by omega⟩ ?_
          · refine wkn ?_ ?_ ?_
            all_goals first | exact wk0 | refine wkS ?_ | skip
            all_goals (try trivial)
            all_goals ((repeat' apply And.intro) <;> first | exact wkL | skip)
          · rintro j ⟨hj, hjall⟩
            try refine wkG trivial ?_
            try (refine Stop.mk ?_; intro K hK)
            refine wpA_cond' ⟨_, evl, fun hb4 => ?_, fun hb4 => ?_⟩
            · simp only [decide_eq_true_eq] at hb4
              try refine wkG trivial ?_
              try (refine Stop.mk ?_; intro K hK)
              refine wpA_cond' ⟨_, evl, fun hb5 => ?_, fun hb5 => ?_⟩
              · simp only [decide_eq_true_eq] at hb5
                try refine wkG trivial ?_
                try (refine Stop.mk ?_; intro K hK)
                refine ret_of (by simp) ⟨_, _, _, evl, ob0, OutOk.eq ?_ (by simp [AV.free])⟩
                simp only [AV.raw.injEq, Value.bool.injEq]
                rw [eq_comm, decide_eq_false_iff_not]
                intro h
                have := (hno h (by omega)).2 j (by omega)
                simp at this hb5
                omega
              · simp only [decide_eq_false_iff_not] at hb5
                try refine wkG trivial ?_
                try (refine Stop.mk ?_; intro K hK)
                refine ⟨j + 1, ⟨by omega, fun i hi => ?_⟩, by omega, ?_⟩
                · rcases Nat.lt_succ_iff_lt_or_eq.1 hi with h | rfl
                  · exact hjall i h
                  · simp at hb5 ⊢; omega
                · refine wkn ?_ ?_ ?_
                  all_goals first | exact wk0 | refine wkS ?_ | skip
                  all_goals (try trivial)
                  all_goals ((repeat' apply And.intro) <;> first | exact wkL | skip)
            · simp only [decide_eq_false_iff_not] at hb4
              try refine wkG trivial ?_
              try (refine Stop.mk ?_; intro K hK)
              refine ⟨k + 1, ⟨by omega, fun i hi => ?_⟩, by omega, ?_⟩
              · rcases Nat.lt_succ_iff_lt_or_eq.1 hi with h | rfl
                · exact hall i h
                · exact ⟨by omega, fun q hq => hjall q (by omega)⟩
              · refine wkn ?_ ?_ ?_
                all_goals first | exact wk0 | refine wkS ?_ | skip
                all_goals (try trivial)
                all_goals ((repeat' apply And.intro) <;> first | exact wkL | skip)
      · simp only [decide_eq_false_iff_not] at hb2
        try refine wkG trivial ?_
        try (refine Stop.mk ?_; intro K hK)
        refine wpA_loop (fun k : Nat => ⟨88, 0, [(1, true, .box 0 0), (6, true, .raw (.int .i64 k))], [n.av], [], ((0, []), [], true)⟩)
          (fun k => k ≤ n.wires.length ∧ ∀ i, i < k → (n.wires.getD i default).changes.length ≤ 30) (fun k => n.wires.length - k) 0 ?_ ⟨by omega, fun i h => by omega⟩ ?_
        · refine wkn ?_ ?_ ?_
          all_goals first | exact wk0 | refine wkS ?_ | skip
          all_goals (try trivial)
          all_goals ((repeat' apply And.intro) <;> first | exact wkL | skip)
        · rintro q ⟨hq, hqall⟩
          have hfe := Lk.few_A (n.wires.getD q default).changes
          have hnq : fewN n → q < n.wires.length → (n.wires.getD q default).changes.length ≤ 30 := fun h => h.2.2 q
          have hf5 : (lA 5 Change.av (n.wires.getD q default).changes).free := lA_free (fun y => Change.free y) _
          try refine wkG trivial ?_
          try (refine Stop.mk ?_; intro K hK)
          refine wpA_cond' ⟨_, evl, fun hb4 => ?_, fun hb4 => ?_⟩
          · simp only [decide_eq_true_eq] at hb4
            try refine wkG hfe ?_
            try (refine Stop.mk ?_; intro K hK)
            refine wpA_cond' ⟨_, evl, fun hb5 => ?_, fun hb5 => ?_⟩
            · try refine wkG trivial ?_
              try (refine Stop.mk ?_; intro K hK)
              refine ret_of (by simp) ⟨_, _, _, evl, ob0, OutOk.eq ?_ (by simp [AV.free])⟩
              simp only [AV.raw.injEq, Value.bool.injEq]
              rw [eq_comm, decide_eq_false_iff_not]
              intro h
              rw [decide_eq_true (hnq h (by omega))] at hb5
              cases hb5
            · try refine wkG trivial ?_
              try (refine Stop.mk ?_; intro K hK)
              refine ⟨q + 1, ⟨by omega, fun i hi => ?_⟩, by omega, ?_⟩
              · rcases Nat.lt_succ_iff_lt_or_eq.1 hi with h | rfl
                · exact hqall i h
                · simpa using hb5
              · refine wkn ?_ ?_ ?_
                all_goals first | exact wk0 | refine wkS ?_ | skip
                all_goals (try trivial)
                all_goals ((repeat' apply And.intro) <;> first | exact wkL | skip)
          · simp only [decide_eq_false_iff_not] at hb4
            try refine wkG trivial ?_
            try (refine Stop.mk ?_; intro K hK)
            refine ret_of (by simp) ⟨_, _, _, evl, ob0, OutOk.eq ?_ (by simp [AV.free])⟩
            simp only [AV.raw.injEq, Value.bool.injEq]
            rw [eq_comm, decide_eq_true_eq]
            exact ⟨by omega, fun i hi => hall i (by omega), fun i hi => hqall i (by omega)⟩
theorem few_small {n : Net} (h : fewN n) (hf : ∀ t ∈ n.tables, t.fits) : smallN n ∧ ∀ t ∈ n.tables, fewT t := by
  obtain ⟨h1, h2, h3⟩ := h
  refine ⟨⟨by omega, by omega, by omega, by omega, fun w hw => ?_, hf⟩, fun t ht => ?_⟩
  · obtain ⟨k, hk, rfl⟩ := mem_getD hw
    have := h3 k hk; omega
  · obtain ⟨k, hk, rfl⟩ := mem_getD ht
    obtain ⟨g1, g2⟩ := h2 k hk
    refine ⟨by omega, by omega, by omega, fun r hr => ?_⟩
    obtain ⟨j, hj, rfl⟩ := mem_getD hr
    have := g2 j hj; omega
end Go.Proofs.YtcdgncmkkknmlaaGreatDoor
