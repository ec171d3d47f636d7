/- package site: wired. -/
import Derived.Test.YtcdgncmkkknmlaaGreatDoorSj
import Derived.Test.YtcdgncmkkknmlaaGreatDoorLkP
namespace Go.Proofs.YtcdgncmkkknmlaaGreatDoor
set_option linter.unusedVariables false
set_option linter.unusedSimpArgs false
set_option maxHeartbeats 4000000
set_option maxRecDepth 100000
open Go.RowKit
/-- The pairs that are known after some authorities of a host, and after some hosts. -/
def knIn (ps : List (Int × Int)) (h : Int) (al : List Auth) : Nat → List (Int × Int)
  | 0 => ps
  | j + 1 => addP (knIn ps h al j) (h, (al.getD j default).id)
def knOut (hs : List Host) (al : List Auth) : Nat → List (Int × Int)
  | 0 => []
  | i + 1 => knIn (knOut hs al i) (hs.getD i default).id al al.length
theorem mem_knIn {ps : List (Int × Int)} {h : Int} {al : List Auth} {x y : Int} : ∀ {j : Nat}, (x, y) ∈ knIn ps h al j ↔ (x, y) ∈ ps ∨ (x = h ∧ ∃ q, q < j ∧ (al.getD q default).id = y)
  | 0 => by simp [knIn]
  | j + 1 => by
    rw [knIn, mem_addP, mem_knIn (j := j), Prod.mk.injEq]
    constructor
    · rintro ((h1 | ⟨h1, q, h2, h3⟩) | ⟨h1, h2⟩)
      · exact .inl h1
      · exact .inr ⟨h1, q, by omega, h3⟩
      · exact .inr ⟨h1, j, by omega, h2.symm⟩
    · rintro (h1 | ⟨h1, q, h2, h3⟩)
      · exact .inl (.inl h1)
      · rcases Nat.lt_succ_iff_lt_or_eq.1 h2 with h | rfl
        · exact .inl (.inr ⟨h1, q, h, h3⟩)
        · exact .inr ⟨h1, h3.symm⟩
theorem mem_knOut {hs : List Host} {al : List Auth} {x y : Int} : ∀ {i : Nat}, (x, y) ∈ knOut hs al i ↔ (∃ p, p < i ∧ (hs.getD p default).id = x) ∧ ∃ q, q < al.length ∧ (al.getD q default).id = y
  | 0 => by simp [knOut]
  | i + 1 => by
    rw [knOut, mem_knIn, mem_knOut (i := i)]
    constructor
    · rintro (⟨⟨p, h1, h2⟩, h3⟩ | ⟨h1, h2⟩)
      · exact ⟨⟨p, by omega, h2⟩, h3⟩
      · exact ⟨⟨i, by omega, h1.symm⟩, h2⟩
    · rintro ⟨⟨p, h1, h2⟩, h3⟩
      rcases Nat.lt_succ_iff_lt_or_eq.1 h1 with h | rfl
      · exact .inl ⟨⟨p, h, h2⟩, h3⟩
      · exact .inr ⟨h2.symm, h3⟩
def lexLt (a b : Wire) : Prop := a.host < b.host ∨ a.host = b.host ∧ a.auth < b.auth
instance (a b : Wire) : Decidable (lexLt a b) := by unfold lexLt; infer_instance
def wireOk (n : Net) (k : Nat) : Prop := ((n.wires.getD k default).host, (n.wires.getD k default).auth) ∈ knOut n.hosts n.auths n.hosts.length ∧ Lk.ValidP (n.wires.getD k default).changes ∧ (0 < k → lexLt (n.wires.getD (k - 1) default) (n.wires.getD k default))
instance (n : Net) (k : Nat) : Decidable (wireOk n k) := by unfold wireOk; infer_instance
def wiredN (n : Net) : Prop := ∀ k, k < n.wires.length → wireOk n k
instance (n : Net) : Decidable (wiredN n) := by unfold wiredN; infer_instance
abbrev mapR (ps : List (Int × Int)) : ARow := ⟨133, 0, 0, mapEl (ps.map fun q => (pairK q, Value.bool true))⟩
theorem cmp_lex (a b : Wire) : 0 ≤ (if cmpI a.host b.host = 0 then cmpI a.auth b.auth else cmpI a.host b.host) ↔ ¬ lexLt a b := by
  unfold lexLt cmpI
  by_cases h1 : a.host < b.host
  · rw [if_pos h1, if_neg (by decide)]
    omega
  · rw [if_neg h1]
    by_cases h2 : b.host < a.host
    · rw [if_pos h2, if_neg (by decide)]
      omega
    · rw [if_neg h2, if_pos rfl]
      by_cases h3 : a.auth < b.auth
      · rw [if_pos h3]
        omega
      · rw [if_neg h3]
        by_cases h4 : b.auth < a.auth
        · rw [if_pos h4]
          omega
        · rw [if_neg h4]
          omega
theorem wired_A (n : Net) (h1 : n.hosts.length ≤ 1000) (h2 : n.auths.length ≤ 1000) (h3 : n.wires.length ≤ 1000) (hc : ∀ w ∈ n.wires, w.changes.length ≤ 1000) : FnA Tryz.prog 51 [.agg n.av] (.raw (.bool (decide (wiredN n)))) := by
  refine fnA_of tblOk Tryz.func51 rfl (by kernel_rfl) 83 Tryz.ntmps51 (by simp only [List.length_cons, List.length_nil]; omega) [.tmp 2] rfl ?_
  simp only [entrySt, argSl, Nat.zero_add, Nat.reduceAdd]
  repeat
    first
      | (refine runS_nil (hK _ ?_); clear hK K)
      | refine stG ?_
      | (refine gateA 1 rfl ?_; refine runA_put ?_)
      | (refine gateBc ?_; first | (refine runB_nil (hK _ ?_); clear hK K) | (refine runB_op rfl ⟨_, evl, fun nb' => ?_⟩))
      | refine wpA_region (fun K hK => ?_)
      | (refine gateD ?_; first | (refine wpA_drawG false rfl (by kernel_rfl) (by kernel_rfl) (fun K hK => ?_)) | (refine wpA_drawG true rfl (by kernel_rfl) (by kernel_rfl) (fun K hK => ?_)))
  refine runS_makeMap rfl rfl rfl rfl ⟨_, rfl, _, rfl, ?_⟩
  repeat
    first
      | (refine runS_nil (hK _ ?_); clear hK K)
      | refine stG ?_
      | (refine gateA 1 rfl ?_; refine runA_put ?_)
      | (refine gateBc ?_; first | (refine runB_nil (hK _ ?_); clear hK K) | (refine runB_op rfl ⟨_, evl, fun nb' => ?_⟩))
      | refine wpA_region (fun K hK => ?_)
      | (refine gateD ?_; first | (refine wpA_drawG false rfl (by kernel_rfl) (by kernel_rfl) (fun K hK => ?_)) | (refine wpA_drawG true rfl (by kernel_rfl) (by kernel_rfl) (fun K hK => ?_)))
  refine wpA_loop (fun i : Nat => ⟨83, 0, [(1, true, .box 0 0), (3, true, .row 0 0), (12, true, lA 6 Host.av n.hosts), (13, true, .raw (.int .i64 n.hosts.length)), (14, true, .raw (.int .i64 i))], [n.av], [mapR (knOut n.hosts n.auths i)], ((0, []), [], true)⟩)
    (fun i => i ≤ n.hosts.length) (fun i => n.hosts.length - i) 0 ?_ (by omega) ?_
  · refine wkn ?_ ?_ ?_
    all_goals first | exact wk0 | refine wkS ?_ | skip
    all_goals (try trivial)
    all_goals ((repeat' apply And.intro) <;> first | exact wkL | skip)
    all_goals (intro _; rfl)
  · intro i hi
    try refine wkG trivial ?_
    try (refine Stop.mk ?_; intro K hK)
    refine wpA_cond' ⟨_, evl, fun hb => ?_, fun hb => ?_⟩
    · simp only [decide_eq_true_eq] at hb
      try refine wkG trivial ?_
      try (refine Stop.mk ?_; intro K hK)
      refine wpA_loop (fun j : Nat => ⟨83, 0, [(1, true, .box 0 0), (3, true, .row 0 0), (5, true, .box 1 0), (12, true, lA 6 Host.av n.hosts), (13, true, .raw (.int .i64 n.hosts.length)), (14, true, .raw (.int .i64 i)), (19, true, lA 4 Auth.av n.auths), (20, true, .raw (.int .i64 n.auths.length)), (21, true, .raw (.int .i64 j))], [n.av, Host.av (n.hosts.getD i default)], [mapR (knIn (knOut n.hosts n.auths i) (n.hosts.getD i default).id n.auths j)], ((0, []), [], true)⟩)
        (fun j => j ≤ n.auths.length) (fun j => n.auths.length - j) 0 ?_ (by omega) ?_
      · refine wkn ?_ ?_ ?_
        all_goals first | exact wk0 | refine wkS ?_ | skip
        all_goals (try trivial)
        all_goals ((repeat' apply And.intro) <;> first | exact wkL | skip)
        all_goals (intro _; rfl)
      · intro j hj
        generalize hps : knIn (knOut n.hosts n.auths i) (n.hosts.getD i default).id n.auths j = ps
        try refine wkG trivial ?_
        try (refine Stop.mk ?_; intro K hK)
        refine wpA_cond' ⟨_, evl, fun hb2 => ?_, fun hb2 => ?_⟩
        · simp only [decide_eq_true_eq] at hb2
          repeat
            first
              | (refine runS_nil (hK _ ?_); clear hK K)
              | refine stG ?_
              | (refine gateA 1 rfl ?_; refine runA_put ?_)
              | (refine gateBc ?_; first | (refine runB_nil (hK _ ?_); clear hK K) | (refine runB_op rfl ⟨_, evl, fun nb' => ?_⟩))
              | refine wpA_region (fun K hK => ?_)
              | (refine gateD ?_; first | (refine wpA_drawG false rfl (by kernel_rfl) (by kernel_rfl) (fun K hK => ?_)) | (refine wpA_drawG true rfl (by kernel_rfl) (by kernel_rfl) (fun K hK => ?_)))
          refine runS_mapUpdate (et := 4) (findOk_pair (kt := 134) (by kernel_rfl) (by kernel_rfl) (by kernel_rfl) (.bool true) ((n.hosts.getD i default).id, (n.auths.getD j default).id) ps) (keyOk_pair (e := 3) (by kernel_rfl) (by kernel_rfl) (by kernel_rfl) _) (pairK_same _) find_at rfl (by kernel_rfl) rfl rfl ⟨_, evl, _, rfl, ⟨rfl, rfl⟩, rfl, _, evl, pairK_is _ _, _, evl, AV.is_raw _, _, rfl, ?_⟩
          rw [updL_pair]

          repeat
            first
              | (refine runS_nil (hK _ ?_); clear hK K)
              | refine stG ?_
              | (refine gateA 1 rfl ?_; refine runA_put ?_)
              | (refine gateBc ?_; first | (refine runB_nil (hK _ ?_); clear hK K) | (refine runB_op rfl ⟨_, evl, fun nb' => ?_⟩))
              | refine wpA_region (fun K hK => ?_)
              | (refine gateD ?_; first | (refine wpA_drawG false rfl (by kernel_rfl) (by kernel_rfl) (fun K hK => ?_)) | (refine wpA_drawG true rfl (by kernel_rfl) (by kernel_rfl) (fun K hK => ?_)))
          refine ⟨j + 1, by omega, by omega, ?_⟩
          simp only [knIn, hps]
          generalize addP ps _ = ps2
          refine wkn ?_ ?_ ?_
          all_goals first | exact wk0 | refine wkS ?_ | skip
          all_goals (try trivial)
          all_goals ((repeat' apply And.intro) <;> first | exact wkL | skip)
          all_goals (intro _; rfl)
        · simp only [decide_eq_false_iff_not] at hb2
          obtain rfl : j = n.auths.length := by omega
          try refine wkG trivial ?_
          try (refine Stop.mk ?_; intro K hK)
          refine ⟨i + 1, by omega, by omega, ?_⟩
          simp only [knOut, hps]
          refine wkn ?_ ?_ ?_
          all_goals first | exact wk0 | refine wkS ?_ | skip
          all_goals (try trivial)
          all_goals ((repeat' apply And.intro) <;> first | exact wkL | skip)
          all_goals (intro _; rfl)
    · simp only [decide_eq_false_iff_not] at hb
      obtain rfl : i = n.hosts.length := by omega
      generalize hps : knOut n.hosts n.auths n.hosts.length = ps
      try refine wkG trivial ?_
      try (refine Stop.mk ?_; intro K hK)
      refine wpA_loop (fun k : Nat => ⟨83, 0, [(1, true, .box 0 0), (3, true, .row 0 0), (34, true, lA 3 Wire.av n.wires), (35, true, .raw (.int .i64 n.wires.length)), (36, true, .raw (.int .i64 k))], [n.av], [mapR ps], ((0, []), [], true)⟩)
        (fun k => k ≤ n.wires.length ∧ ∀ i, i < k → wireOk n i) (fun k => n.wires.length - k) 0 ?_ ⟨by omega, fun i h => by omega⟩ ?_
      · refine wkn ?_ ?_ ?_
        all_goals first | exact wk0 | refine wkS ?_ | skip
        all_goals (try trivial)
        all_goals ((repeat' apply And.intro) <;> first | exact wkL | skip)
        all_goals (intro _; rfl)
      · rintro k ⟨hk, hall⟩
        try refine wkG trivial ?_
        try (refine Stop.mk ?_; intro K hK)
        refine wpA_cond' ⟨_, evl, fun hb3 => ?_, fun hb3 => ?_⟩
        · simp only [decide_eq_true_eq] at hb3
          have hmem : n.wires.getD k default ∈ n.wires := by rw [getD_get (show k < n.wires.length by omega)]; exact List.getElem_mem _
          have hv := Lk.valid_A _ (hc _ hmem)
          have hno : wiredN n → wireOk n k := fun h => h k (by omega)
          have hok : wireOk n k ↔ ((n.wires.getD k default).host, (n.wires.getD k default).auth) ∈ ps ∧ Lk.ValidP (n.wires.getD k default).changes ∧ (0 < k → lexLt (n.wires.getD (k - 1) default) (n.wires.getD k default)) := by rw [wireOk, hps]
          have hlx := cmp_lex (n.wires.getD (k - 1) default) (n.wires.getD k default)
          have o1 := compareI_A (n.wires.getD (k - 1) default).host (n.wires.getD k default).host
          have o2 := compareI_A (n.wires.getD (k - 1) default).auth (n.wires.getD k default).auth
          have o3 := or2_A (cmpI (n.wires.getD (k - 1) default).host (n.wires.getD k default).host) (cmpI (n.wires.getD (k - 1) default).auth (n.wires.getD k default).auth)
          have e1 : ((k : Int) - 1).toNat = k - 1 := by omega
          rw [← e1] at o1 o2 o3
          repeat
            first
              | (refine runS_nil (hK _ ?_); clear hK K)
              | refine stG ?_
              | (refine gateA 1 rfl ?_; refine runA_put ?_)
              | (refine gateBc ?_; first | (refine runB_nil (hK _ ?_); clear hK K) | (refine runB_op rfl ⟨_, evl, fun nb' => ?_⟩))
              | refine wpA_region (fun K hK => ?_)
              | (refine gateD ?_; first | (refine wpA_drawG false rfl (by kernel_rfl) (by kernel_rfl) (fun K hK => ?_)) | (refine wpA_drawG true rfl (by kernel_rfl) (by kernel_rfl) (fun K hK => ?_)))
          refine runS_lookup (et := 4) (findOk_pair (kt := 134) (by kernel_rfl) (by kernel_rfl) (by kernel_rfl) (.bool true) ((n.wires.getD k default).host, (n.wires.getD k default).auth) ps) (keyOk_pair (e := 3) (by kernel_rfl) (by kernel_rfl) (by kernel_rfl) _) (z := .bool false) (by kernel_rfl) rfl (by kernel_rfl) rfl rfl rfl ⟨_, evl, _, rfl, ⟨rfl, rfl⟩, rfl, _, evl, pairK_is _ _, ?_⟩
          rw [find_true]
          simp only [cond_false, avOf]

          repeat
            first
              | (refine runS_nil (hK _ ?_); clear hK K)
              | refine stG ?_
              | (refine gateS 1 rfl ?_; refine runS_call rfl rfl ⟨_, evl, _, _, _, evl, oblG, ?_⟩; apply Exists.intro; refine ⟨fun hg => ?_, ?_⟩; · first | exact FnA.at_ (hv) rfl rfl | exact FnA.at_s (hv) rfl simT | exact FnA.at_s (hv) rfl simF)
              | (refine gateA 1 rfl ?_; refine runA_call rfl ⟨_, evl, _, _, _, (fun _ _ => evlA), oblG, ?_⟩; apply Exists.intro; refine ⟨fun hg => ?_, ?_⟩; · first | exact FnA.at_ (hv) rfl rfl | exact FnA.at_s (hv) rfl simT | exact FnA.at_s (hv) rfl simF)
              | (refine gateA 1 rfl ?_; refine runA_put ?_)
              | (refine gateBc ?_; first | (refine runB_nil (hK _ ?_); clear hK K) | (refine runB_op rfl ⟨_, evl, fun nb' => ?_⟩))
              | refine wpA_region (fun K hK => ?_)
              | (refine gateD ?_; first | (refine wpA_drawG false rfl (by kernel_rfl) (by kernel_rfl) (fun K hK => ?_)) | (refine wpA_drawG true rfl (by kernel_rfl) (by kernel_rfl) (fun K hK => ?_)))
          refine wpA_cond' ⟨_, evl, fun hb4 => ?_, fun hb4 => ?_⟩
          · try refine wkG trivial ?_
            try (refine Stop.mk ?_; intro K hK)
            refine ret_of (by simp) ⟨_, _, _, evl, ob0, OutOk.eq ?_ (by simp [AV.free])⟩
            simp only [AV.raw.injEq, Value.bool.injEq]
            rw [eq_comm, decide_eq_false_iff_not]
            intro h
            obtain ⟨a1, a2, _⟩ := hok.1 (hno h)
            rw [decide_eq_true a1, Lk.validM, decide_eq_true a2] at hb4
            cases hb4
          · simp only [Lk.validM, Bool.or_eq_false_iff, Bool.not_eq_false', decide_eq_true_eq] at hb4
            repeat
              first
                | (refine runS_nil (hK _ ?_); clear hK K)
                | refine stG ?_
                | (refine gateS 1 rfl ?_; refine runS_call rfl rfl ⟨_, evl, _, _, _, evl, oblG, ?_⟩; apply Exists.intro; refine ⟨fun hg => ?_, ?_⟩; · first | exact FnA.at_ (o1) rfl rfl | exact FnA.at_ (o2) rfl rfl | exact FnA.at_ (o3) rfl rfl | exact FnA.at_s (o1) rfl simT | exact FnA.at_s (o1) rfl simF | exact FnA.at_s (o2) rfl simT | exact FnA.at_s (o2) rfl simF | exact FnA.at_s (o3) rfl simT | exact FnA.at_s (o3) rfl simF)
                | (refine gateA 1 rfl ?_; refine runA_call rfl ⟨_, evl, _, _, _, (fun _ _ => evlA), oblG, ?_⟩; apply Exists.intro; refine ⟨fun hg => ?_, ?_⟩; · first | exact FnA.at_ (o1) rfl rfl | exact FnA.at_ (o2) rfl rfl | exact FnA.at_ (o3) rfl rfl | exact FnA.at_s (o1) rfl simT | exact FnA.at_s (o1) rfl simF | exact FnA.at_s (o2) rfl simT | exact FnA.at_s (o2) rfl simF | exact FnA.at_s (o3) rfl simT | exact FnA.at_s (o3) rfl simF)
                | (refine gateA 1 rfl ?_; refine runA_put ?_)
                | (refine gateBc ?_; first | (refine runB_nil (hK _ ?_); clear hK K) | (refine runB_op rfl ⟨_, evl, fun nb' => ?_⟩))
                | refine wpA_region (fun K hK => ?_)
                | (refine gateD ?_; first | (refine wpA_drawG false rfl (by kernel_rfl) (by kernel_rfl) (fun K hK => ?_)) | (refine wpA_drawG true rfl (by kernel_rfl) (by kernel_rfl) (fun K hK => ?_)))
            refine wpA_cond' ⟨_, evl, fun hb5 => ?_, fun hb5 => ?_⟩
            · try refine wkG trivial ?_
              try (refine Stop.mk ?_; intro K hK)
              refine ret_of (by simp) ⟨_, _, _, evl, ob0, OutOk.eq ?_ (by simp [AV.free])⟩
              simp only [AV.raw.injEq, Value.bool.injEq]
              rw [eq_comm, decide_eq_false_iff_not]
              intro h
              obtain ⟨_, _, a3⟩ := hok.1 (hno h)
              simp only [e1, Bool.and_eq_true, decide_eq_true_eq] at hb5
              exact hlx.1 hb5.2 (a3 (by omega))
            · try refine wkG trivial ?_
              try (refine Stop.mk ?_; intro K hK)
              refine ⟨k + 1, ⟨by omega, fun i hi => ?_⟩, by omega, ?_⟩
              · rcases Nat.lt_succ_iff_lt_or_eq.1 hi with h | rfl
                · exact hall i h
                · refine hok.2 ⟨hb4.1, hb4.2, fun h0 => ?_⟩
                  simp only [e1, Bool.and_eq_false_iff, decide_eq_false_iff_not] at hb5
                  rcases hb5 with hb5 | hb5
                  · omega
                  · exact Classical.byContradiction fun hc => hb5 (hlx.2 hc)
              · refine wkn ?_ ?_ ?_
                all_goals first | exact wk0 | refine wkS ?_ | skip
                all_goals (try trivial)
                all_goals ((repeat' apply And.intro) <;> first | exact wkL | skip)
                all_goals (intro _; rfl)
        · simp only [decide_eq_false_iff_not] at hb3
          obtain rfl : k = n.wires.length := by omega
          try refine wkG trivial ?_
          try (refine Stop.mk ?_; intro K hK)
          rw [decide_eq_true (show wiredN n from hall)]
          refine ret_of (by simp) ⟨_, _, _, evl, ob0, OutOk.eq ?_ ?_⟩
          · rfl
          · simp [AV.free]
end Go.Proofs.YtcdgncmkkknmlaaGreatDoor
