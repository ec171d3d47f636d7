import Derived.Test.YtchpbdecipcelaaGreatDoorSM12
namespace Go.Proofs.YtchpbdecipcelaaGreatDoor
set_option linter.unusedVariables false
set_option linter.unusedSimpArgs false
set_option maxHeartbeats 4000000
set_option maxRecDepth 100000
open Go.RowKit
theorem powerR_A (a x m : Nat) (hm : 1 < m) (hm2 : m < 2147483648) (ha : a < m) (hx : x < 9223372036854775808) : FnA Tryz.prog 110 [.raw (.int .i64 a), .raw (.int .i64 x), .raw (.int .i64 m)] (.raw (.int .i64 ((a ^ x % m : Nat) : Int))) := by
  have hmul : ∀ b c : Nat, b < m → c < m → b * c < 4611686018427387904 := fun b c hb hc => by
    have h1 : b * c ≤ 2147483647 * c := Nat.mul_le_mul_right _ (by omega)
    omega
  refine fnA_of tblOk Tryz.func110 rfl (by kernel_rfl) 26 Tryz.ntmps110 lenT [.tmp 6] rfl ?_
  simp only [entrySt, argSl, Nat.zero_add, Nat.reduceAdd]
  try refine wkG trivial ?_
  try (refine Stop.mk ?_; intro K hK)
  refine wpA_loop (fun s : Nat × Nat × Nat => ⟨26, 0, [(0, true, .raw (.int .i64 s.1)), (1, true, .raw (.int .i64 s.2.1)), (2, true, .raw (.int .i64 m)), (7, true, .raw (.int .i64 s.2.2))], [], [], ((0, []), [], true)⟩)
      (fun s => s.1 < m ∧ s.2.1 < 9223372036854775808 ∧ s.2.2 < m ∧ s.2.2 * s.1 ^ s.2.1 % m = a ^ x % m) (fun s => s.2.1) (a, x, 1) ?_ ⟨ha, hx, hm, by simp⟩ ?_
  · refine wkn ?_ ?_ ?_
    all_goals first | exact wk0 | refine wkS ?_ | skip
    all_goals (try trivial)
    all_goals ((repeat' apply And.intro) <;> first | exact wkL | skip)
  · rintro ⟨b, y, o⟩ ⟨h1, h2, h3, h4⟩
    dsimp only at h1 h2 h3 h4 ⊢
    have hy2 : b ^ y = b ^ (y % 2) * (b * b) ^ (y / 2) := by
      rw [← Nat.pow_two, ← Nat.pow_mul, ← Nat.pow_add]; congr 1; omega
    have e1 : (b : Int) * b = ((b * b : Nat) : Int) := by simp
    have e2 : (o : Int) * b = ((o * b : Nat) : Int) := by simp
    have k1 := hmul b b h1 h1
    have k2 := hmul o b h3 h1
    have e3 : ∀ c : Nat, (c : Int).tmod m = ((c % m : Nat) : Int) := fun c => rfl
    have e4 : (y : Int).tmod 2 = ((y % 2 : Nat) : Int) := rfl
    have e5 : (y : Int).tdiv 2 = ((y / 2 : Nat) : Int) := rfl
    try refine wkG trivial ?_
    try (refine Stop.mk ?_; intro K hK)
    refine wpA_cond' ⟨_, evl, ?_, ?_⟩
    · intro hb
      simp only [decide_eq_true_eq] at hb
      try refine wkG trivial ?_
      try (refine Stop.mk ?_; intro K hK)
      refine wpA_cond' ⟨_, evl, ?_, ?_⟩
      · intro hc
        simp only [decide_eq_true_eq, e4] at hc
        try refine wkG trivial ?_
        try (refine Stop.mk ?_; intro K hK)
        refine ⟨(b * b % m, y / 2, o * b % m), ⟨Nat.mod_lt _ (by omega), by show y / 2 < _; omega, Nat.mod_lt _ (by omega), ?_⟩, by show y / 2 < y; omega, ?_⟩
        · rw [← h4, hy2, show y % 2 = 1 from by omega]
          show o * b % m * (b * b % m) ^ (y / 2) % m = _
          rw [Nat.pow_one, ← Nat.mul_assoc, Nat.mul_mod, Nat.mod_mod, ← Nat.pow_mod, ← Nat.mul_mod]
        · refine wkn ?_ ?_ ?_
          all_goals first | exact wk0 | refine wkS ?_ | skip
          all_goals (try trivial)
          all_goals ((repeat' apply And.intro) <;> first | exact wkL | skip)
      · intro hc
        simp only [decide_eq_false_iff_not, e4] at hc
        try refine wkG trivial ?_
        try (refine Stop.mk ?_; intro K hK)
        refine ⟨(b * b % m, y / 2, o), ⟨Nat.mod_lt _ (by omega), by show y / 2 < _; omega, h3, ?_⟩, by show y / 2 < y; omega, ?_⟩
        · rw [← h4, hy2, show y % 2 = 0 from by omega]
          show o * (b * b % m) ^ (y / 2) % m = _
          rw [Nat.pow_zero, Nat.one_mul, Nat.mul_mod, ← Nat.pow_mod, ← Nat.mul_mod]
        · refine wkn ?_ ?_ ?_
          all_goals first | exact wk0 | refine wkS ?_ | skip
          all_goals (try trivial)
          all_goals ((repeat' apply And.intro) <;> first | exact wkL | skip)
    · intro hb
      simp only [decide_eq_false_iff_not] at hb
      try refine wkG trivial ?_
      try (refine Stop.mk ?_; intro K hK)
      refine ret_of (by simp) ⟨_, _, _, evl, ob0, OutOk.eq ?_ ?_⟩
      · rw [← h4, show y = 0 from by omega, Nat.pow_zero, Nat.mul_one, Nat.mod_eq_of_lt h3]
      · simp [AV.free]
theorem powR_A (a x : Int) (ha : 0 ≤ a ∧ a < 2147483579) (hx : 0 ≤ x ∧ x < 9223372036854775808) : FnA Tryz.prog 110 [.raw (.int .i64 a), .raw (.int .i64 x), .raw (.int .i64 2147483579)] (.raw (.int .i64 (powM a.toNat x.toNat))) := by
  have h := powerR_A a.toNat x.toNat 2147483579 (by omega) (by omega) (by omega) (by omega)
  rw [← powM_eq _ _ (by omega)] at h
  rwa [Int.toNat_of_nonneg ha.1, Int.toNat_of_nonneg hx.1] at h
theorem memberR_A (a : Int) : FnA Tryz.prog 205 [.raw (.int .i64 a)] (.raw (.bool (memberM a))) := by
  refine fnA_of tblOk Tryz.func205 rfl (by kernel_rfl) 14 Tryz.ntmps205 lenT [.tmp 2] rfl ?_
  simp only [entrySt, argSl, Nat.zero_add, Nat.reduceAdd]
  repeat'
    first
      | first
        | (refine runS_nil (hK _ ?_); clear hK K)
        | refine stG ?_
        | (refine gateS 1 rfl ?_; refine runS_call rfl rfl ⟨_, evl, _, _, _, evl, oblG, ?_⟩; apply Exists.intro; refine ⟨fun hg => ?_, ?_⟩; · first | exact FnA.at_ (powR_A a 1073741789 (by simp at hg; omega) (by omega)) rfl rfl | exact FnA.at_s (powR_A a 1073741789 (by simp at hg; omega) (by omega)) rfl simT | exact FnA.at_s (powR_A a 1073741789 (by simp at hg; omega) (by omega)) rfl simF)
        | (refine gateA 1 rfl ?_; refine runA_call rfl ⟨_, evl, _, _, _, (fun _ _ => evlA), oblG, ?_⟩; apply Exists.intro; refine ⟨fun hg => ?_, ?_⟩; · first | exact FnA.at_ (powR_A a 1073741789 (by simp at hg; omega) (by omega)) rfl rfl | exact FnA.at_s (powR_A a 1073741789 (by simp at hg; omega) (by omega)) rfl simT | exact FnA.at_s (powR_A a 1073741789 (by simp at hg; omega) (by omega)) rfl simF)
        | (refine gateA 1 rfl ?_; refine runA_put ?_)
        | (refine gateBc ?_; first | (refine runB_nil (hK _ ?_); clear hK K) | (refine runB_op rfl ⟨_, evl, fun nb' => ?_⟩))
        | refine wpA_region (fun K hK => ?_)
        | (refine gateD ?_; first | (refine wpA_drawG false rfl (by kernel_rfl) (by kernel_rfl) (fun K hK => ?_)) | (refine wpA_drawG true rfl (by kernel_rfl) (by kernel_rfl) (fun K hK => ?_)))
        | (refine wpA_cond' ⟨_, evl, fun hb => ?_, fun hb => ?_⟩ <;> (try simp only [Bool.or_eq_true, Bool.and_eq_true, Bool.or_eq_false_iff, Bool.and_eq_false_iff, Bool.not_eq_true', Bool.not_eq_false', Bool.not_eq_true, Bool.not_eq_false, decide_eq_true_eq, decide_eq_false_iff_not, Bool.true_eq_false, Bool.false_eq_true, ne_eq, Classical.not_not, Int.not_lt, Int.not_le, Bool.not_true, Bool.not_false] at hb))
      | fail
  all_goals (try (refine ret_of (by simp) ⟨_, _, _, evl, ob0, OutOk.sims ?_ fre⟩))
  all_goals first | exact Sims.refl _ | (refine Sims.of_eq ?_; first | rfl | (simp [memberM]; done) | (simp_all [memberM]; done) | (simp_all [memberM]; omega) | (simp [memberM]; omega) | (simp [memberM]; grind) | (split <;> simp_all)) | exact simsF | (refine Sims.tup ?_; simp only [SimsL, and_true]; (repeat' apply And.intro) <;> first | exact simsF | skip) | (exfalso; first | omega | (simp_all; done) | (simp_all; omega)) | skip
theorem exponentR_A (x : Int) : FnA Tryz.prog 206 [.raw (.int .i64 x)] (.raw (.bool (withinM x 0))) := by
  refine fnA_of tblOk Tryz.func206 rfl (by kernel_rfl) 9 Tryz.ntmps206 lenT [.tmp 2] rfl ?_
  simp only [entrySt, argSl, Nat.zero_add, Nat.reduceAdd]
  repeat' first
    | refine wkG trivial ?_
    | (refine cndS ⟨_, evl, ⟨cb, cb⟩, fun hb => ?_, fun hb => ?_⟩ <;> try (cases hb; done))
    | (refine Stop.mk ?_; intro K hK)
    | fail
  all_goals (try (refine ret_of (by simp) ⟨_, _, _, evl, ob0, OutOk.sims ?_ fre⟩))
  all_goals first | exact Sims.refl _ | (refine Sims.of_eq ?_; first | rfl | (simp [withinM]; done) | (simp_all [withinM]; done) | (simp_all [withinM]; omega) | (simp [withinM]; grind) | (split <;> simp_all)) | exact simsF | (refine Sims.tup ?_; simp only [SimsL, and_true]; (repeat' apply And.intro) <;> first | exact simsF | skip) | (exfalso; first | omega | (simp_all; done) | (simp_all; omega)) | skip
theorem keyR_A (x : Int) : FnA Tryz.prog 114 [.raw (.int .i64 x)] (.raw (.bool (withinM x 1))) := by
  refine fnA_of tblOk Tryz.func114 rfl (by kernel_rfl) 9 Tryz.ntmps114 lenT [.tmp 2] rfl ?_
  simp only [entrySt, argSl, Nat.zero_add, Nat.reduceAdd]
  repeat' first
    | refine wkG trivial ?_
    | (refine cndS ⟨_, evl, ⟨cb, cb⟩, fun hb => ?_, fun hb => ?_⟩ <;> try (cases hb; done))
    | (refine Stop.mk ?_; intro K hK)
    | fail
  all_goals (try (refine ret_of (by simp) ⟨_, _, _, evl, ob0, OutOk.sims ?_ fre⟩))
  all_goals first | exact Sims.refl _ | (refine Sims.of_eq ?_; first | rfl | (simp [withinM]; done) | (simp_all [withinM]; done) | (simp_all [withinM]; omega) | (simp [withinM]; grind) | (split <;> simp_all)) | exact simsF | (refine Sims.tup ?_; simp only [SimsL, and_true]; (repeat' apply And.intro) <;> first | exact simsF | skip) | (exfalso; first | omega | (simp_all; done) | (simp_all; omega)) | skip
theorem sumR_A (l : List UInt8) (hl : l.length ≤ 1000000000) : FnA Tryz.prog 163 [byA l] (.raw (.int .u64 (fnvL l))) := by
  unfold byA lA
  refine fnA_of tblOk Tryz.func163 rfl (by kernel_rfl) 20 Tryz.ntmps163 lenT [.tmp 2] rfl ?_
  simp only [entrySt, argSl, Nat.zero_add, Nat.reduceAdd]
  try refine wkG trivial ?_
  try (refine Stop.mk ?_; intro K hK)
  refine wpA_loop (fun k : Nat => ⟨20, 0, [(3, true, .raw (.int .u64 (fnv (fun q => ((l.getD q 0).toNat : Int)) k))), (0, true, .lst 1 l.length (els u8C l)), (4, true, .raw (.int .i64 k))], [], [], ((0, []), [], true)⟩)
    (fun k => k ≤ l.length) (fun k => l.length - k) 0 ?_ (by omega) ?_
  · refine wkn ?_ ?_ ?_
    all_goals first | exact wk0 | refine wkS ?_ | skip
    all_goals (try trivial)
    all_goals ((repeat' apply And.intro) <;> first | exact wkL | skip)
  · rintro k hk
    try refine wkG trivial ?_
    try (refine Stop.mk ?_; intro K hK)
    refine wpA_cond' ⟨_, evl, ?_, ?_⟩
    · intro hlt
      simp only [decide_eq_true_eq] at hlt
      try refine wkG trivial ?_
      try (refine Stop.mk ?_; intro K hK)
      refine ⟨k + 1, by omega, by omega, ?_⟩
      · refine wkn ?_ ?_ ?_
        all_goals first | exact wk0 | refine wkS ?_ | skip
        all_goals (try trivial)
        all_goals ((repeat' apply And.intro) <;> first | exact wkL | skip)
    · intro hge
      simp only [decide_eq_false_iff_not] at hge
      try refine wkG trivial ?_
      try (refine Stop.mk ?_; intro K hK)
      refine ret_of (by simp) ⟨_, _, _, evl, ob0, OutOk.eq ?_ ?_⟩
      · rw [fnvL, show k = l.length from by omega]
      · simp [AV.free]
end Go.Proofs.YtchpbdecipcelaaGreatDoor
namespace Go.Proofs.YtchpbdecipcelaaGreatDoor
set_option linter.unusedVariables false
set_option linter.unusedSimpArgs false
set_option maxHeartbeats 4000000
set_option maxRecDepth 100000
open Go.RowKit
theorem u8wrap {n : Int} (h : 0 ≤ n ∧ n ≤ 255) : IntKind.u8.wrap n = n := inK_wrap (k := .u8) h
theorem strOne {k : Int} (h : 0 ≤ k ∧ k ≤ 255) : strOf 1 (chunkA 1 [.raw (.int .u8 (IntKind.u8.wrap k))]) = ⟨[UInt8.ofNat k.toNat].toArray⟩ := by
  rw [u8wrap h]; exact strOf_one k _ rfl
theorem itoa_nn (n : Int) (h : 0 ≤ n) : Lib.itoa n = Lib.decDigits n.toNat := by rw [Lib.itoa, if_neg (by omega)]
theorem itoa_ng (n : Int) (h : n < 0) : Lib.itoa n = 45 :: Lib.decDigits n.natAbs := by rw [Lib.itoa, if_pos h]
theorem decimalR_A : ∀ (m : Nat) (n : Int), n.natAbs ≤ m → inK .i64 n → FnA Tryz.prog 218 [.raw (.int .i64 n)] (sA (Lib.itoa n)) := by
  intro m
  induction m using Nat.strongRecOn with
  | _ m ih =>
  intro n hm hn
  have hk := hn
  simp only [inK] at hn
  have ih2 : 10 ≤ n.natAbs → FnA Tryz.prog 218 [.raw (.int .i64 (n.tdiv 10))] (sA (Lib.itoa (n.tdiv 10))) := fun h => by
    have hb := tdiv_bounds (a := n) (b := 10) (by omega)
    refine ih (n.tdiv 10).natAbs ?_ _ (Nat.le_refl _) (by simp only [inK]; omega)
    rw [Int.natAbs_tdiv]
    show n.natAbs / 10 < m
    omega
  have hlen : (Lib.itoa (n.tdiv 10)).length ≤ 21 := by
    have hb := tdiv_bounds (a := n) (b := 10) (by omega)
    exact Lib.itoa_length_le _ (by omega) (by omega)
  have hq0 : 10 * n.tdiv 10 + n.tmod 10 = n := Int.mul_tdiv_add_tmod n 10
  have hr : -10 < n.tmod 10 ∧ n.tmod 10 < 10 ∧ (0 ≤ n → 0 ≤ n.tmod 10) ∧ (n ≤ 0 → n.tmod 10 ≤ 0) := by
    have h1 := Int.tmod_eq_emod (a := n) (b := 10)
    split at h1 <;> omega
  have hq : (0 ≤ n → 10 * n.tdiv 10 ≤ n ∧ n < 10 * n.tdiv 10 + 10) ∧ (n ≤ 0 → n ≤ 10 * n.tdiv 10 ∧ 10 * n.tdiv 10 - 10 < n) := by omega
  have htd := tdiv_bounds (a := n) (b := 10) (by omega)
  clear hq0 ih
  refine fnA_of tblOk Tryz.func218 rfl (by kernel_rfl) 41 Tryz.ntmps218 lenT [.tmp 2] rfl ?_
  simp only [entrySt, argSl, Nat.zero_add, Nat.reduceAdd]
  repeat'
    first
      | first
        | (refine runS_nil (hK _ ?_); clear hK K)
        | refine stG ?_
        | (refine gateS 1 rfl ?_; refine runS_call rfl rfl ⟨_, evl, _, _, _, evl, oblG, ?_⟩; apply Exists.intro; refine ⟨fun hg => ?_, ?_⟩; · first | exact FnA.at_ (ih2 (by omega)) rfl rfl | exact FnA.at_s (ih2 (by omega)) rfl simT | exact FnA.at_s (ih2 (by omega)) rfl simF)
        | (refine gateA 1 rfl ?_; refine runA_call rfl ⟨_, evl, _, _, _, (fun _ _ => evlA), oblG, ?_⟩; apply Exists.intro; refine ⟨fun hg => ?_, ?_⟩; · first | exact FnA.at_ (ih2 (by omega)) rfl rfl | exact FnA.at_s (ih2 (by omega)) rfl simT | exact FnA.at_s (ih2 (by omega)) rfl simF)
        | (refine gateA 1 rfl ?_; refine runA_put ?_)
        | (refine gateBc ?_; first | (refine runB_nil (hK _ ?_); clear hK K) | (refine runB_op rfl ⟨_, evl, fun nb' => ?_⟩))
        | refine wpA_region (fun K hK => ?_)
        | (refine gateD ?_; first | (refine wpA_drawG false rfl (by kernel_rfl) (by kernel_rfl) (fun K hK => ?_)) | (refine wpA_drawG true rfl (by kernel_rfl) (by kernel_rfl) (fun K hK => ?_)))
        | (refine wpA_cond' ⟨_, evl, fun hb => ?_, fun hb => ?_⟩ <;> (try simp only [Bool.or_eq_true, Bool.and_eq_true, Bool.or_eq_false_iff, Bool.and_eq_false_iff, Bool.not_eq_true', Bool.not_eq_false', Bool.not_eq_true, Bool.not_eq_false, decide_eq_true_eq, decide_eq_false_iff_not, Bool.true_eq_false, Bool.false_eq_true, ne_eq, Classical.not_not, Int.not_lt, Int.not_le, Bool.not_true, Bool.not_false] at hb))
      | fail
  all_goals (refine ret_of (by simp) ⟨_, _, _, evl, ob0, OutOk.eq ?_ (by simp [sA, AV.free])⟩)
  · refine congrArg (fun x => AV.raw (.string x)) ?_
    rw [strOne (by omega), itoa_ng n (by omega), Lib.decDigits_one (by omega)]
    have e : (48 - n).toNat = 48 + n.natAbs := by omega
    rw [e]; rfl
  · refine congrArg (fun x => AV.raw (.string x)) ?_
    have hq0 : 10 * n.tdiv 10 + n.tmod 10 = n := Int.mul_tdiv_add_tmod n 10
    have e : (48 - n.tmod 10).toNat = 48 + n.natAbs % 10 := by omega
    have e2 : (n.tdiv 10).natAbs = n.natAbs / 10 := by omega
    rw [strOne (by omega), str_append, itoa_ng n (by omega), itoa_ng (n.tdiv 10) (by omega), e, e2, Lib.decDigits.eq_1 n.natAbs, dif_neg (by omega)]
    rfl
  · refine congrArg (fun x => AV.raw (.string x)) ?_
    rw [strOne (by omega), itoa_nn n (by omega), Lib.decDigits_one (by omega)]
    have e : (48 + n).toNat = 48 + n.toNat := by omega
    rw [e]
  · refine congrArg (fun x => AV.raw (.string x)) ?_
    have hq0 : 10 * n.tdiv 10 + n.tmod 10 = n := Int.mul_tdiv_add_tmod n 10
    have e : (48 + n.tmod 10).toNat = 48 + n.toNat % 10 := by omega
    have e2 : (n.tdiv 10).toNat = n.toNat / 10 := by omega
    rw [strOne (by omega), str_append, itoa_nn n (by omega), itoa_nn (n.tdiv 10) (by omega), e, e2, Lib.decDigits.eq_1 n.toNat, dif_neg (by omega)]
def txtL (l : List Int) : List UInt8 := (l.map fun n => Lib.itoa n ++ [32]).flatten
theorem txtL_snoc (l : List Int) (n : Int) : txtL (l ++ [n]) = txtL l ++ (Lib.itoa n ++ [32]) := by simp [txtL]
def okI (l : List Int) : Prop := ∀ n ∈ l, inK .i64 n
theorem okI_getD {l : List Int} (h : okI l) {k : Nat} (hk : k < l.length) : inK .i64 (l.getD k 0) := by
  rw [List.getD_eq_getElem?_getD, List.getElem?_eq_getElem hk]; exact h _ (List.getElem_mem hk)
theorem txtL_length {l : List Int} (h : okI l) : (txtL l).length ≤ 22 * l.length := by
  induction l with
  | nil => simp [txtL]
  | cons n l ih =>
    have h1 := h n (by simp)
    simp only [inK] at h1
    have h2 := Lib.itoa_length_le n h1.1 h1.2
    have h3 := ih fun m hm => h m (by simp [hm])
    simp only [txtL, List.map_cons, List.flatten_cons, List.length_append, List.length_cons, List.length_nil] at h3 ⊢
    omega
theorem take_succ_getD (l : List Int) {k : Nat} (hk : k < l.length) : l.take (k + 1) = l.take k ++ [l.getD k 0] := by
  rw [List.take_succ_eq_append_getElem hk, List.getD_eq_getElem?_getD, List.getElem?_eq_getElem hk]; rfl
theorem textR_A (l : List Int) (h : okI l) (hl : l.length ≤ 1000000) : FnA Tryz.prog 162 [liA l] (byA (txtL l)) := by
  have hlen := txtL_length h
  refine fnA_of tblOk Tryz.func162 rfl (by kernel_rfl) 22 Tryz.ntmps162 lenT [.tmp 2] rfl ?_
  simp only [entrySt, argSl, Nat.zero_add, Nat.reduceAdd]
  try refine wkR trivial ?_
  try (refine Stop.mk ?_; intro K hK)
  refine wpA_weak (Weak.nilRow 3 5 1 rfl) ?_
  try refine wkR trivial ?_
  try (refine Stop.mk ?_; intro K hK)
  refine wpA_loop (fun k : Nat => ⟨22, 0, [(0, true, liA l), (3, true, .row 0 (txtL (l.take k)).length), (4, true, .raw (.int .i64 k))], [], [⟨5, 1, (txtL (l.take k)).length, els u8C (txtL (l.take k))⟩], ((0, []), [], true)⟩)
    (fun k => k ≤ l.length) (fun k => l.length - k) 0 ?_ (by omega) ?_
  · refine wkn ?_ ?_ ?_
    all_goals first | exact wk0 | refine wkS ?_ | skip
    all_goals (try trivial)
    all_goals ((repeat' apply And.intro) <;> first | exact wkL | skip)
  · rintro k hk
    have hlk : (txtL (l.take k)).length ≤ 22000000 := by
      have := txtL_length (l := l.take k) fun n hn => h n (List.mem_of_mem_take hn)
      rw [List.length_take] at this
      omega
    try refine wkR trivial ?_
    try (refine Stop.mk ?_; intro K hK)
    refine wpA_cond' ⟨_, evl, ?_, ?_⟩
    · intro hlt
      simp only [decide_eq_true_eq] at hlt
      have hin := okI_getD h (k := k) (by omega)
      have hit : (Lib.itoa (l.getD k 0)).length ≤ 21 := by
        simp only [inK] at hin
        exact Lib.itoa_length_le _ hin.1 hin.2
      repeat
        first
          | (refine runS_nil (hK _ ?_); clear hK K)
          | refine stR ?_
          | (refine gateS 1 rfl ?_; first | (refine runS_call rfl rfl ⟨_, evl, _, _, _, evl, oblG, ?_⟩; apply Exists.intro; refine ⟨fun hg => ?_, ?_⟩; · first | exact FnA.at_ (decimalR_A _ _ (Nat.le_refl _) hin) rfl rfl | exact FnA.at_s (decimalR_A _ _ (Nat.le_refl _) hin) rfl simT | exact FnA.at_s (decimalR_A _ _ (Nat.le_refl _) hin) rfl simF) | (refine runS_callR rfl rfl ⟨_, evl, _, _, _, evl, _, _, evl, oblG, ?_⟩; apply Exists.intro; refine ⟨fun hg => ?_, ?_⟩; · first | exact FnA.at_ (decimalR_A _ _ (Nat.le_refl _) hin) rfl rfl | exact FnA.at_s (decimalR_A _ _ (Nat.le_refl _) hin) rfl simT | exact FnA.at_s (decimalR_A _ _ (Nat.le_refl _) hin) rfl simF))
          | (refine gateA 1 rfl ?_; refine runA_call rfl ⟨_, evl, _, _, _, (fun _ _ => evlA), oblG, ?_⟩; apply Exists.intro; refine ⟨fun hg => ?_, ?_⟩; · first | exact FnA.at_ (decimalR_A _ _ (Nat.le_refl _) hin) rfl rfl | exact FnA.at_s (decimalR_A _ _ (Nat.le_refl _) hin) rfl simT | exact FnA.at_s (decimalR_A _ _ (Nat.le_refl _) hin) rfl simF)
          | (refine gateA 1 rfl ?_; refine runA_put ?_)
          | (refine gateBc ?_; first | (refine runB_nil (hK _ ?_); clear hK K) | (refine runB_op rfl ⟨_, evl, fun nb' => ?_⟩))
          | refine wpA_region (fun K hK => ?_)
          | (refine gateD ?_; first | (refine wpA_drawG false rfl (by kernel_rfl) (by kernel_rfl) (fun K hK => ?_)) | (refine wpA_drawG true rfl (by kernel_rfl) (by kernel_rfl) (fun K hK => ?_)))
      refine ⟨k + 1, by omega, by omega, ?_⟩
      rw [take_succ_getD l (by omega), txtL_snoc]
      refine wkn ?_ ?_ ?_
      all_goals first | exact wk0 | refine wkS ?_ | skip
      all_goals (try trivial)
      all_goals ((repeat' apply And.intro) <;> first | exact wkL | skip)
      intro q hq
      refine SimsL.of_eq ?_
      rw [appEl_els rfl, ← List.append_assoc]
      exact els_snoc (by simp) (by simp only [List.length_append, List.length_cons, List.length_nil] at hq; omega) rfl
    · intro hge
      simp only [decide_eq_false_iff_not] at hge
      obtain rfl : k = l.length := by omega
      rw [List.take_length]
      try refine wkR trivial ?_
      try (refine Stop.mk ?_; intro K hK)
      refine ret_of (by simp) ⟨_, _, _, evl, ob0, OutOk.sims ?_ fre⟩
      exact simsT
end Go.Proofs.YtchpbdecipcelaaGreatDoor
