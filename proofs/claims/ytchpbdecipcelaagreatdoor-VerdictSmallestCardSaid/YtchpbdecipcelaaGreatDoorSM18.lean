import Derived.Test.YtchpbdecipcelaaGreatDoorSM06
import Derived.Test.YtchpbdecipcelaaGreatDoorSM10
namespace Go.Proofs.YtchpbdecipcelaaGreatDoor
set_option linter.unusedVariables false
set_option linter.unusedSimpArgs false
set_option maxHeartbeats 4000000
set_option maxRecDepth 100000
open Go.RowKit
def digF : Nat → Int → List Int
  | 0, _ => []
  | f + 1, x => if 128 ≤ x then bitI .or .u8 (IntKind.u8.wrap x) 128 :: digF f (x.tdiv 128) else [IntKind.u8.wrap x]
theorem digF_len : ∀ (f : Nat) (x : Int), (digF f x).length ≤ f
  | 0, _ => Nat.le_refl _
  | f + 1, x => by
    unfold digF
    split
    · simp only [List.length_cons]; have := digF_len f (x.tdiv 128); omega
    · simp
abbrev itB (d : Int) : List AV := [.raw (.int .u8 d)]
theorem tdiv128 {y : Int} {f : Nat} (h : 0 ≤ y ∧ y < 128 ^ (f + 1)) : 0 ≤ y.tdiv 128 ∧ y.tdiv 128 < 128 ^ f := by
  rw [Int.tdiv_eq_ediv_of_nonneg h.1]
  have h2 := h.2
  rw [Int.pow_succ] at h2
  generalize (128 : Int) ^ f = z at *
  omega
theorem pref_one {pre rest full : List Int} {d : Int} (h : pre ++ d :: rest = full) : pre.map itB ++ [itB d] <+: full.map itB := by
  subst h
  refine ⟨rest.map itB, ?_⟩
  simp
theorem digits1_S (x : Int) (hx : 0 ≤ x ∧ x < 18446744073709551616) : SeqB Tryz.prog 263 [.box 0 0] [[.raw (.int .u64 x)]] ((digF 10 x).map itB) := by
  refine seqB_of Tryz.func263 rfl (by kernel_rfl) 17 Tryz.ntmps263 (by simp only [List.length_cons, List.length_nil]; omega) rfl (by simp) (fun y => ?_)
  simp only [argSl, Nat.zero_add, Nat.reduceAdd, List.cons_append, List.nil_append, List.length_cons, List.length_nil]
  try refine wkG trivial ?_
  try (refine Stop.mk ?_; intro K hK)
  refine wpA_loop (fun s : List Int × Int × Nat => ⟨17, 1, [(0, true, .raw (.func (.yield y) #[] #[])), (1, true, .box 0 0)], [[.raw (.int .u64 s.2.1)]], [], ((y, (digF 10 x).map itB), s.1.map itB, false)⟩)
    (fun s => s.1 ++ digF s.2.2 s.2.1 = digF 10 x ∧ 1 ≤ s.2.2 ∧ (0 ≤ s.2.1 ∧ s.2.1 < 128 ^ s.2.2) ∧ s.2.1 < 18446744073709551616) (fun s => s.2.2) ([], x, 10) ?_ ⟨rfl, by simp, ⟨hx.1, by have := hx.2; simp only; omega⟩, hx.2⟩ ?_
  · refine wkn ?_ ?_ ?_
    all_goals first | exact wk0 | refine wkS ?_ | skip
    all_goals (try trivial)
    all_goals ((repeat' apply And.intro) <;> first | exact wkL | skip)
  · rintro ⟨pre, z, f⟩ ⟨hp, hf, hz, h64⟩
    simp only at hp hf hz h64 ⊢
    obtain ⟨f, rfl⟩ : ∃ g, f = g + 1 := ⟨f - 1, by omega⟩
    rw [digF] at hp
    try refine wkG trivial ?_
    try (refine Stop.mk ?_; intro K hK)
    refine wpA_cond' ⟨_, evl, fun hb => ?_, fun hb => ?_⟩
    · simp only [decide_eq_true_eq] at hb
      rw [if_pos hb] at hp
      have hd := tdiv128 hz
      have hd64 : z.tdiv 128 < 18446744073709551616 := by rw [Int.tdiv_eq_ediv_of_nonneg hz.1]; omega
      have hf1 : 1 ≤ f := by
        rcases Nat.eq_zero_or_pos f with rfl | h
        · simp at hz; omega
        · exact h
      try (first | refine wkM hK trivial ?_ | refine wkG trivial ?_)
      try clear hK K
      try (refine Stop.mk ?_; intro K hK)
      refine runS_yield rfl rfl ⟨_, evl, _, _, evl, ?_, ?_, ?_⟩
      · intro _
        exact ⟨fun c hc => by simp at hc; simp [hc], by simp [AV.free, AV.freeL], pref_one hp⟩
      · intro hg
        simp at hg
      · intro _ b
        try (first | refine wkM hK trivial ?_ | refine wkG trivial ?_)
        try clear hK K
        try (refine Stop.mk ?_; intro K hK)
        refine wpA_cond' ⟨_, evl, fun hb2 => ?_, fun hb2 => ?_⟩
        · try refine wkG trivial ?_
          try (refine Stop.mk ?_; intro K hK)
          obtain rfl : b = false := by simpa using hb2
          exact ⟨.inr rfl, pref_one hp, fun h => by simp at h⟩
        · try refine wkG trivial ?_
          try (refine Stop.mk ?_; intro K hK)
          obtain rfl : b = true := by simpa using hb2
          refine ⟨(pre ++ [_], z.tdiv 128, f), ⟨by simp only; rw [List.append_assoc]; exact hp, hf1, hd, hd64⟩, by simp, ?_⟩
          simp only [List.map_append, List.map_cons, List.map_nil]
          refine wkn ?_ ?_ ?_
          all_goals first | exact wk0 | refine wkS ?_ | skip
          all_goals (try trivial)
          all_goals ((repeat' apply And.intro) <;> first | exact wkL | skip)
    · simp only [decide_eq_false_iff_not] at hb
      rw [if_neg hb] at hp
      try (first | refine wkM hK trivial ?_ | refine wkG trivial ?_)
      try clear hK K
      try (refine Stop.mk ?_; intro K hK)
      refine runS_yield rfl rfl ⟨_, evl, _, _, evl, ?_, ?_, ?_⟩
      · intro _
        exact ⟨fun c hc => by simp at hc; simp [hc], by simp [AV.free, AV.freeL], pref_one hp⟩
      · intro hg
        simp at hg
      · intro _ b
        try (first | refine wkM hK trivial ?_ | refine wkG trivial ?_)
        try clear hK K
        try (refine Stop.mk ?_; intro K hK)
        refine ⟨.inl rfl, pref_one hp, fun _ => ?_⟩
        rw [← hp]
        simp
theorem digits_G (x : Int) : FnG Tryz.prog 261 [.raw (.int .u64 x)] [] [] (.fn (.func 263) [] [.box 0 0]) [[.raw (.int .u64 x)]] [] := by
  refine fnG_of tblOk Tryz.func261 rfl (by kernel_rfl) 4 Tryz.ntmps261 lenT [.tmp 2] rfl 1 (by simp) ?_
  simp only [entryG, argSl, Nat.zero_add, Nat.reduceAdd, List.length_cons, List.length_nil]
  try refine wkG trivial ?_
  try (refine Stop.mk ?_; intro K hK)
  all_goals (refine retG_of (by simp) ⟨_, _, _, evl, obq, OutG.bel ?_ obb, by simp, ?_, rfl, obb, obb⟩)
  all_goals first | rfl | (simp []; done) | (simp_all []; done) | (simp_all []; omega) | (simp []; grind) | (split <;> simp_all) | skip
end Go.Proofs.YtchpbdecipcelaaGreatDoor
namespace Go.Proofs.YtchpbdecipcelaaGreatDoor
set_option linter.unusedVariables false
set_option linter.unusedSimpArgs false
set_option maxHeartbeats 4000000
set_option maxRecDepth 100000
open Go.RowKit
def zzI (v : Int) : Int := bitI .xor .u64 (IntKind.u64.wrap (IntKind.u64.wrap v * 2 ^ min 1 64)) (IntKind.u64.wrap (v.fdiv (2 ^ min (Int.toNat 63) 64)))
theorem u64_range (n : Int) : 0 ≤ IntKind.u64.wrap n ∧ IntKind.u64.wrap n < 18446744073709551616 := by
  have h : IntKind.u64.wrap n = n % 18446744073709551616 := rfl
  rw [h]
  exact ⟨Int.emod_nonneg _ (by decide), Int.emod_lt_of_pos _ (by decide)⟩
theorem zz_range (v : Int) : 0 ≤ zzI v ∧ zzI v < 18446744073709551616 := u64_range _
def putB (v : Int) : List Int := digF 10 (zzI v)
theorem putB_len (v : Int) : (putB v).length ≤ 10 := digF_len _ _
theorem pref_item {pre full : List Int} {item : List AV} {h : List (List AV)} (e : h = pre.map itB) (hp : pre <+: full) (hi : (h ++ [item]) <+: full.map itB) : ∃ d, item = itB d ∧ (pre ++ [d]) <+: full := by
  subst e
  obtain ⟨r, rfl⟩ := hp
  simp only [List.map_append] at hi
  cases r with
  | nil => exfalso; have := hi.length_le; simp at this; omega
  | cons c r =>
    rw [List.prefix_append_right_inj] at hi
    simp only [List.map_cons, List.cons_prefix_cons, List.nil_prefix, and_true] at hi
    exact ⟨c, hi, by simp⟩
theorem put_G (v : Int) (B : List Int) (hn : B.length ≤ 1000000) :
    FnG Tryz.prog 258 [.row 0 B.length, .raw (.int .i64 v)] [] [⟨5, 1, B.length, els (kC .u8) B⟩] (.row 0 (B ++ putB v).length) [] [⟨5, 1, (B ++ putB v).length, els (kC .u8) (B ++ putB v)⟩] := by
  refine fnG_of tblOk Tryz.func258 rfl (by kernel_rfl) 20 Tryz.ntmps258 lenT [.tmp 4] rfl 0 (by simp) ?_
  simp only [entryG, argSl, Nat.zero_add, Nat.reduceAdd, List.length_cons, List.length_nil]
  try (first | refine wkN hK trivial ?_ | refine wkR trivial ?_)
  try clear hK K
  try (refine Stop.mk ?_; intro K hK)
  refine sCallG [] [] (digits_G _) rfl rfl rfl ⟨_, evl, _, evl, _, evl, by simp, by decide, by decide, hlT, hlT, (by first | (simp [AV.subL, AV.sub]; done) | (simp only [List.forall_mem_cons, List.not_mem_nil, false_implies, implies_true, and_true, true_and, AV.subL, AV.sub, List.length_cons, List.length_nil, Nat.zero_add, Nat.reduceAdd]; (repeat' apply And.intro) <;> first | trivial | omega | (simp; done) | (refine AV.sub_free _ _ _ ?_; exact lA_free (fun _ => by simp) _) | (refine AV.subL_free _ _ _ ?_; simp; done) | (intro r hr; cases hr; done))), _, evl, _, evl, _, evl, ?_⟩
  try (first | refine wkN hK trivial ?_ | refine wkR trivial ?_)
  try clear hK K
  try (refine Stop.mk ?_; intro K hK)
  refine wpA_rangeFuncB (bk := [[.row 0 B.length]]) (own := [[.raw (.int .u64 (zzI v))]]) (sl' := [(2, true, .box 0 0)]) (cap := [.box 0 0]) (items := (putB v).map itB) (fun h j bx rw ys => j = none ∧ ys = ((0, []), [], true) ∧ ∃ pre, pre <+: putB v ∧ h = pre.map itB ∧ bx = [[.row 0 (B ++ pre).length]] ∧ rw = [⟨5, 1, (B ++ pre).length, els (kC .u8) (B ++ pre)⟩])
    rfl rfl rfl rfl (by simp [AV.subL, AV.sub]) (fun cs hc => by simp at hc; subst hc; exact ⟨trivial, trivial⟩) (digits1_S _ (zz_range v)) ⟨by simp, by simp⟩ (by simp) ?_ (by simp) ?_ ⟨rfl, rfl, [], by simp, rfl, by rw [List.append_nil], by rw [List.append_nil]⟩ ?_ ?_ ?_
  · simp only [SlSim, lookN_cons, ↓reduceIte, Nat.reduceEqDiff, Option.some.injEq, Prod.mk.injEq, true_and, and_true, exists_eq_left']
    exact simsT
  · simp [subSl, subB, subR, AV.sub, AV.subL, go_sem, els, kC]
  · rintro h item bx' rw' ys' ⟨_, rfl, pre, hp, hh, rfl, rfl⟩ hpr _
    obtain ⟨d, rfl, hpd⟩ := pref_item hh hp hpr
    refine ⟨rfl, ?_⟩
    simp only [zipSl, List.cons_append, List.nil_append]
    have hpl := hp.length_le
    have hpl2 := putB_len v
    have hbp : (B ++ pre).length ≤ 1000010 := by rw [List.length_append]; omega
    obtain ⟨Bp, hBp⟩ : ∃ Bp, Bp = B ++ pre := ⟨_, rfl⟩
    rw [← hBp] at hbp ⊢
    try refine wkR trivial ?_
    try (refine Stop.mk ?_; intro K hK)
    refine ⟨rfl, ?_⟩
    try refine wkR trivial ?_
    try (refine Stop.mk ?_; intro K hK)
    refine ⟨20, 65, [], [[.row 0 (Bp ++ [d]).length]], [⟨5, 1, (Bp ++ [d]).length, els (kC .u8) (Bp ++ [d])⟩], ((0, []), [], true), ?_, rfl, rfl, rfl, pre ++ [d], hpd, by rw [hh]; simp, by rw [hBp, List.append_assoc], by rw [hBp, List.append_assoc]⟩
    rw [List.length_append]
    refine wkn ?_ ?_ ?_
    all_goals first | exact wk0 | refine wkS ?_ | skip
    all_goals (try trivial)
    all_goals ((repeat' apply And.intro) <;> first | exact wkL | skip)
  · rintro bx' rw' ys' ⟨_, rfl, pre, hp, hh, rfl, rfl⟩
    have hl : pre.length = (putB v).length := by have := congrArg List.length hh; simpa using this.symm
    obtain rfl := hp.eq_of_length hl
    clear hp hh hl
    try refine wkR trivial ?_
    try (refine Stop.mk ?_; intro K hK)
    refine retG_of (by simp) ⟨_, _, _, evl, obq, OutG.bel rfl obb, by simp, rfl, rfl, obb, ?_⟩
    intro r hr
    simp only [List.mem_cons, List.not_mem_nil, or_false] at hr
    subst hr
    exact fun i hi => ⟨trivial, trivial⟩
  · rintro h j bx' rw' ys' _ ⟨hj, _⟩
    cases hj
theorem put_N (v : Int) :
    FnG Tryz.prog 258 [.raw (.slice none 0 0), .raw (.int .i64 v)] [] [] (.row 0 (putB v).length) [] [⟨5, 1, (putB v).length, els (kC .u8) (putB v)⟩] := by
  refine fnG_of tblOk Tryz.func258 rfl (by kernel_rfl) 20 Tryz.ntmps258 lenT [.tmp 4] rfl 0 (by simp) ?_
  simp only [entryG, argSl, Nat.zero_add, Nat.reduceAdd, List.length_cons, List.length_nil]
  refine wpA_weak (Weak.nilRow 0 5 1 rfl) ?_
  refine wpA_weak (st' := ⟨20, 64 * 0, [(0, true, .row 0 0), (1, true, .raw (.int .i64 v))], [], [⟨5, 1, 0, els (kC .u8) []⟩], ((0, []), [], true)⟩) ?_ ?_
  · refine wkn ?_ ?_ ?_
    all_goals first | exact wk0 | refine wkS ?_ | skip
    all_goals (try trivial)
    all_goals ((repeat' apply And.intro) <;> first | exact wkL | skip)
  try (first | refine wkN hK trivial ?_ | refine wkR trivial ?_)
  try clear hK K
  try (refine Stop.mk ?_; intro K hK)
  refine sCallG [] [] (digits_G _) rfl rfl rfl ⟨_, evl, _, evl, _, evl, by simp, by decide, by decide, hlT, hlT, (by first | (simp [AV.subL, AV.sub]; done) | (simp only [List.forall_mem_cons, List.not_mem_nil, false_implies, implies_true, and_true, true_and, AV.subL, AV.sub, List.length_cons, List.length_nil, Nat.zero_add, Nat.reduceAdd]; (repeat' apply And.intro) <;> first | trivial | omega | (simp; done) | (refine AV.sub_free _ _ _ ?_; exact lA_free (fun _ => by simp) _) | (refine AV.subL_free _ _ _ ?_; simp; done) | (intro r hr; cases hr; done))), _, evl, _, evl, _, evl, ?_⟩
  try (first | refine wkN hK trivial ?_ | refine wkR trivial ?_)
  try clear hK K
  try (refine Stop.mk ?_; intro K hK)
  refine wpA_rangeFuncB (bk := [[.row 0 0]]) (own := [[.raw (.int .u64 (zzI v))]]) (sl' := [(2, true, .box 0 0)]) (cap := [.box 0 0]) (items := (putB v).map itB) (fun h j bx rw ys => j = none ∧ ys = ((0, []), [], true) ∧ ∃ pre, pre <+: putB v ∧ h = pre.map itB ∧ bx = [[.row 0 pre.length]] ∧ rw = [⟨5, 1, pre.length, els (kC .u8) pre⟩])
    rfl rfl rfl rfl (by simp [AV.subL, AV.sub]) (fun cs hc => by simp at hc; subst hc; exact ⟨trivial, trivial⟩) (digits1_S _ (zz_range v)) ⟨by simp, by simp⟩ (by simp) ?_ (by simp) ?_ ⟨rfl, rfl, [], by simp, rfl, rfl, rfl⟩ ?_ ?_ ?_
  · simp only [SlSim, lookN_cons, ↓reduceIte, Nat.reduceEqDiff, Option.some.injEq, Prod.mk.injEq, true_and, and_true, exists_eq_left']
    exact simsT
  · simp [subSl, subB, subR, AV.sub, AV.subL, go_sem, els, kC]
  · rintro h item bx' rw' ys' ⟨_, rfl, pre, hp, hh, rfl, rfl⟩ hpr _
    obtain ⟨d, rfl, hpd⟩ := pref_item hh hp hpr
    refine ⟨rfl, ?_⟩
    simp only [zipSl, List.cons_append, List.nil_append]
    have hpl := hp.length_le
    have hpl2 := putB_len v
    have hbp : pre.length ≤ 1000010 := by omega
    obtain ⟨Bp, hBp⟩ : ∃ Bp, Bp = pre := ⟨_, rfl⟩
    rw [← hBp] at hbp ⊢
    try refine wkR trivial ?_
    try (refine Stop.mk ?_; intro K hK)
    refine ⟨rfl, ?_⟩
    try refine wkR trivial ?_
    try (refine Stop.mk ?_; intro K hK)
    refine ⟨20, 65, [], [[.row 0 (Bp ++ [d]).length]], [⟨5, 1, (Bp ++ [d]).length, els (kC .u8) (Bp ++ [d])⟩], ((0, []), [], true), ?_, rfl, rfl, rfl, pre ++ [d], hpd, by rw [hh]; simp, by rw [hBp], by rw [hBp]⟩
    rw [List.length_append]
    refine wkn ?_ ?_ ?_
    all_goals first | exact wk0 | refine wkS ?_ | skip
    all_goals (try trivial)
    all_goals ((repeat' apply And.intro) <;> first | exact wkL | skip)
  · rintro bx' rw' ys' ⟨_, rfl, pre, hp, hh, rfl, rfl⟩
    have hl : pre.length = (putB v).length := by have := congrArg List.length hh; simpa using this.symm
    obtain rfl := hp.eq_of_length hl
    clear hp hh hl
    try refine wkR trivial ?_
    try (refine Stop.mk ?_; intro K hK)
    refine retG_of (by simp) ⟨_, _, _, evl, obq, OutG.bel rfl obb, by simp, rfl, rfl, obb, ?_⟩
    intro r hr
    simp only [List.mem_cons, List.not_mem_nil, or_false] at hr
    subst hr
    exact fun i hi => ⟨trivial, trivial⟩
  · rintro h j bx' rw' ys' _ ⟨hj, _⟩
    cases hj
end Go.Proofs.YtchpbdecipcelaaGreatDoor
namespace Go.Proofs.YtchpbdecipcelaaGreatDoor
set_option linter.unusedVariables false
set_option linter.unusedSimpArgs false
set_option maxHeartbeats 4000000
set_option maxRecDepth 100000
open Go.RowKit
def putsB (l : List Int) (k : Nat) : List Int := putB l.length ++ (l.take k).flatMap putB
theorem putsB_succ {l : List Int} {k : Nat} (h : k < l.length) : putsB l (k + 1) = putsB l k ++ putB (l.getD k default) := by
  unfold putsB
  rw [List.take_succ_eq_append_getElem h, List.flatMap_append, ← List.append_assoc]
  simp [h]
theorem putsB_len (l : List Int) : ∀ k, (putsB l k).length ≤ 10 + 10 * k
  | 0 => by have := putB_len l.length; simp [putsB]; omega
  | k + 1 => by
    have ih := putsB_len l k
    by_cases h : k < l.length
    · rw [putsB_succ h, List.length_append]
      have := putB_len (l.getD k default)
      omega
    · unfold putsB at ih ⊢
      rw [List.take_of_length_le (by omega)] at ih ⊢
      omega
theorem put_A (l : List Int) (h : l.length ≤ 1000) : FnA Tryz.prog 252 [liA l] (.tup [lA 1 (kC .u8) (putsB l l.length), .raw (.int .i64 0)]) := by
  refine fnA_of tblOk Tryz.func252 rfl (by kernel_rfl) 24 Tryz.ntmps252 lenT [.tmp 2, .tmp 3] rfl ?_
  simp only [entrySt, argSl, Nat.zero_add, Nat.reduceAdd]
  try refine wkR trivial ?_
  try (refine Stop.mk ?_; intro K hK)
  refine wpA_cond' ⟨_, evl, fun hb => ?_, fun hb => ?_⟩
  · simp at hb; omega
  try (first | refine wkN hK trivial ?_ | refine wkR trivial ?_)
  try clear hK K
  try (refine Stop.mk ?_; intro K hK)
  refine sCallG [] [] (put_N _) rfl rfl rfl ⟨_, evl, _, evl, _, evl, by simp, by decide, by decide, hlT, hlT, (by first | (simp [AV.subL, AV.sub]; done) | (simp only [List.forall_mem_cons, List.not_mem_nil, false_implies, implies_true, and_true, true_and, AV.subL, AV.sub, List.length_cons, List.length_nil, Nat.zero_add, Nat.reduceAdd]; (repeat' apply And.intro) <;> first | trivial | omega | (simp; done) | (refine AV.sub_free _ _ _ ?_; exact lA_free (fun _ => by simp) _) | (refine AV.subL_free _ _ _ ?_; simp; done) | (intro r hr; cases hr; done))), _, evl, _, evl, _, evl, ?_⟩
  try (first | refine wkN hK trivial ?_ | refine wkR trivial ?_)
  try clear hK K
  try (refine Stop.mk ?_; intro K hK)
  refine wpA_loop (fun k : Nat => ⟨24, 0, [(0, true, liA l), (4, true, .row 0 (putsB l k).length), (13, true, liA l), (14, true, .raw (.int .i64 l.length)), (15, true, .raw (.int .i64 k))], [], [⟨5, 1, (putsB l k).length, els (kC .u8) (putsB l k)⟩], ((0, []), [], true)⟩)
    (fun k => k ≤ l.length) (fun k => l.length - k) 0 ?_ (by omega) ?_
  · rw [show putsB l 0 = putB l.length from by simp [putsB]]
    refine wkn ?_ ?_ ?_
    all_goals first | exact wk0 | refine wkS ?_ | skip
    all_goals (try trivial)
    all_goals ((repeat' apply And.intro) <;> first | exact wkL | skip)
  · rintro k hk
    have hle := putsB_len l k
    try refine wkR trivial ?_
    try (refine Stop.mk ?_; intro K hK)
    refine wpA_cond' ⟨_, evl, fun hb => ?_, fun hb => ?_⟩
    · simp at hb
      try (first | refine wkN hK trivial ?_ | refine wkR trivial ?_)
      try clear hK K
      try (refine Stop.mk ?_; intro K hK)
      refine sCallG [] [0] (put_G (l.getD k default) (putsB l k) (by omega)) rfl rfl rfl ⟨_, evl, _, evl, _, evl, by simp, by decide, by decide, hlT, hlT, (by first | (simp [AV.subL, AV.sub, els, kC]; done) | (simp only [List.forall_mem_cons, List.not_mem_nil, false_implies, implies_true, and_true, true_and, AV.subL, AV.sub, List.length_cons, List.length_nil, Nat.zero_add, Nat.reduceAdd]; (repeat' apply And.intro) <;> first | trivial | omega | (simp; done) | (refine AV.sub_free _ _ _ ?_; exact lA_free (fun _ => by simp) _) | (refine AV.subL_free _ _ _ ?_; simp; done) | (intro r hr; cases hr; done))), _, evl, _, evl, _, evl, ?_⟩
      try (first | refine wkN hK trivial ?_ | refine wkR trivial ?_)
      try clear hK K
      try (refine Stop.mk ?_; intro K hK)
      refine ⟨k + 1, by omega, by omega, ?_⟩
      rw [putsB_succ hb]
      refine wkn ?_ ?_ ?_
      all_goals first | exact wk0 | refine wkS ?_ | skip
      all_goals (try trivial)
      all_goals ((repeat' apply And.intro) <;> first | exact wkL | skip)
    · simp at hb
      obtain rfl : k = l.length := by omega
      try refine wkR trivial ?_
      try (refine Stop.mk ?_; intro K hK)
      refine ret_of (by simp) ⟨_, _, _, evl, ob0, OutOk.sims ?_ fre⟩
      exact Sims.tup (show SimsL _ _ [_, _] [_, _] from ⟨Sims.row rfl rfl rfl rfl (fun i hi => rfl), Sims.refl _, trivial⟩)
theorem pwithin_A (n lo hi : Int) : FnA Tryz.prog 251 [.raw (.int .i64 n), .raw (.int .i64 lo), .raw (.int .i64 hi)] (.raw (.bool (decide (lo ≤ n) && decide (n ≤ hi)))) := by
  refine fnA_of tblOk Tryz.func251 rfl (by kernel_rfl) 15 Tryz.ntmps251 lenT [.tmp 6] rfl ?_
  simp only [entrySt, argSl, Nat.zero_add, Nat.reduceAdd]
  repeat' first
    | refine wkG trivial ?_
    | (refine cndS ⟨_, evl, ⟨cb, cb⟩, fun hb => ?_, fun hb => ?_⟩ <;> try (cases hb; done))
    | (refine Stop.mk ?_; intro K hK)
    | fail
  all_goals (try (refine ret_of (by simp) ⟨_, _, _, evl, ob0, OutOk.sims ?_ fre⟩))
  all_goals first | exact Sims.refl _ | exact finT | exact simsF | (refine Sims.tup ?_; simp only [SimsL, and_true]; (repeat' apply And.intro) <;> first | exact simsF | skip) | (exfalso; first | omega | (simp_all; done) | (simp_all; omega)) | skip
end Go.Proofs.YtchpbdecipcelaaGreatDoor
