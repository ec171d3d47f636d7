import Derived.Test.YtchpbdecipcelaaGreatDoorE47
namespace Go.Proofs.YtchpbdecipcelaaGreatDoor
set_option linter.unusedVariables false
set_option linter.unusedSimpArgs false
set_option maxHeartbeats 4000000
set_option maxRecDepth 100000
open Go.RowKit
def sksB (l : List Bound) (blamed : List Party) : List Bf.Sk := l.map fun b => (!freeB blamed b, toE b)
def timesM (l : List Bound) (n : Nat) (blamed : List Party) : Option (List Int) := Bf.timesL ((n : Int) * 3000000000000000) (sksB l blamed) (n + 1) (List.replicate n 0)
def resT : Option (List Int) → AV
  | none => .tup [liA [], .raw (.bool false)]
  | some t => .tup [liA t, .raw (.bool true)]
theorem timesNo (st : ASt) : OutOk st (.tup [.raw (.slice none 0 0), .raw (.bool false)]) (resT none) :=
  OutOk.sims (Sims.tup (show SimsL _ _ [_, _] [_, _] from ⟨(Sim.nil rfl).s, Sims.refl _, trivial⟩)) ⟨fun i h => absurd h (Nat.not_lt_zero _), trivial, trivial⟩
theorem chunk_ints {t : List Int} {i : Nat} (h : i < t.length) : chunkA 1 (ints t) i = els iC t i := by
  unfold chunkA els ints
  rw [Nat.mul_one, ← List.map_drop, List.drop_eq_getElem_cons h, List.map_cons, List.take_succ_cons, List.take_zero, getD_get h]
  rfl
theorem InT.put {n : Nat} {t : List Int} (h : InT n t) {e : Bf.E} (hb : e.b < n) (hlt : t.getD e.a 0 + e.m < t.getD e.b 0) (hl : ¬ (t.set e.b (t.getD e.a 0 + e.m)).getD e.b 0 < -((n : Int) * 3000000000000000)) : InT n (t.set e.b (t.getD e.a 0 + e.m)) := by
  have hb2 : e.b < t.length := by rw [h.len]; exact hb
  rw [Bf.fn_set hb2 hlt] at hl ⊢
  exact h.relax hb hl
theorem timesR_A (l : List Bound) (hl : l.length ≤ 1000000) (n : Nat) (hn : 1 ≤ n ∧ n ≤ 1000) (hb : ∀ b ∈ l, boundP n b) (blamed : List Party) (hbl : blamed.length ≤ 4611686018427387904) :
    FnA Tryz.prog 23 [lA 4 Bound.av l, .raw (.int .i64 n), lA 2 Party.av blamed] (resT (timesM l n blamed)) := by
  have hfl : (lA 4 Bound.av l).free := lA_free (fun y => Bound.free y) _
  have hfb : (lA 2 Party.av blamed).free := lA_free (fun y => Party.free y) _
  unfold timesM
  refine fnA_of tblOk Tryz.func23 rfl (by kernel_rfl) 76 Tryz.ntmps23 lenT [.tmp 6, .tmp 7] rfl ?_
  simp only [entrySt, argSl, Nat.zero_add, Nat.reduceAdd]
  try refine wkB trivial ?_
  try (refine Stop.mk ?_; intro K hK)
  refine runS_mkInts n (by omega) rfl rfl rfl rfl ⟨evl, _, evl, _, evl, ?_⟩
  refine stB ?_
  refine runS_nil (hK _ ?_); clear hK K
  try refine wkB trivial ?_
  try (refine Stop.mk ?_; intro K hK)
  generalize hC : (n : Int) * 3000000000000000 = C
  generalize hX : Bf.timesL C (sksB l blamed) (n + 1) (List.replicate n 0) = X
  refine wpA_loop (fun p : Nat × List Int => ⟨76, 0, [(0, true, lA 4 Bound.av l), (1, true, .raw (.int .i64 n)), (2, true, lA 2 Party.av blamed), (8, true, .bsl 1 0 0 n n), (9, true, .raw (.int .i64 p.1))], [ints p.2], [], ((0, []), [], true)⟩)
    (fun p => p.1 ≤ n + 1 ∧ InT n p.2 ∧ X = Bf.timesL C (sksB l blamed) (n + 1 - p.1) p.2) (fun p => n + 1 - p.1) (0, List.replicate n 0) ?_ ⟨by simp, InT.zero n, hX.symm⟩ ?_
  · refine wkn ?_ ?_ ?_
    all_goals first | exact wk0 | refine wkS ?_ | skip
    all_goals (try trivial)
    all_goals ((repeat' apply And.intro) <;> first | exact wkL | skip)
  rintro ⟨k, t⟩ ⟨hk, ht, he⟩
  simp only at hk ht he ⊢
  clear hX
  rcases Nat.lt_or_ge k (n + 1) with hlt | hge
  · obtain ⟨f, hf⟩ : ∃ f, n + 1 - k = f + 1 := ⟨n - k, by omega⟩
    rw [hf, Bf.timesL] at he
    generalize hR : Bf.roundL C (sksB l blamed) (t, false) = R at he
    try refine wkB trivial ?_
    try (refine Stop.mk ?_; intro K hK)
    refine wpA_cond' ⟨_, evl, fun _ => ?_, fun hb => absurd (of_decide_eq_false hb) (by omega)⟩
    try refine wkB trivial ?_
    try (refine Stop.mk ?_; intro K hK)
    refine wpA_loop (fun p : Nat × List Int × Bool => ⟨76, 0, [(0, true, lA 4 Bound.av l), (1, true, .raw (.int .i64 n)), (2, true, lA 2 Party.av blamed), (8, true, .bsl 1 0 0 n n), (9, true, .raw (.int .i64 k)), (10, true, .raw (.bool p.2.2)), (11, true, .raw (.int .i64 p.1))], [ints p.2.1], [], ((0, []), [], true)⟩)
      (fun p => p.1 ≤ l.length ∧ InT n p.2.1 ∧ R = Bf.roundL C ((l.drop p.1).map fun b => (!freeB blamed b, toE b)) p.2) (fun p => l.length - p.1) (0, t, false) ?_ ⟨by simp, ht, by rw [List.drop_zero]; exact hR.symm⟩ ?_
    · refine wkn ?_ ?_ ?_
      all_goals first | exact wk0 | refine wkS ?_ | skip
      all_goals (try trivial)
      all_goals ((repeat' apply And.intro) <;> first | exact wkL | skip)
    clear hR ht
    rintro ⟨i, t, ch⟩ ⟨hi, ht, hr⟩
    simp only at hi ht hr ⊢
    rcases Nat.lt_or_ge i l.length with hli | hgi
    · have hbi := hb _ (memD hli)
      have hre := restsR_A (l.getD i default) (by have := hbi.2.2.2.1; omega) blamed hbl
      obtain ⟨hb1, hb2, hb3, -⟩ := hbi
      rw [drop_getD hli, List.map_cons, Bf.roundL] at hr
      have hsk : Bf.stepSk (t, ch) (!freeB blamed (l.getD i default), toE (l.getD i default)) = if freeB blamed (l.getD i default) && decide (t.getD (l.getD i default).from_.toNat 0 + (l.getD i default).most < t.getD (l.getD i default).to_.toNat 0) then (t.set (l.getD i default).to_.toNat (t.getD (l.getD i default).from_.toNat 0 + (l.getD i default).most), true) else (t, ch) := by
        unfold Bf.stepSk
        simp only [Bool.not_not]
        rfl
      rw [hsk] at hr
      clear hsk
      have hl1 := ht.lim ((l.getD i default).to_.toNat * 1)
      have hl2 := ht.lim ((l.getD i default).from_.toNat * 1)
      have hput := fun hlt hl => ht.put (e := toE (l.getD i default)) (show (l.getD i default).to_.toNat < n by omega) hlt hl
      simp only [toE] at hr hput
      have hlen : (ints t).length = n := by rw [ints_len, ht.len]
      haveI : InB t ((l.getD i default).to_.toNat * 1) := ⟨by rw [ht.len]; omega⟩
      haveI : InB t ((l.getD i default).from_.toNat * 1) := ⟨by rw [ht.len]; omega⟩
      have f1 : IntKind.i64.wrap (-(n : Int)) = -(n : Int) := inK_wrap (k := .i64) (by simp only [inK]; omega)
      generalize freeB blamed (l.getD i default) = z at *
      try refine wkB trivial ?_
      try (refine Stop.mk ?_; intro K hK)
      refine wpA_cond' ⟨_, evl, fun _ => ?_, fun hb => absurd (of_decide_eq_false hb) (by omega)⟩
      repeat (refine stG ?_)
      refine wpA_region (fun K hK => ?_)
      iterate 6 (refine stG ?_)
      refine runS_freeze 1 obf ⟨_, evl, _, evl, ?_⟩
      refine runS_nil (hK _ ?_); clear hK K
      repeat
        first
          | (refine runS_nil (hK _ ?_); clear hK K)
          | refine stB ?_
          | (refine gateS 2 rfl ?_; refine runS_appBsl tblOk rfl rfl rfl ⟨_, _, _, _, _, _, _, evl, obq, _, _, _, _, _, evl, _, evl, obq, obq, obs, _, evl, fun c hc1 hc2 => ⟨_, evl, ?_⟩⟩)
          | (refine gateS 1 rfl ?_; first | (refine runS_call rfl rfl ⟨_, evl, _, _, _, evl, oblG, ?_⟩; apply Exists.intro; refine ⟨fun hg => ?_, ?_⟩; · first | exact FnA.at_ (hre) rfl rfl | exact FnA.at_s (hre) rfl simT | exact FnA.at_s (hre) rfl simF) | (refine runS_callR rfl rfl ⟨_, evl, _, _, _, evl, _, _, evl, oblG, ?_⟩; apply Exists.intro; refine ⟨fun hg => ?_, ?_⟩; · first | exact FnA.at_ (hre) rfl rfl | exact FnA.at_s (hre) rfl simT | exact FnA.at_s (hre) rfl simF))
          | (refine gateA 1 rfl ?_; refine runA_call rfl ⟨_, evl, _, _, _, (fun _ _ => evlA), oblG, ?_⟩; apply Exists.intro; refine ⟨fun hg => ?_, ?_⟩; · first | exact FnA.at_ (hre) rfl rfl | exact FnA.at_s (hre) rfl simT | exact FnA.at_s (hre) rfl simF)
          | (refine gateA 1 rfl ?_; refine runA_put ?_)
          | (refine gateBc ?_; first | (refine runB_nil (hK _ ?_); clear hK K) | (refine runB_op rfl ⟨_, evl, fun nb' => ?_⟩))
          | refine wpA_region (fun K hK => ?_)
          | (refine gateD ?_; first | (refine wpA_drawG false rfl (by kernel_rfl) (by kernel_rfl) (fun K hK => ?_)) | (refine wpA_drawG true rfl (by kernel_rfl) (by kernel_rfl) (fun K hK => ?_)))
      refine wpA_cond' ⟨_, evl, fun hb => ?_, fun hb => ?_⟩
      · simp only [Nat.mul_one, Bool.not_not, Bool.and_eq_true, decide_eq_true_eq] at hb
        obtain ⟨hz, hlt2⟩ := hb
        rw [hz, decide_eq_true hlt2] at hr
        repeat
          first
            | (refine runS_nil (hK _ ?_); clear hK K)
            | refine stB ?_
            | (refine gateS 2 rfl ?_; refine runS_appBsl tblOk rfl rfl rfl ⟨_, _, _, _, _, _, _, evl, obq, _, _, _, _, _, evl, _, evl, obq, obq, obs, _, evl, fun c hc1 hc2 => ⟨_, evl, ?_⟩⟩)
            | (refine gateA 1 rfl ?_; refine runA_put ?_)
            | (refine gateBc ?_; first | (refine runB_nil (hK _ ?_); clear hK K) | (refine runB_op rfl ⟨_, evl, fun nb' => ?_⟩))
            | refine wpA_region (fun K hK => ?_)
            | (refine gateD ?_; first | (refine wpA_drawG false rfl (by kernel_rfl) (by kernel_rfl) (fun K hK => ?_)) | (refine wpA_drawG true rfl (by kernel_rfl) (by kernel_rfl) (fun K hK => ?_)))
        have hin : (l.getD i default).to_.toNat * 1 + 1 ≤ (ints t).length := by omega
        refine sStore tblOk rfl rfl rfl ⟨_, _, evl, _, evl, _, evl, _, evl, ⟨(by simp [cellsA, AV.oneL, AV.one, Value.oneCell']), rfl, hin⟩, _, evl, ?_⟩
        repeat (refine stB ?_)
        refine runB_nil (hK _ ?_); clear hK K
        have hT : t.set ((l.getD i default).to_.toNat * 1) (t.getD ((l.getD i default).from_.toNat * 1) 0 + (l.getD i default).most) = t.set (l.getD i default).to_.toNat (t.getD (l.getD i default).from_.toNat 0 + (l.getD i default).most) := by simp only [Nat.mul_one]
        rw [hT]
        replace hput := hput hlt2
        have hTl : (t.set (l.getD i default).to_.toNat (t.getD (l.getD i default).from_.toNat 0 + (l.getD i default).most)).length = n := by rw [List.length_set, ht.len]
        clear hT
        simp only [Bool.and_self, if_true] at hr
        generalize t.set (l.getD i default).to_.toNat (t.getD (l.getD i default).from_.toNat 0 + (l.getD i default).most) = T at *
        haveI : InB T ((l.getD i default).to_.toNat * 1) := ⟨by rw [hTl]; omega⟩
        have hlen2 : (ints T).length = n := by rw [ints_len, hTl]
        try refine wkB trivial ?_
        try (refine Stop.mk ?_; intro K hK)
        refine wpA_cond' ⟨_, evl, fun hbad => ?_, fun hgo => ?_⟩
        · rw [Nat.mul_one] at hbad
          have hbad := of_decide_eq_true hbad
          rw [if_pos (by omega)] at hr
          rw [hr] at he
          try refine wkB trivial ?_
          try (refine Stop.mk ?_; intro K hK)
          exact ret_of (by simp) ⟨_, _, _, evl, ob0, show OutOk _ _ (resT X) by rw [show X = none from he]; exact timesNo _⟩
        · rw [Nat.mul_one] at hgo
          have hgo := of_decide_eq_false hgo
          rw [if_neg (by omega)] at hr
          try refine wkB trivial ?_
          try (refine Stop.mk ?_; intro K hK)
          refine ⟨(i + 1, T, true), ⟨by simp only; omega, hput (by omega), hr⟩, by simp only; omega, ?_⟩
          refine wkn ?_ ?_ ?_
          all_goals first | exact wk0 | refine wkS ?_ | skip
          all_goals (try trivial)
          all_goals ((repeat' apply And.intro) <;> first | exact wkL | skip)
      · simp only [Nat.mul_one, Bool.not_not] at hb
        rw [hb] at hr
        simp only [Bool.false_eq_true, if_false] at hr
        try refine wkB trivial ?_
        try (refine Stop.mk ?_; intro K hK)
        refine wpA_cond' ⟨_, evl, fun hbad => ?_, fun hgo => ?_⟩
        · rw [Nat.mul_one] at hbad
          have hbad := of_decide_eq_true hbad
          rw [if_pos (by omega)] at hr
          rw [hr] at he
          try refine wkB trivial ?_
          try (refine Stop.mk ?_; intro K hK)
          exact ret_of (by simp) ⟨_, _, _, evl, ob0, show OutOk _ _ (resT X) by rw [show X = none from he]; exact timesNo _⟩
        · rw [Nat.mul_one] at hgo
          have hgo := of_decide_eq_false hgo
          rw [if_neg (by omega)] at hr
          try refine wkB trivial ?_
          try (refine Stop.mk ?_; intro K hK)
          refine ⟨(i + 1, t, ch), ⟨by simp only; omega, ht, hr⟩, by simp only; omega, ?_⟩
          refine wkn ?_ ?_ ?_
          all_goals first | exact wk0 | refine wkS ?_ | skip
          all_goals (try trivial)
          all_goals ((repeat' apply And.intro) <;> first | exact wkL | skip)
    · obtain rfl : i = l.length := by omega
      rw [List.drop_length] at hr
      have hr : R = some (t, ch) := hr
      rw [hr] at he
      try refine wkB trivial ?_
      try (refine Stop.mk ?_; intro K hK)
      refine wpA_cond' ⟨_, evl, fun hb => absurd (of_decide_eq_true hb) (by omega), fun _ => ?_⟩
      try refine wkB trivial ?_
      try (refine Stop.mk ?_; intro K hK)
      refine wpA_cond' ⟨_, evl, fun hb => ?_, fun hb => ?_⟩
      · rw [Bool.not_eq_true'] at hb
        subst hb
        have he : X = some t := he
        subst he
        have hlen : n * 1 ≤ (ints t).length := by rw [ints_len, ht.len]; omega
        repeat (refine stB ?_)
        refine wpA_weak (st' := ⟨76, 0, [(8, true, .bsl 1 0 0 n n)], [ints t], [], ((0, []), [], true)⟩) ?_ ?_
        · refine wkn ?_ ?_ ?_
          all_goals first | exact wk0 | refine wkS ?_ | skip
          all_goals (try trivial)
          all_goals ((repeat' apply And.intro) <;> first | exact wkL | skip)
        refine wpA_freeze 0 ⟨by simp, trivial, (fun r hr => by cases hr), ⟨.inr ⟨by simp, ints_bel _ _, by simpa using hlen⟩, trivial⟩⟩ ⟨_, evl, _, evl, ?_⟩
        refine wpA_weak (Weak.slot (y := liA t) 8 rfl (Sim.lstE ht.len.symm fun i hi => chunk_ints (by rw [ht.len]; exact hi)).s) ?_
        have hft := liA_free t
        try refine wkG trivial ?_
        try (refine Stop.mk ?_; intro K hK)
        exact ret_of (by simp) ⟨_, _, _, evl, ob0, OutOk.free (show (resT (some t)).free from ⟨hft, trivial, trivial⟩)⟩
      · rw [Bool.not_eq_false'] at hb
        subst hb
        have he : X = Bf.timesL C (sksB l blamed) f t := he
        try refine wkB trivial ?_
        try (refine Stop.mk ?_; intro K hK)
        refine ⟨(k + 1, t), ⟨by simp only; omega, ht, by rw [show n + 1 - (k + 1) = f by omega]; exact he⟩, by simp only; omega, ?_⟩
        refine wkn ?_ ?_ ?_
        all_goals first | exact wk0 | refine wkS ?_ | skip
        all_goals (try trivial)
        all_goals ((repeat' apply And.intro) <;> first | exact wkL | skip)
  · obtain rfl : k = n + 1 := by omega
    rw [Nat.sub_self] at he
    have he : X = none := he
    try refine wkB trivial ?_
    try (refine Stop.mk ?_; intro K hK)
    refine wpA_cond' ⟨_, evl, fun hb => absurd (of_decide_eq_true hb) (by omega), fun _ => ?_⟩
    try refine wkB trivial ?_
    try (refine Stop.mk ?_; intro K hK)
    exact ret_of (by simp) ⟨_, _, _, evl, ob0, show OutOk _ _ (resT X) by rw [show X = none from he]; exact timesNo _⟩
end Go.Proofs.YtchpbdecipcelaaGreatDoor
