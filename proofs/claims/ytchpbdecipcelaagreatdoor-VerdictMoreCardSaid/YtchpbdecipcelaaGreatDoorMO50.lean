import Derived.Test.YtchpbdecipcelaaGreatDoorMO49
namespace Go.Proofs.YtchpbdecipcelaaGreatDoor
set_option linter.unusedVariables false
set_option linter.unusedSimpArgs false
set_option maxHeartbeats 4000000
set_option maxRecDepth 100000
open Go.RowKit
theorem runS_addW {P : Program} {ops : Array Oper} {rest : List Oper} {K : ASt → Prop} {nt nb : Nat} {sl : List (Nat × (Bool × AV))} {bx : List (List AV)} {rw : List ARow} {ys : (Nat × List (List AV)) × List (List AV) × Bool} {o : Oper} {d : Nat} {t t' : TypeId} {x y : Operand} {m n : Int}
    (hop : o.op = .binOp .add t x y t') (hg : o.guard = none) (hd : o.dst = some d) (hn : Nat.blt d nt = true)
    (h : (ASt.mk nt nb sl bx rw ys).ev x = some (true, .raw (.int .i64 m)) ∧ (ASt.mk nt nb sl bx rw ys).ev y = some (true, .raw (.int .i64 n)) ∧
      runS P ops rest K ⟨nt, nb, (d, (true, .raw (.int .i64 (IntKind.i64.wrap (m + n))))) :: sl, bx, rw, ys⟩) : runS P ops (o :: rest) K ⟨nt, nb, sl, bx, rw, ys⟩ := by
  obtain ⟨h1, h2, hk⟩ := h
  intro C G a w Q hs hQ
  have e1 := rel_raw ((evOk_of (x := x) fun t _ => hs.slot t) _ _ h1 rfl)
  have e2 := rel_raw ((evOk_of (x := y) fun t _ => hs.slot t) _ _ h2 rfl)
  refine wpListIn_plain hg fun K' hK => ?_
  refine wpIn_of_run (fun c hc => by rw [hc] at hop; cases hop) ?_
  obtain ⟨dst, op', type, pos, after, guard⟩ := o
  simp only at hop hd
  subst hop
  subst hd
  have hrun : (execOp a.eval ⟨some d, .binOp .add t x y t', type, pos, after, guard⟩).run P w = .ok (.value (.int .i64 (IntKind.i64.wrap (m + n)))) w := by
    simp only [execOp, Sem.run_bind, e1, e2, eqGuard_int, Result.andThen_ok, binOp, Op.intArith]
    simp
  rw [hrun, Oper.uponIn_value]
  exact hK _ _ (hk C G _ w Q (hs.put (by simpa [Nat.blt_eq] using hn) (fun _ => rfl) (fun h => by cases h)) hQ)
theorem wrap_i64 (n : Int) : inK .i64 (IntKind.i64.wrap n) := by
  have h : IntKind.i64.wrap n = (n + 9223372036854775808) % 18446744073709551616 - 9223372036854775808 := by
    simp [IntKind.wrap, IntKind.bits, IntKind.signed]
    omega
  rw [h]
  simp only [inK]
  omega
def withF (m : Matter) (f : Int) : Matter := ⟨⟨m.evidence.keys, m.evidence.auths, f, m.evidence.chains⟩, m.diaries, m.wires⟩
theorem withF_ok {m : Matter} (h : OkM m) (f : Int) : OkM (withF m f) := ⟨h.kl, h.kf, h.al, h.wl, h.wc, h.cl, h.ch, h.dl, h.di⟩
theorem withF_few {m : Matter} (h : fewP m) (f : Int) : fewP (withF m f) := h
theorem withF_bounds {m : Matter} {f : Int} (h1 : (boundsM44 m).2.2 = 0) (h2 : (boundsM44 (withF m f)).2.2 = 0) : boundsM44 (withF m f) = boundsM44 m := by
  unfold boundsM44 at *
  have e1 : evN (withF m f) = evN m := rfl
  have e2 : wE (withF m f) (evL (withF m f)) = wE m (evL m) := rfl
  have e3 : allL (withF m f) = allL m := rfl
  rw [e1, e2, e3] at *
  by_cases hf : formP m
  · by_cases hg : formP (withF m f)
    · rw [if_neg (not_not_intro hf), if_neg (not_not_intro hg)]
    · rw [if_pos hg] at h2; simp at h2
  · rw [if_pos hf] at h1; simp at h1
theorem more_plain {m : Matter} {f most most' : Int} (hf : m.evidence.f ≤ f) (hm : most ≤ most') (h1 : (setsM m most).2 = 0) (h2 : (setsM (withF m f) most').2 = 0) : ∀ s ∈ (setsM m most).1, s ∈ (setsM (withF m f) most').1 := by
  unfold setsM at *
  by_cases he : (boundsM44 m).2.2 = 0
  · by_cases he' : (boundsM44 (withF m f)).2.2 = 0
    · have hb := withF_bounds he he'
      rw [hb] at h2 ⊢
      rw [if_neg (not_not_intro he)] at h1 h2 ⊢
      rw [if_neg (not_not_intro he)]
      by_cases hr : 0 ≤ most ∧ most ≤ 3
      · by_cases hr' : 0 ≤ most' ∧ most' ≤ 3
        · rw [if_neg (not_not_intro hr)] at h1 ⊢
          rw [if_neg (not_not_intro hr')] at h2 ⊢
          split at h1
          · simp at h1
          · split at h2
            · simp at h2
            · rename_i c1 c2
              rw [if_neg c1, if_neg c2]
              simp only
              intro s hs
              have hnd := allP_nodup (boundsM44 m).1
              obtain ⟨⟨a1, a2, a3⟩, a4⟩ := (Vd.setsOf_iff hnd).1 hs
              refine (Vd.setsOf_iff hnd).2 ⟨⟨a1, by omega, ?_⟩, fun t ht hk hp => a4 t ht ?_ hp⟩
              · unfold okS at a3 ⊢
                rw [Bool.and_eq_true, decide_eq_true_iff] at a3 ⊢
                exact ⟨by show (authsN s : Int) ≤ f; omega, a3.2⟩
              · unfold okS at a3 hk ⊢
                rw [Bool.and_eq_true, decide_eq_true_iff] at a3 hk ⊢
                have := authsN_sub (hnd.sublist ht) (Vd.part_iff.1 hp)
                exact ⟨by omega, hk.2⟩
        · rw [if_pos hr'] at h2; simp at h2
      · rw [if_pos hr] at h1; simp at h1
    · rw [if_pos he'] at h2; exact absurd h2 he'
  · rw [if_pos he] at h1; exact absurd h1 he
theorem sets_form {m : Matter} {most : Int} (h : (setsM m most).2 = 0) : (0 ≤ m.evidence.f ∧ m.evidence.f ≤ 5) ∧ 0 ≤ most ∧ most ≤ 3 := by
  unfold setsM at h
  split at h
  · rename_i h1; exact absurd h h1
  · rename_i h1
    split at h
    · simp at h
    · rename_i h2
      refine ⟨?_, Classical.not_not.1 h2⟩
      unfold boundsM44 at h1
      by_cases hf : formP m
      · exact hf.2.2.1
      · rw [if_pos hf] at h1; simp at h1
theorem more_A (m : Matter) (hm : MatterLim m) (most more f : Int) (h1 : 0 ≤ more ∧ more ≤ 255) (h2 : 0 ≤ f ∧ f ≤ 255) : FnA Tryz.prog 9 [.agg m.av, .raw (.int .i64 most), .raw (.int .u8 more), .raw (.int .u8 f)] (.raw (.bool true)) := by
  have hh := head44_A
  have hmf := Matter.free m
  obtain ⟨fb, hfb1, hfew⟩ := few_A m hm
  obtain ⟨f1, f2, f3, f4, f5⟩ := freeM m
  by_cases hc : fb = true
  · subst hc
    have hfw := hfb1.1 rfl
    obtain ⟨ho, hB⟩ := few_ok hm hfw
    have hS := Sets_A m ho hB most
    obtain ⟨F', hF'⟩ : ∃ F', F' = IntKind.i64.wrap (m.evidence.f + f.tmod 3) := ⟨_, rfl⟩
    obtain ⟨M', hM'⟩ : ∃ M', M' = IntKind.i64.wrap (most + more.tmod 3) := ⟨_, rfl⟩
    have hB' : BOk (withF m F') := (few_ok (m := withF m F') ⟨hm.k, hm.a, by rw [hF']; exact wrap_i64 _, hm.c, hm.d, hm.w⟩ (withF_few hfw F')).2
    have hS' := Sets_A (withF m F') (withF_ok ho F') hB' M'
    have hsh := sets_short (most := most) hB
    have hsh' := sets_short (most := M') hB'
    have hpl := fun (e1 : (setsM m most).2 = 0) (e2 : (setsM (withF m F') M').2 = 0) => by
      obtain ⟨⟨a1, a2⟩, a3, a4⟩ := sets_form e1
      have b1 : 0 ≤ f.tmod 3 ∧ f.tmod 3 < 3 := by rw [Int.tmod_eq_emod_of_nonneg h2.1]; omega
      have b2 : 0 ≤ more.tmod 3 ∧ more.tmod 3 < 3 := by rw [Int.tmod_eq_emod_of_nonneg h1.1]; omega
      have c1 : F' = m.evidence.f + f.tmod 3 := by rw [hF']; exact inK_wrap (k := .i64) (by simp only [inK]; omega)
      have c2 : M' = most + more.tmod 3 := by rw [hM']; exact inK_wrap (k := .i64) (by simp only [inK]; omega)
      exact more_plain (m := m) (f := F') (most := most) (most' := M') (by omega) (by omega) e1 e2
    have hfa : (lA 1 sC2 (setsM m most).1).free := lA_free (fun y => show AV.freeL (sC2 y) from ⟨lA_free (fun z => Party.free z) _, trivial⟩) _
    have hfb : (lA 1 sC2 (setsM (withF m F') M').1).free := lA_free (fun y => show AV.freeL (sC2 y) from ⟨lA_free (fun z => Party.free z) _, trivial⟩) _
    have hav : (withF m F').av = [lA 7 KeyWin.av m.evidence.keys, lA 4 Auth.av m.evidence.auths, .raw (.int .i64 F'), lA 2 Chain.av m.evidence.chains, lA 4 Diary.av m.diaries, lA 3 Wire.av m.wires] := rfl
    rw [hav] at hS'
    clear hav hB hB' ho hfw
    generalize setsM m most = A at *
    generalize setsM (withF m F') M' = B at *
    obtain ⟨a, e⟩ := A
    obtain ⟨b, g⟩ := B
    simp only at hS hS' hsh hsh' hpl hfa hfb
    refine fnA_of tblOk Tryz.func9 rfl (by kernel_rfl) 85 Tryz.ntmps9 lenT [.tmp 8] rfl ?_
    simp only [entrySt, argSl, Nat.zero_add, Nat.reduceAdd]
    try refine wkG (And.intro hh hfew) ?_
    try (refine Stop.mk ?_; intro K hK)
    refine wpA_cond' ⟨_, evl, fun hb => absurd hb (by simp), fun _ => ?_⟩
    try (first | refine wkM hK hh ?_ | refine wkG hh ?_)
    try clear hK K
    try (refine Stop.mk ?_; intro K hK)
    refine runS_addW rfl rfl rfl rfl ⟨evl, evl, ?_⟩
    rw [← hF']
    repeat (refine stG ?_)
    refine runS_nil (hK _ ?_); clear hK K
    try (first | refine wkM hK trivial ?_ | refine wkG trivial ?_)
    try clear hK K
    try (refine Stop.mk ?_; intro K hK)
    refine runS_addW rfl rfl rfl rfl ⟨evl, evl, ?_⟩
    rw [← hM']
    repeat (refine stG ?_)
    refine runS_nil (hK _ ?_); clear hK K
    clear hF' hM'
    try refine wkG (And.intro hS hS') ?_
    try (refine Stop.mk ?_; intro K hK)
    refine wpA_cond' ⟨_, evl, fun _ => ?_, fun hb => ?_⟩
    · try refine wkG trivial ?_
      try (refine Stop.mk ?_; intro K hK)
      all_goals (try (refine ret_of (by simp) ⟨_, _, _, evl, ob0, OutOk.sims ?_ fre⟩))
      all_goals first | exact Sims.refl _ | exact finT | exact simsF | (refine Sims.tup ?_; simp only [SimsL, and_true]; (repeat' apply And.intro) <;> first | exact simsF | skip) | (exfalso; first | omega | (simp_all; done) | (simp_all; omega)) | skip
    simp only [Bool.or_eq_false_iff, Bool.not_eq_false', decide_eq_true_eq] at hb
    have hsub := hpl hb.1 hb.2
    clear hpl hS hS' hb
    try refine wkG trivial ?_
    try (refine Stop.mk ?_; intro K hK)
    refine wpA_loop (fun i : Nat => ⟨85, 0, [(9, true, .raw (.bool true)), (12, true, lA 1 sC2 a), (14, true, lA 1 sC2 b), (16, true, .raw (.int .i64 i))], [], [], ((0, []), [], true)⟩)
      (fun i => i ≤ a.length) (fun i => a.length - i) 0 ?_ (by omega) ?_
    · refine wkn ?_ ?_ ?_
      all_goals first | exact wk0 | refine wkS ?_ | skip
      all_goals (try trivial)
      all_goals ((repeat' apply And.intro) <;> first | exact wkL | skip)
    intro i hi
    rcases Nat.lt_or_ge i a.length with hlt | hge
    · have hmem := hsub _ (memD hlt)
      have hfs : (lA 2 Party.av (a.getD i default)).free := lA_free (fun z => Party.free z) _
      have hai := hsh.2 _ (memD hlt)
      try refine wkG trivial ?_
      try (refine Stop.mk ?_; intro K hK)
      refine wpA_cond' ⟨_, evl, fun _ => ?_, fun hb => absurd (of_decide_eq_false hb) (by omega)⟩
      try refine wkG trivial ?_
      try (refine Stop.mk ?_; intro K hK)
      refine wpA_loop (fun k : Nat => ⟨85, 0, [(9, true, .raw (.bool true)), (12, true, lA 1 sC2 a), (14, true, lA 1 sC2 b), (16, true, .raw (.int .i64 i)), (17, true, .raw (.bool ((b.take k).any fun t => decide (a.getD i default = t)))), (18, true, .raw (.int .i64 k))], [], [], ((0, []), [], true)⟩)
        (fun k => k ≤ b.length) (fun k => b.length - k) 0 ?_ (by omega) ?_
      · simp only [List.take_zero, List.any_nil]
        refine wkn ?_ ?_ ?_
        all_goals first | exact wk0 | refine wkS ?_ | skip
        all_goals (try trivial)
        all_goals ((repeat' apply And.intro) <;> first | exact wkL | skip)
      intro k hk
      rcases Nat.lt_or_ge k b.length with hkl | hkg
      · have hst : ((b.take (k + 1)).any fun t => decide (a.getD i default = t)) = (((b.take k).any fun t => decide (a.getD i default = t)) || decide (a.getD i default = b.getD k default)) := by
          rw [List.take_succ_eq_append_getElem hkl, List.any_append, getD_get hkl]
          simp
        have hsp := sameP_A (a.getD i default) (b.getD k default) (by omega)
        have hfk : (lA 2 Party.av (b.getD k default)).free := lA_free (fun z => Party.free z) _
        generalize ((b.take k).any fun t => decide (a.getD i default = t)) = z at *
        generalize decide (a.getD i default = b.getD k default) = y at *
        try refine wkG trivial ?_
        try (refine Stop.mk ?_; intro K hK)
        refine wpA_cond' ⟨_, evl, fun _ => ?_, fun hb => absurd (of_decide_eq_false hb) (by omega)⟩
        try refine wkG hsp ?_
        try (refine Stop.mk ?_; intro K hK)
        refine ⟨k + 1, by omega, by omega, ?_⟩
        rw [hst]
        refine wkn ?_ ?_ ?_
        all_goals first | exact wk0 | refine wkS ?_ | skip
        all_goals (try trivial)
        all_goals ((repeat' apply And.intro) <;> first | exact wkL | skip)
      · obtain rfl : k = b.length := by omega
        have hv : ((b.take b.length).any fun t => decide (a.getD i default = t)) = true := by
          rw [List.take_length]
          exact List.any_eq_true.2 ⟨_, hmem, decide_eq_true rfl⟩
        rw [hv]
        try refine wkG trivial ?_
        try (refine Stop.mk ?_; intro K hK)
        refine wpA_cond' ⟨_, evl, fun hb => absurd (of_decide_eq_true hb) (by omega), fun _ => ?_⟩
        try refine wkG trivial ?_
        try (refine Stop.mk ?_; intro K hK)
        refine wpA_cond' ⟨_, evl, fun hb => absurd hb (by simp), fun _ => ?_⟩
        try refine wkG trivial ?_
        try (refine Stop.mk ?_; intro K hK)
        refine ⟨i + 1, by omega, by omega, ?_⟩
        refine wkn ?_ ?_ ?_
        all_goals first | exact wk0 | refine wkS ?_ | skip
        all_goals (try trivial)
        all_goals ((repeat' apply And.intro) <;> first | exact wkL | skip)
    · obtain rfl : i = a.length := by omega
      try refine wkG trivial ?_
      try (refine Stop.mk ?_; intro K hK)
      refine wpA_cond' ⟨_, evl, fun hb => absurd (of_decide_eq_true hb) (by omega), fun _ => ?_⟩
      try refine wkG trivial ?_
      try (refine Stop.mk ?_; intro K hK)
      all_goals (try (refine ret_of (by simp) ⟨_, _, _, evl, ob0, OutOk.sims ?_ fre⟩))
      all_goals first | exact Sims.refl _ | exact finT | exact simsF | (refine Sims.tup ?_; simp only [SimsL, and_true]; (repeat' apply And.intro) <;> first | exact simsF | skip) | (exfalso; first | omega | (simp_all; done) | (simp_all; omega)) | skip
  · have hc : fb = false := by simpa using hc
    subst hc
    refine fnA_of tblOk Tryz.func9 rfl (by kernel_rfl) 85 Tryz.ntmps9 lenT [.tmp 8] rfl ?_
    simp only [entrySt, argSl, Nat.zero_add, Nat.reduceAdd]
    try refine wkG (And.intro hh hfew) ?_
    try (refine Stop.mk ?_; intro K hK)
    refine wpA_cond' ⟨_, evl, fun _ => ?_, fun hb => absurd hb (by simp)⟩
    try refine wkG trivial ?_
    try (refine Stop.mk ?_; intro K hK)
    all_goals (try (refine ret_of (by simp) ⟨_, _, _, evl, ob0, OutOk.sims ?_ fre⟩))
    all_goals first | exact Sims.refl _ | exact finT | exact simsF | (refine Sims.tup ?_; simp only [SimsL, and_true]; (repeat' apply And.intro) <;> first | exact simsF | skip) | (exfalso; first | omega | (simp_all; done) | (simp_all; omega)) | skip
theorem verdictMore_B {x0 x1 x2 x3 : List AV} (k0 : CellsOk tbl 30 30 x0) (k1 : CellsOk tbl 30 3 x1) (k2 : CellsOk tbl 30 5 x2) (k3 : CellsOk tbl 30 5 x3) :
    FnA Tryz.prog 9 [valA true x0, valA false x1, valA false x2, valA false x3] (.raw (.bool true)) := by
  obtain ⟨m, s0, g0⟩ := open_Matter k0
  obtain ⟨n, rfl, _⟩ := open_int k1
  obtain ⟨p, rfl, hp⟩ := open_u8 k2
  obtain ⟨q, rfl, hq⟩ := open_u8 k3
  simp only [inK] at hp hq
  exact FnA.sim (more_A m g0 n p q (by omega) (by omega)) ⟨s0, Sim.of_eq rfl, Sim.of_eq rfl, Sim.of_eq rfl, trivial⟩
end Go.Proofs.YtchpbdecipcelaaGreatDoor
