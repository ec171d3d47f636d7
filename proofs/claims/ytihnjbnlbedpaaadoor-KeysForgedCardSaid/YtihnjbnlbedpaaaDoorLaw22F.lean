/- The statement KeysForged, walked. -/
import Derived.Test.YtihnjbnlbedpaaaDoorOp22
namespace Go.Proofs.YtihnjbnlbedpaaaDoor
set_option linter.unusedVariables false
set_option linter.unusedSimpArgs false
set_option maxHeartbeats 4000000
set_option maxRecDepth 100000
open Go.RowKit
theorem set_getK {l : List KeyWin} {i : Nat} {x : KeyWin} (hi : i < l.length) (j : Nat) : (l.set i x).getD j default = if j = i then x else l.getD j default := by
  simp only [List.getD_eq_getElem?_getD, List.getElem?_set]
  by_cases h : i = j
  · subst h; simp [hi]
  · rw [if_neg h, if_neg (fun e => h e.symm)]
def fineP (l : List KeyWin) (i : Nat) (k : KeyWin) : Prop :=
  (formedP k ∧ if k.id = 1 then k.sig.c = 0 ∧ k.sig.s = 0 else followsP (l.getD (i - 1) default) k ∧ signedM (l.getD (i - 1) default) k = true) ∧
  (i + 1 < l.length ∧ (l.getD (i + 1) default).auth = k.auth → followsP k (l.getD (i + 1) default) ∧ signedM k (l.getD (i + 1) default) = true)
theorem valid_set {l : List KeyWin} (h : ValidP l) {i : Nat} (hi : i < l.length) {k : KeyWin} (ha : k.auth = (l.getD i default).auth) (hid : k.id = (l.getD i default).id) : ValidP (l.set i k) ↔ fineP l i k := by
  have hget := set_getK (x := k) hi
  have right0 := h.2.2
  constructor
  · intro hv
    have r := hv.2.2 i (by rw [List.length_set]; exact hi)
    have r0 := right0 i hi
    have hk := hv.2.1 k (by
      have := hget i
      rw [if_pos rfl, getD_get (by rw [List.length_set]; exact hi)] at this
      have h2 := List.getElem_mem (show i < (l.set i k).length by rw [List.length_set]; exact hi)
      rw [this] at h2
      exact h2)
    simp only [rightP, hget, if_true] at r r0
    refine ⟨⟨hk, ?_⟩, ?_⟩
    · by_cases hc : i = 0 ∨ (l.getD (i - 1) default).auth < (l.getD i default).auth
      · rw [if_pos (by
          rcases hc with hc | hc
          · exact .inl hc
          · by_cases e : i - 1 = i
            · exact .inl (by omega)
            · rw [if_neg e, ha]; exact .inr hc)] at r
        rw [if_pos r.1]; exact r.2
      · rw [if_neg (by omega : ¬ i - 1 = i), if_neg (by rw [ha]; exact hc)] at r
        rw [if_neg hc] at r0
        have hp := (h.2.1 (l.getD (i - 1) default) (by rw [getD_get (by omega)]; exact List.getElem_mem _)).2.2.1
        rw [if_neg (by have := r.1.2.1; omega)]
        exact r
    · rintro ⟨h1, h2⟩
      have r1 := hv.2.2 (i + 1) (by rw [List.length_set]; exact h1)
      simp only [rightP, hget, Nat.add_sub_cancel, if_true] at r1
      rw [if_neg (by omega : ¬ i + 1 = i), if_neg (by omega)] at r1
      exact r1
  · rintro ⟨⟨hk, h1⟩, h2⟩
    refine ⟨by rw [List.length_set]; exact h.1, fun x hx => ?_, fun j hj => ?_⟩
    · rcases List.mem_or_eq_of_mem_set hx with hx | rfl
      · exact h.2.1 x hx
      · exact hk
    · rw [List.length_set] at hj
      have r0 := right0 j hj
      by_cases e1 : j = i
      · subst e1
        simp only [rightP, hget, if_true] at r0 ⊢
        by_cases hc : j = 0 ∨ (l.getD (j - 1) default).auth < (l.getD j default).auth
        · rw [if_pos hc] at r0
          rw [if_pos (by omega)] at h1
          rw [if_pos (by
            rcases hc with hc | hc
            · exact .inl hc
            · by_cases e : j - 1 = j
              · exact .inl (by omega)
              · rw [if_neg e, ha]; exact .inr hc)]
          exact ⟨by omega, h1⟩
        · rw [if_neg hc] at r0
          have hp := (h.2.1 (l.getD (j - 1) default) (by rw [getD_get (by omega)]; exact List.getElem_mem _)).2.2.1
          rw [if_neg (by have := r0.1.2.1; omega)] at h1
          rw [if_neg (by omega : ¬ j - 1 = j), if_neg (by rw [ha]; exact hc)]
          exact h1
      · by_cases e2 : j = i + 1
        · subst e2
          simp only [rightP, hget, Nat.add_sub_cancel, if_true] at r0 ⊢
          rw [if_neg e1]
          have hs := valid_step h (i := i + 1) (by omega) hj
          rw [Nat.add_sub_cancel] at hs
          by_cases e3 : (l.getD (i + 1) default).auth = k.auth
          · rw [if_neg (by omega)]
            exact h2 ⟨hj, e3⟩
          · rw [if_pos (by omega)] at r0 ⊢
            exact r0
        · simp only [rightP, hget] at r0 ⊢
          rw [if_neg e1, if_neg (by omega : ¬ j - 1 = i)]
          exact r0
theorem put_set {l : List KeyWin} {i : Nat} {x : KeyWin} {Z : List AV} (hi : i < l.length) : putL ((List.range l.length).flatMap (els KeyWin.av l) ++ Z) (i * 7) (KeyWin.av x) = kcs (l.set i x) ++ Z := by
  have e1 : l = l.take i ++ ([l[i]] ++ l.drop (i + 1)) := by simp
  have e2 : l.set i x = l.take i ++ ([x] ++ l.drop (i + 1)) := by rw [List.set_eq_take_append_cons_drop, if_pos hi]; rfl
  rw [flat_els, e2, show List.flatMap KeyWin.av l = kcs l from rfl]
  conv => lhs; rw [e1]
  rw [kcs_app, kcs_app, kcs_app, kcs_app, List.append_assoc, List.append_assoc, put_mid (by rw [kcs_len, List.length_take]; omega) (by rw [kcs_len]; rfl), kcs_one, List.append_assoc, List.append_assoc]
theorem keysForged_A (l : List KeyWin) (hf : ∀ k ∈ l, k.fits) (which : Int) (hw : inK .u8 which) (k : KeyWin) (hk : k.fits) :
    FnA Tryd.prog 6 [lA 7 KeyWin.av l, .raw (.int .u8 which), .agg k.av] (.raw (.bool true)) := by
  simp only [inK] at hw
  have hv := validR_A l hf
  have hfew := fewR_A l
  have hh := head_A
  by_cases hc : ValidP l ∧ 0 < l.length
  · obtain ⟨hV, h0⟩ := hc
    have hl : l.length ≤ 4611686018427387904 := by have := hV.1; omega
    have et : which.tmod l.length = which % l.length := Int.tmod_eq_emod_of_nonneg hw.1
    have ht : (which.tmod l.length).toNat < l.length ∧ 0 ≤ which.tmod l.length ∧ which.tmod l.length < l.length := by
      rw [et]
      have h1 := Int.emod_nonneg which (show (l.length : Int) ≠ 0 by omega)
      have h2 := Int.emod_lt_of_pos which (show (0 : Int) < l.length by omega)
      omega
    clear et
    refine fnA_of tblOk Tryd.func6 rfl (by kernel_rfl) 127 Tryd.ntmps6 (by simp only [List.length_cons, List.length_nil]; omega) [.tmp 6] rfl ?_
    simp only [entrySt, argSl, Nat.zero_add, Nat.reduceAdd]
    repeat'
      first
        | first
          | (refine runS_nil (hK _ ?_); clear hK K)
          | refine stB ?_
          | (refine gateS 2 rfl ?_; refine runS_appBsl tblOk rfl rfl rfl ⟨_, _, _, _, _, _, _, evl, obq, _, _, _, _, _, evl, _, evl, obq, obq, obs, _, evl, fun c hc1 hc2 => ⟨_, evl, ?_⟩⟩)
          | (refine gateS 1 rfl ?_; first | (refine runS_call rfl rfl ⟨_, evl, _, _, _, evl, oblF, ?_⟩; apply Exists.intro; refine ⟨fun hg => ?_, ?_⟩; · first | exact FnA.at_ (hh) rfl rfl | exact FnA.at_ (hfew) rfl rfl | exact FnA.at_ (hv) rfl rfl | exact FnA.at_s (hh) rfl simT | exact FnA.at_s (hh) rfl simF | exact FnA.at_s (hfew) rfl simT | exact FnA.at_s (hfew) rfl simF | exact FnA.at_s (hv) rfl simT | exact FnA.at_s (hv) rfl simF) | (refine runS_callR rfl rfl ⟨_, evl, _, _, _, evl, _, _, evl, oblF, ?_⟩; apply Exists.intro; refine ⟨fun hg => ?_, ?_⟩; · first | exact FnA.at_ (hh) rfl rfl | exact FnA.at_ (hfew) rfl rfl | exact FnA.at_ (hv) rfl rfl | exact FnA.at_s (hh) rfl simT | exact FnA.at_s (hh) rfl simF | exact FnA.at_s (hfew) rfl simT | exact FnA.at_s (hfew) rfl simF | exact FnA.at_s (hv) rfl simT | exact FnA.at_s (hv) rfl simF))
          | (refine gateA 1 rfl ?_; refine runA_call rfl ⟨_, evl, _, _, _, (fun _ _ => evlA), oblF, ?_⟩; apply Exists.intro; refine ⟨fun hg => ?_, ?_⟩; · first | exact FnA.at_ (hh) rfl rfl | exact FnA.at_ (hfew) rfl rfl | exact FnA.at_ (hv) rfl rfl | exact FnA.at_s (hh) rfl simT | exact FnA.at_s (hh) rfl simF | exact FnA.at_s (hfew) rfl simT | exact FnA.at_s (hfew) rfl simF | exact FnA.at_s (hv) rfl simT | exact FnA.at_s (hv) rfl simF)
          | (refine gateA 1 rfl ?_; refine runA_put ?_)
          | (refine gateBc ?_; first | (refine runB_nil (hK _ ?_); clear hK K) | (refine runB_op rfl ⟨_, evl, fun nb' => ?_⟩))
          | refine wpA_region (fun K hK => ?_)
          | (refine gateD ?_; first | (refine wpA_drawG false rfl (by kernel_rfl) (by kernel_rfl) (fun K hK => ?_)) | (refine wpA_drawG true rfl (by kernel_rfl) (by kernel_rfl) (fun K hK => ?_)))
          | (refine wpA_cond' ⟨_, evl, fun hb => ?_, fun hb => ?_⟩ <;> (try simp only [Bool.or_eq_true, Bool.and_eq_true, Bool.or_eq_false_iff, Bool.and_eq_false_iff, Bool.not_eq_true', Bool.not_eq_false', Bool.not_eq_true, Bool.not_eq_false, decide_eq_true_eq, decide_eq_false_iff_not, Bool.true_eq_false, Bool.false_eq_true, ne_eq, Classical.not_not, Int.not_lt, Int.not_le, Bool.not_true, Bool.not_false] at hb))
        | fail
    · refine ret_of (by simp) ⟨_, _, _, evl, ob0, OutOk.eq ?_ ?_⟩
      · rfl
      · simp [AV.free]
    generalize which.tmod l.length = T at *
    have hmem : ∀ i, i < l.length → l.getD i default ∈ l := fun i hi => by rw [getD_get hi]; exact List.getElem_mem _
    have hF := hV.2.1 _ (hmem _ ht.1)
    obtain ⟨k', hk'⟩ : ∃ k' : KeyWin, k' = ⟨(l.getD T.toNat default).auth, (l.getD T.toNat default).id, k.pub, k.from_, k.until_, k.sig⟩ := ⟨_, rfl⟩
    have hMv := valid_set hV ht.1 (k := k') (by rw [hk']) (by rw [hk'])
    have hkf : k'.fits := by rw [hk']; exact ⟨(hf _ (hmem _ ht.1)).1, (hf _ (hmem _ ht.1)).2.1, hk.2.2.1, hk.2.2.2.1, hk.2.2.2.2.1, hk.2.2.2.2.2⟩
    have e48 : AV.agg [.raw (.int .i64 (l.getD T.toNat default).auth), .raw (.int .i64 (l.getD T.toNat default).id), .raw (.int .i64 k.pub), .raw (.int .i64 k.from_), .raw (.int .i64 k.until_), .raw (.int .i64 k.sig.c), .raw (.int .i64 k.sig.s)] = .agg k'.av := by rw [hk']; rfl
    refine sStore tblOk rfl rfl rfl ⟨2, _, evl, _, rfl, _, evl, _, evl, ?_, [KeyWin.av k', [], kcs (l.set T.toNat k') ++ zerosA (c - l.length) (List.replicate 7 (Value.int .i64 0))], ?_, ?_⟩
    · refine ⟨⟨rfl, rfl, rfl, rfl, rfl, rfl, rfl, trivial⟩, rfl, ?_⟩
      rw [flat_els, List.length_append, flat_len av7]
      show _ * 7 + 7 ≤ _
      omega
    · rw [← put_set ht.1, hk']; rfl
    repeat'
      first
        | first
          | (refine runS_nil (hK _ ?_); clear hK K)
          | refine stB ?_
          | (refine gateS 2 rfl ?_; refine runS_appBsl tblOk rfl rfl rfl ⟨_, _, _, _, _, _, _, evl, obq, _, _, _, _, _, evl, _, evl, obq, obq, obs, _, evl, fun c hc1 hc2 => ⟨_, evl, ?_⟩⟩)
          | (refine gateA 1 rfl ?_; refine runA_put ?_)
          | (refine gateBc ?_; first | (refine runB_nil (hK _ ?_); clear hK K) | (refine runB_op rfl ⟨_, evl, fun nb' => ?_⟩))
          | refine wpA_region (fun K hK => ?_)
          | (refine gateD ?_; first | (refine wpA_drawG false rfl (by kernel_rfl) (by kernel_rfl) (fun K hK => ?_)) | (refine wpA_drawG true rfl (by kernel_rfl) (by kernel_rfl) (fun K hK => ?_)))
          | (refine wpA_cond' ⟨_, evl, fun hb => ?_, fun hb => ?_⟩ <;> (try simp only [Bool.or_eq_true, Bool.and_eq_true, Bool.or_eq_false_iff, Bool.and_eq_false_iff, Bool.not_eq_true', Bool.not_eq_false', Bool.not_eq_true, Bool.not_eq_false, decide_eq_true_eq, decide_eq_false_iff_not, Bool.true_eq_false, Bool.false_eq_true, ne_eq, Classical.not_not, Int.not_lt, Int.not_le, Bool.not_true, Bool.not_false] at hb))
        | fail
    obtain ⟨Z, hZ⟩ : ∃ Z, Z = zerosA (c - l.length) (List.replicate 7 (Value.int .i64 0)) := ⟨_, rfl⟩
    have hZr : rawL Z := by rw [hZ]; exact rawL_zeros _ _
    rw [← hZ]
    obtain ⟨M, hM⟩ : ∃ M, M = l.set T.toNat k' := ⟨_, rfl⟩
    have hMl : M.length = l.length := by rw [hM, List.length_set]
    rw [← hM] at hMv ⊢
    have hMf : ∀ x ∈ M, x.fits := fun x hx => by
      rw [hM] at hx
      rcases List.mem_or_eq_of_mem_set hx with hx | rfl
      · exact hf x hx
      · exact hkf
    have hsub : AV.subL 3 0 (kcs M ++ Z) := subL_raw (rawL_app (kcs_raw M) hZr)
    have hka : 1 ≤ k'.id ∧ k'.id ≤ 1000 := by rw [hk']; exact ⟨hF.2.2.1, hF.2.2.2.1⟩
    have hida : k'.id ≠ 1 → 1 ≤ T := fun h => by
      rcases Int.lt_or_le T 1 with h1 | h1
      · exfalso
        have r := hV.2.2 T.toNat ht.1
        rw [rightP, if_pos (.inl (by omega))] at r
        rw [hk'] at h
        exact h r.1
      · exact h1
    clear hM hZ e48 hk' hF
    refine runS_weak (st' := ⟨127, 0, [(0, true, lA 7 KeyWin.av l), (5, true, .box 0 0), (7, true, .raw (.bool true)), (8, true, .raw (.int .i64 T)), (9, true, .bsl 7 2 0 l.length c), (50, true, .agg k'.av)], [KeyWin.av k', [], kcs M ++ Z], [], ((0, []), [], true)⟩) ?_ ?_
    · refine Weak.gen ?_ ?_ ?_ (by simp) ?_
      rotate_left 3
      · first | (simp [subSl, subB, subR, AV.sub, AV.subL, go_sem]; done) | (simp [subSl, subB, subR, AV.sub, AV.subL, go_sem, AV.subL_free, AV.sub_free, *]; done) | (simp_all [subSl, subB, subR, AV.sub, AV.subL, go_sem]; done)
      all_goals (try simp only [SlSim, BxSim, RwSim, SimsL, lookN_cons, ↓reduceIte, Nat.reduceEqDiff, Option.some.injEq, Prod.mk.injEq, true_and, and_true, exists_eq_left', and_self])
      all_goals (try trivial)
      all_goals ((repeat' apply And.intro) <;> first | exact simsT | (intro _ _; exact simsT) | omega | (simp; done) | (simp; omega) | (intro _ _; refine SimsL.of_eq (els_snoc ?_ (by assumption) rfl) <;> first | rfl | omega | (simp; done) | (simp; omega)) | skip)
    refine runS_freeze 1 ?_ ⟨_, evl, _, evl, ?_⟩
    · refine ⟨by decide, by simp [belB, AV.bel, AV.belL, go_sem], (fun r hr => by cases hr), ?_⟩
      refine ⟨fun i hi => belL_free _ (KeyWin.free _), .inl (by decide), trivial, trivial, .inr ⟨by simp, belL_raw _ (rawL_app (kcs_raw M) hZr), ?_⟩, ?_, trivial⟩
      · show 0 + l.length * 7 ≤ (kcs M ++ Z).length
        rw [List.length_append, kcs_len]; omega
      · simp [AV.okF, AV.okFL, go_sem]
    have v2 := FnA.sim (valid_A M (by omega) hMf) (args := [.lst 7 l.length (chunkA 7 (kcs M ++ Z))]) ⟨Sim.lstE hMl.symm fun j hj => chunk_flat av7 (by omega), trivial⟩
    have v3 := valid_A l hl hf
    rw [decide_eq_true hV] at v3
    have f1 := formR_A k'
    have e1 : (T - 1).toNat = T.toNat - 1 := by omega
    have e2 : (T + 1).toNat = T.toNat + 1 := by omega
    have g1 : k'.id ≠ 1 → _ ∧ _ := fun h => ⟨followsR_A (l.getD (T - 1).toNat default) k' (by
      have := hV.2.1 _ (hmem (T - 1).toNat (by omega))
      exact ⟨this.2.2.2.1, this.2.2.1⟩), signedR_A (l.getD (T - 1).toNat default) k' (hf _ (hmem _ (by omega))) hkf⟩
    have g2 : T + 1 < l.length → _ ∧ _ := fun h => ⟨followsR_A k' (l.getD (T + 1).toNat default) ⟨hka.2, hka.1⟩, signedR_A k' (l.getD (T + 1).toNat default) hkf (hf _ (hmem _ (by omega)))⟩
    have hfel : ∀ i, AV.freeL (chunkA 7 (kcs M ++ Z) i) := fun i => freeL_chunk (rawL_free (rawL_app (kcs_raw M) hZr))
    clear hf hfew hv hh hmem hkf hZr hsub hMf
    rw [fineP, ← e1, ← e2] at hMv
    generalize chunkA 7 (kcs M ++ Z) = el at *
    have hin : 0 ≤ T ∧ T < l.length := ht.2
    rw [show ((T + 1).toNat < l.length ∧ (l.getD (T + 1).toNat default).auth = k'.auth) = (T + 1 < (l.length : Int) ∧ (l.getD (T + 1).toNat default).auth = k'.auth) from by rw [show ((T + 1).toNat < l.length) = (T + 1 < (l.length : Int)) from propext (by omega)]] at hMv
    clear ht h0 hb hc1 hc2 hV e1 e2
    by_cases hid : k'.id = 1
    · rw [if_pos hid] at hMv
      by_cases hnx : T + 1 < l.length ∧ (l.getD (T + 1).toNat default).auth = k'.auth
      · as_aux_lemma =>
          obtain ⟨fo, si⟩ := g2 hnx.1
          have hB : decide (ValidP M) = (((decide (formedP k') && (decide (k'.sig.c = 0) && decide (k'.sig.s = 0))) && decide (followsP k' (l.getD (T + 1).toNat default))) && signedM k' (l.getD (T + 1).toNat default)) := by
            rw [Bool.eq_iff_iff, decide_eq_true_iff, hMv]
            simp only [Bool.and_eq_true, decide_eq_true_eq, and_assoc]
            constructor
            · rintro ⟨a, b, c, d⟩; exact ⟨a, b, c, d hnx⟩
            · rintro ⟨a, b, c, d⟩; exact ⟨a, b, c, fun _ => d⟩
          rw [hB] at v2
          clear hMv hB g1 g2
          generalize decide (formedP k') = bf at *
          try generalize decide (followsP k' (l.getD (T + 1).toNat default)) = bo at *
          try generalize signedM k' (l.getD (T + 1).toNat default) = bs at *
          try generalize decide (followsP (l.getD (T - 1).toNat default) k') = bp at *
          try generalize signedM (l.getD (T - 1).toNat default) k' = bq at *
          repeat
            first
              | (refine runS_nil (hK _ ?_); clear hK K)
              | refine stR ?_
              | (refine gateS 1 rfl ?_; first | (refine runS_call rfl rfl ⟨_, evl, _, _, _, evl, oblF, ?_⟩; apply Exists.intro; refine ⟨fun hg => ?_, ?_⟩; · first | exact FnA.at_ (f1) rfl rfl | exact FnA.at_s (f1) rfl simT | exact FnA.at_s (f1) rfl simF) | (refine runS_callR rfl rfl ⟨_, evl, _, _, _, evl, _, _, evl, oblF, ?_⟩; apply Exists.intro; refine ⟨fun hg => ?_, ?_⟩; · first | exact FnA.at_ (f1) rfl rfl | exact FnA.at_s (f1) rfl simT | exact FnA.at_s (f1) rfl simF))
              | (refine gateA 1 rfl ?_; refine runA_call rfl ⟨_, evl, _, _, _, (fun _ _ => evlA), oblF, ?_⟩; apply Exists.intro; refine ⟨fun hg => ?_, ?_⟩; · first | exact FnA.at_ (f1) rfl rfl | exact FnA.at_s (f1) rfl simT | exact FnA.at_s (f1) rfl simF)
              | (refine gateA 1 rfl ?_; refine runA_put ?_)
              | (refine gateBc ?_; first | (refine runB_nil (hK _ ?_); clear hK K) | (refine runB_op rfl ⟨_, evl, fun nb' => ?_⟩))
              | refine wpA_region (fun K hK => ?_)
              | (refine gateD ?_; first | (refine wpA_drawG false rfl (by kernel_rfl) (by kernel_rfl) (fun K hK => ?_)) | (refine wpA_drawG true rfl (by kernel_rfl) (by kernel_rfl) (fun K hK => ?_)))
          refine wpA_cond' ⟨_, evl, fun _ => ?_, fun hb => absurd hid (by simpa using hb)⟩
          repeat
            first
              | (refine runS_nil (hK _ ?_); clear hK K)
              | refine stR ?_
              | (refine gateA 1 rfl ?_; refine runA_put ?_)
              | (refine gateBc ?_; first | (refine runB_nil (hK _ ?_); clear hK K) | (refine runB_op rfl ⟨_, evl, fun nb' => ?_⟩))
              | refine wpA_region (fun K hK => ?_)
              | (refine gateD ?_; first | (refine wpA_drawG false rfl (by kernel_rfl) (by kernel_rfl) (fun K hK => ?_)) | (refine wpA_drawG true rfl (by kernel_rfl) (by kernel_rfl) (fun K hK => ?_)))
          refine wpA_cond' ⟨_, evl, fun _ => ?_, fun hb => absurd hnx (by simpa using hb)⟩
          repeat
            first
              | (refine runS_nil (hK _ ?_); clear hK K)
              | refine stR ?_
              | (refine gateS 1 rfl ?_; first | (refine runS_call rfl rfl ⟨_, evl, _, _, _, evl, oblF, ?_⟩; apply Exists.intro; refine ⟨fun hg => ?_, ?_⟩; · first | exact FnA.at_ (fo) rfl rfl | exact FnA.at_ (si) rfl rfl | exact FnA.at_s (fo) rfl simT | exact FnA.at_s (fo) rfl simF | exact FnA.at_s (si) rfl simT | exact FnA.at_s (si) rfl simF) | (refine runS_callR rfl rfl ⟨_, evl, _, _, _, evl, _, _, evl, oblF, ?_⟩; apply Exists.intro; refine ⟨fun hg => ?_, ?_⟩; · first | exact FnA.at_ (fo) rfl rfl | exact FnA.at_ (si) rfl rfl | exact FnA.at_s (fo) rfl simT | exact FnA.at_s (fo) rfl simF | exact FnA.at_s (si) rfl simT | exact FnA.at_s (si) rfl simF))
              | (refine gateA 1 rfl ?_; refine runA_call rfl ⟨_, evl, _, _, _, (fun _ _ => evlA), oblF, ?_⟩; apply Exists.intro; refine ⟨fun hg => ?_, ?_⟩; · first | exact FnA.at_ (fo) rfl rfl | exact FnA.at_ (si) rfl rfl | exact FnA.at_s (fo) rfl simT | exact FnA.at_s (fo) rfl simF | exact FnA.at_s (si) rfl simT | exact FnA.at_s (si) rfl simF)
              | (refine gateA 1 rfl ?_; refine runA_put ?_)
              | (refine gateBc ?_; first | (refine runB_nil (hK _ ?_); clear hK K) | (refine runB_op rfl ⟨_, evl, fun nb' => ?_⟩))
              | refine wpA_region (fun K hK => ?_)
              | (refine gateD ?_; first | (refine wpA_drawG false rfl (by kernel_rfl) (by kernel_rfl) (fun K hK => ?_)) | (refine wpA_drawG true rfl (by kernel_rfl) (by kernel_rfl) (fun K hK => ?_)))
          generalize (((bf && (decide (k'.sig.c = 0) && decide (k'.sig.s = 0))) && bo) && bs) = BB at v2 ⊢
          refine runS_weak (st' := ⟨127, 0, [(118, true, .lst 7 l.length el), (117, true, .raw (.bool true)), (0, true, lA 7 KeyWin.av l), (7, true, .raw (.bool true)), (9, true, .lst 7 l.length el), (10, true, .raw (.bool BB))], [KeyWin.av k'], [], ((0, []), [], true)⟩) ?_ ?_
          · refine Weak.gen ?_ ?_ ?_ (by simp) ?_
            rotate_left 3
            · first | (simp [subSl, subB, subR, AV.sub, AV.subL, go_sem]; done) | (simp [subSl, subB, subR, AV.sub, AV.subL, go_sem, AV.subL_free, AV.sub_free, *]; done) | (simp_all [subSl, subB, subR, AV.sub, AV.subL, go_sem]; done)
            all_goals (try simp only [SlSim, BxSim, RwSim, SimsL, lookN_cons, ↓reduceIte, Nat.reduceEqDiff, Option.some.injEq, Prod.mk.injEq, true_and, and_true, exists_eq_left', and_self])
            all_goals (try trivial)
            all_goals ((repeat' apply And.intro) <;> first | exact simsT | (intro _ _; exact simsT) | omega | (simp; done) | (simp; omega) | (intro _ _; refine SimsL.of_eq (els_snoc ?_ (by assumption) rfl) <;> first | rfl | omega | (simp; done) | (simp; omega)) | skip)
          refine gateS 1 rfl ?_; refine runS_call rfl rfl ⟨_, evl, _, _, _, evl, oblF, ?_⟩; apply Exists.intro; refine ⟨fun hg => ?_, ?_⟩
          · exact FnA.at_ v2 rfl rfl
          clear v2 f1 hfel
          repeat
            first
              | (refine runS_nil (hK _ ?_); clear hK K)
              | refine stR ?_
              | (refine gateS 1 rfl ?_; first | (refine runS_call rfl rfl ⟨_, evl, _, _, _, evl, oblF, ?_⟩; apply Exists.intro; refine ⟨fun hg => ?_, ?_⟩; · first | exact FnA.at_ (v3) rfl rfl | exact FnA.at_s (v3) rfl simT | exact FnA.at_s (v3) rfl simF) | (refine runS_callR rfl rfl ⟨_, evl, _, _, _, evl, _, _, evl, oblF, ?_⟩; apply Exists.intro; refine ⟨fun hg => ?_, ?_⟩; · first | exact FnA.at_ (v3) rfl rfl | exact FnA.at_s (v3) rfl simT | exact FnA.at_s (v3) rfl simF))
              | (refine gateA 1 rfl ?_; refine runA_call rfl ⟨_, evl, _, _, _, (fun _ _ => evlA), oblF, ?_⟩; apply Exists.intro; refine ⟨fun hg => ?_, ?_⟩; · first | exact FnA.at_ (v3) rfl rfl | exact FnA.at_s (v3) rfl simT | exact FnA.at_s (v3) rfl simF)
              | (refine gateA 1 rfl ?_; refine runA_put ?_)
              | (refine gateBc ?_; first | (refine runB_nil (hK _ ?_); clear hK K) | (refine runB_op rfl ⟨_, evl, fun nb' => ?_⟩))
              | refine wpA_region (fun K hK => ?_)
              | (refine gateD ?_; first | (refine wpA_drawG false rfl (by kernel_rfl) (by kernel_rfl) (fun K hK => ?_)) | (refine wpA_drawG true rfl (by kernel_rfl) (by kernel_rfl) (fun K hK => ?_)))
          refine ret_of (by simp) ⟨_, _, _, evl, ob0, OutOk.eq ?_ ?_⟩
          · simp
          · simp [AV.free]
      · as_aux_lemma =>
          have hB : decide (ValidP M) = (decide (formedP k') && (decide (k'.sig.c = 0) && decide (k'.sig.s = 0))) := by
            rw [Bool.eq_iff_iff, decide_eq_true_iff, hMv]
            simp only [Bool.and_eq_true, decide_eq_true_eq, and_assoc]
            constructor
            · rintro ⟨a, b, c, d⟩; exact ⟨a, b, c⟩
            · rintro ⟨a, b, c⟩; exact ⟨a, b, c, fun h => absurd h hnx⟩
          rw [hB] at v2
          clear hMv hB g1 g2
          generalize decide (formedP k') = bf at *
          try generalize decide (followsP k' (l.getD (T + 1).toNat default)) = bo at *
          try generalize signedM k' (l.getD (T + 1).toNat default) = bs at *
          try generalize decide (followsP (l.getD (T - 1).toNat default) k') = bp at *
          try generalize signedM (l.getD (T - 1).toNat default) k' = bq at *
          repeat
            first
              | (refine runS_nil (hK _ ?_); clear hK K)
              | refine stR ?_
              | (refine gateS 1 rfl ?_; first | (refine runS_call rfl rfl ⟨_, evl, _, _, _, evl, oblF, ?_⟩; apply Exists.intro; refine ⟨fun hg => ?_, ?_⟩; · first | exact FnA.at_ (f1) rfl rfl | exact FnA.at_s (f1) rfl simT | exact FnA.at_s (f1) rfl simF) | (refine runS_callR rfl rfl ⟨_, evl, _, _, _, evl, _, _, evl, oblF, ?_⟩; apply Exists.intro; refine ⟨fun hg => ?_, ?_⟩; · first | exact FnA.at_ (f1) rfl rfl | exact FnA.at_s (f1) rfl simT | exact FnA.at_s (f1) rfl simF))
              | (refine gateA 1 rfl ?_; refine runA_call rfl ⟨_, evl, _, _, _, (fun _ _ => evlA), oblF, ?_⟩; apply Exists.intro; refine ⟨fun hg => ?_, ?_⟩; · first | exact FnA.at_ (f1) rfl rfl | exact FnA.at_s (f1) rfl simT | exact FnA.at_s (f1) rfl simF)
              | (refine gateA 1 rfl ?_; refine runA_put ?_)
              | (refine gateBc ?_; first | (refine runB_nil (hK _ ?_); clear hK K) | (refine runB_op rfl ⟨_, evl, fun nb' => ?_⟩))
              | refine wpA_region (fun K hK => ?_)
              | (refine gateD ?_; first | (refine wpA_drawG false rfl (by kernel_rfl) (by kernel_rfl) (fun K hK => ?_)) | (refine wpA_drawG true rfl (by kernel_rfl) (by kernel_rfl) (fun K hK => ?_)))
          refine wpA_cond' ⟨_, evl, fun _ => ?_, fun hb => absurd hid (by simpa using hb)⟩
          repeat
            first
              | (refine runS_nil (hK _ ?_); clear hK K)
              | refine stR ?_
              | (refine gateA 1 rfl ?_; refine runA_put ?_)
              | (refine gateBc ?_; first | (refine runB_nil (hK _ ?_); clear hK K) | (refine runB_op rfl ⟨_, evl, fun nb' => ?_⟩))
              | refine wpA_region (fun K hK => ?_)
              | (refine gateD ?_; first | (refine wpA_drawG false rfl (by kernel_rfl) (by kernel_rfl) (fun K hK => ?_)) | (refine wpA_drawG true rfl (by kernel_rfl) (by kernel_rfl) (fun K hK => ?_)))
          refine wpA_cond' ⟨_, evl, fun hb => absurd (by simpa using hb) hnx, fun _ => ?_⟩
          repeat
            first
              | (refine runS_nil (hK _ ?_); clear hK K)
              | refine stR ?_
              | (refine gateA 1 rfl ?_; refine runA_put ?_)
              | (refine gateBc ?_; first | (refine runB_nil (hK _ ?_); clear hK K) | (refine runB_op rfl ⟨_, evl, fun nb' => ?_⟩))
              | refine wpA_region (fun K hK => ?_)
              | (refine gateD ?_; first | (refine wpA_drawG false rfl (by kernel_rfl) (by kernel_rfl) (fun K hK => ?_)) | (refine wpA_drawG true rfl (by kernel_rfl) (by kernel_rfl) (fun K hK => ?_)))
          generalize (bf && (decide (k'.sig.c = 0) && decide (k'.sig.s = 0))) = BB at v2 ⊢
          refine runS_weak (st' := ⟨127, 0, [(118, true, .lst 7 l.length el), (117, true, .raw (.bool true)), (0, true, lA 7 KeyWin.av l), (7, true, .raw (.bool true)), (9, true, .lst 7 l.length el), (10, true, .raw (.bool BB))], [KeyWin.av k'], [], ((0, []), [], true)⟩) ?_ ?_
          · refine Weak.gen ?_ ?_ ?_ (by simp) ?_
            rotate_left 3
            · first | (simp [subSl, subB, subR, AV.sub, AV.subL, go_sem]; done) | (simp [subSl, subB, subR, AV.sub, AV.subL, go_sem, AV.subL_free, AV.sub_free, *]; done) | (simp_all [subSl, subB, subR, AV.sub, AV.subL, go_sem]; done)
            all_goals (try simp only [SlSim, BxSim, RwSim, SimsL, lookN_cons, ↓reduceIte, Nat.reduceEqDiff, Option.some.injEq, Prod.mk.injEq, true_and, and_true, exists_eq_left', and_self])
            all_goals (try trivial)
            all_goals ((repeat' apply And.intro) <;> first | exact simsT | (intro _ _; exact simsT) | omega | (simp; done) | (simp; omega) | (intro _ _; refine SimsL.of_eq (els_snoc ?_ (by assumption) rfl) <;> first | rfl | omega | (simp; done) | (simp; omega)) | skip)
          refine gateS 1 rfl ?_; refine runS_call rfl rfl ⟨_, evl, _, _, _, evl, oblF, ?_⟩; apply Exists.intro; refine ⟨fun hg => ?_, ?_⟩
          · exact FnA.at_ v2 rfl rfl
          clear v2 f1 hfel
          repeat
            first
              | (refine runS_nil (hK _ ?_); clear hK K)
              | refine stR ?_
              | (refine gateS 1 rfl ?_; first | (refine runS_call rfl rfl ⟨_, evl, _, _, _, evl, oblF, ?_⟩; apply Exists.intro; refine ⟨fun hg => ?_, ?_⟩; · first | exact FnA.at_ (v3) rfl rfl | exact FnA.at_s (v3) rfl simT | exact FnA.at_s (v3) rfl simF) | (refine runS_callR rfl rfl ⟨_, evl, _, _, _, evl, _, _, evl, oblF, ?_⟩; apply Exists.intro; refine ⟨fun hg => ?_, ?_⟩; · first | exact FnA.at_ (v3) rfl rfl | exact FnA.at_s (v3) rfl simT | exact FnA.at_s (v3) rfl simF))
              | (refine gateA 1 rfl ?_; refine runA_call rfl ⟨_, evl, _, _, _, (fun _ _ => evlA), oblF, ?_⟩; apply Exists.intro; refine ⟨fun hg => ?_, ?_⟩; · first | exact FnA.at_ (v3) rfl rfl | exact FnA.at_s (v3) rfl simT | exact FnA.at_s (v3) rfl simF)
              | (refine gateA 1 rfl ?_; refine runA_put ?_)
              | (refine gateBc ?_; first | (refine runB_nil (hK _ ?_); clear hK K) | (refine runB_op rfl ⟨_, evl, fun nb' => ?_⟩))
              | refine wpA_region (fun K hK => ?_)
              | (refine gateD ?_; first | (refine wpA_drawG false rfl (by kernel_rfl) (by kernel_rfl) (fun K hK => ?_)) | (refine wpA_drawG true rfl (by kernel_rfl) (by kernel_rfl) (fun K hK => ?_)))
          refine ret_of (by simp) ⟨_, _, _, evl, ob0, OutOk.eq ?_ ?_⟩
          · simp
          · simp [AV.free]
    · rw [if_neg hid] at hMv
      have hT := hida hid
      obtain ⟨fp, sp⟩ := g1 hid
      by_cases hnx : T + 1 < l.length ∧ (l.getD (T + 1).toNat default).auth = k'.auth
      · as_aux_lemma =>
          obtain ⟨fo, si⟩ := g2 hnx.1
          have hB : decide (ValidP M) = ((((decide (formedP k') && decide (followsP (l.getD (T - 1).toNat default) k')) && signedM (l.getD (T - 1).toNat default) k') && decide (followsP k' (l.getD (T + 1).toNat default))) && signedM k' (l.getD (T + 1).toNat default)) := by
            rw [Bool.eq_iff_iff, decide_eq_true_iff, hMv]
            simp only [Bool.and_eq_true, decide_eq_true_eq, and_assoc]
            constructor
            · rintro ⟨a, b, c, d⟩; exact ⟨a, b, c, d hnx⟩
            · rintro ⟨a, b, c, d⟩; exact ⟨a, b, c, fun _ => d⟩
          rw [hB] at v2
          clear hMv hB g1 g2
          generalize decide (formedP k') = bf at *
          try generalize decide (followsP k' (l.getD (T + 1).toNat default)) = bo at *
          try generalize signedM k' (l.getD (T + 1).toNat default) = bs at *
          try generalize decide (followsP (l.getD (T - 1).toNat default) k') = bp at *
          try generalize signedM (l.getD (T - 1).toNat default) k' = bq at *
          repeat
            first
              | (refine runS_nil (hK _ ?_); clear hK K)
              | refine stR ?_
              | (refine gateS 1 rfl ?_; first | (refine runS_call rfl rfl ⟨_, evl, _, _, _, evl, oblF, ?_⟩; apply Exists.intro; refine ⟨fun hg => ?_, ?_⟩; · first | exact FnA.at_ (f1) rfl rfl | exact FnA.at_s (f1) rfl simT | exact FnA.at_s (f1) rfl simF) | (refine runS_callR rfl rfl ⟨_, evl, _, _, _, evl, _, _, evl, oblF, ?_⟩; apply Exists.intro; refine ⟨fun hg => ?_, ?_⟩; · first | exact FnA.at_ (f1) rfl rfl | exact FnA.at_s (f1) rfl simT | exact FnA.at_s (f1) rfl simF))
              | (refine gateA 1 rfl ?_; refine runA_call rfl ⟨_, evl, _, _, _, (fun _ _ => evlA), oblF, ?_⟩; apply Exists.intro; refine ⟨fun hg => ?_, ?_⟩; · first | exact FnA.at_ (f1) rfl rfl | exact FnA.at_s (f1) rfl simT | exact FnA.at_s (f1) rfl simF)
              | (refine gateA 1 rfl ?_; refine runA_put ?_)
              | (refine gateBc ?_; first | (refine runB_nil (hK _ ?_); clear hK K) | (refine runB_op rfl ⟨_, evl, fun nb' => ?_⟩))
              | refine wpA_region (fun K hK => ?_)
              | (refine gateD ?_; first | (refine wpA_drawG false rfl (by kernel_rfl) (by kernel_rfl) (fun K hK => ?_)) | (refine wpA_drawG true rfl (by kernel_rfl) (by kernel_rfl) (fun K hK => ?_)))
          refine wpA_cond' ⟨_, evl, fun hb => absurd (by simpa using hb) hid, fun _ => ?_⟩
          repeat
            first
              | (refine runS_nil (hK _ ?_); clear hK K)
              | refine stR ?_
              | (refine gateS 1 rfl ?_; first | (refine runS_call rfl rfl ⟨_, evl, _, _, _, evl, oblF, ?_⟩; apply Exists.intro; refine ⟨fun hg => ?_, ?_⟩; · first | exact FnA.at_ (fp) rfl rfl | exact FnA.at_ (sp) rfl rfl | exact FnA.at_s (fp) rfl simT | exact FnA.at_s (fp) rfl simF | exact FnA.at_s (sp) rfl simT | exact FnA.at_s (sp) rfl simF) | (refine runS_callR rfl rfl ⟨_, evl, _, _, _, evl, _, _, evl, oblF, ?_⟩; apply Exists.intro; refine ⟨fun hg => ?_, ?_⟩; · first | exact FnA.at_ (fp) rfl rfl | exact FnA.at_ (sp) rfl rfl | exact FnA.at_s (fp) rfl simT | exact FnA.at_s (fp) rfl simF | exact FnA.at_s (sp) rfl simT | exact FnA.at_s (sp) rfl simF))
              | (refine gateA 1 rfl ?_; refine runA_call rfl ⟨_, evl, _, _, _, (fun _ _ => evlA), oblF, ?_⟩; apply Exists.intro; refine ⟨fun hg => ?_, ?_⟩; · first | exact FnA.at_ (fp) rfl rfl | exact FnA.at_ (sp) rfl rfl | exact FnA.at_s (fp) rfl simT | exact FnA.at_s (fp) rfl simF | exact FnA.at_s (sp) rfl simT | exact FnA.at_s (sp) rfl simF)
              | (refine gateA 1 rfl ?_; refine runA_put ?_)
              | (refine gateBc ?_; first | (refine runB_nil (hK _ ?_); clear hK K) | (refine runB_op rfl ⟨_, evl, fun nb' => ?_⟩))
              | refine wpA_region (fun K hK => ?_)
              | (refine gateD ?_; first | (refine wpA_drawG false rfl (by kernel_rfl) (by kernel_rfl) (fun K hK => ?_)) | (refine wpA_drawG true rfl (by kernel_rfl) (by kernel_rfl) (fun K hK => ?_)))
          refine wpA_cond' ⟨_, evl, fun _ => ?_, fun hb => absurd hnx (by simpa using hb)⟩
          repeat
            first
              | (refine runS_nil (hK _ ?_); clear hK K)
              | refine stR ?_
              | (refine gateS 1 rfl ?_; first | (refine runS_call rfl rfl ⟨_, evl, _, _, _, evl, oblF, ?_⟩; apply Exists.intro; refine ⟨fun hg => ?_, ?_⟩; · first | exact FnA.at_ (fo) rfl rfl | exact FnA.at_ (si) rfl rfl | exact FnA.at_s (fo) rfl simT | exact FnA.at_s (fo) rfl simF | exact FnA.at_s (si) rfl simT | exact FnA.at_s (si) rfl simF) | (refine runS_callR rfl rfl ⟨_, evl, _, _, _, evl, _, _, evl, oblF, ?_⟩; apply Exists.intro; refine ⟨fun hg => ?_, ?_⟩; · first | exact FnA.at_ (fo) rfl rfl | exact FnA.at_ (si) rfl rfl | exact FnA.at_s (fo) rfl simT | exact FnA.at_s (fo) rfl simF | exact FnA.at_s (si) rfl simT | exact FnA.at_s (si) rfl simF))
              | (refine gateA 1 rfl ?_; refine runA_call rfl ⟨_, evl, _, _, _, (fun _ _ => evlA), oblF, ?_⟩; apply Exists.intro; refine ⟨fun hg => ?_, ?_⟩; · first | exact FnA.at_ (fo) rfl rfl | exact FnA.at_ (si) rfl rfl | exact FnA.at_s (fo) rfl simT | exact FnA.at_s (fo) rfl simF | exact FnA.at_s (si) rfl simT | exact FnA.at_s (si) rfl simF)
              | (refine gateA 1 rfl ?_; refine runA_put ?_)
              | (refine gateBc ?_; first | (refine runB_nil (hK _ ?_); clear hK K) | (refine runB_op rfl ⟨_, evl, fun nb' => ?_⟩))
              | refine wpA_region (fun K hK => ?_)
              | (refine gateD ?_; first | (refine wpA_drawG false rfl (by kernel_rfl) (by kernel_rfl) (fun K hK => ?_)) | (refine wpA_drawG true rfl (by kernel_rfl) (by kernel_rfl) (fun K hK => ?_)))
          generalize ((((bf && bp) && bq) && bo) && bs) = BB at v2 ⊢
          refine runS_weak (st' := ⟨127, 0, [(118, true, .lst 7 l.length el), (117, true, .raw (.bool true)), (0, true, lA 7 KeyWin.av l), (7, true, .raw (.bool true)), (9, true, .lst 7 l.length el), (10, true, .raw (.bool BB))], [KeyWin.av k'], [], ((0, []), [], true)⟩) ?_ ?_
          · refine Weak.gen ?_ ?_ ?_ (by simp) ?_
            rotate_left 3
            · first | (simp [subSl, subB, subR, AV.sub, AV.subL, go_sem]; done) | (simp [subSl, subB, subR, AV.sub, AV.subL, go_sem, AV.subL_free, AV.sub_free, *]; done) | (simp_all [subSl, subB, subR, AV.sub, AV.subL, go_sem]; done)
            all_goals (try simp only [SlSim, BxSim, RwSim, SimsL, lookN_cons, ↓reduceIte, Nat.reduceEqDiff, Option.some.injEq, Prod.mk.injEq, true_and, and_true, exists_eq_left', and_self])
            all_goals (try trivial)
            all_goals ((repeat' apply And.intro) <;> first | exact simsT | (intro _ _; exact simsT) | omega | (simp; done) | (simp; omega) | (intro _ _; refine SimsL.of_eq (els_snoc ?_ (by assumption) rfl) <;> first | rfl | omega | (simp; done) | (simp; omega)) | skip)
          refine gateS 1 rfl ?_; refine runS_call rfl rfl ⟨_, evl, _, _, _, evl, oblF, ?_⟩; apply Exists.intro; refine ⟨fun hg => ?_, ?_⟩
          · exact FnA.at_ v2 rfl rfl
          clear v2 f1 hfel
          repeat
            first
              | (refine runS_nil (hK _ ?_); clear hK K)
              | refine stR ?_
              | (refine gateS 1 rfl ?_; first | (refine runS_call rfl rfl ⟨_, evl, _, _, _, evl, oblF, ?_⟩; apply Exists.intro; refine ⟨fun hg => ?_, ?_⟩; · first | exact FnA.at_ (v3) rfl rfl | exact FnA.at_s (v3) rfl simT | exact FnA.at_s (v3) rfl simF) | (refine runS_callR rfl rfl ⟨_, evl, _, _, _, evl, _, _, evl, oblF, ?_⟩; apply Exists.intro; refine ⟨fun hg => ?_, ?_⟩; · first | exact FnA.at_ (v3) rfl rfl | exact FnA.at_s (v3) rfl simT | exact FnA.at_s (v3) rfl simF))
              | (refine gateA 1 rfl ?_; refine runA_call rfl ⟨_, evl, _, _, _, (fun _ _ => evlA), oblF, ?_⟩; apply Exists.intro; refine ⟨fun hg => ?_, ?_⟩; · first | exact FnA.at_ (v3) rfl rfl | exact FnA.at_s (v3) rfl simT | exact FnA.at_s (v3) rfl simF)
              | (refine gateA 1 rfl ?_; refine runA_put ?_)
              | (refine gateBc ?_; first | (refine runB_nil (hK _ ?_); clear hK K) | (refine runB_op rfl ⟨_, evl, fun nb' => ?_⟩))
              | refine wpA_region (fun K hK => ?_)
              | (refine gateD ?_; first | (refine wpA_drawG false rfl (by kernel_rfl) (by kernel_rfl) (fun K hK => ?_)) | (refine wpA_drawG true rfl (by kernel_rfl) (by kernel_rfl) (fun K hK => ?_)))
          refine ret_of (by simp) ⟨_, _, _, evl, ob0, OutOk.eq ?_ ?_⟩
          · simp
          · simp [AV.free]
      · as_aux_lemma =>
          have hB : decide (ValidP M) = ((decide (formedP k') && decide (followsP (l.getD (T - 1).toNat default) k')) && signedM (l.getD (T - 1).toNat default) k') := by
            rw [Bool.eq_iff_iff, decide_eq_true_iff, hMv]
            simp only [Bool.and_eq_true, decide_eq_true_eq, and_assoc]
            constructor
            · rintro ⟨a, b, c, d⟩; exact ⟨a, b, c⟩
            · rintro ⟨a, b, c⟩; exact ⟨a, b, c, fun h => absurd h hnx⟩
          rw [hB] at v2
          clear hMv hB g1 g2
          generalize decide (formedP k') = bf at *
          try generalize decide (followsP k' (l.getD (T + 1).toNat default)) = bo at *
          try generalize signedM k' (l.getD (T + 1).toNat default) = bs at *
          try generalize decide (followsP (l.getD (T - 1).toNat default) k') = bp at *
          try generalize signedM (l.getD (T - 1).toNat default) k' = bq at *
          repeat
            first
              | (refine runS_nil (hK _ ?_); clear hK K)
              | refine stR ?_
              | (refine gateS 1 rfl ?_; first | (refine runS_call rfl rfl ⟨_, evl, _, _, _, evl, oblF, ?_⟩; apply Exists.intro; refine ⟨fun hg => ?_, ?_⟩; · first | exact FnA.at_ (f1) rfl rfl | exact FnA.at_s (f1) rfl simT | exact FnA.at_s (f1) rfl simF) | (refine runS_callR rfl rfl ⟨_, evl, _, _, _, evl, _, _, evl, oblF, ?_⟩; apply Exists.intro; refine ⟨fun hg => ?_, ?_⟩; · first | exact FnA.at_ (f1) rfl rfl | exact FnA.at_s (f1) rfl simT | exact FnA.at_s (f1) rfl simF))
              | (refine gateA 1 rfl ?_; refine runA_call rfl ⟨_, evl, _, _, _, (fun _ _ => evlA), oblF, ?_⟩; apply Exists.intro; refine ⟨fun hg => ?_, ?_⟩; · first | exact FnA.at_ (f1) rfl rfl | exact FnA.at_s (f1) rfl simT | exact FnA.at_s (f1) rfl simF)
              | (refine gateA 1 rfl ?_; refine runA_put ?_)
              | (refine gateBc ?_; first | (refine runB_nil (hK _ ?_); clear hK K) | (refine runB_op rfl ⟨_, evl, fun nb' => ?_⟩))
              | refine wpA_region (fun K hK => ?_)
              | (refine gateD ?_; first | (refine wpA_drawG false rfl (by kernel_rfl) (by kernel_rfl) (fun K hK => ?_)) | (refine wpA_drawG true rfl (by kernel_rfl) (by kernel_rfl) (fun K hK => ?_)))
          refine wpA_cond' ⟨_, evl, fun hb => absurd (by simpa using hb) hid, fun _ => ?_⟩
          repeat
            first
              | (refine runS_nil (hK _ ?_); clear hK K)
              | refine stR ?_
              | (refine gateS 1 rfl ?_; first | (refine runS_call rfl rfl ⟨_, evl, _, _, _, evl, oblF, ?_⟩; apply Exists.intro; refine ⟨fun hg => ?_, ?_⟩; · first | exact FnA.at_ (fp) rfl rfl | exact FnA.at_ (sp) rfl rfl | exact FnA.at_s (fp) rfl simT | exact FnA.at_s (fp) rfl simF | exact FnA.at_s (sp) rfl simT | exact FnA.at_s (sp) rfl simF) | (refine runS_callR rfl rfl ⟨_, evl, _, _, _, evl, _, _, evl, oblF, ?_⟩; apply Exists.intro; refine ⟨fun hg => ?_, ?_⟩; · first | exact FnA.at_ (fp) rfl rfl | exact FnA.at_ (sp) rfl rfl | exact FnA.at_s (fp) rfl simT | exact FnA.at_s (fp) rfl simF | exact FnA.at_s (sp) rfl simT | exact FnA.at_s (sp) rfl simF))
              | (refine gateA 1 rfl ?_; refine runA_call rfl ⟨_, evl, _, _, _, (fun _ _ => evlA), oblF, ?_⟩; apply Exists.intro; refine ⟨fun hg => ?_, ?_⟩; · first | exact FnA.at_ (fp) rfl rfl | exact FnA.at_ (sp) rfl rfl | exact FnA.at_s (fp) rfl simT | exact FnA.at_s (fp) rfl simF | exact FnA.at_s (sp) rfl simT | exact FnA.at_s (sp) rfl simF)
              | (refine gateA 1 rfl ?_; refine runA_put ?_)
              | (refine gateBc ?_; first | (refine runB_nil (hK _ ?_); clear hK K) | (refine runB_op rfl ⟨_, evl, fun nb' => ?_⟩))
              | refine wpA_region (fun K hK => ?_)
              | (refine gateD ?_; first | (refine wpA_drawG false rfl (by kernel_rfl) (by kernel_rfl) (fun K hK => ?_)) | (refine wpA_drawG true rfl (by kernel_rfl) (by kernel_rfl) (fun K hK => ?_)))
          refine wpA_cond' ⟨_, evl, fun hb => absurd (by simpa using hb) hnx, fun _ => ?_⟩
          repeat
            first
              | (refine runS_nil (hK _ ?_); clear hK K)
              | refine stR ?_
              | (refine gateA 1 rfl ?_; refine runA_put ?_)
              | (refine gateBc ?_; first | (refine runB_nil (hK _ ?_); clear hK K) | (refine runB_op rfl ⟨_, evl, fun nb' => ?_⟩))
              | refine wpA_region (fun K hK => ?_)
              | (refine gateD ?_; first | (refine wpA_drawG false rfl (by kernel_rfl) (by kernel_rfl) (fun K hK => ?_)) | (refine wpA_drawG true rfl (by kernel_rfl) (by kernel_rfl) (fun K hK => ?_)))
          generalize ((bf && bp) && bq) = BB at v2 ⊢
          refine runS_weak (st' := ⟨127, 0, [(118, true, .lst 7 l.length el), (117, true, .raw (.bool true)), (0, true, lA 7 KeyWin.av l), (7, true, .raw (.bool true)), (9, true, .lst 7 l.length el), (10, true, .raw (.bool BB))], [KeyWin.av k'], [], ((0, []), [], true)⟩) ?_ ?_
          · refine Weak.gen ?_ ?_ ?_ (by simp) ?_
            rotate_left 3
            · first | (simp [subSl, subB, subR, AV.sub, AV.subL, go_sem]; done) | (simp [subSl, subB, subR, AV.sub, AV.subL, go_sem, AV.subL_free, AV.sub_free, *]; done) | (simp_all [subSl, subB, subR, AV.sub, AV.subL, go_sem]; done)
            all_goals (try simp only [SlSim, BxSim, RwSim, SimsL, lookN_cons, ↓reduceIte, Nat.reduceEqDiff, Option.some.injEq, Prod.mk.injEq, true_and, and_true, exists_eq_left', and_self])
            all_goals (try trivial)
            all_goals ((repeat' apply And.intro) <;> first | exact simsT | (intro _ _; exact simsT) | omega | (simp; done) | (simp; omega) | (intro _ _; refine SimsL.of_eq (els_snoc ?_ (by assumption) rfl) <;> first | rfl | omega | (simp; done) | (simp; omega)) | skip)
          refine gateS 1 rfl ?_; refine runS_call rfl rfl ⟨_, evl, _, _, _, evl, oblF, ?_⟩; apply Exists.intro; refine ⟨fun hg => ?_, ?_⟩
          · exact FnA.at_ v2 rfl rfl
          clear v2 f1 hfel
          repeat
            first
              | (refine runS_nil (hK _ ?_); clear hK K)
              | refine stR ?_
              | (refine gateS 1 rfl ?_; first | (refine runS_call rfl rfl ⟨_, evl, _, _, _, evl, oblF, ?_⟩; apply Exists.intro; refine ⟨fun hg => ?_, ?_⟩; · first | exact FnA.at_ (v3) rfl rfl | exact FnA.at_s (v3) rfl simT | exact FnA.at_s (v3) rfl simF) | (refine runS_callR rfl rfl ⟨_, evl, _, _, _, evl, _, _, evl, oblF, ?_⟩; apply Exists.intro; refine ⟨fun hg => ?_, ?_⟩; · first | exact FnA.at_ (v3) rfl rfl | exact FnA.at_s (v3) rfl simT | exact FnA.at_s (v3) rfl simF))
              | (refine gateA 1 rfl ?_; refine runA_call rfl ⟨_, evl, _, _, _, (fun _ _ => evlA), oblF, ?_⟩; apply Exists.intro; refine ⟨fun hg => ?_, ?_⟩; · first | exact FnA.at_ (v3) rfl rfl | exact FnA.at_s (v3) rfl simT | exact FnA.at_s (v3) rfl simF)
              | (refine gateA 1 rfl ?_; refine runA_put ?_)
              | (refine gateBc ?_; first | (refine runB_nil (hK _ ?_); clear hK K) | (refine runB_op rfl ⟨_, evl, fun nb' => ?_⟩))
              | refine wpA_region (fun K hK => ?_)
              | (refine gateD ?_; first | (refine wpA_drawG false rfl (by kernel_rfl) (by kernel_rfl) (fun K hK => ?_)) | (refine wpA_drawG true rfl (by kernel_rfl) (by kernel_rfl) (fun K hK => ?_)))
          refine ret_of (by simp) ⟨_, _, _, evl, ob0, OutOk.eq ?_ ?_⟩
          · simp
          · simp [AV.free]
  · refine fnA_of tblOk Tryd.func6 rfl (by kernel_rfl) 127 Tryd.ntmps6 (by simp only [List.length_cons, List.length_nil]; omega) [.tmp 6] rfl ?_
    simp only [entrySt, argSl, Nat.zero_add, Nat.reduceAdd]
    repeat'
      first
        | first
          | (refine runS_nil (hK _ ?_); clear hK K)
          | refine stB ?_
          | (refine gateS 2 rfl ?_; refine runS_appBsl tblOk rfl rfl rfl ⟨_, _, _, _, _, _, _, evl, obq, _, _, _, _, _, evl, _, evl, obq, obq, obs, _, evl, fun c hc1 hc2 => ⟨_, evl, ?_⟩⟩)
          | (refine gateS 1 rfl ?_; first | (refine runS_call rfl rfl ⟨_, evl, _, _, _, evl, oblF, ?_⟩; apply Exists.intro; refine ⟨fun hg => ?_, ?_⟩; · first | exact FnA.at_ (hh) rfl rfl | exact FnA.at_ (hfew) rfl rfl | exact FnA.at_ (hv) rfl rfl | exact FnA.at_s (hh) rfl simT | exact FnA.at_s (hh) rfl simF | exact FnA.at_s (hfew) rfl simT | exact FnA.at_s (hfew) rfl simF | exact FnA.at_s (hv) rfl simT | exact FnA.at_s (hv) rfl simF) | (refine runS_callR rfl rfl ⟨_, evl, _, _, _, evl, _, _, evl, oblF, ?_⟩; apply Exists.intro; refine ⟨fun hg => ?_, ?_⟩; · first | exact FnA.at_ (hh) rfl rfl | exact FnA.at_ (hfew) rfl rfl | exact FnA.at_ (hv) rfl rfl | exact FnA.at_s (hh) rfl simT | exact FnA.at_s (hh) rfl simF | exact FnA.at_s (hfew) rfl simT | exact FnA.at_s (hfew) rfl simF | exact FnA.at_s (hv) rfl simT | exact FnA.at_s (hv) rfl simF))
          | (refine gateA 1 rfl ?_; refine runA_call rfl ⟨_, evl, _, _, _, (fun _ _ => evlA), oblF, ?_⟩; apply Exists.intro; refine ⟨fun hg => ?_, ?_⟩; · first | exact FnA.at_ (hh) rfl rfl | exact FnA.at_ (hfew) rfl rfl | exact FnA.at_ (hv) rfl rfl | exact FnA.at_s (hh) rfl simT | exact FnA.at_s (hh) rfl simF | exact FnA.at_s (hfew) rfl simT | exact FnA.at_s (hfew) rfl simF | exact FnA.at_s (hv) rfl simT | exact FnA.at_s (hv) rfl simF)
          | (refine gateA 1 rfl ?_; refine runA_put ?_)
          | (refine gateBc ?_; first | (refine runB_nil (hK _ ?_); clear hK K) | (refine runB_op rfl ⟨_, evl, fun nb' => ?_⟩))
          | refine wpA_region (fun K hK => ?_)
          | (refine gateD ?_; first | (refine wpA_drawG false rfl (by kernel_rfl) (by kernel_rfl) (fun K hK => ?_)) | (refine wpA_drawG true rfl (by kernel_rfl) (by kernel_rfl) (fun K hK => ?_)))
          | (refine wpA_cond' ⟨_, evl, fun hb => ?_, fun hb => ?_⟩ <;> (try simp only [Bool.or_eq_true, Bool.and_eq_true, Bool.or_eq_false_iff, Bool.and_eq_false_iff, Bool.not_eq_true', Bool.not_eq_false', Bool.not_eq_true, Bool.not_eq_false, decide_eq_true_eq, decide_eq_false_iff_not, Bool.true_eq_false, Bool.false_eq_true, ne_eq, Classical.not_not, Int.not_lt, Int.not_le, Bool.not_true, Bool.not_false] at hb))
        | fail
    · refine ret_of (by simp) ⟨_, _, _, evl, ob0, OutOk.eq ?_ ?_⟩
      · rfl
      · simp [AV.free]
    · exfalso
      apply hc
      simp_all
theorem keysForged_B {x0 x1 x2 : List AV} (k0 : CellsOk tbl 30 22 x0) (k1 : CellsOk tbl 30 5 x1) (k2 : CellsOk tbl 30 26 x2) :
    FnA Tryd.prog 6 [valA false x0, valA false x1, valA true x2] (.raw (.bool true)) := by
  obtain ⟨l, h0, hf, _⟩ := open_KeyWins k0
  obtain ⟨w, rfl, hw⟩ := open_u8 k1
  obtain ⟨c, rfl, hc⟩ := open_KeyWin k2
  exact FnA.sim (keysForged_A l hf w hw c hc) ⟨h0, Sim.of_eq rfl, Sim.of_eq rfl, trivial⟩
end Go.Proofs.YtihnjbnlbedpaaaDoor
