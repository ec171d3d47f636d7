import Derived.Test.YtchpbdecipcelaaGreatDoorSM24
import Derived.Test.YtchpbdecipcelaaGreatDoorSM25
import Derived.Test.YtchpbdecipcelaaGreatDoorSM28
import Derived.Test.YtchpbdecipcelaaGreatDoorSM43
namespace Go.Proofs.YtchpbdecipcelaaGreatDoor
set_option linter.unusedVariables false
set_option linter.unusedSimpArgs false
set_option maxHeartbeats 4000000
set_option maxRecDepth 100000
open Go.RowKit
theorem without_A (p : Party) (set : List Party) (hl : set.length ≤ 4611686018427387904) : FnA Tryz.prog 62 [lA 2 Party.av set, .elt p.av 0] (.raw (.bool (!decide (p ∈ set)))) := by
  have h := hasP_A set hl p
  have hfr : (lA 2 Party.av set).free := lA_free (fun y => Party.free y) _
  generalize lA 2 Party.av set = L at *
  generalize decide (p ∈ set) = z at *
  refine fnA_of tblOk Tryz.func62 rfl (by kernel_rfl) 8 Tryz.ntmps62 lenT [.tmp 3] rfl ?_
  simp only [entrySt, argSl, Nat.zero_add, Nat.reduceAdd]
  repeat' first
    | refine wkG h ?_
    | (refine cndS ⟨_, evl, ⟨cb, cb⟩, fun hb => ?_, fun hb => ?_⟩ <;> try (cases hb; done))
    | (refine Stop.mk ?_; intro K hK)
    | fail
  all_goals (try (refine ret_of (by simp) ⟨_, _, _, evl, ob0, OutOk.sims ?_ fre⟩))
  all_goals first | exact Sims.refl _ | exact finT | exact simsF | (refine Sims.tup ?_; simp only [SimsL, and_true]; (repeat' apply And.intro) <;> first | exact simsF | skip) | (exfalso; first | omega | (simp_all; done) | (simp_all; omega)) | skip
def sureM (m : Matter) (most : Int) : List Party × Int :=
  if (setsM m most).2 ≠ 0 then ([], (setsM m most).2) else if (setsM m most).1 = [] then ([], 4) else (Vd.sureOf (setsM m most).1, 0)
theorem outNilP (st : ASt) (a : Int) : OutOk st (.tup [.raw (.slice none 0 0), .raw (.int .i64 a)]) (.tup [lA 2 Party.av [], .raw (.int .i64 a)]) :=
  OutOk.sims (Sims.tup (show SimsL _ _ [_, _] [_, _] from ⟨(Sim.nil rfl).s, Sims.refl _, trivial⟩)) ⟨fun i h => absurd h (Nat.not_lt_zero _), trivial, trivial⟩
theorem sets_short {m : Matter} {most : Int} (hB : BOk m) : (setsM m most).1.length ≤ 200 ∧ ∀ s ∈ (setsM m most).1, s.length ≤ 3 := by
  unfold setsM
  split
  · exact ⟨by simp, fun s hs => by simp at hs⟩
  · split
    · exact ⟨by simp, fun s hs => by simp at hs⟩
    · split
      · exact ⟨by simp, fun s hs => by simp at hs⟩
      · rename_i h1 h2 h3
        refine ⟨by simp only; omega, fun s hs => ?_⟩
        have := (Vd.setsOf_ok hs).2.1
        omega
abbrev rowP (l : List Party) : ARow := ⟨57, 2, l.length, els Party.av l⟩
theorem Sure_A (m : Matter) (h : OkM m) (hB : BOk m) (most : Int) : FnA Tryz.prog 20 [.agg m.av, .raw (.int .i64 most)] (.tup [lA 2 Party.av (sureM m most).1, .raw (.int .i64 (sureM m most).2)]) := by
  have hs := Sets_A m h hB most
  have hm := Matter.free m
  have hsh := sets_short (most := most) hB
  unfold sureM
  generalize setsM m most = E at *
  obtain ⟨S, e⟩ := E
  simp only at hs hsh ⊢
  have hfS : (lA 1 sC2 S).free := lA_free (fun y => show AV.freeL (sC2 y) from ⟨lA_free (fun z => Party.free z) _, trivial⟩) _
  refine fnA_of tblOk Tryz.func20 rfl (by kernel_rfl) 43 Tryz.ntmps20 lenT [.tmp 4, .tmp 5] rfl ?_
  simp only [entrySt, argSl, Nat.zero_add, Nat.reduceAdd]
  try refine wkG hs ?_
  try (refine Stop.mk ?_; intro K hK)
  refine wpA_cond' ⟨_, evl, fun he => ?_, fun he => ?_⟩
  · simp only [Bool.not_eq_true', decide_eq_false_iff_not] at he
    rw [if_pos he]
    try refine wkG trivial ?_
    try (refine Stop.mk ?_; intro K hK)
    exact ret_of (by simp) ⟨_, _, _, evl, ob0, outNilP _ _⟩
  · simp only [Bool.not_eq_false', decide_eq_true_eq] at he
    subst he
    simp only [ne_eq, not_true_eq_false, if_false]
    try refine wkG trivial ?_
    try (refine Stop.mk ?_; intro K hK)
    refine wpA_cond' ⟨_, evl, fun he => ?_, fun he => ?_⟩
    · simp only [decide_eq_true_eq] at he
      rw [if_pos (List.length_eq_zero_iff.1 (by omega))]
      try refine wkG trivial ?_
      try (refine Stop.mk ?_; intro K hK)
      exact ret_of (by simp) ⟨_, _, _, evl, ob0, outNilP _ _⟩
    · simp only [decide_eq_false_iff_not] at he
      have hne : S ≠ [] := fun e => he (by rw [e]; rfl)
      rw [if_neg hne]
      have h0 : 0 < S.length := by omega
      have hS0 : S.headD [] = S.getD 0 default := by cases S <;> simp_all
      have hl0 : (S.getD 0 default).length ≤ 3 := hsh.2 _ (by rw [getD_get h0]; exact List.getElem_mem _)
      have hsu : Vd.sureOf S = (S.getD 0 default).filter fun p => !(S.any fun s => !decide (p ∈ s)) := by
        unfold Vd.sureOf
        rw [hS0]
        congr 1
        funext p
        rw [List.any_eq_not_all_not]
        simp
      rw [hsu]
      clear hsu hS0
      try refine wkG trivial ?_
      try (refine Stop.mk ?_; intro K hK)
      refine wpA_weak (Weak.nilRow 8 57 2 rfl) ?_
      generalize hS0 : S.getD 0 default = S0 at *
      have hf0 : (lA 2 Party.av S0).free := lA_free (fun z => Party.free z) _
      refine wpA_loop (fun k : Nat => ⟨43, 0, [(6, true, lA 1 sC2 S), (8, true, .row 0 ((S0.take k).filter fun p => !(S.any fun s => !decide (p ∈ s))).length), (26, true, lA 2 Party.av S0), (27, true, .raw (.int .i64 S0.length)), (28, true, .raw (.int .i64 k))], [m.av], [rowP ((S0.take k).filter fun p => !(S.any fun s => !decide (p ∈ s)))], ((0, []), [], true)⟩)
        (fun k => k ≤ S0.length) (fun k => S0.length - k) 0 ?_ (by omega) ?_
      · simp only [List.take_zero, List.filter_nil, List.length_nil]
        refine wkn ?_ ?_ ?_
        all_goals first | exact wk0 | refine wkS ?_ | skip
        all_goals (try trivial)
        all_goals ((repeat' apply And.intro) <;> first | exact wkL | skip)
      · intro k hk
        rcases Nat.lt_or_ge k S0.length with hlt | hge
        · have hst : ∀ i2, i2 = k + 1 → (S0.take i2).filter (fun p => !(S.any fun s => !decide (p ∈ s))) = (S0.take k).filter (fun p => !(S.any fun s => !decide (p ∈ s))) ++ if (S.any fun s => !decide (S0.getD k default ∈ s)) then [] else [S0.getD k default] := fun i2 e => by
            subst e
            rw [List.take_succ_eq_append_getElem hlt, List.filter_append, getD_get hlt]
            congr 1
            by_cases hq : (S.any fun s => !decide (S0[k] ∈ s)) = true <;> simp [hq]
          have hlR : ((S0.take k).filter fun p => !(S.any fun s => !decide (p ∈ s))).length ≤ 3 := Nat.le_trans (List.length_filter_le _ _) (by rw [List.length_take]; omega)
          have hc : FnA Tryz.prog 59 [lA 1 sC2 S, .fn (.func 62) [] [.elt (S0.getD k default).av 0]] (.raw (.bool (S.any fun s => !decide (S0.getD k default ∈ s)))) :=
            containsFunc_Ps S (by omega) 62 [.elt (S0.getD k default).av 0] ⟨Party.free _, trivial⟩ (fun s => !decide (S0.getD k default ∈ s)) fun s hs => without_A (S0.getD k default) s (by have := hsh.2 s hs; omega)
          generalize (S.any fun s => !decide (S0.getD k default ∈ s)) = q at *
          generalize (S0.take k).filter (fun p => !(S.any fun s => !decide (p ∈ s))) = R at *
          try refine wkG trivial ?_
          try (refine Stop.mk ?_; intro K hK)
          refine wpA_cond' ⟨_, evl, fun _ => ?_, fun hb => absurd (of_decide_eq_false hb) (by omega)⟩
          repeat (refine stG ?_)
          refine wpA_region (fun K hK => ?_)
          iterate 4 (refine stG ?_)
          refine runS_freeze 1 obf ⟨_, evl, _, evl, ?_⟩
          refine runS_nil (hK _ ?_); clear hK K
          try (first | refine wkM hK hc ?_ | refine wkG hc ?_)
          try clear hK K
          try (refine Stop.mk ?_; intro K hK)
          refine wpA_cond' ⟨_, evl, fun hb => ?_, fun hb => ?_⟩
          · rw [Bool.not_eq_true'] at hb
            subst hb
            simp only [Bool.false_eq_true, if_false] at hst
            try refine wkG trivial ?_
            try (refine Stop.mk ?_; intro K hK)
            refine ⟨k + 1, by omega, by omega, ?_⟩
            rw [hst (k + 1) rfl, List.length_append]
            refine wkn ?_ ?_ ?_
            all_goals first | exact wk0 | refine wkS ?_ | skip
            all_goals (try trivial)
            all_goals ((repeat' apply And.intro) <;> first | exact wkL | skip)
            exact fun q hq => SimsL.of_eq (els_snoc rfl (by simpa using hq) rfl)
          · rw [Bool.not_eq_false'] at hb
            subst hb
            simp only [if_true, List.append_nil] at hst
            try refine wkG trivial ?_
            try (refine Stop.mk ?_; intro K hK)
            refine ⟨k + 1, by omega, by omega, ?_⟩
            rw [hst (k + 1) rfl]
            refine wkn ?_ ?_ ?_
            all_goals first | exact wk0 | refine wkS ?_ | skip
            all_goals (try trivial)
            all_goals ((repeat' apply And.intro) <;> first | exact wkL | skip)
        · obtain rfl : k = S0.length := by omega
          rw [List.take_length]
          generalize S0.filter (fun p => !(S.any fun s => !decide (p ∈ s))) = R at *
          try refine wkG trivial ?_
          try (refine Stop.mk ?_; intro K hK)
          refine wpA_cond' ⟨_, evl, fun hb => absurd (of_decide_eq_true hb) (by omega), fun _ => ?_⟩
          try refine wkG trivial ?_
          try (refine Stop.mk ?_; intro K hK)
          refine ret_of (by simp) ⟨_, _, _, evl, ob0, OutOk.sims ?_ ?_⟩
          · exact Sims.tup ⟨Sims.row rfl rfl rfl rfl fun i hi => rfl, Sims.refl _, trivial⟩
          · exact ⟨lA_free (fun z => Party.free z) _, trivial, trivial⟩
end Go.Proofs.YtchpbdecipcelaaGreatDoor
namespace Go.Proofs.YtchpbdecipcelaaGreatDoor
set_option linter.unusedVariables false
set_option linter.unusedSimpArgs false
set_option maxHeartbeats 4000000
set_option maxRecDepth 100000
open Go.RowKit
abbrev rowU (l : List UInt8) : ARow := ⟨5, 1, l.length, els u8C l⟩
theorem belRU {m : Nat} (l : List UInt8) : belR m [rowU l] := by
  intro r hr q _
  simp only [List.mem_cons, List.not_mem_nil, or_false] at hr
  subst hr
  exact ⟨trivial, trivial⟩
theorem octs_succ (d : Int) (k : Nat) : (List.range (k + 1)).map (fun q => UInt8.ofNat (oct d q).toNat) = (List.range k).map (fun q => UInt8.ofNat (oct d q).toNat) ++ [UInt8.ofNat (oct d k).toNat] := by
  rw [List.range_succ, List.map_append]; rfl
theorem eight_G (d : Int) : FnG Tryz.prog 161 [.raw (.int .u64 d)] [] [] (.row 0 (octs d).length) [] [rowU (octs d)] := by
  refine fnG_of tblOk Tryz.func161 rfl (by kernel_rfl) 17 Tryz.ntmps161 lenT [.tmp 2] rfl 0 (by simp) ?_
  simp only [entryG, argSl, Nat.zero_add, Nat.reduceAdd, List.length_cons, List.length_nil]
  try refine wkR trivial ?_
  try (refine Stop.mk ?_; intro K hK)
  refine wpA_weak (Weak.nilRow 3 5 1 rfl) ?_
  try refine wkR trivial ?_
  try (refine Stop.mk ?_; intro K hK)
  refine wpA_loop (fun k : Nat => ⟨17, 0, [(0, true, .raw (.int .u64 d)), (3, true, .row 0 ((List.range k).map fun q => UInt8.ofNat (oct d q).toNat).length), (4, true, .raw (.int .i64 (56 - 8 * k)))], [], [rowU ((List.range k).map fun q => UInt8.ofNat (oct d q).toNat)], ((0, []), [], true)⟩)
    (fun k => k ≤ 8) (fun k => 8 - k) 0 ?_ (by omega) ?_
  · refine wkn ?_ ?_ ?_
    all_goals first | exact wk0 | refine wkS ?_ | skip
    all_goals (try trivial)
    all_goals ((repeat' apply And.intro) <;> first | exact wkL | skip)
  · intro k hk
    rcases Nat.lt_or_ge k 8 with hlt | hge
    · have hs : ∀ i2, i2 = k + 1 → (List.range i2).map (fun q => UInt8.ofNat (oct d q).toNat) = (List.range k).map (fun q => UInt8.ofNat (oct d q).toNat) ++ [UInt8.ofNat (oct d k).toNat] := fun i2 e => e ▸ octs_succ d k
      have hlen : ((List.range k).map (fun q => UInt8.ofNat (oct d q).toNat)).length ≤ 8 := by simp; omega
      have ho : u8C (UInt8.ofNat (oct d k).toNat) = [.raw (.int .u8 (oct d k))] := by
        have := oct_range d k
        unfold u8C
        congr 3
        simp
        omega
      unfold oct at ho
      generalize (List.range k).map (fun q => UInt8.ofNat (oct d q).toNat) = R at *
      try refine wkG trivial ?_
      try (refine Stop.mk ?_; intro K hK)
      refine wpA_cond' ⟨_, evl, fun _ => ?_, fun hb => absurd (of_decide_eq_false hb) (by omega)⟩
      try refine wkG trivial ?_
      try (refine Stop.mk ?_; intro K hK)
      refine ⟨k + 1, by omega, by omega, ?_⟩
      rw [hs (k + 1) rfl, List.length_append]
      refine wkn ?_ ?_ ?_
      all_goals first | exact wk0 | refine wkS ?_ | skip
      all_goals (try trivial)
      all_goals ((repeat' apply And.intro) <;> first | exact wkL | skip)
      exact fun q hq => SimsL.of_eq (els_snoc rfl (by simpa using hq) ho.symm)
    · obtain rfl : k = 8 := by omega
      rw [show (List.range 8).map (fun q => UInt8.ofNat (oct d q).toNat) = octs d from rfl]
      generalize octs d = R at *
      try refine wkG trivial ?_
      try (refine Stop.mk ?_; intro K hK)
      refine wpA_cond' ⟨_, evl, fun hb => absurd (of_decide_eq_true hb) (by omega), fun _ => ?_⟩
      try refine wkG trivial ?_
      try (refine Stop.mk ?_; intro K hK)
      refine retG_of (by simp) ⟨_, _, _, evl, obq, OutG.bel rfl obb, by simp, rfl, rfl, obb, belRU _⟩
theorem txt_txtL (l : List Int) : txt (fun q => l.getD q 0) l.length = txtL l := by
  have := txt_list l l.length (Nat.le_refl _)
  rw [this, List.take_length]
theorem nextR_A (d : Int) (l : List Int) (h : okI l) (hn : l.length ≤ 1000000) : FnA Tryz.prog 111 [.raw (.int .u64 d), liA l] (.raw (.int .u64 (nextM d l))) := by
  have hl := txtL_length h
  have h8 : (octs d).length = 8 := octs_length d
  have he := eight_G d
  have ht := textR_A l h hn
  have hs := sumR_A (octs d ++ txtL l) (by rw [List.length_append]; omega)
  unfold nextM
  rw [txt_txtL]
  have hfl : (liA l).free := liA_free l
  generalize octs d = O at *
  generalize txtL l = T at *
  refine fnA_of tblOk Tryz.func111 rfl (by kernel_rfl) 14 Tryz.ntmps111 lenT [.tmp 4] rfl ?_
  simp only [entrySt, argSl, Nat.zero_add, Nat.reduceAdd]
  try (first | refine wkN hK trivial ?_ | refine wkR trivial ?_)
  try clear hK K
  try (refine Stop.mk ?_; intro K hK)
  refine sCallG [] [] he rfl rfl rfl ⟨_, rfl, _, rfl, _, evl, obl, by decide, by decide, trivial, trivial, ⟨(fun _ h => by cases h), (fun _ h => by cases h), ⟨trivial, trivial⟩, Nat.le_refl _, Nat.zero_le _⟩, .row 0 O.length, rfl, [], rfl, [rowU O], rfl, ?_⟩
  refine stG ?_
  refine runS_nil (hK _ ?_); clear hK K
  repeat
    first
      | (refine runS_nil (hK _ ?_); clear hK K)
      | refine stR ?_
      | (refine gateS 1 rfl ?_; first | (refine runS_call rfl rfl ⟨_, evl, _, _, _, evl, oblG, ?_⟩; apply Exists.intro; refine ⟨fun hg => ?_, ?_⟩; · first | exact FnA.at_ (ht) rfl rfl | exact FnA.sim hs ⟨Sim.lstE (List.length_append).symm fun i hi => els_append rfl, trivial⟩ | exact FnA.at_s (ht) rfl simT | exact FnA.at_s (ht) rfl simF) | (refine runS_callR rfl rfl ⟨_, evl, _, _, _, evl, _, _, evl, oblG, ?_⟩; apply Exists.intro; refine ⟨fun hg => ?_, ?_⟩; · first | exact FnA.at_ (ht) rfl rfl | exact FnA.sim hs ⟨Sim.lstE (List.length_append).symm fun i hi => els_append rfl, trivial⟩ | exact FnA.at_s (ht) rfl simT | exact FnA.at_s (ht) rfl simF))
      | (refine gateA 1 rfl ?_; refine runA_call rfl ⟨_, evl, _, _, _, (fun _ _ => evlA), oblG, ?_⟩; apply Exists.intro; refine ⟨fun hg => ?_, ?_⟩; · first | exact FnA.at_ (ht) rfl rfl | exact FnA.sim hs ⟨Sim.lstE (List.length_append).symm fun i hi => els_append rfl, trivial⟩ | exact FnA.at_s (ht) rfl simT | exact FnA.at_s (ht) rfl simF)
      | (refine gateA 1 rfl ?_; refine runA_put ?_)
      | (refine gateBc ?_; first | (refine runB_nil (hK _ ?_); clear hK K) | (refine runB_op rfl ⟨_, evl, fun nb' => ?_⟩))
      | refine wpA_region (fun K hK => ?_)
      | (refine gateD ?_; first | (refine wpA_drawG false rfl (by kernel_rfl) (by kernel_rfl) (fun K hK => ?_)) | (refine wpA_drawG true rfl (by kernel_rfl) (by kernel_rfl) (fun K hK => ?_)))
  all_goals (try (refine ret_of (by simp) ⟨_, _, _, evl, ob0, OutOk.sims ?_ fre⟩))
  all_goals first | exact Sims.refl _ | exact finT | exact simsF | (refine Sims.tup ?_; simp only [SimsL, and_true]; (repeat' apply And.intro) <;> first | exact simsF | skip) | (exfalso; first | omega | (simp_all; done) | (simp_all; omega)) | skip
theorem nonceR_A (h host round auth : Int) (h1 : inK .i64 host) (h2 : inK .i64 round) (h3 : inK .i64 auth) : FnA Tryz.prog 68 [.raw (.int .u64 h), .raw (.int .i64 host), .raw (.int .i64 round), .raw (.int .i64 auth)] (.raw (.int .u64 (nonceM h host round auth))) := by
  have hx := nextR_A h [host, round, auth] (by intro x hx; simp only [List.mem_cons, List.not_mem_nil, or_false] at hx; rcases hx with rfl | rfl | rfl <;> assumption) (by simp)
  unfold nonceM
  refine fnA_of tblOk Tryz.func68 rfl (by kernel_rfl) 15 Tryz.ntmps68 lenT [.tmp 8] rfl ?_
  simp only [entrySt, argSl, Nat.zero_add, Nat.reduceAdd]
  repeat
    first
      | (refine runS_nil (hK _ ?_); clear hK K)
      | refine stG ?_
      | (refine gateS 1 rfl ?_; refine runS_call rfl rfl ⟨_, evl, _, _, _, evl, oblG, ?_⟩; apply Exists.intro; refine ⟨fun hg => ?_, ?_⟩; · first | exact FnA.sim hx ⟨Sim.refl _, Sim.lstE rfl fun i hi => chunk_lit (enc := iC) (l := [host, round, auth]) (fun _ => rfl) rfl hi, trivial⟩ )
      | (refine gateA 1 rfl ?_; refine runA_call rfl ⟨_, evl, _, _, _, (fun _ _ => evlA), oblG, ?_⟩; apply Exists.intro; refine ⟨fun hg => ?_, ?_⟩; · first | exact FnA.sim hx ⟨Sim.refl _, Sim.lstE rfl fun i hi => chunk_lit (enc := iC) (l := [host, round, auth]) (fun _ => rfl) rfl hi, trivial⟩ )
      | (refine gateA 1 rfl ?_; refine runA_put ?_)
      | (refine gateBc ?_; first | (refine runB_nil (hK _ ?_); clear hK K) | (refine runB_op rfl ⟨_, evl, fun nb' => ?_⟩))
      | refine wpA_region (fun K hK => ?_)
      | (refine gateD ?_; first | (refine wpA_drawG false rfl (by kernel_rfl) (by kernel_rfl) (fun K hK => ?_)) | (refine wpA_drawG true rfl (by kernel_rfl) (by kernel_rfl) (fun K hK => ?_)))
  all_goals (try (refine ret_of (by simp) ⟨_, _, _, evl, ob0, OutOk.sims ?_ fre⟩))
  all_goals first | exact Sims.refl _ | exact finT | exact simsF | (refine Sims.tup ?_; simp only [SimsL, and_true]; (repeat' apply And.intro) <;> first | exact simsF | skip) | (exfalso; first | omega | (simp_all; done) | (simp_all; omega)) | skip
end Go.Proofs.YtchpbdecipcelaaGreatDoor
