import Derived.Test.YtchpbdecipcelaaGreatDoorMO24
import Derived.Test.YtchpbdecipcelaaGreatDoorMO25
import Derived.Test.YtchpbdecipcelaaGreatDoorMO29
import Derived.Test.YtchpbdecipcelaaGreatDoorMO45
namespace Go.Proofs.YtchpbdecipcelaaGreatDoor
set_option linter.unusedVariables false
set_option linter.unusedSimpArgs false
set_option maxHeartbeats 4000000
set_option maxRecDepth 100000
open Go.RowKit
abbrev rowU (l : List UInt8) : ARow := ⟨5, 1, l.length, els u8C l⟩
theorem belRU {m : Nat} (l : List UInt8) : belR m [rowU l] := by
  intro r hr q _
  simp only [List.mem_cons, List.not_mem_nil, or_false] at hr
  subst hr
  exact ⟨trivial, trivial⟩
theorem octs_succ (d : Int) (k : Nat) : (List.range (k + 1)).map (fun q => UInt8.ofNat (oct d q).toNat) = (List.range k).map (fun q => UInt8.ofNat (oct d q).toNat) ++ [UInt8.ofNat (oct d k).toNat] := by
  rw [List.range_succ, List.map_append]; rfl
theorem eight_G (d : Int) : FnG Tryz.prog 161 [.raw (.int .u64 d)] [] [] (.row 0 (octs d).length) [] [rowU (octs d)] := by
  refine fnG_of tblOk Tryz.func161 rfl (by kernel_rfl) 17 Tryz.ntmps161 lenT [.tmp 2] rfl 0 (by simp) ?_
  simp only [entryG, argSl, Nat.zero_add, Nat.reduceAdd, List.length_cons, List.length_nil]
  try refine wkR trivial ?_
  try (refine Stop.mk ?_; intro K hK)
  refine wpA_weak (Weak.nilRow 3 5 1 rfl) ?_
  try refine wkR trivial ?_
  try (refine Stop.mk ?_; intro K hK)
  refine wpA_loop (fun k : Nat => ⟨17, 0, [(0, true, .raw (.int .u64 d)), (3, true, .row 0 ((List.range k).map fun q => UInt8.ofNat (oct d q).toNat).length), (4, true, .raw (.int .i64 (56 - 8 * k)))], [], [rowU ((List.range k).map fun q => UInt8.ofNat (oct d q).toNat)], ((0, []), [], true)⟩)
    (fun k => k ≤ 8) (fun k => 8 - k) 0 ?_ (by omega) ?_
  · refine wkn ?_ ?_ ?_
    all_goals first | exact wk0 | refine wkS ?_ | skip
    all_goals (try trivial)
    all_goals ((repeat' apply And.intro) <;> first | exact wkL | skip)
  · intro k hk
    rcases Nat.lt_or_ge k 8 with hlt | hge
    · have hs : ∀ i2, i2 = k + 1 → (List.range i2).map (fun q => UInt8.ofNat (oct d q).toNat) = (List.range k).map (fun q => UInt8.ofNat (oct d q).toNat) ++ [UInt8.ofNat (oct d k).toNat] := fun i2 e => e ▸ octs_succ d k
      have hlen : ((List.range k).map (fun q => UInt8.ofNat (oct d q).toNat)).length ≤ 8 := by simp; omega
      have ho : u8C (UInt8.ofNat (oct d k).toNat) = [.raw (.int .u8 (oct d k))] := by
        have := oct_range d k
        unfold u8C
        congr 3
        simp
        omega
      unfold oct at ho
      generalize (List.range k).map (fun q => UInt8.ofNat (oct d q).toNat) = R at *
      try refine wkG trivial ?_
      try (refine Stop.mk ?_; intro K hK)
      refine wpA_cond' ⟨_, evl, fun _ => ?_, fun hb => absurd (of_decide_eq_false hb) (by omega)⟩
      try refine wkG trivial ?_
      try (refine Stop.mk ?_; intro K hK)
      refine ⟨k + 1, by omega, by omega, ?_⟩
      rw [hs (k + 1) rfl, List.length_append]
      refine wkn ?_ ?_ ?_
      all_goals first | exact wk0 | refine wkS ?_ | skip
      all_goals (try trivial)
      all_goals ((repeat' apply And.intro) <;> first | exact wkL | skip)
      exact fun q hq => SimsL.of_eq (els_snoc rfl (by simpa using hq) ho.symm)
    · obtain rfl : k = 8 := by omega
      rw [show (List.range 8).map (fun q => UInt8.ofNat (oct d q).toNat) = octs d from rfl]
      generalize octs d = R at *
      try refine wkG trivial ?_
      try (refine Stop.mk ?_; intro K hK)
      refine wpA_cond' ⟨_, evl, fun hb => absurd (of_decide_eq_true hb) (by omega), fun _ => ?_⟩
      try refine wkG trivial ?_
      try (refine Stop.mk ?_; intro K hK)
      refine retG_of (by simp) ⟨_, _, _, evl, obq, OutG.bel rfl obb, by simp, rfl, rfl, obb, belRU _⟩
theorem txt_txtL (l : List Int) : txt (fun q => l.getD q 0) l.length = txtL l := by
  have := txt_list l l.length (Nat.le_refl _)
  rw [this, List.take_length]
theorem nextR_A (d : Int) (l : List Int) (h : okI l) (hn : l.length ≤ 1000000) : FnA Tryz.prog 111 [.raw (.int .u64 d), liA l] (.raw (.int .u64 (nextM d l))) := by
  have hl := txtL_length h
  have h8 : (octs d).length = 8 := octs_length d
  have he := eight_G d
  have ht := textR_A l h hn
  have hs := sumR_A (octs d ++ txtL l) (by rw [List.length_append]; omega)
  unfold nextM
  rw [txt_txtL]
  have hfl : (liA l).free := liA_free l
  generalize octs d = O at *
  generalize txtL l = T at *
  refine fnA_of tblOk Tryz.func111 rfl (by kernel_rfl) 14 Tryz.ntmps111 lenT [.tmp 4] rfl ?_
  simp only [entrySt, argSl, Nat.zero_add, Nat.reduceAdd]
  try (first | refine wkN hK trivial ?_ | refine wkR trivial ?_)
  try clear hK K
  try (refine Stop.mk ?_; intro K hK)
  refine sCallG [] [] he rfl rfl rfl ⟨_, rfl, _, rfl, _, evl, obl, by decide, by decide, trivial, trivial, ⟨(fun _ h => by cases h), (fun _ h => by cases h), ⟨trivial, trivial⟩, Nat.le_refl _, Nat.zero_le _⟩, .row 0 O.length, rfl, [], rfl, [rowU O], rfl, ?_⟩
  refine stG ?_
  refine runS_nil (hK _ ?_); clear hK K
  repeat
    first
      | (refine runS_nil (hK _ ?_); clear hK K)
      | refine stR ?_
      | (refine gateS 1 rfl ?_; first | (refine runS_call rfl rfl ⟨_, evl, _, _, _, evl, oblG, ?_⟩; apply Exists.intro; refine ⟨fun hg => ?_, ?_⟩; · first | exact FnA.at_ (ht) rfl rfl | exact FnA.sim hs ⟨Sim.lstE (List.length_append).symm fun i hi => els_append rfl, trivial⟩ | exact FnA.at_s (ht) rfl simT | exact FnA.at_s (ht) rfl simF) | (refine runS_callR rfl rfl ⟨_, evl, _, _, _, evl, _, _, evl, oblG, ?_⟩; apply Exists.intro; refine ⟨fun hg => ?_, ?_⟩; · first | exact FnA.at_ (ht) rfl rfl | exact FnA.sim hs ⟨Sim.lstE (List.length_append).symm fun i hi => els_append rfl, trivial⟩ | exact FnA.at_s (ht) rfl simT | exact FnA.at_s (ht) rfl simF))
      | (refine gateA 1 rfl ?_; refine runA_call rfl ⟨_, evl, _, _, _, (fun _ _ => evlA), oblG, ?_⟩; apply Exists.intro; refine ⟨fun hg => ?_, ?_⟩; · first | exact FnA.at_ (ht) rfl rfl | exact FnA.sim hs ⟨Sim.lstE (List.length_append).symm fun i hi => els_append rfl, trivial⟩ | exact FnA.at_s (ht) rfl simT | exact FnA.at_s (ht) rfl simF)
      | (refine gateA 1 rfl ?_; refine runA_put ?_)
      | (refine gateBc ?_; first | (refine runB_nil (hK _ ?_); clear hK K) | (refine runB_op rfl ⟨_, evl, fun nb' => ?_⟩))
      | refine wpA_region (fun K hK => ?_)
      | (refine gateD ?_; first | (refine wpA_drawG false rfl (by kernel_rfl) (by kernel_rfl) (fun K hK => ?_)) | (refine wpA_drawG true rfl (by kernel_rfl) (by kernel_rfl) (fun K hK => ?_)))
  all_goals (try (refine ret_of (by simp) ⟨_, _, _, evl, ob0, OutOk.sims ?_ fre⟩))
  all_goals first | exact Sims.refl _ | exact finT | exact simsF | (refine Sims.tup ?_; simp only [SimsL, and_true]; (repeat' apply And.intro) <;> first | exact simsF | skip) | (exfalso; first | omega | (simp_all; done) | (simp_all; omega)) | skip
theorem nonceR_A (h host round auth : Int) (h1 : inK .i64 host) (h2 : inK .i64 round) (h3 : inK .i64 auth) : FnA Tryz.prog 68 [.raw (.int .u64 h), .raw (.int .i64 host), .raw (.int .i64 round), .raw (.int .i64 auth)] (.raw (.int .u64 (nonceM h host round auth))) := by
  have hx := nextR_A h [host, round, auth] (by intro x hx; simp only [List.mem_cons, List.not_mem_nil, or_false] at hx; rcases hx with rfl | rfl | rfl <;> assumption) (by simp)
  unfold nonceM
  refine fnA_of tblOk Tryz.func68 rfl (by kernel_rfl) 15 Tryz.ntmps68 lenT [.tmp 8] rfl ?_
  simp only [entrySt, argSl, Nat.zero_add, Nat.reduceAdd]
  repeat
    first
      | (refine runS_nil (hK _ ?_); clear hK K)
      | refine stG ?_
      | (refine gateS 1 rfl ?_; refine runS_call rfl rfl ⟨_, evl, _, _, _, evl, oblG, ?_⟩; apply Exists.intro; refine ⟨fun hg => ?_, ?_⟩; · first | exact FnA.sim hx ⟨Sim.refl _, Sim.lstE rfl fun i hi => chunk_lit (enc := iC) (l := [host, round, auth]) (fun _ => rfl) rfl hi, trivial⟩ )
      | (refine gateA 1 rfl ?_; refine runA_call rfl ⟨_, evl, _, _, _, (fun _ _ => evlA), oblG, ?_⟩; apply Exists.intro; refine ⟨fun hg => ?_, ?_⟩; · first | exact FnA.sim hx ⟨Sim.refl _, Sim.lstE rfl fun i hi => chunk_lit (enc := iC) (l := [host, round, auth]) (fun _ => rfl) rfl hi, trivial⟩ )
      | (refine gateA 1 rfl ?_; refine runA_put ?_)
      | (refine gateBc ?_; first | (refine runB_nil (hK _ ?_); clear hK K) | (refine runB_op rfl ⟨_, evl, fun nb' => ?_⟩))
      | refine wpA_region (fun K hK => ?_)
      | (refine gateD ?_; first | (refine wpA_drawG false rfl (by kernel_rfl) (by kernel_rfl) (fun K hK => ?_)) | (refine wpA_drawG true rfl (by kernel_rfl) (by kernel_rfl) (fun K hK => ?_)))
  all_goals (try (refine ret_of (by simp) ⟨_, _, _, evl, ob0, OutOk.sims ?_ fre⟩))
  all_goals first | exact Sims.refl _ | exact finT | exact simsF | (refine Sims.tup ?_; simp only [SimsL, and_true]; (repeat' apply And.intro) <;> first | exact simsF | skip) | (exfalso; first | omega | (simp_all; done) | (simp_all; omega)) | skip
end Go.Proofs.YtchpbdecipcelaaGreatDoor
namespace Go.Proofs.YtchpbdecipcelaaGreatDoor
set_option linter.unusedVariables false
set_option linter.unusedSimpArgs false
set_option maxHeartbeats 4000000
set_option maxRecDepth 100000
open Go.RowKit
theorem partyE {x y : Party} (h1 : x.kind = y.kind) (h2 : x.id = y.id) : x = y := by
  obtain ⟨_, _⟩ := x
  obtain ⟨_, _⟩ := y
  simp only at h1 h2
  rw [h1, h2]
theorem same_all {α : Type} [Inhabited α] {a b : List α} (h : a.length = b.length) (hall : ∀ i, i < a.length → a.getD i default = b.getD i default) : a = b :=
  List.ext_getElem h fun i h1 h2 => by have := hall i h1; rwa [getD_get h1, getD_get h2] at this
theorem sameP_A (a b : List Party) (hl : a.length ≤ 4611686018427387904) : FnA Tryz.prog 22 [lA 2 Party.av a, lA 2 Party.av b] (.raw (.bool (decide (a = b)))) := by
  refine fnA_of tblOk Tryz.func22 rfl (by kernel_rfl) 26 Tryz.ntmps22 lenT [.tmp 4] rfl ?_
  simp only [entrySt, argSl, Nat.zero_add, Nat.reduceAdd]
  repeat' first
    | refine wkG trivial ?_
    | (refine cndS ⟨_, evl, ⟨cb, cb⟩, fun hb => ?_, fun hb => ?_⟩ <;> try (cases hb; done))
    | (refine Stop.mk ?_; intro K hK)
    | fail
  · refine ret_of (by simp) ⟨_, _, _, evl, ob0, OutOk.eq ?_ (by simp [AV.free])⟩
    simp only [AV.raw.injEq, Value.bool.injEq]
    rw [eq_comm, decide_eq_false_iff_not]
    intro h
    have := congrArg List.length h
    omega
  refine wpA_loop (fun k : Nat => ⟨26, 0, [(0, true, lA 2 Party.av a), (1, true, lA 2 Party.av b), (5, true, .raw (.int .i64 k))], [], [], ((0, []), [], true)⟩)
    (fun k => k ≤ a.length ∧ ∀ i, i < k → a.getD i default = b.getD i default) (fun k => a.length - k) 0 ?_ ⟨by omega, fun i h => by omega⟩ ?_
  · refine wkn ?_ ?_ ?_
    all_goals first | exact wk0 | refine wkS ?_ | skip
    all_goals (try trivial)
    all_goals ((repeat' apply And.intro) <;> first | exact wkL | skip)
  · rintro k ⟨hk, hall⟩
    repeat' first
      | refine wkG trivial ?_
      | (refine cndS ⟨_, evl, ⟨cb, cb⟩, fun hb => ?_, fun hb => ?_⟩ <;> try (cases hb; done))
      | (refine Stop.mk ?_; intro K hK)
      | fail
    · refine ret_of (by simp) ⟨_, _, _, evl, ob0, OutOk.eq ?_ (by simp [AV.free])⟩
      simp only [AV.raw.injEq, Value.bool.injEq]
      rw [eq_comm, decide_eq_false_iff_not]
      rintro rfl
      simp at hb
    · refine ⟨k + 1, ⟨by omega, fun i hi => ?_⟩, by omega, ?_⟩
      · rcases Nat.lt_succ_iff_lt_or_eq.1 hi with h | rfl
        · exact hall i h
        · simp at hb
          exact partyE (by simp_all) (by simp_all)
      · refine wkn ?_ ?_ ?_
        all_goals first | exact wk0 | refine wkS ?_ | skip
        all_goals (try trivial)
        all_goals ((repeat' apply And.intro) <;> first | exact wkL | skip)
    · refine ret_of (by simp) ⟨_, _, _, evl, ob0, OutOk.eq ?_ (by simp [AV.free])⟩
      simp only [AV.raw.injEq, Value.bool.injEq]
      rw [eq_comm, decide_eq_true_eq]
      exact same_all (by omega) fun i hi => hall i (by omega)
theorem sameS_A (a b : List (List Party)) (hl : a.length ≤ 4611686018427387904) (ha : ∀ s ∈ a, s.length ≤ 4611686018427387904) : FnA Tryz.prog 19 [lA 1 sC2 a, lA 1 sC2 b] (.raw (.bool (decide (a = b)))) := by
  refine fnA_of tblOk Tryz.func19 rfl (by kernel_rfl) 29 Tryz.ntmps19 lenT [.tmp 4] rfl ?_
  simp only [entrySt, argSl, Nat.zero_add, Nat.reduceAdd]
  repeat' first
    | refine wkG trivial ?_
    | (refine cndS ⟨_, evl, ⟨cb, cb⟩, fun hb => ?_, fun hb => ?_⟩ <;> try (cases hb; done))
    | (refine Stop.mk ?_; intro K hK)
    | fail
  · refine ret_of (by simp) ⟨_, _, _, evl, ob0, OutOk.eq ?_ (by simp [AV.free])⟩
    simp only [AV.raw.injEq, Value.bool.injEq]
    rw [eq_comm, decide_eq_false_iff_not]
    intro h
    have := congrArg List.length h
    omega
  refine wpA_loop (fun k : Nat => ⟨29, 0, [(0, true, lA 1 sC2 a), (1, true, lA 1 sC2 b), (5, true, .raw (.int .i64 k))], [], [], ((0, []), [], true)⟩)
    (fun k => k ≤ a.length ∧ ∀ i, i < k → a.getD i default = b.getD i default) (fun k => a.length - k) 0 ?_ ⟨by omega, fun i h => by omega⟩ ?_
  · refine wkn ?_ ?_ ?_
    all_goals first | exact wk0 | refine wkS ?_ | skip
    all_goals (try trivial)
    all_goals ((repeat' apply And.intro) <;> first | exact wkL | skip)
  · rintro k ⟨hk, hall⟩
    rcases Nat.lt_or_ge k a.length with hlt | hge
    · have hs := sameP_A (a.getD k default) (b.getD k default) (ha _ (memD hlt))
      have f1 : (lA 2 Party.av (a.getD k default)).free := lA_free (fun z => Party.free z) _
      have f2 : (lA 2 Party.av (b.getD k default)).free := lA_free (fun z => Party.free z) _
      have hgen : ∀ z : Bool, z = decide (a.getD k default = b.getD k default) → (z = true ↔ a.getD k default = b.getD k default) := fun z e => by rw [e, decide_eq_true_iff]
      generalize hz : decide (a.getD k default = b.getD k default) = z at *
      have hz2 := hgen z rfl
      clear hz hgen ha
      repeat' first
        | refine wkG hs ?_
        | (refine cndS ⟨_, evl, ⟨cb, cb⟩, fun hb => ?_, fun hb => ?_⟩ <;> try (cases hb; done))
        | (refine Stop.mk ?_; intro K hK)
        | fail
      · refine ret_of (by simp) ⟨_, _, _, evl, ob0, OutOk.eq ?_ (by simp [AV.free])⟩
        simp only [AV.raw.injEq, Value.bool.injEq]
        rw [eq_comm, decide_eq_false_iff_not]
        rintro rfl
        simp_all
      · refine ⟨k + 1, ⟨by omega, fun i hi => ?_⟩, by omega, ?_⟩
        · rcases Nat.lt_succ_iff_lt_or_eq.1 hi with h | rfl
          · exact hall i h
          · exact hz2.1 (by assumption)
        · refine wkn ?_ ?_ ?_
          all_goals first | exact wk0 | refine wkS ?_ | skip
          all_goals (try trivial)
          all_goals ((repeat' apply And.intro) <;> first | exact wkL | skip)
      · omega
    · repeat' first
        | refine wkG trivial ?_
        | (refine cndS ⟨_, evl, ⟨cb, cb⟩, fun hb => ?_, fun hb => ?_⟩ <;> try (cases hb; done))
        | (refine Stop.mk ?_; intro K hK)
        | fail
      · omega
      · refine ret_of (by simp) ⟨_, _, _, evl, ob0, OutOk.eq ?_ (by simp [AV.free])⟩
        simp only [AV.raw.injEq, Value.bool.injEq]
        rw [eq_comm, decide_eq_true_eq]
        exact same_all (by omega) fun i hi => hall i (by omega)
end Go.Proofs.YtchpbdecipcelaaGreatDoor
