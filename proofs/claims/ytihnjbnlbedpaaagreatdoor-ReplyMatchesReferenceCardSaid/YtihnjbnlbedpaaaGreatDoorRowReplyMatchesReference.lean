/- ReplyMatchesReference: for every input the law returns true, and each argument reads afterwards as it read before. Condition: the three listed tables of the library read as the program lays them (the card ties this to the text). -/
import Derived.Test.YtihnjbnlbedpaaaGreatDoorRows
import Derived.Test.YtihnjbnlbedpaaaGreatDoorCards
import Derived.Test.YtihnjbnlbedpaaaGreatDoorTie
import Derived.Test.YtihnjbnlbedpaaaGreatDoorLw23R
import Derived.Test.YtihnjbnlbedpaaaGreatDoorAlRow
import Derived.LaidMore
import Derived.SevenTiedAt
namespace Go.Proofs.YtihnjbnlbedpaaaGreatDoor.replyMatchesReference
set_option linter.unusedVariables false
set_option linter.unusedSimpArgs false
set_option maxHeartbeats 4000000
set_option maxRecDepth 100000
open Go.ChangeShapes Go.WideShapes Go.ChangeAt Go.RowKit
theorem own : ownKnob Tryz.prog.godebug = none := by kernel_rfl
theorem laid : laidOutB Tryz.prog = true := by kernel_rfl
theorem params_ok : ∀ t ∈ Tryz.f3.params.toList, Tryz.prog.readableRec t = true ∧ t < Tryz.prog.types.size := by
  rw [Tryz.params3]
  simp only [List.forall_mem_cons, List.not_mem_nil, false_implies, implies_true, and_true]
  exact ⟨⟨by kernel_rfl, of_decide_eq_true (by kernel_rfl)⟩, ⟨by kernel_rfl, of_decide_eq_true (by kernel_rfl)⟩, ⟨by kernel_rfl, of_decide_eq_true (by kernel_rfl)⟩, ⟨by kernel_rfl, of_decide_eq_true (by kernel_rfl)⟩, ⟨by kernel_rfl, of_decide_eq_true (by kernel_rfl)⟩, ⟨by kernel_rfl, of_decide_eq_true (by kernel_rfl)⟩, ⟨by kernel_rfl, of_decide_eq_true (by kernel_rfl)⟩, ⟨by kernel_rfl, of_decide_eq_true (by kernel_rfl)⟩, ⟨by kernel_rfl, of_decide_eq_true (by kernel_rfl)⟩, ⟨by kernel_rfl, of_decide_eq_true (by kernel_rfl)⟩⟩
theorem door_met (os : Os) (args : Array Value) : laidMetH Tryz.prog Rows.replyMatchesReferenceRow.laid ((World.doorLaid Tryz.prog 4000 os).forCall (fun _ _ => 0) ⟨#[], args, []⟩).memory :=
  laidMetH_of_parts3 (fuel := 8) (laidMet_of_run' 8 (by kernel_rfl) (by kernel_rfl)) (by kernel_rfl) (by kernel_rfl)
set_option maxRecDepth 100000 in
theorem lifted (os : Os) (started : os.Started) (H : Type) (enc : TypeId × Value → H) :
    ReturnsInHanded {} Tryz.checked os 3 .any (fun w args => (Rows.replyMatchesReferenceSpec.pre enc Tryz.prog Tryz.f3 [] false w args ∧ laidMetH Tryz.prog Rows.replyMatchesReferenceRow.laid w) ∧ sizedMet enc Tryz.prog Tryz.f3 (OpenSpec.ofChange Rows.replyMatchesReferenceSpec) false w args) (Rows.replyMatchesReferenceSpec.post enc Tryz.prog Tryz.f3 false true false false) := by
  refine returnsInHanded_of_change_and (C := Tryz.checked) (X := fun w _ => laidMetH Tryz.prog Rows.replyMatchesReferenceRow.laid w) (fun _ _ _ hh h => h.of_heap hh) own started (by kernel_rfl) Tryz.func3
    (ChangeSpec.witness_shaped (enc := enc) (C := Tryz.checked) (os := os) (X := fun w _ => laidMetH Tryz.prog Rows.replyMatchesReferenceRow.laid w) false (World.doorLaid Tryz.prog 4000 os) #[.slice none 0 0, .slice none 0 0, .slice none 0 0, .agg #[.int .i64 0, .int .i64 0, .int .i64 0, .int .u64 0, .int .i64 0, .int .i64 0, .int .i64 0, .int .i64 0, .int .i64 0, .int .i64 0], .agg #[.int .i64 0, .int .i64 0, .int .i64 0, .int .i64 0], .int .i64 0, .int .i64 0, .int .i64 0, .int .i64 0, .agg #[.int .i64 0, .int .i64 0]] 8 rfl (World.shaped_of_RefB (by kernel_rfl) (by kernel_rfl)) (by kernel_rfl) (by kernel_rfl) (by kernel_rfl) (door_met os _)) ?_
  intro W base args ds gs before hval0 hW _ _ hL _
  have hval : ∀ (j : Nat) t v, Tryz.f3.params[j]? = some t → args[j]? = some v → Value.okWide Tryz.prog W .any base t v := hval0
  have hW' := hW
  obtain ⟨p, q, hA0, hV, rfl, hfz, hnd⟩ := hW
  have hA : DataW.TrodAll enc Tryz.prog W 0 (fun _ => true) true Tryz.f3.params.toList args.toList ds p := hA0
  rw [Tryz.params3] at hA hval
  obtain ⟨v0, vs0, d0, ds0, p0, q0, hargs, rfl, rfl, h0, r0⟩ := trodAll_cons hA
  obtain ⟨v1, vs1, d1, ds1, p1, q1, rfl, rfl, rfl, h1, r1⟩ := trodAll_cons r0
  obtain ⟨v2, vs2, d2, ds2, p2, q2, rfl, rfl, rfl, h2, r2⟩ := trodAll_cons r1
  obtain ⟨v3, vs3, d3, ds3, p3, q3, rfl, rfl, rfl, h3, r3⟩ := trodAll_cons r2
  obtain ⟨v4, vs4, d4, ds4, p4, q4, rfl, rfl, rfl, h4, r4⟩ := trodAll_cons r3
  obtain ⟨v5, vs5, d5, ds5, p5, q5, rfl, rfl, rfl, h5, r5⟩ := trodAll_cons r4
  obtain ⟨v6, vs6, d6, ds6, p6, q6, rfl, rfl, rfl, h6, r6⟩ := trodAll_cons r5
  obtain ⟨v7, vs7, d7, ds7, p7, q7, rfl, rfl, rfl, h7, r7⟩ := trodAll_cons r6
  obtain ⟨v8, vs8, d8, ds8, p8, q8, rfl, rfl, rfl, h8, r8⟩ := trodAll_cons r7
  obtain ⟨v9, vs9, d9, ds9, p9, q9, rfl, rfl, rfl, h9, r9⟩ := trodAll_cons r8
  obtain ⟨rfl, rfl, rfl⟩ := trodAll_nil r9
  obtain rfl : args = #[v0, v1, v2, v3, v4, v5, v6, v7, v8, v9] := by cases args; simp_all
  obtain ⟨rfl, rfl⟩ := trodVars_none hV
  obtain ⟨x0, e0, k0⟩ := open_val tblOk (n := 30) (t := 22) rfl rfl (hval 0 22 v0 rfl rfl) h0
  obtain ⟨x1, e1, k1⟩ := open_val tblOk (n := 30) (t := 23) rfl rfl (hval 1 23 v1 rfl rfl) h1
  obtain ⟨x2, e2, k2⟩ := open_val tblOk (n := 30) (t := 24) rfl rfl (hval 2 24 v2 rfl rfl) h2
  obtain ⟨x3, e3, k3⟩ := open_val tblOk (n := 30) (t := 31) rfl rfl (hval 3 31 v3 rfl rfl) h3
  obtain ⟨x4, e4, k4⟩ := open_val tblOk (n := 30) (t := 33) rfl rfl (hval 4 33 v4 rfl rfl) h4
  obtain ⟨x5, e5, k5⟩ := open_val tblOk (n := 30) (t := 3) rfl rfl (hval 5 3 v5 rfl rfl) h5
  obtain ⟨x6, e6, k6⟩ := open_val tblOk (n := 30) (t := 3) rfl rfl (hval 6 3 v6 rfl rfl) h6
  obtain ⟨x7, e7, k7⟩ := open_val tblOk (n := 30) (t := 3) rfl rfl (hval 7 3 v7 rfl rfl) h7
  obtain ⟨x8, e8, k8⟩ := open_val tblOk (n := 30) (t := 3) rfl rfl (hval 8 3 v8 rfl rfl) h8
  obtain ⟨x9, e9, k9⟩ := open_val tblOk (n := 30) (t := 27) rfl rfl (hval 9 27 v9 rfl rfl) h9
  have F := replyMatches_B k0 k1 k2 k3 k4 k5 k6 k7 k8 k9
  refine (F.calls (presentI W) W [v0, v1, v2, v3, v4, v5, v6, v7, v8, v9] (tabs_of_laid hL) (fun _ _ h => h) ⟨v0, _, rfl, e0, v1, _, rfl, e1, v2, _, rfl, e2, v3, _, rfl, e3, v4, _, rfl, e4, v5, _, rfl, e5, v6, _, rfl, e6, v7, _, rfl, e7, v8, _, rfl, e8, v9, _, rfl, e9, rfl⟩).mono fun e W' ⟨v, imm', he, hb, _, _, _, hr⟩ => ?_
  have hv : v = .bool true := hr
  subst hv
  exact ⟨_, he, law_post laid params_ok rfl Tryz.underlying4 rfl hW' rfl hb⟩
theorem over : Rows.replyMatchesReferenceRow.holds Tryz.pinned (OpenSpec.ofChange Rows.replyMatchesReferenceSpec) :=
  OpenClaim.holds_of_wide 3 Tryz.f3 rfl rfl rfl rfl rfl rfl rfl ⟨rfl, rfl, rfl, rfl, rfl⟩ rfl rfl rfl rfl rfl (by kernel_rfl) Tryz.func3 (by kernel_rfl)
    (of_decide_eq_true (by kernel_rfl)) (by unfold Func.isWrapper; first | (rw [if_pos (by decide +kernel)]; kernel_rfl) | (rw [if_neg (by decide +kernel)]; exact ⟨rfl, rfl⟩))
    (fun os started H enc _ => lifted os started H enc)
theorem nostand : ∀ t ∈ Tryz.f3.params.toList, Tryz.prog.wantsStandIn t = false := by
  rw [Tryz.params3]
  simp only [List.forall_mem_cons, List.not_mem_nil, false_implies, implies_true, and_true]
  exact ⟨by kernel_rfl, by kernel_rfl, by kernel_rfl, by kernel_rfl, by kernel_rfl, by kernel_rfl, by kernel_rfl, by kernel_rfl, by kernel_rfl, by kernel_rfl⟩
/-- The statement. -/
theorem proved : Rows.ReplyMatchesReferenceCardSaid :=
  Claim7.holds_tied_plain_at .later [] [.data, .data, .data] true (true, "5ce7bd9cb362a87a45f3f58c7667173b50d04af4b4a802b818ffd929f7f91cf8") false over (fun _ h => by cases h) (by kernel_rfl) (fun _ h => by cases h) replyMatchesReference_row_tie rfl ⟨rfl, rfl⟩ (by kernel_rfl) rfl
    (fun f fn hf hfn => by
      obtain rfl : f = 3 := Option.some.inj ((show Tryz.prog.funcNamed "regulator/regulatorlaw23.ReplyMatchesReference" = some 3 by kernel_rfl).symm.trans hf) |>.symm
      obtain rfl : fn = Tryz.f3 := (Option.some.inj (Tryz.func3.symm.trans hfn)).symm
      exact ⟨by kernel_rfl, fun j t ht => nostand t (Array.mem_toList_iff.2 (Array.mem_of_getElem? ht))⟩)
    (by kernel_rfl)
#print axioms proved
end Go.Proofs.YtihnjbnlbedpaaaGreatDoor.replyMatchesReference
