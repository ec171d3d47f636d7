/- ReplyKeys: for every input the law returns true, and each argument reads afterwards as it read before. Condition: the three listed tables of the library read as the program lays them (the card ties this to the text). -/
import Derived.Test.YtihnjbnlbedpaaaGreatDoorRows
import Derived.Test.YtihnjbnlbedpaaaGreatDoorCards
import Derived.Test.YtihnjbnlbedpaaaGreatDoorTie
import Derived.Test.YtihnjbnlbedpaaaGreatDoorLw23K
import Derived.Test.YtihnjbnlbedpaaaGreatDoorAlRow
import Derived.LaidMore
import Derived.SevenTiedAt
namespace Go.Proofs.YtihnjbnlbedpaaaGreatDoor.replyKeys
set_option linter.unusedVariables false
set_option linter.unusedSimpArgs false
set_option maxHeartbeats 4000000
set_option maxRecDepth 100000
open Go.ChangeShapes Go.WideShapes Go.ChangeAt Go.RowKit
theorem own : ownKnob Tryz.prog.godebug = none := by kernel_rfl
theorem laid : laidOutB Tryz.prog = true := by kernel_rfl
theorem params_ok : ∀ t ∈ Tryz.f5.params.toList, Tryz.prog.readableRec t = true ∧ t < Tryz.prog.types.size := by
  rw [Tryz.params5]
  simp only [List.forall_mem_cons, List.not_mem_nil, false_implies, implies_true, and_true]
  exact ⟨⟨by kernel_rfl, of_decide_eq_true (by kernel_rfl)⟩, ⟨by kernel_rfl, of_decide_eq_true (by kernel_rfl)⟩⟩
theorem door_met (os : Os) (args : Array Value) : laidMetH Tryz.prog Rows.replyKeysRow.laid ((World.doorLaid Tryz.prog 4000 os).forCall (fun _ _ => 0) ⟨#[], args, []⟩).memory :=
  laidMetH_of_parts3 (fuel := 8) (laidMet_of_run' 8 (by kernel_rfl) (by kernel_rfl)) (by kernel_rfl) (by kernel_rfl)
set_option maxRecDepth 100000 in
theorem lifted (os : Os) (started : os.Started) (H : Type) (enc : TypeId × Value → H) :
    ReturnsInHanded {} Tryz.checked os 5 .any (fun w args => (Rows.replyKeysSpec.pre enc Tryz.prog Tryz.f5 [] false w args ∧ laidMetH Tryz.prog Rows.replyKeysRow.laid w) ∧ sizedMet enc Tryz.prog Tryz.f5 (OpenSpec.ofChange Rows.replyKeysSpec) false w args) (Rows.replyKeysSpec.post enc Tryz.prog Tryz.f5 false true false false) := by
  refine returnsInHanded_of_change_and (C := Tryz.checked) (X := fun w _ => laidMetH Tryz.prog Rows.replyKeysRow.laid w) (fun _ _ _ hh h => h.of_heap hh) own started (by kernel_rfl) Tryz.func5
    (ChangeSpec.witness_shaped (enc := enc) (C := Tryz.checked) (os := os) (X := fun w _ => laidMetH Tryz.prog Rows.replyKeysRow.laid w) false (World.doorLaid Tryz.prog 4000 os) #[.slice none 0 0, .agg #[.int .i64 0, .int .i64 0, .int .i64 0, .int .u64 0, .int .i64 0, .int .i64 0, .int .i64 0, .int .i64 0, .int .i64 0, .int .i64 0]] 8 rfl (World.shaped_of_RefB (by kernel_rfl) (by kernel_rfl)) (by kernel_rfl) (by kernel_rfl) (by kernel_rfl) (door_met os _)) ?_
  intro W base args ds gs before hval0 hW _ _ hL _
  have hval : ∀ (j : Nat) t v, Tryz.f5.params[j]? = some t → args[j]? = some v → Value.okWide Tryz.prog W .any base t v := hval0
  have hW' := hW
  obtain ⟨p, q, hA0, hV, rfl, hfz, hnd⟩ := hW
  have hA : DataW.TrodAll enc Tryz.prog W 0 (fun _ => true) true Tryz.f5.params.toList args.toList ds p := hA0
  rw [Tryz.params5] at hA hval
  obtain ⟨v0, vs0, d0, ds0, p0, q0, hargs, rfl, rfl, h0, r0⟩ := trodAll_cons hA
  obtain ⟨v1, vs1, d1, ds1, p1, q1, rfl, rfl, rfl, h1, r1⟩ := trodAll_cons r0
  obtain ⟨rfl, rfl, rfl⟩ := trodAll_nil r1
  obtain rfl : args = #[v0, v1] := by cases args; simp_all
  obtain ⟨rfl, rfl⟩ := trodVars_none hV
  obtain ⟨x0, e0, k0⟩ := open_val tblOk (n := 30) (t := 22) rfl rfl (hval 0 22 v0 rfl rfl) h0
  obtain ⟨x1, e1, k1⟩ := open_val tblOk (n := 30) (t := 31) rfl rfl (hval 1 31 v1 rfl rfl) h1
  have F := replyKeys_B k0 k1
  refine (F.calls (presentI W) W [v0, v1] (tabs_of_laid hL) (fun _ _ h => h) ⟨v0, _, rfl, e0, v1, _, rfl, e1, rfl⟩).mono fun e W' ⟨v, imm', he, hb, _, _, _, hr⟩ => ?_
  have hv : v = .bool true := hr
  subst hv
  exact ⟨_, he, law_post laid params_ok rfl Tryz.underlying4 rfl hW' rfl hb⟩
theorem over : Rows.replyKeysRow.holds Tryz.pinned (OpenSpec.ofChange Rows.replyKeysSpec) :=
  OpenClaim.holds_of_wide 5 Tryz.f5 rfl rfl rfl rfl rfl rfl rfl ⟨rfl, rfl, rfl, rfl, rfl⟩ rfl rfl rfl rfl rfl (by kernel_rfl) Tryz.func5 (by kernel_rfl)
    (of_decide_eq_true (by kernel_rfl)) (by unfold Func.isWrapper; first | (rw [if_pos (by decide +kernel)]; kernel_rfl) | (rw [if_neg (by decide +kernel)]; exact ⟨rfl, rfl⟩))
    (fun os started H enc _ => lifted os started H enc)
theorem nostand : ∀ t ∈ Tryz.f5.params.toList, Tryz.prog.wantsStandIn t = false := by
  rw [Tryz.params5]
  simp only [List.forall_mem_cons, List.not_mem_nil, false_implies, implies_true, and_true]
  exact ⟨by kernel_rfl, by kernel_rfl⟩
/-- The statement. -/
theorem proved : Rows.ReplyKeysCardSaid :=
  Claim7.holds_tied_plain_at .later [] [.data, .data, .data] true (true, "5ce7bd9cb362a87a45f3f58c7667173b50d04af4b4a802b818ffd929f7f91cf8") false over (fun _ h => by cases h) (by kernel_rfl) (fun _ h => by cases h) replyKeys_row_tie rfl ⟨rfl, rfl⟩ (by kernel_rfl) rfl
    (fun f fn hf hfn => by
      obtain rfl : f = 5 := Option.some.inj ((show Tryz.prog.funcNamed "regulator/regulatorlaw23.ReplyKeys" = some 5 by kernel_rfl).symm.trans hf) |>.symm
      obtain rfl : fn = Tryz.f5 := (Option.some.inj (Tryz.func5.symm.trans hfn)).symm
      exact ⟨by kernel_rfl, fun j t ht => nostand t (Array.mem_toList_iff.2 (Array.mem_of_getElem? ht))⟩)
    (by kernel_rfl)
#print axioms proved
end Go.Proofs.YtihnjbnlbedpaaaGreatDoor.replyKeys
