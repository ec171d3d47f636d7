/- VerdictSmallest: for every input the law returns true, and each argument reads afterwards as it read before. Condition: the three listed tables of the library read as the program lays them (the card ties this to the text). -/
import Derived.LaidMore
import Derived.SevenTiedAt
import Derived.Test.YtchpbdecipcelaaGreatDoorCards
import Derived.Test.YtchpbdecipcelaaGreatDoorRows
import Derived.Test.YtchpbdecipcelaaGreatDoorTie
import Derived.Test.YtchpbdecipcelaaGreatDoorSM08
import Derived.Test.YtchpbdecipcelaaGreatDoorSM50
namespace Go.Proofs.YtchpbdecipcelaaGreatDoor.verdictSmallest
set_option linter.unusedVariables false
set_option linter.unusedSimpArgs false
set_option maxHeartbeats 4000000
set_option maxRecDepth 100000
open Go.ChangeShapes Go.WideShapes Go.ChangeAt Go.RowKit
theorem own : ownKnob Tryz.prog.godebug = none := by kernel_rfl
theorem laid : laidOutB Tryz.prog = true := by kernel_rfl
theorem params_ok : ∀ t ∈ Tryz.f8.params.toList, Tryz.prog.readableRec t = true ∧ t < Tryz.prog.types.size := by
  rw [Tryz.params8]
  simp only [List.forall_mem_cons, List.not_mem_nil, false_implies, implies_true, and_true]
  exact ⟨⟨by kernel_rfl, of_decide_eq_true (by kernel_rfl)⟩, ⟨by kernel_rfl, of_decide_eq_true (by kernel_rfl)⟩⟩
theorem door_met (os : Os) (args : Array Value) : laidMetH Tryz.prog Rows.verdictSmallestRow.laid ((World.doorLaid Tryz.prog 4000 os).forCall (fun _ _ => 0) ⟨#[], args, []⟩).memory :=
  laidMetH_of_parts3 (fuel := 8) (laidMet_of_run' 8 (by kernel_rfl) (by kernel_rfl)) (by kernel_rfl) (by kernel_rfl)
set_option maxRecDepth 100000 in
theorem lifted (os : Os) (started : os.Started) (H : Type) (enc : TypeId × Value → H) :
    ReturnsInHanded {} Tryz.checked os 8 .any (fun w args => (Rows.verdictSmallestSpec.pre enc Tryz.prog Tryz.f8 [] false w args ∧ laidMetH Tryz.prog Rows.verdictSmallestRow.laid w) ∧ sizedMet enc Tryz.prog Tryz.f8 (OpenSpec.ofChange Rows.verdictSmallestSpec) false w args) (Rows.verdictSmallestSpec.post enc Tryz.prog Tryz.f8 false true false false) := by
  refine returnsInHanded_of_change_and (C := Tryz.checked) (X := fun w _ => laidMetH Tryz.prog Rows.verdictSmallestRow.laid w) (fun _ _ _ hh h => h.of_heap hh) own started (by kernel_rfl) Tryz.func8
    (ChangeSpec.witness_shaped (enc := enc) (C := Tryz.checked) (os := os) (X := fun w _ => laidMetH Tryz.prog Rows.verdictSmallestRow.laid w) false (World.doorLaid Tryz.prog 4000 os) #[.agg #[.slice none 0 0, .slice none 0 0, .int .i64 0, .slice none 0 0, .slice none 0 0, .slice none 0 0], .int .i64 0] 8 rfl (World.shaped_of_RefB (by kernel_rfl) (by kernel_rfl)) (by kernel_rfl) (by kernel_rfl) (by kernel_rfl) (door_met os _)) ?_
  intro W base args ds gs before hval0 hW _ hwt hL _
  simp only [List.all_eq_true, decide_eq_true_eq] at hwt
  have hval : ∀ (j : Nat) t v, Tryz.f8.params[j]? = some t → args[j]? = some v → Value.okWide Tryz.prog W .any base t v := hval0
  have hW' := hW
  obtain ⟨p, q, hA0, hV, rfl, hfz, hnd⟩ := hW
  have hA : DataW.TrodAll enc Tryz.prog W 0 (fun _ => true) true Tryz.f8.params.toList args.toList ds p := hA0
  rw [Tryz.params8] at hA hval
  obtain ⟨v0, vs0, d0, ds0, p0, q0, hargs, rfl, rfl, h0, r0⟩ := trodAll_cons hA
  obtain ⟨v1, vs1, d1, ds1, p1, q1, rfl, rfl, rfl, h1, r1⟩ := trodAll_cons r0
  obtain ⟨rfl, rfl, rfl⟩ := trodAll_nil r1
  obtain rfl : args = #[v0, v1] := by cases args; simp_all
  obtain ⟨rfl, rfl⟩ := trodVars_none hV
  obtain ⟨x0, e0, k0⟩ := open_val tblOk (n := 30) (t := 30) rfl rfl (hval 0 30 v0 rfl rfl) h0 (wEach (q := 0) hwt (by rw [Tryz.params8]; rfl) rfl)
  obtain ⟨x1, e1, k1⟩ := open_val tblOk (n := 30) (t := 3) rfl rfl (hval 1 3 v1 rfl rfl) h1 (wEach (q := 1) hwt (by rw [Tryz.params8]; rfl) rfl)
  have F := verdictSmallest_B k0 k1
  refine (F.calls (presentI W) W [v0, v1] (tabs_of_laid hL) (fun _ _ h => h) ⟨v0, _, rfl, e0, v1, _, rfl, e1, rfl⟩).mono fun e W' ⟨v, imm', he, hb, _, _, _, hr⟩ => ?_
  have hv : v = .bool true := hr
  subst hv
  exact ⟨_, he, law_post laid params_ok rfl Tryz.underlying4 rfl hW' rfl hb⟩
theorem j_name : Tryz.pinned.checked.prog.funcNamed Rows.verdictSmallestRow.func = some 8 := by kernel_rfl
theorem j_2 : laidOutB Tryz.pinned.checked.prog = true := by kernel_rfl
theorem j_3 : mapsRowed Tryz.pinned.checked.prog = true := by kernel_rfl
theorem j_10 : (Rows.verdictSmallestRow.inPlace == Tryz.pinned.checked.prog.inPlace 8) = true := by kernel_rfl
theorem j_11 : (Rows.verdictSmallestRow.unfollowed == Tryz.pinned.checked.prog.unfollowed 8) = true := by kernel_rfl
theorem j_12 : (Rows.verdictSmallestRow.recurses == Tryz.pinned.checked.prog.recurses 8) = true := by kernel_rfl
theorem j_13 : (Rows.verdictSmallestRow.named == Tryz.pinned.checked.prog.varsNamed 8) = true := by kernel_rfl
theorem j_23 : (Rows.verdictSmallestRow.plainKeys == Tryz.pinned.checked.prog.plainKeys) = true := by kernel_rfl
theorem j_25 : Tryz.pinned.checked.prog.stopsHeard = true := by kernel_rfl
theorem j_27 : (Rows.verdictSmallestRow.lifted == Tryz.pinned.checked.prog.liftsFinal) = true := by kernel_rfl
theorem bt {a b : Bool} (h : a = true) (k : b = true) : (a && b) = true := by rw [h, k]; rfl
theorem j_facts : joinedFacts Tryz.pinned.checked.prog 8 Tryz.f8 Rows.verdictSmallestSpec Rows.verdictSmallestRow = true := by
  unfold joinedFacts
  exact (bt (bt (bt (bt (bt (bt (bt (bt (bt (bt (bt (bt (bt (bt (bt (bt (bt (bt (bt (bt (bt (bt (bt (bt (bt (bt (bt (bt (bt (bt (bt (by kernel_rfl) j_2) j_3) (by kernel_rfl)) (by kernel_rfl)) (by kernel_rfl)) (by kernel_rfl)) (by kernel_rfl)) (by kernel_rfl)) j_10) j_11) j_12) j_13) (by kernel_rfl)) (by kernel_rfl)) (by kernel_rfl)) (by kernel_rfl)) (by kernel_rfl)) (by kernel_rfl)) (by kernel_rfl)) (by kernel_rfl)) (by kernel_rfl)) j_23) (by kernel_rfl)) j_25) (by kernel_rfl)) j_27) (by kernel_rfl)) (by kernel_rfl)) (by kernel_rfl)) (by kernel_rfl)) (by kernel_rfl))
theorem j_wrap : Tryz.f8.isWrapper Tryz.pinned.checked.prog Rows.verdictSmallestRow.wrapper Rows.verdictSmallestRow.mainSum := by unfold Func.isWrapper; first | (rw [if_pos (by decide +kernel)]; kernel_rfl) | (rw [if_neg (by decide +kernel)]; exact ⟨rfl, rfl⟩)
theorem over : Rows.verdictSmallestRow.holds Tryz.pinned (OpenSpec.ofChange Rows.verdictSmallestSpec) :=
  OpenClaim.holds_of_wide 8 Tryz.f8 rfl rfl rfl rfl rfl rfl rfl ⟨rfl, rfl, rfl, rfl, rfl⟩ rfl rfl rfl rfl rfl j_name Tryz.func8 j_facts
    (of_decide_eq_true (by kernel_rfl)) j_wrap
    (fun os started H enc _ => lifted os started H enc)
theorem nostand : ∀ t ∈ Tryz.f8.params.toList, Tryz.prog.wantsStandIn t = false := by
  rw [Tryz.params8]
  simp only [List.forall_mem_cons, List.not_mem_nil, false_implies, implies_true, and_true]
  exact ⟨by kernel_rfl, by kernel_rfl⟩
/-- The statement. -/
theorem proved : Rows.VerdictSmallestCardSaid :=
  Claim7.holds_tied_plain_at .later [] [.data, .data, .data] true (true, "eac7376d477e7e5c080e9ee201fb6c7de8c55b804c17dc0cd5f5374ee70a1342") false over (fun _ h => by cases h) (by kernel_rfl) (fun _ h => by cases h) verdictSmallest_row_tie rfl ⟨rfl, rfl⟩ (by kernel_rfl) rfl
    (fun f fn hf hfn => by
      obtain rfl : f = 8 := Option.some.inj ((show Tryz.prog.funcNamed "regulator/regulatorlaw44.VerdictSmallest" = some 8 by kernel_rfl).symm.trans hf) |>.symm
      obtain rfl : fn = Tryz.f8 := (Option.some.inj (Tryz.func8.symm.trans hfn)).symm
      exact ⟨by kernel_rfl, fun j t ht => nostand t (Array.mem_toList_iff.2 (Array.mem_of_getElem? ht))⟩)
    (by kernel_rfl)
#print axioms proved
end Go.Proofs.YtchpbdecipcelaaGreatDoor.verdictSmallest
