/- VerdictNever: for every input the law returns true, and each argument reads afterwards as it read before. Condition: the three listed tables of the library read as the program lays them (the card ties this to the text). -/
import Derived.LaidMore
import Derived.SevenTiedAt
import Derived.Test.YtchpbdecipcelaaGreatDoorCards
import Derived.Test.YtchpbdecipcelaaGreatDoorRows
import Derived.Test.YtchpbdecipcelaaGreatDoorTie
import Derived.Test.YtchpbdecipcelaaGreatDoorNV08
import Derived.Test.YtchpbdecipcelaaGreatDoorNV50
namespace Go.Proofs.YtchpbdecipcelaaGreatDoor.verdictNever
set_option linter.unusedVariables false
set_option linter.unusedSimpArgs false
set_option maxHeartbeats 4000000
set_option maxRecDepth 100000
open Go.ChangeShapes Go.WideShapes Go.ChangeAt Go.RowKit
theorem own : ownKnob Tryz.prog.godebug = none := by kernel_rfl
theorem laid : laidOutB Tryz.prog = true := by kernel_rfl
theorem params_ok : ∀ t ∈ Tryz.f5.params.toList, Tryz.prog.readableRec t = true ∧ t < Tryz.prog.types.size := by
  rw [Tryz.params5]
  simp only [List.forall_mem_cons, List.not_mem_nil, false_implies, implies_true, and_true]
  exact ⟨⟨by kernel_rfl, of_decide_eq_true (by kernel_rfl)⟩, ⟨by kernel_rfl, of_decide_eq_true (by kernel_rfl)⟩, ⟨by kernel_rfl, of_decide_eq_true (by kernel_rfl)⟩⟩
theorem door_met (os : Os) (args : Array Value) : laidMetH Tryz.prog Rows.verdictNeverRow.laid ((World.doorLaid Tryz.prog 4000 os).forCall (fun _ _ => 0) ⟨#[], args, []⟩).memory :=
  laidMetH_of_parts3 (fuel := 8) (laidMet_of_run' 8 (by kernel_rfl) (by kernel_rfl)) (by kernel_rfl) (by kernel_rfl)
set_option maxRecDepth 100000 in
theorem lifted (os : Os) (started : os.Started) (H : Type) (enc : TypeId × Value → H) :
    ReturnsInHanded {} Tryz.checked os 5 .any (fun w args => (Rows.verdictNeverSpec.pre enc Tryz.prog Tryz.f5 [] false w args ∧ laidMetH Tryz.prog Rows.verdictNeverRow.laid w) ∧ sizedMet enc Tryz.prog Tryz.f5 (OpenSpec.ofChange Rows.verdictNeverSpec) false w args) (Rows.verdictNeverSpec.post enc Tryz.prog Tryz.f5 false true false false) := by
  refine returnsInHanded_of_change_and (C := Tryz.checked) (X := fun w _ => laidMetH Tryz.prog Rows.verdictNeverRow.laid w) (fun _ _ _ hh h => h.of_heap hh) own started (by kernel_rfl) Tryz.func5
    (ChangeSpec.witness_shaped (enc := enc) (C := Tryz.checked) (os := os) (X := fun w _ => laidMetH Tryz.prog Rows.verdictNeverRow.laid w) false (World.doorLaid Tryz.prog 4000 os) #[.agg #[.slice none 0 0, .slice none 0 0, .int .i64 0, .slice none 0 0, .slice none 0 0, .slice none 0 0], .slice none 0 0, .int .i64 0] 8 rfl (World.shaped_of_RefB (by kernel_rfl) (by kernel_rfl)) (by kernel_rfl) (by kernel_rfl) (by kernel_rfl) (door_met os _)) ?_
  intro W base args ds gs before hval0 hW _ hwt hL _
  simp only [List.all_eq_true, decide_eq_true_eq] at hwt
  have hval : ∀ (j : Nat) t v, Tryz.f5.params[j]? = some t → args[j]? = some v → Value.okWide Tryz.prog W .any base t v := hval0
  have hW' := hW
  obtain ⟨p, q, hA0, hV, rfl, hfz, hnd⟩ := hW
  have hA : DataW.TrodAll enc Tryz.prog W 0 (fun _ => true) true Tryz.f5.params.toList args.toList ds p := hA0
  rw [Tryz.params5] at hA hval
  obtain ⟨v0, vs0, d0, ds0, p0, q0, hargs, rfl, rfl, h0, r0⟩ := trodAll_cons hA
  obtain ⟨v1, vs1, d1, ds1, p1, q1, rfl, rfl, rfl, h1, r1⟩ := trodAll_cons r0
  obtain ⟨v2, vs2, d2, ds2, p2, q2, rfl, rfl, rfl, h2, r2⟩ := trodAll_cons r1
  obtain ⟨rfl, rfl, rfl⟩ := trodAll_nil r2
  obtain rfl : args = #[v0, v1, v2] := by cases args; simp_all
  obtain ⟨rfl, rfl⟩ := trodVars_none hV
  obtain ⟨x0, e0, k0⟩ := open_val tblOk (n := 30) (t := 30) rfl rfl (hval 0 30 v0 rfl rfl) h0 (wEach (q := 0) hwt (by rw [Tryz.params5]; rfl) rfl)
  obtain ⟨x1, e1, k1⟩ := open_val tblOk (n := 30) (t := 32) rfl rfl (hval 1 32 v1 rfl rfl) h1 (wEach (q := 1) hwt (by rw [Tryz.params5]; rfl) rfl)
  obtain ⟨x2, e2, k2⟩ := open_val tblOk (n := 30) (t := 3) rfl rfl (hval 2 3 v2 rfl rfl) h2 (wEach (q := 2) hwt (by rw [Tryz.params5]; rfl) rfl)
  have F := verdictNever_B k0 k1 k2
  refine (F.calls (presentI W) W [v0, v1, v2] (tabs_of_laid hL) (fun _ _ h => h) ⟨v0, _, rfl, e0, v1, _, rfl, e1, v2, _, rfl, e2, rfl⟩).mono fun e W' ⟨v, imm', he, hb, _, _, _, hr⟩ => ?_
  have hv : v = .bool true := hr
  subst hv
  exact ⟨_, he, law_post laid params_ok rfl Tryz.underlying4 rfl hW' rfl hb⟩
theorem j_name : Tryz.pinned.checked.prog.funcNamed Rows.verdictNeverRow.func = some 5 := by kernel_rfl
theorem j_2 : laidOutB Tryz.pinned.checked.prog = true := by kernel_rfl
theorem j_3 : mapsRowed Tryz.pinned.checked.prog = true := by kernel_rfl
theorem j_10 : (Rows.verdictNeverRow.inPlace == Tryz.pinned.checked.prog.inPlace 5) = true := by kernel_rfl
theorem j_11 : (Rows.verdictNeverRow.unfollowed == Tryz.pinned.checked.prog.unfollowed 5) = true := by kernel_rfl
theorem j_12 : (Rows.verdictNeverRow.recurses == Tryz.pinned.checked.prog.recurses 5) = true := by kernel_rfl
theorem j_13 : (Rows.verdictNeverRow.named == Tryz.pinned.checked.prog.varsNamed 5) = true := by kernel_rfl
theorem j_23 : (Rows.verdictNeverRow.plainKeys == Tryz.pinned.checked.prog.plainKeys) = true := by kernel_rfl
theorem j_25 : Tryz.pinned.checked.prog.stopsHeard = true := by kernel_rfl
theorem j_27 : (Rows.verdictNeverRow.lifted == Tryz.pinned.checked.prog.liftsFinal) = true := by kernel_rfl
theorem bt {a b : Bool} (h : a = true) (k : b = true) : (a && b) = true := by rw [h, k]; rfl
theorem j_facts : joinedFacts Tryz.pinned.checked.prog 5 Tryz.f5 Rows.verdictNeverSpec Rows.verdictNeverRow = true := by
  unfold joinedFacts
  exact (bt (bt (bt (bt (bt (bt (bt (bt (bt (bt (bt (bt (bt (bt (bt (bt (bt (bt (bt (bt (bt (bt (bt (bt (bt (bt (bt (bt (bt (bt (bt (by kernel_rfl) j_2) j_3) (by kernel_rfl)) (by kernel_rfl)) (by kernel_rfl)) (by kernel_rfl)) (by kernel_rfl)) (by kernel_rfl)) j_10) j_11) j_12) j_13) (by kernel_rfl)) (by kernel_rfl)) (by kernel_rfl)) (by kernel_rfl)) (by kernel_rfl)) (by kernel_rfl)) (by kernel_rfl)) (by kernel_rfl)) (by kernel_rfl)) j_23) (by kernel_rfl)) j_25) (by kernel_rfl)) j_27) (by kernel_rfl)) (by kernel_rfl)) (by kernel_rfl)) (by kernel_rfl)) (by kernel_rfl))
theorem j_wrap : Tryz.f5.isWrapper Tryz.pinned.checked.prog Rows.verdictNeverRow.wrapper Rows.verdictNeverRow.mainSum := by unfold Func.isWrapper; first | (rw [if_pos (by decide +kernel)]; kernel_rfl) | (rw [if_neg (by decide +kernel)]; exact ⟨rfl, rfl⟩)
theorem over : Rows.verdictNeverRow.holds Tryz.pinned (OpenSpec.ofChange Rows.verdictNeverSpec) :=
  OpenClaim.holds_of_wide 5 Tryz.f5 rfl rfl rfl rfl rfl rfl rfl ⟨rfl, rfl, rfl, rfl, rfl⟩ rfl rfl rfl rfl rfl j_name Tryz.func5 j_facts
    (of_decide_eq_true (by kernel_rfl)) j_wrap
    (fun os started H enc _ => lifted os started H enc)
theorem nostand : ∀ t ∈ Tryz.f5.params.toList, Tryz.prog.wantsStandIn t = false := by
  rw [Tryz.params5]
  simp only [List.forall_mem_cons, List.not_mem_nil, false_implies, implies_true, and_true]
  exact ⟨by kernel_rfl, by kernel_rfl, by kernel_rfl⟩
/-- The statement. -/
theorem proved : Rows.VerdictNeverCardSaid :=
  Claim7.holds_tied_plain_at .later [] [.data, .data, .data] true (true, "eac7376d477e7e5c080e9ee201fb6c7de8c55b804c17dc0cd5f5374ee70a1342") false over (fun _ h => by cases h) (by kernel_rfl) (fun _ h => by cases h) verdictNever_row_tie rfl ⟨rfl, rfl⟩ (by kernel_rfl) rfl
    (fun f fn hf hfn => by
      obtain rfl : f = 5 := Option.some.inj ((show Tryz.prog.funcNamed "regulator/regulatorlaw44.VerdictNever" = some 5 by kernel_rfl).symm.trans hf) |>.symm
      obtain rfl : fn = Tryz.f5 := (Option.some.inj (Tryz.func5.symm.trans hfn)).symm
      exact ⟨by kernel_rfl, fun j t ht => nostand t (Array.mem_toList_iff.2 (Array.mem_of_getElem? ht))⟩)
    (by kernel_rfl)
#print axioms proved
end Go.Proofs.YtchpbdecipcelaaGreatDoor.verdictNever
