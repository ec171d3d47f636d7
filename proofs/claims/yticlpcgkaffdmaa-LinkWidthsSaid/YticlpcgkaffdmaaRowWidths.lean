/- LinkWidths: for every input the law returns true, and each argument reads afterwards as it read before. Condition: none. -/
import Derived.Test.YticlpcgkaffdmaaRows
import Derived.Test.YticlpcgkaffdmaaBrB
import Derived.Test.YticlpcgkaffdmaaAlRow
namespace Go.Proofs.Yticlpcgkaffdmaa.linkWidths
set_option linter.unusedSectionVars false
set_option linter.unusedVariables false
set_option linter.unusedSimpArgs false
open Go.ChangeShapes Go.WideShapes Go.ChangeAt Go.RowKit
theorem own : ownKnob Try.prog.godebug = none := by kernel_rfl
theorem laid : laidOutB Try.prog = true := by kernel_rfl
theorem params_ok : ∀ t ∈ Try.f7.params.toList, Try.prog.readableRec t = true ∧ t < Try.prog.types.size := by
  rw [Try.params7]
  simp only [List.forall_mem_cons, List.not_mem_nil, false_implies, implies_true, and_true]
  exact ⟨⟨by kernel_rfl, of_decide_eq_true (by kernel_rfl)⟩, ⟨by kernel_rfl, of_decide_eq_true (by kernel_rfl)⟩⟩
set_option maxRecDepth 100000 in
theorem lifted (os : Os) (started : os.Started) (H : Type) (enc : TypeId × Value → H) :
    ReturnsInHanded {} Try.checked os 7 .any (Rows.linkWidthsSpec.pre6 enc Try.prog Try.f7 Rows.linkWidthsRow.domain false) (Rows.linkWidthsSpec.post enc Try.prog Try.f7 false true false false) := by
  refine returnsInHanded_of_change (C := Try.checked) own started (by kernel_rfl) Try.func7
    (ChangeSpec.witness6 (enc := enc) (C := Try.checked) false ⟨#[], #[.agg #[.int .i64 0, .int .i64 0, .int .i64 0, .int .i64 0, .int .i64 0], .agg #[.int .i64 0, .int .i64 0]], []⟩ 8 (by kernel_rfl) (by kernel_rfl) (by kernel_rfl) (by kernel_rfl)) ?_
  intro W base args ds gs before hval0 hW hcnd _
  have hval : ∀ (j : Nat) t v, Try.f7.params[j]? = some t → args[j]? = some v → Value.okWide Try.prog W .any base t v := hval0
  have hW' := hW
  obtain ⟨p, q, hA0, hV, rfl, hfz, hnd⟩ := hW
  have hA : DataW.TrodAll enc Try.prog W 0 (fun _ => true) true Try.f7.params.toList args.toList ds p := hA0
  rw [Try.params7] at hA hval
  obtain ⟨v0, vs0, d0, ds0, p0, q0, hargs, rfl, rfl, h0, r0⟩ := trodAll_cons hA
  obtain ⟨v1, vs1, d1, ds1, p1, q1, rfl, rfl, rfl, h1, r1⟩ := trodAll_cons r0
  obtain ⟨rfl, rfl, rfl⟩ := trodAll_nil r1
  obtain rfl : args = #[v0, v1] := by cases args; simp_all
  obtain ⟨rfl, rfl⟩ := trodVars_none hV
  obtain ⟨x0, e0, k0⟩ := open_val tblOk (n := 30) (t := 24) rfl rfl (hval 0 24 v0 rfl rfl) h0
  obtain ⟨x1, e1, k1⟩ := open_val tblOk (n := 30) (t := 26) rfl rfl (hval 1 26 v1 rfl rfl) h1
  have F := linkWidths_B k0 k1
  refine (F.calls (presentI W) W [v0, v1] (fun _ _ h => h) ⟨v0, _, rfl, e0, v1, _, rfl, e1, rfl⟩).mono fun e W' ⟨v, imm', he, hb, _, _, _, hr⟩ => ?_
  have hv : v = .bool true := hr
  subst hv
  exact ⟨_, he, law_post laid params_ok rfl Try.underlying4 rfl hW' rfl hb⟩
theorem over : Rows.linkWidthsRow.holds Try.pinned (OpenSpec.ofChange Rows.linkWidthsSpec) :=
  OpenClaim.holds_of_wide 7 Try.f7 rfl rfl rfl rfl rfl rfl rfl ⟨rfl, rfl, rfl, rfl, rfl⟩ rfl rfl rfl rfl rfl (by kernel_rfl) Try.func7 (by kernel_rfl)
    (of_decide_eq_true (by kernel_rfl)) (by unfold Func.isWrapper; first | (rw [if_pos (by decide +kernel)]; kernel_rfl) | (rw [if_neg (by decide +kernel)]; exact ⟨rfl, rfl⟩))
    (fun os started H enc _ => lifted os started H enc)
/-- The statement. -/
theorem proved : Rows.LinkWidthsSaid := over
#print axioms proved
end Go.Proofs.Yticlpcgkaffdmaa.linkWidths
