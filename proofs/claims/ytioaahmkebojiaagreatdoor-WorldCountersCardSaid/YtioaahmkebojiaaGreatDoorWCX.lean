import Derived.Test.YtioaahmkebojiaaGreatDoorWC50
import Derived.Test.YtioaahmkebojiaaGreatDoorWC52
import Derived.Test.YtioaahmkebojiaaGreatDoorCards
import Derived.Test.YtioaahmkebojiaaGreatDoorTie
import Derived.Test.YtioaahmkebojiaaGreatDoorWC51
import Derived.Test.YtioaahmkebojiaaGreatDoorWC53
namespace Go.Proofs.YtioaahmkebojiaaGreatDoor.worldCounters
set_option linter.unusedVariables false
set_option linter.unusedSimpArgs false
set_option maxHeartbeats 4000000
set_option maxRecDepth 100000
open Go.ChangeShapes Go.WideShapes Go.ChangeAt Go.RowKit
theorem lifted (os : Os) (started : os.Started) (H : Type) (enc : TypeId × Value → H) :
  ReturnsInHanded {} Tryz.checked os 3 .any (fun w args => (Rows.worldCountersSpec.pre enc Tryz.prog Tryz.f3 [] false w args ∧ laidMetH Tryz.prog Rows.worldCountersRow.laid w) ∧ sizedMet enc Tryz.prog Tryz.f3 (OpenSpec.ofChange Rows.worldCountersSpec) false w args) (Rows.worldCountersSpec.post enc Tryz.prog Tryz.f3 false true false false) := by
 refine zL9 (C := Tryz.checked) (X := fun w _ => laidMetH Tryz.prog Rows.worldCountersRow.laid w) (fun _ _ _ hh h => h.of_heap hh) own started kq Tryz.func3
  (wit os H enc) ?_
 intro W base args ds gs before hval0 hW hwt hL hsh
 simp only [yP7, yNk] at hwt
 have hval : ∀ (j : Nat) t v, Tryz.f3.params[j]? = some t → args[j]? = some v → Value.okWide Tryz.prog W .any base t v := hval0
 have hW' := hW
 obtain ⟨p, q, hA0, hV, rfl, hfz, hnd⟩ := hW
 have hA : DataW.TrodAll enc Tryz.prog W 0 (fun _ => true) true Tryz.f3.params.toList args.toList ds p := hA0
 rw [Tryz.params3] at hA hval
 obtain ⟨v0, vs0, d0, ds0, p0, q0, hargs, rfl, rfl, h0, r0⟩ := trodAll_cons hA
 obtain ⟨v1, vs1, d1, ds1, p1, q1, rfl, rfl, rfl, h1, r1⟩ := trodAll_cons r0
 obtain ⟨v2, vs2, d2, ds2, p2, q2, rfl, rfl, rfl, h2, r2⟩ := trodAll_cons r1
 obtain ⟨v3, vs3, d3, ds3, p3, q3, rfl, rfl, rfl, h3, r3⟩ := trodAll_cons r2
 obtain ⟨v4, vs4, d4, ds4, p4, q4, rfl, rfl, rfl, h4, r4⟩ := trodAll_cons r3
 obtain ⟨rfl, rfl, rfl⟩ := trodAll_nil r4
 obtain rfl : args = #[v0, v1, v2, v3, v4] := by cases args; simp_all
 obtain ⟨rfl, rfl⟩ := trodVars_none hV
 obtain ⟨x0, e0, k0⟩ := zBe zW (n := 30) (t := 27) rfl rfl (hval 0 27 v0 rfl rfl) h0 (zKp (q := 0) hwt (by rw [Tryz.params3]; rfl) rfl)
 obtain ⟨x1, e1, k1⟩ := zBe zW (n := 30) (t := 43) rfl rfl (hval 1 43 v1 rfl rfl) h1 (zKp (q := 1) hwt (by rw [Tryz.params3]; rfl) rfl)
 obtain ⟨x2, e2, k2⟩ := zBe zW (n := 30) (t := 3) rfl rfl (hval 2 3 v2 rfl rfl) h2 (zKp (q := 2) hwt (by rw [Tryz.params3]; rfl) rfl)
 obtain ⟨x3, e3, k3⟩ := zBe zW (n := 30) (t := 3) rfl rfl (hval 3 3 v3 rfl rfl) h3 (zKp (q := 3) hwt (by rw [Tryz.params3]; rfl) rfl)
 obtain ⟨x4, e4, k4⟩ := zBe zW (n := 30) (t := 44) rfl rfl (hval 4 44 v4 rfl rfl) h4 (zKp (q := 4) hwt (by rw [Tryz.params3]; rfl) rfl)
 have F := zDw k0 k1 k2 k3 k4
 refine (F.calls (v9 W) W [v0,v1,v2,v3,v4] (zFp hsh hL) (fun _ _ h => h) ⟨v0,_,rfl,e0,v1,_,rfl,e1,v2,_,rfl,e2,v3,_,rfl,e3,v4,_,rfl,e4,rfl⟩).mono fun e W' ⟨v,imm',he,hb,_,_,_,hr⟩ => ?_
 have hv : v = .bool true := hr
 subst hv
 exact ⟨_, he, zVd laid zRp rfl Tryz.underlying4 rfl hW' rfl hb⟩
theorem over : Rows.worldCountersRow.holds Tryz.pinned (OpenSpec.ofChange Rows.worldCountersSpec) :=
 OpenClaim.holds_of_wide 3 Tryz.f3 rfl rfl rfl rfl rfl rfl rfl ⟨rfl, rfl, rfl, rfl, rfl⟩ rfl rfl rfl rfl rfl yBk Tryz.func3 zYd
  (yPn kq) yBj
  (fun os started H enc _ => lifted os started H enc)
theorem proved : Rows.WorldCountersCardSaid :=
 Claim7.holds_tied_plain_at .later [] [.data, .data, .data] true (true, "3f733c844a5951692df6676dda138181662723cfa0b4608ea427d9d5e4f0de46") true over (fun _ h => by cases h) q1 (fun _ h => by cases h) worldCounters_row_tie rfl ⟨rfl, rfl⟩ q2 rfl
  (fun f fn hf hfn => by
   obtain rfl : f = 3 := yPc ((show Tryz.prog.funcNamed "regulator/regulatorlaw41.WorldCounters" = some 3 by kernel_rfl).symm.trans hf) |>.symm
   obtain rfl : fn = Tryz.f3 := (yPc (Tryz.func3.symm.trans hfn)).symm
   exact ⟨q3, fun j t ht => zY3 t (Array.mem_toList_iff.2 (Array.mem_of_getElem? ht))⟩)
  q4
#print axioms proved
end Go.Proofs.YtioaahmkebojiaaGreatDoor.worldCounters
