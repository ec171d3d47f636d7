/- The function head of the statements of chapter 10. -/
import Derived.Test.YticlpcgkaffdmaaLawA
import Derived.Test.YticlpcgkaffdmaaLawB
import Derived.Test.YticlpcgkaffdmaaLinkP
namespace Go.Proofs.Yticlpcgkaffdmaa
set_option linter.unusedSectionVars false
set_option linter.unusedVariables false
set_option linter.unusedSimpArgs false
open Go.RowKit
theorem FnA.sub {P : Program} {f : FuncId} {args args' : List AV} {r : AV} (h : FnA P f args' r) (hs : ∀ (G : Gh) (w : World) (vs : List Value), AV.relL G w args vs → AV.relL G w args' vs) : FnA P f args r :=
  ⟨h.ok, fun imm w vs hi hr => h.calls imm w vs hi (hs _ _ _ hr)⟩
theorem rel_lst {G : Gh} {w : World} {v : Value} {sz n : Nat} {el el' : Nat → List AV} (h : ∀ i, i < n → el i = el' i) (hr : (AV.lst sz n el).rel G w v) : (AV.lst sz n el').rel G w v := by
  obtain ⟨A, cap, e1, e2, e3, e4⟩ := hr
  refine ⟨A, cap, e1, e2, e3, fun hn => ?_⟩
  obtain ⟨b, o, e5, e6⟩ := e4 hn
  refine ⟨b, o, e5, fun i hi => ?_⟩
  rw [← h i hi]
  exact e6 i hi
theorem FnA.lst0 {P : Program} {f : FuncId} {args : List AV} {r : AV} {sz n : Nat} {el el' : Nat → List AV} (h : FnA P f (.lst sz n el' :: args) r) (he : ∀ i, i < n → el i = el' i) : FnA P f (.lst sz n el :: args) r :=
  h.sub fun _ _ _ ⟨v, r, e, h1, h2⟩ => ⟨v, r, e, rel_lst he h1, h2⟩
theorem FnA.lst01 {P : Program} {f : FuncId} {args : List AV} {r : AV} {sz n sz2 n2 : Nat} {el el' el2 el2' : Nat → List AV} (h : FnA P f (.lst sz n el' :: .lst sz2 n2 el2' :: args) r) (he : ∀ i, i < n → el i = el' i) (he2 : ∀ i, i < n2 → el2 i = el2' i) : FnA P f (.lst sz n el :: .lst sz2 n2 el2 :: args) r :=
  h.sub fun _ _ _ ⟨v, r, e, h1, v2, r2, e', h3, h4⟩ => ⟨v, r, e, rel_lst he h1, v2, r2, e', rel_lst he2 h3, h4⟩
def c0 : Change := ⟨0, 100, 300, 50, 90⟩
def c1 : Change := ⟨500, 20, 200, 60, 95⟩
attribute [local go_sem] c0 c1
theorem head_A : FnA Try.prog 9 [] (.raw (.bool true)) := by
  have h1 := sent_A c0 ⟨1000, 1010⟩
  rw [show sentM c0 ⟨1000, 1010⟩ = (⟨700, 910⟩, 0) from by decide] at h1
  have h2 := got_A c0 ⟨1000, 1010⟩
  rw [show gotM c0 ⟨1000, 1010⟩ = (⟨1050, 1100⟩, 0) from by decide] at h2
  have h3 := round_A c0 ⟨1000, 1010⟩ ⟨160, 200⟩
  rw [show roundM c0 ⟨1000, 1010⟩ ⟨160, 200⟩ = (⟨850, 910⟩, 0) from by decide] at h3
  have h4 := round_A c0 ⟨1000, 1010⟩ ⟨391, 400⟩
  rw [show roundM c0 ⟨1000, 1010⟩ ⟨391, 400⟩ = (⟨0, 0⟩, 22) from by decide] at h4
  have h5 := sent_A c0 ⟨3, 99⟩
  rw [show sentM c0 ⟨3, 99⟩ = (⟨0, 0⟩, 22) from by decide] at h5
  have h6 := linkBounds_A [c0, c1] ⟨499, 500⟩ (by decide)
  rw [show linkBoundsM [c0, c1] ⟨499, 500⟩ = (⟨499, 20, 300, 50, 95⟩, 0) from by decide] at h6
  have h7 := linkBounds_A [c0, c1] ⟨500, 900⟩ (by decide)
  rw [show linkBoundsM [c0, c1] ⟨500, 900⟩ = (c1, 0) from by decide] at h7
  have h8 := valid_A [c0, c1] (by decide)
  rw [show validM [c0, c1] = true from by decide] at h8
  have hel : ∀ i, i < 2 → chunkA 5 (c0.c ++ c1.c) i = (gD [c0, c1] i).c := by
    intro i hi
    match i, hi with
    | 0, _ => rfl
    | 1, _ => rfl
  refine fnA_of tblOk Try.func9 rfl (by kernel_rfl) 127 Try.ntmps9 (by simp only [List.length_cons, List.length_nil]; omega) [.tmp 0] rfl ?_
  simp only [entrySt, argSl, Nat.zero_add, Nat.reduceAdd]
  repeat
    first
      | refine thenA_n ?_
      | refine thenA_r ?_
      | refine thenA_e ?_
      | refine inBlockA_n ?_
      | refine inBlockA_r ?_
      | refine inBlockA_hit ?_
      | refine inBlockA_miss rfl ?_
      | refine wpA_seq' ?_
      | refine wpA_block ?_
      | refine wpA_skip ?_
      | refine wpA_ret ?_
      | refine wpA_exit ?_
      | refine wpA_label ?_
      | refine wpA_region (fun K hK => ?_)
      | (refine runS_nil (hK _ ?_); clear hK K)
      | refine wpA_drawE (by kernel_rfl) (by kernel_rfl) (fun K hK => ?_)
      | refine runS_pure tblOk rfl rfl ⟨_, evl, _, _, _, evl, obl, ?_⟩
      | refine runS_mk tblOk rfl rfl ⟨_, evl, _, _, _, evl, obl, ?_⟩
      | (refine runS_call rfl rfl ⟨_, evl, _, _, _, evl, obl, ?_⟩; apply Exists.intro; refine ⟨fun hg => ?_, ?_⟩; · first | exact h1 | exact h2 | exact h3 | exact h4 | exact h5 | exact h6.lst0 hel | exact h7.lst0 hel | exact h8.lst0 hel)
      | refine runE_pure tblOk rfl ⟨_, evl, _, _, _, evl, obl, ?_⟩
      | refine runE_mk tblOk rfl ⟨_, evl, _, _, _, evl, obl, ?_⟩
      | (refine runE_call rfl ⟨_, evl, _, _, _, evl, obl, ?_⟩; apply Exists.intro; refine ⟨fun hg => ?_, ?_⟩; · first | exact h1 | exact h2 | exact h3 | exact h4 | exact h5 | exact h6.lst0 hel | exact h7.lst0 hel | exact h8.lst0 hel)
      | refine sBox rfl rfl rfl rfl ⟨_, evl, ob1, _, evl, _, evl, ?_⟩
      | refine sAlloc tblOk rfl rfl rfl rfl ⟨_, evl, _, evl, _, evl, ?_⟩
      | refine sStore tblOk rfl rfl rfl ⟨_, _, evl, _, evl, _, evl, _, evl, ob1, _, evl, ?_⟩
      | refine runE_tail rfl (by kernel_rfl) ?_
  refine ret_of (by simp) ⟨_, _, _, evl, ob0, OutOk.eq ?_ ?_⟩
  · rfl
  · simp [AV.free, AV.freeL]
end Go.Proofs.Yticlpcgkaffdmaa
