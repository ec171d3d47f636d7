import Derived.Deep.RegionHeld
import Derived.Deep.RegionWith
import Derived.Ground.SlgcProg
import Derived.Ground.SlsfProg
import Derived.LoopN
import Derived.Shelf.SlSortCmp.NoneTotal
import Derived.Shelf.SlSortCmp.WholeK
import Derived.Shelf.SlicesG.Cmp
import Derived.Test.YtchpbdecipcelaaGreatDoorNV39
namespace Go.Proofs.YtchpbdecipcelaaGreatDoor
set_option linter.unusedVariables false
set_option linter.unusedSimpArgs false
set_option maxHeartbeats 4000000
set_option maxRecDepth 100000
open Go.RowKit
def cmpP (a b : Party) : Int := if cmpI a.kind b.kind = 0 then cmpI a.id b.id else cmpI a.kind b.kind
theorem compare_A (a b : Party) : FnA Tryz.prog 52 [.agg a.av, .agg b.av] (.raw (.int .i64 (cmpP a b))) := by
  have h1 := compareI_A a.kind b.kind
  have h2 := compareI_A a.id b.id
  have h3 := or2_A (cmpI a.kind b.kind) (cmpI a.id b.id)
  unfold cmpP
  generalize cmpI a.kind b.kind = x at *
  generalize cmpI a.id b.id = y at *
  refine fnA_of tblOk Tryz.func52 rfl (by kernel_rfl) 17 Tryz.ntmps52 lenT [.tmp 4] rfl ?_
  simp only [entrySt, argSl, Nat.zero_add, Nat.reduceAdd]
  repeat (refine stG ?_)
  refine wpA_region (fun K hK => ?_)
  iterate 3 (refine stG ?_)
  refine runS_freeze 0 obf ⟨_, evl, _, evl, ?_⟩
  refine runS_nil (hK _ ?_); clear hK K
  repeat
    first
      | (refine runS_nil (hK _ ?_); clear hK K)
      | refine stG ?_
      | (refine gateS 1 rfl ?_; refine runS_call rfl rfl ⟨_, evl, _, _, _, evl, oblG, ?_⟩; apply Exists.intro; refine ⟨fun hg => ?_, ?_⟩; · first | exact FnA.at_ (h1) rfl rfl | exact FnA.at_ (h2) rfl rfl | exact FnA.sim h3 ⟨Sim.lstE rfl fun i hi => chunk_lit (enc := iC) (l := [x, y]) (fun _ => rfl) rfl hi, trivial⟩ | exact FnA.at_s (h1) rfl simT | exact FnA.at_s (h1) rfl simF | exact FnA.at_s (h2) rfl simT | exact FnA.at_s (h2) rfl simF)
      | (refine gateA 1 rfl ?_; refine runA_call rfl ⟨_, evl, _, _, _, (fun _ _ => evlA), oblG, ?_⟩; apply Exists.intro; refine ⟨fun hg => ?_, ?_⟩; · first | exact FnA.at_ (h1) rfl rfl | exact FnA.at_ (h2) rfl rfl | exact FnA.sim h3 ⟨Sim.lstE rfl fun i hi => chunk_lit (enc := iC) (l := [x, y]) (fun _ => rfl) rfl hi, trivial⟩ | exact FnA.at_s (h1) rfl simT | exact FnA.at_s (h1) rfl simF | exact FnA.at_s (h2) rfl simT | exact FnA.at_s (h2) rfl simF)
      | (refine gateA 1 rfl ?_; refine runA_put ?_)
      | (refine gateBc ?_; first | (refine runB_nil (hK _ ?_); clear hK K) | (refine runB_op rfl ⟨_, evl, fun nb' => ?_⟩))
      | refine wpA_region (fun K hK => ?_)
      | (refine gateD ?_; first | (refine wpA_drawG false rfl (by kernel_rfl) (by kernel_rfl) (fun K hK => ?_)) | (refine wpA_drawG true rfl (by kernel_rfl) (by kernel_rfl) (fun K hK => ?_)))
  all_goals (try (refine ret_of (by simp) ⟨_, _, _, evl, ob0, OutOk.sims ?_ fre⟩))
  all_goals first | exact Sims.refl _ | exact finT | exact simsF | (refine Sims.tup ?_; simp only [SimsL, and_true]; (repeat' apply And.intro) <;> first | exact simsF | skip) | (exfalso; first | omega | (simp_all; done) | (simp_all; omega)) | skip
def ltP (a b : Party) : Bool := decide (cmpP a b < 0)
theorem cmpI_lt (x y : Int) : cmpI x y < 0 ↔ x < y := by unfold cmpI; split <;> (try split) <;> omega
theorem cmpI_eq (x y : Int) : cmpI x y = 0 ↔ x = y := by unfold cmpI; split <;> (try split) <;> omega
theorem ltP_iff (a b : Party) : ltP a b = true ↔ a.kind < b.kind ∨ (a.kind = b.kind ∧ a.id < b.id) := by
  unfold ltP cmpP
  rw [decide_eq_true_iff]
  have h1 := cmpI_eq a.kind b.kind
  have h2 := cmpI_lt a.kind b.kind
  have h3 := cmpI_lt a.id b.id
  split
  · rename_i h
    have := h1.1 h
    rw [h3]
    omega
  · rename_i h
    rw [h2]
    have : ¬ a.kind = b.kind := fun e => h (h1.2 e)
    omega
theorem ordP : Vd.Ord ltP := {
  irr x := by
    rw [Bool.eq_false_iff]
    intro h
    have := (ltP_iff x x).1 h
    omega
  trans x y z h1 h2 := by
    rw [ltP_iff] at *
    omega
  tri x y h1 h2 := by
    rw [Bool.eq_false_iff, ne_eq, ltP_iff] at h1 h2
    cases x
    cases y
    simp only [Party.mk.injEq]
    simp only at h1 h2
    omega }
end Go.Proofs.YtchpbdecipcelaaGreatDoor
namespace Go.Proofs.YtchpbdecipcelaaGreatDoor
set_option linter.unusedVariables false
set_option linter.unusedSimpArgs false
set_option maxHeartbeats 4000000
set_option maxRecDepth 100000
open Go.RowKit
open Go.Shelf Go.Lib Go.Sort
def Tryz.sortP_ren : Go.Shelf.Ren := ⟨fun | 6 => 51 | 15 => 100 | 14 => 99 | 28 => 157 | 29 => 158 | 20 => 149 | 21 => 150 | 22 => 151 | 23 => 152 | 24 => 153 | 25 => 154 | 26 => 155 | 27 => 156 | 46 => 213 | 47 => 214 | 48 => 215 | 49 => 216 | 50 => 217 | 57 => 241 | n => n, fun | 22 => 32 | 24 => 57 | 25 => 114 | 3 => 3 | 39 => 164 | 0 => 0 | 53 => 63 | 55 => 64 | 4 => 4 | 46 => 202 | 45 => 201 | 50 => 206 | 5 => 5 | 9 => 9 | 66 => 249 | 70 => 253 | 76 => 272 | 77 => 273 | n => n, fun | n => n⟩
theorem Tryz.sortP : Go.Proofs.SlLaysF0.n6 Tryz.prog Tryz.sortP_ren := {
  mixed := by kernel_rfl
  f6 := ⟨Tryz.f51.name, by decide, Tryz.func51.trans (congrArg some (by kernel_rfl))⟩
  f14 := ⟨Tryz.f99.name, by decide, Tryz.func99.trans (congrArg some (by kernel_rfl))⟩
  f15 := Tryz.func100.trans (congrArg some (by kernel_rfl))
  f20 := ⟨Tryz.f149.name, by decide, Tryz.func149.trans (congrArg some (by kernel_rfl))⟩
  f21 := ⟨Tryz.f150.name, by decide, Tryz.func150.trans (congrArg some (by kernel_rfl))⟩
  f22 := ⟨Tryz.f151.name, by decide, Tryz.func151.trans (congrArg some (by kernel_rfl))⟩
  f23 := ⟨Tryz.f152.name, by decide, Tryz.func152.trans (congrArg some (by kernel_rfl))⟩
  f24 := ⟨Tryz.f153.name, by decide, Tryz.func153.trans (congrArg some (by kernel_rfl))⟩
  f25 := ⟨Tryz.f154.name, by decide, Tryz.func154.trans (congrArg some (by kernel_rfl))⟩
  f26 := ⟨Tryz.f155.name, by decide, Tryz.func155.trans (congrArg some (by kernel_rfl))⟩
  f27 := ⟨Tryz.f156.name, by decide, Tryz.func156.trans (congrArg some (by kernel_rfl))⟩
  f28 := Tryz.func157.trans (congrArg some (by kernel_rfl))
  f29 := Tryz.func158.trans (congrArg some (by kernel_rfl))
  f46 := ⟨Tryz.f213.name, by decide, Tryz.func213.trans (congrArg some (by kernel_rfl))⟩
  f47 := Tryz.func214.trans (congrArg some (by kernel_rfl))
  f48 := Tryz.func215.trans (congrArg some (by kernel_rfl))
  f49 := ⟨Tryz.f216.name, by decide, Tryz.func216.trans (congrArg some (by kernel_rfl))⟩
  f50 := ⟨Tryz.f217.name, by decide, Tryz.func217.trans (congrArg some (by kernel_rfl))⟩
  f57 := ⟨Tryz.f241.name, by decide, Tryz.func241.trans (congrArg some (by kernel_rfl))⟩
  t0 := Tryz.underlying0
  a0 := Tryz.isAgg0
  z0 := Tryz.sizeOf0
  v0 := Tryz.zeroValue0
  t3 := Tryz.underlying3
  a3 := Tryz.isAgg3
  z3 := Tryz.sizeOf3
  v3 := Tryz.zeroValue3
  t4 := Tryz.underlying4
  a4 := Tryz.isAgg4
  z4 := Tryz.sizeOf4
  v4 := Tryz.zeroValue4
  t5 := Tryz.underlying5
  a5 := Tryz.isAgg5
  z5 := Tryz.sizeOf5
  v5 := Tryz.zeroValue5
  t9 := Tryz.underlying9
  a9 := Tryz.isAgg9
  z9 := Tryz.sizeOf9
  v9 := Tryz.zeroValue9
  t22 := Tryz.underlying32
  a22 := Tryz.isAgg32
  z22 := Tryz.sizeOf32
  v22 := Tryz.zeroValue32
  t25 := Tryz.underlying114
  a25 := Tryz.isAgg114
  z25 := Tryz.sizeOf114
  v25 := Tryz.zeroValue114
  t39 := Tryz.underlying164
  a39 := Tryz.isAgg164
  z39 := Tryz.sizeOf164
  v39 := Tryz.zeroValue164
  t45 := Tryz.underlying201
  a45 := Tryz.isAgg201
  z45 := Tryz.sizeOf201
  v45 := Tryz.zeroValue201
  t46 := Tryz.underlying202
  a46 := Tryz.isAgg202
  z46 := Tryz.sizeOf202
  v46 := Tryz.zeroValue202
  t50 := Tryz.underlying206
  a50 := Tryz.isAgg206
  z50 := Tryz.sizeOf206
  v50 := Tryz.zeroValue206
  t53 := Tryz.underlying63
  a53 := Tryz.isAgg63
  z53 := Tryz.sizeOf63
  v53 := Tryz.zeroValue63
  t55 := Tryz.underlying64
  a55 := Tryz.isAgg64
  z55 := Tryz.sizeOf64
  v55 := Tryz.zeroValue64
  t66 := Tryz.underlying249
  a66 := Tryz.isAgg249
  z66 := Tryz.sizeOf249
  v66 := Tryz.zeroValue249
  t70 := Tryz.underlying253
  a70 := Tryz.isAgg253
  z70 := Tryz.sizeOf253
  v70 := Tryz.zeroValue253
  t76 := Tryz.underlying272
  a76 := Tryz.isAgg272
  z76 := Tryz.sizeOf272
  v76 := Tryz.zeroValue272
  t77 := Tryz.underlying273
  a77 := Tryz.isAgg273
  z77 := Tryz.sizeOf273
  v77 := Tryz.zeroValue273 }
def Tryz.cmpInt_ren : Go.Shelf.Ren := ⟨fun | 5 => 102 | 7 => 159 | n => n, fun | 22 => 3 | 3 => 3 | 4 => 4 | n => n, fun | n => n⟩
theorem Tryz.cmpInt : Go.Proofs.SlLaysC2.n5 Tryz.prog Tryz.cmpInt_ren := {
  mixed := by kernel_rfl
  f5 := ⟨Tryz.f102.name, by decide, Tryz.func102.trans (congrArg some (by kernel_rfl))⟩
  f7 := ⟨Tryz.f159.name, by decide, Tryz.func159.trans (congrArg some (by kernel_rfl))⟩
  t3 := Tryz.underlying3
  a3 := Tryz.isAgg3
  z3 := Tryz.sizeOf3
  v3 := Tryz.zeroValue3
  t4 := Tryz.underlying4
  a4 := Tryz.isAgg4
  z4 := Tryz.sizeOf4
  v4 := Tryz.zeroValue4
  t22 := Tryz.underlying3
  a22 := Tryz.isAgg3
  z22 := Tryz.sizeOf3
  v22 := Tryz.zeroValue3 }
theorem kCompare (x y : Int) (W : World) : Calls Tryz.prog 102 #[.int .i64 x, .int .i64 y] W fun e w' => e = .returned (.int .i64 (Lib.compareInt x y)) ∧ w' = W :=
  AnyG.cmp_Compare_int Tryz.cmpInt x y W
theorem kOr (x y : Int) (W : World) (a : Nat) (h : ∀ i, i < 2 → W.cell? ⟨a, i, none⟩ = some (.int .i64 ([x, y].getD i 0))) : Calls Tryz.prog 101 #[.slice (some ⟨a, 0, none⟩) 2 2] W fun e w' => e = .returned (.int .i64 (if x = 0 then y else x)) ∧ w' = W := by
  have h0 := h 0 (by omega)
  have h1 := h 1 (by omega)
  go_enter Tryz.func101, Tryz.ntmps101
  by_cases hx : x = 0
  · rw [if_pos hx]
    subst hx
    by_cases hy : y = 0
    · subst hy
      go_wp2
      refine wp_loop_rounds 3 ?_
      simp only [Code.rounds]
      go_wp2
      go_ret
      exact ⟨rfl, rfl⟩
    · go_wp2
      refine wp_loop_rounds 3 ?_
      simp only [Code.rounds]
      go_wp2
      go_ret
      exact ⟨rfl, rfl⟩
  · rw [if_neg hx]
    go_wp2
    refine wp_loop_rounds 3 ?_
    simp only [Code.rounds]
    go_wp2
    go_ret
    exact ⟨rfl, rfl⟩
end Go.Proofs.YtchpbdecipcelaaGreatDoor
namespace Go.Proofs.YtchpbdecipcelaaGreatDoor
set_option linter.unusedVariables false
set_option linter.unusedSimpArgs false
set_option maxHeartbeats 4000000
set_option maxRecDepth 100000
open Go.RowKit
def pcs (l : List Party) : List AV := l.flatMap Party.av
theorem pcs_len (l : List Party) : (pcs l).length = l.length * 2 := by
  induction l with
  | nil => rfl
  | cons x l ih =>
    rw [pcs, List.flatMap_cons, List.length_append, ← pcs, ih]
    simp [Party.av]
    omega
theorem pcs_cons (x : Party) (l : List Party) : pcs (x :: l) = .raw (.int .i64 x.kind) :: .raw (.int .i64 x.id) :: pcs l := rfl
@[simp] theorem pcs_free (l : List Party) : AV.freeL (pcs l) := by
  induction l with
  | nil => trivial
  | cons x l ih => exact ⟨trivial, trivial, ih⟩
theorem pcs_cut : ∀ (l : List Party) (zs : List AV) (i : Nat), i < l.length → ((pcs l ++ zs).drop (i * 2)).take 2 = (l.getD i default).av
  | [], _, i, h => by simp at h
  | x :: l, zs, 0, _ => by simp [pcs_cons, Party.av]
  | x :: l, zs, i + 1, h => by
    have := pcs_cut l zs i (by simpa using h)
    rw [pcs_cons, show (i + 1) * 2 = i * 2 + 2 from by omega]
    simpa using this
theorem pcs_put : ∀ (l : List Party) (zs : List AV) (i : Nat) (x : Party), i < l.length → putL (pcs l ++ zs) (i * 2) x.av = pcs (l.set i x) ++ zs
  | [], _, i, _, h => by simp at h
  | y :: l, zs, 0, x, _ => by
    have h0 : ∀ c : List AV, overL ([] : List AV) c = c := fun c => by cases c <;> rfl
    simp [pcs_cons, putL, overL, Party.av, h0]
  | y :: l, zs, i + 1, x, h => by
    have := pcs_put l zs i x (by simpa using h)
    rw [pcs_cons, show (i + 1) * 2 = (i * 2 + 1) + 1 from by omega]
    simp only [List.cons_append, putL, List.set_cons_succ, pcs_cons]
    rw [this]
end Go.Proofs.YtchpbdecipcelaaGreatDoor
namespace Go.Proofs.YtchpbdecipcelaaGreatDoor
set_option linter.unusedVariables false
set_option linter.unusedSimpArgs false
set_option maxHeartbeats 4000000
set_option maxRecDepth 100000
open Go.RowKit
open Go.Shelf Go.Lib Go.Sort
theorem swoP : SWO (ltOf cmpP) := {
  irrefl x := ordP.irr x
  trans x y z h1 h2 := ordP.trans x y z h1 h2
  ntrans x y z h1 h2 := by
    have h1 : ltP x y = false := h1
    have h2 : ltP y z = false := h2
    show ltP x z = false
    rw [Bool.eq_false_iff, ne_eq, ltP_iff] at *
    omega }
def sortL (l : List Party) : List Party := (pdq (ltOf cmpP) l.toArray 0 l.length (Lib.bitLen l.length) true true).toList
theorem sortL_ok (l : List Party) : (sortL l).Perm l ∧ (sortL l).Pairwise fun a b => ltP b a = false := by
  have h := pdq_sorts (ltOf cmpP) swoP l.toArray 0 l.length (Lib.bitLen l.length) true true (Nat.zero_le _) (by simp) (Or.inl rfl)
  unfold sortL
  generalize pdq (ltOf cmpP) l.toArray 0 l.length (Lib.bitLen l.length) true true = d at *
  obtain ⟨⟨h1, h2, h3⟩, h4⟩ := h
  have hs : d.size = l.length := by simpa using h1
  constructor
  · have e1 : (d.extract 0 l.length) = d := by rw [← hs]; simp
    have e2 : (l.toArray.extract 0 l.length) = l.toArray := by simp
    rw [e1, e2] at h3
    simpa using h3
  · rw [List.pairwise_iff_getElem]
    intro i j hi hj hij
    simp only [Array.length_toList] at hi hj
    have := h4 i j (Nat.zero_le _) hij (by omega)
    rw [getElem!_pos d j hj, getElem!_pos d i hi] at this
    exact this
end Go.Proofs.YtchpbdecipcelaaGreatDoor
namespace Go.Proofs.YtchpbdecipcelaaGreatDoor
set_option linter.unusedVariables false
set_option linter.unusedSimpArgs false
set_option maxHeartbeats 4000000
set_option maxRecDepth 100000
open Go.RowKit
open Go.Shelf Go.Lib Go.Sort
theorem lit_cells (W : World) (c1 c2 : Int) (t : TypeId) (i : Nat) (hi : i < 2) : (W.alloc (.cells #[.int .i64 c1, .int .i64 c2] t)).cell? ⟨W.heap.size, i, none⟩ = some (.int .i64 ([c1, c2].getD i 0)) := by
  have e : i = 0 ∨ i = 1 := by omega
  rcases e with rfl | rfl
  · unfold World.cell? World.alloc
    simp
  · unfold World.cell? World.alloc
    simp
theorem compareInt_eq (x y : Int) : Lib.compareInt x y = cmpI x y := by
  unfold Lib.compareInt cmpI
  split <;> (try split) <;> (try split) <;> (try split) <;> first | rfl | omega
theorem kCmp (x y : Party) (W : World) : Calls Tryz.prog 52 #[.agg #[.int .i64 x.kind, .int .i64 x.id], .agg #[.int .i64 y.kind, .int .i64 y.id]] W fun e w' => e = .returned (.int .i64 (cmpP x y)) ∧ ∃ q os', w' = grow (W.drewN q) os' := by
  have h1 := fun W' => kCompare x.kind y.kind W'
  have h2 := fun W' => kCompare x.id y.id W'
  rw [show cmpP x y = if Lib.compareInt x.kind y.kind = 0 then Lib.compareInt x.id y.id else Lib.compareInt x.kind y.kind from by rw [compareInt_eq, compareInt_eq]; rfl]
  have h3 := fun W' a' => kOr (Lib.compareInt x.kind y.kind) (Lib.compareInt x.id y.id) W' a'
  generalize Lib.compareInt x.kind y.kind = c1 at *
  generalize Lib.compareInt x.id y.id = c2 at *
  generalize (if c1 = 0 then c2 else c1) = r at *
  go_enter Tryz.func52, Tryz.ntmps52
  go_wp2
  have k1 : ((W.alloc (.cells #[.int .i64 x.kind, .int .i64 x.id] 57)).alloc (.cells #[.int .i64 y.kind, .int .i64 y.id] 57)).cell? ⟨W.heap.size, 0, none⟩ = some (.int .i64 x.kind) := by go_simp
  have k2 : ((W.alloc (.cells #[.int .i64 x.kind, .int .i64 x.id] 57)).alloc (.cells #[.int .i64 y.kind, .int .i64 y.id] 57)).cell? ⟨W.heap.size, 1, none⟩ = some (.int .i64 x.id) := by go_simp
  have k3 : ((W.alloc (.cells #[.int .i64 x.kind, .int .i64 x.id] 57)).alloc (.cells #[.int .i64 y.kind, .int .i64 y.id] 57)).cell? ⟨W.heap.size + 1, 0, none⟩ = some (.int .i64 y.kind) := by go_simp
  have k4 : ((W.alloc (.cells #[.int .i64 x.kind, .int .i64 x.id] 57)).alloc (.cells #[.int .i64 y.kind, .int .i64 y.id] 57)).cell? ⟨W.heap.size + 1, 1, none⟩ = some (.int .i64 y.id) := by go_simp
  have k5 : ∃ os0, grow W os0 = (W.alloc (.cells #[.int .i64 x.kind, .int .i64 x.id] 57)).alloc (.cells #[.int .i64 y.kind, .int .i64 y.id] 57) :=
    ⟨#[.cells #[.int .i64 x.kind, .int .i64 x.id] 57, .cells #[.int .i64 y.kind, .int .i64 y.id] 57], by rw [alloc_eq_grow, alloc_eq_grow, grow_grow]; rfl⟩
  generalize (W.alloc (.cells #[.int .i64 x.kind, .int .i64 x.id] 57)).alloc (.cells #[.int .i64 y.kind, .int .i64 y.id] 57) = W1 at k1 k2 k3 k4 k5 ⊢
  replace k5 : Nonempty (PLift (∃ os0, grow W os0 = W1)) := ⟨⟨k5⟩⟩
  go_region_held (fun w' => w'.cell? ⟨W.heap.size, 0, none⟩ = some (.int .i64 x.kind) ∧ w'.cell? ⟨W.heap.size, 1, none⟩ = some (.int .i64 x.id) ∧ w'.cell? ⟨W.heap.size + 1, 0, none⟩ = some (.int .i64 y.kind) ∧ w'.cell? ⟨W.heap.size + 1, 1, none⟩ = some (.int .i64 y.id)) (go_keep) (first | (go_at_call_of 102 x.kind; refine (h1 _).mono ?_; rintro e w' ⟨rfl, rfl⟩) | (go_at_call_of 102 x.id; refine (h2 _).mono ?_; rintro e w' ⟨rfl, rfl⟩) | (go_at_call 101; refine (h3 _ _ ?_).mono ?_; exact fun i hi => lit_cells _ c1 c2 3 i hi; rintro e w' ⟨rfl, rfl⟩))
  all_goals go_wp2
  all_goals go_ret
  all_goals (obtain ⟨⟨os0, rfl⟩⟩ := k5)
  all_goals exact ⟨rfl, 1, os0 ++ #[.cells #[.int .i64 c1, .int .i64 c2] 3], by rw [alloc_eq_grow, grow_grow]; rfl⟩
end Go.Proofs.YtchpbdecipcelaaGreatDoor
namespace Go.Proofs.YtchpbdecipcelaaGreatDoor
set_option linter.unusedVariables false
set_option linter.unusedSimpArgs false
set_option maxHeartbeats 4000000
set_option maxRecDepth 100000
open Go.RowKit
open Go.Shelf Go.Lib Go.Sort
def encP (p : Party) : List Value := [.int .i64 p.kind, .int .i64 p.id]
theorem aggP (w : World) : (isAgg 57).run Tryz.prog w = .ok true w := (tblOk _ _ tbl_57).agg_run w
theorem sizeP (w : World) : (Go.sizeOf 57).run Tryz.prog w = .ok 2 w := (tblOk _ _ tbl_57).size_run w
theorem flat_get : ∀ (l : List Party) (t : Nat), t < l.length * 2 → (l.flatMap encP)[t]? = (encP (l.getD (t / 2) default))[t % 2]?
  | [], t, h => by simp at h
  | x :: l, 0, _ => rfl
  | x :: l, 1, _ => rfl
  | x :: l, t + 2, h => by
    have := flat_get l t (by simp at h; omega)
    rw [List.flatMap_cons, show (t + 2) / 2 = t / 2 + 1 from by omega, show (t + 2) % 2 = t % 2 from by omega]
    simpa [encP] using this
theorem flatP_len (l : List Party) : (l.flatMap encP).length = l.length * 2 := by
  induction l with
  | nil => rfl
  | cons x l ih => rw [List.flatMap_cons, List.length_append, ih]; simp [encP]; omega
theorem flatP (l : List Party) : (flatK encP 2 l.toArray).toList = l.flatMap encP := by
  refine List.ext_getElem? fun t => ?_
  by_cases ht : t < l.length * 2
  · have h1 := get_flatK encP 2 l.toArray t (by simpa using ht)
    have hsz : t < (flatK encP 2 l.toArray).size := by simpa using ht
    rw [getElem!_pos _ t hsz] at h1
    rw [flat_get l t ht, Array.getElem?_toList, Array.getElem?_eq_getElem hsz, h1]
    have h2 : t / 2 < l.length := by omega
    rw [getElem!_pos l.toArray (t / 2) (by simpa using h2), List.getElem_toArray, getD_get h2]
    have h3 : t % 2 = 0 ∨ t % 2 = 1 := by omega
    rcases h3 with h3 | h3 <;> rw [h3] <;> rfl
  · rw [List.getElem?_eq_none (by simp; omega), List.getElem?_eq_none (by rw [flatP_len]; omega)]
theorem relL_pcs {G : Gh} {w : World} : ∀ {l : List Party} {zs : List AV} {vs : List Value}, AV.relL G w (pcs l ++ zs) vs → ∃ us, vs = l.flatMap encP ++ us ∧ AV.relL G w zs us
  | [], zs, vs, h => ⟨vs, rfl, h⟩
  | x :: l, zs, vs, h => by
    rw [pcs_cons] at h
    obtain ⟨v1, r1, rfl, h1, v2, r2, rfl, h2, h3⟩ := h
    obtain ⟨us, rfl, h4⟩ := relL_pcs h3
    have e1 : v1 = .int .i64 x.kind := h1
    have e2 : v2 = .int .i64 x.id := h2
    exact ⟨us, by rw [e1, e2]; rfl, h4⟩
theorem relL_pcs_of {G : Gh} {w : World} {zs : List AV} {us : List Value} (h : AV.relL G w zs us) : ∀ l : List Party, AV.relL G w (pcs l ++ zs) (l.flatMap encP ++ us)
  | [] => h
  | x :: l => ⟨_, _, rfl, rfl, _, _, rfl, rfl, relL_pcs_of h l⟩
theorem putFlat (d : Array Party) (l us : List Value) (h : l.length = d.size * 2) : (putCells id 0 (flatK encP 2 d) (l ++ us).toArray).toList = d.toList.flatMap encP ++ us := by
  have hf : (flatK encP 2 d).toList = d.toList.flatMap encP := flatP d.toList
  have hs : (flatK encP 2 d).size = d.size * 2 := size_flatK encP 2 d
  refine List.ext_getElem? fun t => ?_
  rw [putCells, Array.toList_mapIdx, List.getElem?_mapIdx]
  by_cases ht : t < d.size * 2
  · have hl1 : t < l.length := by omega
    have hl3 : t < (flatK encP 2 d).toList.length := by rw [Array.length_toList]; omega
    rw [← hf]
    rw [List.getElem?_append_left hl3, List.getElem?_eq_getElem hl3]
    rw [List.getElem?_append_left hl1, List.getElem?_eq_getElem hl1]
    simp only [Option.map_some]
    rw [if_pos ⟨Nat.zero_le _, by omega⟩, Nat.sub_zero, getElem!_pos _ t (by omega)]
    rfl
  · have hl2 : (d.toList.flatMap encP).length = d.size * 2 := by rw [flatP_len]; simp
    rw [List.getElem?_append_right (by omega), List.getElem?_append_right (by omega), h, hl2]
    cases hu : us[t - d.size * 2]? with
    | none => rfl
    | some u =>
      simp only [Option.map_some]
      rw [if_neg (by omega)]
theorem setTo_sort {w : World} {blk : Nat} {T : TypeId} {l us : List Value} {d : Array Party} (h : w.heap[blk]? = some (.cells (l ++ us).toArray T (0, 0))) (hl : l.length = d.size * 2) (n : Nat) :
    SetTo w blk (d.toList.flatMap encP ++ us) T (putRowK encP 2 (Sort.ahead w n) blk 0 d) := by
  refine ⟨rfl, rfl, rfl, by simp [putRowK, Sort.ahead], fun k hk => ?_, ?_⟩
  · show (w.heap.modify blk _)[k]? = _
    rw [Array.getElem?_modify, if_neg (fun e => hk e.symm)]
  · show (w.heap.modify blk _)[blk]? = _
    rw [Array.getElem?_modify, if_pos rfl, h]
    simp only [Option.map_some, onCells]
    congr 2
    apply Array.ext'
    exact putFlat d l us hl
theorem grow_below (w : World) (os : Array Obj) : Go.RowKit.Below w.heap.size w (grow w os) := ⟨rfl, rfl, rfl, by simp [grow], fun k hk => by
  show (w.heap ++ os)[k]? = _
  rw [Array.getElem?_append_left hk]⟩
theorem sort_G (l : List Party) (hl : l.length < 4611686018427387904) (c : Nat) (zs : List AV) :
    FnG Tryz.prog 51 [.bsl 2 0 0 l.length c, .raw (.func (.func 52) #[] #[])] [pcs l ++ zs] [] (.tup []) [pcs (sortL l) ++ zs] [] := by
  refine ⟨⟨_, Tryz.func51, by kernel_rfl, by kernel_rfl⟩, fun G w vs htb hto hM hr => ?_⟩
  obtain ⟨v1, r1, rfl, ⟨blk, A, hA0, rfl, hnc, hcm, hA⟩, v2, r2, rfl, h2, h3⟩ := hr
  obtain rfl : r2 = [] := h3
  have e2 : v2 = .func (.func 52) #[] #[] := h2
  subst e2
  obtain ⟨_, ws, T, b3, b4⟩ := hM.box 0 (pcs l ++ zs) blk rfl hA0
  obtain ⟨us, rfl, b5⟩ := relL_pcs b4
  have hperm := (sortL_ok l).1
  rcases Nat.eq_zero_or_pos l.length with h0 | h0
  · have hnil := List.length_eq_zero_iff.1 h0
    subst hnil
    have hs : sortL [] = [] := List.length_eq_zero_iff.1 hperm.length_eq
    rw [hs]
    refine (AnyF.slices_SortFunc_none Tryz.sortP A c _ w).mono ?_
    rintro e w' ⟨rfl, rfl⟩
    exact ⟨_, G, rfl, Outside.refl _ _, Gh.Le.refl _ _, fun _ _ i => .inl i, fun _ h => .inl h, fun x hx g hg => .inl ⟨x, hx, hg⟩, hM, ⟨[], rfl, rfl⟩⟩
  · have hA := hA (by omega)
    subst hA
    have hblk : blk < w.heap.size := hM.lt_box (List.mem_of_getElem? hA0)
    have hsz2 : (flatK encP 2 l.toArray).size = l.length * 2 := by rw [size_flatK]; simp
    have hH : HoldsK encP 2 w blk 0 l.toArray := by
      intro j hj
      have hj' : j < l.length * 2 := by rw [hsz2] at hj; exact hj
      rw [Nat.zero_add]
      refine ⟨?_, by simp [World.frozen?, b3]⟩
      have e1 : (l.flatMap encP ++ us)[j]? = some ((flatK encP 2 l.toArray)[j]!) := by
        rw [List.getElem?_append_left (by rw [flatP_len]; exact hj'), ← flatP, Array.getElem?_toList, Array.getElem?_eq_getElem hj, getElem!_pos _ j hj]
      simp only [World.cell?, b3]
      simpa using e1
    have hcmp : CmpLays Tryz.prog 52 #[] encP 2 cmpP blk 0 l.toArray.size w := fun m os dk _ x y => kCmp x y _
    have h := AnyQ.slices_SortFunc_eq Tryz.sortP 2 aggP sizeP encP (fun _ => rfl) (by intro x v hv; simp [encP] at hv; rcases hv with rfl | rfl <;> rfl) cmpP swoP 52 #[] blk 0 c l.toArray w (fun args w => by rfl) hcmp hH hblk (by simpa using hl)
    have hd : (sortL l).length = l.length := hperm.length_eq
    have hsl : sortL l = (pdq (ltOf cmpP) l.toArray 0 l.toArray.size (Lib.bitLen l.toArray.size) true true).toList := rfl
    generalize pdq (ltOf cmpP) l.toArray 0 l.toArray.size (Lib.bitLen l.toArray.size) true true = d at h hsl
    have hds : (l.flatMap encP).length = d.size * 2 := by rw [flatP_len, ← hd, hsl, Array.length_toList]
    refine h.mono ?_
    rintro e w' ⟨rfl, n, os, rfl⟩
    have S := setTo_sort b3 hds n
    obtain ⟨m1, le1⟩ := msat_store hM (b := 0) (cs' := pcs (sortL l) ++ zs) rfl hA0 S (by rw [hsl]; exact relL_pcs_of b5 _)
    have E := msat_ext m1 (grow_below _ os) G.imm (fun _ _ i => i) (fun _ _ i => .inl i) fun b o i => by
      rw [World.cell?_of_block ((grow_below _ os).block b (m1.lt_imm i))]
      exact m1.immOk b o i
    refine ⟨_, G, rfl, Outside.trans ⟨S.os, S.tape, S.output, Nat.le_of_eq S.size.symm, fun k _ hk => S.other k fun e => hk (.inl (e ▸ List.mem_of_getElem? hA0))⟩ (Outside.of_below (grow_below _ os)), le1.trans E.le, fun _ _ i => .inl i, fun _ h => .inl h, fun x hx g hg => .inl ⟨x, hx, hg⟩, E.mem, ⟨[], rfl, rfl⟩⟩
end Go.Proofs.YtchpbdecipcelaaGreatDoor
