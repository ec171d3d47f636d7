import Derived.Test.YtchpbdecipcelaaGreatDoorMR01
import Derived.Deep.RegionHeld
import Derived.Deep.RegionWith
import Derived.Ground.SlgcProg
import Derived.Ground.SlsfProg
import Derived.LoopN
import Derived.Shelf.SlSortCmp.NoneTotal
import Derived.Shelf.SlSortCmp.WholeK
import Derived.Shelf.SlicesG.Cmp
import Derived.Test.YtchpbdecipcelaaGreatDoorMR34
namespace Go.Proofs.YtchpbdecipcelaaGreatDoor
set_option linter.unusedVariables false
set_option linter.unusedSimpArgs false
set_option maxHeartbeats 4000000
set_option maxRecDepth 100000
open Go.RowKit
def zPp (a b : zB) : Int := if zEa a.kind b.kind = 0 then zEa a.id b.id else zEa a.kind b.kind
theorem compare_A (a b : zB) : FnA Tryz.prog 52 [.agg a.av, .agg b.av] (.raw (.int .i64 (zPp a b))) := by
 have h1 := zAs a.kind b.kind
 have h2 := zAs a.id b.id
 have h3 := yDb (zEa a.kind b.kind) (zEa a.id b.id)
 unfold zPp
 generalize zEa a.kind b.kind = x at *
 generalize zEa a.id b.id = y at *
 refine en Tryz.func52 Tryz.ntmps52 [.tmp 4] rfl ?_
 repeat (refine stG ?_)
 refine zE (fun K hK => ?_)
 iterate 3 (refine stG ?_)
 refine z0 0 obf ⟨_, evl, _, evl, ?_⟩
 refine zG (hK _ ?_); clear hK K
 repeat
  first
   | (refine zG (hK _ ?_); clear hK K)
   | refine stG ?_
   | (refine yJ 1 rfl ?_; refine zR rfl rfl ⟨_, evl, _, _, _, evl, yR, ?_⟩; apply Exists.intro; refine ⟨fun hg => ?_, ?_⟩; · first | exact FnA.at_ (h1) rfl rfl | exact FnA.at_ (h2) rfl rfl | exact FnA.sim h3 ⟨Sim.lstE rfl fun i hi => yA (enc := iC) (l := [x, y]) (fun _ => rfl) rfl hi, trivial⟩ | exact FnA.at_s (h1) rfl yV | exact FnA.at_s (h1) rfl yW | exact FnA.at_s (h2) rfl yV | exact FnA.at_s (h2) rfl yW)
   | (refine zW 1 rfl ?_; refine zS rfl ⟨_, evl, _, _, _, (fun _ _ => vH), yR, ?_⟩; apply Exists.intro; refine ⟨fun hg => ?_, ?_⟩; · first | exact FnA.at_ (h1) rfl rfl | exact FnA.at_ (h2) rfl rfl | exact FnA.sim h3 ⟨Sim.lstE rfl fun i hi => yA (enc := iC) (l := [x, y]) (fun _ => rfl) rfl hi, trivial⟩ | exact FnA.at_s (h1) rfl yV | exact FnA.at_s (h1) rfl yW | exact FnA.at_s (h2) rfl yV | exact FnA.at_s (h2) rfl yW)
   | (refine zW 1 rfl ?_; refine zJ ?_)
   | (refine yB ?_; first | (refine zP (hK _ ?_); clear hK K) | (refine zX rfl ⟨_, evl, fun nb' => ?_⟩))
   | refine zE (fun K hK => ?_)
   | (refine yZ ?_; first | (refine zD false rfl (by kernel_rfl) (by kernel_rfl) (fun K hK => ?_)) | (refine zD true rfl (by kernel_rfl) (by kernel_rfl) (fun K hK => ?_)))
 all_goals exact fA
def ltP (a b : zB) : Bool := decide (zPp a b < 0)
theorem zVx (x y : Int) : zEa x y < 0 ↔ x < y := by unfold zEa; split <;> (try split) <;> omega
theorem yBm (x y : Int) : zEa x y = 0 ↔ x = y := by unfold zEa; split <;> (try split) <;> omega
theorem zFu (a b : zB) : ltP a b = true ↔ a.kind < b.kind ∨ (a.kind = b.kind ∧ a.id < b.id) := by
 unfold ltP zPp
 rw [yO5]
 have h1 := yBm a.kind b.kind
 have h2 := zVx a.kind b.kind
 have h3 := zVx a.id b.id
 split
 ·rename_i h
  have := h1.1 h
  rw [h3]
  omega
 ·rename_i h
  rw [h2]
  have : ¬ a.kind = b.kind := fun e => h (h1.2 e)
  omega
theorem zX9 : Vd.Ord ltP := {
 irr x := by
  rw [Bool.eq_false_iff]
  intro h
  have := (zFu x x).1 h
  omega
 trans x y z h1 h2 := by
  rw [zFu] at *
  omega
 tri x y h1 h2 := by
  rw [Bool.eq_false_iff, ne_eq, zFu] at h1 h2
  cases x
  cases y
  simp only [zB.mk.injEq]
  simp only at h1 h2
  omega }
open Go.Shelf Go.Lib Go.Sort
def Tryz.sortP_ren : Go.Shelf.Ren := ⟨fun | 6 => 51 | 15 => 100 | 14 => 99 | 28 => 157 | 29 => 158 | 20 => 149 | 21 => 150 | 22 => 151 | 23 => 152 | 24 => 153 | 25 => 154 | 26 => 155 | 27 => 156 | 46 => 213 | 47 => 214 | 48 => 215 | 49 => 216 | 50 => 217 | 57 => 241 | n => n, fun | 22 => 32 | 24 => 57 | 25 => 114 | 3 => 3 | 39 => 164 | 0 => 0 | 53 => 63 | 55 => 64 | 4 => 4 | 46 => 202 | 45 => 201 | 50 => 206 | 5 => 5 | 9 => 9 | 66 => 249 | 70 => 253 | 76 => 272 | 77 => 273 | n => n, fun | n => n⟩
theorem Tryz.sortP : Go.Proofs.SlLaysF0.n6 Tryz.prog Tryz.sortP_ren := {
  mixed := by kernel_rfl
  f6 := ⟨Tryz.f51.name, by decide, Tryz.func51.trans (congrArg some (by kernel_rfl))⟩
  f14 := ⟨Tryz.f99.name, by decide, Tryz.func99.trans (congrArg some (by kernel_rfl))⟩
  f15 := Tryz.func100.trans (congrArg some (by kernel_rfl))
  f20 := ⟨Tryz.f149.name, by decide, Tryz.func149.trans (congrArg some (by kernel_rfl))⟩
  f21 := ⟨Tryz.f150.name, by decide, Tryz.func150.trans (congrArg some (by kernel_rfl))⟩
  f22 := ⟨Tryz.f151.name, by decide, Tryz.func151.trans (congrArg some (by kernel_rfl))⟩
  f23 := ⟨Tryz.f152.name, by decide, Tryz.func152.trans (congrArg some (by kernel_rfl))⟩
  f24 := ⟨Tryz.f153.name, by decide, Tryz.func153.trans (congrArg some (by kernel_rfl))⟩
  f25 := ⟨Tryz.f154.name, by decide, Tryz.func154.trans (congrArg some (by kernel_rfl))⟩
  f26 := ⟨Tryz.f155.name, by decide, Tryz.func155.trans (congrArg some (by kernel_rfl))⟩
  f27 := ⟨Tryz.f156.name, by decide, Tryz.func156.trans (congrArg some (by kernel_rfl))⟩
  f28 := Tryz.func157.trans (congrArg some (by kernel_rfl))
  f29 := Tryz.func158.trans (congrArg some (by kernel_rfl))
  f46 := ⟨Tryz.f213.name, by decide, Tryz.func213.trans (congrArg some (by kernel_rfl))⟩
  f47 := Tryz.func214.trans (congrArg some (by kernel_rfl))
  f48 := Tryz.func215.trans (congrArg some (by kernel_rfl))
  f49 := ⟨Tryz.f216.name, by decide, Tryz.func216.trans (congrArg some (by kernel_rfl))⟩
  f50 := ⟨Tryz.f217.name, by decide, Tryz.func217.trans (congrArg some (by kernel_rfl))⟩
  f57 := ⟨Tryz.f241.name, by decide, Tryz.func241.trans (congrArg some (by kernel_rfl))⟩
  t0 := Tryz.underlying0
  a0 := Tryz.isAgg0
  z0 := Tryz.sizeOf0
  v0 := Tryz.zeroValue0
  t3 := Tryz.underlying3
  a3 := Tryz.isAgg3
  z3 := Tryz.sizeOf3
  v3 := Tryz.zeroValue3
  t4 := Tryz.underlying4
  a4 := Tryz.isAgg4
  z4 := Tryz.sizeOf4
  v4 := Tryz.zeroValue4
  t5 := Tryz.underlying5
  a5 := Tryz.isAgg5
  z5 := Tryz.sizeOf5
  v5 := Tryz.zeroValue5
  t9 := Tryz.underlying9
  a9 := Tryz.isAgg9
  z9 := Tryz.sizeOf9
  v9 := Tryz.zeroValue9
  t22 := Tryz.underlying32
  a22 := Tryz.isAgg32
  z22 := Tryz.sizeOf32
  v22 := Tryz.zeroValue32
  t25 := Tryz.underlying114
  a25 := Tryz.isAgg114
  z25 := Tryz.sizeOf114
  v25 := Tryz.zeroValue114
  t39 := Tryz.underlying164
  a39 := Tryz.isAgg164
  z39 := Tryz.sizeOf164
  v39 := Tryz.zeroValue164
  t45 := Tryz.underlying201
  a45 := Tryz.isAgg201
  z45 := Tryz.sizeOf201
  v45 := Tryz.zeroValue201
  t46 := Tryz.underlying202
  a46 := Tryz.isAgg202
  z46 := Tryz.sizeOf202
  v46 := Tryz.zeroValue202
  t50 := Tryz.underlying206
  a50 := Tryz.isAgg206
  z50 := Tryz.sizeOf206
  v50 := Tryz.zeroValue206
  t53 := Tryz.underlying63
  a53 := Tryz.isAgg63
  z53 := Tryz.sizeOf63
  v53 := Tryz.zeroValue63
  t55 := Tryz.underlying64
  a55 := Tryz.isAgg64
  z55 := Tryz.sizeOf64
  v55 := Tryz.zeroValue64
  t66 := Tryz.underlying249
  a66 := Tryz.isAgg249
  z66 := Tryz.sizeOf249
  v66 := Tryz.zeroValue249
  t70 := Tryz.underlying253
  a70 := Tryz.isAgg253
  z70 := Tryz.sizeOf253
  v70 := Tryz.zeroValue253
  t76 := Tryz.underlying272
  a76 := Tryz.isAgg272
  z76 := Tryz.sizeOf272
  v76 := Tryz.zeroValue272
  t77 := Tryz.underlying273
  a77 := Tryz.isAgg273
  z77 := Tryz.sizeOf273
  v77 := Tryz.zeroValue273 }
def Tryz.cmpInt_ren : Go.Shelf.Ren := ⟨fun | 5 => 102 | 7 => 159 | n => n, fun | 22 => 3 | 3 => 3 | 4 => 4 | n => n, fun | n => n⟩
theorem Tryz.cmpInt : Go.Proofs.SlLaysC2.n5 Tryz.prog Tryz.cmpInt_ren := {
  mixed := by kernel_rfl
  f5 := ⟨Tryz.f102.name, by decide, Tryz.func102.trans (congrArg some (by kernel_rfl))⟩
  f7 := ⟨Tryz.f159.name, by decide, Tryz.func159.trans (congrArg some (by kernel_rfl))⟩
  t3 := Tryz.underlying3
  a3 := Tryz.isAgg3
  z3 := Tryz.sizeOf3
  v3 := Tryz.zeroValue3
  t4 := Tryz.underlying4
  a4 := Tryz.isAgg4
  z4 := Tryz.sizeOf4
  v4 := Tryz.zeroValue4
  t22 := Tryz.underlying3
  a22 := Tryz.isAgg3
  z22 := Tryz.sizeOf3
  v22 := Tryz.zeroValue3 }
theorem zP1 (x y : Int) (W : World) : Calls Tryz.prog 102 #[.int .i64 x, .int .i64 y] W fun e w' => e = .returned (.int .i64 (Lib.compareInt x y)) ∧ w' = W :=
 AnyG.cmp_Compare_int Tryz.cmpInt x y W
theorem kOr (x y : Int) (W : World) (a : Nat) (h : ∀ i, i < 2 → W.cell? ⟨a, i, none⟩ = some (.int .i64 ([x, y].getD i 0))) : Calls Tryz.prog 101 #[.slice (some ⟨a, 0, none⟩) 2 2] W fun e w' => e = .returned (.int .i64 (if x = 0 then y else x)) ∧ w' = W := by
 have h0 := h 0 (by omega)
 have h1 := h 1 (by omega)
 go_enter Tryz.func101, Tryz.ntmps101
 by_cases hx : x = 0
 ·rw [if_pos hx]
  subst hx
  by_cases hy : y = 0
  ·subst hy
   go_wp2
   refine wp_loop_rounds 3 ?_
   simp only [Code.rounds]
   go_wp2
   go_ret
   exact ⟨rfl, rfl⟩
  ·go_wp2
   refine wp_loop_rounds 3 ?_
   simp only [Code.rounds]
   go_wp2
   go_ret
   exact ⟨rfl, rfl⟩
 ·rw [if_neg hx]
  go_wp2
  refine wp_loop_rounds 3 ?_
  simp only [Code.rounds]
  go_wp2
  go_ret
  exact ⟨rfl, rfl⟩
def pcs (l : List zB) : List AV := l.flatMap zB.av
theorem xP (l : List zB) : (pcs l).length = l.length * 2 := by
 induction l with
 | nil => rfl
 | cons x l ih =>
  rw [pcs, yNa, yL5, ← pcs, ih]
  simp [zB.av]
  omega
theorem qX (x : zB) (l : List zB) : pcs (x :: l) = .raw (.int .i64 x.kind) :: .raw (.int .i64 x.id) :: pcs l := rfl
@[simp] theorem zEo (l : List zB) : AV.freeL (pcs l) := by
 induction l with
 | nil => trivial
 | cons x l ih => exact ⟨trivial, trivial, ih⟩
theorem zMp : ∀ (l : List zB) (zs : List AV) (i : Nat), i < l.length → ((pcs l ++ zs).drop (i * 2)).take 2 = (l.getD i default).av
 | [], _, i, h => by simp at h
 | x :: l, zs, 0, _ => by simp [qX, zB.av]
 | x :: l, zs, i + 1, h => by
  have := zMp l zs i (by simpa using h)
  rw [qX, show (i + 1) * 2 = i * 2 + 2 from by omega]
  simpa using this
theorem zTn : ∀ (l : List zB) (zs : List AV) (i : Nat) (x : zB), i < l.length → vU (pcs l ++ zs) (i * 2) x.av = pcs (l.set i x) ++ zs
 | [], _, i, _, h => by simp at h
 | y :: l, zs, 0, x, _ => by
  have h0 : ∀ c : List AV, kG ([] : List AV) c = c := fun c => by cases c <;> rfl
  simp [qX, vU, kG, zB.av, h0]
 | y :: l, zs, i + 1, x, h => by
  have := zTn l zs i x (by simpa using h)
  rw [qX, show (i + 1) * 2 = (i * 2 + 1) + 1 from by omega]
  simp only [yL3, vU, yLd, qX]
  rw [this]
theorem swoP : SWO (ltOf zPp) := {
 irrefl x := zX9.irr x
 trans x y z h1 h2 := zX9.trans x y z h1 h2
 ntrans x y z h1 h2 := by
  have h1 : ltP x y = false := h1
  have h2 : ltP y z = false := h2
  show ltP x z = false
  rw [Bool.eq_false_iff, ne_eq, zFu] at *
  omega }
def kP (l : List zB) : List zB := (pdq (ltOf zPp) l.toArray 0 l.length (Lib.bitLen l.length) true true).toList
theorem zC2 (l : List zB) : (kP l).Perm l ∧ (kP l).Pairwise fun a b => ltP b a = false := by
 have h := pdq_sorts (ltOf zPp) swoP l.toArray 0 l.length (Lib.bitLen l.length) true true (yKo _) (by simp) (Or.inl rfl)
 unfold kP
 generalize pdq (ltOf zPp) l.toArray 0 l.length (Lib.bitLen l.length) true true = d at *
 obtain ⟨⟨h1, h2, h3⟩, h4⟩ := h
 have hs : d.size = l.length := by simpa using h1
 constructor
 ·have e1 : (d.extract 0 l.length) = d := by rw [← hs]; simp
  have e2 : (l.toArray.extract 0 l.length) = l.toArray := by simp
  rw [e1, e2] at h3
  simpa using h3
 ·rw [List.pairwise_iff_getElem]
  intro i j hi hj hij
  simp only [yLu] at hi hj
  have := h4 i j (yKo _) hij (by omega)
  rw [getElem!_pos d j hj, getElem!_pos d i hi] at this
  exact this
theorem zUd (W : World) (c1 c2 : Int) (t : TypeId) (i : Nat) (hi : i < 2) : (W.alloc (.cells #[.int .i64 c1, .int .i64 c2] t)).cell? ⟨W.heap.size, i, none⟩ = some (.int .i64 ([c1, c2].getD i 0)) := by
 have e : i = 0 ∨ i = 1 := by omega
 rcases e with rfl | rfl
 ·unfold World.cell? World.alloc
  simp
 ·unfold World.cell? World.alloc
  simp
theorem zCs (x y : Int) : Lib.compareInt x y = zEa x y := by
 unfold Lib.compareInt zEa
 split <;> (try split) <;> (try split) <;> (try split) <;> first | rfl | omega
theorem kCmp (x y : zB) (W : World) : Calls Tryz.prog 52 #[.agg #[.int .i64 x.kind, .int .i64 x.id], .agg #[.int .i64 y.kind, .int .i64 y.id]] W fun e w' => e = .returned (.int .i64 (zPp x y)) ∧ ∃ q os', w' = grow (W.drewN q) os' := by
 have h1 := fun W' => zP1 x.kind y.kind W'
 have h2 := fun W' => zP1 x.id y.id W'
 rw [show zPp x y = if Lib.compareInt x.kind y.kind = 0 then Lib.compareInt x.id y.id else Lib.compareInt x.kind y.kind from by rw [zCs, zCs]; rfl]
 have h3 := fun W' a' => kOr (Lib.compareInt x.kind y.kind) (Lib.compareInt x.id y.id) W' a'
 generalize Lib.compareInt x.kind y.kind = c1 at *
 generalize Lib.compareInt x.id y.id = c2 at *
 generalize (if c1 = 0 then c2 else c1) = r at *
 go_enter Tryz.func52, Tryz.ntmps52
 go_wp2
 have k1 : ((W.alloc (.cells #[.int .i64 x.kind, .int .i64 x.id] 57)).alloc (.cells #[.int .i64 y.kind, .int .i64 y.id] 57)).cell? ⟨W.heap.size, 0, none⟩ = some (.int .i64 x.kind) := by go_simp
 have k2 : ((W.alloc (.cells #[.int .i64 x.kind, .int .i64 x.id] 57)).alloc (.cells #[.int .i64 y.kind, .int .i64 y.id] 57)).cell? ⟨W.heap.size, 1, none⟩ = some (.int .i64 x.id) := by go_simp
 have k3 : ((W.alloc (.cells #[.int .i64 x.kind, .int .i64 x.id] 57)).alloc (.cells #[.int .i64 y.kind, .int .i64 y.id] 57)).cell? ⟨W.heap.size + 1, 0, none⟩ = some (.int .i64 y.kind) := by go_simp
 have k4 : ((W.alloc (.cells #[.int .i64 x.kind, .int .i64 x.id] 57)).alloc (.cells #[.int .i64 y.kind, .int .i64 y.id] 57)).cell? ⟨W.heap.size + 1, 1, none⟩ = some (.int .i64 y.id) := by go_simp
 have k5 : ∃ os0, grow W os0 = (W.alloc (.cells #[.int .i64 x.kind, .int .i64 x.id] 57)).alloc (.cells #[.int .i64 y.kind, .int .i64 y.id] 57) :=
  ⟨#[.cells #[.int .i64 x.kind, .int .i64 x.id] 57, .cells #[.int .i64 y.kind, .int .i64 y.id] 57], by rw [alloc_eq_grow, alloc_eq_grow, grow_grow]; rfl⟩
 generalize (W.alloc (.cells #[.int .i64 x.kind, .int .i64 x.id] 57)).alloc (.cells #[.int .i64 y.kind, .int .i64 y.id] 57) = W1 at k1 k2 k3 k4 k5 ⊢
 replace k5 : Nonempty (PLift (∃ os0, grow W os0 = W1)) := ⟨⟨k5⟩⟩
 go_region_held (fun w' => w'.cell? ⟨W.heap.size, 0, none⟩ = some (.int .i64 x.kind) ∧ w'.cell? ⟨W.heap.size, 1, none⟩ = some (.int .i64 x.id) ∧ w'.cell? ⟨W.heap.size + 1, 0, none⟩ = some (.int .i64 y.kind) ∧ w'.cell? ⟨W.heap.size + 1, 1, none⟩ = some (.int .i64 y.id)) (go_keep) (first | (go_at_call_of 102 x.kind; refine (h1 _).mono ?_; rintro e w' ⟨rfl, rfl⟩) | (go_at_call_of 102 x.id; refine (h2 _).mono ?_; rintro e w' ⟨rfl, rfl⟩) | (go_at_call 101; refine (h3 _ _ ?_).mono ?_; exact fun i hi => zUd _ c1 c2 3 i hi; rintro e w' ⟨rfl, rfl⟩))
 all_goals go_wp2
 all_goals go_ret
 all_goals (obtain ⟨⟨os0, rfl⟩⟩ := k5)
 all_goals exact ⟨rfl, 1, os0 ++ #[.cells #[.int .i64 c1, .int .i64 c2] 3], by rw [alloc_eq_grow, grow_grow]; rfl⟩
def zCq (p : zB) : List Value := [.int .i64 p.kind, .int .i64 p.id]
theorem aggP (w : World) : (isAgg 57).run Tryz.prog w = .ok true w := (yH _ _ zSo).agg_run w
theorem yJc (w : World) : (Go.sizeOf 57).run Tryz.prog w = .ok 2 w := (yH _ _ zSo).size_run w
theorem zP8 : ∀ (l : List zB) (t : Nat), t < l.length * 2 → (l.flatMap zCq)[t]? = (zCq (l.getD (t / 2) default))[t % 2]?
 | [], t, h => by simp at h
 | x :: l, 0, _ => rfl
 | x :: l, 1, _ => rfl
 | x :: l, t + 2, h => by
  have := zP8 l t (by simp at h; omega)
  rw [yNa, show (t + 2) / 2 = t / 2 + 1 from by omega, show (t + 2) % 2 = t % 2 from by omega]
  simpa [zCq] using this
theorem zCh (l : List zB) : (l.flatMap zCq).length = l.length * 2 := by
 induction l with
 | nil => rfl
 | cons x l ih => rw [yNa, yL5, ih]; simp [zCq]; omega
theorem yDt (l : List zB) : (flatK zCq 2 l.toArray).toList = l.flatMap zCq := by
 refine List.ext_getElem? fun t => ?_
 by_cases ht : t < l.length * 2
 ·have h1 := get_flatK zCq 2 l.toArray t (by simpa using ht)
  have hsz : t < (flatK zCq 2 l.toArray).size := by simpa using ht
  rw [getElem!_pos _ t hsz] at h1
  rw [zP8 l t ht, Array.getElem?_toList, yKu hsz, h1]
  have h2 : t / 2 < l.length := by omega
  rw [getElem!_pos l.toArray (t / 2) (by simpa using h2), List.getElem_toArray, zU h2]
  have h3 : t % 2 = 0 ∨ t % 2 = 1 := by omega
  rcases h3 with h3 | h3 <;> rw [h3] <;> rfl
 ·rw [yM4 (by simp; omega), yM4 (by rw [zCh]; omega)]
theorem zOl {G : Gh} {w : World} : ∀ {l : List zB} {zs : List AV} {vs : List Value}, AV.relL G w (pcs l ++ zs) vs → ∃ us, vs = l.flatMap zCq ++ us ∧ AV.relL G w zs us
 | [], zs, vs, h => ⟨vs, rfl, h⟩
 | x :: l, zs, vs, h => by
  rw [qX] at h
  obtain ⟨v1, r1, rfl, h1, v2, r2, rfl, h2, h3⟩ := h
  obtain ⟨us, rfl, h4⟩ := zOl h3
  have e1 : v1 = .int .i64 x.kind := h1
  have e2 : v2 = .int .i64 x.id := h2
  exact ⟨us, by rw [e1, e2]; rfl, h4⟩
theorem zFk {G : Gh} {w : World} {zs : List AV} {us : List Value} (h : AV.relL G w zs us) : ∀ l : List zB, AV.relL G w (pcs l ++ zs) (l.flatMap zCq ++ us)
 | [] => h
 | x :: l => ⟨_, _, rfl, rfl, _, _, rfl, rfl, zFk h l⟩
theorem yA9 (d : Array zB) (l us : List Value) (h : l.length = d.size * 2) : (putCells id 0 (flatK zCq 2 d) (l ++ us).toArray).toList = d.toList.flatMap zCq ++ us := by
 have hf : (flatK zCq 2 d).toList = d.toList.flatMap zCq := yDt d.toList
 have hs : (flatK zCq 2 d).size = d.size * 2 := size_flatK zCq 2 d
 refine List.ext_getElem? fun t => ?_
 rw [putCells, Array.toList_mapIdx, List.getElem?_mapIdx]
 by_cases ht : t < d.size * 2
 ·have hl1 : t < l.length := by omega
  have hl3 : t < (flatK zCq 2 d).toList.length := by rw [yLu]; omega
  rw [← hf]
  rw [yM1 hl3, yLm hl3]
  rw [yM1 hl1, yLm hl1]
  simp only [yL0]
  rw [if_pos ⟨yKo _, by omega⟩, Nat.sub_zero, getElem!_pos _ t (by omega)]
  rfl
 ·have hl2 : (d.toList.flatMap zCq).length = d.size * 2 := by rw [zCh]; simp
  rw [yM2 (by omega), yM2 (by omega), h, hl2]
  cases hu : us[t - d.size * 2]? with
  | none => rfl
  | some u =>
   simp only [yL0]
   rw [if_neg (by omega)]
theorem zQf {w : World} {blk : Nat} {T : TypeId} {l us : List Value} {d : Array zB} (h : w.heap[blk]? = some (.cells (l ++ us).toArray T (0, 0))) (hl : l.length = d.size * 2) (n : Nat) :
  zGx w blk (d.toList.flatMap zCq ++ us) T (putRowK zCq 2 (Sort.ahead w n) blk 0 d) := by
 refine ⟨rfl, rfl, rfl, by simp [putRowK, Sort.ahead], fun k hk => ?_, ?_⟩
 ·show (w.heap.modify blk _)[k]? = _
  rw [Array.getElem?_modify, if_neg (fun e => hk e.symm)]
 ·show (w.heap.modify blk _)[blk]? = _
  rw [Array.getElem?_modify, if_pos rfl, h]
  simp only [yL0, onCells]
  congr 2
  apply Array.ext'
  exact yA9 d l us hl
theorem zDk (w : World) (os : Array Obj) : Go.RowKit.Below w.heap.size w (grow w os) := ⟨rfl, rfl, rfl, by simp [grow], fun k hk => by
 show (w.heap ++ os)[k]? = _
 rw [yMe hk]⟩
theorem zZ1 (l : List zB) (hl : l.length < 4611686018427387904) (c : Nat) (zs : List AV) :
  FnG Tryz.prog 51 [.bsl 2 0 0 l.length c, .raw (.func (.func 52) #[] #[])] [pcs l ++ zs] [] (.tup []) [pcs (kP l) ++ zs] [] := by
 refine ⟨⟨_, Tryz.func51, by kernel_rfl, by kernel_rfl⟩, fun G w vs htb hto hM hr => ?_⟩
 obtain ⟨v1, r1, rfl, ⟨blk, A, hA0, rfl, hnc, hcm, hA⟩, v2, r2, rfl, h2, h3⟩ := hr
 obtain rfl : r2 = [] := h3
 have e2 : v2 = .func (.func 52) #[] #[] := h2
 subst e2
 obtain ⟨_, ws, T, b3, b4⟩ := hM.box 0 (pcs l ++ zs) blk rfl hA0
 obtain ⟨us, rfl, b5⟩ := zOl b4
 have hperm := (zC2 l).1
 rcases yLj l.length with h0 | h0
 ·have hnil := yO9.1 h0
  subst hnil
  have hs : kP [] = [] := yO9.1 hperm.length_eq
  rw [hs]
  refine (AnyF.slices_SortFunc_none Tryz.sortP A c _ w).mono ?_
  rintro e w' ⟨rfl, rfl⟩
  exact ⟨_, G, rfl, z6.refl _ _, Gh.Le.refl _ _, fun _ _ i => .inl i, fun _ h => .inl h, fun x hx g hg => .inl ⟨x, hx, hg⟩, hM, ⟨[], rfl, rfl⟩⟩
 ·have hA := hA (by omega)
  subst hA
  have hblk : blk < w.heap.size := hM.lt_box (yLz hA0)
  have hsz2 : (flatK zCq 2 l.toArray).size = l.length * 2 := by rw [size_flatK]; simp
  have hH : HoldsK zCq 2 w blk 0 l.toArray := by
   intro j hj
   have hj' : j < l.length * 2 := by rw [hsz2] at hj; exact hj
   rw [yLe]
   refine ⟨?_, by simp [World.frozen?, b3]⟩
   have e1 : (l.flatMap zCq ++ us)[j]? = some ((flatK zCq 2 l.toArray)[j]!) := by
    rw [yM1 (by rw [zCh]; exact hj'), ← yDt, Array.getElem?_toList, yKu hj, getElem!_pos _ j hj]
   simp only [World.cell?, b3]
   simpa using e1
  have hcmp : CmpLays Tryz.prog 52 #[] zCq 2 zPp blk 0 l.toArray.size w := fun m os dk _ x y => kCmp x y _
  have h := AnyQ.slices_SortFunc_eq Tryz.sortP 2 aggP yJc zCq (fun _ => rfl) (by intro x v hv; simp [zCq] at hv; rcases hv with rfl | rfl <;> rfl) zPp swoP 52 #[] blk 0 c l.toArray w (fun args w => by rfl) hcmp hH hblk (by simpa using hl)
  have hd : (kP l).length = l.length := hperm.length_eq
  have hsl : kP l = (pdq (ltOf zPp) l.toArray 0 l.toArray.size (Lib.bitLen l.toArray.size) true true).toList := rfl
  generalize pdq (ltOf zPp) l.toArray 0 l.toArray.size (Lib.bitLen l.toArray.size) true true = d at h hsl
  have hds : (l.flatMap zCq).length = d.size * 2 := by rw [zCh, ← hd, hsl, yLu]
  refine h.mono ?_
  rintro e w' ⟨rfl, n, os, rfl⟩
  have S := zQf b3 hds n
  obtain ⟨m1, le1⟩ := zDj hM (b := 0) (cs' := pcs (kP l) ++ zs) rfl hA0 S (by rw [hsl]; exact zFk b5 _)
  have E := wP m1 (zDk _ os) G.imm (fun _ _ i => i) (fun _ _ i => .inl i) fun b o i => by
   rw [World.cell?_of_block ((zDk _ os).block b (m1.lt_imm i))]
   exact m1.immOk b o i
  refine ⟨_, G, rfl, z6.trans ⟨S.os, S.tape, S.output, Nat.le_of_eq S.size.symm, fun k _ hk => S.other k fun e => hk (.inl (e ▸ yLz hA0))⟩ (z6.of_below (zDk _ os)), le1.trans E.le, fun _ _ i => .inl i, fun _ h => .inl h, fun x hx g hg => .inl ⟨x, hx, hg⟩, E.mem, ⟨[], rfl, rfl⟩⟩
end Go.Proofs.YtchpbdecipcelaaGreatDoor
