import Derived.Test.YtioaahmkebojiaaGreatDoorWC01
import Derived.Test.YtioaahmkebojiaaGreatDoorWC11
import Derived.Test.YtioaahmkebojiaaGreatDoorWC17
import Derived.Test.YtioaahmkebojiaaGreatDoorWC42
namespace Go.Proofs.YtioaahmkebojiaaGreatDoor
open Tryz
set_option linter.unusedVariables false
set_option linter.unusedSimpArgs false
set_option maxHeartbeats 4000000
set_option maxRecDepth 100000
open Go.RowKit
def zM1 (x : Int) : List (Int × Value) → Nat → Option (Nat × Value)
 | [], _ => none
 | q :: r, i => if x = q.1 then some (i, q.2) else zM1 x r (i + 1)
abbrev zCp (l : List (Int × Value)) : List (Value × Value) := l.map fun q => (Value.int .i64 q.1, q.2)
theorem zEv (x : Int) : ∀ (l : List (Int × Value)) (es : List MapEntry) (i : Nat), (es.map fun e => (e.key, e.val)) = zCp l → Instr.findNow (.int .i64) (.int .i64 x) es i = some (zM1 x l i)
 | [], [], i, _ => rfl
 | [], e :: es, i, h => by cases h
 | q :: l, [], i, h => by cases h
 | q :: l, e :: es, i, h => by
  simp only [zCp, yNm, yOy, yMu] at h
  obtain ⟨⟨h1, h2⟩, h3⟩ := h
  have ih := zEv x l es (i + 1) h3
  rw [Instr.findNow, h1, zM1]
  by_cases hx : x = q.1
  ·rw [if_pos hx, show Instr.sameNow (.int .i64) (.int .i64 x) (.int .i64 q.1) = some true by simp [Instr.sameNow, hx]]
   simp only [h2]
  ·rw [if_neg hx, show Instr.sameNow (.int .i64) (.int .i64 x) (.int .i64 q.1) = some false by simp [Instr.sameNow, hx]]
   exact ih
theorem xC {P : Program} {kt : TypeId} (h : P.underlying kt = some (.int .i64)) (x : Int) (l : List (Int × Value)) : zKh P kt (.int .i64 x) (zCp l) (zM1 x l 0) := fun w es he => by
 unfold Instr.findKey
 simp only [Sem.run_bind, run_underlying h, Result.andThen_ok, zEv x l es 0 he, Sem.run_pure]
theorem zNv {x : Int} : ∀ {l : List (Int × Value)} {k i : Nat} {v : Value}, zM1 x l k = some (i, v) → k ≤ i ∧ (zCp l)[i - k]? = some (Value.int .i64 x, v)
 | [], k, i, v, h => by cases h
 | q :: l, k, i, v, h => by
  rw [zM1] at h
  split at h
  ·rename_i hx
   cases h
   subst hx
   exact ⟨yMj _, by simp⟩
  ·obtain ⟨h1, h2⟩ := zNv h
   refine ⟨by omega, ?_⟩
   rw [show i - k = (i - (k + 1)) + 1 by omega]
   simpa using h2
def zDb : List (Int × Value) := [(1, .func (.func 58) #[] #[]), (2, .func (.func 59) #[] #[]), (3, .func (.func 60) #[] #[]), (4, .func (.func 61) #[] #[]), (5, .func (.func 62) #[] #[]),
 (6, .func (.func 63) #[] #[]), (7, .func (.func 64) #[] #[]), (8, .func (.func 65) #[] #[]), (9, .func (.func 66) #[] #[])]
abbrev jK (l : List (Int × Value)) : zV := ⟨93, 0, 0, vS (zCp l)⟩
theorem qA {x : Int} {l : List (Int × Value)} : ∀ i v, zM1 x l 0 = some (i, v) → (zCp l)[i]? = some (Value.int .i64 x, v) := fun i v h => (zNv h).2
theorem zKe : FnG Tryz.prog 22 [] [] [] (.row 0 0) [] [jK zDb] := by
 refine enG func22 ntmps22 [.tmp 0] 0 rfl ?_
 try (first | refine wkM hK trivial ?_ | refine wkg trivial ?_)
 try clear hK K
 try refine sM fun K hK => ?_
 refine zD2 rfl rfl rfl rfl ⟨_, evl, _, evl, ?_⟩
 refine yC (kt := 3) (et := 92) (xC kq 1 (zDb.take 0)) (x9 kq 1) (yI _ _ _) qA (.inr rfl) kq rfl rfl ⟨_, evl, _, rfl, ⟨rfl, rfl⟩, rfl, _, evl, AV.is_raw _, _, evl, AV.is_raw _, [jK (zDb.take 1)], (by rfl), ?_⟩
 refine yC (kt := 3) (et := 92) (xC kq 2 (zDb.take 1)) (x9 kq 2) (yI _ _ _) qA (.inr rfl) kq rfl rfl ⟨_, evl, _, rfl, ⟨rfl, rfl⟩, rfl, _, evl, AV.is_raw _, _, evl, AV.is_raw _, [jK (zDb.take 2)], (by rfl), ?_⟩
 refine yC (kt := 3) (et := 92) (xC kq 3 (zDb.take 2)) (x9 kq 3) (yI _ _ _) qA (.inr rfl) kq rfl rfl ⟨_, evl, _, rfl, ⟨rfl, rfl⟩, rfl, _, evl, AV.is_raw _, _, evl, AV.is_raw _, [jK (zDb.take 3)], (by rfl), ?_⟩
 refine yC (kt := 3) (et := 92) (xC kq 4 (zDb.take 3)) (x9 kq 4) (yI _ _ _) qA (.inr rfl) kq rfl rfl ⟨_, evl, _, rfl, ⟨rfl, rfl⟩, rfl, _, evl, AV.is_raw _, _, evl, AV.is_raw _, [jK (zDb.take 4)], (by rfl), ?_⟩
 refine yC (kt := 3) (et := 92) (xC kq 5 (zDb.take 4)) (x9 kq 5) (yI _ _ _) qA (.inr rfl) kq rfl rfl ⟨_, evl, _, rfl, ⟨rfl, rfl⟩, rfl, _, evl, AV.is_raw _, _, evl, AV.is_raw _, [jK (zDb.take 5)], (by rfl), ?_⟩
 refine yC (kt := 3) (et := 92) (xC kq 6 (zDb.take 5)) (x9 kq 6) (yI _ _ _) qA (.inr rfl) kq rfl rfl ⟨_, evl, _, rfl, ⟨rfl, rfl⟩, rfl, _, evl, AV.is_raw _, _, evl, AV.is_raw _, [jK (zDb.take 6)], (by rfl), ?_⟩
 refine yC (kt := 3) (et := 92) (xC kq 7 (zDb.take 6)) (x9 kq 7) (yI _ _ _) qA (.inr rfl) kq rfl rfl ⟨_, evl, _, rfl, ⟨rfl, rfl⟩, rfl, _, evl, AV.is_raw _, _, evl, AV.is_raw _, [jK (zDb.take 7)], (by rfl), ?_⟩
 refine yC (kt := 3) (et := 92) (xC kq 8 (zDb.take 7)) (x9 kq 8) (yI _ _ _) qA (.inr rfl) kq rfl rfl ⟨_, evl, _, rfl, ⟨rfl, rfl⟩, rfl, _, evl, AV.is_raw _, _, evl, AV.is_raw _, [jK (zDb.take 8)], (by rfl), ?_⟩
 refine yC (kt := 3) (et := 92) (xC kq 9 (zDb.take 8)) (x9 kq 9) (yI _ _ _) qA (.inr rfl) kq rfl rfl ⟨_, evl, _, rfl, ⟨rfl, rfl⟩, rfl, _, evl, AV.is_raw _, _, evl, AV.is_raw _, [jK (zDb.take 9)], (by rfl), ?_⟩
 try (first | refine wkM hK trivial ?_ | refine wkg trivial ?_)
 try clear hK K
 try refine sM fun K hK => ?_
 refine zCj sq ⟨_, _, _, evl, obq, zQ4.bel rfl obb, by simp, rfl, rfl, obb, ?_⟩
 intro r hr q hq
 simp only [yO1] at hr
 subst hr
 exact absurd hq (Nat.not_lt_zero _)
instance stillM (h : Liv) : StillZ (Liv.av mtA h) := ⟨fun _ _ => rfl, Liv.free yU h⟩
instance stillN (h : Liv) : StillZ (Liv.av zX h) := ⟨fun _ _ => rfl, Liv.free (ch := zX) trivial h⟩
abbrev ev0 : List AV := [.raw (.int .i64 0), .raw (.int .i64 0), .raw (.int .i64 0), .raw (.int .i64 0), .raw (.int .i64 0), .raw (.int .i64 0), .raw (.bool false), .raw (.int .i64 0), zX]
theorem zVp (h : Liv) (id : Int) : FnG Tryz.prog 57 [.agg (h.av mtA), .box 0 0] [[.raw (.int .i64 id)]] [] (.raw (.bool (decide (h.id = id)))) [[.raw (.int .i64 id)]] [] := by
 refine enG func57 ntmps57 [.tmp 3] 1 rfl ?_
 try (refine wg ?_; try refine sM fun K hK => ?_)
 all_goals (refine zCj sq ⟨_, _, _, evl, obq, zQ4.bel ?_ obb, by simp, ?_, rfl, obb, obb⟩)
 all_goals first | rfl | (simp []; done) | (simp_all []; done) | (simp_all []; omega) | (simp []; grind) | (split <;> simp_all) | skip
theorem zVg (h : Liv) (Z : List AV) [hZ : StillZ Z] (m c : Nat) (hm : 0 < m) (hc : m ≤ 1000000) : FnG Tryz.prog 56 [.bsl 22 0 0 m c, .fn (.func 57) [] [.box 1 0]] [h.av mtA ++ Z, [.raw (.int .i64 h.id)]] [] (.raw (.int .i64 0)) [h.av mtA ++ Z, [.raw (.int .i64 h.id)]] [] := by
 have h1 := zVp h h.id
 rw [yPm rfl] at h1
 refine enG func56 ntmps56 [.tmp 4] 2 rfl ?_
 repeat
  first
   | (refine zG (hK _ ?_); clear hK K)
   | refine stB ?_
   | (refine yO 2 rfl ?_; refine yM zW rfl rfl rfl ⟨_, _, _, _, _, _, _, evl, obq, _, _, _, _, _, evl, _, evl, obq, obq, obs, _, evl, fun c hc1 hc2 => ⟨_, evl, ?_⟩⟩)
   | (refine z5 1 rfl ?_; refine zE ?_)
   | (refine yH ?_; first | (refine zN (hK _ ?_); clear hK K) | (refine zT rfl ⟨_, evl, fun nb' => ?_⟩))
   | refine zH (fun K hK => ?_)
   | (refine wY ?_; first | (refine zD false rfl kq kq (fun K hK => ?_)) | (refine zD true rfl kq kq (fun K hK => ?_)))
 refine zP (fun _ : Unit => ⟨19, 2, [(0, true, .bsl 22 0 0 m c), (1, true, .fn (.func 57) [] [.box 1 0]), (7, true, .raw (.int .i64 m)), (8, true, .raw (.int .i64 0))], [h.av mtA ++ Z, [.raw (.int .i64 h.id)]], [], ((0, []), [], true)⟩) (fun _ => True) (fun _ => 0) () ?_ trivial ?_
 ·exact wkZ
 rintro _ -
 repeat
  first
   | (refine zG (hK _ ?_); clear hK K)
   | refine stB ?_
   | (refine yO 2 rfl ?_; refine yM zW rfl rfl rfl ⟨_, _, _, _, _, _, _, evl, obq, _, _, _, _, _, evl, _, evl, obq, obq, obs, _, evl, fun c hc1 hc2 => ⟨_, evl, ?_⟩⟩)
   | (refine z5 1 rfl ?_; refine zE ?_)
   | (refine yH ?_; first | (refine zN (hK _ ?_); clear hK K) | (refine zT rfl ⟨_, evl, fun nb' => ?_⟩))
   | refine zH (fun K hK => ?_)
   | (refine wY ?_; first | (refine zD false rfl kq kq (fun K hK => ?_)) | (refine zD true rfl kq kq (fun K hK => ?_)))
 refine zB ⟨_, evl, fun _ => ?_, fun hb => ?_⟩
 ·repeat
   first
    | (refine zG (hK _ ?_); clear hK K)
    | refine stB ?_
    | (refine yO 2 rfl ?_; refine yM zW rfl rfl rfl ⟨_, _, _, _, _, _, _, evl, obq, _, _, _, _, _, evl, _, evl, obq, obq, obs, _, evl, fun c hc1 hc2 => ⟨_, evl, ?_⟩⟩)
    | (refine z5 1 rfl ?_; refine zE ?_)
    | (refine yH ?_; first | (refine zN (hK _ ?_); clear hK K) | (refine zT rfl ⟨_, evl, fun nb' => ?_⟩))
    | refine zH (fun K hK => ?_)
    | (refine wY ?_; first | (refine zD false rfl kq kq (fun K hK => ?_)) | (refine zD true rfl kq kq (fun K hK => ?_)))
  refine zE3 [1] [] (h1) rfl rfl rfl ⟨_, evl, _, evl, _, evl, obl, by decide, by decide, hlT, hlT, yKt, _, evl, _, evl, _, evl, ?_⟩
  repeat
   first
    | (refine zG (hK _ ?_); clear hK K)
    | refine stB ?_
    | (refine yO 2 rfl ?_; refine yM zW rfl rfl rfl ⟨_, _, _, _, _, _, _, evl, obq, _, _, _, _, _, evl, _, evl, obq, obq, obs, _, evl, fun c hc1 hc2 => ⟨_, evl, ?_⟩⟩)
    | (refine z5 1 rfl ?_; refine zE ?_)
    | (refine yH ?_; first | (refine zN (hK _ ?_); clear hK K) | (refine zT rfl ⟨_, evl, fun nb' => ?_⟩))
    | refine zH (fun K hK => ?_)
    | (refine wY ?_; first | (refine zD false rfl kq kq (fun K hK => ?_)) | (refine zD true rfl kq kq (fun K hK => ?_)))
  refine zB ⟨_, evl, fun _ => ?_, fun hb => ?_⟩
  ·repeat
    first
     | (refine zG (hK _ ?_); clear hK K)
     | refine stB ?_
     | (refine yO 2 rfl ?_; refine yM zW rfl rfl rfl ⟨_, _, _, _, _, _, _, evl, obq, _, _, _, _, _, evl, _, evl, obq, obq, obs, _, evl, fun c hc1 hc2 => ⟨_, evl, ?_⟩⟩)
     | (refine z5 1 rfl ?_; refine zE ?_)
     | (refine yH ?_; first | (refine zN (hK _ ?_); clear hK K) | (refine zT rfl ⟨_, evl, fun nb' => ?_⟩))
     | refine zH (fun K hK => ?_)
     | (refine wY ?_; first | (refine zD false rfl kq kq (fun K hK => ?_)) | (refine zD true rfl kq kq (fun K hK => ?_)))
   exact zCj sq ⟨_, _, _, evl, obq, zQ4.bel rfl obb, by simp, rfl, rfl, ⟨belL_free _ (yR (Liv.free yU h) hZ.free), ⟨trivial, trivial⟩, trivial⟩, fun r hr => by cases hr⟩
  ·simp at hb
 ·simp at hb
  omega
theorem yBv (n : Net) (t : Int) (h : Liv) (Z : List AV) [hZ : StillZ Z] (m c : Nat) (hm : 0 < m) (hc : m ≤ 1000000) : FnG Tryz.prog 21 [.agg (wav n t (.bsl 22 0 0 m c)), .raw (.int .i64 h.id)] [h.av mtA ++ Z] [] (.raw (.int .i64 0)) [h.av mtA ++ Z] [] := by
 have h1 := zVg h Z m c hm hc
 obtain ⟨f1, f2, f3, f4⟩ := yG n
 have fz := yR (Liv.free yU h) hZ.free
 refine enG func21 ntmps21 [.tmp 4] 1 rfl ?_
 repeat
  first
   | (refine zG (hK _ ?_); clear hK K)
   | refine stB ?_
   | (refine yO 2 rfl ?_; refine yM zW rfl rfl rfl ⟨_, _, _, _, _, _, _, evl, obq, _, _, _, _, _, evl, _, evl, obq, obq, obs, _, evl, fun c hc1 hc2 => ⟨_, evl, ?_⟩⟩)
   | (refine z5 1 rfl ?_; refine zE ?_)
   | (refine yH ?_; first | (refine zN (hK _ ?_); clear hK K) | (refine zT rfl ⟨_, evl, fun nb' => ?_⟩))
   | refine zH (fun K hK => ?_)
   | (refine wY ?_; first | (refine zD false rfl kq kq (fun K hK => ?_)) | (refine zD true rfl kq kq (fun K hK => ?_)))
 refine zE3 [0, 2] [] h1 rfl rfl rfl ⟨_, evl, _, evl, _, evl, obl, by decide, by decide, ⟨?_, rfl, trivial⟩, trivial, ⟨fun cs hc => ?_, fun r hr => (by cases hr), ⟨by simp [AV.sub], ⟨trivial, ⟨by simp [AV.sub], trivial⟩⟩, trivial⟩, yMj _, yMj _⟩, _, evl, _, evl, _, evl, ?_⟩
 ·rw [jN]
  rfl
 ·rcases yNa.1 hc with rfl | hc
  ·exact AV.subL_free _ fz
  ·obtain rfl := yO1.1 hc
   exact ⟨trivial, trivial⟩
 repeat
  first
   | (refine zG (hK _ ?_); clear hK K)
   | refine stB ?_
   | (refine yO 2 rfl ?_; refine yM zW rfl rfl rfl ⟨_, _, _, _, _, _, _, evl, obq, _, _, _, _, _, evl, _, evl, obq, obq, obs, _, evl, fun c hc1 hc2 => ⟨_, evl, ?_⟩⟩)
   | (refine z5 1 rfl ?_; refine zE ?_)
   | (refine yH ?_; first | (refine zN (hK _ ?_); clear hK K) | (refine zT rfl ⟨_, evl, fun nb' => ?_⟩))
   | refine zH (fun K hK => ?_)
   | (refine wY ?_; first | (refine zD false rfl kq kq (fun K hK => ?_)) | (refine zD true rfl kq kq (fun K hK => ?_)))
 exact zCj sq ⟨_, _, _, evl, obq, zQ4.bel rfl obb, by simp, rfl, rfl, ⟨belL_free _ fz, trivial⟩, fun r hr => by cases hr⟩
theorem zXv (n : Net) (h : Liv) (now at' host e : Int) (m : Nat) (hr : h.right) (h0 : h.base ≤ now) (hn : now ≤ 900000000000000) :
  FnA Tryz.prog 58 [.agg (wav n now (.lst 0 m fun _ => []) ++ ([.raw (.int .i64 1), .raw (.int .i64 at'), .raw (.int .i64 host), .raw (.int .i64 e), .raw (.int .i64 0), zX] ++ h.av mtA))] (.tup [.agg ((h.turn now e).av mtA), .agg ev0]) := by
 obtain ⟨f1, f2, f3, f4⟩ := yG n
 have hc := zCv h hr now h0 hn
 unfold Liv.turn
 generalize h.sum now / 1000000000 = S at *
 generalize h.sum now % 1000000000 = R at *
 clear hr
 refine en func58 ntmps58 [.cell 2 43, .cell 3 54] rfl ?_
 repeat (refine stG ?_)
 refine zH (fun K hK => ?_)
 repeat
  first
   | (refine zG (hK _ ?_); clear hK K)
   | refine stG ?_
   | (refine z5 1 rfl ?_; refine zE ?_)
   | (refine yH ?_; first | (refine zN (hK _ ?_); clear hK K) | (refine zT rfl ⟨_, evl, fun nb' => ?_⟩))
 refine y6 (xT.sel (sl' := [(1, true, .box 2 0), (2, true, .box 0 0), (3, true, .box 1 0)]) (bx' := [zVb, ev0, wav n now (.lst 0 m fun _ => []) ++ ([.raw (.int .i64 1), .raw (.int .i64 at'), .raw (.int .i64 host), .raw (.int .i64 e), .raw (.int .i64 0), zX] ++ h.av mtA)]) [1, 2, 0] dq (fun k hk => absurd hk sq)
  ⟨⟨_, rfl, zI (by simp [AV.freeL, AV.free])⟩, ⟨_, rfl, zI (by simp [AV.freeL, AV.free])⟩, ⟨_, rfl, zI (yR (zBa n now (hs := .lst 0 m fun _ => []) fun i _ => trivial) ⟨trivial, trivial, trivial, trivial, trivial, trivial, Liv.free yU h⟩)⟩, trivial⟩
  ⟨⟨_, rfl, .inr ⟨rfl, by simp [AV.sub]⟩⟩, ⟨_, rfl, .inr ⟨rfl, by simp [AV.sub]⟩⟩, ⟨_, rfl, .inr ⟨rfl, by simp [AV.sub]⟩⟩, trivial⟩) ?_
 refine zA0 2 obf ⟨_, evl, _, evl, ?_⟩
 repeat' first
  | refine wkg hc ?_
  | (refine cS (fun hb => ?_) fun hb => ?_ <;> try (cases hb; done))
  | refine sM fun K hK => ?_
  | fail
 all_goals exact fA
end Go.Proofs.YtioaahmkebojiaaGreatDoor
