import Derived.BigCall
import Derived.Lib.AppendIntMem
import Derived.Lib.Hide
import Derived.Lib.ItoaLen
import Derived.Lib.Slices
import Derived.OwnWalk
import Derived.Shelf.Strconv.AppendIntPublic10
import Derived.WalkKit
import Derived.Test.YtchpbdecipcelaaGreatDoorNV06
import Derived.Test.YtchpbdecipcelaaGreatDoorNV10
namespace Go.Proofs.YtchpbdecipcelaaGreatDoor
set_option linter.unusedVariables false
set_option linter.unusedSimpArgs false
set_option maxHeartbeats 4000000
set_option maxRecDepth 100000
open Go.Shelf Go.RowKit
def laysAI_ren : Go.Shelf.Ren := ⟨fun | 176 => 257 | 249 => 260 | 288 => 262 | 283 => 264 | 284 => 265 | 285 => 266 | 286 => 267 | 129 => 158 | 317 => 268 | 318 => 269 | 319 => 270 | 320 => 271 | 337 => 272 | 338 => 273 | n => n, fun | 37 => 211 | 2 => 2 | 3 => 3 | 53 => 64 | 4 => 4 | 9 => 9 | 171 => 297 | 0 => 0 | 173 => 299 | 212 => 302 | 51 => 63 | 5 => 5 | 20 => 20 | 213 => 303 | 46 => 164 | 232 => 304 | 233 => 305 | n => n, fun | 17 => 2 | 18 => 3 | 19 => 4 | n => n⟩
theorem laysAI : Go.Proofs.LaysM.n176 Tryz.prog laysAI_ren := {
  mixed := by kernel_rfl
  f129 := Tryz.func158.trans (congrArg some (by kernel_rfl))
  f176 := Tryz.func257.trans (congrArg some (by kernel_rfl))
  f249 := Tryz.func260.trans (congrArg some (by kernel_rfl))
  f283 := Tryz.func264.trans (congrArg some (by kernel_rfl))
  f284 := Tryz.func265.trans (congrArg some (by kernel_rfl))
  f285 := Tryz.func266.trans (congrArg some (by kernel_rfl))
  f286 := Tryz.func267.trans (congrArg some (by kernel_rfl))
  f288 := Tryz.func262.trans (congrArg some (by kernel_rfl))
  f317 := Tryz.func268.trans (congrArg some (by kernel_rfl))
  f318 := Tryz.func269.trans (congrArg some (by kernel_rfl))
  f319 := Tryz.func270.trans (congrArg some (by kernel_rfl))
  f320 := Tryz.func271.trans (congrArg some (by kernel_rfl))
  f337 := Tryz.func272.trans (congrArg some (by kernel_rfl))
  f338 := Tryz.func273.trans (congrArg some (by kernel_rfl))
  t0 := Tryz.underlying0
  a0 := Tryz.isAgg0
  z0 := Tryz.sizeOf0
  v0 := Tryz.zeroValue0
  t2 := Tryz.underlying2
  a2 := Tryz.isAgg2
  z2 := Tryz.sizeOf2
  v2 := Tryz.zeroValue2
  t3 := Tryz.underlying3
  a3 := Tryz.isAgg3
  z3 := Tryz.sizeOf3
  v3 := Tryz.zeroValue3
  t4 := Tryz.underlying4
  a4 := Tryz.isAgg4
  z4 := Tryz.sizeOf4
  v4 := Tryz.zeroValue4
  t5 := Tryz.underlying5
  a5 := Tryz.isAgg5
  z5 := Tryz.sizeOf5
  v5 := Tryz.zeroValue5
  t9 := Tryz.underlying9
  a9 := Tryz.isAgg9
  z9 := Tryz.sizeOf9
  v9 := Tryz.zeroValue9
  t20 := Tryz.underlying20
  a20 := Tryz.isAgg20
  z20 := Tryz.sizeOf20
  v20 := Tryz.zeroValue20
  t37 := Tryz.underlying211
  a37 := Tryz.isAgg211
  z37 := Tryz.sizeOf211
  v37 := Tryz.zeroValue211
  t46 := Tryz.underlying164
  a46 := Tryz.isAgg164
  z46 := Tryz.sizeOf164
  v46 := Tryz.zeroValue164
  t51 := Tryz.underlying63
  a51 := Tryz.isAgg63
  z51 := Tryz.sizeOf63
  v51 := Tryz.zeroValue63
  t53 := Tryz.underlying64
  a53 := Tryz.isAgg64
  z53 := Tryz.sizeOf64
  v53 := Tryz.zeroValue64
  t171 := Tryz.underlying297
  a171 := Tryz.isAgg297
  z171 := Tryz.sizeOf297
  v171 := Tryz.zeroValue297
  t173 := Tryz.underlying299
  a173 := Tryz.isAgg299
  z173 := Tryz.sizeOf299
  v173 := Tryz.zeroValue299
  t212 := Tryz.underlying302
  a212 := Tryz.isAgg302
  z212 := Tryz.sizeOf302
  v212 := Tryz.zeroValue302
  t213 := Tryz.underlying303
  a213 := Tryz.isAgg303
  z213 := Tryz.sizeOf303
  t232 := Tryz.underlying304
  a232 := Tryz.isAgg304
  z232 := Tryz.sizeOf304
  v232 := Tryz.zeroValue304
  t233 := Tryz.underlying305
  a233 := Tryz.isAgg305
  z233 := Tryz.sizeOf305
  v233 := Tryz.zeroValue305
  g17 := by kernel_rfl
  g18 := by kernel_rfl
  g19 := by kernel_rfl
  i0 := by kernel_rfl
  i2 := by kernel_rfl
  i3 := by kernel_rfl
  i4 := by kernel_rfl
  i5 := by kernel_rfl
  i9 := by kernel_rfl
  i20 := by kernel_rfl
  i37 := by kernel_rfl
  i46 := by kernel_rfl
  i51 := by kernel_rfl
  i53 := by kernel_rfl
  i171 := by kernel_rfl
  i173 := by kernel_rfl
  i212 := by kernel_rfl
  i232 := by kernel_rfl
  i233 := by kernel_rfl
  m17 := by kernel_rfl
  m18 := by kernel_rfl
  m19 := by kernel_rfl }
theorem appendInt (B n : Nat) (i : Int) (h0 : -9223372036854775808 ≤ i) (h1 : i ≤ 9223372036854775807) (sv : Value) (xs : List Value) (w : World) (hown : w.ownsRow B 5 1 sv n xs) (hBw : B ≤ w.heap.size) (hlim : n + 21 ≤ 140737488355328)
    (htab : Lib.TabBelow Tryz.prog B w "internal/strconv.uint64pow10" .u64 Lib.pow10Tab) :
    Calls Tryz.prog 257 #[sv, .int .i64 i, .int .i64 10] w fun e w' => ∃ v', e = .returned v' ∧ w'.ownsRow B 5 1 v' (n + (Lib.itoa i).length) (xs ++ Lib.byteCells (Lib.itoa i)) ∧ RowKit.Below B w w' ∧ Lib.OthersKept 5 none w w' := Any.strconv_AppendInt_10 laysAI B n i h0 h1 sv xs w hown hBw hlim htab
end Go.Proofs.YtchpbdecipcelaaGreatDoor
namespace Go.Proofs.YtchpbdecipcelaaGreatDoor
set_option linter.unusedVariables false
set_option linter.unusedSimpArgs false
set_option maxHeartbeats 4000000
set_option maxRecDepth 100000
open Go.Shelf Go.RowKit
def txt (x : Nat → Int) : Nat → List UInt8
  | 0 => []
  | k + 1 => txt x k ++ (Lib.itoa (x k) ++ [32])
theorem txt_length (x : Nat → Int) : ∀ k, (∀ q, q < k → -9223372036854775808 ≤ x q ∧ x q ≤ 9223372036854775807) → (txt x k).length ≤ k * 22
  | 0, _ => Nat.le_refl _
  | k + 1, h => by
    have h1 := txt_length x k fun q hq => h q (by omega)
    have h2 := Lib.itoa_length_le (x k) (h k (by omega)).1 (h k (by omega)).2
    simp only [txt, List.length_append, List.length_cons, List.length_nil]
    omega
theorem byteInfo : (Tryz.prog.info? 5).map (fun i => (i.zero, i.size, i.bytes)) = some (some (.int .u8 0), 1, 1) := by kernel_rfl
set_option maxHeartbeats 6400000 in
set_option maxRecDepth 100000 in
theorem text_calls (x : Nat → Int) (n b o cap : Nat) (h : ∀ q, q < n → -9223372036854775808 ≤ x q ∧ x q ≤ 9223372036854775807) (hn : n ≤ 1000000) (w : World) (hc : ∀ q, q < n → w.cell? ⟨b, o + q, none⟩ = some (.int .i64 (x q))) (hb : b < w.heap.size)
    (htab : Lib.TabIs Tryz.prog w "internal/strconv.uint64pow10" .u64 Lib.pow10Tab) :
    Calls Tryz.prog 249 #[.slice none 0 0, .slice (some ⟨b, o, none⟩) n cap] w fun e w' => ∃ v', e = .returned v' ∧ w'.ownsRow w.heap.size 5 1 v' (txt x n).length (Lib.byteCells (txt x n)) ∧ Below w.heap.size w w' := by
  obtain ⟨i0, hi, hz0, hz1, hz2⟩ := info_parts byteInfo
  have hT := Lib.tabBelow_of_tabIs htab
  go_enter Tryz.func249, Tryz.ntmps249
  go_wp2
  go_loopw [0, 9] (fun v i wr => ∃ k : Nat, k ≤ n ∧ i = .int .i64 k ∧ wr.ownsRow w.heap.size 5 1 v (txt x k).length (Lib.byteCells (txt x k)) ∧ Below w.heap.size w wr) (fun _ i _ => n - (intOf i).toNat)
  case atStart => exact ⟨0, Nat.zero_le _, rfl, World.ownsRow_nil _ _ _ _, Below.refl _ _⟩
  case round =>
    obtain ⟨k, hk, rfl, hown, hnx⟩ := hrel
    have hcx : k < n → wr.cell? ⟨b, o + k, none⟩ = some (.int .i64 (x k)) := fun hlt => (hnx.cell (by exact hb)).trans (hc k hlt)
    have hlen := txt_length x k fun q hq => h q (by omega)
    have hsz := hnx.size
    by_cases hlt : k < n
    · have hcx := hcx hlt
      have hitl := Lib.itoa_length_le (x k) (h k hlt).1 (h k hlt).2
      go_wp2_with (go_at_call 257; go_loud (refine (appendInt w.heap.size _ (x k) (h k hlt).1 (h k hlt).2 _ _ _ hown hsz (by omega) (hT.on hnx)).mono ?_); rintro e w1 ⟨v1, rfl, hown1, hnx1, -⟩; refine Hid.out ?_)
      refine Lib.hid ?_
      have hnx2 := hnx.trans hnx1
      have hsz2 := hnx2.size
      go_wp2_with (at_builtin; refine wpList_append_own _ rfl _ _ 211 rfl w.heap.size 5 i0 (.int .u8 0) 1 1 Tryz.underlying211 hi hz0 hz1 hz2 rfl (by decide) _ _ _ rfl (hown1.alloc _) ⟨w1.heap.size, 0, none⟩ 1 1 [Value.int .u8 32] rfl rfl ?c1 ?c2 ?c3 ?c4 ?c5 ?_)
      case c1 =>
        intro j u hj
        match j, hj with
        | 0, hj => simp at hj; subst hj; simp [Addr.add]
      case c2 => intro u hu; simp at hu; subst hu; rfl
      case c3 => unfold maxLen; omega
      case c4 => omega
      case c5 => simp; omega
      intro v2 w2 hown2 hgrow _
      have hnx3 : Below w.heap.size w w2 := (hnx2.alloc hsz2 _).grown hgrow (by simp; omega) (fun q hq => (hown1.lt q hq).1)
      have eL : Lib.byteCells (txt x k) ++ (Lib.byteCells (Lib.itoa (x k)) ++ [Value.int .u8 32]) = Lib.byteCells (txt x (k + 1)) := by simp [txt, Lib.byteCells]
      have eN : (txt x k).length + (Lib.itoa (x k)).length + 1 = (txt x (k + 1)).length := by simp only [txt, List.length_append, List.length_cons, List.length_nil]; omega
      rw [eL, eN] at hown2
      have HN := Lib.hid eN
      clear eL eN
      go_wp2
      go_roundw
      case rel => exact ⟨k + 1, by omega, by go_num, hown2, hnx3⟩
      case measure => simp [intOf]; omega
    · have hkn : k = n := by omega
      subst hkn
      go_wp2
      go_ret
      exact ⟨_, rfl, hown, hnx⟩
def intsA (n : Nat) (x : Nat → Int) : AV := .lst 1 n fun q => [.raw (.int .i64 (x q))]
def bytesA (l : List UInt8) : AV := .lst 1 l.length fun q => [.raw (.int .u8 ((l.getD q 0).toNat : Int))]
theorem text_fn (x : Nat → Int) (n : Nat) (h : ∀ q, q < n → -9223372036854775808 ≤ x q ∧ x q ≤ 9223372036854775807) (h0 : 0 < n) (hn : n ≤ 1000000) :
    FnA Tryz.prog 249 [.raw (.slice none 0 0), intsA n x] (bytesA (txt x n)) := by
  refine ⟨⟨_, Tryz.func249, by kernel_rfl, by kernel_rfl⟩, fun imm w vs htb hi hr => ?_⟩
  obtain ⟨v1, r1, rfl, e1, v2, r2, rfl, e2, rfl⟩ := hr
  obtain ⟨A, cap, rfl, _, _, hA⟩ := e2
  obtain ⟨b, o, rfl, hel⟩ := hA h0
  rw [show v1 = .slice none 0 0 from e1]
  have hc : ∀ q, q < n → w.cell? ⟨b, o + q, none⟩ = some (.int .i64 (x q)) := fun q hq => by
    obtain ⟨vs, hv, _, h3⟩ := hel q hq
    obtain ⟨v, r, rfl, ev, rfl⟩ := hv
    have := (h3 0 v rfl).2
    rw [show v = .int .i64 (x q) from ev] at this
    simpa using this
  have hb : b < w.heap.size := World.block_lt_of_cell? w ⟨b, o + 0, none⟩ (hc 0 h0)
  have htab : Lib.TabIs Tryz.prog w "internal/strconv.uint64pow10" .u64 Lib.pow10Tab := htb _ (by unfold tabBlk; kernel_rfl : tabBlk Tryz.prog 2)
  refine (text_calls x n b o cap h hn w hc hb htab).mono ?_
  rintro e w' ⟨v', rfl, hown, hbel⟩
  have hpos : 0 < (txt x n).length := by
    obtain ⟨m, rfl⟩ : ∃ m, n = m + 1 := ⟨n - 1, by omega⟩
    simp only [txt, List.length_append, List.length_cons, List.length_nil]; omega
  obtain ⟨hl, ho⟩ := id hown
  rcases ho with ⟨_, ho⟩ | ⟨g, cap', cur, rfl, hg, hh, hcap, hmax, hcs, htake⟩
  · omega
  have hcell : ∀ q, q < (txt x n).length → w'.cell? ⟨g, q, none⟩ = some (.int .u8 (((txt x n).getD q 0).toNat : Int)) := fun q hq => by
    have := hown.cells (g := g) rfl q (.int .u8 (((txt x n).getD q 0).toNat : Int)) (by simp [Lib.byteCells, hq])
    have hadd : (⟨g, 0, none⟩ : Addr).add q = ⟨g, q, none⟩ := by
      unfold Addr.add; split
      · rename_i h0; rw [h0]
      · simp
    rwa [hadd] at this
  refine ⟨_, fun b o => imm b o ∨ (b = g ∧ o < (txt x n).length), rfl, hbel, fun _ _ i => .inl i, fun b o i => i.elim .inl fun i => .inr (by omega), fun b o i => ?_, ?_⟩
  · rcases i with i | ⟨rfl, i⟩
    · have h1 := hi b o i
      have hlt : b < w.heap.size := by
        cases hcc : w.cell? ⟨b, o, none⟩ with
        | none => rw [hcc] at h1; cases h1
        | some u => exact World.block_lt_of_cell? w ⟨b, o, none⟩ hcc
      rw [hbel.cell (p := ⟨b, o, none⟩) hlt]; exact h1
    · rw [hcell o i]; rfl
  · refine ⟨_, _, rfl, hcap, hmax, fun _ => ⟨g, 0, rfl, fun i hi => ⟨[.int .u8 (((txt x n).getD i 0).toNat : Int)], ⟨_, _, rfl, rfl, rfl⟩, rfl, fun j u hj => ?_⟩⟩⟩
    have hj0 : j = 0 := by
      rcases j with _ | j
      · rfl
      · simp at hj
    subst hj0
    simp only [List.getElem?_cons_zero, Option.some.injEq] at hj
    subst hj
    refine ⟨.inr ⟨rfl, by omega⟩, ?_⟩
    rw [show 0 + i * 1 + 0 = i from by omega]
    exact hcell i hi
end Go.Proofs.YtchpbdecipcelaaGreatDoor
namespace Go.Proofs.YtchpbdecipcelaaGreatDoor
set_option linter.unusedVariables false
set_option linter.unusedSimpArgs false
set_option maxHeartbeats 4000000
set_option maxRecDepth 100000
open Go.RowKit
def fnv (x : Nat → Int) : Nat → Int
  | 0 => 14695981039346656037
  | k + 1 => IntKind.u64.wrap (bitI .xor .u64 (fnv x k) (IntKind.u64.wrap (x k)) * 1099511628211)
theorem sum_A (l : List UInt8) (hl : l.length ≤ 1000000000) : FnA Tryz.prog 248 [bytesA l] (.raw (.int .u64 (fnv (fun q => ((l.getD q 0).toNat : Int)) l.length))) := by
  unfold bytesA
  refine fnA_of tblOk Tryz.func248 rfl (by kernel_rfl) 20 Tryz.ntmps248 lenT [.tmp 2] rfl ?_
  simp only [entrySt, argSl, Nat.zero_add, Nat.reduceAdd]
  try refine wkG trivial ?_
  try (refine Stop.mk ?_; intro K hK)
  refine wpA_loop (fun k : Nat => ⟨20, 0, [(3, true, .raw (.int .u64 (fnv (fun q => ((l.getD q 0).toNat : Int)) k))), (6, true, .lst 1 l.length fun q => [.raw (.int .u8 ((l.getD q 0).toNat : Int))]), (7, true, .raw (.int .i64 l.length)), (8, true, .raw (.int .i64 k))], [], [], ((0, []), [], true)⟩)
    (fun k => k ≤ l.length) (fun k => l.length - k) 0 ?_ (by omega) ?_
  · refine Weak.sl ?_
    (try simp only [SubSl, lookN_cons, ↓reduceIte, Nat.reduceEqDiff, and_true, true_and, Option.some.injEq, Prod.mk.injEq, AV.raw.injEq, Value.int.injEq, Value.bool.injEq])
    all_goals ((repeat' apply And.intro) <;> first | rfl | omega | (simp; done))
  · rintro k hk
    try refine wkG trivial ?_
    try (refine Stop.mk ?_; intro K hK)
    refine wpA_cond' ⟨_, evl, ?_, ?_⟩
    · intro hlt
      simp only [decide_eq_true_eq] at hlt
      try refine wkG trivial ?_
      try (refine Stop.mk ?_; intro K hK)
      refine ⟨k + 1, by omega, by omega, ?_⟩
      · refine Weak.mk rfl ?_ ?_
        rotate_left
        · simp [belS, belB, AV.bel, AV.belL, go_sem]
        (try simp only [SubSl, lookN_cons, ↓reduceIte, Nat.reduceEqDiff, and_true, true_and, Option.some.injEq, Prod.mk.injEq, AV.raw.injEq, Value.int.injEq, Value.bool.injEq])
        all_goals ((repeat' apply And.intro) <;> first | rfl | omega | (simp; done))
    · intro hge
      simp only [decide_eq_false_iff_not] at hge
      try refine wkG trivial ?_
      try (refine Stop.mk ?_; intro K hK)
      refine ret_of (by simp) ⟨_, _, _, evl, ob0, OutOk.eq ?_ ?_⟩
      · rw [show k = l.length from by omega]
      · simp [AV.free]
def fnvL (l : List UInt8) : Int := fnv (fun q => ((l.getD q 0).toNat : Int)) l.length
def isInts (n : Nat) (x : Nat → Int) : Prop := ∀ q, q < n → -9223372036854775808 ≤ x q ∧ x q ≤ 9223372036854775807
theorem ints_A (n : Nat) (x : Nat → Int) (h : isInts n x) (h0 : 0 < n) (hn : n ≤ 1000000) : FnA Tryz.prog 246 [intsA n x] (.raw (.int .u64 (fnvL (txt x n)))) := by
  have hl : (txt x n).length ≤ 1000000000 := by have := txt_length x n h; omega
  refine fnA_of tblOk Tryz.func246 rfl (by kernel_rfl) 6 Tryz.ntmps246 lenT [.tmp 2] rfl ?_
  simp only [entrySt, argSl, Nat.zero_add, Nat.reduceAdd]
  unfold intsA
  repeat
    first
      | (refine runS_nil (hK _ ?_); clear hK K)
      | refine stG ?_
      | (refine gateS 1 rfl ?_; refine runS_call rfl rfl ⟨_, evl, _, _, _, evl, oblG, ?_⟩; apply Exists.intro; refine ⟨fun hg => ?_, ?_⟩; · first | exact FnA.at_ (text_fn x n h h0 hn) rfl rfl | exact FnA.at_ (sum_A _ hl) rfl rfl | exact FnA.at_s (text_fn x n h h0 hn) rfl simT | exact FnA.at_s (text_fn x n h h0 hn) rfl simF | exact FnA.at_s (sum_A _ hl) rfl simT | exact FnA.at_s (sum_A _ hl) rfl simF)
      | (refine gateA 1 rfl ?_; refine runA_call rfl ⟨_, evl, _, _, _, (fun _ _ => evlA), oblG, ?_⟩; apply Exists.intro; refine ⟨fun hg => ?_, ?_⟩; · first | exact FnA.at_ (text_fn x n h h0 hn) rfl rfl | exact FnA.at_ (sum_A _ hl) rfl rfl | exact FnA.at_s (text_fn x n h h0 hn) rfl simT | exact FnA.at_s (text_fn x n h h0 hn) rfl simF | exact FnA.at_s (sum_A _ hl) rfl simT | exact FnA.at_s (sum_A _ hl) rfl simF)
      | (refine gateA 1 rfl ?_; refine runA_put ?_)
      | (refine gateBc ?_; first | (refine runB_nil (hK _ ?_); clear hK K) | (refine runB_op rfl ⟨_, evl, fun nb' => ?_⟩))
      | refine wpA_region (fun K hK => ?_)
      | (refine gateD ?_; first | (refine wpA_drawG false rfl (by kernel_rfl) (by kernel_rfl) (fun K hK => ?_)) | (refine wpA_drawG true rfl (by kernel_rfl) (by kernel_rfl) (fun K hK => ?_)))
  refine ret_of (by simp) ⟨_, _, _, evl, ob0, OutOk.eq ?_ ?_⟩
  · rfl
  · simp [AV.free]
end Go.Proofs.YtchpbdecipcelaaGreatDoor
