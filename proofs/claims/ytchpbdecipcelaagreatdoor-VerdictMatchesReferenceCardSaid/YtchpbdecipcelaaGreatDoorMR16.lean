import Derived.Test.YtchpbdecipcelaaGreatDoorMR01
import Derived.Test.YtchpbdecipcelaaGreatDoorMR06
import Derived.Test.YtchpbdecipcelaaGreatDoorMR10
namespace Go.Proofs.YtchpbdecipcelaaGreatDoor
set_option linter.unusedVariables false
set_option linter.unusedSimpArgs false
set_option maxHeartbeats 4000000
set_option maxRecDepth 100000
open Go.RowKit
def zYe : Nat → Int → List Int
 | 0, _ => []
 | f + 1, x => if 128 ≤ x then zGg .or .u8 (IntKind.u8.wrap x) 128 :: zYe f (x.tdiv 128) else [IntKind.u8.wrap x]
theorem zPm : ∀ (f : Nat) (x : Int), (zYe f x).length ≤ f
 | 0, _ => yKq _
 | f + 1, x => by
  unfold zYe
  split
  ·simp only [yL2]; have := zPm f (x.tdiv 128); omega
  ·simp
abbrev itB (d : Int) : List AV := [.raw (.int .u8 d)]
theorem zZp {y : Int} {f : Nat} (h : 0 ≤ y ∧ y < 128 ^ (f + 1)) : 0 ≤ y.tdiv 128 ∧ y.tdiv 128 < 128 ^ f := by
 rw [yO0 h.1]
 have h2 := h.2
 rw [Int.pow_succ] at h2
 generalize (128 : Int) ^ f = z at *
 omega
theorem zEm {pre rest full : List Int} {d : Int} (h : pre ++ d :: rest = full) : pre.map itB ++ [itB d] <+: full.map itB := by
 subst h
 refine ⟨rest.map itB, ?_⟩
 simp
theorem zLc (x : Int) (hx : 0 ≤ x ∧ x < 18446744073709551616) : yKe Tryz.prog 263 [.box 0 0] [[.raw (.int .u64 x)]] ((zYe 10 x).map itB) := by
 refine zZy Tryz.func263 rfl (by kernel_rfl) 17 Tryz.ntmps263 (by simp only [yL2, yMc]; omega) rfl (by simp) (fun y => ?_)
 simp only [zBq, yLe, Nat.reduceAdd, yL3, yLc, yL2, yMc]
 try (refine wg ?_; try refine sM fun K hK => ?_)
 refine zF (fun s : List Int × Int × Nat => ⟨17, 1, [(0, true, .raw (.func (.yield y) #[] #[])), (1, true, .box 0 0)], [[.raw (.int .u64 s.2.1)]], [], ((y, (zYe 10 x).map itB), s.1.map itB, false)⟩)
  (fun s => s.1 ++ zYe s.2.2 s.2.1 = zYe 10 x ∧ 1 ≤ s.2.2 ∧ (0 ≤ s.2.1 ∧ s.2.1 < 128 ^ s.2.2) ∧ s.2.1 < 18446744073709551616) (fun s => s.2.2) ([], x, 10) ?_ ⟨rfl, by simp, ⟨hx.1, by have := hx.2; simp only; omega⟩, hx.2⟩ ?_
 ·exact wkZ
 ·rintro ⟨pre, z, f⟩ ⟨hp, hf, hz, h64⟩
  simp only at hp hf hz h64 ⊢
  obtain ⟨f, rfl⟩ : ∃ g, f = g + 1 := ⟨f - 1, by omega⟩
  rw [zYe] at hp
  try (refine wg ?_; try refine sM fun K hK => ?_)
  refine zA ⟨_, evl, fun hb => ?_, fun hb => ?_⟩
  ·simp only [yLr] at hb
   rw [if_pos hb] at hp
   have hd := zZp hz
   have hd64 : z.tdiv 128 < 18446744073709551616 := by rw [yO0 hz.1]; omega
   have hf1 : 1 ≤ f := by
    rcases yLj f with rfl | h
    ·simp at hz; omega
    ·exact h
   try (first | refine wkM hK trivial ?_ | refine wkg trivial ?_)
   try clear hK K
   try refine sM fun K hK => ?_
   refine kR rfl rfl ⟨_, evl, _, _, evl, ?_, ?_, ?_⟩
   ·intro _
    exact ⟨fun c hc => by simp at hc; simp [hc], by simp [AV.free, AV.freeL], zEm hp⟩
   ·intro hg
    simp at hg
   ·intro _ b
    try (first | refine wkM hK trivial ?_ | refine wkg trivial ?_)
    try clear hK K
    try refine sM fun K hK => ?_
    refine zA ⟨_, evl, fun hb2 => ?_, fun hb2 => ?_⟩
    ·try (refine wg ?_; try refine sM fun K hK => ?_)
     obtain rfl : b = false := by simpa using hb2
     exact ⟨.inr rfl, zEm hp, fun h => by simp at h⟩
    ·try (refine wg ?_; try refine sM fun K hK => ?_)
     obtain rfl : b = true := by simpa using hb2
     refine ⟨(pre ++ [_], z.tdiv 128, f), ⟨by simp only; rw [yN2]; exact hp, hf1, hd, hd64⟩, by simp, ?_⟩
     simp only [yNk, yLt, yMk]
     exact wkZ
  ·simp only [yMz] at hb
   rw [if_neg hb] at hp
   try (first | refine wkM hK trivial ?_ | refine wkg trivial ?_)
   try clear hK K
   try refine sM fun K hK => ?_
   refine kR rfl rfl ⟨_, evl, _, _, evl, ?_, ?_, ?_⟩
   ·intro _
    exact ⟨fun c hc => by simp at hc; simp [hc], by simp [AV.free, AV.freeL], zEm hp⟩
   ·intro hg
    simp at hg
   ·intro _ b
    try (first | refine wkM hK trivial ?_ | refine wkg trivial ?_)
    try clear hK K
    try refine sM fun K hK => ?_
    refine ⟨.inl rfl, zEm hp, fun _ => ?_⟩
    rw [← hp]
    simp
theorem zPl (x : Int) : FnG Tryz.prog 261 [.raw (.int .u64 x)] [] [] (.fn (.func 263) [] [.box 0 0]) [[.raw (.int .u64 x)]] [] := by
 refine enG Tryz.func261 Tryz.ntmps261 [.tmp 2] 1 rfl ?_
 try (refine wg ?_; try refine sM fun K hK => ?_)
 all_goals (refine yG (by simp) ⟨_, _, _, evl, obq, jD.bel ?_ obb, by simp, ?_, rfl, obb, obb⟩)
 all_goals first | rfl | (simp []; done) | (simp_all []; done) | (simp_all []; omega) | (simp []; grind) | (split <;> simp_all) | skip
def zzI (v : Int) : Int := zGg .xor .u64 (IntKind.u64.wrap (IntKind.u64.wrap v * 2 ^ min 1 64)) (IntKind.u64.wrap (v.fdiv (2 ^ min (Int.toNat 63) 64)))
theorem zSk (n : Int) : 0 ≤ IntKind.u64.wrap n ∧ IntKind.u64.wrap n < 18446744073709551616 := by
 have h : IntKind.u64.wrap n = n % 18446744073709551616 := rfl
 rw [h]
 exact ⟨Int.emod_nonneg _ (by decide), Int.emod_lt_of_pos _ (by decide)⟩
theorem zNw (v : Int) : 0 ≤ zzI v ∧ zzI v < 18446744073709551616 := zSk _
def zK2 (v : Int) : List Int := zYe 10 (zzI v)
theorem zEl (v : Int) : (zK2 v).length ≤ 10 := zPm _ _
theorem zK5 {pre full : List Int} {item : List AV} {h : List (List AV)} (e : h = pre.map itB) (hp : pre <+: full) (hi : (h ++ [item]) <+: full.map itB) : ∃ d, item = itB d ∧ (pre ++ [d]) <+: full := by
 subst e
 obtain ⟨r, rfl⟩ := hp
 simp only [yNk] at hi
 cases r with
 | nil => exfalso; have := hi.length_le; simp at this; omega
 | cons c r =>
  rw [yNz] at hi
  simp only [yLt, List.cons_prefix_cons, List.nil_prefix, yMs] at hi
  exact ⟨c, hi, by simp⟩
theorem yJl (v : Int) (B : List Int) (hn : B.length ≤ 1000000) :
  FnG Tryz.prog 258 [.row 0 B.length, .raw (.int .i64 v)] [] [⟨5, 1, B.length, els (kC .u8) B⟩] (.row 0 (B ++ zK2 v).length) [] [⟨5, 1, (B ++ zK2 v).length, els (kC .u8) (B ++ zK2 v)⟩] := by
 refine enG Tryz.func258 Tryz.ntmps258 [.tmp 4] 0 rfl ?_
 try (first | refine wkN hK trivial ?_ | refine wkR trivial ?_)
 try clear hK K
 try refine sM fun K hK => ?_
 refine xW [] [] (zPl _) rfl rfl rfl ⟨_, evl, _, evl, _, evl, by simp, by decide, by decide, hlT, hlT, (by first | (simp [AV.subL, AV.sub]; done) | (simp only [yMn, yMo, yMp, yMq, yMs, yKz, AV.subL, AV.sub, yL2, yMc, yLe, Nat.reduceAdd]; (repeat' apply And.intro) <;> first | trivial | omega | (simp; done) | (refine AV.sub_free _ _ _ ?_; exact zC (fun _ => by simp) _) | (refine AV.subL_free _ _ _ ?_; simp; done) | (intro r hr; cases hr; done))), _, evl, _, evl, _, evl, ?_⟩
 try (first | refine wkN hK trivial ?_ | refine wkR trivial ?_)
 try clear hK K
 try refine sM fun K hK => ?_
 refine zAy (bk := [[.row 0 B.length]]) (own := [[.raw (.int .u64 (zzI v))]]) (sl' := [(2, true, .box 0 0)]) (cap := [.box 0 0]) (items := (zK2 v).map itB) (fun h j bx rw ys => j = none ∧ ys = ((0, []), [], true) ∧ ∃ pre, pre <+: zK2 v ∧ h = pre.map itB ∧ bx = [[.row 0 (B ++ pre).length]] ∧ rw = [⟨5, 1, (B ++ pre).length, els (kC .u8) (B ++ pre)⟩])
  rfl rfl rfl rfl (by simp [AV.subL, AV.sub]) (fun cs hc => by simp at hc; subst hc; exact ⟨trivial, trivial⟩) (zLc _ (zNw v)) ⟨by simp, by simp⟩ (by simp) ?_ (by simp) ?_ ⟨rfl, rfl, [], by simp, rfl, by rw [yMj], by rw [yMj]⟩ ?_ ?_ ?_
 ·simp only [zCv, zO, ↓reduceIte, Nat.reduceEqDiff, yKj, yKy, yKz, yMs, exists_eq_left']
  exact zQe
 ·simp [zD8, zQa, zQ9, AV.sub, AV.subL, go_sem, els, kC]
 ·rintro h item bx' rw' ys' ⟨_, rfl, pre, hp, hh, rfl, rfl⟩ hpr _
  obtain ⟨d, rfl, hpd⟩ := zK5 hh hp hpr
  refine ⟨rfl, ?_⟩
  simp only [zBv, yL3, yLc]
  have hpl := hp.length_le
  have hpl2 := zEl v
  have hbp : (B ++ pre).length ≤ 1000010 := by rw [yL5]; omega
  obtain ⟨Bp, hBp⟩ : ∃ Bp, Bp = B ++ pre := ⟨_, rfl⟩
  rw [← hBp] at hbp ⊢
  try (refine wkR trivial ?_; try refine sM fun K hK => ?_)
  refine ⟨rfl, ?_⟩
  try (refine wkR trivial ?_; try refine sM fun K hK => ?_)
  refine ⟨20, 65, [], [[.row 0 (Bp ++ [d]).length]], [⟨5, 1, (Bp ++ [d]).length, els (kC .u8) (Bp ++ [d])⟩], ((0, []), [], true), ?_, rfl, rfl, rfl, pre ++ [d], hpd, by rw [hh]; simp, by rw [hBp, yN2], by rw [hBp, yN2]⟩
  rw [yL5]
  exact wkZ
 ·rintro bx' rw' ys' ⟨_, rfl, pre, hp, hh, rfl, rfl⟩
  have hl : pre.length = (zK2 v).length := by have := congrArg List.length hh; simpa using this.symm
  obtain rfl := hp.eq_of_length hl
  clear hp hh hl
  try (refine wkR trivial ?_; try refine sM fun K hK => ?_)
  refine yG (by simp) ⟨_, _, _, evl, obq, jD.bel rfl obb, by simp, rfl, rfl, obb, ?_⟩
  intro r hr
  simp only [yLf, yMo, yMv] at hr
  subst hr
  exact fun i hi => ⟨trivial, trivial⟩
 ·rintro h j bx' rw' ys' _ ⟨hj, _⟩
  cases hj
theorem yJk (v : Int) :
  FnG Tryz.prog 258 [.raw (.slice none 0 0), .raw (.int .i64 v)] [] [] (.row 0 (zK2 v).length) [] [⟨5, 1, (zK2 v).length, els (kC .u8) (zK2 v)⟩] := by
 refine enG Tryz.func258 Tryz.ntmps258 [.tmp 4] 0 rfl ?_
 refine yP (xE.nilRow 0 5 1 rfl) ?_
 refine yP (st' := ⟨20, 64 * 0, [(0, true, .row 0 0), (1, true, .raw (.int .i64 v))], [], [⟨5, 1, 0, els (kC .u8) []⟩], ((0, []), [], true)⟩) ?_ ?_
 ·exact wkZ
 try (first | refine wkN hK trivial ?_ | refine wkR trivial ?_)
 try clear hK K
 try refine sM fun K hK => ?_
 refine xW [] [] (zPl _) rfl rfl rfl ⟨_, evl, _, evl, _, evl, by simp, by decide, by decide, hlT, hlT, (by first | (simp [AV.subL, AV.sub]; done) | (simp only [yMn, yMo, yMp, yMq, yMs, yKz, AV.subL, AV.sub, yL2, yMc, yLe, Nat.reduceAdd]; (repeat' apply And.intro) <;> first | trivial | omega | (simp; done) | (refine AV.sub_free _ _ _ ?_; exact zC (fun _ => by simp) _) | (refine AV.subL_free _ _ _ ?_; simp; done) | (intro r hr; cases hr; done))), _, evl, _, evl, _, evl, ?_⟩
 try (first | refine wkN hK trivial ?_ | refine wkR trivial ?_)
 try clear hK K
 try refine sM fun K hK => ?_
 refine zAy (bk := [[.row 0 0]]) (own := [[.raw (.int .u64 (zzI v))]]) (sl' := [(2, true, .box 0 0)]) (cap := [.box 0 0]) (items := (zK2 v).map itB) (fun h j bx rw ys => j = none ∧ ys = ((0, []), [], true) ∧ ∃ pre, pre <+: zK2 v ∧ h = pre.map itB ∧ bx = [[.row 0 pre.length]] ∧ rw = [⟨5, 1, pre.length, els (kC .u8) pre⟩])
  rfl rfl rfl rfl (by simp [AV.subL, AV.sub]) (fun cs hc => by simp at hc; subst hc; exact ⟨trivial, trivial⟩) (zLc _ (zNw v)) ⟨by simp, by simp⟩ (by simp) ?_ (by simp) ?_ ⟨rfl, rfl, [], by simp, rfl, rfl, rfl⟩ ?_ ?_ ?_
 ·simp only [zCv, zO, ↓reduceIte, Nat.reduceEqDiff, yKj, yKy, yKz, yMs, exists_eq_left']
  exact zQe
 ·simp [zD8, zQa, zQ9, AV.sub, AV.subL, go_sem, els, kC]
 ·rintro h item bx' rw' ys' ⟨_, rfl, pre, hp, hh, rfl, rfl⟩ hpr _
  obtain ⟨d, rfl, hpd⟩ := zK5 hh hp hpr
  refine ⟨rfl, ?_⟩
  simp only [zBv, yL3, yLc]
  have hpl := hp.length_le
  have hpl2 := zEl v
  have hbp : pre.length ≤ 1000010 := by omega
  obtain ⟨Bp, hBp⟩ : ∃ Bp, Bp = pre := ⟨_, rfl⟩
  rw [← hBp] at hbp ⊢
  try (refine wkR trivial ?_; try refine sM fun K hK => ?_)
  refine ⟨rfl, ?_⟩
  try (refine wkR trivial ?_; try refine sM fun K hK => ?_)
  refine ⟨20, 65, [], [[.row 0 (Bp ++ [d]).length]], [⟨5, 1, (Bp ++ [d]).length, els (kC .u8) (Bp ++ [d])⟩], ((0, []), [], true), ?_, rfl, rfl, rfl, pre ++ [d], hpd, by rw [hh]; simp, by rw [hBp], by rw [hBp]⟩
  rw [yL5]
  exact wkZ
 ·rintro bx' rw' ys' ⟨_, rfl, pre, hp, hh, rfl, rfl⟩
  have hl : pre.length = (zK2 v).length := by have := congrArg List.length hh; simpa using this.symm
  obtain rfl := hp.eq_of_length hl
  clear hp hh hl
  try (refine wkR trivial ?_; try refine sM fun K hK => ?_)
  refine yG (by simp) ⟨_, _, _, evl, obq, jD.bel rfl obb, by simp, rfl, rfl, obb, ?_⟩
  intro r hr
  simp only [yLf, yMo, yMv] at hr
  subst hr
  exact fun i hi => ⟨trivial, trivial⟩
 ·rintro h j bx' rw' ys' _ ⟨hj, _⟩
  cases hj
def j5 (l : List Int) (k : Nat) : List Int := zK2 l.length ++ (l.take k).flatMap zK2
theorem zHa {l : List Int} {k : Nat} (h : k < l.length) : j5 l (k + 1) = j5 l k ++ zK2 (l.getD k default) := by
 unfold j5
 rw [yNs h, yNg, ← yN2]
 simp [h]
theorem zFn (l : List Int) : ∀ k, (j5 l k).length ≤ 10 + 10 * k
 | 0 => by have := zEl l.length; simp [j5]; omega
 | k + 1 => by
  have ih := zFn l k
  by_cases h : k < l.length
  ·rw [zHa h, yL5]
   have := zEl (l.getD k default)
   omega
  ·unfold j5 at ih ⊢
   rw [yO1 (by omega)] at ih ⊢
   omega
theorem yJm (l : List Int) (h : l.length ≤ 1000) : FnA Tryz.prog 252 [liA l] (.tup [lA 1 (kC .u8) (j5 l l.length), .raw (.int .i64 0)]) := by
 refine en Tryz.func252 Tryz.ntmps252 [.tmp 2, .tmp 3] rfl ?_
 try (refine wkR trivial ?_; try refine sM fun K hK => ?_)
 refine zA ⟨_, evl, fun hb => ?_, fun hb => ?_⟩
 ·simp at hb; omega
 try (first | refine wkN hK trivial ?_ | refine wkR trivial ?_)
 try clear hK K
 try refine sM fun K hK => ?_
 refine xW [] [] (yJk _) rfl rfl rfl ⟨_, evl, _, evl, _, evl, by simp, by decide, by decide, hlT, hlT, (by first | (simp [AV.subL, AV.sub]; done) | (simp only [yMn, yMo, yMp, yMq, yMs, yKz, AV.subL, AV.sub, yL2, yMc, yLe, Nat.reduceAdd]; (repeat' apply And.intro) <;> first | trivial | omega | (simp; done) | (refine AV.sub_free _ _ _ ?_; exact zC (fun _ => by simp) _) | (refine AV.subL_free _ _ _ ?_; simp; done) | (intro r hr; cases hr; done))), _, evl, _, evl, _, evl, ?_⟩
 try (first | refine wkN hK trivial ?_ | refine wkR trivial ?_)
 try clear hK K
 try refine sM fun K hK => ?_
 refine zF (fun k : Nat => ⟨24, 0, [(0, true, liA l), (4, true, .row 0 (j5 l k).length), (13, true, liA l), (14, true, .raw (.int .i64 l.length)), (15, true, .raw (.int .i64 k))], [], [⟨5, 1, (j5 l k).length, els (kC .u8) (j5 l k)⟩], ((0, []), [], true)⟩)
  (fun k => k ≤ l.length) (fun k => l.length - k) 0 ?_ (by omega) ?_
 ·rw [show j5 l 0 = zK2 l.length from by simp [j5]]
  exact wkZ
 ·rintro k hk
  have hle := zFn l k
  try (refine wkR trivial ?_; try refine sM fun K hK => ?_)
  refine zA ⟨_, evl, fun hb => ?_, fun hb => ?_⟩
  ·simp at hb
   try (first | refine wkN hK trivial ?_ | refine wkR trivial ?_)
   try clear hK K
   try refine sM fun K hK => ?_
   refine xW [] [0] (yJl (l.getD k default) (j5 l k) (by omega)) rfl rfl rfl ⟨_, evl, _, evl, _, evl, by simp, by decide, by decide, hlT, hlT, (by first | (simp [AV.subL, AV.sub, els, kC]; done) | (simp only [yMn, yMo, yMp, yMq, yMs, yKz, AV.subL, AV.sub, yL2, yMc, yLe, Nat.reduceAdd]; (repeat' apply And.intro) <;> first | trivial | omega | (simp; done) | (refine AV.sub_free _ _ _ ?_; exact zC (fun _ => by simp) _) | (refine AV.subL_free _ _ _ ?_; simp; done) | (intro r hr; cases hr; done))), _, evl, _, evl, _, evl, ?_⟩
   try (first | refine wkN hK trivial ?_ | refine wkR trivial ?_)
   try clear hK K
   try refine sM fun K hK => ?_
   refine ⟨k + 1, by omega, by omega, ?_⟩
   rw [zHa hb]
   exact wkZ
  ·simp at hb
   obtain rfl : k = l.length := by omega
   try (refine wkR trivial ?_; try refine sM fun K hK => ?_)
   refine rt ?_
   exact z5.tup (show z8 _ _ [_, _] [_, _] from ⟨z5.row rfl rfl rfl rfl (fun i hi => rfl), z5.refl _, trivial⟩)
theorem zC6 (n lo hi : Int) : FnA Tryz.prog 251 [.raw (.int .i64 n), .raw (.int .i64 lo), .raw (.int .i64 hi)] (.raw (.bool (decide (lo ≤ n) && decide (n ≤ hi)))) := by
 refine en Tryz.func251 Tryz.ntmps251 [.tmp 6] rfl ?_
 repeat' first
  | refine wkg trivial ?_
  | (refine cS (fun hb => ?_) fun hb => ?_ <;> try (cases hb; done))
  | refine sM fun K hK => ?_
  | fail
 all_goals exact fA
end Go.Proofs.YtchpbdecipcelaaGreatDoor
