import Derived.Test.YtchpbdecipcelaaGreatDoorHO01
import Derived.Test.YtchpbdecipcelaaGreatDoorHO06
import Derived.Test.YtchpbdecipcelaaGreatDoorHO10
namespace Go.Proofs.YtchpbdecipcelaaGreatDoor
set_option linter.unusedVariables false
set_option linter.unusedSimpArgs false
set_option maxHeartbeats 4000000
set_option maxRecDepth 100000
open Go.RowKit
def zWj : Nat → Int → List Int
 | 0, _ => []
 | f + 1, x => if 128 ≤ x then zFv .or .u8 (IntKind.u8.wrap x) 128 :: zWj f (x.tdiv 128) else [IntKind.u8.wrap x]
theorem zOl : ∀ (f : Nat) (x : Int), (zWj f x).length ≤ f
 | 0, _ => yIn _
 | f + 1, x => by
  unfold zWj
  split
  ·simp only [yIz]; have := zOl f (x.tdiv 128); omega
  ·simp
abbrev itB (d : Int) : List AV := [.raw (.int .u8 d)]
theorem zXq {y : Int} {f : Nat} (h : 0 ≤ y ∧ y < 128 ^ (f + 1)) : 0 ≤ y.tdiv 128 ∧ y.tdiv 128 < 128 ^ f := by
 rw [yLy h.1]
 have h2 := h.2
 rw [Int.pow_succ] at h2
 generalize (128 : Int) ^ f = z at *
 omega
theorem zEb {pre rest full : List Int} {d : Int} (h : pre ++ d :: rest = full) : pre.map itB ++ [itB d] <+: full.map itB := by
 subst h
 refine ⟨rest.map itB, ?_⟩
 simp
theorem zKh (x : Int) (hx : 0 ≤ x ∧ x < 18446744073709551616) : yIc Tryz.prog 263 [.box 0 0] [[.raw (.int .u64 x)]] ((zWj 10 x).map itB) := by
 refine zXx Tryz.func263 rfl (by kernel_rfl) 17 Tryz.ntmps263 (by simp only [yIz, yK8]; omega) rfl (by simp) (fun y => ?_)
 simp only [zBk, yJa, Nat.reduceAdd, yJ0, yJ9, yIz, yK8]
 try (refine wg ?_; try refine sM fun K hK => ?_)
 refine zJ (fun s : List Int × Int × Nat => ⟨17, 1, [(0, true, .raw (.func (.yield y) #[] #[])), (1, true, .box 0 0)], [[.raw (.int .u64 s.2.1)]], [], ((y, (zWj 10 x).map itB), s.1.map itB, false)⟩)
  (fun s => s.1 ++ zWj s.2.2 s.2.1 = zWj 10 x ∧ 1 ≤ s.2.2 ∧ (0 ≤ s.2.1 ∧ s.2.1 < 128 ^ s.2.2) ∧ s.2.1 < 18446744073709551616) (fun s => s.2.2) ([], x, 10) ?_ ⟨rfl, by simp, ⟨hx.1, by have := hx.2; simp only; omega⟩, hx.2⟩ ?_
 ·exact wkZ
 ·rintro ⟨pre, z, f⟩ ⟨hp, hf, hz, h64⟩
  simp only at hp hf hz h64 ⊢
  obtain ⟨f, rfl⟩ : ∃ g, f = g + 1 := ⟨f - 1, by omega⟩
  rw [zWj] at hp
  try (refine wg ?_; try refine sM fun K hK => ?_)
  refine zA ⟨_, evl, fun hb => ?_, fun hb => ?_⟩
  ·simp only [yJm] at hb
   rw [if_pos hb] at hp
   have hd := zXq hz
   have hd64 : z.tdiv 128 < 18446744073709551616 := by rw [yLy hz.1]; omega
   have hf1 : 1 ≤ f := by
    rcases yJe f with rfl | h
    ·simp at hz; omega
    ·exact h
   try (first | refine wkM hK trivial ?_ | refine wkg trivial ?_)
   try clear hK K
   try refine sM fun K hK => ?_
   refine kK rfl rfl ⟨_, evl, _, _, evl, ?_, ?_, ?_⟩
   ·intro _
    exact ⟨fun c hc => by simp at hc; simp [hc], by simp [AV.free, AV.freeL], zEb hp⟩
   ·intro hg
    simp at hg
   ·intro _ b
    try (first | refine wkM hK trivial ?_ | refine wkg trivial ?_)
    try clear hK K
    try refine sM fun K hK => ?_
    refine zA ⟨_, evl, fun hb2 => ?_, fun hb2 => ?_⟩
    ·try (refine wg ?_; try refine sM fun K hK => ?_)
     obtain rfl : b = false := by simpa using hb2
     exact ⟨.inr rfl, zEb hp, fun h => by simp at h⟩
    ·try (refine wg ?_; try refine sM fun K hK => ?_)
     obtain rfl : b = true := by simpa using hb2
     refine ⟨(pre ++ [_], z.tdiv 128, f), ⟨by simp only; rw [yKx]; exact hp, hf1, hd, hd64⟩, by simp, ?_⟩
     simp only [yLh, yJo, yKf]
     exact wkZ
  ·simp only [yKu] at hb
   rw [if_neg hb] at hp
   try (first | refine wkM hK trivial ?_ | refine wkg trivial ?_)
   try clear hK K
   try refine sM fun K hK => ?_
   refine kK rfl rfl ⟨_, evl, _, _, evl, ?_, ?_, ?_⟩
   ·intro _
    exact ⟨fun c hc => by simp at hc; simp [hc], by simp [AV.free, AV.freeL], zEb hp⟩
   ·intro hg
    simp at hg
   ·intro _ b
    try (first | refine wkM hK trivial ?_ | refine wkg trivial ?_)
    try clear hK K
    try refine sM fun K hK => ?_
    refine ⟨.inl rfl, zEb hp, fun _ => ?_⟩
    rw [← hp]
    simp
theorem zOk (x : Int) : FnG Tryz.prog 261 [.raw (.int .u64 x)] [] [] (.fn (.func 263) [] [.box 0 0]) [[.raw (.int .u64 x)]] [] := by
 refine enG Tryz.func261 Tryz.ntmps261 [.tmp 2] 1 rfl ?_
 try (refine wg ?_; try refine sM fun K hK => ?_)
 all_goals (refine yE (by simp) ⟨_, _, _, evl, obq, jB.bel ?_ obb, by simp, ?_, rfl, obb, obb⟩)
 all_goals first | rfl | (simp []; done) | (simp_all []; done) | (simp_all []; omega) | (simp []; grind) | (split <;> simp_all) | skip
def zzI (v : Int) : Int := zFv .xor .u64 (IntKind.u64.wrap (IntKind.u64.wrap v * 2 ^ min 1 64)) (IntKind.u64.wrap (v.fdiv (2 ^ min (Int.toNat 63) 64)))
theorem zR5 (n : Int) : 0 ≤ IntKind.u64.wrap n ∧ IntKind.u64.wrap n < 18446744073709551616 := by
 have h : IntKind.u64.wrap n = n % 18446744073709551616 := rfl
 rw [h]
 exact ⟨Int.emod_nonneg _ (by decide), yLz _ (by decide)⟩
theorem zMt (v : Int) : 0 ≤ zzI v ∧ zzI v < 18446744073709551616 := zR5 _
def zJa (v : Int) : List Int := zWj 10 (zzI v)
theorem zEa (v : Int) : (zJa v).length ≤ 10 := zOl _ _
theorem zJd {pre full : List Int} {item : List AV} {h : List (List AV)} (e : h = pre.map itB) (hp : pre <+: full) (hi : (h ++ [item]) <+: full.map itB) : ∃ d, item = itB d ∧ (pre ++ [d]) <+: full := by
 subst e
 obtain ⟨r, rfl⟩ := hp
 simp only [yLh] at hi
 cases r with
 | nil => exfalso; have := hi.length_le; simp at this; omega
 | cons c r =>
  rw [yLx] at hi
  simp only [yJo, List.cons_prefix_cons, List.nil_prefix, yKn] at hi
  exact ⟨c, hi, by simp⟩
theorem yHj (v : Int) (B : List Int) (hn : B.length ≤ 1000000) :
  FnG Tryz.prog 258 [.row 0 B.length, .raw (.int .i64 v)] [] [⟨5, 1, B.length, els (kC .u8) B⟩] (.row 0 (B ++ zJa v).length) [] [⟨5, 1, (B ++ zJa v).length, els (kC .u8) (B ++ zJa v)⟩] := by
 refine enG Tryz.func258 Tryz.ntmps258 [.tmp 4] 0 rfl ?_
 try (first | refine wkN hK trivial ?_ | refine wkR trivial ?_)
 try clear hK K
 try refine sM fun K hK => ?_
 refine xV [] [] (zOk _) rfl rfl rfl ⟨_, evl, _, evl, _, evl, by simp, by decide, by decide, hlT, hlT, (by first | (simp [AV.subL, AV.sub]; done) | (simp only [yKi, yKj, yKk, yKl, yKn, yIw, AV.subL, AV.sub, yIz, yK8, yJa, Nat.reduceAdd]; (repeat' apply And.intro) <;> first | trivial | omega | (simp; done) | (refine AV.sub_free _ _ _ ?_; exact zE (fun _ => by simp) _) | (refine AV.subL_free _ _ _ ?_; simp; done) | (intro r hr; cases hr; done))), _, evl, _, evl, _, evl, ?_⟩
 try (first | refine wkN hK trivial ?_ | refine wkR trivial ?_)
 try clear hK K
 try refine sM fun K hK => ?_
 refine zAo (bk := [[.row 0 B.length]]) (own := [[.raw (.int .u64 (zzI v))]]) (sl' := [(2, true, .box 0 0)]) (cap := [.box 0 0]) (items := (zJa v).map itB) (fun h j bx rw ys => j = none ∧ ys = ((0, []), [], true) ∧ ∃ pre, pre <+: zJa v ∧ h = pre.map itB ∧ bx = [[.row 0 (B ++ pre).length]] ∧ rw = [⟨5, 1, (B ++ pre).length, els (kC .u8) (B ++ pre)⟩])
  rfl rfl rfl rfl (by simp [AV.subL, AV.sub]) (fun cs hc => by simp at hc; subst hc; exact ⟨trivial, trivial⟩) (zKh _ (zMt v)) ⟨by simp, by simp⟩ (by simp) ?_ (by simp) ?_ ⟨rfl, rfl, [], by simp, rfl, by rw [yKe], by rw [yKe]⟩ ?_ ?_ ?_
 ·simp only [zCt, zL, ↓reduceIte, Nat.reduceEqDiff, yIg, yIv, yIw, yKn, exists_eq_left']
  exact zPe
 ·simp [zD5, zPb, zPa, AV.sub, AV.subL, go_sem, els, kC]
 ·rintro h item bx' rw' ys' ⟨_, rfl, pre, hp, hh, rfl, rfl⟩ hpr _
  obtain ⟨d, rfl, hpd⟩ := zJd hh hp hpr
  refine ⟨rfl, ?_⟩
  simp only [zBp, yJ0, yJ9]
  have hpl := hp.length_le
  have hpl2 := zEa v
  have hbp : (B ++ pre).length ≤ 1000010 := by rw [yJ2]; omega
  obtain ⟨Bp, hBp⟩ : ∃ Bp, Bp = B ++ pre := ⟨_, rfl⟩
  rw [← hBp] at hbp ⊢
  try (refine wkR trivial ?_; try refine sM fun K hK => ?_)
  refine ⟨rfl, ?_⟩
  try (refine wkR trivial ?_; try refine sM fun K hK => ?_)
  refine ⟨20, 65, [], [[.row 0 (Bp ++ [d]).length]], [⟨5, 1, (Bp ++ [d]).length, els (kC .u8) (Bp ++ [d])⟩], ((0, []), [], true), ?_, rfl, rfl, rfl, pre ++ [d], hpd, by rw [hh]; simp, by rw [hBp, yKx], by rw [hBp, yKx]⟩
  rw [yJ2]
  exact wkZ
 ·rintro bx' rw' ys' ⟨_, rfl, pre, hp, hh, rfl, rfl⟩
  have hl : pre.length = (zJa v).length := by have := congrArg List.length hh; simpa using this.symm
  obtain rfl := hp.eq_of_length hl
  clear hp hh hl
  try (refine wkR trivial ?_; try refine sM fun K hK => ?_)
  refine yE (by simp) ⟨_, _, _, evl, obq, jB.bel rfl obb, by simp, rfl, rfl, obb, ?_⟩
  intro r hr
  simp only [yJb, yKj, yKq] at hr
  subst hr
  exact fun i hi => ⟨trivial, trivial⟩
 ·rintro h j bx' rw' ys' _ ⟨hj, _⟩
  cases hj
theorem yHi (v : Int) :
  FnG Tryz.prog 258 [.raw (.slice none 0 0), .raw (.int .i64 v)] [] [] (.row 0 (zJa v).length) [] [⟨5, 1, (zJa v).length, els (kC .u8) (zJa v)⟩] := by
 refine enG Tryz.func258 Tryz.ntmps258 [.tmp 4] 0 rfl ?_
 refine yI (xJ.nilRow 0 5 1 rfl) ?_
 refine yI (st' := ⟨20, 64 * 0, [(0, true, .row 0 0), (1, true, .raw (.int .i64 v))], [], [⟨5, 1, 0, els (kC .u8) []⟩], ((0, []), [], true)⟩) ?_ ?_
 ·exact wkZ
 try (first | refine wkN hK trivial ?_ | refine wkR trivial ?_)
 try clear hK K
 try refine sM fun K hK => ?_
 refine xV [] [] (zOk _) rfl rfl rfl ⟨_, evl, _, evl, _, evl, by simp, by decide, by decide, hlT, hlT, (by first | (simp [AV.subL, AV.sub]; done) | (simp only [yKi, yKj, yKk, yKl, yKn, yIw, AV.subL, AV.sub, yIz, yK8, yJa, Nat.reduceAdd]; (repeat' apply And.intro) <;> first | trivial | omega | (simp; done) | (refine AV.sub_free _ _ _ ?_; exact zE (fun _ => by simp) _) | (refine AV.subL_free _ _ _ ?_; simp; done) | (intro r hr; cases hr; done))), _, evl, _, evl, _, evl, ?_⟩
 try (first | refine wkN hK trivial ?_ | refine wkR trivial ?_)
 try clear hK K
 try refine sM fun K hK => ?_
 refine zAo (bk := [[.row 0 0]]) (own := [[.raw (.int .u64 (zzI v))]]) (sl' := [(2, true, .box 0 0)]) (cap := [.box 0 0]) (items := (zJa v).map itB) (fun h j bx rw ys => j = none ∧ ys = ((0, []), [], true) ∧ ∃ pre, pre <+: zJa v ∧ h = pre.map itB ∧ bx = [[.row 0 pre.length]] ∧ rw = [⟨5, 1, pre.length, els (kC .u8) pre⟩])
  rfl rfl rfl rfl (by simp [AV.subL, AV.sub]) (fun cs hc => by simp at hc; subst hc; exact ⟨trivial, trivial⟩) (zKh _ (zMt v)) ⟨by simp, by simp⟩ (by simp) ?_ (by simp) ?_ ⟨rfl, rfl, [], by simp, rfl, rfl, rfl⟩ ?_ ?_ ?_
 ·simp only [zCt, zL, ↓reduceIte, Nat.reduceEqDiff, yIg, yIv, yIw, yKn, exists_eq_left']
  exact zPe
 ·simp [zD5, zPb, zPa, AV.sub, AV.subL, go_sem, els, kC]
 ·rintro h item bx' rw' ys' ⟨_, rfl, pre, hp, hh, rfl, rfl⟩ hpr _
  obtain ⟨d, rfl, hpd⟩ := zJd hh hp hpr
  refine ⟨rfl, ?_⟩
  simp only [zBp, yJ0, yJ9]
  have hpl := hp.length_le
  have hpl2 := zEa v
  have hbp : pre.length ≤ 1000010 := by omega
  obtain ⟨Bp, hBp⟩ : ∃ Bp, Bp = pre := ⟨_, rfl⟩
  rw [← hBp] at hbp ⊢
  try (refine wkR trivial ?_; try refine sM fun K hK => ?_)
  refine ⟨rfl, ?_⟩
  try (refine wkR trivial ?_; try refine sM fun K hK => ?_)
  refine ⟨20, 65, [], [[.row 0 (Bp ++ [d]).length]], [⟨5, 1, (Bp ++ [d]).length, els (kC .u8) (Bp ++ [d])⟩], ((0, []), [], true), ?_, rfl, rfl, rfl, pre ++ [d], hpd, by rw [hh]; simp, by rw [hBp], by rw [hBp]⟩
  rw [yJ2]
  exact wkZ
 ·rintro bx' rw' ys' ⟨_, rfl, pre, hp, hh, rfl, rfl⟩
  have hl : pre.length = (zJa v).length := by have := congrArg List.length hh; simpa using this.symm
  obtain rfl := hp.eq_of_length hl
  clear hp hh hl
  try (refine wkR trivial ?_; try refine sM fun K hK => ?_)
  refine yE (by simp) ⟨_, _, _, evl, obq, jB.bel rfl obb, by simp, rfl, rfl, obb, ?_⟩
  intro r hr
  simp only [yJb, yKj, yKq] at hr
  subst hr
  exact fun i hi => ⟨trivial, trivial⟩
 ·rintro h j bx' rw' ys' _ ⟨hj, _⟩
  cases hj
def jW (l : List Int) (k : Nat) : List Int := zJa l.length ++ (l.take k).flatMap zJa
theorem zGo {l : List Int} {k : Nat} (h : k < l.length) : jW l (k + 1) = jW l k ++ zJa (l.getD k default) := by
 unfold jW
 rw [yLq h, yLd, ← yKx]
 simp [h]
theorem zF1 (l : List Int) : ∀ k, (jW l k).length ≤ 10 + 10 * k
 | 0 => by have := zEa l.length; simp [jW]; omega
 | k + 1 => by
  have ih := zF1 l k
  by_cases h : k < l.length
  ·rw [zGo h, yJ2]
   have := zEa (l.getD k default)
   omega
  ·unfold jW at ih ⊢
   rw [List.take_of_length_le (by omega)] at ih ⊢
   omega
theorem yHk (l : List Int) (h : l.length ≤ 1000) : FnA Tryz.prog 252 [liA l] (.tup [lA 1 (kC .u8) (jW l l.length), .raw (.int .i64 0)]) := by
 refine en Tryz.func252 Tryz.ntmps252 [.tmp 2, .tmp 3] rfl ?_
 try (refine wkR trivial ?_; try refine sM fun K hK => ?_)
 refine zA ⟨_, evl, fun hb => ?_, fun hb => ?_⟩
 ·simp at hb; omega
 try (first | refine wkN hK trivial ?_ | refine wkR trivial ?_)
 try clear hK K
 try refine sM fun K hK => ?_
 refine xV [] [] (yHi _) rfl rfl rfl ⟨_, evl, _, evl, _, evl, by simp, by decide, by decide, hlT, hlT, (by first | (simp [AV.subL, AV.sub]; done) | (simp only [yKi, yKj, yKk, yKl, yKn, yIw, AV.subL, AV.sub, yIz, yK8, yJa, Nat.reduceAdd]; (repeat' apply And.intro) <;> first | trivial | omega | (simp; done) | (refine AV.sub_free _ _ _ ?_; exact zE (fun _ => by simp) _) | (refine AV.subL_free _ _ _ ?_; simp; done) | (intro r hr; cases hr; done))), _, evl, _, evl, _, evl, ?_⟩
 try (first | refine wkN hK trivial ?_ | refine wkR trivial ?_)
 try clear hK K
 try refine sM fun K hK => ?_
 refine zJ (fun k : Nat => ⟨24, 0, [(0, true, liA l), (4, true, .row 0 (jW l k).length), (13, true, liA l), (14, true, .raw (.int .i64 l.length)), (15, true, .raw (.int .i64 k))], [], [⟨5, 1, (jW l k).length, els (kC .u8) (jW l k)⟩], ((0, []), [], true)⟩)
  (fun k => k ≤ l.length) (fun k => l.length - k) 0 ?_ (by omega) ?_
 ·rw [show jW l 0 = zJa l.length from by simp [jW]]
  exact wkZ
 ·rintro k hk
  have hle := zF1 l k
  try (refine wkR trivial ?_; try refine sM fun K hK => ?_)
  refine zA ⟨_, evl, fun hb => ?_, fun hb => ?_⟩
  ·simp at hb
   try (first | refine wkN hK trivial ?_ | refine wkR trivial ?_)
   try clear hK K
   try refine sM fun K hK => ?_
   refine xV [] [0] (yHj (l.getD k default) (jW l k) (by omega)) rfl rfl rfl ⟨_, evl, _, evl, _, evl, by simp, by decide, by decide, hlT, hlT, (by first | (simp [AV.subL, AV.sub, els, kC]; done) | (simp only [yKi, yKj, yKk, yKl, yKn, yIw, AV.subL, AV.sub, yIz, yK8, yJa, Nat.reduceAdd]; (repeat' apply And.intro) <;> first | trivial | omega | (simp; done) | (refine AV.sub_free _ _ _ ?_; exact zE (fun _ => by simp) _) | (refine AV.subL_free _ _ _ ?_; simp; done) | (intro r hr; cases hr; done))), _, evl, _, evl, _, evl, ?_⟩
   try (first | refine wkN hK trivial ?_ | refine wkR trivial ?_)
   try clear hK K
   try refine sM fun K hK => ?_
   refine ⟨k + 1, by omega, by omega, ?_⟩
   rw [zGo hb]
   exact wkZ
  ·simp at hb
   obtain rfl : k = l.length := by omega
   try (refine wkR trivial ?_; try refine sM fun K hK => ?_)
   refine rt ?_
   exact z6.tup (show z8 _ _ [_, _] [_, _] from ⟨z6.row rfl rfl rfl rfl (fun i hi => rfl), z6.refl _, trivial⟩)
theorem zC4 (n lo hi : Int) : FnA Tryz.prog 251 [.raw (.int .i64 n), .raw (.int .i64 lo), .raw (.int .i64 hi)] (.raw (.bool (decide (lo ≤ n) && decide (n ≤ hi)))) := by
 refine en Tryz.func251 Tryz.ntmps251 [.tmp 6] rfl ?_
 repeat' first
  | refine wkg trivial ?_
  | (refine cS (fun hb => ?_) fun hb => ?_ <;> try (cases hb; done))
  | refine sM fun K hK => ?_
  | fail
 all_goals exact fA
end Go.Proofs.YtchpbdecipcelaaGreatDoor
