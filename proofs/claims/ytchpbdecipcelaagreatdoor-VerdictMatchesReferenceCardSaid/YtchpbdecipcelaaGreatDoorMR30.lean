import Derived.Test.YtchpbdecipcelaaGreatDoorMR01
import Derived.Test.YtchpbdecipcelaaGreatDoorMR29
namespace Go.Proofs.YtchpbdecipcelaaGreatDoor
set_option linter.unusedVariables false
set_option linter.unusedSimpArgs false
set_option maxHeartbeats 4000000
set_option maxRecDepth 100000
open Go.RowKit
theorem zJx {G : Gh} {w : World} : ∀ {cs : List AV} {vs : List Value} {j : Nat} {x : AV}, AV.relL G w cs vs → (∀ v, vs[j]? = some v → x.rel G w v) → AV.relL G w (cs.set j x) vs
 | [], vs, j, x, h, _ => by simpa using h
 | c :: cs, vs, 0, x, h, hx => by
  obtain ⟨v, r, rfl, h1, h2⟩ := h
  exact ⟨v, r, rfl, hx v rfl, h2⟩
 | c :: cs, vs, j + 1, x, h, hx => by
  obtain ⟨v, r, rfl, h1, h2⟩ := h
  exact ⟨v, r, rfl, h1, zJx h2 fun u hu => hx u (by simpa using hu)⟩
theorem xE.nilRowV {nt nb : Nat} {sl : List (Nat × (Bool × AV))} {bx : List (List AV)} {rw : List yD} {ys : (Nat × List (List AV)) × List (List AV) × Bool} (b j : Nat) (e : TypeId) (sz : Nat) {cs : List AV} (hb : bx[b]? = some cs) (hj : cs[j]? = some (.raw (.slice none 0 0))) (hz : 0 < sz := by decide) :
  xE ⟨nt, nb, sl, bx, rw, ys⟩ ⟨nt, nb, sl, bx.set b (cs.set j (.row rw.length 0)), rw ++ [⟨e, sz, 0, fun _ => []⟩], ys⟩ := by
 intro P C G a w hs
 have hR : zCw G w ⟨e, sz, 0, fun _ => []⟩ (0, .slice none 0 0) := ⟨rfl, ⟨[], ⟨by simp, .inl ⟨rfl, rfl, hz⟩⟩, fun i hi => by simp at hi⟩, fun g hg => by simp [zK] at hg⟩
 obtain ⟨m2, le⟩ := zBh hs.mem hR (fun g hg => by simp [zK] at hg)
 have hs' := hs.called (z6.refl _ _) le (fun _ _ i => .inl i) (fun _ h => .inl h) (fun x hx g hg => by
  rw [yMa, yM8] at hx
  rcases hx with hx | rfl
  ·exact .inl ⟨x, hx, hg⟩
  ·simp [zK] at hg) m2
 refine ⟨⟨G.imm, G.bx, G.rw ++ [(0, .slice none 0 0)]⟩, ⟨hs'.size, hs'.callers, hs'.frame, hs'.le, hs'.fresh, hs'.ownB, hs'.ownR, hs'.env, ?_, fun t c x hl => hs'.slot t c x hl⟩⟩
 have m := hs'.mem
 refine ⟨m.immOk, by rw [List.length_set]; exact m.lenB, m.lenR, m.nodup, fun k cs' blk hk hG => ?_, m.row, m.sepB, m.sepR⟩
 by_cases hkb : k = b
 ·subst hkb
  have hlt : k < bx.length := (yLk.1 hb).1
  rw [yN9 hlt, yKj] at hk
  subst hk
  obtain ⟨h1, vs, T, h2, h3⟩ := m.box k cs blk hb hG
  refine ⟨h1, vs, T, h2, zJx h3 fun v hv => ?_⟩
  obtain ⟨u, hu, hr⟩ := AV.relL_get h3 hj
  obtain rfl := yOi (hv.symm.trans hu)
  have hv0 : v = .slice none 0 0 := hr
  refine ⟨(0, .slice none 0 0), ?_, yKq _, fun _ => hv0⟩
  have hl : rw.length = G.rw.length := hs.mem.lenR.symm
  show (G.rw ++ [(0, Value.slice none 0 0)])[rw.length]? = _
  rw [hl, yM2 (yKq _), yM9]; rfl
 ·rw [yN8 (fun h => hkb h.symm)] at hk
  exact m.box k cs' blk hk hG
structure zPy (cs : List xA) : Prop where
 n : cs.length ≤ 8
 r : ∀ c ∈ cs, c.rounds.length ≤ 200 ∧ ∀ r ∈ c.rounds, r.replies.length ≤ 400000
theorem zG7 (i : Nat) (rs : List yK) (a : Int) (h : ∀ r ∈ rs, r.replies.length ≤ 400000) : ∀ j, j ≤ rs.length → a ≤ (xM i rs a j).2 ∧ (xM i rs a j).2 ≤ a + j * 800001
 | 0, _ => by simp [xM]
 | j + 1, hj => by
  have ih := zG7 i rs a h j (by omega)
  have := h _ (w9 (show j < rs.length by omega))
  simp only [xM]
  omega
theorem zHv {cs : List xA} (h : zPy cs) : ∀ k, k ≤ cs.length → 1 ≤ (evM cs k).2 ∧ (evM cs k).2 ≤ 1 + k * 160000200
 | 0, _ => by simp [evM]
 | k + 1, hk => by
  have ih := zHv h k (by omega)
  obtain ⟨h1, h2⟩ := h.r _ (w9 (show k < cs.length by omega))
  have h3 := zG7 k (cs.getD k default).rounds (evM cs k).2 h2 _ (yKq _)
  simp only [evM]
  omega
theorem zY8 (i : Nat) (rs : List yK) (a : Int) {j n : Nat} (h : j ≤ n) : (xM i rs a j).1 <+: (xM i rs a n).1 := by
 obtain ⟨d, rfl⟩ := yOd h
 induction d with
 | zero => exact yNy _
 | succ d ih => exact (ih (by omega)).trans (List.prefix_append _ _)
theorem yBf (cs : List xA) {k n : Nat} (h : k ≤ n) : (evM cs k).1 <+: (evM cs n).1 := by
 obtain ⟨d, rfl⟩ := yOd h
 induction d with
 | zero => exact yNy _
 | succ d ih => exact (ih (by omega)).trans (List.prefix_append _ _)
theorem zVe (cs : List xA) {k j : Nat} (hk : k < cs.length) (hj : j ≤ (cs.getD k default).rounds.length) : (evM cs k).1 ++ (xM k (cs.getD k default).rounds (evM cs k).2 j).1 <+: (evM cs cs.length).1 := by
 refine List.IsPrefix.trans ?_ (yBf cs (show k + 1 ≤ cs.length by omega))
 simp only [evM]
 exact (yNz _).2 (zY8 _ _ _ hj)
theorem yAq {α β : Type} {f : α → β} {a b : List α} (h : a <+: b) : a.map f <+: b.map f := by
 obtain ⟨c, rfl⟩ := h
 exact ⟨c.map f, by simp⟩
def evL (m : zL) : List yN := (evM m.evidence.chains m.evidence.chains.length).1
def evN (m : zL) : Int := (evM m.evidence.chains m.evidence.chains.length).2
theorem zY5 (m : zL) (h : zPy m.evidence.chains) : yC3 Tryz.prog 77 [.elt m.av 0] ((evL m).map itE) := by
 have hmf := zL.free m
 obtain ⟨f1, f2, f3, f4, f5⟩ := zDl m
 unfold evL
 refine zMd Tryz.func77 rfl (by kernel_rfl) 43 Tryz.ntmps77 yJr rfl (fun y => ?_)
 simp only [zBq, yLe, Nat.reduceAdd, yL3, yLc]
 try (refine wg ?_; try refine sM fun K hK => ?_)
 generalize m.evidence.chains = cs at *
 refine zF (fun k : Nat => ⟨43, 0, [(0, true, .raw (.func (.yield y) #[] #[])), (3, true, .raw (.int .i64 (evM cs k).2)), (10, true, lA 2 xA.av cs), (11, true, .raw (.int .i64 cs.length)), (12, true, .raw (.int .i64 k))], [], [], ((y, (evM cs cs.length).1.map itE), (evM cs k).1.map itE, false)⟩)
  (fun k => k ≤ cs.length) (fun k => cs.length - k) 0 ?_ (by omega) ?_
 ·exact wkZ
 ·intro k hk
  try (refine wg ?_; try refine sM fun K hK => ?_)
  refine zA ⟨_, evl, fun hb => ?_, fun hb => ?_⟩
  ·simp only [yLr] at hb
   have hlt : k < cs.length := by omega
   obtain ⟨h1, h2⟩ := h.r _ (w9 hlt)
   have hle := zHv h k (by omega)
   have hn8 := h.n
   have hs : evM cs (k + 1) = ((evM cs k).1 ++ (xM k (cs.getD k default).rounds (evM cs k).2 (cs.getD k default).rounds.length).1, (xM k (cs.getD k default).rounds (evM cs k).2 (cs.getD k default).rounds.length).2) := rfl
   have hpre := fun j hj => zVe cs (k := k) (j := j) hlt hj
   have hfr : (lA 1 yK.av (cs.getD k default).rounds).free := zC (fun y => yK.free y) _
   try (refine wg ?_; try refine sM fun K hK => ?_)
   generalize (cs.getD k default).rounds = rs at *
   refine zF (fun j : Nat => ⟨43, 0, [(0, true, .raw (.func (.yield y) #[] #[])), (3, true, .raw (.int .i64 (xM k rs (evM cs k).2 j).2)), (10, true, lA 2 xA.av cs), (11, true, .raw (.int .i64 cs.length)), (12, true, .raw (.int .i64 k)), (4, true, .raw (.int .i64 k)), (18, true, lA 1 yK.av rs), (19, true, .raw (.int .i64 rs.length)), (20, true, .raw (.int .i64 j))], [], [], ((y, (evM cs cs.length).1.map itE), ((evM cs k).1 ++ (xM k rs (evM cs k).2 j).1).map itE, false)⟩)
    (fun j => j ≤ rs.length) (fun j => rs.length - j) 0 ?_ (by omega) ?_
   ·simp only [xM, yMj]
    exact wkZ
   ·intro j hj
    try (refine wg ?_; try refine sM fun K hK => ?_)
    refine zA ⟨_, evl, fun hb => ?_, fun hb => ?_⟩
    ·simp only [yLr] at hb
     have hlj : j < rs.length := by omega
     have hrl := h2 _ (w9 hlj)
     have hai := zG7 k rs (evM cs k).2 h2 j (by omega)
     have hp := yAq (f := itE) (hpre (j + 1) (by omega))
     have hs2 : xM k rs (evM cs k).2 (j + 1) = ((xM k rs (evM cs k).2 j).1 ++ [⟨k, j, (xM k rs (evM cs k).2 j).2, (rs.getD j default).replies⟩], (xM k rs (evM cs k).2 j).2 + (1 + 2 * ((rs.getD j default).replies.length : Int))) := rfl
     have hfj : (lA 10 zN.av (rs.getD j default).replies).free := zC (fun y => zN.free y) _
     rw [hs2] at hp
     simp only [← yN2] at hp
     rw [yNk] at hp
     generalize (xM k rs (evM cs k).2 j).2 = at_ at *
     generalize hX : (evM cs k).1 ++ (xM k rs (evM cs k).2 j).1 = X at *
     try (first | refine wkM hK trivial ?_ | refine wkg trivial ?_)
     try clear hK K
     try refine sM fun K hK => ?_
     refine kR rfl rfl ⟨_, evl, _, _, evl, ?_, ?_, ?_⟩
     ·intro _
      exact ⟨fun c hc => by simp at hc; simp [hc], ⟨⟨trivial, trivial, trivial, hfj, trivial⟩, trivial⟩, hp⟩
     ·intro hg
      simp at hg
     ·intro _ b
      try (first | refine wkM hK trivial ?_ | refine wkg trivial ?_)
      try clear hK K
      try refine sM fun K hK => ?_
      refine zA ⟨_, evl, fun hb2 => ?_, fun hb2 => ?_⟩
      ·obtain rfl : b = false := by simpa using hb2
       try (refine wg ?_; try refine sM fun K hK => ?_)
       exact ⟨.inr rfl, hp, fun h => by simp at h⟩
      ·obtain rfl : b = true := by simpa using hb2
       try (refine wg ?_; try refine sM fun K hK => ?_)
       refine ⟨j + 1, by omega, by omega, ?_⟩
       rw [hs2]
       simp only [← yN2]
       rw [hX, yNk]
       exact wkZ
    ·simp only [yMz] at hb
     obtain rfl : j = rs.length := by omega
     try (refine wg ?_; try refine sM fun K hK => ?_)
     refine ⟨k + 1, by omega, by omega, ?_⟩
     rw [hs]
     exact wkZ
  ·simp only [yMz] at hb
   obtain rfl : k = cs.length := by omega
   try (refine wg ?_; try refine sM fun K hK => ?_)
   exact ⟨.inl rfl, yNy _, fun _ => rfl⟩
theorem yBw {bx : List (List AV)} {rw : List yD} {L : List zH} {x : zH} {el : Nat → List AV} (h : z8 bx rw (el 0) x.av) : ∀ q, q < (L ++ [x]).length → z8 bx rw (vX L.length (els zH.av L) el q) (els zH.av (L ++ [x]) q) := by
 intro q hq
 rw [← yT (l := L) (n := L.length) rfl]
 rcases yKt q L.length with hb | hb
 ·rw [xJ hb, xJ hb]
  exact z8.refl _
 ·obtain h0 : q - L.length = 0 := by simp at hq; omega
  rw [y6 hb, y6 hb, h0]
  exact h
theorem zH9 (m : zL) (r : zN) (rate count s t : Int) : (jZ m r rate count s t).length ≤ 9 := by
 unfold jZ zQ
 split <;> simp
def y8 (m : zL) (e : yN) : vS := m.diaries.getD e.chain.toNat default
def zRd (m : zL) (e b : yN) : List zH := zQ b.at_ e.at_ (yL (y8 m e).rate ((y8 m e).sent.getD e.round.toNat default - (y8 m e).sent.getD (e.round - 1).toNat default)).1 [⟨2, (y8 m e).host⟩]
def xY (e b : yN) (j : Nat) : zH := ⟨e.at_, b.at_ + 2 + 2 * j, 0, []⟩
def w7 (m : zL) (e : yN) (j : Nat) : List zH := jZ m (e.replies.getD j default) (y8 m e).rate (((y8 m e).got.getD e.round.toNat default).getD j default - (y8 m e).sent.getD e.round.toNat default) e.at_ (e.at_ + 1 + 2 * j)
def roundL (m : zL) (e b : yN) : List zH := (if 0 < e.round then zRd m e b ++ (List.range b.replies.length).map (xY e b) else []) ++ (List.range e.replies.length).flatMap (w7 m e)
structure zNv (m : zL) (e : yN) : Prop where
 c : 0 ≤ e.chain ∧ e.chain < m.diaries.length
 q : e.round ≤ 1000
 r : 0 ≤ e.round ∧ e.round < (y8 m e).sent.length ∧ e.round < (y8 m e).got.length
 g : ((y8 m e).got.getD e.round.toNat default).length = e.replies.length
 s : ∀ i, i < (y8 m e).sent.length → inD ((y8 m e).sent.getD i default)
 u : ∀ u ∈ (y8 m e).got.getD e.round.toNat default, inD u
 p : ∀ x ∈ e.replies, z9 x
 l : e.replies.length ≤ 1000
 a : 0 ≤ e.at_ ∧ e.at_ ≤ 2000
theorem zIc (m : zL) (e : yN) (k : Nat) : ((List.range k).flatMap (w7 m e)).length ≤ 9 * k := by
 induction k with
 | zero => simp
 | succ k ih =>
  rw [yNf, yNg, yL5]
  have : ([k].flatMap (w7 m e)).length ≤ 9 := by
   simp only [yNa, List.flatMap_nil, yMj]
   exact zH9 ..
  omega
theorem yA2 (m : zL) (h : OkM m) (hau : qS m.evidence.auths) (l : List zH) (hl : l.length ≤ 10000000000) (e b : yN) (he : zNv m e) (hb : (0 ≤ b.at_ ∧ b.at_ ≤ 2000) ∧ b.replies.length ≤ 1000) :
  FnG Tryz.prog 35 [.box 0 0, .agg e.av, .agg b.av] [yF m l.length] [vL l] (.tup []) [yF m (l ++ roundL m e b).length] [vL (l ++ roundL m e b)] := by
 obtain ⟨f1, f2, f3, f4, f5⟩ := zDl m
 have hef := yN.free e
 have hbf := yN.free b
 obtain ⟨⟨c1, c2⟩, hq, ⟨r1, r2, r3⟩, hg, hs, hu, hp, hel, ha⟩ := id he
 have hday : y8 m e = m.diaries.getD e.chain.toNat default := rfl
 have hdf := vS.free (y8 m e)
 obtain ⟨l1, hl1⟩ : ∃ l1, l1 = l ++ (if 0 < e.round then zRd m e b ++ (List.range b.replies.length).map (xY e b) else []) := ⟨_, rfl⟩
 have hc1 : l1.length ≤ 10000001002 := by
  rw [hl1, yL5]
  split
  ·rw [yL5, yMg, yO6]
   have : (zRd m e b).length = 2 := rfl
   omega
  ·simp; omega
 rw [show l ++ roundL m e b = l1 ++ (List.range e.replies.length).flatMap (w7 m e) by rw [hl1, roundL, yN2]]
 refine enG Tryz.func35 Tryz.ntmps35 [] 1 rfl ?_
 refine zAj ?_
 repeat (refine stG ?_)
 refine zE (fun K hK => ?_)
 iterate 2 (refine stG ?_)
 refine z0 1 obf ⟨_, evl, _, evl, ?_⟩
 try (first | refine wkM hK trivial ?_ | refine wkg trivial ?_)
 try clear hK K
 try refine sM fun K hK => ?_
 rw [← hday]
 refine zAh 1 obf ⟨_, evl, _, evl, ?_⟩
 have hn : ∀ x : Int, -3000000000000000 ≤ x ∧ x ≤ 3000000000000000 → IntKind.i64.wrap (-x) = -x := fun x hx => yX (k := .i64) (by simp only [inK]; omega)
 refine zBw ⟨118, 1 + 64 * 1, [(0, true, .box 0 0), (4, true, .elt e.av 0), (6, true, .elt (y8 m e).av 0)], [yF m l1.length], [vL l1], ((0, []), [], true)⟩ ?_ ?_
 ·refine zA ⟨_, evl, fun hb0 => ?_, fun hb0 => ?_⟩
  ·simp only [yLr] at hb0
   rw [if_pos hb0] at hl1
   have s1 : inD ((y8 m e).sent.getD e.round.toNat 0) := hs _ (by omega)
   have s2 : inD ((y8 m e).sent.getD (e.round - 1).toNat 0) := hs _ (by omega)
   have el := zL9 (y8 m e).rate ((y8 m e).sent.getD e.round.toNat 0 - (y8 m e).sent.getD (e.round - 1).toNat 0)
   have er := wD (y8 m e).rate ((y8 m e).sent.getD e.round.toNat 0 - (y8 m e).sent.getD (e.round - 1).toNat 0)
   have hgap : zRd m e b = zQ b.at_ e.at_ (yL (y8 m e).rate ((y8 m e).sent.getD e.round.toNat 0 - (y8 m e).sent.getD (e.round - 1).toNat 0)).1 [⟨2, (y8 m e).host⟩] := rfl
   simp only [inD] at s1 s2
   generalize yL (y8 m e).rate ((y8 m e).sent.getD e.round.toNat 0 - (y8 m e).sent.getD (e.round - 1).toNat 0) = E at *
   have b1 := zAc m l (by omega) b.at_ e.at_ E.1 (hn _ (by omega)) [⟨2, (y8 m e).host⟩] _ (fun _ _ => rfl)
   rw [← hgap] at b1
   rw [← yN2] at hl1
   have hcg : (l ++ zRd m e b).length = l.length + 2 := by rw [yL5]; rfl
   generalize l ++ zRd m e b = l0 at *
   clear hgap
   try (first | refine wkM hK el ?_ | refine wkg el ?_)
   try clear hK K
   try refine sM fun K hK => ?_
   refine xX (xE.slot 53 evl (Sim.lstE rfl (zS1 ⟨2, (y8 m e).host⟩)).s) ?_
   refine z0 1 obf ⟨_, evl, _, evl, ?_⟩
   refine jY 0 (bx1 := [yF m _]) b1 rfl rfl rfl ⟨yOh, trivial, trivial, ⟨trivial, trivial, trivial⟩, AV.sub_free _ (zC (fun y => zB.free y) _), trivial⟩ ⟨_, rfl, _, evl, obl, rfl, rfl, rfl, ?_⟩

   try (first | refine wkM hK trivial ?_ | refine wkg trivial ?_)
   try clear hK K
   try refine sM fun K hK => ?_
   refine zF (fun j : Nat => ⟨118, 1 + 64 * 1, [(0, true, .box 0 0), (4, true, .elt e.av 0), (5, true, .elt b.av 0), (6, true, .elt (y8 m e).av 0), (56, true, lA 10 zN.av b.replies), (57, true, .raw (.int .i64 b.replies.length)), (58, true, .raw (.int .i64 j))], [yF m (l0 ++ (List.range j).map (xY e b)).length], [vL (l0 ++ (List.range j).map (xY e b))], ((0, []), [], true)⟩)
    (fun j => j ≤ b.replies.length) (fun j => b.replies.length - j) 0 ?_ (by omega) ?_
   ·simp only [List.range_zero, yMk, yMj]
    exact wkZ
   ·intro j hj
    rcases yKt j b.replies.length with hlt | hge
    ·have hsn : l0 ++ (List.range (j + 1)).map (xY e b) = (l0 ++ (List.range j).map (xY e b)) ++ [xY e b j] := by
      rw [yNf, yNk, yN2]; rfl
     have hLl : (l0 ++ (List.range j).map (xY e b)).length ≤ 10000010000 := by rw [yL5, yMg, yO6]; omega
     have hav : (xY e b j).av = [.raw (.int .i64 e.at_), .raw (.int .i64 (b.at_ + 2 + 2 * j)), .raw (.int .i64 0), lA 2 zB.av []] := rfl
     generalize l0 ++ (List.range j).map (xY e b) = L at *
     try (refine wg ?_; try refine sM fun K hK => ?_)
     refine zA ⟨_, evl, fun _ => ?_, fun hb => absurd (yOc hb) (by omega)⟩
     try (refine wg ?_; try refine sM fun K hK => ?_)
     refine ⟨j + 1, by omega, by omega, ?_⟩
     rw [hsn]
     have hlen : L.length + 1 = (L ++ [xY e b j]).length := by simp
     refine wkn ?_ ?_ ?_
     all_goals first | exact wk0 | refine wkS ?_ | skip
     all_goals (try trivial)
     all_goals ((repeat' apply And.intro) <;> first | exact wkL | skip)
     all_goals first | exact z5.rowN hlen | exact hlen | skip
     refine yBw ?_
     rw [hav]
     exact ⟨z5.refl _, z5.refl _, z5.refl _, (Sim.nil rfl).s, trivial⟩
    ·obtain rfl : j = b.replies.length := by omega
     rw [← hl1]
     try (refine wg ?_; try refine sM fun K hK => ?_)
     refine zA ⟨_, evl, fun hb => absurd (yNw hb) (by omega), fun _ => ?_⟩
     try (refine wg ?_; try refine sM fun K hK => ?_)
     exact wkZ
  ·simp only [yMz] at hb0
   rw [if_neg hb0, yMj] at hl1
   rw [hl1]
   try (refine wg ?_; try refine sM fun K hK => ?_)
   exact wkZ
 ·try (refine wg ?_; try refine sM fun K hK => ?_)
  refine zF (fun j : Nat => ⟨118, 1 + 64 * 1, [(0, true, .box 0 0), (4, true, .elt e.av 0), (6, true, .elt (y8 m e).av 0), (81, true, lA 10 zN.av e.replies), (82, true, .raw (.int .i64 e.replies.length)), (83, true, .raw (.int .i64 j))], [yF m (l1 ++ (List.range j).flatMap (w7 m e)).length], [vL (l1 ++ (List.range j).flatMap (w7 m e))], ((0, []), [], true)⟩)
   (fun j => j ≤ e.replies.length) (fun j => e.replies.length - j) 0 ?_ (by omega) ?_
  ·simp only [List.range_zero, List.flatMap_nil, yMj]
   exact wkZ
  ·intro j hj
   rcases yKt j e.replies.length with hlt | hge
   ·have hsn : l1 ++ (List.range (j + 1)).flatMap (w7 m e) = (l1 ++ (List.range j).flatMap (w7 m e)) ++ w7 m e j := by
     rw [yNf, yNg, yN2]; simp
    have hLl : (l1 ++ (List.range j).flatMap (w7 m e)).length ≤ 10000100000 := by
     have := zIc m e j
     rw [yL5]; omega
    have s1 : inD ((y8 m e).sent.getD e.round.toNat 0) := hs _ (by omega)
    have u1 : inD (((y8 m e).got.getD e.round.toNat default).getD j 0) := hu _ (w9 (by omega))
    have hay : w7 m e j = jZ m (e.replies.getD j default) (y8 m e).rate (((y8 m e).got.getD e.round.toNat default).getD j 0 - (y8 m e).sent.getD e.round.toNat 0) e.at_ (e.at_ + 1 + 2 * j) := rfl
    have rg := fun L (hL : L.length ≤ 90000000000) => yA6 m h L hL (e.replies.getD j default) (hp _ (w9 hlt)) (y8 m e).rate (((y8 m e).got.getD e.round.toNat default).getD j 0 - (y8 m e).sent.getD e.round.toNat 0) e.at_ (e.at_ + 1 + 2 * j) (by omega) (by omega) hau
    rw [← hay] at rg
    simp only [inD] at s1 u1
    have r4 := rg _ (show (l1 ++ (List.range j).flatMap (w7 m e)).length ≤ 90000000000 by omega)
    clear rg hay
    generalize l1 ++ (List.range j).flatMap (w7 m e) = L at *
    try (refine wg ?_; try refine sM fun K hK => ?_)
    refine zA ⟨_, evl, fun _ => ?_, fun hb => absurd (yOc hb) (by omega)⟩
    repeat (refine stG ?_)
    refine zE (fun K hK => ?_)
    iterate 6 (refine stG ?_)
    refine z0 1 obf ⟨_, evl, _, evl, ?_⟩
    refine zG (hK _ ?_); clear hK K
    repeat (refine stG ?_)
    refine kJ true (by kernel_rfl) (by kernel_rfl) (fun K hK => ?_)
    repeat
     first
      | (refine zG (hK _ ?_); clear hK K)
      | refine stG ?_
      | (refine zW 1 rfl ?_; refine zJ ?_)
      | (refine yB ?_; first | (refine zP (hK _ ?_); clear hK K) | (refine zX rfl ⟨_, evl, fun nb' => ?_⟩))
      | refine zE (fun K hK => ?_)
      | (refine yZ ?_; first | (refine zD false rfl (by kernel_rfl) (by kernel_rfl) (fun K hK => ?_)) | (refine zD true rfl (by kernel_rfl) (by kernel_rfl) (fun K hK => ?_)))
    refine jY 0 (bx1 := [yF m _]) r4 rfl rfl rfl ⟨yOh, AV.subL_free _ (zN.free _), trivial, trivial, trivial, trivial, trivial⟩ ⟨_, rfl, _, evl, obl, rfl, rfl, rfl, ?_⟩
    refine zAm rfl (zFx _ _) (fun h => by cases h) ?_
    refine zP (hK _ ?_); clear hK K
    try (first | refine wkM hK trivial ?_ | refine wkg trivial ?_)
    try clear hK K
    try refine sM fun K hK => ?_
    refine ⟨j + 1, by omega, by omega, ?_⟩
    rw [hsn]
    exact wkZ
   ·obtain rfl : j = e.replies.length := by omega
    try (refine wg ?_; try refine sM fun K hK => ?_)
    refine zA ⟨_, evl, fun hb => absurd (yNw hb) (by omega), fun _ => ?_⟩
    try (refine wg ?_; try refine sM fun K hK => ?_)
    refine ⟨⟨118, 1 + 64 * 1, [], [yF m (l1 ++ (List.range e.replies.length).flatMap (w7 m e)).length], [vL (l1 ++ (List.range e.replies.length).flatMap (w7 m e))], ((0, []), [], true)⟩, ?_, ?_⟩
    ·exact wkZ
    ·all_goals (refine yG (by simp) ⟨_, _, _, evl, obq, jD.bel ?_ obb, by simp, ?_, rfl, obb, zEc _⟩)
     all_goals first | rfl | (simp; done) | (simp_all; done) | (simp_all; omega) | skip
end Go.Proofs.YtchpbdecipcelaaGreatDoor
