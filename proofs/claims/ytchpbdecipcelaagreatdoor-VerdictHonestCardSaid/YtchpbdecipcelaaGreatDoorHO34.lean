import Derived.Test.YtchpbdecipcelaaGreatDoorHO01
import Derived.Test.YtchpbdecipcelaaGreatDoorHO33
namespace Go.Proofs.YtchpbdecipcelaaGreatDoor
set_option linter.unusedVariables false
set_option linter.unusedSimpArgs false
set_option maxHeartbeats 4000000
set_option maxRecDepth 100000
open Go.RowKit
theorem zJ5 {G : Gh} {w : World} : ∀ {cs : List AV} {vs : List Value} {j : Nat} {x : AV}, AV.relL G w cs vs → (∀ v, vs[j]? = some v → x.rel G w v) → AV.relL G w (cs.set j x) vs
 | [], vs, j, x, h, _ => by simpa using h
 | c :: cs, vs, 0, x, h, hx => by
  obtain ⟨v, r, rfl, h1, h2⟩ := h
  exact ⟨v, r, rfl, hx v rfl, h2⟩
 | c :: cs, vs, j + 1, x, h, hx => by
  obtain ⟨v, r, rfl, h1, h2⟩ := h
  exact ⟨v, r, rfl, h1, zJ5 h2 fun u hu => hx u (by simpa using hu)⟩
theorem xJ.nilRowV {nt nb : Nat} {sl : List (Nat × (Bool × AV))} {bx : List (List AV)} {rw : List z9} {ys : (Nat × List (List AV)) × List (List AV) × Bool} (b j : Nat) (e : TypeId) (sz : Nat) {cs : List AV} (hb : bx[b]? = some cs) (hj : cs[j]? = some (.raw (.slice none 0 0))) (hz : 0 < sz := by decide) :
  xJ ⟨nt, nb, sl, bx, rw, ys⟩ ⟨nt, nb, sl, bx.set b (cs.set j (.row rw.length 0)), rw ++ [⟨e, sz, 0, fun _ => []⟩], ys⟩ := by
 intro P C G a w hs
 have hR : zCu G w ⟨e, sz, 0, fun _ => []⟩ (0, .slice none 0 0) := ⟨rfl, ⟨[], ⟨by simp, .inl ⟨rfl, rfl, hz⟩⟩, fun i hi => by simp at hi⟩, fun g hg => by simp [zI] at hg⟩
 obtain ⟨m2, le⟩ := zB8 hs.mem hR (fun g hg => by simp [zI] at hg)
 have hs' := hs.called (zY.refl _ _) le (fun _ _ i => .inl i) (fun _ h => .inl h) (fun x hx g hg => by
  rw [yK6, yK4] at hx
  rcases hx with hx | rfl
  ·exact .inl ⟨x, hx, hg⟩
  ·simp [zI] at hg) m2
 refine ⟨⟨G.imm, G.bx, G.rw ++ [(0, .slice none 0 0)]⟩, ⟨hs'.size, hs'.callers, hs'.frame, hs'.le, hs'.fresh, hs'.ownB, hs'.ownR, hs'.env, ?_, fun t c x hl => hs'.slot t c x hl⟩⟩
 have m := hs'.mem
 refine ⟨m.immOk, by rw [List.length_set]; exact m.lenB, m.lenR, m.nodup, fun k cs' blk hk hG => ?_, m.row, m.sepB, m.sepR⟩
 by_cases hkb : k = b
 ·subst hkb
  have hlt : k < bx.length := (yJf.1 hb).1
  rw [yL6 hlt, yIg] at hk
  subst hk
  obtain ⟨h1, vs, T, h2, h3⟩ := m.box k cs blk hb hG
  refine ⟨h1, vs, T, h2, zJ5 h3 fun v hv => ?_⟩
  obtain ⟨u, hu, hr⟩ := AV.relL_get h3 hj
  obtain rfl := yMg (hv.symm.trans hu)
  have hv0 : v = .slice none 0 0 := hr
  refine ⟨(0, .slice none 0 0), ?_, yIn _, fun _ => hv0⟩
  have hl : rw.length = G.rw.length := hs.mem.lenR.symm
  show (G.rw ++ [(0, Value.slice none 0 0)])[rw.length]? = _
  rw [hl, yJy (yIn _), yK5]; rfl
 ·rw [yL4 (fun h => hkb h.symm)] at hk
  exact m.box k cs' blk hk hG
structure zUp (cs : List xS) : Prop where
 n : cs.length ≤ 8
 r : ∀ c ∈ cs, c.rounds.length ≤ 200 ∧ ∀ r ∈ c.rounds, r.replies.length ≤ 400000
theorem zMc (i : Nat) (rs : List yP) (a : Int) (h : ∀ r ∈ rs, r.replies.length ≤ 400000) : ∀ j, j ≤ rs.length → a ≤ (qP i rs a j).2 ∧ (qP i rs a j).2 ≤ a + j * 800001
 | 0, _ => by simp [qP]
 | j + 1, hj => by
  have ih := zMc i rs a h j (by omega)
  have := h _ (zAn (show j < rs.length by omega))
  simp only [qP]
  omega
theorem zOe {cs : List xS} (h : zUp cs) : ∀ k, k ≤ cs.length → 1 ≤ (evM cs k).2 ∧ (evM cs k).2 ≤ 1 + k * 160000200
 | 0, _ => by simp [evM]
 | k + 1, hk => by
  have ih := zOe h k (by omega)
  obtain ⟨h1, h2⟩ := h.r _ (zAn (show k < cs.length by omega))
  have h3 := zMc k (cs.getD k default).rounds (evM cs k).2 h2 _ (yIn _)
  simp only [evM]
  omega
theorem zWd (i : Nat) (rs : List yP) (a : Int) {j n : Nat} (h : j ≤ n) : (qP i rs a j).1 <+: (qP i rs a n).1 := by
 obtain ⟨d, rfl⟩ := yMb h
 induction d with
 | zero => exact yLw _
 | succ d ih => exact (ih (by omega)).trans (List.prefix_append _ _)
theorem zZf (cs : List xS) {k n : Nat} (h : k ≤ n) : (evM cs k).1 <+: (evM cs n).1 := by
 obtain ⟨d, rfl⟩ := yMb h
 induction d with
 | zero => exact yLw _
 | succ d ih => exact (ih (by omega)).trans (List.prefix_append _ _)
theorem yBi (cs : List xS) {k j : Nat} (hk : k < cs.length) (hj : j ≤ (cs.getD k default).rounds.length) : (evM cs k).1 ++ (qP k (cs.getD k default).rounds (evM cs k).2 j).1 <+: (evM cs cs.length).1 := by
 refine List.IsPrefix.trans ?_ (zZf cs (show k + 1 ≤ cs.length by omega))
 simp only [evM]
 exact (yLx _).2 (zWd _ _ _ hj)
theorem zYr {α β : Type} {f : α → β} {a b : List α} (h : a <+: b) : a.map f <+: b.map f := by
 obtain ⟨c, rfl⟩ := h
 exact ⟨c.map f, by simp⟩
def evL (m : zQ) : List y7 := (evM m.evidence.chains m.evidence.chains.length).1
def evN (m : zQ) : Int := (evM m.evidence.chains m.evidence.chains.length).2
theorem zWb (m : zQ) (h : zUp m.evidence.chains) : yAa Tryz.prog 77 [.elt m.av 0] ((evL m).map itE) := by
 have hmf := zQ.free m
 obtain ⟨f1, f2, f3, f4, f5⟩ := zG6 m
 unfold evL
 refine zLg Tryz.func77 rfl (by kernel_rfl) 43 Tryz.ntmps77 yHr rfl (fun y => ?_)
 simp only [zBk, yJa, Nat.reduceAdd, yJ0, yJ9]
 try (refine wg ?_; try refine sM fun K hK => ?_)
 generalize m.evidence.chains = cs at *
 refine zJ (fun k : Nat => ⟨43, 0, [(0, true, .raw (.func (.yield y) #[] #[])), (3, true, .raw (.int .i64 (evM cs k).2)), (10, true, lA 2 xS.av cs), (11, true, .raw (.int .i64 cs.length)), (12, true, .raw (.int .i64 k))], [], [], ((y, (evM cs cs.length).1.map itE), (evM cs k).1.map itE, false)⟩)
  (fun k => k ≤ cs.length) (fun k => cs.length - k) 0 ?_ (by omega) ?_
 ·exact wkZ
 ·intro k hk
  try (refine wg ?_; try refine sM fun K hK => ?_)
  refine zA ⟨_, evl, fun hb => ?_, fun hb => ?_⟩
  ·simp only [yJm] at hb
   have hlt : k < cs.length := by omega
   obtain ⟨h1, h2⟩ := h.r _ (zAn hlt)
   have hle := zOe h k (by omega)
   have hn8 := h.n
   have hs : evM cs (k + 1) = ((evM cs k).1 ++ (qP k (cs.getD k default).rounds (evM cs k).2 (cs.getD k default).rounds.length).1, (qP k (cs.getD k default).rounds (evM cs k).2 (cs.getD k default).rounds.length).2) := rfl
   have hpre := fun j hj => yBi cs (k := k) (j := j) hlt hj
   have hfr : (lA 1 yP.av (cs.getD k default).rounds).free := zE (fun y => yP.free y) _
   try (refine wg ?_; try refine sM fun K hK => ?_)
   generalize (cs.getD k default).rounds = rs at *
   refine zJ (fun j : Nat => ⟨43, 0, [(0, true, .raw (.func (.yield y) #[] #[])), (3, true, .raw (.int .i64 (qP k rs (evM cs k).2 j).2)), (10, true, lA 2 xS.av cs), (11, true, .raw (.int .i64 cs.length)), (12, true, .raw (.int .i64 k)), (4, true, .raw (.int .i64 k)), (18, true, lA 1 yP.av rs), (19, true, .raw (.int .i64 rs.length)), (20, true, .raw (.int .i64 j))], [], [], ((y, (evM cs cs.length).1.map itE), ((evM cs k).1 ++ (qP k rs (evM cs k).2 j).1).map itE, false)⟩)
    (fun j => j ≤ rs.length) (fun j => rs.length - j) 0 ?_ (by omega) ?_
   ·simp only [qP, yKe]
    exact wkZ
   ·intro j hj
    try (refine wg ?_; try refine sM fun K hK => ?_)
    refine zA ⟨_, evl, fun hb => ?_, fun hb => ?_⟩
    ·simp only [yJm] at hb
     have hlj : j < rs.length := by omega
     have hrl := h2 _ (zAn hlj)
     have hai := zMc k rs (evM cs k).2 h2 j (by omega)
     have hp := zYr (f := itE) (hpre (j + 1) (by omega))
     have hs2 : qP k rs (evM cs k).2 (j + 1) = ((qP k rs (evM cs k).2 j).1 ++ [⟨k, j, (qP k rs (evM cs k).2 j).2, (rs.getD j default).replies⟩], (qP k rs (evM cs k).2 j).2 + (1 + 2 * ((rs.getD j default).replies.length : Int))) := rfl
     have hfj : (lA 10 zM.av (rs.getD j default).replies).free := zE (fun y => zM.free y) _
     rw [hs2] at hp
     simp only [← yKx] at hp
     rw [yLh] at hp
     generalize (qP k rs (evM cs k).2 j).2 = at_ at *
     generalize hX : (evM cs k).1 ++ (qP k rs (evM cs k).2 j).1 = X at *
     try (first | refine wkM hK trivial ?_ | refine wkg trivial ?_)
     try clear hK K
     try refine sM fun K hK => ?_
     refine kK rfl rfl ⟨_, evl, _, _, evl, ?_, ?_, ?_⟩
     ·intro _
      exact ⟨fun c hc => by simp at hc; simp [hc], ⟨⟨trivial, trivial, trivial, hfj, trivial⟩, trivial⟩, hp⟩
     ·intro hg
      simp at hg
     ·intro _ b
      try (first | refine wkM hK trivial ?_ | refine wkg trivial ?_)
      try clear hK K
      try refine sM fun K hK => ?_
      refine zA ⟨_, evl, fun hb2 => ?_, fun hb2 => ?_⟩
      ·obtain rfl : b = false := by simpa using hb2
       try (refine wg ?_; try refine sM fun K hK => ?_)
       exact ⟨.inr rfl, hp, fun h => by simp at h⟩
      ·obtain rfl : b = true := by simpa using hb2
       try (refine wg ?_; try refine sM fun K hK => ?_)
       refine ⟨j + 1, by omega, by omega, ?_⟩
       rw [hs2]
       simp only [← yKx]
       rw [hX, yLh]
       exact wkZ
    ·simp only [yKu] at hb
     obtain rfl : j = rs.length := by omega
     try (refine wg ?_; try refine sM fun K hK => ?_)
     refine ⟨k + 1, by omega, by omega, ?_⟩
     rw [hs]
     exact wkZ
  ·simp only [yKu] at hb
   obtain rfl : k = cs.length := by omega
   try (refine wg ?_; try refine sM fun K hK => ?_)
   exact ⟨.inl rfl, yLw _, fun _ => rfl⟩
theorem zZz {bx : List (List AV)} {rw : List z9} {L : List zO} {x : zO} {el : Nat → List AV} (h : z8 bx rw (el 0) x.av) : ∀ q, q < (L ++ [x]).length → z8 bx rw (vL L.length (els zO.av L) el q) (els zO.av (L ++ [x]) q) := by
 intro q hq
 rw [← xE (l := L) (n := L.length) rfl]
 rcases yIq q L.length with hb | hb
 ·rw [xL hb, xL hb]
  exact z8.refl _
 ·obtain h0 : q - L.length = 0 := by simp at hq; omega
  rw [yV hb, yV hb, h0]
  exact h
theorem zPr (m : zQ) (r : zM) (rate count s t : Int) : (zAs m r rate count s t).length ≤ 9 := by
 unfold zAs zZ
 split <;> simp
def yY (m : zQ) (e : y7) : qM := m.diaries.getD e.chain.toNat default
def zXb (m : zQ) (e b : y7) : List zO := zZ b.at_ e.at_ (xK (yY m e).rate ((yY m e).sent.getD e.round.toNat default - (yY m e).sent.getD (e.round - 1).toNat default)).1 [⟨2, (yY m e).host⟩]
def qE (e b : y7) (j : Nat) : zO := ⟨e.at_, b.at_ + 2 + 2 * j, 0, []⟩
def j4 (m : zQ) (e : y7) (j : Nat) : List zO := zAs m (e.replies.getD j default) (yY m e).rate (((yY m e).got.getD e.round.toNat default).getD j default - (yY m e).sent.getD e.round.toNat default) e.at_ (e.at_ + 1 + 2 * j)
def kP (m : zQ) (e b : y7) : List zO := (if 0 < e.round then zXb m e b ++ (List.range b.replies.length).map (qE e b) else []) ++ (List.range e.replies.length).flatMap (j4 m e)
structure zMs (m : zQ) (e : y7) : Prop where
 c : 0 ≤ e.chain ∧ e.chain < m.diaries.length
 q : e.round ≤ 1000
 r : 0 ≤ e.round ∧ e.round < (yY m e).sent.length ∧ e.round < (yY m e).got.length
 g : ((yY m e).got.getD e.round.toNat default).length = e.replies.length
 s : ∀ i, i < (yY m e).sent.length → inD ((yY m e).sent.getD i default)
 u : ∀ u ∈ (yY m e).got.getD e.round.toNat default, inD u
 p : ∀ x ∈ e.replies, yJ x
 l : e.replies.length ≤ 1000
 a : 0 ≤ e.at_ ∧ e.at_ ≤ 2000
theorem zN8 (m : zQ) (e : y7) (k : Nat) : ((List.range k).flatMap (j4 m e)).length ≤ 9 * k := by
 induction k with
 | zero => simp
 | succ k ih =>
  rw [yLc, yLd, yJ2]
  have : ([k].flatMap (j4 m e)).length ≤ 9 := by
   simp only [yL7, yMh, yKe]
   exact zPr ..
  omega
theorem zY4 (m : zQ) (h : OkM m) (hau : jV m.evidence.auths) (l : List zO) (hl : l.length ≤ 10000000000) (e b : y7) (he : zMs m e) (hb : (0 ≤ b.at_ ∧ b.at_ ≤ 2000) ∧ b.replies.length ≤ 1000) :
  FnG Tryz.prog 35 [.box 0 0, .agg e.av, .agg b.av] [yD m l.length] [qL l] (.tup []) [yD m (l ++ kP m e b).length] [qL (l ++ kP m e b)] := by
 obtain ⟨f1, f2, f3, f4, f5⟩ := zG6 m
 have hef := y7.free e
 have hbf := y7.free b
 obtain ⟨⟨c1, c2⟩, hq, ⟨r1, r2, r3⟩, hg, hs, hu, hp, hel, ha⟩ := id he
 have hday : yY m e = m.diaries.getD e.chain.toNat default := rfl
 have hdf := qM.free (yY m e)
 obtain ⟨l1, hl1⟩ : ∃ l1, l1 = l ++ (if 0 < e.round then zXb m e b ++ (List.range b.replies.length).map (qE e b) else []) := ⟨_, rfl⟩
 have hc1 : l1.length ≤ 10000001002 := by
  rw [hl1, yJ2]
  split
  ·rw [yJ2, yKc, yM4]
   have : (zXb m e b).length = 2 := rfl
   omega
  ·simp; omega
 rw [show l ++ kP m e b = l1 ++ (List.range e.replies.length).flatMap (j4 m e) by rw [hl1, kP, yKx]]
 refine enG Tryz.func35 Tryz.ntmps35 [] 1 rfl ?_
 refine zBs ?_
 repeat (refine stG ?_)
 refine zD (fun K hK => ?_)
 iterate 2 (refine stG ?_)
 refine zX 1 obf ⟨_, evl, _, evl, ?_⟩
 try (first | refine wkM hK trivial ?_ | refine wkg trivial ?_)
 try clear hK K
 try refine sM fun K hK => ?_
 rw [← hday]
 refine zCy 1 obf ⟨_, evl, _, evl, ?_⟩
 have hn : ∀ x : Int, -3000000000000000 ≤ x ∧ x ≤ 3000000000000000 → IntKind.i64.wrap (-x) = -x := fun x hx => y8 (k := .i64) (by simp only [inK]; omega)
 refine zBr ⟨118, 1 + 64 * 1, [(0, true, .box 0 0), (4, true, .elt e.av 0), (6, true, .elt (yY m e).av 0)], [yD m l1.length], [qL l1], ((0, []), [], true)⟩ ?_ ?_
 ·refine zA ⟨_, evl, fun hb0 => ?_, fun hb0 => ?_⟩
  ·simp only [yJm] at hb0
   rw [if_pos hb0] at hl1
   have s1 : inD ((yY m e).sent.getD e.round.toNat 0) := hs _ (by omega)
   have s2 : inD ((yY m e).sent.getD (e.round - 1).toNat 0) := hs _ (by omega)
   have el := zKf (yY m e).rate ((yY m e).sent.getD e.round.toNat 0 - (yY m e).sent.getD (e.round - 1).toNat 0)
   have er := vT (yY m e).rate ((yY m e).sent.getD e.round.toNat 0 - (yY m e).sent.getD (e.round - 1).toNat 0)
   have hgap : zXb m e b = zZ b.at_ e.at_ (xK (yY m e).rate ((yY m e).sent.getD e.round.toNat 0 - (yY m e).sent.getD (e.round - 1).toNat 0)).1 [⟨2, (yY m e).host⟩] := rfl
   simp only [inD] at s1 s2
   generalize xK (yY m e).rate ((yY m e).sent.getD e.round.toNat 0 - (yY m e).sent.getD (e.round - 1).toNat 0) = E at *
   have b1 := zA1 m l (by omega) b.at_ e.at_ E.1 (hn _ (by omega)) [⟨2, (yY m e).host⟩] _ (fun _ _ => rfl)
   rw [← hgap] at b1
   rw [← yKx] at hl1
   have hcg : (l ++ zXb m e b).length = l.length + 2 := by rw [yJ2]; rfl
   generalize l ++ zXb m e b = l0 at *
   clear hgap
   try (first | refine wkM hK el ?_ | refine wkg el ?_)
   try clear hK K
   try refine sM fun K hK => ?_
   refine kL (xJ.slot 53 evl (Sim.lstE rfl (yA5 ⟨2, (yY m e).host⟩)).s) ?_
   refine zX 1 obf ⟨_, evl, _, evl, ?_⟩
   refine jT 0 (bx1 := [yD m _]) b1 rfl rfl rfl ⟨yMf, trivial, trivial, ⟨trivial, trivial, trivial⟩, AV.sub_free _ (zE (fun y => zB.free y) _), trivial⟩ ⟨_, rfl, _, evl, obl, rfl, rfl, rfl, ?_⟩

   try (first | refine wkM hK trivial ?_ | refine wkg trivial ?_)
   try clear hK K
   try refine sM fun K hK => ?_
   refine zJ (fun j : Nat => ⟨118, 1 + 64 * 1, [(0, true, .box 0 0), (4, true, .elt e.av 0), (5, true, .elt b.av 0), (6, true, .elt (yY m e).av 0), (56, true, lA 10 zM.av b.replies), (57, true, .raw (.int .i64 b.replies.length)), (58, true, .raw (.int .i64 j))], [yD m (l0 ++ (List.range j).map (qE e b)).length], [qL (l0 ++ (List.range j).map (qE e b))], ((0, []), [], true)⟩)
    (fun j => j ≤ b.replies.length) (fun j => b.replies.length - j) 0 ?_ (by omega) ?_
   ·simp only [List.range_zero, yKf, yKe]
    exact wkZ
   ·intro j hj
    rcases yIq j b.replies.length with hlt | hge
    ·have hsn : l0 ++ (List.range (j + 1)).map (qE e b) = (l0 ++ (List.range j).map (qE e b)) ++ [qE e b j] := by
      rw [yLc, yLh, yKx]; rfl
     have hLl : (l0 ++ (List.range j).map (qE e b)).length ≤ 10000010000 := by rw [yJ2, yKc, yM4]; omega
     have hav : (qE e b j).av = [.raw (.int .i64 e.at_), .raw (.int .i64 (b.at_ + 2 + 2 * j)), .raw (.int .i64 0), lA 2 zB.av []] := rfl
     generalize l0 ++ (List.range j).map (qE e b) = L at *
     try (refine wg ?_; try refine sM fun K hK => ?_)
     refine zA ⟨_, evl, fun _ => ?_, fun hb => absurd (yMa hb) (by omega)⟩
     try (refine wg ?_; try refine sM fun K hK => ?_)
     refine ⟨j + 1, by omega, by omega, ?_⟩
     rw [hsn]
     have hlen : L.length + 1 = (L ++ [qE e b j]).length := by simp
     refine wkn ?_ ?_ ?_
     all_goals first | exact wk0 | refine wkS ?_ | skip
     all_goals (try trivial)
     all_goals ((repeat' apply And.intro) <;> first | exact wkL | skip)
     all_goals first | exact z6.rowN hlen | exact hlen | skip
     refine zZz ?_
     rw [hav]
     exact ⟨z6.refl _, z6.refl _, z6.refl _, (Sim.nil rfl).s, trivial⟩
    ·obtain rfl : j = b.replies.length := by omega
     rw [← hl1]
     try (refine wg ?_; try refine sM fun K hK => ?_)
     refine zA ⟨_, evl, fun hb => absurd (yLv hb) (by omega), fun _ => ?_⟩
     try (refine wg ?_; try refine sM fun K hK => ?_)
     exact wkZ
  ·simp only [yKu] at hb0
   rw [if_neg hb0, yKe] at hl1
   rw [hl1]
   try (refine wg ?_; try refine sM fun K hK => ?_)
   exact wkZ
 ·try (refine wg ?_; try refine sM fun K hK => ?_)
  refine zJ (fun j : Nat => ⟨118, 1 + 64 * 1, [(0, true, .box 0 0), (4, true, .elt e.av 0), (6, true, .elt (yY m e).av 0), (81, true, lA 10 zM.av e.replies), (82, true, .raw (.int .i64 e.replies.length)), (83, true, .raw (.int .i64 j))], [yD m (l1 ++ (List.range j).flatMap (j4 m e)).length], [qL (l1 ++ (List.range j).flatMap (j4 m e))], ((0, []), [], true)⟩)
   (fun j => j ≤ e.replies.length) (fun j => e.replies.length - j) 0 ?_ (by omega) ?_
  ·simp only [List.range_zero, yMh, yKe]
   exact wkZ
  ·intro j hj
   rcases yIq j e.replies.length with hlt | hge
   ·have hsn : l1 ++ (List.range (j + 1)).flatMap (j4 m e) = (l1 ++ (List.range j).flatMap (j4 m e)) ++ j4 m e j := by
     rw [yLc, yLd, yKx]; simp
    have hLl : (l1 ++ (List.range j).flatMap (j4 m e)).length ≤ 10000100000 := by
     have := zN8 m e j
     rw [yJ2]; omega
    have s1 : inD ((yY m e).sent.getD e.round.toNat 0) := hs _ (by omega)
    have u1 : inD (((yY m e).got.getD e.round.toNat default).getD j 0) := hu _ (zAn (by omega))
    have hay : j4 m e j = zAs m (e.replies.getD j default) (yY m e).rate (((yY m e).got.getD e.round.toNat default).getD j 0 - (yY m e).sent.getD e.round.toNat 0) e.at_ (e.at_ + 1 + 2 * j) := rfl
    have rg := fun L (hL : L.length ≤ 90000000000) => zY8 m h L hL (e.replies.getD j default) (hp _ (zAn hlt)) (yY m e).rate (((yY m e).got.getD e.round.toNat default).getD j 0 - (yY m e).sent.getD e.round.toNat 0) e.at_ (e.at_ + 1 + 2 * j) (by omega) (by omega) hau
    rw [← hay] at rg
    simp only [inD] at s1 u1
    have r4 := rg _ (show (l1 ++ (List.range j).flatMap (j4 m e)).length ≤ 90000000000 by omega)
    clear rg hay
    generalize l1 ++ (List.range j).flatMap (j4 m e) = L at *
    try (refine wg ?_; try refine sM fun K hK => ?_)
    refine zA ⟨_, evl, fun _ => ?_, fun hb => absurd (yMa hb) (by omega)⟩
    repeat (refine stG ?_)
    refine zD (fun K hK => ?_)
    iterate 6 (refine stG ?_)
    refine zX 1 obf ⟨_, evl, _, evl, ?_⟩
    refine zF (hK _ ?_); clear hK K
    repeat (refine stG ?_)
    refine xW true (by kernel_rfl) (by kernel_rfl) (fun K hK => ?_)
    repeat
     first
      | (refine zF (hK _ ?_); clear hK K)
      | refine stG ?_
      | (refine zS 1 rfl ?_; refine zG ?_)
      | (refine z7 ?_; first | (refine zK (hK _ ?_); clear hK K) | (refine zT rfl ⟨_, evl, fun nb' => ?_⟩))
      | refine zD (fun K hK => ?_)
      | (refine xD ?_; first | (refine zC false rfl (by kernel_rfl) (by kernel_rfl) (fun K hK => ?_)) | (refine zC true rfl (by kernel_rfl) (by kernel_rfl) (fun K hK => ?_)))
    refine jT 0 (bx1 := [yD m _]) r4 rfl rfl rfl ⟨yMf, AV.subL_free _ (zM.free _), trivial, trivial, trivial, trivial, trivial⟩ ⟨_, rfl, _, evl, obl, rfl, rfl, rfl, ?_⟩
    refine zAa rfl (zBc _ _) (fun h => by cases h) ?_
    refine zK (hK _ ?_); clear hK K
    try (first | refine wkM hK trivial ?_ | refine wkg trivial ?_)
    try clear hK K
    try refine sM fun K hK => ?_
    refine ⟨j + 1, by omega, by omega, ?_⟩
    rw [hsn]
    exact wkZ
   ·obtain rfl : j = e.replies.length := by omega
    try (refine wg ?_; try refine sM fun K hK => ?_)
    refine zA ⟨_, evl, fun hb => absurd (yLv hb) (by omega), fun _ => ?_⟩
    try (refine wg ?_; try refine sM fun K hK => ?_)
    refine ⟨⟨118, 1 + 64 * 1, [], [yD m (l1 ++ (List.range e.replies.length).flatMap (j4 m e)).length], [qL (l1 ++ (List.range e.replies.length).flatMap (j4 m e))], ((0, []), [], true)⟩, ?_, ?_⟩
    ·exact wkZ
    ·all_goals (refine yE (by simp) ⟨_, _, _, evl, obq, jB.bel ?_ obb, by simp, ?_, rfl, obb, zFw _⟩)
     all_goals first | rfl | (simp; done) | (simp_all; done) | (simp_all; omega) | skip
end Go.Proofs.YtchpbdecipcelaaGreatDoor
