import Derived.Test.YtchpbdecipcelaaGreatDoorMR01
import Derived.Test.YtchpbdecipcelaaGreatDoorMR22
import Derived.Test.YtchpbdecipcelaaGreatDoorMR47
namespace Go.Proofs.YtchpbdecipcelaaGreatDoor
set_option linter.unusedVariables false
set_option linter.unusedSimpArgs false
set_option maxHeartbeats 4000000
set_option maxRecDepth 100000
open Go.RowKit
theorem zM1 (m : zL) {w : Int} (h : w ≠ 0) : ∀ rs : List zN, wF m w rs = w
 | [] => rfl
 | r :: rs => by
  show wF m (orC w (v7 m r)) rs = w
  rw [show orC w (v7 m r) = w by unfold orC; rw [if_neg h]]
  exact zM1 m h rs
theorem zSe (m : zL) {w : Int} (h : w ≠ 0) : ∀ es : List yN, es.foldl (fun w e => wF m w e.replies) w = w
 | [] => rfl
 | e :: es => by
  rw [yL4, zM1 m h]
  exact zSe m h es
theorem yC8 {m : zL} {es pre : List yN} {e : yN} {j : Nat} {c : Int} (hp : (pre ++ [e]) <+: es) (h0 : wE m pre = 0) (hj : j < e.replies.length) (h1 : wF m 0 (e.replies.take j) = 0) (hc : v7 m (e.replies.getD j default) = c) (hn : c ≠ 0) : wE m es = c := by
 obtain ⟨t, rfl⟩ := hp
 have h2 : wF m 0 (e.replies.take (j + 1)) = c := by
  rw [zM0 m 0 e.replies hj, h1, hc]
  rfl
 have h3 : wF m 0 e.replies = c := by
  rw [← yNh (j + 1) e.replies]
  show (e.replies.take (j + 1) ++ e.replies.drop (j + 1)).foldl _ 0 = c
  rw [List.foldl_append]
  show wF m (wF m 0 (e.replies.take (j + 1))) (e.replies.drop (j + 1)) = c
  rw [h2, zM1 m hn]
 unfold wE
 rw [List.foldl_append, List.foldl_append, show pre.foldl (fun w e => wF m w e.replies) 0 = 0 from h0, yL4, List.foldl_nil, h3, zSe m hn]
theorem zUe {l : List wU} (h : x6 l) {host auth : Int} (h0 : ¬ vA (isW host auth) l < 0) : (Lk.linkBoundsM (l.getD (vA (isW host auth) l).toNat default).changes ⟨0, 3000000000000000⟩).2 = 0 := by
 obtain ⟨h1, h2⟩ := wC (isW host auth) l
 have hv := (h.1 (vA (isW host auth) l).toNat (by omega)).2.2.2
 unfold Lk.linkBoundsM
 rw [if_pos ⟨yO3 hv, by decide⟩]
theorem zLm {m : zL} (h : vW m) (r : zN) : v7 m r = if vA (isA r.auth) m.evidence.auths < 0 ∨ vA (isW r.host r.auth) m.wires < 0 then 4 else if (decide (ValidP m.evidence.keys) && decide (z9 r) && qW m.evidence.keys r) = true then 0 else 32 := by
 unfold v7 zCu wZ
 by_cases h1 : vA (isA r.auth) m.evidence.auths < 0
 ·rw [if_pos h1, if_neg (fun h => (by cases h.1)), if_pos (.inl h1)]
 ·by_cases h2 : vA (isW r.host r.auth) m.wires < 0
  ·rw [if_neg h1, if_pos h2, if_neg (fun h => (by cases h.2)), if_pos (.inr h2)]
  ·rw [if_neg h1, if_neg h2, if_pos ⟨rfl, by simp only [zUe h.2.2.2.1 h2]; rfl⟩]
   exact (if_neg fun h => h.elim h1 h2).symm
theorem zVy (m : zL) (ho : OkM m) (hf : vW m) : FnA Tryz.prog 38 [.agg m.av] (.raw (.int .i64 (wE m (evL m)))) := by
 have hfm := zL.free m
 have hs := vO hf ho
 have hcase := hf.2.2.2.2.2.2
 have hpre := fun {k j : Nat} => zVe m.evidence.chains (k := k) (j := j)
 have hwk := ho.wl
 have hal := ho.al
 rw [show (evM m.evidence.chains m.evidence.chains.length).1 = evL m from rfl] at hpre
 have hz0 : wE m (evM m.evidence.chains 0).1 = 0 := rfl
 have hend : wE m (evM m.evidence.chains m.evidence.chains.length).1 = wE m (evL m) := rfl
 generalize hW : wE m (evL m) = W at *
 refine en Tryz.func38 Tryz.ntmps38 [.tmp 2] rfl ?_
 try (refine wg ?_; try refine sM fun K hK => ?_)
 refine zF (fun i : Nat => ⟨78, 0, [(1, true, .box 0 0), (3, true, .raw (.int .i64 i))], [m.av], [], ((0, []), [], true)⟩)
  (fun i => i ≤ m.evidence.chains.length ∧ wE m (evM m.evidence.chains i).1 = 0) (fun i => m.evidence.chains.length - i) 0 ?_ ⟨by omega, hz0⟩ ?_
 ·exact wkZ
 rintro i ⟨hi, hz⟩
 rcases yKt i m.evidence.chains.length with hlt | hge
 ·obtain ⟨_, hchn, _⟩ := hcase i hlt
  obtain ⟨hr1, hr2⟩ := hs.r _ (w9 hlt)
  have hpr := fun {k : Nat} => hpre (k := i) (j := k) hlt
  have hsu : (evM m.evidence.chains (i + 1)).1 = (evM m.evidence.chains i).1 ++ (xM i (m.evidence.chains.getD i default).rounds (evM m.evidence.chains i).2 (m.evidence.chains.getD i default).rounds.length).1 := rfl
  have hfits := (ho.ch _ (w9 hlt)).2.2
  generalize (evM m.evidence.chains i).2 = A at *
  have h8 := hs.n
  clear hpre hcase hs
  try (refine wg ?_; try refine sM fun K hK => ?_)
  refine zA ⟨_, evl, fun _ => ?_, fun hb => absurd (yOc hb) (by omega)⟩
  try (refine wg ?_; try refine sM fun K hK => ?_)
  refine zF (fun k : Nat => ⟨78, 0, [(1, true, .box 0 0), (3, true, .raw (.int .i64 i)), (4, true, .box 1 0), (5, true, .raw (.int .i64 k))], [m.av, (m.evidence.chains.getD i default).av], [], ((0, []), [], true)⟩)
   (fun k => k ≤ (m.evidence.chains.getD i default).rounds.length ∧ wE m ((evM m.evidence.chains i).1 ++ (xM i (m.evidence.chains.getD i default).rounds A k).1) = 0) (fun k => (m.evidence.chains.getD i default).rounds.length - k) 0 ?_ ⟨by omega, by rw [show (xM i (m.evidence.chains.getD i default).rounds A 0).1 = [] from rfl, yMj]; exact hz⟩ ?_
  ·exact wkZ
  rintro k ⟨hk, hzk⟩
  rcases yKt k (m.evidence.chains.getD i default).rounds.length with hkl | hkg
  ·have hpk := hpr (k := k + 1) (by omega)
   have hsk : (xM i (m.evidence.chains.getD i default).rounds A (k + 1)).1 = (xM i (m.evidence.chains.getD i default).rounds A k).1 ++ [⟨i, k, (xM i (m.evidence.chains.getD i default).rounds A k).2, ((m.evidence.chains.getD i default).rounds.getD k default).replies⟩] := rfl
   rw [hsk, ← yN2] at hpk
   have hsn := zSd m ((evM m.evidence.chains i).1 ++ (xM i (m.evidence.chains.getD i default).rounds A k).1) ⟨i, k, (xM i (m.evidence.chains.getD i default).rounds A k).2, ((m.evidence.chains.getD i default).rounds.getD k default).replies⟩
   rw [yN2, ← hsk] at hsn
   generalize hE2 : (xM i (m.evidence.chains.getD i default).rounds A (k + 1)).1 = E2 at *
   generalize (evM m.evidence.chains i).1 ++ (xM i (m.evidence.chains.getD i default).rounds A k).1 = E1 at *
   generalize (xM i (m.evidence.chains.getD i default).rounds A k).2 = B at *
   have hrl := hr2 _ (w9 hkl)
   obtain ⟨_, hrf⟩ := hfits _ (w9 hkl)
   have hrP := zHt (hchn.2.2 k hkl)
   try (refine wg ?_; try refine sM fun K hK => ?_)
   refine zA ⟨_, evl, fun _ => ?_, fun hb => absurd (yOc hb) (by omega)⟩
   try (refine wg ?_; try refine sM fun K hK => ?_)
   refine zF (fun j : Nat => ⟨78, 0, [(1, true, .box 0 0), (3, true, .raw (.int .i64 i)), (4, true, .box 1 0), (5, true, .raw (.int .i64 k)), (6, true, .raw (.int .i64 j))], [m.av, (m.evidence.chains.getD i default).av], [], ((0, []), [], true)⟩)
    (fun j => j ≤ ((m.evidence.chains.getD i default).rounds.getD k default).replies.length ∧ wF m 0 (((m.evidence.chains.getD i default).rounds.getD k default).replies.take j) = 0) (fun j => ((m.evidence.chains.getD i default).rounds.getD k default).replies.length - j) 0 ?_ ⟨by omega, rfl⟩ ?_
   ·exact wkZ
   rintro j ⟨hj, hzj⟩
   rcases yKt j ((m.evidence.chains.getD i default).rounds.getD k default).replies.length with hjl | hjg
   ·have hhit := fun c => yC8 (c := c) hpk hzk hjl hzj
    rw [hW] at hhit
    have hnx := zM0 m 0 ((m.evidence.chains.getD i default).rounds.getD k default).replies hjl
    have hmem := w9 hjl
    have hfit := hrf _ hmem
    have hhost := (hchn.2.2 k hkl j hjl).2.2.1
    have hck := zLm hf ((((m.evidence.chains.getD i default).rounds.getD k default).replies).getD j default)
    have hfa := zPb m.evidence.auths hal ((((m.evidence.chains.getD i default).rounds.getD k default).replies).getD j default).auth
    have hfw := zVb m.wires hwk (m.evidence.chains.getD i default).host ((((m.evidence.chains.getD i default).rounds.getD k default).replies).getD j default).auth
    have hri := zTg m.evidence.keys ho.kl ho.kf _ hfit
    rw [hhost] at hck
    simp only at hhit
    clear hhost hrf hrP hpk hsn hchn hsu hpr hfits hr2 hend
    generalize hia : vA (isA ((((m.evidence.chains.getD i default).rounds.getD k default).replies).getD j default).auth) m.evidence.auths = ia at *
    generalize hiw : vA (isW (m.evidence.chains.getD i default).host ((((m.evidence.chains.getD i default).rounds.getD k default).replies).getD j default).auth) m.wires = iw at *
    generalize hrg : (decide (ValidP m.evidence.keys) && decide (z9 ((((m.evidence.chains.getD i default).rounds.getD k default).replies).getD j default)) && qW m.evidence.keys ((((m.evidence.chains.getD i default).rounds.getD k default).replies).getD j default)) = rg at *
    generalize (if ValidP m.evidence.keys ∧ z9 ((((m.evidence.chains.getD i default).rounds.getD k default).replies).getD j default) then (0 : Int) else 1) = er at *
    try (refine wg ?_; try refine sM fun K hK => ?_)
    refine zA ⟨_, evl, fun _ => ?_, fun hb => absurd (yOc hb) (by omega)⟩
    try (refine wkg (And.intro hfa hfw) ?_; try refine sM fun K hK => ?_)
    refine zA ⟨_, evl, fun hc => ?_, fun hc => ?_⟩
    ·simp only [yMy, yLr] at hc
     rw [hhit 4 (by rw [hck, if_pos hc]) (by decide)]
     try (refine wg ?_; try refine sM fun K hK => ?_)
     all_goals exact fA
    simp only [yN1, yMz] at hc
    rw [if_neg fun h => h.elim hc.1 hc.2] at hck
    try (refine wkg hri ?_; try refine sM fun K hK => ?_)
    refine zA ⟨_, evl, fun hc => ?_, fun hc => ?_⟩
    ·rw [yLs] at hc
     subst hc
     rw [hhit 32 (by rw [hck, if_neg (by simp)]) (by decide)]
     try (refine wg ?_; try refine sM fun K hK => ?_)
     all_goals exact fA
    ·rw [yMx] at hc
     subst hc
     try (refine wg ?_; try refine sM fun K hK => ?_)
     refine ⟨j + 1, ⟨by omega, ?_⟩, by omega, ?_⟩
     ·rw [hnx, hzj, hck, if_pos rfl]
      rfl
     ·exact wkZ
   ·obtain rfl : j = ((m.evidence.chains.getD i default).rounds.getD k default).replies.length := by omega
    rw [yNt] at hzj
    simp only [hzk, hzj] at hsn
    try (refine wg ?_; try refine sM fun K hK => ?_)
    refine zA ⟨_, evl, fun hb => absurd (yNw hb) (by omega), fun _ => ?_⟩
    try (refine wg ?_; try refine sM fun K hK => ?_)
    refine ⟨k + 1, ⟨by omega, by rw [hE2]; exact hsn⟩, by omega, ?_⟩
    exact wkZ
  ·obtain rfl : k = (m.evidence.chains.getD i default).rounds.length := by omega
   rw [← hsu] at hzk
   try (refine wg ?_; try refine sM fun K hK => ?_)
   refine zA ⟨_, evl, fun hb => absurd (yNw hb) (by omega), fun _ => ?_⟩
   try (refine wg ?_; try refine sM fun K hK => ?_)
   refine ⟨i + 1, ⟨by omega, hzk⟩, by omega, ?_⟩
   exact wkZ
 ·obtain rfl : i = m.evidence.chains.length := by omega
  obtain rfl : W = 0 := by rw [← hz, hend]
  try (refine wg ?_; try refine sM fun K hK => ?_)
  refine zA ⟨_, evl, fun hb => absurd (yNw hb) (by omega), fun _ => ?_⟩
  try (refine wg ?_; try refine sM fun K hK => ?_)
  all_goals exact fA
theorem zJ4 {l : List qV} {n : Nat} (h : ∀ i, i < n → qT l i) : ∀ i, i < n → (i : Int) + 1 ≤ (l.getD i default).id
 | 0, hi => by
  have := (h 0 hi).1.1
  rw [show zC7 l 0 = 0 from rfl] at this
  omega
 | i + 1, hi => by
  have h1 := zJ4 h i (by omega)
  have := (h (i + 1) hi).1.1
  rw [show zC7 l (i + 1) = (l.getD i default).id from rfl] at this
  omega
theorem zW5 {l : List qV} (h : qS l) : l.length ≤ 16 := by
 rcases yLj l.length with h0 | h0
 ·omega
 ·have h1 := zJ4 h (l.length - 1) (by omega)
  have h2 := (h (l.length - 1) (by omega)).1.2
  omega
theorem zV1 (m : zL) (ho : OkM m) : FnA Tryz.prog 36 [.agg m.av] (.raw (.bool (decide (vW m)))) := by
 have hfm := zL.free m
 obtain ⟨f1, f2, f3, f4, f5⟩ := zDl m
 have hk := validR_A m.evidence.keys ho.kf
 have hw := zWn m.wires ho.wl ho.wc
 have hno : ¬ vW m → decide (vW m) = false := yO4
 have hyes : vW m → decide (vW m) = true := yO3
 have hF : vW m ↔ ValidP m.evidence.keys ∧ qS m.evidence.auths ∧ (0 ≤ m.evidence.f ∧ m.evidence.f ≤ 5) ∧ x6 m.wires ∧ m.evidence.chains.length ≤ 8 ∧ m.diaries.length = m.evidence.chains.length ∧ ∀ i, i < m.evidence.chains.length → zEb m i := Iff.rfl
 generalize decide (vW m) = res at *
 generalize hzk : decide (ValidP m.evidence.keys) = zk at *
 generalize hzw : decide (x6 m.wires) = zw at *
 refine en Tryz.func36 Tryz.ntmps36 [.tmp 2] rfl ?_
 try (refine wkg (And.intro hk hw) ?_; try refine sM fun K hK => ?_)
 refine zA ⟨_, evl, fun hc => ?_, fun hc => ?_⟩
 ·have e : res = false := hno fun h => by
   obtain ⟨a1, a2, a3, a4, a5, a6, _⟩ := hF.1 h
   have a7 := zW5 a2
   rw [yO3 a1] at hzk
   rw [yO3 a4] at hzw
   subst hzk
   subst hzw
   simp only [yMy, yMl, yM7, false_or, yLs, yMz, yLr] at hc
   omega
  rw [e]
  clear hno hyes hF
  try (refine wg ?_; try refine sM fun K hK => ?_)
  all_goals exact fA
 simp only [yN1, yMx, yLr, yMz] at hc
 obtain ⟨⟨⟨⟨⟨⟨rfl, rfl⟩, c3⟩, c4⟩, c5⟩, c6⟩, c7⟩ := hc
 have hzk := yNw hzk
 have hzw := yNw hzw
 try (refine wg ?_; try refine sM fun K hK => ?_)
 refine zF (fun k : Nat => ⟨140, 0, [(1, true, .box 0 0), (3, true, .box 1 0), (6, true, .raw (.int .i64 k))], [m.av, m.evidence.av], [], ((0, []), [], true)⟩)
  (fun k => k ≤ m.evidence.auths.length ∧ ∀ i, i < k → qT m.evidence.auths i) (fun k => m.evidence.auths.length - k) 0 ?_ ⟨by omega, fun i h => by omega⟩ ?_
 ·exact wkZ
 rintro k ⟨hkl, hall⟩
 rcases yKt k m.evidence.auths.length with hlt | hge
 ·have hau := zYr (m.evidence.auths.getD k default)
  have hge := zJ4 hall
  have hok : qT m.evidence.auths k ↔ (zC7 m.evidence.auths k < (m.evidence.auths.getD k default).id ∧ (m.evidence.auths.getD k default).id ≤ 16) ∧ 0 ≤ (m.evidence.auths.getD k default).err ∧ (m.evidence.auths.getD k default).err ≤ 1000000 := Iff.rfl
  have hpa : zJ6 (m.evidence.auths.getD k default) ↔ (1 ≤ (m.evidence.auths.getD k default).id ∧ (m.evidence.auths.getD k default).id ≤ 16) ∧ 0 ≤ (m.evidence.auths.getD k default).err ∧ (m.evidence.auths.getD k default).err ≤ 1000000 := Iff.rfl
  have hpv : zC7 m.evidence.auths k = if k = 0 then 0 else (m.evidence.auths.getD (k - 1) default).id := rfl
  have hnoA := fun h : ¬ qT m.evidence.auths k => hno fun hd => h ((hF.1 hd).2.1 k hlt)
  have hix : 0 < k → (((k : Int) - 1).toNat) = k - 1 := fun h => by omega
  generalize hza : decide (zJ6 (m.evidence.auths.getD k default)) = za at *
  clear hno hyes hF
  try (refine wg ?_; try refine sM fun K hK => ?_)
  refine zA ⟨_, evl, fun _ => ?_, fun hb => absurd (yOc hb) (by omega)⟩
  try (refine wkg hau ?_; try refine sM fun K hK => ?_)
  refine zA ⟨_, evl, fun hc => ?_, fun hc => ?_⟩
  ·have e : res = false := hnoA fun h => by
    have h' := hok.1 h
    rw [hpv] at h'
    simp only [yMy, yLq, yLs, yLr] at hc
    rcases hc with hc | ⟨h0, hc⟩
    ·refine yOc (hza.trans hc) (hpa.2 ⟨⟨?_, h'.1.2⟩, h'.2⟩)
     rcases yLj k with rfl | h0
     ·rw [if_pos rfl] at h'
      omega
     ·rw [if_neg (by omega)] at h'
      have := hge (k - 1) (by omega)
      omega
    ·rw [hix (by omega)] at hc
     rw [if_neg (by omega)] at h'
     omega
   rw [e]
   clear hnoA hall hge hok hpa hpv
   try (refine wg ?_; try refine sM fun K hK => ?_)
   all_goals exact fA
  ·simp only [yN1, yN0, yMx, yLr, yMz] at hc
   obtain ⟨rfl, hc⟩ := hc
   have hza := hpa.1 (yNw hza)
   have hnew : qT m.evidence.auths k := hok.2 ⟨⟨by
    rw [hpv]
    split
    ·omega
    ·rw [hix (by omega)] at hc
     omega, hza.1.2⟩, hza.2⟩
   clear hnoA hge hok hpa hpv hc
   try (refine wg ?_; try refine sM fun K hK => ?_)
   refine ⟨k + 1, ⟨by omega, fun i hi => ?_⟩, by omega, ?_⟩
   ·rcases yNv.1 hi with h | rfl
    ·exact hall i h
    ·exact hnew
   ·exact wkZ
 ·obtain rfl : k = m.evidence.auths.length := by omega
  have hall : qS m.evidence.auths := hall
  try (refine wg ?_; try refine sM fun K hK => ?_)
  refine zA ⟨_, evl, fun hb => absurd (yNw hb) (by omega), fun _ => ?_⟩
  try (refine wg ?_; try refine sM fun K hK => ?_)
  refine zF (fun k : Nat => ⟨140, 0, [(1, true, .box 0 0), (3, true, .box 1 0), (8, true, .raw (.int .i64 k))], [m.av, m.evidence.av], [], ((0, []), [], true)⟩)
   (fun k => k ≤ m.evidence.chains.length ∧ ∀ i, i < k → zEb m i) (fun k => m.evidence.chains.length - k) 0 ?_ ⟨by omega, fun i h => by omega⟩ ?_
  ·exact wkZ
  rintro k ⟨hkl, hallc⟩
  rcases yKt k m.evidence.chains.length with hlt | hge
  ·have hdl : k < m.diaries.length := by omega
   obtain ⟨q1, q2, q3⟩ := ho.ch _ (w9 hlt)
   obtain ⟨q4, q5⟩ := ho.di _ (w9 hdl)
   have hv := zSf (m.evidence.chains.getD k default) q1 q2 q3
   have hd := zVp (m.evidence.chains.getD k default) (m.diaries.getD k default) q4 q5
   have hok : zEb m k ↔ jK m.evidence.chains k < (m.evidence.chains.getD k default).host ∧ vE (m.evidence.chains.getD k default) ∧ v6 (m.evidence.chains.getD k default) (m.diaries.getD k default) := Iff.rfl
   have hpv : jK m.evidence.chains k = if k = 0 then 0 else (m.evidence.chains.getD (k - 1) default).host := rfl
   have hch : vE (m.evidence.chains.getD k default) → 1 ≤ (m.evidence.chains.getD k default).host := fun h => h.1.1
   have hnoA := fun h : ¬ zEb m k => hno fun hd => h ((hF.1 hd).2.2.2.2.2.2 k hlt)
   have hix : 0 < k → (((k : Int) - 1).toNat) = k - 1 := fun h => by omega
   have g1 := xA.free (m.evidence.chains.getD k default)
   have g2 := vS.free (m.diaries.getD k default)
   generalize hzc : decide (vE (m.evidence.chains.getD k default)) = zc at *
   generalize hzd : decide (v6 (m.evidence.chains.getD k default) (m.diaries.getD k default)) = zd at *
   clear hno hyes hF q3 q5
   try (refine wg ?_; try refine sM fun K hK => ?_)
   refine zA ⟨_, evl, fun _ => ?_, fun hb => absurd (yOc hb) (by omega)⟩
   try (refine wkg (And.intro hv hd) ?_; try refine sM fun K hK => ?_)
   refine zA ⟨_, evl, fun hc => ?_, fun hc => ?_⟩
   ·have e : res = false := hnoA fun h => by
     obtain ⟨h1, h2, h3⟩ := hok.1 h
     rw [yO3 h2] at hzc
     rw [yO3 h3] at hzd
     subst hzc
     subst hzd
     rw [hpv] at h1
     simp only [Bool.and_self, yMy, yLq, yMl, yM7, false_or, yLr] at hc
     obtain ⟨h0, hc⟩ := hc
     rw [hix (by omega)] at hc
     rw [if_neg (by omega)] at h1
     omega
    rw [e]
    clear hnoA hallc hok hpv
    try (refine wg ?_; try refine sM fun K hK => ?_)
    all_goals exact fA
   ·simp only [yN1, yN0, yMx, yLq, yLr, yMz] at hc
    obtain ⟨⟨rfl, rfl⟩, hc⟩ := hc
    have hzc := yNw hzc
    have hnew : zEb m k := hok.2 ⟨by
     have := hch hzc
     rw [hpv]
     split
     ·omega
     ·rw [hix (by omega)] at hc
      omega, hzc, yNw hzd⟩
    clear hnoA hok hpv hc
    try (refine wg ?_; try refine sM fun K hK => ?_)
    refine ⟨k + 1, ⟨by omega, fun i hi => ?_⟩, by omega, ?_⟩
    ·rcases yNv.1 hi with h | rfl
     ·exact hallc i h
     ·exact hnew
    ·exact wkZ
  ·obtain rfl : k = m.evidence.chains.length := by omega
   rw [hyes (hF.2 ⟨hzk, hall, by omega, hzw, by omega, by omega, hallc⟩)]
   clear hno hyes hF
   try (refine wg ?_; try refine sM fun K hK => ?_)
   refine zA ⟨_, evl, fun hb => absurd (yNw hb) (by omega), fun _ => ?_⟩
   try (refine wg ?_; try refine sM fun K hK => ?_)
   all_goals exact fA
theorem zYk (a b lo hi : Int) (hr : IntKind.i64.wrap (-lo) = -lo) (who : List zB) : FnG Tryz.prog 39 [.raw (.int .i64 a), .raw (.int .i64 b), .raw (.int .i64 lo), .raw (.int .i64 hi), lA 2 zB.av who] [] [] (.row 0 2) [] [vL (zQ a b ⟨lo, hi⟩ who)] := by
 have hfw : (lA 2 zB.av who).free := zC (fun z => zB.free z) _
 refine enG Tryz.func39 Tryz.ntmps39 [.tmp 10] 0 rfl ?_
 refine zAj ?_
 try (refine wkR trivial ?_; try refine sM fun K hK => ?_)
 refine ⟨⟨23, 0, [(10, true, .row 0 2)], [], [vL (zQ a b ⟨lo, hi⟩ who)], ((0, []), [], true)⟩, ?_, ?_⟩
 ·refine wkn ?_ ?_ ?_
  all_goals first | exact wk0 | refine wkS ?_ | skip
  all_goals (try trivial)
  all_goals ((repeat' apply And.intro) <;> first | exact wkL | skip)
  exact fun q hq => z8.of_eq (yA (enc := zH.av) (l := zQ a b ⟨lo, hi⟩ who) (fun _ => rfl) rfl hq)
 ·all_goals (refine yG (by simp) ⟨_, _, _, evl, obq, jD.bel ?_ obb, by simp, ?_, rfl, obb, zEc _⟩)
  all_goals first | rfl | (simp; done) | (simp_all; done) | (simp_all; omega) | skip
theorem zMw (m : zL) (ho : OkM m) (hau : qS m.evidence.auths) (r : zN) (hr : z9 r) (hA : ¬ vA (isA r.auth) m.evidence.auths < 0) (hW : ¬ vA (isW r.host r.auth) m.wires < 0) (rate count s t : Int) :
  FnA Tryz.prog 41 [.agg m.av, .agg r.av, .raw (.int .i64 rate), .raw (.int .i64 count), .raw (.int .i64 s), .raw (.int .i64 t), .raw (.int .i64 (t + 1))] (lA 4 zH.av (jZ m r rate count s t)) := by
 have hfm := zL.free m
 obtain ⟨f1, f2, f3, f4, f5⟩ := zDl m
 have hn : ∀ x : Int, -3000000000000000 ≤ x ∧ x ≤ 3000000000000000 → IntKind.i64.wrap (-x) = -x := fun x hx => yX (k := .i64) (by simp only [inK]; omega)
 obtain ⟨_, ⟨p1, p2, p3⟩, _⟩ := id hr
 obtain ⟨⟨w1, w2, w3⟩, w4, w5, w6⟩ := zB6 m.wires r.host r.auth
 have hel := wD rate count
 have hb1 := zYk 0 t r.stamp.lo r.stamp.hi (hn _ (by omega)) [⟨1, r.auth⟩]
 have hb2 := zCt s t (wZ m.wires r.host r.auth).1.outLo (wZ m.wires r.host r.auth).1.outHi (hn _ (by omega)) [⟨3, 0⟩]
 have hb3 := zCt t (t + 1) (wZ m.wires r.host r.auth).1.backLo (wZ m.wires r.host r.auth).1.backHi (hn _ (by omega)) [⟨3, 0⟩]
 have hb4 := zCt s (t + 1) (yL rate count).1.lo (yL rate count).1.hi (hn _ (by omega)) [⟨2, r.host⟩]
 have hf1 := zPb m.evidence.auths ho.al r.auth
 have hf2 := zVb m.wires ho.wl r.host r.auth
 have hee := zHy rate count
 obtain ⟨i1, i2⟩ := wC (isA r.auth) m.evidence.auths
 obtain ⟨i3, i4⟩ := wC (isW r.host r.auth) m.wires
 have ha1 : (zCu m.evidence.auths r.auth).1 = m.evidence.auths.getD (vA (isA r.auth) m.evidence.auths).toNat default := by unfold zCu; rw [if_neg hA]
 have hw1 : (wZ m.wires r.host r.auth).1 = (Lk.linkBoundsM (m.wires.getD (vA (isW r.host r.auth) m.wires).toNat default).changes ⟨0, 3000000000000000⟩).1 := by unfold wZ; rw [if_neg hW]
 have hlb := zR6 (m.wires.getD (vA (isW r.host r.auth) m.wires).toNat default).changes ⟨0, 3000000000000000⟩ (ho.wc _ (w9 (by omega)))
 have hae := zLs hau r.auth
 have hRL : jZ m r rate count s t = zQ 0 t ⟨r.stamp.lo, r.stamp.hi⟩ [⟨1, r.auth⟩] ++ (if 2 * (zCu m.evidence.auths r.auth).1.err < r.stamp.hi - r.stamp.lo then [⟨0, 0, -1, [⟨1, r.auth⟩]⟩] else []) ++
  zQ s t ⟨(wZ m.wires r.host r.auth).1.outLo, (wZ m.wires r.host r.auth).1.outHi⟩ [⟨3, 0⟩] ++ zQ t (t + 1) ⟨(wZ m.wires r.host r.auth).1.backLo, (wZ m.wires r.host r.auth).1.backHi⟩ [⟨3, 0⟩] ++
  zQ s (t + 1) (yL rate count).1 [⟨2, r.host⟩] := rfl
 rw [hRL]
 clear hRL
 rw [ha1] at hae ⊢
 generalize vA (isA r.auth) m.evidence.auths = qa at *
 generalize vA (isW r.host r.auth) m.wires = qw at *
 generalize (Lk.linkBoundsM (m.wires.getD qw.toNat default).changes ⟨0, 3000000000000000⟩).2 = le at *
 generalize (Lk.linkBoundsM (m.wires.getD qw.toNat default).changes ⟨0, 3000000000000000⟩).1 = lc at *
 rw [hw1] at w1 w2 w3 w4 w5 w6 hb2 hb3 ⊢
 clear hw1 ha1
 generalize (yL rate count).2 = xe at *
 generalize (yL rate count).1 = x at *
 refine en Tryz.func41 Tryz.ntmps41 [.tmp 14] rfl ?_
 try (first | refine wkM hK trivial ?_ | refine wkg trivial ?_)
 try clear hK K
 try refine sM fun K hK => ?_
 refine xX (xE.slot 15 evl (Sim.lstE rfl (zS1 ⟨1, r.auth⟩)).s) ?_
 refine xX (xE.slot 16 evl (Sim.lstE rfl (zS1 ⟨3, 0⟩)).s) ?_
 refine xX (xE.slot 17 evl (Sim.lstE rfl (zS1 ⟨2, r.host⟩)).s) ?_
 refine xX (xE.slot 41 evl (Sim.lstE rfl (zS1 ⟨1, r.auth⟩)).s) ?_
 refine xW [] [] hb1 rfl rfl rfl ⟨_, evl, _, evl, _, evl, obl, by decide, by decide, hlT, hlT, zWv, .row 0 2, rfl, _, evl, [vL (zQ 0 t ⟨r.stamp.lo, r.stamp.hi⟩ [⟨1, r.auth⟩])], rfl, ?_⟩
 try (first | refine wkN hK hf1 ?_ | refine wkR hf1 ?_)
 try clear hK K
 try refine sM fun K hK => ?_
 generalize hR1 : zQ 0 t ⟨r.stamp.lo, r.stamp.hi⟩ [⟨1, r.auth⟩] ++ (if 2 * (m.evidence.auths.getD qa.toNat default).err < r.stamp.hi - r.stamp.lo then [⟨0, 0, -1, [⟨1, r.auth⟩]⟩] else []) = R1
 have hl1 : R1.length ≤ 3 := by
  rw [← hR1, yL5]
  split <;> simp [zQ]
 refine zBw ⟨123, 0, [(2, true, .raw (.int .i64 rate)), (3, true, .raw (.int .i64 count)), (4, true, .raw (.int .i64 s)), (5, true, .raw (.int .i64 t)), (6, true, .raw (.int .i64 (t + 1))), (7, true, .box 0 0), (8, true, .box 1 0), (16, true, lA 2 zB.av [⟨3, 0⟩]), (17, true, lA 2 zB.av [⟨2, r.host⟩]), (18, true, .row 0 R1.length)], [m.av, r.av], [vL R1], ((0, []), [], true)⟩ ?_ ?_
 ·refine zA ⟨_, evl, fun hc => ?_, fun hc => ?_⟩
  ·rw [if_pos (yNw hc)] at hR1
   subst hR1
   try (refine wkR trivial ?_; try refine sM fun K hK => ?_)
   exact wkZ
  ·rw [if_neg (yOc hc), yMj] at hR1
   subst hR1
   try (refine wkR trivial ?_; try refine sM fun K hK => ?_)
   exact wkZ
 ·clear hR1
  have hfB : ∀ B : List zH, (lA 4 zH.av B).free := fun B => zC (fun y => zH.free y) _
  have q2 : (zQ s t ⟨lc.outLo, lc.outHi⟩ [⟨3, 0⟩]).length = 2 := rfl
  have q3 : (zQ t (t + 1) ⟨lc.backLo, lc.backHi⟩ [⟨3, 0⟩]).length = 2 := rfl
  have q4 : (zQ s (t + 1) ⟨x.lo, x.hi⟩ [⟨2, r.host⟩]).length = 2 := rfl
  rw [show zQ s (t + 1) x [⟨2, r.host⟩] = zQ s (t + 1) ⟨x.lo, x.hi⟩ [⟨2, r.host⟩] from rfl]
  generalize zQ s t ⟨lc.outLo, lc.outHi⟩ [⟨3, 0⟩] = B2 at *
  generalize zQ t (t + 1) ⟨lc.backLo, lc.backHi⟩ [⟨3, 0⟩] = B3 at *
  generalize zQ s (t + 1) ⟨x.lo, x.hi⟩ [⟨2, r.host⟩] = B4 at *
  have fB2 := hfB B2
  have fB3 := hfB B3
  have fB4 := hfB B4
  try (refine wkR (And.intro hf2 (And.intro hlb (And.intro hb2 (And.intro hb3 (And.intro hb4 hee))))) ?_; try refine sM fun K hK => ?_)
  refine zM (by simp) ⟨_, _, _, evl, ob0, zV.sims ?_ (hfB _)⟩
  exact z5.row (el := els zH.av (R1 ++ B2 ++ B3 ++ B4)) (m := (R1 ++ B2 ++ B3 ++ B4).length) rfl rfl rfl (by simp; omega) fun i hi => xR (by simp; omega) (xR (by simp) (xR rfl (fun i hi => rfl) fun i hi => rfl) fun i hi => rfl) (fun i hi => rfl) i (by simp at hi; omega)
end Go.Proofs.YtchpbdecipcelaaGreatDoor
