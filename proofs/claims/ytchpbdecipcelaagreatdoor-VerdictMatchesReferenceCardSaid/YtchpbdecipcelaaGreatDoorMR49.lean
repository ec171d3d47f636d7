import Derived.Test.YtchpbdecipcelaaGreatDoorMR01
import Derived.Test.YtchpbdecipcelaaGreatDoorMR46
import Derived.Test.YtchpbdecipcelaaGreatDoorMR48
namespace Go.Proofs.YtchpbdecipcelaaGreatDoor
set_option linter.unusedVariables false
set_option linter.unusedSimpArgs false
set_option maxHeartbeats 4000000
set_option maxRecDepth 100000
open Go.RowKit
theorem zSc {m : zL} : ∀ {rs : List zN} {w : Int}, wF m w rs = 0 → w = 0 ∧ ∀ x ∈ rs, v7 m x = 0
 | [], w, h => ⟨h, fun x hx => by cases hx⟩
 | r :: rs, w, h => by
  obtain ⟨h1, h2⟩ := zSc (rs := rs) (w := orC w (v7 m r)) h
  unfold orC at h1
  split at h1
  ·rename_i hw
   exact ⟨hw, yMn.2 ⟨h1, h2⟩⟩
  ·rename_i hw
   exact absurd h1 hw
theorem zO1 {m : zL} : ∀ {es : List yN} {w : Int}, es.foldl (fun w e => wF m w e.replies) w = 0 → w = 0 ∧ ∀ e ∈ es, ∀ x ∈ e.replies, v7 m x = 0
 | [], w, h => ⟨h, fun x hx => by cases hx⟩
 | e :: es, w, h => by
  obtain ⟨h1, h2⟩ := zO1 (es := es) h
  obtain ⟨h3, h4⟩ := zSc h1
  exact ⟨h3, yMn.2 ⟨h4, h2⟩⟩
theorem zZl {m : zL} {es : List yN} (h : wE m es = 0) : ∀ e ∈ es, ∀ x ∈ e.replies, v7 m x = 0 := (zO1 h).2
theorem zNn {m : zL} (h : vW m) {r : zN} (hc : v7 m r = 0) : ¬ vA (isA r.auth) m.evidence.auths < 0 ∧ ¬ vA (isW r.host r.auth) m.wires < 0 := by
 rw [zLm h] at hc
 by_cases h1 : vA (isA r.auth) m.evidence.auths < 0 ∨ vA (isW r.host r.auth) m.wires < 0
 ·rw [if_pos h1] at hc
  cases hc
 ·exact ⟨fun h => h1 (.inl h), fun h => h1 (.inr h)⟩
def upR (m : zL) (es : List yN) : List zH := (xZ m es (xC (evN m - 1).toNat, ev0)).1
theorem zZm {m : zL} (h : vW m) (hn : evN m ≤ 1000) {es : List yN} (hp : es <+: evL m) : (upR m es).length ≤ 20002000 := by
 have hl : ∀ e ∈ es, e.replies.length ≤ 1000 := fun e he => (zEu h hn (hp.subset he)).l
 have h1 := zG2 m (xC (evN m - 1).toNat, ev0) (by simp [ev0]) es hl
 have h2 := zJ0 m.evidence.chains m.evidence.chains.length
 have h3 := hp.length_le
 rw [show (evM m.evidence.chains m.evidence.chains.length).1 = evL m from rfl, show (evM m.evidence.chains m.evidence.chains.length).2 = evN m from rfl] at h2
 simp only [zAu] at h1
 have : (upR m es).length = (xZ m es (xC (evN m - 1).toNat, ev0)).1.length := rfl
 have h4 : 20000 * es.length ≤ 20000 * 1000 := Nat.mul_le_mul_left _ (by omega)
 omega
theorem zWq (m : zL) (es : List yN) (e b : yN) : upR m (es ++ [b] ++ [e]) = upR m (es ++ [b]) ++ roundL m e b := by
 unfold upR
 rw [vP, vP]
theorem zSi (m : zL) (es : List yN) (e : yN) (h : e.round = 0) : upR m (es ++ [e]) = upR m es ++ (List.range e.replies.length).flatMap (w7 m e) := by
 unfold upR
 rw [vP]
 simp only [roundL, h]
 rfl
set_option maxHeartbeats 8000000 in
theorem zNs (m : zL) (ho : OkM m) : FnA Tryz.prog 13 [.agg m.av] (.tup [lA 4 zH.av (zT m).1, .raw (.int .i64 (zT m).2.1), .raw (.int .i64 (zT m).2.2)]) := by
 have hfm := zL.free m
 have h1 := zV1 m ho
 unfold zT
 by_cases hf : vW m
 case neg =>
  rw [if_pos hf]
  rw [yO4 hf] at h1
  refine en Tryz.func13 Tryz.ntmps13 [.tmp 2, .tmp 3, .tmp 4] rfl ?_
  try (refine wkg h1 ?_; try refine sM fun K hK => ?_)
  refine zA ⟨_, evl, fun _ => ?_, fun hb => absurd hb (by simp)⟩
  try (refine wg ?_; try refine sM fun K hK => ?_)
  exact zM (by simp) ⟨_, _, _, evl, ob0, zDi _ _ _⟩
 rw [if_neg (not_not_intro hf)]
 rw [yO3 hf] at h1
 have h2 := zSn m (vO hf ho)
 by_cases hn : 1000 < evN m
 case pos =>
  rw [if_pos hn]
  generalize evN m = n at *
  refine en Tryz.func13 Tryz.ntmps13 [.tmp 2, .tmp 3, .tmp 4] rfl ?_
  try (refine wkg h1 ?_; try refine sM fun K hK => ?_)
  refine zA ⟨_, evl, fun hb => absurd hb (by simp), fun _ => ?_⟩
  try (refine wkg h2 ?_; try refine sM fun K hK => ?_)
  refine zA ⟨_, evl, fun _ => ?_, fun hb => absurd hn (yOc hb)⟩
  try (refine wg ?_; try refine sM fun K hK => ?_)
  exact zM (by simp) ⟨_, _, _, evl, ob0, zDi _ _ _⟩
 rw [if_neg hn]
 have h3 := zVy m ho hf
 by_cases hw : wE m (evL m) ≠ 0
 case pos =>
  rw [if_pos hw]
  generalize evN m = n at *
  generalize wE m (evL m) = w at *
  refine en Tryz.func13 Tryz.ntmps13 [.tmp 2, .tmp 3, .tmp 4] rfl ?_
  try (refine wkg h1 ?_; try refine sM fun K hK => ?_)
  refine zA ⟨_, evl, fun hb => absurd hb (by simp), fun _ => ?_⟩
  try (refine wkg h2 ?_; try refine sM fun K hK => ?_)
  refine zA ⟨_, evl, fun hb => absurd (yNw hb) hn, fun _ => ?_⟩
  try (refine wkg h3 ?_; try refine sM fun K hK => ?_)
  refine zA ⟨_, evl, fun _ => ?_, fun hb => absurd hb (by simpa using hw)⟩
  try (refine wg ?_; try refine sM fun K hK => ?_)
  exact zM (by simp) ⟨_, _, _, evl, ob0, zDi _ _ _⟩
 rw [if_neg hw]
 have hw : wE m (evL m) = 0 := yNo.1 hw
 rw [hw] at h3
 have hzero := zZl hw
 have hpos := zVg m
 have hall : yKd m = upR m (evL m) := rfl
 have hulen := fun es => zZm (es := es) hf (by omega)
 have hu0 : upR m [] = xC (evN m - 1).toNat := rfl
 have hpre := fun {k j : Nat} => zVe m.evidence.chains (k := k) (j := j)
 rw [show (evM m.evidence.chains m.evidence.chains.length).1 = evL m from rfl] at hpre
 have hfull : (evM m.evidence.chains m.evidence.chains.length).1 = evL m := rfl
 have hevs := fun {e : yN} (he : e ∈ evL m) => zEu hf (by omega) he
 have hat := fun {e : yN} (he : e ∈ evL m) => zY7 he
 have hsm := vO hf ho
 rw [hall]
 clear hall hw
 generalize hN : evN m = n at *
 obtain ⟨N, rfl⟩ : ∃ N : Nat, n = (N : Int) + 1 := ⟨(n - 1).toNat, by omega⟩
 rw [show ((N : Int) + 1 - 1).toNat = N by omega] at hu0
 refine en Tryz.func13 Tryz.ntmps13 [.tmp 2, .tmp 3, .tmp 4] rfl ?_
 try (refine wkg h1 ?_; try refine sM fun K hK => ?_)
 refine zA ⟨_, evl, fun hb => absurd hb (by simp), fun _ => ?_⟩
 try (refine wkg h2 ?_; try refine sM fun K hK => ?_)
 refine zA ⟨_, evl, fun hb => absurd (yNw hb) hn, fun _ => ?_⟩
 try (refine wkg h3 ?_; try refine sM fun K hK => ?_)
 refine zA ⟨_, evl, fun hb => absurd hb (by simp), fun _ => ?_⟩
 try (refine wg ?_; try refine sM fun K hK => ?_)
 refine yP (xE.nilRow 8 36 4 rfl) ?_
 clear h1 h2 h3
 refine zF (fun k : Nat => ⟨190, 0, [(1, true, .box 0 0), (6, true, .raw (.int .i64 ((N : Int) + 1))), (8, true, .row 0 (xC k).length), (9, true, .raw (.int .i64 ((k : Int) + 1)))], [m.av], [vL (xC k)], ((0, []), [], true)⟩)
  (fun k => k ≤ N) (fun k => N - k) 0 ?_ (by omega) ?_
 ·exact wkZ
 intro k hk
 rcases yKt k N with hlt | hge
 ·have hb := zCt 0 ((k : Int) + 1) 0 3000000000000000 rfl []
  have hbl := zAu k
  have hs := zGi k
  generalize zQ 0 ((k : Int) + 1) ⟨0, 3000000000000000⟩ [] = B at *
  have hfB : (lA 4 zH.av B).free := zC (fun y => zH.free y) _
  have hB2 : B.length = 2 := by
   have := zAu (k + 1)
   rw [hs, yL5] at this
   omega
  generalize xC k = R at *
  have hfR : ∀ q, AV.freeL (els zH.av R q) := fun q => zH.free _
  try (refine wg ?_; try refine sM fun K hK => ?_)
  refine zA ⟨_, evl, fun _ => ?_, fun hb => absurd (yOc hb) (by omega)⟩
  repeat
   first
    | (refine zG (hK _ ?_); clear hK K)
    | refine stR ?_
    | (refine yJ 1 rfl ?_; first | (refine zR rfl rfl ⟨_, evl, _, _, _, evl, yR, ?_⟩; apply Exists.intro; refine ⟨fun hg => ?_, ?_⟩; · first | exact FnA.sim hb ⟨Sim.refl _, Sim.refl _, Sim.refl _, Sim.refl _, Sim.nil rfl, trivial⟩ ) | (refine xB rfl rfl ⟨_, evl, _, _, _, evl, _, _, evl, yR, ?_⟩; apply Exists.intro; refine ⟨fun hg => ?_, ?_⟩; · first | exact FnA.sim hb ⟨Sim.refl _, Sim.refl _, Sim.refl _, Sim.refl _, Sim.nil rfl, trivial⟩ ))
    | (refine zW 1 rfl ?_; refine zS rfl ⟨_, evl, _, _, _, (fun _ _ => vH), yR, ?_⟩; apply Exists.intro; refine ⟨fun hg => ?_, ?_⟩; · first | exact FnA.sim hb ⟨Sim.refl _, Sim.refl _, Sim.refl _, Sim.refl _, Sim.nil rfl, trivial⟩ )
    | (refine zW 1 rfl ?_; refine zJ ?_)
    | (refine yB ?_; first | (refine zP (hK _ ?_); clear hK K) | (refine zX rfl ⟨_, evl, fun nb' => ?_⟩))
    | refine zE (fun K hK => ?_)
    | (refine yZ ?_; first | (refine zD false rfl (by kernel_rfl) (by kernel_rfl) (fun K hK => ?_)) | (refine zD true rfl (by kernel_rfl) (by kernel_rfl) (fun K hK => ?_)))
  refine ⟨k + 1, by omega, by omega, ?_⟩
  rw [hs, yL5]
  refine wkn ?_ ?_ ?_
  all_goals first | exact wk0 | refine wkS ?_ | skip
  all_goals (try trivial)
  all_goals ((repeat' apply And.intro) <;> first | exact wkL | skip)
  exact fun q hq => z8.of_eq (yT rfl)
 ·obtain rfl : k = N := by omega
  rw [← hu0]
  have hmono := fun {i : Nat} (hi : i ≤ m.evidence.chains.length) => zIz m.evidence.chains hi
  rw [show (evM m.evidence.chains m.evidence.chains.length).2 = evN m from rfl, hN] at hmono
  try (refine wg ?_; try refine sM fun K hK => ?_)
  refine zA ⟨_, evl, fun hb => absurd (yNw hb) (by omega), fun _ => ?_⟩
  try (refine wg ?_; try refine sM fun K hK => ?_)
  refine zF (fun i : Nat => ⟨190, 0, [(1, true, .box 0 0), (6, true, .raw (.int .i64 ((k : Int) + 1))), (8, true, .row 0 (upR m (evM m.evidence.chains i).1).length), (10, true, .raw (.int .i64 (evM m.evidence.chains i).2)), (11, true, .raw (.int .i64 i))], [m.av], [vL (upR m (evM m.evidence.chains i).1)], ((0, []), [], true)⟩)
   (fun i => i ≤ m.evidence.chains.length) (fun i => m.evidence.chains.length - i) 0 ?_ (by omega) ?_
  ·rw [show (evM m.evidence.chains 0).1 = [] from rfl, show (evM m.evidence.chains 0).2 = 1 from rfl]
   exact wkZ
  intro i hi
  rcases yKt i m.evidence.chains.length with hlt | hge
  ·have hdl : i < m.diaries.length := by have := hf.2.2.2.2.2.1; omega
   obtain ⟨_, hch, hdi⟩ := hf.2.2.2.2.2.2 i hlt
   obtain ⟨g1, g2, g3, g4, g5, g6⟩ := hdi
   obtain ⟨hr1, hr2⟩ := hsm.r _ (w9 hlt)
   have hpr := fun {j : Nat} => hpre (k := i) (j := j) hlt
   have hsu1 : (evM m.evidence.chains (i + 1)).1 = (evM m.evidence.chains i).1 ++ (xM i (m.evidence.chains.getD i default).rounds (evM m.evidence.chains i).2 (m.evidence.chains.getD i default).rounds.length).1 := rfl
   have hsu2 : (evM m.evidence.chains (i + 1)).2 = (xM i (m.evidence.chains.getD i default).rounds (evM m.evidence.chains i).2 (m.evidence.chains.getD i default).rounds.length).2 := rfl
   have hmi := hmono (i := i) (by omega)
   have hge1 := (zHv hsm i (by omega)).1
   have hin := zG7 i (m.evidence.chains.getD i default).rounds (evM m.evidence.chains i).2 hr2
   have hfc := xA.free (m.evidence.chains.getD i default)
   have hfd := vS.free (m.diaries.getD i default)
   clear hmono hsm
   generalize (evM m.evidence.chains i).2 = A at *
   generalize hE0 : (evM m.evidence.chains i).1 = E0 at *
   generalize hS0 : upR m E0 = S0 at *
   try (refine wg ?_; try refine sM fun K hK => ?_)
   refine zA ⟨_, evl, fun _ => ?_, fun hb => absurd (yOc hb) (by omega)⟩
   try (refine wg ?_; try refine sM fun K hK => ?_)
   refine zF (fun q : Nat => ⟨190, 0, [(1, true, .box 0 0), (6, true, .raw (.int .i64 ((k : Int) + 1))), (8, true, .row 0 (upR m (E0 ++ (xM i (m.evidence.chains.getD i default).rounds A q).1)).length), (10, true, .raw (.int .i64 (xM i (m.evidence.chains.getD i default).rounds A q).2)), (11, true, .raw (.int .i64 i)), (12, true, .box 1 0), (13, true, .box 2 0), (14, true, .raw (.int .i64 (if q = 0 then 0 else (xM i (m.evidence.chains.getD i default).rounds A (q - 1)).2))), (15, true, .raw (.int .i64 q))], [m.av, (m.evidence.chains.getD i default).av, (m.diaries.getD i default).av], [vL (upR m (E0 ++ (xM i (m.evidence.chains.getD i default).rounds A q).1))], ((0, []), [], true)⟩)
    (fun q => q ≤ (m.evidence.chains.getD i default).rounds.length) (fun q => (m.evidence.chains.getD i default).rounds.length - q) 0 ?_ (by omega) ?_
   ·rw [show (xM i (m.evidence.chains.getD i default).rounds A 0).1 = [] from rfl, show (xM i (m.evidence.chains.getD i default).rounds A 0).2 = A from rfl, yMj, hS0]
    exact wkZ
   intro q hq
   rcases yKt q (m.evidence.chains.getD i default).rounds.length with hql | hqg
   ·generalize hB : (⟨i, ((q - 1 : Nat) : Int), (xM i (m.evidence.chains.getD i default).rounds A (q - 1)).2, ((m.evidence.chains.getD i default).rounds.getD (q - 1) default).replies⟩ : yN) = b
    generalize hE : (⟨i, q, (xM i (m.evidence.chains.getD i default).rounds A q).2, ((m.evidence.chains.getD i default).rounds.getD q default).replies⟩ : yN) = e
    have hev : (xM i (m.evidence.chains.getD i default).rounds A (q + 1)).1 = (xM i (m.evidence.chains.getD i default).rounds A q).1 ++ [e] := by rw [← hE]; rfl
    have hev2 : (xM i (m.evidence.chains.getD i default).rounds A (q + 1)).2 = (xM i (m.evidence.chains.getD i default).rounds A q).2 + (1 + 2 * (((m.evidence.chains.getD i default).rounds.getD q default).replies.length : Int)) := rfl
    have hprq := hpr (j := q + 1) (by omega)
    rw [hev, ← yN2] at hprq
    have hee : e ∈ evL m := hprq.subset (by simp)
    have hok := hevs hee
    have hate := hat hee
    have hR := hulen _ ((List.prefix_append _ _).trans hprq)
    have hch0 := hzero e hee
    have hd : y8 m e = m.diaries.getD i default := by rw [← hE]; rfl
    have hstep : upR m (E0 ++ (xM i (m.evidence.chains.getD i default).rounds A (q + 1)).1) = upR m (E0 ++ (xM i (m.evidence.chains.getD i default).rounds A q).1) ++ (if 0 < q then zRd m e b ++ (List.range b.replies.length).map (xY e b) else []) ++ (List.range e.replies.length).flatMap (w7 m e) := by
     rw [hev, ← yN2]
     rcases yLj q with rfl | h0
     ·rw [if_neg (by omega), yMj]
      exact zSi m _ e (by rw [← hE]; rfl)
     ·obtain ⟨p, rfl⟩ : ∃ p, q = p + 1 := ⟨q - 1, by omega⟩
      have hb2 : (xM i (m.evidence.chains.getD i default).rounds A (p + 1)).1 = (xM i (m.evidence.chains.getD i default).rounds A p).1 ++ [b] := by rw [← hB]; rfl
      rw [hb2, ← yN2, zWq, yN2 (upR m (E0 ++ (xM i (m.evidence.chains.getD i default).rounds A p).1 ++ [b]))]
      congr 1
      unfold roundL
      rw [if_pos (show 0 < e.round by rw [← hE]; simp only; omega), if_pos h0]
    have hbb : 0 < q → b ∈ evL m := fun h0 => by
     obtain ⟨p, rfl⟩ : ∃ p, q = p + 1 := ⟨q - 1, by omega⟩
     have hb2 : (xM i (m.evidence.chains.getD i default).rounds A (p + 1)).1 = (xM i (m.evidence.chains.getD i default).rounds A p).1 ++ [b] := by rw [← hB]; rfl
     exact (hpr (j := p + 1) (by omega)).subset (by rw [hb2]; simp)
    have hbat := fun h0 => hat (hbb h0)
    have hbl := fun h0 => (hevs (hbb h0)).l
    have hgap : 0 < q → zRd m e b = zQ b.at_ e.at_ ⟨(yL (m.diaries.getD i default).rate ((m.diaries.getD i default).sent.getD q default - (m.diaries.getD i default).sent.getD (q - 1) default)).1.lo, (yL (m.diaries.getD i default).rate ((m.diaries.getD i default).sent.getD q default - (m.diaries.getD i default).sent.getD (q - 1) default)).1.hi⟩ [⟨2, (m.evidence.chains.getD i default).host⟩] := fun h0 => by
     unfold zRd
     rw [hd, g1, ← hE]
     simp only [yLx]
     rw [show ((q : Int) - 1).toNat = q - 1 by omega]
    have hea : e.at_ = (xM i (m.evidence.chains.getD i default).rounds A q).2 := by rw [← hE]
    have her : e.replies = ((m.evidence.chains.getD i default).rounds.getD q default).replies := by rw [← hE]
    have hba : b.at_ = (xM i (m.evidence.chains.getD i default).rounds A (q - 1)).2 := by rw [← hB]
    have hbr : b.replies = ((m.evidence.chains.getD i default).rounds.getD (q - 1) default).replies := by rw [← hB]
    have hsent : ∀ j, j < (m.evidence.chains.getD i default).rounds.length → inD ((m.diaries.getD i default).sent.getD j default) := fun j hj => (g6 j hj).1
    have hbf : (if q = 0 then 0 else (xM i (m.evidence.chains.getD i default).rounds A (q - 1)).2) = if q = 0 then 0 else b.at_ := by rw [hba]
    rw [hbf, ← hea]
    rw [← hea] at hev2
    have hfin : (xM i (m.evidence.chains.getD i default).rounds A (q + 1 - 1)).2 = e.at_ := hea.symm
    have h8 := hf.2.2.2.2.1
    clear hevs hat hulen hpr hprq hpre hzero hin hsu1 hsu2 hev hfull hbb hbf hea hba hr2 hee
    generalize upR m (E0 ++ (xM i (m.evidence.chains.getD i default).rounds A q).1) = R at *
    generalize hX : (if 0 < q then zRd m e b ++ (List.range b.replies.length).map (xY e b) else []) = X at *
    have hXl : X.length ≤ 1002 := by
     rw [← hX]
     split
     ·rename_i h0
      rw [yL5, yMg, yO6, hgap h0]
      have := hbl h0
      simp only [zQ, yL2, yMc]
      omega
     ·simp
    try (refine wg ?_; try refine sM fun K hK => ?_)
    refine zA ⟨_, evl, fun _ => ?_, fun hb => absurd (yOc hb) (by omega)⟩
    try (refine wg ?_; try refine sM fun K hK => ?_)
    refine zBw ⟨190, 0, [(1, true, .box 0 0), (6, true, .raw (.int .i64 ((k : Int) + 1))), (8, true, .row 0 (R ++ X).length), (10, true, .raw (.int .i64 e.at_)), (11, true, .raw (.int .i64 i)), (12, true, .box 1 0), (13, true, .box 2 0), (15, true, .raw (.int .i64 q)), (16, true, .raw (.int .i64 e.at_))], [m.av, (m.evidence.chains.getD i default).av, (m.diaries.getD i default).av], [vL (R ++ X)], ((0, []), [], true)⟩ ?_ ?_
    ·refine zA ⟨_, evl, fun h0 => ?_, fun h0 => ?_⟩
     ·have h0 : 0 < q := by have := yNw h0; omega
      rw [if_pos h0] at hX
      subst hX
      have hx : ((q : Int) - 1).toNat = q - 1 := by omega
      have hg := hgap h0
      rw [← hx] at hg
      have s1 : inD ((m.diaries.getD i default).sent.getD q 0) := hsent q (by omega)
      have s2 : inD ((m.diaries.getD i default).sent.getD ((q : Int) - 1).toNat 0) := hsent _ (by omega)
      have e1 := zHy (m.diaries.getD i default).rate ((m.diaries.getD i default).sent.getD q default - (m.diaries.getD i default).sent.getD ((q : Int) - 1).toNat default)
      have er := wD (m.diaries.getD i default).rate ((m.diaries.getD i default).sent.getD q default - (m.diaries.getD i default).sent.getD ((q : Int) - 1).toNat default)
      generalize yL (m.diaries.getD i default).rate ((m.diaries.getD i default).sent.getD q default - (m.diaries.getD i default).sent.getD ((q : Int) - 1).toNat default) = EL at *
      obtain ⟨b1, b2⟩ := hbat h0
      have b3 := hbl h0
      have hbw := zCt b.at_ e.at_ EL.1.lo EL.1.hi (yX (k := .i64) (by simp only [inK]; omega)) [⟨2, (m.evidence.chains.getD i default).host⟩]
      rw [← hg] at hbw
      have hgl : (zRd m e b).length = 2 := by rw [hg]; rfl
      rw [if_neg (by omega : ¬ q = 0)]
      simp only [inD] at s1 s2
      clear hgap hbat hbl hg hstep hsent g6
      generalize zRd m e b = G at *
      have hfG : (lA 4 zH.av G).free := zC (fun y => zH.free y) _
      rw [hbr] at b3 b2 ⊢
      rw [← hx] at b3 b2 ⊢
      have hfr : (lA 10 zN.av ((m.evidence.chains.getD i default).rounds.getD ((q : Int) - 1).toNat default).replies).free := zC (fun y => zN.free y) _
      try (refine wkg e1 ?_; try refine sM fun K hK => ?_)
      repeat
       first
        | (refine zG (hK _ ?_); clear hK K)
        | refine stG ?_
        | (refine yJ 1 rfl ?_; refine zR rfl rfl ⟨_, evl, _, _, _, evl, yR, ?_⟩; apply Exists.intro; refine ⟨fun hg => ?_, ?_⟩; · first | exact FnA.sim hbw ⟨Sim.refl _, Sim.refl _, Sim.refl _, Sim.refl _, Sim.lstE rfl (zS1 ⟨2, (m.evidence.chains.getD i default).host⟩), trivial⟩ )
        | (refine zW 1 rfl ?_; refine zS rfl ⟨_, evl, _, _, _, (fun _ _ => vH), yR, ?_⟩; apply Exists.intro; refine ⟨fun hg => ?_, ?_⟩; · first | exact FnA.sim hbw ⟨Sim.refl _, Sim.refl _, Sim.refl _, Sim.refl _, Sim.lstE rfl (zS1 ⟨2, (m.evidence.chains.getD i default).host⟩), trivial⟩ )
        | (refine zW 1 rfl ?_; refine zJ ?_)
        | (refine yB ?_; first | (refine zP (hK _ ?_); clear hK K) | (refine zX rfl ⟨_, evl, fun nb' => ?_⟩))
        | refine zE (fun K hK => ?_)
        | (refine yZ ?_; first | (refine zD false rfl (by kernel_rfl) (by kernel_rfl) (fun K hK => ?_)) | (refine zD true rfl (by kernel_rfl) (by kernel_rfl) (fun K hK => ?_)))
      refine zF (fun j : Nat => ⟨190, 0, [(1, true, .box 0 0), (6, true, .raw (.int .i64 ((k : Int) + 1))), (8, true, .row 0 (R ++ G ++ (List.range j).map (xY e b)).length), (10, true, .raw (.int .i64 e.at_)), (11, true, .raw (.int .i64 i)), (12, true, .box 1 0), (13, true, .box 2 0), (14, true, .raw (.int .i64 b.at_)), (15, true, .raw (.int .i64 q)), (16, true, .raw (.int .i64 e.at_)), (19, true, .raw (.int .i64 j))], [m.av, (m.evidence.chains.getD i default).av, (m.diaries.getD i default).av], [vL (R ++ G ++ (List.range j).map (xY e b))], ((0, []), [], true)⟩)
       (fun j => j ≤ ((m.evidence.chains.getD i default).rounds.getD ((q : Int) - 1).toNat default).replies.length) (fun j => ((m.evidence.chains.getD i default).rounds.getD ((q : Int) - 1).toNat default).replies.length - j) 0 ?_ (by omega) ?_
      ·simp only [List.range_zero, yMk, yMj, yL5]
       refine wkn ?_ ?_ ?_
       all_goals first | exact wk0 | refine wkS ?_ | skip
       all_goals (try trivial)
       all_goals ((repeat' apply And.intro) <;> first | exact wkL | skip)
       all_goals exact fun q hq => z8.of_eq (yT rfl)
      intro j hj
      rcases yKt j ((m.evidence.chains.getD i default).rounds.getD ((q : Int) - 1).toNat default).replies.length with hjl | hjg
      ·have hmp : (List.range (j + 1)).map (xY e b) = (List.range j).map (xY e b) ++ [xY e b j] := by rw [yNf, yNk]; rfl
       have hml : (R ++ G ++ (List.range j).map (xY e b)).length ≤ 20004000 := by simp only [yL5, yMg, yO6]; omega
       have hlb : xY e b j = ⟨e.at_, b.at_ + 2 + 2 * j, 0, []⟩ := rfl
       rw [hlb] at hmp
       generalize hR3 : R ++ G ++ (List.range j).map (xY e b) = R3 at *
       try (refine wg ?_; try refine sM fun K hK => ?_)
       refine zA ⟨_, evl, fun _ => ?_, fun hb => absurd (yOc hb) (by omega)⟩
       try (refine wkR trivial ?_; try refine sM fun K hK => ?_)
       refine ⟨j + 1, by omega, by omega, ?_⟩
       rw [hmp, ← yN2, hR3, yL5]
       refine wkn ?_ ?_ ?_
       all_goals first | exact wk0 | refine wkS ?_ | skip
       all_goals (try trivial)
       all_goals ((repeat' apply And.intro) <;> first | exact wkL | skip)
       intro q hq
       refine zEw (enc := zH.av) (L := R3) (x := ⟨e.at_, b.at_ + 2 + 2 * j, 0, []⟩) ?_ q (by simpa using hq)
       exact ⟨z5.refl _, z5.refl _, z5.refl _, (Sim.nil rfl).s, trivial⟩
      ·obtain rfl : j = ((m.evidence.chains.getD i default).rounds.getD ((q : Int) - 1).toNat default).replies.length := by omega
       rw [yN2]
       generalize R ++ (G ++ (List.range ((m.evidence.chains.getD i default).rounds.getD ((q : Int) - 1).toNat default).replies.length).map (xY e b)) = R3 at *
       try (refine wg ?_; try refine sM fun K hK => ?_)
       refine zA ⟨_, evl, fun hb => absurd (yNw hb) (by omega), fun _ => ?_⟩
       try (refine wg ?_; try refine sM fun K hK => ?_)
       exact wkZ
     ·rw [if_neg (by have := yOc h0; omega)] at hX
      subst hX
      rw [yMj]
      try (refine wg ?_; try refine sM fun K hK => ?_)
      exact wkZ
    ·have hau := hf.2.1
     have hsay : ∀ j, w7 m e j = jZ m (((m.evidence.chains.getD i default).rounds.getD q default).replies.getD j default) (m.diaries.getD i default).rate (((m.diaries.getD i default).got.getD q default).getD j default - (m.diaries.getD i default).sent.getD q default) e.at_ (e.at_ + 1 + 2 * j) := fun j => by
      unfold w7
      rw [hd, her, ← hE]
      simp only [yLx]
     rw [her] at hate hch0 hstep
     have hrP := hok.p
     rw [her] at hrP
     obtain ⟨_, gday, gday2⟩ := g6 q hql
     have hs1 := hsent q hql
     have hfr : (lA 10 zN.av ((m.evidence.chains.getD i default).rounds.getD q default).replies).free := zC (fun y => zN.free y) _
     clear hgap hbat hbl hok g6 hsent
     have hRl : (R ++ X).length ≤ 20004000 := by rw [yL5]; omega
     generalize R ++ X = R1 at *
     clear hR
     have hfl : ∀ j, j ≤ 100000 → ((List.range j).flatMap (w7 m e)).length ≤ 9 * j := fun j _ => zIc m e j
     try (refine wg ?_; try refine sM fun K hK => ?_)
     refine zF (fun j : Nat => ⟨190, 0, [(1, true, .box 0 0), (6, true, .raw (.int .i64 ((k : Int) + 1))), (8, true, .row 0 (R1 ++ (List.range j).flatMap (w7 m e)).length), (10, true, .raw (.int .i64 e.at_)), (11, true, .raw (.int .i64 i)), (12, true, .box 1 0), (13, true, .box 2 0), (15, true, .raw (.int .i64 q)), (16, true, .raw (.int .i64 e.at_)), (20, true, .raw (.int .i64 j))], [m.av, (m.evidence.chains.getD i default).av, (m.diaries.getD i default).av], [vL (R1 ++ (List.range j).flatMap (w7 m e))], ((0, []), [], true)⟩)
      (fun j => j ≤ ((m.evidence.chains.getD i default).rounds.getD q default).replies.length) (fun j => ((m.evidence.chains.getD i default).rounds.getD q default).replies.length - j) 0 ?_ (by omega) ?_
     ·simp only [List.range_zero, List.flatMap_nil, yMj]
      exact wkZ
     intro j hj
     rcases yKt j ((m.evidence.chains.getD i default).rounds.getD q default).replies.length with hjl | hjg
     ·have hmj := w9 hjl
      have hjr := hrP _ hmj
      have hcz := zNn hf (hch0 _ hmj)
      have hu : (m.diaries.getD i default).sent.getD q 0 ≤ ((m.diaries.getD i default).got.getD q default).getD j 0 ∧ ((m.diaries.getD i default).got.getD q default).getD j 0 ≤ 1000000000000000 := gday2 (((m.diaries.getD i default).got.getD q default).getD j 0) (by exact w9 (l := (m.diaries.getD i default).got.getD q default) (k := j) (by omega))
      have hs2 : inD ((m.diaries.getD i default).sent.getD q 0) := hs1
      have hor := zMw m ho hau _ hjr hcz.1 hcz.2 (m.diaries.getD i default).rate (((m.diaries.getD i default).got.getD q default).getD j default - (m.diaries.getD i default).sent.getD q default) e.at_ (e.at_ + 1 + 2 * j)
      rw [← hsay j] at hor
      have hsl : (w7 m e j).length ≤ 9 := by rw [hsay]; exact zH9 _ _ _ _ _ _
      have hfs : (lA 4 zH.av (w7 m e j)).free := zC (fun y => zH.free y) _
      have hfj := hfl j (by omega)
      have hmp : (List.range (j + 1)).flatMap (w7 m e) = (List.range j).flatMap (w7 m e) ++ w7 m e j := by rw [yNf, yNg]; simp
      have hml : (R1 ++ (List.range j).flatMap (w7 m e)).length ≤ 20104000 := by rw [yL5]; omega
      simp only [inD] at hs2
      clear hfl hsay hrP hch0 hstep gday2
      generalize w7 m e j = S at *
      generalize hR3 : R1 ++ (List.range j).flatMap (w7 m e) = R3 at *
      try (refine wg ?_; try refine sM fun K hK => ?_)
      refine zA ⟨_, evl, fun _ => ?_, fun hb => absurd (yOc hb) (by omega)⟩
      repeat
       first
        | (refine zG (hK _ ?_); clear hK K)
        | refine stR ?_
        | (refine yJ 1 rfl ?_; first | (refine zR rfl rfl ⟨_, evl, _, _, _, evl, yR, ?_⟩; apply Exists.intro; refine ⟨fun hg => ?_, ?_⟩; · first | exact FnA.sim hor ⟨Sim.refl _, Sim.refl _, Sim.refl _, Sim.refl _, Sim.refl _, Sim.refl _, Sim.of_eq (show AV.raw (.int .i64 (e.at_ + 2 + 2 * (j : Int))) = AV.raw (.int .i64 (e.at_ + 1 + 2 * (j : Int) + 1)) by congr 2; omega), trivial⟩ ) | (refine xB rfl rfl ⟨_, evl, _, _, _, evl, _, _, evl, yR, ?_⟩; apply Exists.intro; refine ⟨fun hg => ?_, ?_⟩; · first | exact FnA.sim hor ⟨Sim.refl _, Sim.refl _, Sim.refl _, Sim.refl _, Sim.refl _, Sim.refl _, Sim.of_eq (show AV.raw (.int .i64 (e.at_ + 2 + 2 * (j : Int))) = AV.raw (.int .i64 (e.at_ + 1 + 2 * (j : Int) + 1)) by congr 2; omega), trivial⟩ ))
        | (refine zW 1 rfl ?_; refine zS rfl ⟨_, evl, _, _, _, (fun _ _ => vH), yR, ?_⟩; apply Exists.intro; refine ⟨fun hg => ?_, ?_⟩; · first | exact FnA.sim hor ⟨Sim.refl _, Sim.refl _, Sim.refl _, Sim.refl _, Sim.refl _, Sim.refl _, Sim.of_eq (show AV.raw (.int .i64 (e.at_ + 2 + 2 * (j : Int))) = AV.raw (.int .i64 (e.at_ + 1 + 2 * (j : Int) + 1)) by congr 2; omega), trivial⟩ )
        | (refine zW 1 rfl ?_; refine zJ ?_)
        | (refine yB ?_; first | (refine zP (hK _ ?_); clear hK K) | (refine zX rfl ⟨_, evl, fun nb' => ?_⟩))
        | refine zE (fun K hK => ?_)
        | (refine yZ ?_; first | (refine zD false rfl (by kernel_rfl) (by kernel_rfl) (fun K hK => ?_)) | (refine zD true rfl (by kernel_rfl) (by kernel_rfl) (fun K hK => ?_)))
      refine zFf ⟨_, evl, _, evl, by decide +kernel, ?_⟩
      refine xN (by decide +kernel) ?_
      rw [xO]
      dsimp only [zDg]
      try (first | refine wkN hK trivial ?_ | refine wkR trivial ?_)
      try clear hK K
      try refine sM fun K hK => ?_
      refine ⟨j + 1, by omega, by omega, ?_⟩
      rw [hmp, ← yN2, hR3, yL5]
      refine wkn ?_ ?_ ?_
      all_goals first | exact wk0 | refine wkS ?_ | skip
      all_goals (try trivial)
      all_goals ((repeat' apply And.intro) <;> first | exact wkL | skip)
      exact fun q hq => z8.of_eq (yT rfl)
     ·obtain rfl : j = ((m.evidence.chains.getD i default).rounds.getD q default).replies.length := by omega
      rw [← hstep]
      clear hfl hsay hrP
      try (refine wg ?_; try refine sM fun K hK => ?_)
      refine zA ⟨_, evl, fun hb => absurd (yNw hb) (by omega), fun _ => ?_⟩
      try (refine wg ?_; try refine sM fun K hK => ?_)
      refine ⟨q + 1, by omega, by omega, ?_⟩
      rw [hev2, if_neg (by omega), hfin]
      exact wkZ
   ·obtain rfl : q = (m.evidence.chains.getD i default).rounds.length := by omega
    rw [← hsu1, ← hsu2]
    have h8 := hf.2.2.2.2.1
    clear hsu1 hsu2 hpr hin hpre hulen hzero hevs hat hr2 g6 hch hfull
    try (refine wg ?_; try refine sM fun K hK => ?_)
    refine zA ⟨_, evl, fun hb => absurd (yNw hb) (by omega), fun _ => ?_⟩
    try (refine wg ?_; try refine sM fun K hK => ?_)
    refine ⟨i + 1, by omega, by omega, ?_⟩
    exact wkZ
  ·obtain rfl : i = m.evidence.chains.length := by omega
   rw [hfull]
   generalize upR m (evL m) = R at *
   try (refine wg ?_; try refine sM fun K hK => ?_)
   refine zA ⟨_, evl, fun hb => absurd (yNw hb) (by omega), fun _ => ?_⟩
   try (refine wg ?_; try refine sM fun K hK => ?_)
   refine zM (by simp) ⟨_, _, _, evl, ob0, zV.sims ?_ ?_⟩
   ·exact z5.tup ⟨z5.row rfl rfl rfl rfl fun i hi => rfl, z5.refl _, z5.refl _, trivial⟩
   ·exact ⟨zC (fun y => zH.free y) _, trivial, trivial, trivial⟩
end Go.Proofs.YtchpbdecipcelaaGreatDoor
