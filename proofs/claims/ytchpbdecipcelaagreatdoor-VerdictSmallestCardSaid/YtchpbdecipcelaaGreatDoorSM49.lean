import Derived.Test.YtchpbdecipcelaaGreatDoorSM46
import Derived.Test.YtchpbdecipcelaaGreatDoorSM48
namespace Go.Proofs.YtchpbdecipcelaaGreatDoor
set_option linter.unusedVariables false
set_option linter.unusedSimpArgs false
set_option maxHeartbeats 4000000
set_option maxRecDepth 100000
open Go.RowKit
theorem authsN_sub {s t : List Party} (hs : s.Nodup) (h : ∀ p ∈ s, p ∈ t) : authsN s ≤ authsN t := by
  unfold authsN
  rw [List.countP_eq_length_filter, List.countP_eq_length_filter]
  exact Vd.nodup_len (hs.sublist List.filter_sublist) fun p hp => List.mem_filter.2 ⟨h p (List.mem_filter.1 hp).1, (List.mem_filter.1 hp).2⟩
theorem auths_step (l : List Party) {k : Nat} (h : k < l.length) : authsN (l.take (k + 1)) = authsN (l.take k) + if (l.getD k default).kind = 1 then 1 else 0 := by
  rw [List.take_succ_eq_append_getElem h, getD_get h]
  unfold authsN
  rw [List.countP_append, List.countP_singleton]
  by_cases hq : l[k].kind = 1 <;> simp [hq]
end Go.Proofs.YtchpbdecipcelaaGreatDoor
namespace Go.Proofs.YtchpbdecipcelaaGreatDoor
set_option linter.unusedVariables false
set_option linter.unusedSimpArgs false
set_option maxHeartbeats 4000000
set_option maxRecDepth 100000
open Go.RowKit
section
variable {nt nb : Nat} {sl sl' : List (Nat × (Bool × AV))} {bx : List (List AV)} {rw : List ARow} {ys : (Nat × List (List AV)) × List (List AV) × Bool}
end
theorem freeL_app {a b : List AV} (ha : AV.freeL a) (hb : AV.freeL b) : AV.freeL (a ++ b) := by
  induction a with
  | nil => exact hb
  | cons x a ih => exact ⟨ha.1, ih ha.2⟩
theorem freeL_dr {a : List AV} (n : Nat) (ha : AV.freeL a) : AV.freeL (a.drop n) := by
  induction n generalizing a with
  | zero => exact ha
  | succ n ih =>
    cases a with
    | nil => exact ha
    | cons x a => exact ih ha.2
def InB2 (bx : List (List AV)) (b c : Nat) (L : List Party) : Prop := ∃ zs, bx[b]? = some (pcs L ++ zs) ∧ L.length ≤ c ∧ c ≤ maxLen ∧ c * 2 ≤ (pcs L ++ zs).length ∧ (0 < c → 1 ≤ b) ∧ AV.freeL zs
section
variable {P : Program} {T : TT} {ops : Array Oper} {rest : List Oper} {K : ASt → Prop} {nt nb : Nat} {sl : List (Nat × (Bool × AV))} {p0 : List AV} {bx : List (List AV)} {rw : List ARow} {ys : (Nat × List (List AV)) × List (List AV) × Bool} {o : Oper} {d : Nat}
theorem runS_appP (hT : TOk P T) (hg : o.guard = none) (hd : o.dst = some d) (hn : Nat.blt d nt = true)
    {cs : List Bool} {b n c m : Nat} {us : List AV} {p : Prop} {t t' : TypeId} (h1 : twoB ⟨nt, nb, sl, p0 :: bx, rw, ys⟩ .append o.op = some (cs, (2, b, 0, n, c), (2, m, us, p), t, t')) (hc : ∀ c ∈ cs, c = true) (hp : p) (htt : t' = t)
    {e s1 b1 : Nat} {z1 : List Value} {q1 : List CK} (h2 : T t = some ⟨.slice e, s1, b1, z1, q1⟩) {j : TI} (h3 : T e = some j) (hsz : j.size = 2 ∧ j.zero = [.int .i64 0, .int .i64 0] ∧ j.bytes = 16) {L M : List Party} (hA : InB2 (p0 :: bx) b c L) (hL : L.length = n) (hM : M.length = m) (hus : us = pcs M)
    (hmax : n + m ≤ 1000000)
    (h : ∀ bx' b' c', InB2 (p0 :: bx') b' c' (L ++ M) → runS P ops rest K ⟨nt, nb, (d, (true, .bsl 2 b' 0 (n + m) c')) :: sl, p0 :: bx', rw, ys⟩) : runS P ops (o :: rest) K ⟨nt, nb, sl, p0 :: bx, rw, ys⟩ := by
  obtain ⟨zs, a1, a2, a3, a4, a5, a6⟩ := hA
  obtain ⟨j1, j2, j3⟩ := hsz
  have hj : 2 = j.size ∧ 2 = j.size ∧ 0 < j.size ∧ j.zero.length = j.size := by rw [j1, j2]; exact ⟨rfl, rfl, by decide, rfl⟩
  subst hL hM hus
  rcases Nat.eq_zero_or_pos M.length with h0 | h0
  · obtain rfl := List.length_eq_zero_iff.1 h0
    refine runS_appB0 hT hg hd hn h1 hc hp htt h2 h3 hj ?_
    exact h bx b c ⟨zs, by rw [List.append_nil]; exact a1, by rw [List.append_nil]; exact a2, a3, by rw [List.append_nil]; exact a4, a5, a6⟩
  · refine runS_appB hT hg hd hn h1 hc hp htt h2 h3 hj h0 a1 (pcs_one _ _) (by omega) ⟨by simp only [maxLen]; omega, by rw [j3]; omega⟩ (fun hr bx' hb => ?_) (fun hr c' hc1 hc2 bx' bn hbn hb => ?_)
    · have hb1 : 1 ≤ b := a5 (by omega)
      obtain ⟨b, rfl⟩ : ∃ b1, b = b1 + 1 := ⟨b - 1, by omega⟩
      rw [List.set_cons_succ] at hb
      subst hb
      rw [List.getElem?_cons_succ] at a1
      have hlt := (List.getElem?_eq_some_iff.1 a1).1
      refine h _ _ _ ⟨zs.drop (M.length * 2), ?_, by rw [List.length_append]; exact hr, a3, ?_, a5, freeL_dr _ a6⟩
      · rw [List.getElem?_cons_succ, List.getElem?_set_self hlt, Nat.zero_add]
        rw [List.length_append, pcs_len] at a4
        conv => lhs; rw [← List.take_append_drop (M.length * 2) zs]
        rw [put_mid (pcs_len _) (by rw [pcs_len, List.length_take]; omega), pcs_app, List.append_assoc]
      · rw [List.length_append, pcs_len] at a4 ⊢
        rw [List.length_drop, List.length_append]
        omega
    · have e1 : ((pcs L ++ zs).drop 0).take (L.length * 2) ++ pcs M ++ zerosA (c' - (L.length + M.length)) j.zero = pcs (L ++ M) ++ pcs (List.replicate (c' - (L.length + M.length)) default) := by
        rw [List.drop_zero, List.take_left' (pcs_len _), ← pcs_app, j2, zeros_pcs]
      rw [e1] at hb
      clear e1
      subst hb hbn
      rw [List.cons_append]
      refine h _ _ _ ⟨pcs (List.replicate (c' - (L.length + M.length)) default), ?_, by rw [List.length_append]; exact hc1, hc2, ?_, fun _ => by simp, pcs_free _⟩
      · rw [List.length_cons, List.getElem?_cons_succ, List.getElem?_append_right (Nat.le_refl _), Nat.sub_self]
        rfl
      · rw [List.length_append, pcs_len, pcs_len, List.length_append, List.length_replicate]
        omega
end
theorem flat_eq {α β : Type} {l : List α} {f g : α → List β} (h : ∀ i ∈ l, f i = g i) : l.flatMap f = l.flatMap g := by
  rw [List.flatMap_def, List.flatMap_def, List.map_congr_left h]
theorem flat_pt (R : List Party) {k : Nat} (h : k ≤ R.length) : (List.range k).flatMap (els Party.av R) = pcs (R.take k) := by
  have hk : (R.take k).length = k := by rw [List.length_take]; omega
  rw [← flat_pcs, hk]
  refine flat_eq fun i hi => ?_
  have hi := List.mem_range.1 hi
  unfold els
  rw [show (R.take k).getD i default = R.getD i default by rw [getD_get (by omega), getD_get (by omega)]; simp]
theorem flat_pd (R : List Party) {k : Nat} (h : k ≤ R.length) : (List.range (R.length - k)).flatMap (fun i => els Party.av R (k + i)) = pcs (R.drop k) := by
  have hk : (R.drop k).length = R.length - k := List.length_drop
  rw [← flat_pcs, hk]
  refine flat_eq fun i hi => ?_
  have hi := List.mem_range.1 hi
  unfold els
  rw [show (R.drop k).getD i default = R.getD (k + i) default by rw [getD_get (by omega), getD_get (by omega)]; simp]
theorem frz_in {bx : List (List AV)} {b c n : Nat} {L : List Party} (h : InB2 bx b c L) (hL : L.length = n) : AV.frz 0 bx (.bsl 2 b 0 n c) = .lst 2 n (chunkA 2 ((bx[b]?).getD [])) ∧ AV.okF 0 bx (.bsl 2 b 0 n c) ∧ ∀ i, i < n → chunkA 2 ((bx[b]?).getD []) i = els Party.av L i := by
  obtain ⟨zs, a1, a2, a3, a4, a5, a6⟩ := h
  have hlt := (List.getElem?_eq_some_iff.1 a1).1
  subst hL
  rw [a1]
  refine ⟨?_, ?_, fun i hi => ?_⟩
  · unfold AV.frz
    rw [a1]
    rfl
  · refine .inr ⟨hlt, ?_, ?_⟩
    · rw [a1]
      exact AV.belL_free _ (freeL_app (pcs_free _) a6)
    · rw [a1]
      simp only [Option.getD_some, List.length_append, pcs_len]
      omega
  · simp only [Option.getD_some]
    exact chunk_flat (enc := Party.av) (sz := 2) (fun _ => rfl) hi
end Go.Proofs.YtchpbdecipcelaaGreatDoor
namespace Go.Proofs.YtchpbdecipcelaaGreatDoor
set_option linter.unusedVariables false
set_option linter.unusedSimpArgs false
set_option maxHeartbeats 4000000
set_option maxRecDepth 100000
open Go.RowKit
theorem foldR_short (m : Matter) (p : List Bound × Event) (hp : p.2.replies.length ≤ 12) (es : List Event) (h : ∀ e ∈ es, e.replies.length ≤ 12) : (foldR m es p).1.length ≤ p.1.length + 200 * es.length := by
  induction es using Vd.rev_rec with
  | h0 => simp [foldR]
  | h1 es e ih =>
    have h1 := ih fun e he => h e (by simp [he])
    have h2 := round_len m e (foldR m es p).2
    have h3 := h e (by simp)
    have h4 : (foldR m es p).2.replies.length ≤ 12 := by
      rcases foldR_last m p es with e | e
      · rw [e]; exact hp
      · exact h _ (by simp [e])
    rw [foldR_snoc]
    simp only [List.length_append, List.length_cons, List.length_nil]
    omega
theorem few_short {m : Matter} (hf : fewP m) : (boundsM44 m).1.length ≤ 20000 := by
  obtain ⟨h1, h2, h3, h4, h5, h6, h7, h8⟩ := hf
  rw [List.take_of_length_le (by omega)] at h5
  have hr : ∀ c ∈ m.evidence.chains, ∀ r ∈ c.rounds, r.replies.length ≤ 12 := fun c hc r hr => by
    have := le_repR hr
    have := le_repN hc
    omega
  have hev : (evL m).length ≤ 20 := by
    have := evM_len (cs := m.evidence.chains) (fun i hi => h1 i hi (by omega)) m.evidence.chains.length (Nat.le_refl _)
    unfold evL
    omega
  have her : ∀ e ∈ evL m, e.replies.length ≤ 12 := fun e he => by
    obtain ⟨i, k, e1, e2, rfl⟩ := evM_mem (Nat.le_refl _) he
    have := hr _ (memD e1) _ (memD e2)
    simp only
    omega
  unfold boundsM44
  split
  · simp
  · split
    · simp
    · split
      · simp
      · have h2 := foldR_short m (baseL (evN m - 1).toNat, ev0) (by simp [ev0]) (evL m) her
        simp only [base_len] at h2
        show (foldR m (evL m) (baseL (evN m - 1).toNat, ev0)).1.length ≤ 20000
        omega
theorem bounds_none {m : Matter} (h : (boundsM44 m).2.2 ≠ 0) : (boundsM44 m).1 = [] := by
  unfold boundsM44 at *
  split
  · rfl
  · split
    · rfl
    · split
      · rfl
      · rename_i h1 h2 h3
        rw [if_neg h1, if_neg h2, if_neg h3] at h
        exact absurd rfl h
theorem bounds_crowd {m : Matter} (hB : BOk m) : ∀ b ∈ (boundsM44 m).1, crowdP b.who := by
  by_cases he : (boundsM44 m).2.2 = 0
  · exact fun b hb => ((hB he).2.2 b hb).2.2.2
  · rw [bounds_none he]
    intro b hb
    cases hb
theorem sets_zero {m : Matter} {most : Int} (h : (setsM m most).2 = 0) : (boundsM44 m).2.2 = 0 ∧ (0 ≤ most ∧ most ≤ 3) ∧ (setsM m most).1 = Vd.setsOf (okS m.evidence.f (boundsM44 m).1 (boundsM44 m).2.1.toNat) (allP (boundsM44 m).1) most.toNat := by
  unfold setsM at *
  split at h
  · rename_i h1; exact absurd h h1
  · rename_i h1
    split at h
    · simp at h
    · rename_i h2
      split at h
      · simp at h
      · rename_i h3
        refine ⟨Classical.not_not.1 h1, Classical.not_not.1 h2, ?_⟩
        rw [if_neg h1, if_neg h2, if_neg h3]
theorem sub_crowd {l : List Bound} (hc : ∀ b ∈ l, crowdP b.who) {s : List Party} (hs : ∀ p ∈ s, p ∈ allP l) (hl : s.length ≤ 100) : crowdP s :=
  ⟨hl, fun p hp => by
    obtain ⟨b, hb, h⟩ := allP_mem.1 (hs p hp)
    exact (hc b hb).2 p h⟩
theorem poss_ask {m : Matter} (hB : BOk m) (hf : fewP m) (he : (boundsM44 m).2.2 = 0) {s : List Party} (hs : ∀ p ∈ s, p ∈ allP (boundsM44 m).1) (hl : s.length ≤ 100) : possE (boundsM44 m).1 (boundsM44 m).2.1 s = (possM (boundsM44 m).1 (boundsM44 m).2.1.toNat s, 0) := by
  unfold possE
  rw [if_pos ⟨(hB he).2.1, few_short hf, sub_crowd (bounds_crowd hB) hs hl, (hB he).2.2⟩]
theorem sets_poss {m : Matter} (hB : BOk m) (hf : fewP m) {most : Int} (h : (setsM m most).2 = 0) {s : List Party} (hs : s ∈ (setsM m most).1) :
    possE (boundsM44 m).1 (boundsM44 m).2.1 s = (true, 0) ∧ s.length ≤ 3 ∧ (s.length : Int) ≤ most ∧ (authsN s : Int) ≤ m.evidence.f := by
  obtain ⟨h1, h2, h3⟩ := sets_zero h
  rw [h3] at hs
  obtain ⟨a1, a2, a3⟩ := Vd.setsOf_ok hs
  unfold okS at a3
  rw [Bool.and_eq_true, decide_eq_true_iff] at a3
  rw [poss_ask hB hf h1 (fun p hp => a1.subset hp) (by omega), a3.2]
  exact ⟨rfl, by omega, by omega, a3.1⟩
end Go.Proofs.YtchpbdecipcelaaGreatDoor
namespace Go.Proofs.YtchpbdecipcelaaGreatDoor
set_option linter.unusedVariables false
set_option linter.unusedSimpArgs false
set_option maxHeartbeats 4000000
set_option maxRecDepth 100000
open Go.RowKit
theorem sets_none {m : Matter} {most : Int} (h : (setsM m most).2 ≠ 0) : (setsM m most).1 = [] := by
  unfold setsM at *
  split
  · rfl
  · split
    · rfl
    · split
      · rfl
      · rename_i h1 h2 h3
        rw [if_neg h1, if_neg h2, if_neg h3] at h
        exact absurd rfl h
theorem sets_apart {m : Matter} {most : Int} (h : (setsM m most).2 = 0) {i k : Nat} (hi : i < (setsM m most).1.length) (hk : k < (setsM m most).1.length) (hne : k ≠ i) : Vd.part ((setsM m most).1.getD k default) ((setsM m most).1.getD i default) = false := by
  obtain ⟨h1, h2, h3⟩ := sets_zero h
  have hp : ((setsM m most).1).Pairwise fun a b => Vd.part a b = false ∧ Vd.part b a = false := by
    rw [h3]
    exact Vd.setsOf_apart (allP_nodup _)
  rw [getD_get hi, getD_get hk]
  rw [List.pairwise_iff_getElem] at hp
  rcases Nat.lt_or_gt_of_ne hne with hlt | hlt
  · exact (hp k i hk hi hlt).1
  · exact (hp i k hi hk hlt).2
def lessM (s : List Party) (k : Nat) : List Party := s.take k ++ s.drop (k + 1)
theorem less_sub (s : List Party) (k : Nat) : (lessM s k).Sublist s := by
  unfold lessM
  conv => rhs; rw [← List.take_append_drop k s]
  exact List.Sublist.append (List.Sublist.refl _) (by rw [← List.drop_drop]; exact List.drop_sublist _ _)
theorem less_len {s : List Party} {k : Nat} (h : k < s.length) : (lessM s k).length + 1 = s.length := by
  unfold lessM
  rw [List.length_append, List.length_take, List.length_drop]
  omega
theorem sets_less {m : Matter} (hB : BOk m) (hf : fewP m) {most : Int} (h : (setsM m most).2 = 0) {s : List Party} (hs : s ∈ (setsM m most).1) {k : Nat} (hk : k < s.length) :
    possE (boundsM44 m).1 (boundsM44 m).2.1 (lessM s k) = (false, 0) := by
  obtain ⟨h1, h2, h3⟩ := sets_zero h
  rw [h3] at hs
  obtain ⟨a1, a2, a3⟩ := Vd.setsOf_ok hs
  have hl := less_len hk
  have hsub := (less_sub s k).trans a1
  rw [poss_ask hB hf h1 (fun p hp => hsub.subset hp) (by omega)]
  have hno : possM (boundsM44 m).1 (boundsM44 m).2.1.toNat (lessM s k) = false := by
    rw [← Bool.not_eq_true]
    intro hp
    have hnd := allP_nodup (boundsM44 m).1
    have hok : okS m.evidence.f (boundsM44 m).1 (boundsM44 m).2.1.toNat (lessM s k) = true := by
      unfold okS at a3 ⊢
      rw [Bool.and_eq_true, decide_eq_true_iff] at a3 ⊢
      have := authsN_sub (hnd.sublist hsub) fun p hp => (less_sub s k).subset hp
      exact ⟨by omega, hp⟩
    have := Vd.setsOf_min hnd hs hsub hok (Vd.part_iff.2 fun p hp => (less_sub s k).subset hp)
    rw [this] at hl
    omega
  rw [hno]
section
variable {P : Program} {T : TT} {ops : Array Oper} {rest : List Oper} {K : ASt → Prop} {nt nb : Nat} {sl : List (Nat × (Bool × AV))} {p0 : List AV} {bx : List (List AV)} {rw : List ARow} {ys : (Nat × List (List AV)) × List (List AV) × Bool} {o : Oper} {d : Nat}
theorem runS_appL (hT : TOk P T) (hg : o.guard = none) (hd : o.dst = some d) (hn : Nat.blt d nt = true)
    {cs : List Bool} {b n c m : Nat} {us : List AV} {p : Prop} {t t' : TypeId} (h1 : twoB ⟨nt, nb, sl, p0 :: bx, rw, ys⟩ .append o.op = some (cs, (2, b, 0, n, c), (2, m, us, p), t, t')) (hc : ∀ c ∈ cs, c = true) (hp : p) (htt : t' = t)
    {e s1 b1 : Nat} {z1 : List Value} {q1 : List CK} (h2 : T t = some ⟨.slice e, s1, b1, z1, q1⟩) {j : TI} (h3 : T e = some j) (hsz : j.size = 2 ∧ j.zero = [.int .i64 0, .int .i64 0] ∧ j.bytes = 16) {L M : List Party} (hA : InB2 (p0 :: bx) b c L) (hL : L.length = n) (hM : M.length = m) (hus : us = pcs M)
    (hmax : n + m ≤ 1000000)
    (h : ∀ bx' b' c', bx'.length ≤ bx.length + 1 → InB2 (p0 :: bx') b' c' (L ++ M) → runS P ops rest K ⟨nt, nb, (d, (true, .bsl 2 b' 0 (n + m) c')) :: sl, p0 :: bx', rw, ys⟩) : runS P ops (o :: rest) K ⟨nt, nb, sl, p0 :: bx, rw, ys⟩ := by
  obtain ⟨zs, a1, a2, a3, a4, a5, a6⟩ := hA
  obtain ⟨j1, j2, j3⟩ := hsz
  have hj : 2 = j.size ∧ 2 = j.size ∧ 0 < j.size ∧ j.zero.length = j.size := by rw [j1, j2]; exact ⟨rfl, rfl, by decide, rfl⟩
  subst hL hM hus
  rcases Nat.eq_zero_or_pos M.length with h0 | h0
  · obtain rfl := List.length_eq_zero_iff.1 h0
    refine runS_appB0 hT hg hd hn h1 hc hp htt h2 h3 hj ?_
    exact h bx b c (Nat.le_succ _) ⟨zs, by rw [List.append_nil]; exact a1, by rw [List.append_nil]; exact a2, a3, by rw [List.append_nil]; exact a4, a5, a6⟩
  · refine runS_appB hT hg hd hn h1 hc hp htt h2 h3 hj h0 a1 (pcs_one _ _) (by omega) ⟨by simp only [maxLen]; omega, by rw [j3]; omega⟩ (fun hr bx' hb => ?_) (fun hr c' hc1 hc2 bx' bn hbn hb => ?_)
    · have hb1 : 1 ≤ b := a5 (by omega)
      obtain ⟨b, rfl⟩ : ∃ b1, b = b1 + 1 := ⟨b - 1, by omega⟩
      rw [List.set_cons_succ] at hb
      subst hb
      rw [List.getElem?_cons_succ] at a1
      have hlt := (List.getElem?_eq_some_iff.1 a1).1
      refine h _ _ _ (by rw [List.length_set]; omega) ⟨zs.drop (M.length * 2), ?_, by rw [List.length_append]; exact hr, a3, ?_, a5, freeL_dr _ a6⟩
      · rw [List.getElem?_cons_succ, List.getElem?_set_self hlt, Nat.zero_add]
        rw [List.length_append, pcs_len] at a4
        conv => lhs; rw [← List.take_append_drop (M.length * 2) zs]
        rw [put_mid (pcs_len _) (by rw [pcs_len, List.length_take]; omega), pcs_app, List.append_assoc]
      · rw [List.length_append, pcs_len] at a4 ⊢
        rw [List.length_drop, List.length_append]
        omega
    · have e1 : ((pcs L ++ zs).drop 0).take (L.length * 2) ++ pcs M ++ zerosA (c' - (L.length + M.length)) j.zero = pcs (L ++ M) ++ pcs (List.replicate (c' - (L.length + M.length)) default) := by
        rw [List.drop_zero, List.take_left' (pcs_len _), ← pcs_app, j2, zeros_pcs]
      rw [e1] at hb
      clear e1
      subst hb hbn
      rw [List.cons_append]
      refine h _ _ _ (by simp) ⟨pcs (List.replicate (c' - (L.length + M.length)) default), ?_, by rw [List.length_append]; exact hc1, hc2, ?_, fun _ => by simp, pcs_free _⟩
      · rw [List.length_cons, List.getElem?_cons_succ, List.getElem?_append_right (Nat.le_refl _), Nat.sub_self]
        rfl
      · rw [List.length_append, pcs_len, pcs_len, List.length_append, List.length_replicate]
        omega
end
end Go.Proofs.YtchpbdecipcelaaGreatDoor
