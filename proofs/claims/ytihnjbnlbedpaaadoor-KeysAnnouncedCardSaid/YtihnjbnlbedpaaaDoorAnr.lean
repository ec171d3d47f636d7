/- The reference of layer 22: Announce. -/
import Derived.Test.YtihnjbnlbedpaaaDoorAnp
namespace Go.Proofs.YtihnjbnlbedpaaaDoor
set_option linter.unusedVariables false
set_option linter.unusedSimpArgs false
set_option maxHeartbeats 4000000
set_option maxRecDepth 100000
open Go.RowKit
theorem lastM_ge {α : Type} [Inhabited α] (p : α → Bool) (l : List α) : ∀ (n j : Nat), j < n → p (l.getD j default) = true → (j : Int) ≤ lastM p l n
  | n + 1, j, hj, hp => by
    unfold lastM
    split
    · omega
    · rename_i h
      have hjn : j < n := by
        rcases Nat.lt_succ_iff_lt_or_eq.1 hj with h' | rfl
        · exact h'
        · exact absurd hp h
      exact lastM_ge p l n j hjn hp
theorem lastM_at {α : Type} [Inhabited α] (p : α → Bool) (l : List α) : ∀ (n : Nat), 0 ≤ lastM p l n → p (l.getD (lastM p l n).toNat default) = true
  | 0, h => by simp [lastM] at h
  | n + 1, h => by
    unfold lastM at h ⊢
    split
    · rename_i h'; simpa using h'
    · rename_i h'
      rw [if_neg h'] at h
      exact lastM_at p l n h
theorem last_find {l : List KeyWin} (h : ValidP l) (auth : Int) : lastM (fun k : KeyWin => decide (k.auth = auth)) l l.length = if findN l auth 1001 = 0 ∨ ¬ (prevK l auth).auth = auth then -1 else (findN l auth 1001 : Int) - 1 := by
  have hr := lastM_range (fun k : KeyWin => decide (k.auth = auth)) l l.length
  have hge := fun j hj hp => lastM_ge (fun k : KeyWin => decide (k.auth = auth)) l l.length j hj (by simpa using hp)
  have hat := lastM_at (fun k : KeyWin => decide (k.auth = auth)) l l.length
  have ha := find_after h auth
  have hb := find_before (l := l) auth
  have hle := findN_le l auth 1001
  generalize lastM (fun k : KeyWin => decide (k.auth = auth)) l l.length = m at *
  simp only [decide_eq_true_eq] at hat
  split
  · rename_i hc
    rcases Int.lt_or_le m 0 with hm | hm
    · omega
    · exfalso
      have h1 := hat hm
      have h2 : m.toNat < findN l auth 1001 := by
        rcases Nat.lt_or_ge m.toNat (findN l auth 1001) with h2 | h2
        · exact h2
        · have := ha _ h2 (by omega); omega
      rcases hc with hc | hc
      · omega
      · rw [prevK_eq l auth (by omega)] at hc
        have h3 := hb (findN l auth 1001 - 1) (by omega)
        rcases Nat.lt_or_ge m.toNat (findN l auth 1001 - 1) with h4 | h4
        · have := valid_lex h _ _ h4 (by omega); omega
        · rw [show findN l auth 1001 - 1 = m.toNat from by omega] at hc; exact hc h1
  · rename_i hc
    have h1 : ¬ findN l auth 1001 = 0 := fun h => hc (.inl h)
    have h2 : (prevK l auth).auth = auth := Classical.byContradiction fun h => hc (.inr h)
    rw [prevK_eq l auth h1] at h2
    have h3 := hge _ (by omega) h2
    rcases Nat.lt_or_ge m.toNat (findN l auth 1001) with h4 | h4
    · omega
    · have := ha _ h4 (by omega)
      have := hat (by omega)
      omega
theorem ins_el {l : List KeyWin} {n N M : Nat} {x : KeyWin} {e0 e1 : Nat → List AV} (hn : n ≤ l.length) (hN : N = n) (hM : M = n) (h1 : e1 0 = KeyWin.av x) (i : Nat) (hi : i < l.length + 1) :
    appEl (N + 1) (appEl N (appEl 0 e0 (els KeyWin.av l)) e1) (fun i => KeyWin.av (l.getD (M + i) default)) i = els KeyWin.av (insK l n x) i := by
  rw [hN, hM]
  unfold els
  rw [insK_get hn]
  rcases Nat.lt_trichotomy i n with h | rfl | h
  · rw [appEl_lt (by omega), appEl_lt h, appEl_ge (Nat.zero_le _), if_pos h]; rfl
  · rw [appEl_lt (by omega), appEl_ge (Nat.le_refl _), if_neg (by omega), if_pos rfl, Nat.sub_self, h1]
  · rw [appEl_ge (by omega), if_neg (by omega), if_neg (by omega)]
    show KeyWin.av (l.getD (n + (i - (n + 1))) default) = _
    rw [show n + (i - (n + 1)) = i - 1 from by omega]
theorem announceR_main (l : List KeyWin) (hl : l.length ≤ 4611686018427387904) (hf : ∀ k ∈ l, k.fits) (key once : Int) (next : KeyWin) (hn : next.fits) (hfr : (lA 7 KeyWin.av l).free)
    (hv : FnA Tryd.prog 17 [lA 7 KeyWin.av l] (.raw (.bool (decide (ValidP l))))) (hfo : FnA Tryd.prog 26 [.agg (next0 next).av] (.raw (.bool (decide (formedP (next0 next))))))
    (hk : FnA Tryd.prog 55 [.raw (.int .i64 key)] (.raw (.bool (withinM key 1)))) (ho : FnA Tryd.prog 55 [.raw (.int .i64 once)] (.raw (.bool (withinM once 1))))
    (hla : FnA Tryd.prog 30 [lA 7 KeyWin.av l, .raw (.int .i64 next.auth)] (.raw (.int .i64 ((findN l next.auth 1001 : Int) - 1))))
    (c1 : ((ValidP l ∧ formedP (next0 next)) ∧ withinM key 1 = true) ∧ withinM once 1 = true) (hle : findN l next.auth 1001 ≤ l.length) (c2 : ¬ l.length = 100) (c3 : ¬ (findN l next.auth 1001 = 0 ∨ ¬ (prevK l next.auth).auth = next.auth)) (hn0 : findN l next.auth 1001 ≠ 0)
    (hfol : FnA Tryd.prog 27 [.agg (l.getD ((findN l next.auth 1001 : Int) - 1).toNat default).av, .agg (next0 next).av] (.raw (.bool true)))
    (hpub : FnA Tryd.prog 25 [.raw (.int .i64 key)] (.raw (.int .i64 (powM 4 key.toNat)))) (h100 : l.length ≤ 100)
    (c4 : followsP (prevK l next.auth) (next0 next)) (c5 : (powM 4 key.toNat : Int) = (prevK l next.auth).pub) :
    FnA Tryd.prog 15 [lA 7 KeyWin.av l, .raw (.int .i64 key), .raw (.int .i64 once), .agg next.av] (.tup [lA 7 KeyWin.av (annM l key once next).1, .raw (.int .i64 (annM l key once next).2)]) := by
  have hsg := signR_A key once (msgM (next0 next)) (okI_msg (k := next0 next) ⟨hn.1, hn.2.1, hn.2.2.1, hn.2.2.2.1, hn.2.2.2.2.1, by simp [next0, Sig.fits, inK]⟩) (by simp [msgM])
  have hs2 : (signM key once (msgM (next0 next))).2 = 0 := by unfold signM; rw [c1.1.2, c1.2]; rfl
  rw [hs2] at hsg
  have hM : annM l key once next = (insK l (findN l next.auth 1001) { next with sig := (signM key once (msgM (next0 next))).1 }, 0) := by
    unfold annM; rw [if_neg (fun h => h c1), if_neg c2, if_neg c3, if_neg (fun h => h c4), if_neg (fun h => h (by rw [expM4 c1.1.2]; exact ⟨rfl, c5⟩))]
  rw [hM]
  have hfm : (liA (msgM (next0 next))).free := lA_free (fun _ => by simp [AV.free, AV.freeL, iC]) _
  have hmg := messageR_A (next0 next)
  generalize (signM key once (msgM (next0 next))).1 = sg at *
  generalize liA (msgM (next0 next)) = LM at *
  clear hM hs2 c4 c3
  rw [decide_eq_true c1.1.1.1] at hv
  rw [decide_eq_true c1.1.1.2] at hfo
  rw [c1.1.2] at hk
  rw [c1.2] at ho
  have c5 : (powM 4 key.toNat : Int) = (l.getD ((findN l next.auth 1001 : Int) - 1).toNat default).pub := c5
  rw [c5] at hpub
  clear c5 c1 hf hn
  refine fnA_of tblOk Tryd.func15 rfl (by kernel_rfl) 92 Tryd.ntmps15 (by simp only [List.length_cons, List.length_nil]; omega) [.tmp 8, .tmp 9] rfl ?_
  simp only [entrySt, argSl, Nat.zero_add, Nat.reduceAdd]
  repeat'
    first
      | first
        | (refine runS_nil (hK _ ?_); clear hK K)
        | refine stR ?_
        | (refine gateS 1 rfl ?_; first | (refine runS_call rfl rfl ⟨_, evl, _, _, _, evl, oblF, ?_⟩; apply Exists.intro; refine ⟨fun hg => ?_, ?_⟩; · first | exact FnA.at_ (hv) rfl rfl | exact FnA.at_ (hfo) rfl rfl | exact FnA.at_ (hk) rfl rfl | exact FnA.at_ (ho) rfl rfl | exact FnA.at_ (hla) rfl rfl | exact FnA.at_ (hfol) rfl rfl | exact FnA.at_ (hpub) rfl rfl | exact FnA.at_ (hmg) rfl rfl | exact FnA.at_ (hsg) rfl rfl | exact FnA.at_s (hv) rfl simT | exact FnA.at_s (hv) rfl simF | exact FnA.at_s (hfo) rfl simT | exact FnA.at_s (hfo) rfl simF | exact FnA.at_s (hk) rfl simT | exact FnA.at_s (hk) rfl simF | exact FnA.at_s (ho) rfl simT | exact FnA.at_s (ho) rfl simF | exact FnA.at_s (hla) rfl simT | exact FnA.at_s (hla) rfl simF | exact FnA.at_s (hfol) rfl simT | exact FnA.at_s (hfol) rfl simF | exact FnA.at_s (hpub) rfl simT | exact FnA.at_s (hpub) rfl simF | exact FnA.at_s (hmg) rfl simT | exact FnA.at_s (hmg) rfl simF | exact FnA.at_s (hsg) rfl simT | exact FnA.at_s (hsg) rfl simF) | (refine runS_callR rfl rfl ⟨_, evl, _, _, _, evl, _, _, evl, oblF, ?_⟩; apply Exists.intro; refine ⟨fun hg => ?_, ?_⟩; · first | exact FnA.at_ (hv) rfl rfl | exact FnA.at_ (hfo) rfl rfl | exact FnA.at_ (hk) rfl rfl | exact FnA.at_ (ho) rfl rfl | exact FnA.at_ (hla) rfl rfl | exact FnA.at_ (hfol) rfl rfl | exact FnA.at_ (hpub) rfl rfl | exact FnA.at_ (hmg) rfl rfl | exact FnA.at_ (hsg) rfl rfl | exact FnA.at_s (hv) rfl simT | exact FnA.at_s (hv) rfl simF | exact FnA.at_s (hfo) rfl simT | exact FnA.at_s (hfo) rfl simF | exact FnA.at_s (hk) rfl simT | exact FnA.at_s (hk) rfl simF | exact FnA.at_s (ho) rfl simT | exact FnA.at_s (ho) rfl simF | exact FnA.at_s (hla) rfl simT | exact FnA.at_s (hla) rfl simF | exact FnA.at_s (hfol) rfl simT | exact FnA.at_s (hfol) rfl simF | exact FnA.at_s (hpub) rfl simT | exact FnA.at_s (hpub) rfl simF | exact FnA.at_s (hmg) rfl simT | exact FnA.at_s (hmg) rfl simF | exact FnA.at_s (hsg) rfl simT | exact FnA.at_s (hsg) rfl simF))
        | (refine gateA 1 rfl ?_; refine runA_call rfl ⟨_, evl, _, _, _, (fun _ _ => evlA), oblF, ?_⟩; apply Exists.intro; refine ⟨fun hg => ?_, ?_⟩; · first | exact FnA.at_ (hv) rfl rfl | exact FnA.at_ (hfo) rfl rfl | exact FnA.at_ (hk) rfl rfl | exact FnA.at_ (ho) rfl rfl | exact FnA.at_ (hla) rfl rfl | exact FnA.at_ (hfol) rfl rfl | exact FnA.at_ (hpub) rfl rfl | exact FnA.at_ (hmg) rfl rfl | exact FnA.at_ (hsg) rfl rfl | exact FnA.at_s (hv) rfl simT | exact FnA.at_s (hv) rfl simF | exact FnA.at_s (hfo) rfl simT | exact FnA.at_s (hfo) rfl simF | exact FnA.at_s (hk) rfl simT | exact FnA.at_s (hk) rfl simF | exact FnA.at_s (ho) rfl simT | exact FnA.at_s (ho) rfl simF | exact FnA.at_s (hla) rfl simT | exact FnA.at_s (hla) rfl simF | exact FnA.at_s (hfol) rfl simT | exact FnA.at_s (hfol) rfl simF | exact FnA.at_s (hpub) rfl simT | exact FnA.at_s (hpub) rfl simF | exact FnA.at_s (hmg) rfl simT | exact FnA.at_s (hmg) rfl simF | exact FnA.at_s (hsg) rfl simT | exact FnA.at_s (hsg) rfl simF)
        | (refine gateA 1 rfl ?_; refine runA_put ?_)
        | (refine gateBc ?_; first | (refine runB_nil (hK _ ?_); clear hK K) | (refine runB_op rfl ⟨_, evl, fun nb' => ?_⟩))
        | refine wpA_region (fun K hK => ?_)
        | (refine gateD ?_; first | (refine wpA_drawG false rfl (by kernel_rfl) (by kernel_rfl) (fun K hK => ?_)) | (refine wpA_drawG true rfl (by kernel_rfl) (by kernel_rfl) (fun K hK => ?_)))
        | (refine wpA_cond' ⟨_, evl, fun hb => ?_, fun hb => ?_⟩ <;> (try simp only [Bool.or_eq_true, Bool.and_eq_true, Bool.or_eq_false_iff, Bool.and_eq_false_iff, Bool.not_eq_true', Bool.not_eq_false', Bool.not_eq_true, Bool.not_eq_false, decide_eq_true_eq, decide_eq_false_iff_not, Bool.true_eq_false, Bool.false_eq_true, ne_eq, Classical.not_not, Int.not_lt, Int.not_le, Bool.not_true, Bool.not_false] at hb))
      | fail
  · exfalso; omega
  · exfalso; omega
  clear hfo hk ho hla hfol hpub hmg hsg hv
  refine runS_weak (Weak.nilRow 75 26 7 rfl) ?_
  repeat'
    first
      | first
        | (refine runS_nil (hK _ ?_); clear hK K)
        | refine stR ?_
        | (refine gateA 1 rfl ?_; refine runA_put ?_)
        | (refine gateBc ?_; first | (refine runB_nil (hK _ ?_); clear hK K) | (refine runB_op rfl ⟨_, evl, fun nb' => ?_⟩))
        | refine wpA_region (fun K hK => ?_)
        | (refine gateD ?_; first | (refine wpA_drawG false rfl (by kernel_rfl) (by kernel_rfl) (fun K hK => ?_)) | (refine wpA_drawG true rfl (by kernel_rfl) (by kernel_rfl) (fun K hK => ?_)))
        | (refine wpA_cond' ⟨_, evl, fun hb => ?_, fun hb => ?_⟩ <;> (try simp only [Bool.or_eq_true, Bool.and_eq_true, Bool.or_eq_false_iff, Bool.and_eq_false_iff, Bool.not_eq_true', Bool.not_eq_false', Bool.not_eq_true, Bool.not_eq_false, decide_eq_true_eq, decide_eq_false_iff_not, Bool.true_eq_false, Bool.false_eq_true, ne_eq, Classical.not_not, Int.not_lt, Int.not_le, Bool.not_true, Bool.not_false] at hb))
      | fail
  have e1 : ((findN l next.auth 1001 : Int) - 1 + 1).toNat = findN l next.auth 1001 := by omega
  have hil := insK_len (l := l) (i := findN l next.auth 1001) { next with sig := sg } hle
  refine ret_of (by simp) ⟨_, _, _, evl, ob0, ?_⟩
  refine OutOk.sims (Sims.tup (show SimsL _ _ [_, _] [_, _] from ⟨Sims.row rfl rfl rfl ?_ (fun i hi => ?_), Sims.refl _, trivial⟩)) ⟨lA_free (fun y => KeyWin.free y) _, trivial, trivial⟩
  · show _ + 1 + (l.length - _) = _
    rw [hil]; omega
  · rw [hil] at hi
    exact ins_el hle e1 e1 rfl i hi
end Go.Proofs.YtihnjbnlbedpaaaDoor
