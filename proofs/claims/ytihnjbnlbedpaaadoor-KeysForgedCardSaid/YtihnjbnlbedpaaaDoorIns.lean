/- slices.Clone and slices.Insert, of windows. -/
import Derived.Test.YtihnjbnlbedpaaaDoorKeyA
import Derived.Test.YtihnjbnlbedpaaaDoorA7
namespace Go.Proofs.YtihnjbnlbedpaaaDoor
set_option linter.unusedVariables false
set_option linter.unusedSimpArgs false
set_option maxHeartbeats 4000000
set_option maxRecDepth 100000
open Go.RowKit
/-- The cells of windows. -/
def kcs (l : List KeyWin) : List AV := l.flatMap KeyWin.av
theorem av7 (x : KeyWin) : (KeyWin.av x).length = 7 := rfl
theorem kcs_len (l : List KeyWin) : (kcs l).length = l.length * 7 := flat_len av7 l
theorem kcs_free (l : List KeyWin) : AV.freeL (kcs l) := freeL_flat (fun x => KeyWin.free x) l
theorem kcs_app (a b : List KeyWin) : kcs (a ++ b) = kcs a ++ kcs b := List.flatMap_append
theorem kcs_one (x : KeyWin) : kcs [x] = KeyWin.av x := by simp [kcs]
theorem kcs_take (l : List KeyWin) (i : Nat) : (kcs l).take (i * 7) = kcs (l.take i) := flat_take av7 l i
theorem kcs_drop (l : List KeyWin) (i : Nat) : (kcs l).drop (i * 7) = kcs (l.drop i) := flat_drop av7 l i
theorem kcs_oneL (st : ASt) : ∀ l : List KeyWin, AV.oneL st (kcs l)
  | [] => trivial
  | x :: l => ⟨rfl, rfl, rfl, rfl, rfl, rfl, rfl, kcs_oneL st l⟩
def insK (l : List KeyWin) (i : Nat) (x : KeyWin) : List KeyWin := l.take i ++ x :: l.drop i
theorem insK_len {l : List KeyWin} {i : Nat} (x : KeyWin) (hi : i ≤ l.length) : (insK l i x).length = l.length + 1 := by simp [insK]; omega
theorem kcs_ins (l : List KeyWin) (i : Nat) (x : KeyWin) : kcs (insK l i x) = kcs (l.take i) ++ (KeyWin.av x ++ kcs (l.drop i)) := by
  rw [insK, kcs_app, ← List.singleton_append, kcs_app, kcs_one]
theorem ins_end (l : List KeyWin) (x : KeyWin) : insK l l.length x = l ++ [x] := by simp [insK]
def rawL (xs : List AV) : Prop := ∀ x ∈ xs, ∃ v, x = .raw v
theorem rawL_free : ∀ {xs : List AV}, rawL xs → AV.freeL xs
  | [], _ => trivial
  | x :: xs, h => by
    obtain ⟨v, rfl⟩ := h x (by simp)
    exact ⟨trivial, rawL_free fun y hy => h y (by simp [hy])⟩
theorem rawL_app {a b : List AV} (h : rawL a) (h' : rawL b) : rawL (a ++ b) := fun x hx => (List.mem_append.1 hx).elim (h x) (h' x)
theorem rawL_drop {a : List AV} {n : Nat} (h : rawL a) : rawL (a.drop n) := fun x hx => h x (List.mem_of_mem_drop hx)
theorem rawL_zeros (n : Nat) (z : List Value) : rawL (zerosA n z) := by
  induction n with
  | zero => intro x hx; simp [zerosA] at hx
  | succ n ih =>
    rw [zerosA]
    refine rawL_app (fun x hx => ?_) ih
    obtain ⟨v, _, rfl⟩ := List.mem_map.1 hx
    exact ⟨v, rfl⟩
theorem kcs_raw (l : List KeyWin) : rawL (kcs l) := by
  induction l with
  | nil => intro x hx; simp [kcs] at hx
  | cons k l ih =>
    refine rawL_app (a := KeyWin.av k) (b := kcs l) (fun x hx => ?_) ih
    simp only [KeyWin.av, List.mem_cons, List.not_mem_nil, or_false] at hx
    rcases hx with rfl | rfl | rfl | rfl | rfl | rfl | rfl <;> exact ⟨_, rfl⟩
theorem belL_raw {m : Nat} (xs : List AV) (h : rawL xs) : AV.belL m xs := belL_free xs (rawL_free h)
theorem renL_raw {f g : Nat → Nat} : ∀ {xs : List AV}, rawL xs → AV.renL f g xs = xs
  | [], _ => rfl
  | x :: xs, h => by
    obtain ⟨v, rfl⟩ := h x (by simp)
    rw [AV.renL, AV.ren, renL_raw fun y hy => h y (by simp [hy])]
theorem subL_raw {m n : Nat} {xs : List AV} (h : rawL xs) : AV.subL m n xs := AV.subL_free xs (rawL_free h)
/-- What comes back: a slice of the own variable that was given, or of a new one. -/
def InsR (M : List KeyWin) (r : AV) (bx' : List (List AV)) (rw' : List ARow) : Prop :=
  rw' = [] ∧ ((∃ c zs, r = .bsl 7 0 0 M.length c ∧ bx' = [kcs M ++ zs] ∧ rawL zs) ∨ ∃ c zs w, r = .bsl 7 1 0 M.length c ∧ bx' = [w, kcs M ++ zs] ∧ rawL zs ∧ rawL w)
theorem src_one (x : KeyWin) : (List.range 1).flatMap (els KeyWin.av [x]) = KeyWin.av x := rfl
theorem src_drop (l : List KeyWin) (zs : List AV) (i k : Nat) (hi : i ≤ l.length) (hk : (l.length - i) ≤ k) (q : Nat) (hq : q = l.length - i) : ((((kcs l ++ zs).drop (i * 7)).take (k * 7)).take (q * 7)) = kcs (l.drop i) := by
  subst hq
  rw [List.take_take, Nat.min_eq_left (Nat.mul_le_mul_right _ hk), List.drop_append_of_le_length (by rw [kcs_len]; exact Nat.mul_le_mul_right _ hi), kcs_drop]
  refine List.take_left' ?_
  rw [kcs_len]; simp
theorem oneL_app {st : ASt} {a b : List AV} (h : AV.oneL st a) (h' : AV.oneL st b) : AV.oneL st (a ++ b) := by
  induction a with
  | nil => exact h'
  | cons x r ih => exact ⟨h.1, ih h.2⟩
theorem zerosA_len : ∀ (n : Nat) (z : List Value), (zerosA n z).length = n * z.length
  | 0, _ => by simp [zerosA]
  | n + 1, z => by simp [zerosA, zerosA_len n z, Nat.add_mul, Nat.add_comm]
theorem insert_X (l : List KeyWin) (c : Nat) (zs : List AV) (i : Nat) (x : KeyWin) (hl : 0 < l.length ∧ l.length ≤ 1000) (hi : i ≤ l.length) (hc : l.length ≤ c ∧ c ≤ maxLen) (hz : zs.length = (c - l.length) * 7) (hzf : rawL zs) (hzo : ∀ st, AV.oneL st zs) :
    FnX Tryd.prog 53 [.bsl 7 0 0 l.length c, .raw (.int .i64 i), .lst 7 1 (els KeyWin.av [x])] [kcs l ++ zs] [] (InsR (insK l i x)) := by
  have hcl : (kcs l ++ zs).length = c * 7 := by rw [List.length_append, kcs_len, hz]; omega
  have hml : l.length + 1 ≤ maxLen := by simp only [maxLen]; omega
  refine fnX_of tblOk Tryd.func53 rfl (by kernel_rfl) 95 Tryd.ntmps53 (by simp only [List.length_cons, List.length_nil]; omega) [.tmp 6] rfl (by simp) ?_
  simp only [entryG, argSl, Nat.zero_add, Nat.reduceAdd, List.length_cons, List.length_nil]
  repeat'
    first
      | first
        | (refine runS_nil (hK _ ?_); clear hK K)
        | refine stB ?_
        | (refine gateS 2 rfl ?_; refine runS_appBsl tblOk rfl rfl rfl ⟨_, _, _, _, _, _, _, evl, obq, _, _, _, _, _, evl, _, evl, obq, obq, obs, _, evl, fun c hc1 hc2 => ⟨_, evl, ?_⟩⟩)
        | (refine gateA 1 rfl ?_; refine runA_put ?_)
        | (refine gateBc ?_; first | (refine runB_nil (hK _ ?_); clear hK K) | (refine runB_op rfl ⟨_, evl, fun nb' => ?_⟩))
        | refine wpA_region (fun K hK => ?_)
        | (refine gateD ?_; first | (refine wpA_drawG false rfl (by kernel_rfl) (by kernel_rfl) (fun K hK => ?_)) | (refine wpA_drawG true rfl (by kernel_rfl) (by kernel_rfl) (fun K hK => ?_)))
        | (refine wpA_cond' ⟨_, evl, fun hb => ?_, fun hb => ?_⟩ <;> (try simp only [Bool.or_eq_true, Bool.and_eq_true, Bool.or_eq_false_iff, Bool.and_eq_false_iff, Bool.not_eq_true', Bool.not_eq_false', Bool.not_eq_true, Bool.not_eq_false, decide_eq_true_eq, decide_eq_false_iff_not, Bool.true_eq_false, Bool.false_eq_true, ne_eq, Classical.not_not, Int.not_lt, Int.not_le, Bool.not_true, Bool.not_false] at hb))
      | fail
  · omega
  · -- behind the last
    have hin : i = l.length := by omega
    subst hin
    refine runS_appB tblOk rfl rfl rfl evl (by simp) (by trivial) (by rfl) (by rfl) (by rfl) (by exact ⟨rfl, rfl, by decide, rfl⟩) (by decide) (by rfl) ?_ (by rw [hcl]; omega) ⟨hml, ?_⟩ ?_ ?_
    · exact ⟨rfl, rfl, rfl, rfl, rfl, rfl, rfl, trivial⟩
    · show (l.length + 1) * 56 ≤ 140737488355328
      omega
    · intro hr bx' hb'
      have e1 : kcs l ++ zs = kcs l ++ (zs.take 7 ++ zs.drop 7) := by rw [List.take_append_drop]
      have e2 : [putL (kcs l ++ zs) (0 + l.length * 7) (KeyWin.av x)] = bx' := hb'
      rw [e1, put_mid (by rw [kcs_len]; omega) (by rw [av7, List.length_take, hz]; omega)] at e2
      have e3 : bx' = [kcs (insK l l.length x) ++ zs.drop 7] := by
        rw [← e2, ins_end, kcs_app, kcs_one, List.append_assoc]
      clear e1 e2 hb'
      subst e3
      have e4 : l.length + 1 = (insK l l.length x).length := (insK_len x hi).symm
      repeat'
        first
          | first
            | (refine runS_nil (hK _ ?_); clear hK K)
            | refine stB ?_
            | (refine gateS 2 rfl ?_; refine runS_appBsl tblOk rfl rfl rfl ⟨_, _, _, _, _, _, _, evl, obq, _, _, _, _, _, evl, _, evl, obq, obq, obs, _, evl, fun c hc1 hc2 => ⟨_, evl, ?_⟩⟩)
            | (refine gateA 1 rfl ?_; refine runA_put ?_)
            | (refine gateBc ?_; first | (refine runB_nil (hK _ ?_); clear hK K) | (refine runB_op rfl ⟨_, evl, fun nb' => ?_⟩))
            | refine wpA_region (fun K hK => ?_)
            | (refine gateD ?_; first | (refine wpA_drawG false rfl (by kernel_rfl) (by kernel_rfl) (fun K hK => ?_)) | (refine wpA_drawG true rfl (by kernel_rfl) (by kernel_rfl) (fun K hK => ?_)))
            | (refine wpA_cond' ⟨_, evl, fun hb => ?_, fun hb => ?_⟩ <;> (try simp only [Bool.or_eq_true, Bool.and_eq_true, Bool.or_eq_false_iff, Bool.and_eq_false_iff, Bool.not_eq_true', Bool.not_eq_false', Bool.not_eq_true, Bool.not_eq_false, decide_eq_true_eq, decide_eq_false_iff_not, Bool.true_eq_false, Bool.false_eq_true, ne_eq, Classical.not_not, Int.not_lt, Int.not_le, Bool.not_true, Bool.not_false] at hb))
          | fail
      refine retX_of 1 (.bsl 7 0 0 (insK l l.length x).length c) [kcs (insK l l.length x) ++ zs.drop 7] [] ⟨rfl, .inl ⟨c, _, rfl, rfl, rawL_drop hzf⟩⟩ (by simp) ⟨_, _, _, evl, obq, OutG.bel (by rw [e4]) (by simp [AV.bel]), by simp, rfl, rfl, ⟨belL_raw _ (rawL_app (kcs_raw _) (rawL_drop hzf)), trivial⟩, fun r hr => by cases hr⟩
    · intro hr c' hc1 hc2 bx' bn hbn hb'
      have hbn : bn = 1 := hbn.symm
      subst hbn
      have e2 : [kcs l ++ zs, (((kcs l ++ zs).drop 0).take (l.length * 7) ++ KeyWin.av x) ++ zerosA (c' - (l.length + 1)) (List.replicate 7 (Value.int .i64 0))] = bx' := hb'
      rw [List.drop_zero, List.take_left' (kcs_len l)] at e2
      have e3 : bx' = [kcs l ++ zs, kcs (insK l l.length x) ++ zerosA (c' - (l.length + 1)) (List.replicate 7 (Value.int .i64 0))] := by
        rw [← e2, ins_end, kcs_app, kcs_one, List.append_assoc]
      clear e2 hb'
      subst e3
      have e4 : l.length + 1 = (insK l l.length x).length := (insK_len x hi).symm
      repeat'
        first
          | first
            | (refine runS_nil (hK _ ?_); clear hK K)
            | refine stB ?_
            | (refine gateS 2 rfl ?_; refine runS_appBsl tblOk rfl rfl rfl ⟨_, _, _, _, _, _, _, evl, obq, _, _, _, _, _, evl, _, evl, obq, obq, obs, _, evl, fun c hc1 hc2 => ⟨_, evl, ?_⟩⟩)
            | (refine gateA 1 rfl ?_; refine runA_put ?_)
            | (refine gateBc ?_; first | (refine runB_nil (hK _ ?_); clear hK K) | (refine runB_op rfl ⟨_, evl, fun nb' => ?_⟩))
            | refine wpA_region (fun K hK => ?_)
            | (refine gateD ?_; first | (refine wpA_drawG false rfl (by kernel_rfl) (by kernel_rfl) (fun K hK => ?_)) | (refine wpA_drawG true rfl (by kernel_rfl) (by kernel_rfl) (fun K hK => ?_)))
            | (refine wpA_cond' ⟨_, evl, fun hb => ?_, fun hb => ?_⟩ <;> (try simp only [Bool.or_eq_true, Bool.and_eq_true, Bool.or_eq_false_iff, Bool.and_eq_false_iff, Bool.not_eq_true', Bool.not_eq_false', Bool.not_eq_true, Bool.not_eq_false, decide_eq_true_eq, decide_eq_false_iff_not, Bool.true_eq_false, Bool.false_eq_true, ne_eq, Classical.not_not, Int.not_lt, Int.not_le, Bool.not_true, Bool.not_false] at hb))
          | fail
      refine retX_of 2 (.bsl 7 1 0 (insK l l.length x).length c') [kcs l ++ zs, kcs (insK l l.length x) ++ zerosA (c' - (l.length + 1)) (List.replicate 7 (Value.int .i64 0))] [] ⟨rfl, .inr ⟨c', _, _, rfl, rfl, rawL_zeros _ _, rawL_app (kcs_raw _) hzf⟩⟩ (by simp) ⟨_, _, _, evl, obq, OutG.bel (by rw [e4]) (by simp [AV.bel]), by simp, rfl, rfl, ⟨belL_raw _ (rawL_app (kcs_raw _) hzf), belL_raw _ (rawL_app (kcs_raw _) (rawL_zeros _ _)), trivial⟩, fun r hr => by cases hr⟩
  · -- in between, and there is no room
    have e0 : (l.length : Int) + ((1 : Nat) : Int) - i = ((l.length + 1 - i : Nat) : Int) := by omega
    rw [e0]
    have hlen : i + (l.length + 1 - i) = l.length + 1 := by omega
    refine runS_appZ (sz := 7) (k := l.length + 1 - i) tblOk rfl rfl rfl rfl evl evl rfl rfl rfl ⟨rfl, by decide, rfl⟩ (by omega) rfl (by rw [hcl]; omega) ⟨by omega, ?_⟩ (by omega) ?_
    · show _ * 56 ≤ 140737488355328
      omega
    intro c' hc1 hc2 bx' bn hbn hb'
    have hbn : bn = 1 := hbn.symm
    subst hbn
    obtain ⟨Z, hZ⟩ : ∃ Z, Z = zerosA (l.length + 1 - i) (List.replicate 7 (Value.int .i64 0)) := ⟨_, rfl⟩
    have hZl : Z.length = (l.length + 1 - i) * 7 := by rw [hZ, zerosA_len]; rfl
    have hZf : rawL Z := by rw [hZ]; exact rawL_zeros _ _
    obtain ⟨Y, hY⟩ : ∃ Y, Y = zerosA (c' - (i + (l.length + 1 - i))) (List.replicate 7 (Value.int .i64 0)) := ⟨_, rfl⟩
    have hYf : rawL Y := by rw [hY]; exact rawL_zeros _ _
    have e2 : [kcs l ++ zs, (((kcs l ++ zs).drop 0).take (i * 7) ++ Z) ++ Y] = bx' := by rw [hZ, hY]; exact hb'
    clear hb' hZ hY
    have hti : (kcs (l.take i)).length = i * 7 := by rw [kcs_len, List.length_take, Nat.min_eq_left hi]
    have e3 : bx' = [kcs l ++ zs, kcs (l.take i) ++ (Z.take 7 ++ (Z.drop 7 ++ Y))] := by
      rw [← e2, List.drop_zero, List.take_append_of_le_length (by rw [kcs_len]; omega), kcs_take, ← List.append_assoc (Z.take 7), List.take_append_drop, List.append_assoc]
    clear e2
    subst e3
    have e4 : l.length + 1 = (insK l i x).length := (insK_len x hi).symm
    have hdi : (kcs (l.drop i)).length = (l.length - i) * 7 := by rw [kcs_len, List.length_drop]
    repeat'
      first
        | first
          | (refine runS_nil (hK _ ?_); clear hK K)
          | refine stB ?_
          | (refine gateS 2 rfl ?_; refine runS_appBsl tblOk rfl rfl rfl ⟨_, _, _, _, _, _, _, evl, obq, _, _, _, _, _, evl, _, evl, obq, obq, obs, _, evl, fun c hc1 hc2 => ⟨_, evl, ?_⟩⟩)
          | (refine gateA 1 rfl ?_; refine runA_put ?_)
          | (refine gateBc ?_; first | (refine runB_nil (hK _ ?_); clear hK K) | (refine runB_op rfl ⟨_, evl, fun nb' => ?_⟩))
          | refine wpA_region (fun K hK => ?_)
          | (refine gateD ?_; first | (refine wpA_drawG false rfl (by kernel_rfl) (by kernel_rfl) (fun K hK => ?_)) | (refine wpA_drawG true rfl (by kernel_rfl) (by kernel_rfl) (fun K hK => ?_)))
          | (refine wpA_cond' ⟨_, evl, fun hb => ?_, fun hb => ?_⟩ <;> (try simp only [Bool.or_eq_true, Bool.and_eq_true, Bool.or_eq_false_iff, Bool.and_eq_false_iff, Bool.not_eq_true', Bool.not_eq_false', Bool.not_eq_true, Bool.not_eq_false, decide_eq_true_eq, decide_eq_false_iff_not, Bool.true_eq_false, Bool.false_eq_true, ne_eq, Classical.not_not, Int.not_lt, Int.not_le, Bool.not_true, Bool.not_false] at hb))
        | fail
    refine runS_copyB tblOk rfl rfl rfl evl (by simp) (by trivial) (by rfl) (by rfl) (by exact ⟨rfl, rfl, by decide⟩) (by omega) (by rfl) ?_ ?_ (q := 1) (by omega) (bx' := [kcs l ++ zs, kcs (l.take i) ++ (KeyWin.av x ++ (Z.drop 7 ++ Y))]) ?_ ?_
    · exact ⟨rfl, rfl, rfl, rfl, rfl, rfl, rfl, trivial⟩
    · simp only [List.length_append, hti, List.length_take, List.length_drop, hZl]; omega
    · show [kcs l ++ zs, putL (kcs (l.take i) ++ (Z.take 7 ++ (Z.drop 7 ++ Y))) (i * 7) (KeyWin.av x)] = _
      rw [put_mid (by omega) (by rw [av7, List.length_take, hZl]; omega)]
    have t1 : ((i : Int) + ((1 : Nat) : Int)).toNat = i + 1 := by omega
    repeat'
      first
        | first
          | (refine runS_nil (hK _ ?_); clear hK K)
          | refine stB ?_
          | (refine gateS 2 rfl ?_; refine runS_appBsl tblOk rfl rfl rfl ⟨_, _, _, _, _, _, _, evl, obq, _, _, _, _, _, evl, _, evl, obq, obq, obs, _, evl, fun c hc1 hc2 => ⟨_, evl, ?_⟩⟩)
          | (refine gateA 1 rfl ?_; refine runA_put ?_)
          | (refine gateBc ?_; first | (refine runB_nil (hK _ ?_); clear hK K) | (refine runB_op rfl ⟨_, evl, fun nb' => ?_⟩))
          | refine wpA_region (fun K hK => ?_)
          | (refine gateD ?_; first | (refine wpA_drawG false rfl (by kernel_rfl) (by kernel_rfl) (fun K hK => ?_)) | (refine wpA_drawG true rfl (by kernel_rfl) (by kernel_rfl) (fun K hK => ?_)))
          | (refine wpA_cond' ⟨_, evl, fun hb => ?_, fun hb => ?_⟩ <;> (try simp only [Bool.or_eq_true, Bool.and_eq_true, Bool.or_eq_false_iff, Bool.and_eq_false_iff, Bool.not_eq_true', Bool.not_eq_false', Bool.not_eq_true, Bool.not_eq_false, decide_eq_true_eq, decide_eq_false_iff_not, Bool.true_eq_false, Bool.false_eq_true, ne_eq, Classical.not_not, Int.not_lt, Int.not_le, Bool.not_true, Bool.not_false] at hb))
        | fail
    refine runS_copyB tblOk rfl rfl rfl evl (by simp) ?_ (by rfl) (by rfl) (by exact ⟨rfl, rfl, by decide⟩) (by omega) (by rfl) ?_ ?_ (q := l.length - i) (by omega) (bx' := [kcs l ++ zs, kcs (insK l i x) ++ Y]) ?_ ?_
    · rw [hcl]; omega
    · exact oneL_take (oneL_drop (oneL_app (kcs_oneL _ _) (hzo _)))
    · simp only [List.length_append, hti, av7, List.length_drop, hZl]; omega
    · rw [src_drop l zs i (l.length - i) hi (Nat.le_refl _) _ rfl, t1]
      have e5 : kcs (l.take i) ++ (KeyWin.av x ++ (Z.drop 7 ++ Y)) = (kcs (l.take i) ++ KeyWin.av x) ++ (Z.drop 7 ++ Y) := by simp only [List.append_assoc]
      show [kcs l ++ zs, putL (kcs (l.take i) ++ (KeyWin.av x ++ (Z.drop 7 ++ Y))) ((i + 1) * 7) (kcs (l.drop i))] = _
      rw [e5, put_mid (by rw [List.length_append, hti, av7]; omega) (by rw [hdi, List.length_drop, hZl]; omega), kcs_ins]
      simp only [List.append_assoc]
    repeat'
      first
        | first
          | (refine runS_nil (hK _ ?_); clear hK K)
          | refine stB ?_
          | (refine gateS 2 rfl ?_; refine runS_appBsl tblOk rfl rfl rfl ⟨_, _, _, _, _, _, _, evl, obq, _, _, _, _, _, evl, _, evl, obq, obq, obs, _, evl, fun c hc1 hc2 => ⟨_, evl, ?_⟩⟩)
          | (refine gateA 1 rfl ?_; refine runA_put ?_)
          | (refine gateBc ?_; first | (refine runB_nil (hK _ ?_); clear hK K) | (refine runB_op rfl ⟨_, evl, fun nb' => ?_⟩))
          | refine wpA_region (fun K hK => ?_)
          | (refine gateD ?_; first | (refine wpA_drawG false rfl (by kernel_rfl) (by kernel_rfl) (fun K hK => ?_)) | (refine wpA_drawG true rfl (by kernel_rfl) (by kernel_rfl) (fun K hK => ?_)))
          | (refine wpA_cond' ⟨_, evl, fun hb => ?_, fun hb => ?_⟩ <;> (try simp only [Bool.or_eq_true, Bool.and_eq_true, Bool.or_eq_false_iff, Bool.and_eq_false_iff, Bool.not_eq_true', Bool.not_eq_false', Bool.not_eq_true, Bool.not_eq_false, decide_eq_true_eq, decide_eq_false_iff_not, Bool.true_eq_false, Bool.false_eq_true, ne_eq, Classical.not_not, Int.not_lt, Int.not_le, Bool.not_true, Bool.not_false] at hb))
        | fail
    refine retX_of 2 (.bsl 7 1 0 (insK l i x).length c') [kcs l ++ zs, kcs (insK l i x) ++ Y] [] ⟨rfl, .inr ⟨c', _, _, rfl, rfl, hYf, rawL_app (kcs_raw _) hzf⟩⟩ (by simp) ⟨_, _, _, evl, obq, OutG.bel (by rw [← e4, hlen]) (by simp [AV.bel]), by simp, rfl, rfl, ⟨belL_raw _ (rawL_app (kcs_raw _) hzf), belL_raw _ (rawL_app (kcs_raw _) hYf), trivial⟩, fun r hr => by cases hr⟩
  · have t1 : ((i : Int) + ((1 : Nat) : Int)).toNat = i + 1 := by omega
    have t2 : ((l.length : Int) + ((1 : Nat) : Int)).toNat = l.length + 1 := by omega
    refine runS_overlaps (sz := 7) (t := 22) (tr := 4) tblOk rfl rfl rfl Tryd.func88 (by kernel_rfl) (by kernel_rfl) (by kernel_rfl) (by kernel_rfl) rfl (by rfl) (by rfl) evl evl ⟨rfl, by decide⟩ rfl ?_ ?_
    · rw [hcl]; omega
    have e4 : l.length + 1 = (insK l i x).length := (insK_len x hi).symm
    have hti : (kcs (l.take i)).length = i * 7 := by rw [kcs_len, List.length_take, Nat.min_eq_left hi]
    have hdi : (kcs (l.drop i)).length = (l.length - i) * 7 := by rw [kcs_len, List.length_drop]
    obtain ⟨W, hW⟩ : ∃ W, W = kcs ((l.drop i).take 1) := ⟨_, rfl⟩
    have hWl : W.length = 7 := by rw [hW, kcs_len, List.length_take, List.length_drop]; omega
    have hsp : kcs l ++ zs = (kcs (l.take i) ++ W) ++ ((kcs ((l.drop i).drop 1) ++ zs.take 7) ++ zs.drop 7) := by
      rw [hW, List.append_assoc (kcs ((l.drop i).drop 1)), List.take_append_drop, ← List.append_assoc, ← kcs_app, ← kcs_app, List.append_assoc, List.take_append_drop, List.take_append_drop]
    repeat'
      first
        | first
          | (refine runS_nil (hK _ ?_); clear hK K)
          | refine stB ?_
          | (refine gateS 2 rfl ?_; refine runS_appBsl tblOk rfl rfl rfl ⟨_, _, _, _, _, _, _, evl, obq, _, _, _, _, _, evl, _, evl, obq, obq, obs, _, evl, fun c hc1 hc2 => ⟨_, evl, ?_⟩⟩)
          | (refine gateA 1 rfl ?_; refine runA_put ?_)
          | (refine gateBc ?_; first | (refine runB_nil (hK _ ?_); clear hK K) | (refine runB_op rfl ⟨_, evl, fun nb' => ?_⟩))
          | refine wpA_region (fun K hK => ?_)
          | (refine gateD ?_; first | (refine wpA_drawG false rfl (by kernel_rfl) (by kernel_rfl) (fun K hK => ?_)) | (refine wpA_drawG true rfl (by kernel_rfl) (by kernel_rfl) (fun K hK => ?_)))
          | (refine wpA_cond' ⟨_, evl, fun hb => ?_, fun hb => ?_⟩ <;> (try simp only [Bool.or_eq_true, Bool.and_eq_true, Bool.or_eq_false_iff, Bool.and_eq_false_iff, Bool.not_eq_true', Bool.not_eq_false', Bool.not_eq_true, Bool.not_eq_false, decide_eq_true_eq, decide_eq_false_iff_not, Bool.true_eq_false, Bool.false_eq_true, ne_eq, Classical.not_not, Int.not_lt, Int.not_le, Bool.not_true, Bool.not_false] at hb))
        | fail
    refine runS_copyB tblOk rfl rfl rfl evl (by simp) ?_ (by rfl) (by rfl) (by exact ⟨rfl, rfl, by decide⟩) (by omega) (by rfl) ?_ ?_ (q := l.length - i) (by omega) (bx' := [(kcs (l.take i) ++ W) ++ (kcs (l.drop i) ++ zs.drop 7)]) ?_ ?_
    · rw [hcl]; omega
    · exact oneL_take (oneL_drop (oneL_app (kcs_oneL _ _) (hzo _)))
    · rw [hcl]; omega
    · rw [src_drop l zs i _ hi (by omega) _ rfl, t1]
      show [putL (kcs l ++ zs) ((i + 1) * 7) (kcs (l.drop i))] = _
      rw [hsp, put_mid (by rw [List.length_append, hti, hWl]; omega) (by rw [List.length_append, kcs_len, hdi, List.length_drop, List.length_drop, List.length_take, hz]; omega)]
    repeat'
      first
        | first
          | (refine runS_nil (hK _ ?_); clear hK K)
          | refine stB ?_
          | (refine gateS 2 rfl ?_; refine runS_appBsl tblOk rfl rfl rfl ⟨_, _, _, _, _, _, _, evl, obq, _, _, _, _, _, evl, _, evl, obq, obq, obs, _, evl, fun c hc1 hc2 => ⟨_, evl, ?_⟩⟩)
          | (refine gateA 1 rfl ?_; refine runA_put ?_)
          | (refine gateBc ?_; first | (refine runB_nil (hK _ ?_); clear hK K) | (refine runB_op rfl ⟨_, evl, fun nb' => ?_⟩))
          | refine wpA_region (fun K hK => ?_)
          | (refine gateD ?_; first | (refine wpA_drawG false rfl (by kernel_rfl) (by kernel_rfl) (fun K hK => ?_)) | (refine wpA_drawG true rfl (by kernel_rfl) (by kernel_rfl) (fun K hK => ?_)))
          | (refine wpA_cond' ⟨_, evl, fun hb => ?_, fun hb => ?_⟩ <;> (try simp only [Bool.or_eq_true, Bool.and_eq_true, Bool.or_eq_false_iff, Bool.and_eq_false_iff, Bool.not_eq_true', Bool.not_eq_false', Bool.not_eq_true, Bool.not_eq_false, decide_eq_true_eq, decide_eq_false_iff_not, Bool.true_eq_false, Bool.false_eq_true, ne_eq, Classical.not_not, Int.not_lt, Int.not_le, Bool.not_true, Bool.not_false] at hb))
        | fail
    refine runS_copyB tblOk rfl rfl rfl evl (by simp) (by trivial) (by rfl) (by rfl) (by exact ⟨rfl, rfl, by decide⟩) (by omega) (by rfl) ?_ ?_ (q := 1) (by omega) (bx' := [kcs (insK l i x) ++ zs.drop 7]) ?_ ?_
    · exact ⟨rfl, rfl, rfl, rfl, rfl, rfl, rfl, trivial⟩
    · simp only [List.length_append, hti, hWl, hdi, List.length_drop, hz]; omega
    · show [putL ((kcs (l.take i) ++ W) ++ (kcs (l.drop i) ++ zs.drop 7)) (i * 7) (KeyWin.av x)] = _
      rw [List.append_assoc, put_mid (by omega) (by rw [av7, hWl]), kcs_ins]
      simp only [List.append_assoc]
    repeat'
      first
        | first
          | (refine runS_nil (hK _ ?_); clear hK K)
          | refine stB ?_
          | (refine gateS 2 rfl ?_; refine runS_appBsl tblOk rfl rfl rfl ⟨_, _, _, _, _, _, _, evl, obq, _, _, _, _, _, evl, _, evl, obq, obq, obs, _, evl, fun c hc1 hc2 => ⟨_, evl, ?_⟩⟩)
          | (refine gateA 1 rfl ?_; refine runA_put ?_)
          | (refine gateBc ?_; first | (refine runB_nil (hK _ ?_); clear hK K) | (refine runB_op rfl ⟨_, evl, fun nb' => ?_⟩))
          | refine wpA_region (fun K hK => ?_)
          | (refine gateD ?_; first | (refine wpA_drawG false rfl (by kernel_rfl) (by kernel_rfl) (fun K hK => ?_)) | (refine wpA_drawG true rfl (by kernel_rfl) (by kernel_rfl) (fun K hK => ?_)))
          | (refine wpA_cond' ⟨_, evl, fun hb => ?_, fun hb => ?_⟩ <;> (try simp only [Bool.or_eq_true, Bool.and_eq_true, Bool.or_eq_false_iff, Bool.and_eq_false_iff, Bool.not_eq_true', Bool.not_eq_false', Bool.not_eq_true, Bool.not_eq_false, decide_eq_true_eq, decide_eq_false_iff_not, Bool.true_eq_false, Bool.false_eq_true, ne_eq, Classical.not_not, Int.not_lt, Int.not_le, Bool.not_true, Bool.not_false] at hb))
        | fail
    refine retX_of 1 (.bsl 7 0 0 (insK l i x).length c) [kcs (insK l i x) ++ zs.drop 7] [] ⟨rfl, .inl ⟨c, _, rfl, rfl, rawL_drop hzf⟩⟩ (by simp) ⟨_, _, _, evl, obq, OutG.bel (by rw [← e4, t2, Nat.sub_zero]) (by simp [AV.bel]), by simp, rfl, rfl, ⟨belL_raw _ (rawL_app (kcs_raw _) (rawL_drop hzf)), trivial⟩, fun r hr => by cases hr⟩
end Go.Proofs.YtihnjbnlbedpaaaDoor
