import Derived.Test.YtchpbdecipcelaaGreatDoorSM39
namespace Go.Proofs.YtchpbdecipcelaaGreatDoor
set_option linter.unusedVariables false
set_option linter.unusedSimpArgs false
set_option maxHeartbeats 4000000
set_option maxRecDepth 100000
open Go.RowKit
theorem compact_snoc {α : Type} [DecidableEq α] : ∀ (l : List α) (x : α), Vd.compact (l ++ [x]) = if l.getLast? = some x then Vd.compact l else Vd.compact l ++ [x]
  | [], x => by simp [Vd.compact]
  | [a], x => by by_cases h : a = x <;> simp [Vd.compact, h]
  | a :: b :: r, x => by
    have ih := compact_snoc (b :: r) x
    rw [show a :: b :: r ++ [x] = a :: b :: (r ++ [x]) from rfl, Vd.compact, Vd.compact, show b :: (r ++ [x]) = b :: r ++ [x] from rfl, ih, show (a :: b :: r).getLast? = (b :: r).getLast? from by simp [List.getLast?_cons]]
    split <;> split <;> simp
theorem compact_step {α : Type} [DecidableEq α] [Inhabited α] {l : List α} {k : Nat} (h0 : 0 < k) (h : k < l.length) : Vd.compact (l.take (k + 1)) = if l.getD (k - 1) default = l.getD k default then Vd.compact (l.take k) else Vd.compact (l.take k) ++ [l.getD k default] := by
  have e : (l.take k).getLast? = some (l.getD (k - 1) default) := by
    rw [List.getLast?_eq_getElem?, List.length_take, List.getElem?_take, if_pos (by omega), show min k l.length - 1 = k - 1 from by omega, List.getElem?_eq_getElem (by omega), getD_get (by omega)]
  rw [List.take_succ_eq_append_getElem h, compact_snoc, e, getD_get h]
  simp
theorem pcs_app (a b : List Party) : pcs (a ++ b) = pcs a ++ pcs b := by simp [pcs]
theorem zeros_pcs : ∀ n, zerosA n [.int .i64 0, .int .i64 0] = pcs (List.replicate n default)
  | 0 => rfl
  | n + 1 => by rw [zerosA, zeros_pcs n, List.replicate_succ, pcs_cons]; rfl
theorem put_tail_pcs (a b d : List Party) (zs : List AV) (h : d.length = b.length) : putL (pcs (a ++ b) ++ zs) (a.length * 2) (pcs d) = pcs (a ++ d) ++ zs := by
  rw [pcs_app, pcs_app, List.append_assoc, List.append_assoc]
  exact put_mid (pcs_len a) (by rw [pcs_len, pcs_len, h])
theorem eqPP (p q : Party) : (decide (p.kind = q.kind) && decide (p.id = q.id)) = decide (q = p) := by
  rw [Bool.eq_iff_iff]
  cases p
  cases q
  simp
  omega
theorem take_set1 {α : Type} : ∀ {l : List α} {k : Nat}, k < l.length → ∀ x : α, (l.set k x).take (l.take k ++ [x]).length = l.take k ++ [x]
  | [], _, h, _ => by simp at h
  | y :: l, 0, _, x => by simp
  | y :: l, k + 1, h, x => by
    have := take_set1 (l := l) (k := k) (by simpa using h) x
    simpa using this
class FreeZ (zs : List AV) : Prop where
  free : AV.freeL zs
@[simp] theorem pz_free (l : List Party) (zs : List AV) [h : FreeZ zs] : AV.freeL (pcs l ++ zs) := by
  have : ∀ xs : List AV, AV.freeL xs → AV.freeL (xs ++ zs) := fun xs => by
    induction xs with
    | nil => exact fun _ => h.free
    | cons x xs ih => exact fun hx => ⟨hx.1, ih hx.2⟩
  exact this _ (pcs_free l)
@[simp] theorem pz_sub (m n : Nat) (l : List Party) (zs : List AV) [FreeZ zs] : AV.subL m n (pcs l ++ zs) := AV.subL_free _ (pz_free l zs)
@[simp] theorem pz_bel (m : Nat) (l : List Party) (zs : List AV) [FreeZ zs] : AV.belL m (pcs l ++ zs) := AV.belL_free _ (pz_free l zs)
class AtP (l : List Party) (off : Nat) (i : outParam Nat) : Prop where
  eq : off = i * 2
  lt : i < l.length
@[go_sem] theorem cut_pcs (l : List Party) (zs : List AV) (off : Nat) (i : Nat) [h : AtP l off i] : List.take 2 (List.drop off (pcs l ++ zs)) = (l.getD i default).av := by
  rw [h.eq]
  exact pcs_cut l zs i h.lt
@[go_sem] theorem putL_pcs (l : List Party) (zs : List AV) (off : Nat) (i : Nat) (x : Party) [h : AtP l off i] : putL (pcs l ++ zs) off [.raw (.int .i64 x.kind), .raw (.int .i64 x.id)] = pcs (l.set i x) ++ zs := by
  rw [h.eq]
  exact pcs_put l zs i x h.lt
def cmpctL (l : List Party) : List Party := Vd.compact l ++ List.replicate (l.length - (Vd.compact l).length) default
structure InC (l C : List Party) (i : Nat) : Prop where
  len : C.length = l.length
  take : C.take (Vd.compact (l.take i)).length = Vd.compact (l.take i)
  drop : ∀ j, i ≤ j + 1 → C.getD j default = l.getD j default
theorem compact_lt {l : List Party} {i k : Nat} (h0 : 0 < i) (h : (Vd.compact (l.take i)).length < i) (k0 : i ≤ k) (hk : k ≤ l.length) : (Vd.compact (l.take k)).length < k := by
  induction k with
  | zero => omega
  | succ k ih =>
    rcases Nat.lt_or_ge i (k + 1) with hlt | hge
    · rw [compact_step (by omega) (by omega)]
      have := ih (by omega) (by omega)
      split
      · omega
      · rw [List.length_append]; simp; omega
    · obtain rfl : i = k + 1 := by omega
      exact h
theorem Compact_G (l : List Party) (hl : l.length < 4611686018427387904) (c : Nat) (hlc : l.length ≤ c) (zs : List AV) [FreeZ zs] :
    FnG Tryz.prog 53 [.bsl 2 0 0 l.length c] [pcs l ++ zs] [] (.bsl 2 0 0 (Vd.compact l).length c) [pcs (cmpctL l) ++ zs] [] := by
  refine fnG_of tblOk Tryz.func53 rfl (by kernel_rfl) 61 Tryz.ntmps53 lenT [.tmp 2] rfl 1 (by simp) ?_
  simp only [entryG, argSl, Nat.zero_add, Nat.reduceAdd, List.length_cons, List.length_nil]
  try refine wkB trivial ?_
  try (refine Stop.mk ?_; intro K hK)
  refine wpA_cond' ⟨_, evl, fun hb => ?_, fun hb => ?_⟩
  · simp only [decide_eq_true_eq] at hb
    have e : Vd.compact l = l := by
      rcases l with _ | ⟨a, _ | ⟨b, r⟩⟩
      · rfl
      · rfl
      · simp at hb; omega
    rw [cmpctL, e, Nat.sub_self, List.replicate_zero, List.append_nil]
    try refine wkB trivial ?_
    try (refine Stop.mk ?_; intro K hK)
    all_goals (refine retG_of (by simp) ⟨_, _, _, evl, obq, OutG.bel ?_ obb, by simp, ?_, rfl, obb, obb⟩)
    all_goals first | rfl | (simp []; done) | (simp_all []; done) | (simp_all []; omega) | (simp []; grind) | (split <;> simp_all) | skip
  · simp only [decide_eq_false_iff_not] at hb
    try refine wkB trivial ?_
    try (refine Stop.mk ?_; intro K hK)
    refine wpA_loop (fun k : Nat => ⟨61, 1, [(0, true, .bsl 2 0 0 l.length c), (3, true, .raw (.int .i64 k))], [pcs l ++ zs], [], ((0, []), [], true)⟩)
      (fun k => 1 ≤ k ∧ k ≤ l.length ∧ Vd.compact (l.take k) = l.take k) (fun k => l.length - k) 1 ?_ ⟨by omega, by omega, ?_⟩ ?_
    · refine wkn ?_ ?_ ?_
      all_goals first | exact wk0 | refine wkS ?_ | skip
      all_goals (try trivial)
      all_goals ((repeat' apply And.intro) <;> first | exact wkL | skip)
    · rcases l with _ | ⟨a, r⟩
      · rfl
      · rfl
    · rintro k ⟨hk0, hk, hc⟩
      try refine wkB trivial ?_
      try (refine Stop.mk ?_; intro K hK)
      refine wpA_cond' ⟨_, evl, fun hlt => ?_, fun hge => ?_⟩
      · simp only [decide_eq_true_eq] at hlt
        have hst := compact_step hk0 (show k < l.length by omega)
        have hlp := pcs_len l
        have hlz : (pcs l ++ zs).length = l.length * 2 + zs.length := by rw [List.length_append, hlp]
        haveI i1 : AtP l (k * 2) k := ⟨rfl, by omega⟩
        haveI i2 : AtP l (((k : Int) - 1).toNat * 2) (k - 1) := ⟨by omega, by omega⟩
        try refine wkB trivial ?_
        try (refine Stop.mk ?_; intro K hK)
        rw [eqPP]
        refine wpA_cond' ⟨_, evl, fun hb => ?_, fun hb => ?_⟩
        · simp only [decide_eq_true_eq] at hb
          rw [if_pos hb, hc] at hst
          clear i1 i2
          try refine wkB trivial ?_
          try (refine Stop.mk ?_; intro K hK)
          refine wpA_loop (fun p : Nat × List Party => ⟨61, 1, [(0, true, .bsl 2 0 0 l.length c), (3, true, .raw (.int .i64 (Vd.compact (l.take (k + p.1))).length)), (4, true, .bsl 2 0 (k * 2) (l.length - k) (c - k)), (5, true, .raw (.int .i64 p.1))], [pcs p.2 ++ zs], [], ((0, []), [], true)⟩)
            (fun p => 1 ≤ p.1 ∧ p.1 ≤ l.length - k ∧ InC l p.2 (k + p.1)) (fun p => l.length - p.1) (1, l) ?_ ⟨by omega, by simp only; omega, ⟨rfl, ?_, fun _ _ => rfl⟩⟩ ?_
          · simp only [hst, List.length_take, Nat.min_eq_left hk]
            refine wkn ?_ ?_ ?_
            all_goals first | exact wk0 | refine wkS ?_ | skip
            all_goals (try trivial)
            all_goals ((repeat' apply And.intro) <;> first | exact wkL | skip)
          · simp only [hst, List.length_take, Nat.min_eq_left hk]
          · rintro ⟨k2, C⟩ ⟨h1, h2, hC⟩
            simp only at h1 h2 hC
            have hlt2 : (Vd.compact (l.take (k + k2))).length < k + k2 := compact_lt (i := k + 1) (by omega) (by rw [hst, List.length_take]; omega) (by omega) (by omega)
            have hlp := pcs_len C
            have hCl := hC.len
            have hlz : (pcs C ++ zs).length = l.length * 2 + zs.length := by rw [List.length_append, hlp, hCl]
            simp only
            rcases Nat.lt_or_ge k2 (l.length - k) with hlt3 | hge3
            · have hs2 := compact_step (l := l) (k := k + k2) (by omega) (by omega)
              have r1 := hC.drop (k + k2) (by omega)
              have r2 := hC.drop (k + k2 - 1) (by omega)
              have hnx := hC.take
              rw [← r1, ← r2] at hs2
              try refine wkB trivial ?_
              try (refine Stop.mk ?_; intro K hK)
              refine wpA_cond' ⟨_, evl, fun _ => ?_, fun hb => absurd (of_decide_eq_false hb) (by omega)⟩
              haveI i1 : AtP C (k * 2 + k2 * 2) (k + k2) := ⟨by omega, by omega⟩
              haveI i2 : AtP C (k * 2 + ((k2 : Int) - 1).toNat * 2) (k + k2 - 1) := ⟨by omega, by omega⟩
              generalize hk' : (Vd.compact (l.take (k + k2))).length = k' at *
              haveI i3 : AtP C (k' * 2) k' := ⟨rfl, by omega⟩
              try refine wkB trivial ?_
              try (refine Stop.mk ?_; intro K hK)
              rw [eqPP]
              refine wpA_cond' ⟨_, evl, fun hb => ?_, fun hb => ?_⟩
              · simp only [Bool.not_eq_true', decide_eq_false_iff_not] at hb
                rw [if_neg hb] at hs2
                clear i1 i2 i3
                haveI i1 : AtP C (k * 2 + k2 * 2) (k + k2) := ⟨by omega, by omega⟩
                haveI i3 : AtP C (k' * 2) k' := ⟨rfl, by omega⟩
                try refine wkB trivial ?_
                try (refine Stop.mk ?_; intro K hK)
                refine sStore tblOk rfl rfl rfl ⟨_, _, evl, _, evl, _, evl, _, evl, (by refine ⟨by simp [AV.oneL, AV.one, cellsA, Value.oneCell'], rfl, ?_⟩; show k' * 2 + 2 ≤ _; omega), _, evl, ?_⟩
                refine runS_nil (hK _ ?_); clear hK K
                try refine wkB trivial ?_
                try (refine Stop.mk ?_; intro K hK)
                refine ⟨(k2 + 1, C.set k' (C.getD (k + k2) default)), ⟨by simp only; omega, by simp only; omega, ⟨by simp [hCl], ?_, fun j hj => ?_⟩⟩, by simp only; omega, ?_⟩
                · simp only
                  rw [← Nat.add_assoc, hs2, ← hnx]
                  exact take_set1 (by omega) _
                · simp only at hj
                  rw [← hC.drop j (by omega), List.getD_eq_getElem?_getD, List.getElem?_set_ne (by omega), ← List.getD_eq_getElem?_getD]
                · simp only
                  rw [← Nat.add_assoc, hs2, List.length_append, hk']
                  refine wkn ?_ ?_ ?_
                  all_goals first | exact wk0 | refine wkS ?_ | skip
                  all_goals (try trivial)
                  all_goals ((repeat' apply And.intro) <;> first | exact wkL | skip)
              · simp only [Bool.not_eq_false', decide_eq_true_eq] at hb
                rw [if_pos hb] at hs2
                clear i1 i2 i3
                try refine wkB trivial ?_
                try (refine Stop.mk ?_; intro K hK)
                refine ⟨(k2 + 1, C), ⟨by simp only; omega, by simp only; omega, ⟨hCl, ?_, fun j hj => hC.drop j (by simp only at hj; omega)⟩⟩, by simp only; omega, ?_⟩
                · simp only
                  rw [← Nat.add_assoc, hs2, hk', hnx]
                · simp only
                  rw [← Nat.add_assoc, hs2, hk']
                  refine wkn ?_ ?_ ?_
                  all_goals first | exact wk0 | refine wkS ?_ | skip
                  all_goals (try trivial)
                  all_goals ((repeat' apply And.intro) <;> first | exact wkL | skip)
            · obtain rfl : k2 = l.length - k := by omega
              rw [show k + (l.length - k) = l.length from by omega] at hlt2 hC ⊢
              have hnx := hC.take
              rw [List.take_length] at hlt2 hnx ⊢
              generalize hk' : (Vd.compact l).length = k' at *
              try refine wkB trivial ?_
              try (refine Stop.mk ?_; intro K hK)
              refine wpA_cond' ⟨_, evl, fun hb => absurd (of_decide_eq_true hb) (by omega), fun _ => ?_⟩
              try refine wkB trivial ?_
              try (refine Stop.mk ?_; intro K hK)
              have hzl : zerosA (l.length - k') [Value.int .i64 0, Value.int .i64 0] = pcs (List.replicate (l.length - k') default) := zeros_pcs _
              have hput : putL (pcs C ++ zs) (k' * 2) (zerosA (l.length - k') [Value.int .i64 0, Value.int .i64 0]) = pcs (cmpctL l) ++ zs := by
                have e1 : C = Vd.compact l ++ C.drop k' := by rw [← hnx, List.take_append_drop]
                have e2 := put_tail_pcs (Vd.compact l) (C.drop k') (List.replicate (l.length - k') default) zs (by rw [List.length_replicate, List.length_drop, hCl])
                rw [hk', ← e1, ← hzl] at e2
                rw [e2, cmpctL, hk']
              refine runS_clear tblOk rfl rfl rfl rfl rfl rfl ⟨rfl, rfl, by simp [Value.oneCell']⟩ rfl (show k' * 2 + (l.length - k') * 2 ≤ _ by omega) fun bx' hbx => ?_
              rw [show (⟨.struct [(0, 3), (1, 3)], 2, 16, [Value.int .i64 0, Value.int .i64 0], [.int, .int]⟩ : TI).zero = [Value.int .i64 0, Value.int .i64 0] from rfl, hput] at hbx
              subst hbx
              refine runS_nil (hK _ ?_); clear hK K
              try refine wkB trivial ?_
              try (refine Stop.mk ?_; intro K hK)
              all_goals (refine retG_of (by simp) ⟨_, _, _, evl, obq, OutG.bel ?_ obb, by simp, ?_, rfl, obb, obb⟩)
              all_goals first | rfl | (simp []; done) | (simp_all []; done) | (simp_all []; omega) | (simp []; grind) | (split <;> simp_all) | skip
        · simp only [decide_eq_false_iff_not] at hb
          rw [if_neg hb] at hst
          clear i1 i2
          try refine wkB trivial ?_
          try (refine Stop.mk ?_; intro K hK)
          refine ⟨k + 1, ⟨by omega, by omega, ?_⟩, by omega, ?_⟩
          · rw [hst, hc, getD_get (by omega), ← List.take_succ_eq_append_getElem]
          · refine wkn ?_ ?_ ?_
            all_goals first | exact wk0 | refine wkS ?_ | skip
            all_goals (try trivial)
            all_goals ((repeat' apply And.intro) <;> first | exact wkL | skip)
      · simp only [decide_eq_false_iff_not] at hge
        obtain rfl : k = l.length := by omega
        rw [List.take_length] at hc
        have hz : pcs (cmpctL l) ++ zs = pcs l ++ zs := by rw [cmpctL, hc, Nat.sub_self, List.replicate_zero, List.append_nil]
        rw [hz, hc]
        try refine wkB trivial ?_
        try (refine Stop.mk ?_; intro K hK)
        all_goals (refine retG_of (by simp) ⟨_, _, _, evl, obq, OutG.bel ?_ obb, by simp, ?_, rfl, obb, obb⟩)
        all_goals first | rfl | (simp []; done) | (simp_all []; done) | (simp_all []; omega) | (simp []; grind) | (split <;> simp_all) | skip
end Go.Proofs.YtchpbdecipcelaaGreatDoor
