import Derived.LaidMore
import Derived.Test.YtchpbdecipcelaaGreatDoorRows
import Derived.Test.YtchpbdecipcelaaGreatDoorE08
import Derived.Test.YtchpbdecipcelaaGreatDoorE33
import Derived.Test.YtchpbdecipcelaaGreatDoorE49
namespace Go.Proofs.YtchpbdecipcelaaGreatDoor
set_option linter.unusedVariables false
set_option linter.unusedSimpArgs false
set_option maxHeartbeats 4000000
set_option maxRecDepth 100000
open Go.RowKit
theorem open_int {n : Nat} {xs : List AV} (h : CellsOk tbl (n + 1) 3 xs) : ∃ m : Int, xs = [.raw (.int .i64 m)] ∧ inK .i64 m := by
  simp only [CellsOk, cutOk, List.map_cons, List.map_nil, List.replicate_succ, List.replicate_zero, tbl_3] at h
  exact h
theorem open_list {α : Type} [Inhabited α] {av : α → List AV} {Q : α → Prop} {sz m : Nat} {el : Nat → List AV} (h : ∀ i, i < m → ∃ c : α, SimL (el i) (av c) ∧ Q c) : ∃ l : List α, Sim (.lst sz m el) (lA sz av l) ∧ (∀ c ∈ l, Q c) ∧ l.length = m := by
  have hc : ∀ i, ∃ c : α, i < m → SimL (el i) (av c) ∧ Q c := fun i => by
    by_cases hi : i < m
    · obtain ⟨c, h1⟩ := h i hi
      exact ⟨c, fun _ => h1⟩
    · exact ⟨default, fun h => absurd h hi⟩
  refine ⟨(List.range m).map fun i => (hc i).choose, ?_, fun c hcm => ?_, by simp⟩
  · refine Sim.lst (by simp) fun i hi => ?_
    have : ((List.range m).map fun i => (hc i).choose).getD i default = (hc i).choose := by simp [hi]
    simp only [els, this]
    exact ((hc i).choose_spec hi).1
  · obtain ⟨i, hi, rfl⟩ := List.mem_map.1 hcm
    exact ((hc i).choose_spec (List.mem_range.1 hi)).2
abbrev Lim {α : Type} (l : List α) : Prop := l.length ≤ 20000000000000
theorem open_sl {α : Type} [Inhabited α] {av : α → List AV} {Q : α → Prop} {n t e : Nat} {xs : List AV} {i j : TI} (b : Nat) (h : CellsOk tbl (n + 1) t xs) (h1 : tbl t = some i) (h2 : i.k = .slice e) (h3 : tbl e = some j) (hb : b ≤ j.bytes) (h8 : 8 ≤ b) (hQ : ∀ ys, CellsOk tbl n e ys → ∃ c : α, SimL ys (av c) ∧ Q c) :
    ∃ (y : AV) (l : List α), xs = [y] ∧ Sim y (lA j.size av l) ∧ (∀ c ∈ l, Q c) ∧ Lim l := by
  simp only [CellsOk, h1, h2, h3] at h
  obtain ⟨m, el, rfl, ⟨-, hm⟩, hel⟩ := h
  obtain ⟨l, s, q, g⟩ := open_list (av := av) (Q := Q) (sz := j.size) (m := m) (el := el) fun i hi => hQ _ (hel i hi).2
  have h5 : m * 8 ≤ m * j.bytes := Nat.mul_le_mul_left _ (Nat.le_trans h8 hb)
  have h6 : m * 8 ≤ 140737488351232 := Nat.le_trans h5 hm
  exact ⟨_, l, rfl, s, q, by unfold Lim; omega⟩
theorem open_ints {n : Nat} {xs : List AV} (h : CellsOk tbl (n + 2) 51 xs) : ∃ (y : AV) (l : List Int), xs = [y] ∧ Sim y (liA l) ∧ (∀ x ∈ l, inK .i64 x) ∧ Lim l :=
  open_sl (av := iC) 8 h rfl rfl rfl (Nat.le_refl _) (Nat.le_refl _) fun ys hy => by
    obtain ⟨m, rfl, hm⟩ := open_int hy
    exact ⟨m, SimL.refl _, hm⟩
theorem open_Party {n : Nat} {xs : List AV} (h : CellsOk tbl (n + 2) 57 xs) : ∃ c : Party, SimL xs c.av ∧ True := by
  simp only [CellsOk, cutOk, List.map_cons, List.map_nil, List.replicate_succ, List.replicate_zero, tbl_3, tbl_57] at h
  obtain ⟨a, b, rfl, -, ⟨m0, rfl, h0⟩, a, b, rfl, -, ⟨m1, rfl, h1⟩, rfl⟩ := h
  exact ⟨⟨m0, m1⟩, SimL.of_eq rfl, trivial⟩
theorem open_parties {n : Nat} {xs : List AV} (h : CellsOk tbl (n + 3) 32 xs) : ∃ (y : AV) (l : List Party), xs = [y] ∧ Sim y (lA 2 Party.av l) ∧ Lim l := by
  obtain ⟨y, l, h0, h1, -, h2⟩ := open_sl (av := Party.av) (Q := fun _ => True) 16 h rfl rfl rfl (by decide) (by decide) fun ys hy => open_Party hy
  exact ⟨y, l, h0, h1, h2⟩
theorem open_Bound {n : Nat} {xs : List AV} (h : CellsOk tbl (n + 4) 36 xs) : ∃ c : Bound, SimL xs c.av ∧ Lim c.who := by
  simp only [CellsOk, cutOk, List.map_cons, List.map_nil, tbl_36, tbl_3, tbl_32] at h
  obtain ⟨a, b, rfl, -, ⟨m0, rfl, h0⟩, a, b, rfl, -, ⟨m1, rfl, h1⟩, a, b, rfl, -, ⟨m2, rfl, h2⟩, a, b, rfl, -, h3, rfl⟩ := h
  obtain ⟨y, l, rfl, s, g⟩ := open_parties (n := n) h3
  exact ⟨⟨m0, m1, m2, l⟩, ⟨Sim.refl _, Sim.refl _, Sim.refl _, s, trivial⟩, g⟩
theorem open_bounds {n : Nat} {xs : List AV} (h : CellsOk tbl (n + 5) 31 xs) : ∃ (y : AV) (l : List Bound), xs = [y] ∧ Sim y (lA 4 Bound.av l) ∧ (∀ b ∈ l, Lim b.who) ∧ Lim l :=
  open_sl (av := Bound.av) (Q := fun b => Lim b.who) 48 h rfl rfl rfl (by decide) (by decide) fun ys hy => open_Bound hy
theorem tabs_of_laid {W : World} (h : laidMetH Tryz.prog [("math/bits.deBruijn32tab", Rows.laid_math_bits_deBruijn32tab), ("math/bits.deBruijn64tab", Rows.laid_math_bits_deBruijn64tab), ("internal/strconv.uint64pow10", Rows.laid_internal_strconv_uint64pow10)] W) : Tabs Tryz.prog W := by
  intro g hg
  rw [MakeChecks.laidMetH_plain _ _ _ (by kernel_rfl)] at h
  obtain ⟨ps, ⟨g0, t0, cs0, f0, p0, q0, hg0, ht0, hv0, hd0, ⟨g1, t1, cs1, f1, p1, q1, hg1, ht1, hv1, hd1, ⟨g2, t2, cs2, f2, p2, q2, hg2, ht2, hv2, hd2, _, _⟩, _⟩, _⟩, _, _⟩ := h
  obtain rfl := Option.some.inj (hg.symm.trans hg2)
  obtain ⟨t, e, n, k1, k2, k3, k4, k5⟩ : ∃ t e n, (Tryz.prog.globals[g]?).map (·.type) = some t ∧ Tryz.prog.underlying t = some (.array n e) ∧ Tryz.prog.underlying e = some (.int .u64) ∧ Tryz.prog.cellsOf e = 1 ∧ Tryz.prog.cellsOf t = n := by
    obtain rfl : g = 2 := Option.some.inj (hg2.symm.trans (show Tryz.prog.globalNamed "internal/strconv.uint64pow10" = some 2 by kernel_rfl))
    exact ⟨302, 64, 20, by kernel_rfl, by kernel_rfl, by kernel_rfl, by kernel_rfl, by kernel_rfl⟩
  obtain rfl := Option.some.inj (k1.symm.trans ht2)
  unfold Lib.TabIs
  rw [hv2]
  have hd2' : DataW.trod (fun _ => ()) Tryz.prog W 0 (fun _ => true) false f2 t cs2.toList = some (Lib.tabData .u64 Lib.pow10Tab, p2) := hd2
  rw [← Lib.cells_of_tab k2 k3 k4 k5 hd2']
end Go.Proofs.YtchpbdecipcelaaGreatDoor
namespace Go.Proofs.YtchpbdecipcelaaGreatDoor
set_option linter.unusedVariables false
set_option linter.unusedSimpArgs false
set_option maxHeartbeats 4000000
set_option maxRecDepth 100000
open Go.RowKit
theorem smallS (l : List Int) (k : Nat) (h : k < l.length) : ((l.take (k + 1)).all fun x => decide (-3000000000000000 ≤ x) && decide (x ≤ 3000000000000000)) = (((l.take k).all fun x => decide (-3000000000000000 ≤ x) && decide (x ≤ 3000000000000000)) && (decide (-3000000000000000 ≤ l.getD k 0) && decide (l.getD k 0 ≤ 3000000000000000))) := by
  rw [List.take_succ_eq_append_getElem h, List.all_append]
  simp [List.getD_eq_getElem?_getD, h]
theorem exact_A (l : List Bound) (hl : Lim l) (hw : ∀ b ∈ l, Lim b.who) (n : Int) (blamed : List Party) (hbl : Lim blamed) (at_ : List Int) (hat : Lim at_) :
    FnA Tryz.prog 4 [lA 4 Bound.av l, .raw (.int .i64 n), lA 2 Party.av blamed, liA at_] (.raw (.bool true)) := by
  have hh := head44_A
  have hfl : (lA 4 Bound.av l).free := lA_free (fun y => Bound.free y) _
  have hfb : (lA 2 Party.av blamed).free := lA_free (fun y => Party.free y) _
  have hfa := liA_free at_
  unfold Lim at hl hw hbl hat
  by_cases hc : l.length ≤ 300 ∧ 1 ≤ n ∧ n ≤ 40
  · have hP := Possible_A l n blamed
    by_cases ha : askP l n blamed
    · obtain ⟨h1, h2, h3⟩ := hc
      obtain ⟨-, -, hcr, hb⟩ := id ha
      obtain ⟨N, rfl⟩ : ∃ N : Nat, n = N := ⟨n.toNat, by omega⟩
      rw [possE, if_pos ha] at hP
      simp only [Int.toNat_natCast] at hP
      have hT := timesR_A l (by omega) N (by omega) hb blamed (by omega)
      have hti := times_iff (by omega) hb blamed
      have hK := fun r (hr : timesM l N blamed = some r) => keptL_A l (by omega) (fun b hb => by have := hw b hb; omega) r (by rw [(times_in hb blamed hr).len]; omega) (fun i => by have := (times_in hb blamed hr).lim i; omega) blamed (by omega)
      have hKk := fun r (hr : timesM l N blamed = some r) => times_kept hb blamed hr
      have hkp := fun (h : l.all (keptOne at_ blamed) = true) => kept_poss (n := N) (by omega) hb blamed h
      have hKa := fun (hs : at_.all (fun x => decide (-3000000000000000 ≤ x) && decide (x ≤ 3000000000000000)) = true) => keptL_A l (by omega) (fun b hb => by have := hw b hb; omega) at_ (by omega) (fun i => by
        rcases Nat.lt_or_ge i at_.length with hi | hi
        · have := List.all_eq_true.1 hs _ (memD hi)
          rw [Bool.and_eq_true, decide_eq_true_iff, decide_eq_true_iff] at this
          have : at_.getD i 0 = at_.getD i default := rfl
          omega
        · rw [List.getD_eq_getElem?_getD, List.getElem?_eq_none hi]; simp) blamed (by omega)
      have hKn := keptL_A l (by omega) (fun b hb => by have := hw b hb; omega) [] (by simp) (fun i => by simp) blamed (by omega)
      clear ha hcr hb hw hbl
      generalize possM l N blamed = p at *
      have hfin := smallS at_
      have hall : at_.take at_.length = at_ := List.take_length
      have h0 : (at_.take 0).all (fun x => decide (-3000000000000000 ≤ x) && decide (x ≤ 3000000000000000)) = true := rfl
      generalize hKb : l.all (keptOne at_ blamed) = K at *
      refine fnA_of tblOk Tryz.func4 rfl (by kernel_rfl) 109 Tryz.ntmps4 lenT [.tmp 8] rfl ?_
      simp only [entrySt, argSl, Nat.zero_add, Nat.reduceAdd]
      try refine wkG (And.intro hh hP) ?_
      try (refine Stop.mk ?_; intro K hK)
      refine wpA_cond' ⟨_, evl, fun hb => absurd hb (by simp; omega), fun _ => ?_⟩
      try refine wkG hP ?_
      try (refine Stop.mk ?_; intro K hK)
      refine wpA_cond' ⟨_, evl, fun hb => absurd hb (by simp), fun _ => ?_⟩
      have hKk2 := hKk
      cases ht : timesM l N blamed
      case' none =>
        rw [ht] at hT hti
        have hti : false = p := hti
        subst hti
        simp only [resT] at hT
        have hf0 := liA_free []
        try refine wkG (And.intro hT hKn) ?_
        try (refine Stop.mk ?_; intro K hK)
        refine wpA_cond' ⟨_, evl, fun hb => absurd hb (by simp), fun _ => ?_⟩
      case' some r =>
        rw [ht] at hT hti
        have hti : true = p := hti
        subst hti
        simp only [resT] at hT
        have hf0 := liA_free r
        have hKr := hK r ht
        rw [hKk r ht] at hKr
        try refine wkG (And.intro hT hKr) ?_
        try (refine Stop.mk ?_; intro K hK)
        refine wpA_cond' ⟨_, evl, fun hb => absurd hb (by simp), fun _ => ?_⟩
      all_goals
        clear hT hK hKk hKk2
        try refine wkG trivial ?_
        try (refine Stop.mk ?_; intro K hK)
        refine wpA_loop (fun k : Nat => ⟨109, 0, [(0, true, lA 4 Bound.av l), (1, true, .raw (.int .i64 N)), (2, true, lA 2 Party.av blamed), (3, true, liA at_), (9, true, .raw (.bool true)), (10, true, .raw (.bool (timesM l N blamed).isSome)), (14, true, .raw (.bool ((at_.take k).all fun x => decide (-3000000000000000 ≤ x) && decide (x ≤ 3000000000000000)))), (15, true, .raw (.int .i64 k))], [], [], ((0, []), [], true)⟩)
          (fun k => k ≤ at_.length) (fun k => at_.length - k) 0 ?_ (by omega) ?_
        · rw [h0, ht]
          simp only [Option.isSome]
          refine wkn ?_ ?_ ?_
          all_goals first | exact wk0 | refine wkS ?_ | skip
          all_goals (try trivial)
          all_goals ((repeat' apply And.intro) <;> first | exact wkL | skip)
        · intro k hk
          rw [ht]
          simp only [Option.isSome]
          rcases Nat.lt_or_ge k at_.length with hlt | hge
          · have hs := hfin k hlt
            clear hKa hfin hall
            generalize (at_.take k).all (fun x => decide (-3000000000000000 ≤ x) && decide (x ≤ 3000000000000000)) = z at *
            try refine wkG trivial ?_
            try (refine Stop.mk ?_; intro K hK)
            refine wpA_cond' ⟨_, evl, fun _ => ?_, fun hb => absurd (of_decide_eq_false hb) (by omega)⟩
            try refine wkG trivial ?_
            try (refine Stop.mk ?_; intro K hK)
            refine ⟨k + 1, by omega, by omega, ?_⟩
            rw [hs, ← Bool.and_assoc]
            refine wkn ?_ ?_ ?_
            all_goals first | exact wk0 | refine wkS ?_ | skip
            all_goals (try trivial)
            all_goals ((repeat' apply And.intro) <;> first | exact wkL | skip)
          · obtain rfl : k = at_.length := by omega
            rw [hall]
            clear hfin hall
            generalize at_.all (fun x => decide (-3000000000000000 ≤ x) && decide (x ≤ 3000000000000000)) = S at *
            try refine wkG trivial ?_
            try (refine Stop.mk ?_; intro K hK)
            refine wpA_cond' ⟨_, evl, fun hb => absurd (of_decide_eq_true hb) (by omega), fun _ => ?_⟩
            repeat
              first
                | (refine runS_nil (hK _ ?_); clear hK K)
                | refine stG ?_
                | (refine gateS 1 rfl ?_; refine runS_call rfl rfl ⟨_, evl, _, _, _, evl, oblG, ?_⟩; apply Exists.intro; refine ⟨fun hg => ?_, ?_⟩; · first | exact FnA.at_ (hKa (by simp at hg; exact hg.2)) rfl rfl | exact FnA.at_s (hKa (by simp at hg; exact hg.2)) rfl simT | exact FnA.at_s (hKa (by simp at hg; exact hg.2)) rfl simF)
                | (refine gateA 1 rfl ?_; refine runA_call rfl ⟨_, evl, _, _, _, (fun _ _ => evlA), oblG, ?_⟩; apply Exists.intro; refine ⟨fun hg => ?_, ?_⟩; · first | exact FnA.at_ (hKa (by simp at hg; exact hg.2)) rfl rfl | exact FnA.at_s (hKa (by simp at hg; exact hg.2)) rfl simT | exact FnA.at_s (hKa (by simp at hg; exact hg.2)) rfl simF)
                | (refine gateA 1 rfl ?_; refine runA_put ?_)
                | (refine gateBc ?_; first | (refine runB_nil (hK _ ?_); clear hK K) | (refine runB_op rfl ⟨_, evl, fun nb' => ?_⟩))
                | refine wpA_region (fun K hK => ?_)
                | (refine gateD ?_; first | (refine wpA_drawG false rfl (by kernel_rfl) (by kernel_rfl) (fun K hK => ?_)) | (refine wpA_drawG true rfl (by kernel_rfl) (by kernel_rfl) (fun K hK => ?_)))
            refine ret_of (by simp) ⟨_, _, _, evl, ob0, OutOk.eq ?_ ?_⟩
            · first
                | rfl
                | (cases K
                   · simp
                   · exact absurd (hkp rfl) (by decide))
            · simp [AV.free]
    · rw [possE, if_neg ha] at hP
      clear ha hw hbl hat
      refine fnA_of tblOk Tryz.func4 rfl (by kernel_rfl) 109 Tryz.ntmps4 lenT [.tmp 8] rfl ?_
      simp only [entrySt, argSl, Nat.zero_add, Nat.reduceAdd]
      try refine wkG (And.intro hh hP) ?_
      try (refine Stop.mk ?_; intro K hK)
      refine wpA_cond' ⟨_, evl, fun hb => absurd hb (by simp; omega), fun _ => ?_⟩
      try refine wkG (And.intro hh hP) ?_
      try (refine Stop.mk ?_; intro K hK)
      refine wpA_cond' ⟨_, evl, fun _ => ?_, fun hb => absurd hb (by simp)⟩
      try refine wkG trivial ?_
      try (refine Stop.mk ?_; intro K hK)
      all_goals (try (refine ret_of (by simp) ⟨_, _, _, evl, ob0, OutOk.sims ?_ fre⟩))
      all_goals first | exact Sims.refl _ | exact finT | exact simsF | (refine Sims.tup ?_; simp only [SimsL, and_true]; (repeat' apply And.intro) <;> first | exact simsF | skip) | (exfalso; first | omega | (simp_all; done) | (simp_all; omega)) | skip
  · clear hw hbl hat
    refine fnA_of tblOk Tryz.func4 rfl (by kernel_rfl) 109 Tryz.ntmps4 lenT [.tmp 8] rfl ?_
    simp only [entrySt, argSl, Nat.zero_add, Nat.reduceAdd]
    try refine wkG hh ?_
    try (refine Stop.mk ?_; intro K hK)
    refine wpA_cond' ⟨_, evl, fun _ => ?_, fun hb => absurd hb (by simp; omega)⟩
    try refine wkG trivial ?_
    try (refine Stop.mk ?_; intro K hK)
    all_goals (try (refine ret_of (by simp) ⟨_, _, _, evl, ob0, OutOk.sims ?_ fre⟩))
    all_goals first | exact Sims.refl _ | exact finT | exact simsF | (refine Sims.tup ?_; simp only [SimsL, and_true]; (repeat' apply And.intro) <;> first | exact simsF | skip) | (exfalso; first | omega | (simp_all; done) | (simp_all; omega)) | skip
theorem verdictExact_B {x0 x1 x2 x3 : List AV} (k0 : CellsOk tbl 30 31 x0) (k1 : CellsOk tbl 30 3 x1) (k2 : CellsOk tbl 30 32 x2) (k3 : CellsOk tbl 30 51 x3) :
    FnA Tryz.prog 4 [valA false x0, valA false x1, valA false x2, valA false x3] (.raw (.bool true)) := by
  obtain ⟨y0, l, rfl, s0, q0, g0⟩ := open_bounds k0
  obtain ⟨n, rfl, _⟩ := open_int k1
  obtain ⟨y2, blamed, rfl, s2, g2⟩ := open_parties k2
  obtain ⟨y3, at_, rfl, s3, _, g3⟩ := open_ints k3
  exact FnA.sim (exact_A l g0 q0 n blamed g2 at_ g3) ⟨s0, Sim.of_eq rfl, s2, s3, trivial⟩
end Go.Proofs.YtchpbdecipcelaaGreatDoor
