/- The statement ReplySent, walked. -/
import Derived.Test.YtihnjbnlbedpaaaGreatDoorLaw23S
import Derived.Test.YtihnjbnlbedpaaaGreatDoorRgs
import Derived.Test.YtihnjbnlbedpaaaGreatDoorLkP
import Derived.Test.YtihnjbnlbedpaaaGreatDoorOp23L
namespace Go.Proofs.YtihnjbnlbedpaaaGreatDoor
set_option linter.unusedVariables false
set_option linter.unusedSimpArgs false
set_option maxHeartbeats 4000000
set_option maxRecDepth 100000
open Go.RowKit
theorem idx_one {α : Type} [Inhabited α] {p : α → Bool} {x : α} (h : p x = true) : idxM p [x] = 0 := idxM_hit (l := [x]) (k := 0) (by simp) (fun i hi => by omega) h
/-- One reply of one authority, over one wire. -/
theorem sent_one {c : List Change} {i : Iv} {k : Int} {R : Reply} (hc : Lk.ValidP c) (hi : 0 ≤ i.lo ∧ i.lo ≤ i.hi ∧ i.hi ≤ 3000000000000000) (hk : withinM k 1 = true) (hp : (powM 4 k.toNat : Int) ≠ 1)
    (h1 : R.auth = 3) (h2 : R.host = 5) (h3 : R.key = 1) (h4 : replyP R) (h5 : R.stamp.hi ≤ 2999999999999999) (hs : R.sig = (signM k k (msgR R)).1) (hlo : (Lk.linkBoundsM c i).1.outLo ≤ R.stamp.hi) :
    sentS [⟨3, 1, powM 4 k.toNat, 0, 3000000000000000, ⟨0, 0⟩⟩] [⟨5, 3, c⟩] 5 [R] i = ([⟨max 0 (R.stamp.lo - (Lk.linkBoundsM c i).1.outHi), R.stamp.hi - (Lk.linkBoundsM c i).1.outLo⟩], 0) := by
  have hvi : Lk.validI i = true := (Lk.validI_iff _).2 hi
  have hvc : Lk.validM c = true := decide_eq_true hc
  have hw : (winS { R with stamp := ⟨0, 2999999999999999⟩ } (powM 4 k.toNat)) = ⟨3, 1, powM 4 k.toNat, 0, 3000000000000000, ⟨0, 0⟩⟩ := by
    show KeyWin.mk R.auth 1 _ 0 (2999999999999999 + 1) ⟨0, 0⟩ = _
    rw [h1]; rfl
  have hv : ValidP [winS { R with stamp := ⟨0, 2999999999999999⟩ } (powM 4 k.toNat)] := win_valid ⟨h4.1, by simp only; omega, h4.2.2.1, h4.2.2.2.1, by simp, by simp⟩ hk hp (by simp only; omega)
  have hr := win_right hv (t := R) rfl h3 h4.2.1.1 h5 h4.2.1
  rw [hs, sign_verify hk hk (member_pow (by rw [withinM_iff] at hk; omega))] at hr
  rw [hw] at hv hr
  have hf : findW [⟨5, 3, c⟩] 5 R.auth = (⟨5, 3, c⟩, true) := by
    rw [h1, findW, idx_one (by rfl), if_neg (by decide)]
    rfl
  have hwd : wiredP [⟨5, 3, c⟩] := ⟨fun j hj => by
    obtain rfl : j = 0 := by simpa using hj
    exact ⟨rfl, (show (1 : Int) ≤ 5 ∧ (5 : Int) ≤ 64 by decide), (show (1 : Int) ≤ 3 ∧ (3 : Int) ≤ 16 by decide), hc⟩, by simp⟩
  have hrd : roundP 5 [R] := ⟨by simp, fun j hj => by
    obtain rfl : j = 0 := by simpa using hj
    exact ⟨by show (0 : Int) < R.auth; omega, h2, rfl, h4⟩⟩
  have hok : sentOkP [⟨3, 1, powM 4 k.toNat, 0, 3000000000000000, ⟨0, 0⟩⟩] [⟨5, 3, c⟩] 5 [R] i := ⟨by decide, hi, hv, hwd, hrd⟩
  obtain ⟨a, b, P⟩ := Lk.chP_of hvc hvi (t := i.lo) ⟨Int.le_refl _, hi.2.1⟩
  have hform : Lk.formedM (Lk.linkBoundsM c i).1 = true := Lk.bounds_formed hvc hvi
  have hst : stepS [⟨3, 1, powM 4 k.toNat, 0, 3000000000000000, ⟨0, 0⟩⟩] [⟨5, 3, c⟩] 5 i R = (⟨max 0 (R.stamp.lo - (Lk.linkBoundsM c i).1.outHi), R.stamp.hi - (Lk.linkBoundsM c i).1.outLo⟩, 0) := by
    rw [stepS, hf, if_neg (by simp), hr, if_neg (by simp)]
    dsimp only
    rw [Lk.sentM, if_pos ⟨hform, (Lk.validI_iff _).2 h4.2.1⟩, Lk.beforeM, if_neg (by rw [Lk.formed_iff] at hform; omega)]
  rw [sentS, if_pos hok, foldS, hst, if_pos rfl]
  rfl
theorem modU {a n : Int} (ha : 0 ≤ a) (hn : 0 < n ∧ n < 18446744073709551616) : IntKind.u64.wrap n = n ∧ 0 ≤ a.tmod (IntKind.u64.wrap n) ∧ a.tmod (IntKind.u64.wrap n) < n := by
  have e : IntKind.u64.wrap n = n := inK_wrap (k := .u64) (by simp only [inK]; omega)
  rw [e]
  refine ⟨rfl, ?_⟩
  rw [Int.tmod_eq_emod_of_nonneg ha]
  exact ⟨Int.emod_nonneg _ (by omega), Int.emod_lt_of_pos _ hn.1⟩
theorem replySent_A (c : List Change) (i : Iv) (hif : i.fits) (when_ took key lo hi : Int) (hw : inK .u64 when_) (ht : inK .u64 took) (hk : inK .u64 key) (hlo : inK .u16 lo) (hhi : inK .u16 hi) :
    FnA Tryz.prog 6 [lA 5 Change.av c, .agg i.av, .raw (.int .u64 when_), .raw (.int .u64 took), .raw (.int .u64 key), .raw (.int .u16 lo), .raw (.int .u16 hi)] (.raw (.bool true)) := by
  have hh := head23_A
  have hv := validIR_A i
  have hfr : (lA 5 Change.av c).free := lA_free (fun y => Change.free y) _
  simp only [inK] at hw ht hlo hhi
  by_cases hc : c.length ≤ 30 ∧ 0 ≤ i.lo ∧ i.lo ≤ i.hi ∧ i.hi ≤ 3000000000000000
  · obtain ⟨c1, c2, c3, c4⟩ := hc
    rw [decide_eq_true c2, decide_eq_true c3, decide_eq_true c4] at hv
    obtain ⟨m0, m1, m2⟩ := modU hw.1 (n := i.hi - i.lo + 1) (by omega)
    have b1 := lbounds_A c ⟨i.lo + when_.tmod (IntKind.u64.wrap (i.hi - i.lo + 1)), i.lo + when_.tmod (IntKind.u64.wrap (i.hi - i.lo + 1))⟩ (by omega)
    by_cases hV : Lk.ValidP c
    · obtain ⟨A, B, P⟩ := Lk.chP_of (l := c) (i := i) (t := i.lo + when_.tmod (IntKind.u64.wrap (i.hi - i.lo + 1))) (decide_eq_true hV) ((Lk.validI_iff _).2 ⟨c2, c3, c4⟩) (by omega)
      have hBf := Lk.bounds_formed (l := c) (i := ⟨i.lo + when_.tmod (IntKind.u64.wrap (i.hi - i.lo + 1)), i.lo + when_.tmod (IntKind.u64.wrap (i.hi - i.lo + 1))⟩) (decide_eq_true hV) ((Lk.validI_iff _).2 (by simp only; omega))
      have hA := P.ea
      have n1 := P.n1
      have n2 := P.n2
      rw [P.eb] at b1 hBf
      rw [Lk.formed_iff] at hBf
      simp only at hBf
      obtain ⟨p0, p1, p2⟩ := modU ht.1 (n := B.outHi - B.outLo + 1) (by omega)
      have k0 := secM_range hk
      have kw : withinM (secM key) 1 = true := (withinM_iff _ _).2 k0
      have s1 := secretR_A key hk
      have s2 := publicR_A (secM key) (by omega)
      obtain ⟨T, hT⟩ : ∃ T, i.lo + when_.tmod (IntKind.u64.wrap (i.hi - i.lo + 1)) = T := ⟨_, rfl⟩
      obtain ⟨U, hU⟩ : ∃ U, T + B.outLo + took.tmod (IntKind.u64.wrap (B.outHi - B.outLo + 1)) = U := ⟨_, rfl⟩
      rw [hT] at b1
      clear P
      refine fnA_of tblOk Tryz.func6 rfl (by kernel_rfl) 146 Tryz.ntmps6 (by simp only [List.length_cons, List.length_nil]; omega) [.tmp 14] rfl ?_
      simp only [entrySt, argSl, Nat.zero_add, Nat.reduceAdd]
      try refine wkG (And.intro hh hv) ?_
      try (refine Stop.mk ?_; intro K hK)
      refine wpA_cond' ⟨_, evl, fun hb => absurd hb (by simp; omega), fun _ => ?_⟩
      repeat
        first
          | (refine runS_nil (hK _ ?_); clear hK K)
          | refine stG ?_
          | (refine gateA 1 rfl ?_; refine runA_put ?_)
          | (refine gateBc ?_; first | (refine runB_nil (hK _ ?_); clear hK K) | (refine runB_op rfl ⟨_, evl, fun nb' => ?_⟩))
          | refine wpA_region (fun K hK => ?_)
          | (refine gateD ?_; first | (refine wpA_drawG false rfl (by kernel_rfl) (by kernel_rfl) (fun K hK => ?_)) | (refine wpA_drawG true rfl (by kernel_rfl) (by kernel_rfl) (fun K hK => ?_)))
      rw [hT]
      repeat
        first
          | (refine runS_nil (hK _ ?_); clear hK K)
          | refine stG ?_
          | (refine gateS 1 rfl ?_; refine runS_call rfl rfl ⟨_, evl, _, _, _, evl, oblF, ?_⟩; apply Exists.intro; refine ⟨fun hg => ?_, ?_⟩; · first | exact FnA.at_ (b1) rfl rfl | exact FnA.at_s (b1) rfl simT | exact FnA.at_s (b1) rfl simF)
          | (refine gateA 1 rfl ?_; refine runA_call rfl ⟨_, evl, _, _, _, (fun _ _ => evlA), oblF, ?_⟩; apply Exists.intro; refine ⟨fun hg => ?_, ?_⟩; · first | exact FnA.at_ (b1) rfl rfl | exact FnA.at_s (b1) rfl simT | exact FnA.at_s (b1) rfl simF)
          | (refine gateA 1 rfl ?_; refine runA_put ?_)
          | (refine gateBc ?_; first | (refine runB_nil (hK _ ?_); clear hK K) | (refine runB_op rfl ⟨_, evl, fun nb' => ?_⟩))
          | refine wpA_region (fun K hK => ?_)
          | (refine gateD ?_; first | (refine wpA_drawG false rfl (by kernel_rfl) (by kernel_rfl) (fun K hK => ?_)) | (refine wpA_drawG true rfl (by kernel_rfl) (by kernel_rfl) (fun K hK => ?_)))
      refine wpA_cond' ⟨_, evl, fun hb => (by simp at hb), fun _ => ?_⟩
      try refine wkG trivial ?_
      try (refine Stop.mk ?_; intro K hK)
      refine wpA_cond' ⟨_, evl, fun hb => absurd hb (by simp; omega), fun _ => ?_⟩
      try refine wkG trivial ?_
      try (refine Stop.mk ?_; intro K hK)
      rw [hU]
      refine wpA_cond' ⟨_, evl, fun _ => ?_, fun hb => ?_⟩
      · try refine wkG trivial ?_
        try (refine Stop.mk ?_; intro K hK)
        refine ret_of (by simp) ⟨_, _, _, evl, ob0, OutOk.eq ?_ ?_⟩
        · rfl
        · simp [AV.free]
      simp only [decide_eq_false_iff_not] at hb
      obtain ⟨R0, hR0⟩ : ∃ R0 : Reply, R0 = ⟨3, 5, 1, 0, ⟨max 0 (U - lo), U + hi⟩, 1, 0, ⟨0, 0⟩⟩ := ⟨_, rfl⟩
      have r0f : R0.fits := by
        rw [hR0]
        exact ⟨by simp [inK], by simp [inK], by simp [inK], by simp [inK], ⟨by simp only [inK]; omega, by simp only [inK]; omega⟩, by simp [inK], by simp [inK], by simp [Sig.fits, inK]⟩
      have r0b : bare R0 = R0 := by rw [hR0]
      have r0p : replyP R0 := by
        rw [hR0]
        refine ⟨by unfold reqP; simp, ?_, by simp, by simp, by simp, by simp⟩
        simp only
        omega
      have g1 := rsignR_A (secM key) (secM key) R0 r0f
      rw [rsignM, if_pos (by rw [r0b]; exact r0p), if_pos (signM_ok kw kw)] at g1
      obtain ⟨q, hq⟩ : ∃ q, q = (signM (secM key) (secM key) (msgR R0)).1 := ⟨_, rfl⟩
      have qr := signM_range (m := msgR R0) kw kw
      rw [← hq] at g1 qr
      rw [withinM_iff, withinM_iff] at qr
      have e0 : R0.av = (Reply.mk 3 5 1 0 ⟨max 0 (U - lo), U + hi⟩ 1 0 ⟨0, 0⟩).av := by rw [hR0]
      have e1 : ({ R0 with sig := q } : Reply) = ⟨3, 5, 1, 0, ⟨max 0 (U - lo), U + hi⟩, 1, 0, q⟩ := by rw [hR0]
      rw [e0] at g1
      simp only [e1] at g1
      have f1 := first23_A 3 (powM 4 (secM key).toNat) 0 3000000000000000
      have hpl := powM_lt 4 (secM key).toNat (by omega)
      by_cases hp : (powM 4 (secM key).toNat : Int) = 1
      · rw [hp] at s2 f1
        try refine wkG (And.intro s1 (And.intro g1 s2)) ?_
        try (refine Stop.mk ?_; intro K hK)
        refine wpA_cond' ⟨_, evl, fun _ => ?_, fun hb => (by simp at hb)⟩
        try refine wkG trivial ?_
        try (refine Stop.mk ?_; intro K hK)
        refine ret_of (by simp) ⟨_, _, _, evl, ob0, OutOk.eq ?_ ?_⟩
        · rfl
        · simp [AV.free]
      have h1 := sent_one (c := c) (i := i) (k := secM key) (R := ⟨3, 5, 1, 0, ⟨max 0 (U - lo), U + hi⟩, 1, 0, q⟩) hV ⟨c2, c3, c4⟩ kw hp rfl rfl rfl ⟨by unfold reqP; simp, by simp only; omega, by simp, by simp, by simp only; omega, by simp only; omega⟩ (by simp only; omega) (by rw [hq, hR0]; rfl) (by rw [hA]; simp only; omega)
      rw [hA] at h1
      have x1 := sentR_A [⟨3, 1, powM 4 (secM key).toNat, 0, 3000000000000000, ⟨0, 0⟩⟩] (by simp) (by
        intro k hk
        simp only [List.mem_cons, List.not_mem_nil, or_false] at hk
        subst hk
        refine ⟨by simp [inK], by simp [inK], by simp only [inK]; omega, by simp [inK], by simp [inK], by simp [Sig.fits, inK]⟩) [⟨5, 3, c⟩] (by simp) (by simp; omega) 5 [⟨3, 5, 1, 0, ⟨max 0 (U - lo), U + hi⟩, 1, 0, q⟩] (by simp) (by
        intro r hr
        simp only [List.mem_cons, List.not_mem_nil, or_false] at hr
        subst hr
        exact ⟨by simp [inK], by simp [inK], by simp [inK], by simp [inK], ⟨by simp only [inK]; omega, by simp only [inK]; omega⟩, by simp [inK], by simp [inK], ⟨by simp only [inK]; omega, by simp only [inK]; omega⟩⟩) i
      rw [h1] at x1
      have x2 := FnA.sim x1 (args := [lA 7 KeyWin.av [⟨3, 1, powM 4 (secM key).toNat, 0, 3000000000000000, ⟨0, 0⟩⟩], .lst 3 1 (chunkA 3 (Wire.av ⟨5, 3, c⟩)), .raw (.int .i64 5), .agg [.lst 10 1 (chunkA 10 (Reply.av ⟨3, 5, 1, 0, ⟨max 0 (U - lo), U + hi⟩, 1, 0, q⟩))], .agg i.av])
        ⟨Sim.refl _, Sim.lstE rfl fun j hj => chunk_lit (enc := Wire.av) (l := [⟨5, 3, c⟩]) (fun _ => rfl) rfl hj, Sim.refl _, Sim.agg (show SimL [_] [_] from ⟨Sim.lstE rfl fun j hj => chunk_lit (enc := Reply.av) (l := [⟨3, 5, 1, 0, ⟨max 0 (U - lo), U + hi⟩, 1, 0, q⟩]) (fun _ => rfl) rfl hj, trivial⟩), Sim.refl _, trivial⟩
      have hin := has02_A ⟨max 0 (max 0 (U - lo) - A.outHi), U + hi - A.outLo⟩ T
      rw [decide_eq_true (show max 0 (max 0 (U - lo) - A.outHi) ≤ T by omega), decide_eq_true (show T ≤ U + hi - A.outLo by omega)] at hin
      clear x1 h1 hA e0 e1 hq hR0 r0f r0b r0p
      have hfw : ∀ i, AV.freeL (chunkA 3 [.raw (.int .i64 5), .raw (.int .i64 3), .lst 5 c.length (els Change.av c)] i) := fun i => freeL_chunk (Wire.free ⟨5, 3, c⟩)
      try refine wkG (And.intro s1 (And.intro g1 s2)) ?_
      try (refine Stop.mk ?_; intro K hK)
      refine wpA_cond' ⟨_, evl, fun hb => absurd hb (by simp [hp]), fun _ => ?_⟩
      try refine wkG (And.intro f1 (And.intro x2 hin)) ?_
      try (refine Stop.mk ?_; intro K hK)
      refine ret_of (by simp) ⟨_, _, _, evl, ob0, OutOk.eq ?_ ?_⟩
      · simp
      · simp [AV.free]
    · have e1 : Lk.linkBoundsM c ⟨i.lo + when_.tmod (IntKind.u64.wrap (i.hi - i.lo + 1)), i.lo + when_.tmod (IntKind.u64.wrap (i.hi - i.lo + 1))⟩ = (⟨0, 0, 0, 0, 0⟩, 1) := by
        rw [Lk.linkBoundsM, if_neg (fun h => hV (of_decide_eq_true h.1))]
      rw [e1] at b1
      refine fnA_of tblOk Tryz.func6 rfl (by kernel_rfl) 146 Tryz.ntmps6 (by simp only [List.length_cons, List.length_nil]; omega) [.tmp 14] rfl ?_
      simp only [entrySt, argSl, Nat.zero_add, Nat.reduceAdd]
      try refine wkG (And.intro hh hv) ?_
      try (refine Stop.mk ?_; intro K hK)
      refine wpA_cond' ⟨_, evl, fun hb => absurd hb (by simp; omega), fun _ => ?_⟩
      try refine wkG b1 ?_
      try (refine Stop.mk ?_; intro K hK)
      refine wpA_cond' ⟨_, evl, fun _ => ?_, fun hb => (by simp at hb)⟩
      try refine wkG trivial ?_
      try (refine Stop.mk ?_; intro K hK)
      refine ret_of (by simp) ⟨_, _, _, evl, ob0, OutOk.eq ?_ ?_⟩
      · simp
      · simp [AV.free]
  · have hno : c.length ≤ 30 → (decide (0 ≤ i.lo) && decide (i.lo ≤ i.hi) && decide (i.hi ≤ 3000000000000000)) = true → False := fun h1 h2 => hc ⟨h1, by simpa [and_assoc] using h2⟩
    clear hc
    generalize (decide (0 ≤ i.lo) && decide (i.lo ≤ i.hi) && decide (i.hi ≤ 3000000000000000)) = v at *
    refine fnA_of tblOk Tryz.func6 rfl (by kernel_rfl) 146 Tryz.ntmps6 (by simp only [List.length_cons, List.length_nil]; omega) [.tmp 14] rfl ?_
    simp only [entrySt, argSl, Nat.zero_add, Nat.reduceAdd]
    try refine wkG (And.intro hh hv) ?_
    try (refine Stop.mk ?_; intro K hK)
    refine wpA_cond' ⟨_, evl, fun _ => ?_, fun hb => ?_⟩
    · try refine wkG trivial ?_
      try (refine Stop.mk ?_; intro K hK)
      refine ret_of (by simp) ⟨_, _, _, evl, ob0, OutOk.eq ?_ ?_⟩
      · rfl
      · simp [AV.free]
    · exfalso
      simp at hb
      exact hno (by omega) hb.2
theorem open_u64' {n : Nat} {xs : List AV} (h : CellsOk tbl (n + 1) 25 xs) : ∃ m : Int, xs = [.raw (.int .u64 m)] ∧ inK .u64 m := by
  simp only [CellsOk, cutOk, List.map_cons, List.map_nil, List.replicate_succ, List.replicate_zero, tbl_25] at h
  exact h
theorem open_ChangeList {n : Nat} {xs : List AV} (h : CellsOk tbl (n + 4) 64 xs) : ∃ l : List Change, ∀ (G : Gh) (w : World) (v : Value), (valA false xs).rel G w v → (lA 5 Change.av l).rel G w v := by
  have h' : ∃ m el, xs = [.lst 5 m el] ∧ m ≤ maxLen ∧ ∀ i, i < m → (el i).length = 5 ∧ CellsOk tbl (n + 3) 67 (el i) := h
  obtain ⟨m, el, rfl, hm, hel⟩ := h'
  obtain ⟨l, hl⟩ := open_Changes (m := m) (el := el) fun i hi => by
    have h1 := (hel i hi).2
    simp only [CellsOk, cutOk, List.map_cons, List.map_nil, List.replicate_succ, List.replicate_zero, tbl_3, tbl_67] at h1
    obtain ⟨a, b, e, -, ⟨m0, rfl, h0⟩, a, b, rfl, -, ⟨m1, rfl, h1⟩, a, b, rfl, -, ⟨m2, rfl, h2⟩, a, b, rfl, -, ⟨m3, rfl, h3⟩, a, b, rfl, -, ⟨m4, rfl, h4⟩, rfl⟩ := h1
    exact ⟨⟨m0, m1, m2, m3, m4⟩, e⟩
  exact ⟨l, hl⟩
theorem replySent_B {x0 x1 x2 x3 x4 x5 x6 : List AV} (k0 : CellsOk tbl 30 64 x0) (k1 : CellsOk tbl 30 27 x1) (k2 : CellsOk tbl 30 25 x2) (k3 : CellsOk tbl 30 25 x3) (k4 : CellsOk tbl 30 25 x4) (k5 : CellsOk tbl 30 52 x5) (k6 : CellsOk tbl 30 52 x6) :
    FnA Tryz.prog 6 [valA false x0, valA true x1, valA false x2, valA false x3, valA false x4, valA false x5, valA false x6] (.raw (.bool true)) := by
  obtain ⟨c, hc⟩ := open_ChangeList k0
  obtain ⟨i, rfl, hi⟩ := open_Iv k1
  obtain ⟨a, rfl, ha⟩ := open_u64' k2
  obtain ⟨b, rfl, hb⟩ := open_u64' k3
  obtain ⟨k, rfl, hk⟩ := open_u64' k4
  obtain ⟨d, rfl, hd⟩ := open_u16 k5
  obtain ⟨e, rfl, he⟩ := open_u16 k6
  exact FnA.sim (replySent_A c i hi a b k d e ha hb hk hd he) ⟨hc, Sim.of_eq rfl, Sim.of_eq rfl, Sim.of_eq rfl, Sim.of_eq rfl, Sim.of_eq rfl, Sim.of_eq rfl, trivial⟩
end Go.Proofs.YtihnjbnlbedpaaaGreatDoor
