/- package keys: Announce. -/
import Derived.Test.YtihnjbnlbedpaaaDoorAnn
namespace Go.Proofs.YtihnjbnlbedpaaaDoor
set_option linter.unusedVariables false
set_option linter.unusedSimpArgs false
set_option maxHeartbeats 4000000
set_option maxRecDepth 100000
open Go.RowKit
theorem FnX.sim {P : Program} {f : FuncId} {args args' : List AV} {bx : List (List AV)} {rw : List ARow} {R : AV → List (List AV) → List ARow → Prop} (h : FnX P f args' bx rw R) (hs : SimL args args') : FnX P f args bx rw R :=
  ⟨h.ok, fun G w vs ht ho hm hr => h.calls G w vs ht ho hm (hs.rel hr)⟩
theorem sCallXs (ib ir : List Nat) {P : Program} {ops : Array Oper} {rest : List Oper} {K : ASt → Prop} {nt nb : Nat} {sl : List (Nat × (Bool × AV))} {bx : List (List AV)} {rw : List ARow} {ys : (Nat × List (List AV)) × List (List AV) × Bool} {o : Oper} {d : Nat} {f : FuncId} {args : List AV} {R : AV → List (List AV) → List ARow → Prop} {sub : List (List AV)} {rsub : List ARow} (F : FnX P f args sub rsub R) (hg : o.guard = none) (hd : o.dst = some d) (hn : Nat.blt d nt = true)
    (h : ∃ m, bx.length = m ∧ ∃ n, rw.length = n ∧ ∃ cs args0, callA ⟨nt, nb, sl, bx, rw, ys⟩ o.op = some (cs, f, args0) ∧ (∀ c ∈ cs, c = true) ∧ SimL args0 (AV.renL (idx ib m) (idx ir n) args) ∧ ib.Nodup ∧ ir.Nodup ∧ handL bx (AV.renL (idx ib m) (idx ir n)) ib sub ∧ handL rw (ARow.ren (idx ib m) (idx ir n)) ir rsub ∧
      ((∀ cs ∈ sub, AV.subL ib.length ir.length cs) ∧ (∀ r ∈ rsub, ∀ q, q < r.n → AV.subL ib.length ir.length (r.el q)) ∧ AV.subL ib.length ir.length args) ∧ (∀ r sub' rsub', R r sub' rsub' → ib.length ≤ sub'.length ∧ ir.length ≤ rsub'.length) ∧
      ∀ r sub' rsub', R r sub' rsub' → ∃ r1, r.ren (idx ib m) (idx ir n) = r1 ∧ ∃ bx1, setAll bx ib (sub'.map (AV.renL (idx ib m) (idx ir n))) = bx1 ∧ ∃ rw1, setAll rw ir (rsub'.map (ARow.ren (idx ib m) (idx ir n))) = rw1 ∧
      runS P ops rest K ⟨nt, nb, (d, (true, r1)) :: sl, bx1, rw1, ys⟩) : runS P ops (o :: rest) K ⟨nt, nb, sl, bx, rw, ys⟩ := by
  obtain ⟨m, rfl, n, rfl, cs, args0, h1, h2, hsim, h3, h4, h5, h6, ⟨h7, h8, h9⟩, hl, h12⟩ := h
  intro C G a w Q hs hQ
  refine callX_walk hg h1 h2 ((F.frame ib ir (handOk_of h3 h4 h5 h6 h7 h8) h9 hl).sim hsim) hs ?_
  rintro r1 bx1 rw1 ⟨r, sub', rsub', hR, rfl, rfl, rfl⟩ v G' w' hs' hv
  obtain ⟨_, rfl, _, rfl, _, rfl, hk⟩ := h12 r sub' rsub' hR
  rw [hd]
  exact hk C G' _ w' Q (hs'.put (by simpa [Nat.blt_eq] using hn) (fun _ => hv) (fun h => by cases h)) hQ
theorem OutOk.bsl {st : ASt} {sz b off n cap : Nat} {cs : List AV} (h : st.bx[b]? = some cs) (hf : AV.freeL cs) (hl : off + n * sz ≤ cs.length) : OutOk st (.bsl sz b off n cap) (.lst sz n (chunkA sz (cs.drop off))) := by
  intro G w v hm hr
  have hb : b < st.bx.length := (List.getElem?_eq_some_iff.1 h).1
  have h1 := AV.rel_frz (m := 0) hm (.bsl sz b off n cap) v (.inr ⟨hb, by rw [h]; exact belL_free _ hf, by rw [h]; exact hl⟩) hr
  have e : AV.frz 0 st.bx (.bsl sz b off n cap) = .lst sz n (chunkA sz (cs.drop off)) := by simp [AV.frz, h, show Nat.blt b 0 = false from rfl]
  rw [e] at h1
  have hfr : (AV.lst sz n (chunkA sz (cs.drop off))).free := fun i _ => freeL_chunk (freeL_drop hf)
  refine AV.rel_free (G := G.cut 0 w) (fun b' o hi => ?_) _ _ hfr h1
  rcases hi with hi | ⟨hi, hi2⟩
  · exact .inl hi
  · exact .inr ⟨by simpa using hi, hi2⟩
theorem outRow {st : ASt} {M : List KeyWin} {b c : Nat} {zs : List AV} (h : st.bx[b]? = some (kcs M ++ zs)) (hz : rawL zs) (k : IntKind) (e : Int) : OutOk st (.tup [.bsl 7 b 0 M.length c, .raw (.int k e)]) (.tup [lA 7 KeyWin.av M, .raw (.int k e)]) := by
  have h1 := OutOk.bsl (st := st) (sz := 7) (b := b) (off := 0) (n := M.length) (cap := c) h (rawL_free (rawL_app (kcs_raw M) hz)) (by rw [List.length_append, kcs_len]; omega)
  have h2 := h1.sim (r' := lA 7 KeyWin.av M) (Sim.lstE rfl fun i hi => by rw [List.drop_zero]; exact chunk_flat av7 hi)
  exact OutOk.tup ⟨_, _, rfl, h2, _, _, rfl, OutOk.free trivial, rfl⟩
def next0 (next : KeyWin) : KeyWin := { next with sig := ⟨0, 0⟩ }
/-- What Announce makes. -/
abbrev prevK (l : List KeyWin) (auth : Int) : KeyWin := l.getD ((findN l auth 1001 : Int) - 1).toNat default
def annM (l : List KeyWin) (key once : Int) (next : KeyWin) : List KeyWin × Int :=
  if ¬ (((ValidP l ∧ formedP (next0 next)) ∧ withinM key 1 = true) ∧ withinM once 1 = true) then ([], 1)
  else if l.length = 100 then ([], 2)
  else if findN l next.auth 1001 = 0 ∨ ¬ (prevK l next.auth).auth = next.auth then ([], 4)
  else if ¬ followsP (prevK l next.auth) (next0 next) then ([], 30)
  else if ¬ ((expM 4 key).2 = 0 ∧ (expM 4 key).1 = (prevK l next.auth).pub) then ([], 31)
  else (insK l (findN l next.auth 1001) { next with sig := (signM key once (msgM (next0 next))).1 }, 0)
abbrev wrongs : List AV := [.raw (.int .i64 1), .fn (.func 42) [] [.box 0 0, .box 3 0, .box 1 0, .box 2 0], .raw (.int .i64 2), .fn (.func 45) [] [.box 0 0], .raw (.int .i64 4), .fn (.func 46) [] [.box 0 0, .box 3 0, .box 4 0, .box 5 0], .raw (.int .i64 30), .fn (.func 48) [] [.box 5 0, .box 3 0], .raw (.int .i64 31), .fn (.func 50) [] [.box 1 0, .box 5 0]]
theorem subL_drop {m n k : Nat} : ∀ {l : List AV}, AV.subL m n l → AV.subL m n (l.drop k)
  | [], _ => by simp [AV.subL]
  | x :: r, h => by
    cases k with
    | zero => exact h
    | succ k => exact subL_drop (k := k) h.2
theorem subL_take {m n k : Nat} : ∀ {l : List AV}, AV.subL m n l → AV.subL m n (l.take k)
  | [], _ => by simp [AV.subL]
  | x :: r, h => by
    cases k with
    | zero => trivial
    | succ k => exact ⟨h.1, subL_take (k := k) h.2⟩
theorem wrongs_sub (i : Nat) : AV.subL 6 0 (List.take 2 (List.drop (i * 2) wrongs)) := subL_take (subL_drop (by simp [AV.subL, AV.sub]))
theorem outErr (st : ASt) (k : IntKind) (c : Int) : OutOk st (.tup [.raw (.slice none 0 0), .raw (.int k c)]) (.tup [lA 7 KeyWin.av [], .raw (.int k c)]) :=
  OutOk.sims (Sims.tup (show SimsL st.bx st.rw [_, _] [_, _] from ⟨(Sim.nil rfl).s, Sims.refl _, trivial⟩)) ⟨lA_free (fun y => KeyWin.free y) _, trivial, trivial⟩
theorem announce_A (l : List KeyWin) (hl : l.length ≤ 4611686018427387904) (hf : ∀ k ∈ l, k.fits) (key once : Int) (next : KeyWin) (hn : next.fits) :
    FnA Tryd.prog 14 [lA 7 KeyWin.av l, .raw (.int .i64 key), .raw (.int .i64 once), .agg next.av] (.tup [lA 7 KeyWin.av (annM l key once next).1, .raw (.int .i64 (annM l key once next).2)]) := by
  have hfr : (lA 7 KeyWin.av l).free := lA_free (fun y => KeyWin.free y) _
  have hws : ∀ i, i < 5 → AV.subL 6 0 (List.take 2 (List.drop (i * 2) wrongs)) := fun i _ => wrongs_sub i
  refine fnA_of tblOk Tryd.func14 rfl (by kernel_rfl) 60 Tryd.ntmps14 (by simp only [List.length_cons, List.length_nil]; omega) [.tmp 8, .tmp 9] rfl ?_
  simp only [entrySt, argSl, Nat.zero_add, Nat.reduceAdd]
  repeat'
    first
      | first
        | (refine runS_nil (hK _ ?_); clear hK K)
        | refine stG ?_
        | (refine gateA 1 rfl ?_; refine runA_put ?_)
        | (refine gateBc ?_; first | (refine runB_nil (hK _ ?_); clear hK K) | (refine runB_op rfl ⟨_, evl, fun nb' => ?_⟩))
        | refine wpA_region (fun K hK => ?_)
        | (refine gateD ?_; first | (refine wpA_drawG false rfl (by kernel_rfl) (by kernel_rfl) (fun K hK => ?_)) | (refine wpA_drawG true rfl (by kernel_rfl) (by kernel_rfl) (fun K hK => ?_)))
        | (refine wpA_cond' ⟨_, evl, fun hb => ?_, fun hb => ?_⟩ <;> (try simp only [Bool.or_eq_true, Bool.and_eq_true, Bool.or_eq_false_iff, Bool.and_eq_false_iff, Bool.not_eq_true', Bool.not_eq_false', Bool.not_eq_true, Bool.not_eq_false, decide_eq_true_eq, decide_eq_false_iff_not, Bool.true_eq_false, Bool.false_eq_true, ne_eq, Classical.not_not, Int.not_lt, Int.not_le, Bool.not_true, Bool.not_false] at hb))
      | fail
  refine wpA_loop (fun k : Nat => ⟨60, 0, [(4, true, .box 0 0), (5, true, .box 1 0), (6, true, .box 2 0), (7, true, .box 3 0), (10, true, .box 4 0), (11, true, .box 5 0), (8, true, .raw (.slice none 0 0)), (9, true, .raw (.int .i64 0)), (29, true, .lst 2 5 (chunkA 2 wrongs)), (30, true, .raw (.int .i64 5)), (31, true, .raw (.int .i64 k))],
      [[lA 7 KeyWin.av l], [.raw (.int .i64 key)], [.raw (.int .i64 once)], KeyWin.av (next0 next), [.raw (.int .i64 (if k ≤ 2 then 0 else (findN l next.auth 1001 : Int)))], [.fn (.func 41) [] [.box 0 0, .box 4 0]]], [], ((0, []), [], true)⟩)
    (fun k => k ≤ 5 ∧ (1 ≤ k → ((ValidP l ∧ formedP (next0 next)) ∧ withinM key 1 = true) ∧ withinM once 1 = true) ∧ (2 ≤ k → l.length ≠ 100) ∧ (3 ≤ k → findN l next.auth 1001 ≠ 0 ∧ (prevK l next.auth).auth = next.auth) ∧ (4 ≤ k → followsP (prevK l next.auth) (next0 next)) ∧ (5 ≤ k → (expM 4 key).2 = 0 ∧ (expM 4 key).1 = (prevK l next.auth).pub)) (fun k => 5 - k) 0 ?_ ⟨by omega, by omega, by omega, by omega, by omega, by omega⟩ ?_
  · refine Weak.gen ?_ ?_ ?_ (by simp) ?_
    rotate_left 3
    · first | (simp [subSl, subB, subR, AV.sub, AV.subL, go_sem]; done) | (simp [subSl, subB, subR, AV.sub, AV.subL, go_sem, AV.subL_free, AV.sub_free, *]; done) | (simp_all [subSl, subB, subR, AV.sub, AV.subL, go_sem]; done)
    all_goals (try simp only [SlSim, BxSim, RwSim, SimsL, lookN_cons, ↓reduceIte, Nat.reduceEqDiff, Option.some.injEq, Prod.mk.injEq, true_and, and_true, exists_eq_left', and_self])
    all_goals (try trivial)
    all_goals ((repeat' apply And.intro) <;> first | exact simsT | (intro _ _; exact simsT) | omega | (simp; done) | (simp; omega) | (intro _ _; refine SimsL.of_eq (els_snoc ?_ (by assumption) rfl) <;> first | rfl | omega | (simp; done) | (simp; omega)) | skip)
  · rintro k ⟨hk, k1, k2, k3, k4, k5⟩
    have hk6 : k = 0 ∨ k = 1 ∨ k = 2 ∨ k = 3 ∨ k = 4 ∨ k = 5 := by omega
    have hle := findN_le l next.auth 1001
    rcases hk6 with rfl | rfl | rfl | rfl | rfl | rfl
    · clear k1 k2 k3 k4 k5
      repeat'
        first
          | first
            | (refine runS_nil (hK _ ?_); clear hK K)
            | refine stG ?_
            | (refine gateA 1 rfl ?_; refine runA_put ?_)
            | (refine gateBc ?_; first | (refine runB_nil (hK _ ?_); clear hK K) | (refine runB_op rfl ⟨_, evl, fun nb' => ?_⟩))
            | refine wpA_region (fun K hK => ?_)
            | (refine gateD ?_; first | (refine wpA_drawG false rfl (by kernel_rfl) (by kernel_rfl) (fun K hK => ?_)) | (refine wpA_drawG true rfl (by kernel_rfl) (by kernel_rfl) (fun K hK => ?_)))
            | (refine wpA_cond' ⟨_, evl, fun hb => ?_, fun hb => ?_⟩ <;> (try simp only [Bool.or_eq_true, Bool.and_eq_true, Bool.or_eq_false_iff, Bool.and_eq_false_iff, Bool.not_eq_true', Bool.not_eq_false', Bool.not_eq_true, Bool.not_eq_false, decide_eq_true_eq, decide_eq_false_iff_not, Bool.true_eq_false, Bool.false_eq_true, ne_eq, Classical.not_not, Int.not_lt, Int.not_le, Bool.not_true, Bool.not_false] at hb))
          | fail
      refine sCallG [0, 3, 1, 2] [] (ann2_G l hl hf (next0 next) key once) rfl rfl rfl ⟨_, evl, _, evl, _, evl, obl, by decide, by decide, by first | trivial | exact ⟨rfl, trivial⟩ | exact ⟨rfl, rfl, trivial⟩ | exact ⟨rfl, rfl, rfl, trivial⟩ | simp [handL, AV.renL, AV.ren, ARow.ren], by first | trivial | exact ⟨rfl, trivial⟩ | exact ⟨rfl, rfl, trivial⟩ | exact ⟨rfl, rfl, rfl, trivial⟩ | simp [handL, AV.renL, AV.ren, ARow.ren], (by first | (simp [AV.subL, AV.sub]; done) | (simp only [List.forall_mem_cons, List.not_mem_nil, false_implies, implies_true, and_true, true_and, AV.subL, AV.sub, List.length_cons, List.length_nil, Nat.zero_add, Nat.reduceAdd]; (repeat' apply And.intro) <;> first | trivial | omega | (simp; done) | (refine AV.sub_free _ ?_; exact lA_free (fun _ => by simp) _) | (refine AV.subL_free _ ?_; simp; done) | (intro r hr; cases hr; done))), _, evl, _, evl, _, evl, ?_⟩
      repeat'
        first
          | first
            | (refine runS_nil (hK _ ?_); clear hK K)
            | refine stG ?_
            | (refine gateA 1 rfl ?_; refine runA_put ?_)
            | (refine gateBc ?_; first | (refine runB_nil (hK _ ?_); clear hK K) | (refine runB_op rfl ⟨_, evl, fun nb' => ?_⟩))
            | refine wpA_region (fun K hK => ?_)
            | (refine gateD ?_; first | (refine wpA_drawG false rfl (by kernel_rfl) (by kernel_rfl) (fun K hK => ?_)) | (refine wpA_drawG true rfl (by kernel_rfl) (by kernel_rfl) (fun K hK => ?_)))
            | (refine wpA_cond' ⟨_, evl, fun hb => ?_, fun hb => ?_⟩ <;> (try simp only [Bool.or_eq_true, Bool.and_eq_true, Bool.or_eq_false_iff, Bool.and_eq_false_iff, Bool.not_eq_true', Bool.not_eq_false', Bool.not_eq_true, Bool.not_eq_false, decide_eq_true_eq, decide_eq_false_iff_not, Bool.true_eq_false, Bool.false_eq_true, ne_eq, Classical.not_not, Int.not_lt, Int.not_le, Bool.not_true, Bool.not_false] at hb))
          | fail
      · rw [show annM l key once next = ([], 1) from by unfold annM; rw [if_pos (fun h => by rcases hb with ((h1 | h1) | h1) | h1 <;> simp_all)]]
        refine ret_of (by simp) ⟨_, _, _, evl, ob0, outErr _ _ _⟩
      · refine ⟨1, ⟨by omega, fun _ => hb, by omega, by omega, by omega, by omega⟩, by omega, ?_⟩
        refine Weak.gen ?_ ?_ ?_ (by simp) ?_
        rotate_left 3
        · first | (simp [subSl, subB, subR, AV.sub, AV.subL, go_sem]; done) | (simp [subSl, subB, subR, AV.sub, AV.subL, go_sem, AV.subL_free, AV.sub_free, *]; done) | (simp_all [subSl, subB, subR, AV.sub, AV.subL, go_sem]; done)
        all_goals (try simp only [SlSim, BxSim, RwSim, SimsL, lookN_cons, ↓reduceIte, Nat.reduceEqDiff, Option.some.injEq, Prod.mk.injEq, true_and, and_true, exists_eq_left', and_self])
        all_goals (try trivial)
        all_goals ((repeat' apply And.intro) <;> first | exact simsT | (intro _ _; exact simsT) | omega | (simp; done) | (simp; omega) | (intro _ _; refine SimsL.of_eq (els_snoc ?_ (by assumption) rfl) <;> first | rfl | omega | (simp; done) | (simp; omega)) | skip)
      · exact absurd hb (by omega)
    · have k1 := k1 (by omega)
      clear k2 k3 k4 k5
      repeat'
        first
          | first
            | (refine runS_nil (hK _ ?_); clear hK K)
            | refine stG ?_
            | (refine gateA 1 rfl ?_; refine runA_put ?_)
            | (refine gateBc ?_; first | (refine runB_nil (hK _ ?_); clear hK K) | (refine runB_op rfl ⟨_, evl, fun nb' => ?_⟩))
            | refine wpA_region (fun K hK => ?_)
            | (refine gateD ?_; first | (refine wpA_drawG false rfl (by kernel_rfl) (by kernel_rfl) (fun K hK => ?_)) | (refine wpA_drawG true rfl (by kernel_rfl) (by kernel_rfl) (fun K hK => ?_)))
            | (refine wpA_cond' ⟨_, evl, fun hb => ?_, fun hb => ?_⟩ <;> (try simp only [Bool.or_eq_true, Bool.and_eq_true, Bool.or_eq_false_iff, Bool.and_eq_false_iff, Bool.not_eq_true', Bool.not_eq_false', Bool.not_eq_true, Bool.not_eq_false, decide_eq_true_eq, decide_eq_false_iff_not, Bool.true_eq_false, Bool.false_eq_true, ne_eq, Classical.not_not, Int.not_lt, Int.not_le, Bool.not_true, Bool.not_false] at hb))
          | fail
      refine sCallG [0] [] (ann3_G l) rfl rfl rfl ⟨_, evl, _, evl, _, evl, obl, by decide, by decide, by first | trivial | exact ⟨rfl, trivial⟩ | exact ⟨rfl, rfl, trivial⟩ | exact ⟨rfl, rfl, rfl, trivial⟩ | simp [handL, AV.renL, AV.ren, ARow.ren], by first | trivial | exact ⟨rfl, trivial⟩ | exact ⟨rfl, rfl, trivial⟩ | exact ⟨rfl, rfl, rfl, trivial⟩ | simp [handL, AV.renL, AV.ren, ARow.ren], (by first | (simp [AV.subL, AV.sub]; done) | (simp only [List.forall_mem_cons, List.not_mem_nil, false_implies, implies_true, and_true, true_and, AV.subL, AV.sub, List.length_cons, List.length_nil, Nat.zero_add, Nat.reduceAdd]; (repeat' apply And.intro) <;> first | trivial | omega | (simp; done) | (refine AV.sub_free _ ?_; exact lA_free (fun _ => by simp) _) | (refine AV.subL_free _ ?_; simp; done) | (intro r hr; cases hr; done))), _, evl, _, evl, _, evl, ?_⟩
      repeat'
        first
          | first
            | (refine runS_nil (hK _ ?_); clear hK K)
            | refine stG ?_
            | (refine gateA 1 rfl ?_; refine runA_put ?_)
            | (refine gateBc ?_; first | (refine runB_nil (hK _ ?_); clear hK K) | (refine runB_op rfl ⟨_, evl, fun nb' => ?_⟩))
            | refine wpA_region (fun K hK => ?_)
            | (refine gateD ?_; first | (refine wpA_drawG false rfl (by kernel_rfl) (by kernel_rfl) (fun K hK => ?_)) | (refine wpA_drawG true rfl (by kernel_rfl) (by kernel_rfl) (fun K hK => ?_)))
            | (refine wpA_cond' ⟨_, evl, fun hb => ?_, fun hb => ?_⟩ <;> (try simp only [Bool.or_eq_true, Bool.and_eq_true, Bool.or_eq_false_iff, Bool.and_eq_false_iff, Bool.not_eq_true', Bool.not_eq_false', Bool.not_eq_true, Bool.not_eq_false, decide_eq_true_eq, decide_eq_false_iff_not, Bool.true_eq_false, Bool.false_eq_true, ne_eq, Classical.not_not, Int.not_lt, Int.not_le, Bool.not_true, Bool.not_false] at hb))
          | fail
      · rw [show annM l key once next = ([], 2) from by unfold annM; rw [if_neg (fun h => h k1), if_pos (by assumption)]]
        refine ret_of (by simp) ⟨_, _, _, evl, ob0, outErr _ _ _⟩
      · refine ⟨2, ⟨by omega, fun _ => k1, fun _ => hb, by omega, by omega, by omega⟩, by omega, ?_⟩
        refine Weak.gen ?_ ?_ ?_ (by simp) ?_
        rotate_left 3
        · first | (simp [subSl, subB, subR, AV.sub, AV.subL, go_sem]; done) | (simp [subSl, subB, subR, AV.sub, AV.subL, go_sem, AV.subL_free, AV.sub_free, *]; done) | (simp_all [subSl, subB, subR, AV.sub, AV.subL, go_sem]; done)
        all_goals (try simp only [SlSim, BxSim, RwSim, SimsL, lookN_cons, ↓reduceIte, Nat.reduceEqDiff, Option.some.injEq, Prod.mk.injEq, true_and, and_true, exists_eq_left', and_self])
        all_goals (try trivial)
        all_goals ((repeat' apply And.intro) <;> first | exact simsT | (intro _ _; exact simsT) | omega | (simp; done) | (simp; omega) | (intro _ _; refine SimsL.of_eq (els_snoc ?_ (by assumption) rfl) <;> first | rfl | omega | (simp; done) | (simp; omega)) | skip)
      · exact absurd hb (by omega)
    · have k1 := k1 (by omega)
      have k2 := k2 (by omega)
      clear k3 k4 k5
      repeat'
        first
          | first
            | (refine runS_nil (hK _ ?_); clear hK K)
            | refine stG ?_
            | (refine gateA 1 rfl ?_; refine runA_put ?_)
            | (refine gateBc ?_; first | (refine runB_nil (hK _ ?_); clear hK K) | (refine runB_op rfl ⟨_, evl, fun nb' => ?_⟩))
            | refine wpA_region (fun K hK => ?_)
            | (refine gateD ?_; first | (refine wpA_drawG false rfl (by kernel_rfl) (by kernel_rfl) (fun K hK => ?_)) | (refine wpA_drawG true rfl (by kernel_rfl) (by kernel_rfl) (fun K hK => ?_)))
            | (refine wpA_cond' ⟨_, evl, fun hb => ?_, fun hb => ?_⟩ <;> (try simp only [Bool.or_eq_true, Bool.and_eq_true, Bool.or_eq_false_iff, Bool.and_eq_false_iff, Bool.not_eq_true', Bool.not_eq_false', Bool.not_eq_true, Bool.not_eq_false, decide_eq_true_eq, decide_eq_false_iff_not, Bool.true_eq_false, Bool.false_eq_true, ne_eq, Classical.not_not, Int.not_lt, Int.not_le, Bool.not_true, Bool.not_false] at hb))
          | fail
      refine sCallG [0, 3, 4, 5] [] (ann4_G l k1.1.1.1 (next0 next) 0) rfl rfl rfl ⟨_, evl, _, evl, _, evl, obl, by decide, by decide, by first | trivial | exact ⟨rfl, trivial⟩ | exact ⟨rfl, rfl, trivial⟩ | exact ⟨rfl, rfl, rfl, trivial⟩ | simp [handL, AV.renL, AV.ren, ARow.ren], by first | trivial | exact ⟨rfl, trivial⟩ | exact ⟨rfl, rfl, trivial⟩ | exact ⟨rfl, rfl, rfl, trivial⟩ | simp [handL, AV.renL, AV.ren, ARow.ren], (by first | (simp [AV.subL, AV.sub]; done) | (simp only [List.forall_mem_cons, List.not_mem_nil, false_implies, implies_true, and_true, true_and, AV.subL, AV.sub, List.length_cons, List.length_nil, Nat.zero_add, Nat.reduceAdd]; (repeat' apply And.intro) <;> first | trivial | omega | (simp; done) | (refine AV.sub_free _ ?_; exact lA_free (fun _ => by simp) _) | (refine AV.subL_free _ ?_; simp; done) | (intro r hr; cases hr; done))), _, evl, _, evl, _, evl, ?_⟩
      repeat'
        first
          | first
            | (refine runS_nil (hK _ ?_); clear hK K)
            | refine stG ?_
            | (refine gateA 1 rfl ?_; refine runA_put ?_)
            | (refine gateBc ?_; first | (refine runB_nil (hK _ ?_); clear hK K) | (refine runB_op rfl ⟨_, evl, fun nb' => ?_⟩))
            | refine wpA_region (fun K hK => ?_)
            | (refine gateD ?_; first | (refine wpA_drawG false rfl (by kernel_rfl) (by kernel_rfl) (fun K hK => ?_)) | (refine wpA_drawG true rfl (by kernel_rfl) (by kernel_rfl) (fun K hK => ?_)))
            | (refine wpA_cond' ⟨_, evl, fun hb => ?_, fun hb => ?_⟩ <;> (try simp only [Bool.or_eq_true, Bool.and_eq_true, Bool.or_eq_false_iff, Bool.and_eq_false_iff, Bool.not_eq_true', Bool.not_eq_false', Bool.not_eq_true, Bool.not_eq_false, decide_eq_true_eq, decide_eq_false_iff_not, Bool.true_eq_false, Bool.false_eq_true, ne_eq, Classical.not_not, Int.not_lt, Int.not_le, Bool.not_true, Bool.not_false] at hb))
          | fail
      · rw [show annM l key once next = ([], 4) from by unfold annM; rw [if_neg (fun h => h k1), if_neg k2, if_pos (by exact hb)]]
        refine ret_of (by simp) ⟨_, _, _, evl, ob0, outErr _ _ _⟩
      · refine ⟨3, ⟨by omega, fun _ => k1, fun _ => k2, fun _ => (by exact hb), by omega, by omega⟩, by omega, ?_⟩
        refine Weak.gen ?_ ?_ ?_ (by simp) ?_
        rotate_left 3
        · first | (simp [subSl, subB, subR, AV.sub, AV.subL, go_sem]; done) | (simp [subSl, subB, subR, AV.sub, AV.subL, go_sem, AV.subL_free, AV.sub_free, *]; done) | (simp_all [subSl, subB, subR, AV.sub, AV.subL, go_sem]; done)
        all_goals (try simp only [SlSim, BxSim, RwSim, SimsL, lookN_cons, ↓reduceIte, Nat.reduceEqDiff, Option.some.injEq, Prod.mk.injEq, true_and, and_true, exists_eq_left', and_self])
        all_goals (try trivial)
        all_goals ((repeat' apply And.intro) <;> first | exact simsT | (intro _ _; exact simsT) | omega | (simp; done) | (simp; omega) | (intro _ _; refine SimsL.of_eq (els_snoc ?_ (by assumption) rfl) <;> first | rfl | omega | (simp; done) | (simp; omega)) | skip)
      · exact absurd hb (by omega)
    · have k1 := k1 (by omega)
      have k2 := k2 (by omega)
      have k3 := k3 (by omega)
      clear k4 k5
      have hat : 1 ≤ (findN l next.auth 1001 : Int) ∧ (findN l next.auth 1001 : Int) ≤ l.length ∧ l.length ≤ 1000 := by have := k1.1.1.1.1; omega
      repeat'
        first
          | first
            | (refine runS_nil (hK _ ?_); clear hK K)
            | refine stG ?_
            | (refine gateA 1 rfl ?_; refine runA_put ?_)
            | (refine gateBc ?_; first | (refine runB_nil (hK _ ?_); clear hK K) | (refine runB_op rfl ⟨_, evl, fun nb' => ?_⟩))
            | refine wpA_region (fun K hK => ?_)
            | (refine gateD ?_; first | (refine wpA_drawG false rfl (by kernel_rfl) (by kernel_rfl) (fun K hK => ?_)) | (refine wpA_drawG true rfl (by kernel_rfl) (by kernel_rfl) (fun K hK => ?_)))
            | (refine wpA_cond' ⟨_, evl, fun hb => ?_, fun hb => ?_⟩ <;> (try simp only [Bool.or_eq_true, Bool.and_eq_true, Bool.or_eq_false_iff, Bool.and_eq_false_iff, Bool.not_eq_true', Bool.not_eq_false', Bool.not_eq_true, Bool.not_eq_false, decide_eq_true_eq, decide_eq_false_iff_not, Bool.true_eq_false, Bool.false_eq_true, ne_eq, Classical.not_not, Int.not_lt, Int.not_le, Bool.not_true, Bool.not_false] at hb))
          | fail
      refine sCallG [0, 3, 4, 5] [] (ann5_G l (next0 next) (findN l next.auth 1001) hat (fun k hk => ⟨(k1.1.1.1.2.1 k hk).2.2.1, (k1.1.1.1.2.1 k hk).2.2.2.1⟩)) rfl rfl rfl ⟨_, evl, _, evl, _, evl, obl, by decide, by decide, by first | trivial | exact ⟨rfl, trivial⟩ | exact ⟨rfl, rfl, trivial⟩ | exact ⟨rfl, rfl, rfl, trivial⟩ | simp [handL, AV.renL, AV.ren, ARow.ren], by first | trivial | exact ⟨rfl, trivial⟩ | exact ⟨rfl, rfl, trivial⟩ | exact ⟨rfl, rfl, rfl, trivial⟩ | simp [handL, AV.renL, AV.ren, ARow.ren], (by first | (simp [AV.subL, AV.sub]; done) | (simp only [List.forall_mem_cons, List.not_mem_nil, false_implies, implies_true, and_true, true_and, AV.subL, AV.sub, List.length_cons, List.length_nil, Nat.zero_add, Nat.reduceAdd]; (repeat' apply And.intro) <;> first | trivial | omega | (simp; done) | (refine AV.sub_free _ ?_; exact lA_free (fun _ => by simp) _) | (refine AV.subL_free _ ?_; simp; done) | (intro r hr; cases hr; done))), _, evl, _, evl, _, evl, ?_⟩
      repeat'
        first
          | first
            | (refine runS_nil (hK _ ?_); clear hK K)
            | refine stG ?_
            | (refine gateA 1 rfl ?_; refine runA_put ?_)
            | (refine gateBc ?_; first | (refine runB_nil (hK _ ?_); clear hK K) | (refine runB_op rfl ⟨_, evl, fun nb' => ?_⟩))
            | refine wpA_region (fun K hK => ?_)
            | (refine gateD ?_; first | (refine wpA_drawG false rfl (by kernel_rfl) (by kernel_rfl) (fun K hK => ?_)) | (refine wpA_drawG true rfl (by kernel_rfl) (by kernel_rfl) (fun K hK => ?_)))
            | (refine wpA_cond' ⟨_, evl, fun hb => ?_, fun hb => ?_⟩ <;> (try simp only [Bool.or_eq_true, Bool.and_eq_true, Bool.or_eq_false_iff, Bool.and_eq_false_iff, Bool.not_eq_true', Bool.not_eq_false', Bool.not_eq_true, Bool.not_eq_false, decide_eq_true_eq, decide_eq_false_iff_not, Bool.true_eq_false, Bool.false_eq_true, ne_eq, Classical.not_not, Int.not_lt, Int.not_le, Bool.not_true, Bool.not_false] at hb))
          | fail
      · rw [show annM l key once next = ([], 30) from by unfold annM; rw [if_neg (fun h => h k1), if_neg k2, if_neg (fun h => h.elim k3.1 fun h => h k3.2), if_pos (by exact hb)]]
        refine ret_of (by simp) ⟨_, _, _, evl, ob0, outErr _ _ _⟩
      · refine ⟨4, ⟨by omega, fun _ => k1, fun _ => k2, fun _ => k3, fun _ => (by exact hb), by omega⟩, by omega, ?_⟩
        refine Weak.gen ?_ ?_ ?_ (by simp) ?_
        rotate_left 3
        · first | (simp [subSl, subB, subR, AV.sub, AV.subL, go_sem]; done) | (simp [subSl, subB, subR, AV.sub, AV.subL, go_sem, AV.subL_free, AV.sub_free, *]; done) | (simp_all [subSl, subB, subR, AV.sub, AV.subL, go_sem]; done)
        all_goals (try simp only [SlSim, BxSim, RwSim, SimsL, lookN_cons, ↓reduceIte, Nat.reduceEqDiff, Option.some.injEq, Prod.mk.injEq, true_and, and_true, exists_eq_left', and_self])
        all_goals (try trivial)
        all_goals ((repeat' apply And.intro) <;> first | exact simsT | (intro _ _; exact simsT) | omega | (simp; done) | (simp; omega) | (intro _ _; refine SimsL.of_eq (els_snoc ?_ (by assumption) rfl) <;> first | rfl | omega | (simp; done) | (simp; omega)) | skip)
      · exact absurd hb (by omega)
    · have k1 := k1 (by omega)
      have k2 := k2 (by omega)
      have k3 := k3 (by omega)
      have k4 := k4 (by omega)
      clear k5
      have hat : 1 ≤ (findN l next.auth 1001 : Int) ∧ (findN l next.auth 1001 : Int) ≤ l.length ∧ l.length ≤ 1000 := by have := k1.1.1.1.1; omega
      repeat'
        first
          | first
            | (refine runS_nil (hK _ ?_); clear hK K)
            | refine stG ?_
            | (refine gateA 1 rfl ?_; refine runA_put ?_)
            | (refine gateBc ?_; first | (refine runB_nil (hK _ ?_); clear hK K) | (refine runB_op rfl ⟨_, evl, fun nb' => ?_⟩))
            | refine wpA_region (fun K hK => ?_)
            | (refine gateD ?_; first | (refine wpA_drawG false rfl (by kernel_rfl) (by kernel_rfl) (fun K hK => ?_)) | (refine wpA_drawG true rfl (by kernel_rfl) (by kernel_rfl) (fun K hK => ?_)))
            | (refine wpA_cond' ⟨_, evl, fun hb => ?_, fun hb => ?_⟩ <;> (try simp only [Bool.or_eq_true, Bool.and_eq_true, Bool.or_eq_false_iff, Bool.and_eq_false_iff, Bool.not_eq_true', Bool.not_eq_false', Bool.not_eq_true, Bool.not_eq_false, decide_eq_true_eq, decide_eq_false_iff_not, Bool.true_eq_false, Bool.false_eq_true, ne_eq, Classical.not_not, Int.not_lt, Int.not_le, Bool.not_true, Bool.not_false] at hb))
          | fail
      refine sCallG [0, 1, 4, 5] [] (ann6_G l key (findN l next.auth 1001) hat) rfl rfl rfl ⟨_, evl, _, evl, _, evl, obl, by decide, by decide, by first | trivial | exact ⟨rfl, trivial⟩ | exact ⟨rfl, rfl, trivial⟩ | exact ⟨rfl, rfl, rfl, trivial⟩ | simp [handL, AV.renL, AV.ren, ARow.ren], by first | trivial | exact ⟨rfl, trivial⟩ | exact ⟨rfl, rfl, trivial⟩ | exact ⟨rfl, rfl, rfl, trivial⟩ | simp [handL, AV.renL, AV.ren, ARow.ren], (by first | (simp [AV.subL, AV.sub]; done) | (simp only [List.forall_mem_cons, List.not_mem_nil, false_implies, implies_true, and_true, true_and, AV.subL, AV.sub, List.length_cons, List.length_nil, Nat.zero_add, Nat.reduceAdd]; (repeat' apply And.intro) <;> first | trivial | omega | (simp; done) | (refine AV.sub_free _ ?_; exact lA_free (fun _ => by simp) _) | (refine AV.subL_free _ ?_; simp; done) | (intro r hr; cases hr; done))), _, evl, _, evl, _, evl, ?_⟩
      repeat'
        first
          | first
            | (refine runS_nil (hK _ ?_); clear hK K)
            | refine stG ?_
            | (refine gateA 1 rfl ?_; refine runA_put ?_)
            | (refine gateBc ?_; first | (refine runB_nil (hK _ ?_); clear hK K) | (refine runB_op rfl ⟨_, evl, fun nb' => ?_⟩))
            | refine wpA_region (fun K hK => ?_)
            | (refine gateD ?_; first | (refine wpA_drawG false rfl (by kernel_rfl) (by kernel_rfl) (fun K hK => ?_)) | (refine wpA_drawG true rfl (by kernel_rfl) (by kernel_rfl) (fun K hK => ?_)))
            | (refine wpA_cond' ⟨_, evl, fun hb => ?_, fun hb => ?_⟩ <;> (try simp only [Bool.or_eq_true, Bool.and_eq_true, Bool.or_eq_false_iff, Bool.and_eq_false_iff, Bool.not_eq_true', Bool.not_eq_false', Bool.not_eq_true, Bool.not_eq_false, decide_eq_true_eq, decide_eq_false_iff_not, Bool.true_eq_false, Bool.false_eq_true, ne_eq, Classical.not_not, Int.not_lt, Int.not_le, Bool.not_true, Bool.not_false] at hb))
          | fail
      · rw [show annM l key once next = ([], 31) from by unfold annM; rw [if_neg (fun h => h k1), if_neg k2, if_neg (fun h => h.elim k3.1 fun h => h k3.2), if_neg (fun h => h k4), if_pos (fun h => hb.elim (fun g => g h.1) fun g => g h.2)]]
        refine ret_of (by simp) ⟨_, _, _, evl, ob0, outErr _ _ _⟩
      · refine ⟨5, ⟨by omega, fun _ => k1, fun _ => k2, fun _ => k3, fun _ => k4, fun _ => (by exact hb)⟩, by omega, ?_⟩
        refine Weak.gen ?_ ?_ ?_ (by simp) ?_
        rotate_left 3
        · first | (simp [subSl, subB, subR, AV.sub, AV.subL, go_sem]; done) | (simp [subSl, subB, subR, AV.sub, AV.subL, go_sem, AV.subL_free, AV.sub_free, *]; done) | (simp_all [subSl, subB, subR, AV.sub, AV.subL, go_sem]; done)
        all_goals (try simp only [SlSim, BxSim, RwSim, SimsL, lookN_cons, ↓reduceIte, Nat.reduceEqDiff, Option.some.injEq, Prod.mk.injEq, true_and, and_true, exists_eq_left', and_self])
        all_goals (try trivial)
        all_goals ((repeat' apply And.intro) <;> first | exact simsT | (intro _ _; exact simsT) | omega | (simp; done) | (simp; omega) | (intro _ _; refine SimsL.of_eq (els_snoc ?_ (by assumption) rfl) <;> first | rfl | omega | (simp; done) | (simp; omega)) | skip)
      · exact absurd hb (by omega)
    · have k1 := k1 (by omega)
      have k2 := k2 (by omega)
      have k3 := k3 (by omega)
      have k4 := k4 (by omega)
      have k5 := k5 (by omega)
      have hsg := sign_A key once (msgM (next0 next)) (okI_msg (k := next0 next) ⟨hn.1, hn.2.1, hn.2.2.1, hn.2.2.2.1, hn.2.2.2.2.1, by simp [next0, Sig.fits, inK]⟩) (by simp [msgM])
      have hs2 : (signM key once (msgM (next0 next))).2 = 0 := by unfold signM; rw [k1.1.2, k1.2]; rfl
      rw [hs2] at hsg
      have hM : annM l key once next = (insK l (findN l next.auth 1001) { next with sig := (signM key once (msgM (next0 next))).1 }, 0) := by
        unfold annM; rw [if_neg (fun h => h k1), if_neg k2, if_neg (fun h => h.elim k3.1 fun h => h k3.2), if_neg (fun h => h k4), if_neg (fun h => h k5)]
      rw [hM]
      have hfm : (liA (msgM (next0 next))).free := lA_free (fun _ => by simp [AV.free, AV.freeL, iC]) _
      have hmg := message_A (next0 next)
      generalize (signM key once (msgM (next0 next))).1 = sg at *
      generalize liA (msgM (next0 next)) = LM at *
      repeat'
        first
          | first
            | (refine runS_nil (hK _ ?_); clear hK K)
            | refine stG ?_
            | (refine gateS 1 rfl ?_; refine runS_call rfl rfl ⟨_, evl, _, _, _, evl, oblF, ?_⟩; apply Exists.intro; refine ⟨fun hg => ?_, ?_⟩; · first | exact FnA.at_ (hmg) rfl rfl | exact FnA.at_ (hsg) rfl rfl | exact FnA.at_s (hmg) rfl simT | exact FnA.at_s (hmg) rfl simF | exact FnA.at_s (hsg) rfl simT | exact FnA.at_s (hsg) rfl simF)
            | (refine gateA 1 rfl ?_; refine runA_call rfl ⟨_, evl, _, _, _, (fun _ _ => evlA), oblF, ?_⟩; apply Exists.intro; refine ⟨fun hg => ?_, ?_⟩; · first | exact FnA.at_ (hmg) rfl rfl | exact FnA.at_ (hsg) rfl rfl | exact FnA.at_s (hmg) rfl simT | exact FnA.at_s (hmg) rfl simF | exact FnA.at_s (hsg) rfl simT | exact FnA.at_s (hsg) rfl simF)
            | (refine gateA 1 rfl ?_; refine runA_put ?_)
            | (refine gateBc ?_; first | (refine runB_nil (hK _ ?_); clear hK K) | (refine runB_op rfl ⟨_, evl, fun nb' => ?_⟩))
            | refine wpA_region (fun K hK => ?_)
            | (refine gateD ?_; first | (refine wpA_drawG false rfl (by kernel_rfl) (by kernel_rfl) (fun K hK => ?_)) | (refine wpA_drawG true rfl (by kernel_rfl) (by kernel_rfl) (fun K hK => ?_)))
            | (refine wpA_cond' ⟨_, evl, fun hb => ?_, fun hb => ?_⟩ <;> (try simp only [Bool.or_eq_true, Bool.and_eq_true, Bool.or_eq_false_iff, Bool.and_eq_false_iff, Bool.not_eq_true', Bool.not_eq_false', Bool.not_eq_true, Bool.not_eq_false, decide_eq_true_eq, decide_eq_false_iff_not, Bool.true_eq_false, Bool.false_eq_true, ne_eq, Classical.not_not, Int.not_lt, Int.not_le, Bool.not_true, Bool.not_false] at hb))
          | fail
      · exact absurd hb (by omega)
      have hL : 0 < l.length ∧ l.length ≤ 1000 := by have := k1.1.1.1.1; have := k3.1; omega
      refine sCallX [] [] (clone_X l hL) rfl rfl rfl ⟨_, evl, _, evl, _, evl, obl, by decide, by decide, by first | trivial | exact ⟨rfl, trivial⟩ | exact ⟨rfl, rfl, trivial⟩ | exact ⟨rfl, rfl, rfl, trivial⟩ | simp [handL, AV.renL, AV.ren, ARow.ren], by first | trivial | exact ⟨rfl, trivial⟩ | exact ⟨rfl, rfl, trivial⟩ | exact ⟨rfl, rfl, rfl, trivial⟩ | simp [handL, AV.renL, AV.ren, ARow.ren], (by first | (simp [AV.subL, AV.sub]; done) | (simp only [List.forall_mem_cons, List.not_mem_nil, false_implies, implies_true, and_true, true_and, AV.subL, AV.sub, List.length_cons, List.length_nil, Nat.zero_add, Nat.reduceAdd]; (repeat' apply And.intro) <;> first | trivial | omega | (simp; done) | (refine AV.sub_free _ ?_; exact lA_free (fun _ => by simp) _) | (refine AV.subL_free _ ?_; simp; done) | (intro r hr; cases hr; done))), ?_, ?_⟩
      · rintro r sub' rsub' ⟨rfl, c, zs, rfl, rfl, hc, hz, hzr, hzo⟩
        simp
      rintro r sub' rsub' ⟨rfl, c, zs, rfl, rfl, hc, hz, hzr, hzo⟩
      refine ⟨_, evl, _, rfl, _, evl, ?_⟩
      simp only [List.map_cons, List.map_nil, renL_raw (rawL_app (kcs_raw l) hzr), setAll, AV.renL, List.cons_append, List.nil_append]
      repeat'
        first
          | first
            | (refine runS_nil (hK _ ?_); clear hK K)
            | refine stG ?_
            | (refine gateA 1 rfl ?_; refine runA_put ?_)
            | (refine gateBc ?_; first | (refine runB_nil (hK _ ?_); clear hK K) | (refine runB_op rfl ⟨_, evl, fun nb' => ?_⟩))
            | refine wpA_region (fun K hK => ?_)
            | (refine gateD ?_; first | (refine wpA_drawG false rfl (by kernel_rfl) (by kernel_rfl) (fun K hK => ?_)) | (refine wpA_drawG true rfl (by kernel_rfl) (by kernel_rfl) (fun K hK => ?_)))
            | (refine wpA_cond' ⟨_, evl, fun hb => ?_, fun hb => ?_⟩ <;> (try simp only [Bool.or_eq_true, Bool.and_eq_true, Bool.or_eq_false_iff, Bool.and_eq_false_iff, Bool.not_eq_true', Bool.not_eq_false', Bool.not_eq_true, Bool.not_eq_false, decide_eq_true_eq, decide_eq_false_iff_not, Bool.true_eq_false, Bool.false_eq_true, ne_eq, Classical.not_not, Int.not_lt, Int.not_le, Bool.not_true, Bool.not_false] at hb))
          | fail
      have hle2 : findN l next.auth 1001 ≤ l.length := hle
      refine sCallXs [8] [] (insert_X l c zs (findN l next.auth 1001) { next with sig := sg } hL hle hc hz hzr hzo) rfl rfl rfl ⟨_, evl, _, evl, _, _, evl, obl, ?_, by decide, by decide, ?_, trivial, ?_, ?_, ?_⟩
      · refine ⟨Sim.refl _, Sim.refl _, Sim.lstE rfl (fun i hi => ?_), trivial⟩
        obtain rfl : i = 0 := by omega
        rfl
      · refine ⟨?_, trivial⟩
        rw [renL_raw (rawL_app (kcs_raw l) hzr)]
        rfl
      · refine ⟨?_, by simp, ?_⟩
        · intro cs hcs
          simp only [List.mem_singleton] at hcs
          subst hcs
          exact subL_raw (rawL_app (kcs_raw l) hzr)
        · exact ⟨by simp [AV.sub], trivial, fun i hi => by simp [els, KeyWin.av, AV.subL, AV.sub], trivial⟩
      · rintro r sub' rsub' ⟨rfl, ⟨_, _, _, rfl, _⟩ | ⟨_, _, _, _, rfl, _⟩⟩ <;> simp
      rintro r sub' rsub' ⟨rfl, ⟨c2, zs2, rfl, rfl, hz2⟩ | ⟨c2, zs2, w2, rfl, rfl, hz2, hw2⟩⟩
      · refine ⟨_, evl, _, rfl, _, evl, ?_⟩
        simp only [List.map_cons, List.map_nil, renL_raw (rawL_app (kcs_raw _) hz2), setAll, List.set_cons_succ, List.set_cons_zero, List.append_nil]
        generalize insK l (findN l next.auth 1001) { next with sig := sg } = M at *
        repeat'
          first
            | first
              | (refine runS_nil (hK _ ?_); clear hK K)
              | refine stG ?_
              | (refine gateA 1 rfl ?_; refine runA_put ?_)
              | (refine gateBc ?_; first | (refine runB_nil (hK _ ?_); clear hK K) | (refine runB_op rfl ⟨_, evl, fun nb' => ?_⟩))
              | refine wpA_region (fun K hK => ?_)
              | (refine gateD ?_; first | (refine wpA_drawG false rfl (by kernel_rfl) (by kernel_rfl) (fun K hK => ?_)) | (refine wpA_drawG true rfl (by kernel_rfl) (by kernel_rfl) (fun K hK => ?_)))
              | (refine wpA_cond' ⟨_, evl, fun hb => ?_, fun hb => ?_⟩ <;> (try simp only [Bool.or_eq_true, Bool.and_eq_true, Bool.or_eq_false_iff, Bool.and_eq_false_iff, Bool.not_eq_true', Bool.not_eq_false', Bool.not_eq_true, Bool.not_eq_false, decide_eq_true_eq, decide_eq_false_iff_not, Bool.true_eq_false, Bool.false_eq_true, ne_eq, Classical.not_not, Int.not_lt, Int.not_le, Bool.not_true, Bool.not_false] at hb))
            | fail
        refine ret_of (by simp) ⟨_, _, _, evl, ob0, outRow rfl hz2 _ _⟩
      · refine ⟨_, evl, _, rfl, _, evl, ?_⟩
        simp only [List.map_cons, List.map_nil, renL_raw (rawL_app (kcs_raw _) hz2), renL_raw hw2, setAll, List.set_cons_succ, List.set_cons_zero, List.cons_append, List.nil_append]
        generalize insK l (findN l next.auth 1001) { next with sig := sg } = M at *
        repeat'
          first
            | first
              | (refine runS_nil (hK _ ?_); clear hK K)
              | refine stG ?_
              | (refine gateA 1 rfl ?_; refine runA_put ?_)
              | (refine gateBc ?_; first | (refine runB_nil (hK _ ?_); clear hK K) | (refine runB_op rfl ⟨_, evl, fun nb' => ?_⟩))
              | refine wpA_region (fun K hK => ?_)
              | (refine gateD ?_; first | (refine wpA_drawG false rfl (by kernel_rfl) (by kernel_rfl) (fun K hK => ?_)) | (refine wpA_drawG true rfl (by kernel_rfl) (by kernel_rfl) (fun K hK => ?_)))
              | (refine wpA_cond' ⟨_, evl, fun hb => ?_, fun hb => ?_⟩ <;> (try simp only [Bool.or_eq_true, Bool.and_eq_true, Bool.or_eq_false_iff, Bool.and_eq_false_iff, Bool.not_eq_true', Bool.not_eq_false', Bool.not_eq_true, Bool.not_eq_false, decide_eq_true_eq, decide_eq_false_iff_not, Bool.true_eq_false, Bool.false_eq_true, ne_eq, Classical.not_not, Int.not_lt, Int.not_le, Bool.not_true, Bool.not_false] at hb))
            | fail
        refine ret_of (by simp) ⟨_, _, _, evl, ob0, outRow rfl hz2 _ _⟩
end Go.Proofs.YtihnjbnlbedpaaaDoor
