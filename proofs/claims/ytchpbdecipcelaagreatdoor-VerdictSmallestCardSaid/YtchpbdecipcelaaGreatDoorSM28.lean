import Derived.Test.YtchpbdecipcelaaGreatDoorSM20
import Derived.Test.YtchpbdecipcelaaGreatDoorSM27
namespace Go.Proofs.YtchpbdecipcelaaGreatDoor
set_option linter.unusedVariables false
set_option linter.unusedSimpArgs false
set_option maxHeartbeats 4000000
set_option maxRecDepth 100000
open Go.RowKit
structure Round where
  replies : List Reply
  deriving Inhabited, DecidableEq
@[go_sem] def Round.av (x : Round) : List AV := [lA 10 Reply.av x.replies]
@[simp] theorem Round.free (x : Round) : AV.freeL x.av := ⟨lA_free (fun y => Reply.free y) _, trivial⟩
structure Chain where
  host : Int
  rounds : List Round
  deriving Inhabited, DecidableEq
@[go_sem] def Chain.av (x : Chain) : List AV := [.raw (.int .i64 x.host), lA 1 Round.av x.rounds]
@[simp] theorem Chain.free (x : Chain) : AV.freeL x.av := ⟨trivial, lA_free (fun y => Round.free y) _, trivial⟩
theorem cwithin_A (n lo hi : Int) : FnA Tryz.prog 121 [.raw (.int .i64 n), .raw (.int .i64 lo), .raw (.int .i64 hi)] (.raw (.bool (decide (lo ≤ n) && decide (n ≤ hi)))) := by
  refine fnA_of tblOk Tryz.func121 rfl (by kernel_rfl) 15 Tryz.ntmps121 lenT [.tmp 6] rfl ?_
  simp only [entrySt, argSl, Nat.zero_add, Nat.reduceAdd]
  repeat' first
    | refine wkG trivial ?_
    | (refine cndS ⟨_, evl, ⟨cb, cb⟩, fun hb => ?_, fun hb => ?_⟩ <;> try (cases hb; done))
    | (refine Stop.mk ?_; intro K hK)
    | fail
  all_goals (try (refine ret_of (by simp) ⟨_, _, _, evl, ob0, OutOk.sims ?_ fre⟩))
  all_goals first | exact Sims.refl _ | exact finT | exact simsF | (refine Sims.tup ?_; simp only [SimsL, and_true]; (repeat' apply And.intro) <;> first | exact simsF | skip) | (exfalso; first | omega | (simp_all; done) | (simp_all; omega)) | skip
theorem wellFormed_A (r : Reply) : FnA Tryz.prog 187 [.agg r.av] (.raw (.bool (decide (replyP r)))) := by
  refine fnA_of tblOk Tryz.func187 rfl (by kernel_rfl) 63 Tryz.ntmps187 lenT [.tmp 2] rfl ?_
  simp only [entrySt, argSl, Nat.zero_add, Nat.reduceAdd]
  repeat' first
    | (refine wkM hK cwithin_A ?_)
    | refine wkG cwithin_A ?_
    | (refine cndS ⟨_, evl, ⟨cb, cb⟩, fun hb => ?_, fun hb => ?_⟩ <;> try (cases hb; done))
    | (refine Stop.mk ?_; intro K hK)
    | fail
  all_goals (try (refine ret_of (by simp) ⟨_, _, _, evl, ob0, OutOk.sims ?_ fre⟩))
  all_goals first | exact Sims.refl _ | (refine Sims.of_eq ?_; first | rfl | (simp [replyP, reqP]; done) | (simp_all [replyP, reqP]; done) | (simp_all [replyP, reqP]; omega) | (simp [replyP, reqP]; grind) | (split <;> simp_all)) | exact simsF | (refine Sims.tup ?_; simp only [SimsL, and_true]; (repeat' apply And.intro) <;> first | exact simsF | skip) | (exfalso; first | omega | (simp_all; done) | (simp_all; omega)) | skip
theorem chalves_A (n : Int) (hn : inK .u64 n) : FnA Tryz.prog 228 [.raw (.int .u64 n)] (.agg [.raw (.int .i64 (n / 4294967296)), .raw (.int .i64 (n % 4294967296))]) := by
  have h2 : IntKind.u32.wrap n = n % 4294967296 := rfl
  simp only [inK] at hn
  have h1 : inK .i64 (n.fdiv (2 ^ min (Int.toNat 32) 64)) := by rw [hi_eq]; simp only [inK]; omega
  have h3 : inK .i64 (IntKind.u32.wrap n) := by rw [h2]; simp only [inK]; omega
  refine fnA_of tblOk Tryz.func228 rfl (by kernel_rfl) 10 Tryz.ntmps228 lenT [.cell 2 260] rfl ?_
  simp only [entrySt, argSl, Nat.zero_add, Nat.reduceAdd]
  repeat' first
    | refine wkG trivial ?_
    | (refine cndS ⟨_, evl, ⟨cb, cb⟩, fun hb => ?_, fun hb => ?_⟩ <;> try (cases hb; done))
    | (refine Stop.mk ?_; intro K hK)
    | fail
  refine ret_of (by simp) ⟨_, _, _, evl, ob0, OutOk.eq ?_ ?_⟩
  · rw [hi_eq, h2]
  · simp [AV.free, AV.freeL]
def nextM (d : Int) (l : List Int) : Int := fnvL (octs d ++ txt (fun q => l.getD q 0) l.length)
def isL (l : List Int) : Prop := isInts l.length fun q => l.getD q 0
theorem liA_free (l : List Int) : (liA l).free := lA_free (fun x => show AV.freeL (iC x) from ⟨trivial, trivial⟩) _
theorem liA_ints (l : List Int) : liA l = intsA l.length fun q => l.getD q 0 := by
  show AV.lst 1 l.length (els iC l) = AV.lst 1 l.length _
  congr 1
theorem isL_of {l : List Int} (h : ∀ x ∈ l, inK .i64 x) : isL l := fun q hq => by
  have := h _ (List.getElem_mem hq)
  simp only [List.getD_eq_getElem?_getD, List.getElem?_eq_getElem hq, Option.getD_some]
  exact this
theorem nextL_A (d : Int) (hd : inK .u64 d) (l : List Int) (h : isL l) (h0 : 0 < l.length) (hn : l.length ≤ 1000000) : FnA Tryz.prog 230 [.raw (.int .u64 d), liA l] (.raw (.int .u64 (nextM d l))) := by
  rw [liA_ints]
  exact next_A d hd l.length _ h h0 hn
def digestM (r : Reply) : Int := fnvL (txt (fun q => (intsR r).getD q 0) 11)
theorem digestC_A (r : Reply) (hf : r.fits) : FnA Tryz.prog 229 [.agg r.av] (.raw (.int .u64 (digestM r))) := by
  obtain ⟨h1, h2, h3, h4, ⟨h5, h6⟩, h7, h8, h9, h10⟩ := hf
  have hh := chalves_A r.nonce h4
  have hi : isInts 11 fun q => (intsR r).getD q 0 := by
    refine isL_of (l := intsR r) fun x hx => ?_
    simp only [intsR, List.mem_cons, List.not_mem_nil, or_false] at hx
    simp only [inK] at *
    rcases hx with rfl | rfl | rfl | rfl | rfl | rfl | rfl | rfl | rfl | rfl | rfl <;> omega
  have hs := ints_A 11 _ hi (by decide) (by decide)
  refine fnA_of tblOk Tryz.func229 rfl (by kernel_rfl) 35 Tryz.ntmps229 lenT [.tmp 2] rfl ?_
  simp only [entrySt, argSl, Nat.zero_add, Nat.reduceAdd]
  repeat'
    first
      | first
        | (refine runS_nil (hK _ ?_); clear hK K)
        | refine stG ?_
        | (refine gateS 1 rfl ?_; refine runS_call rfl rfl ⟨_, evl, _, _, _, evl, oblG, ?_⟩; apply Exists.intro; refine ⟨fun hg => ?_, ?_⟩; · first | exact FnA.at_ (hh) rfl rfl | exact FnA.sim hs ⟨Sim.lstE rfl fun i hi => chunk_lit (enc := iC) (l := intsR r) (fun _ => rfl) rfl hi, trivial⟩ | exact FnA.at_s (hh) rfl simT | exact FnA.at_s (hh) rfl simF)
        | (refine gateA 1 rfl ?_; refine runA_call rfl ⟨_, evl, _, _, _, (fun _ _ => evlA), oblG, ?_⟩; apply Exists.intro; refine ⟨fun hg => ?_, ?_⟩; · first | exact FnA.at_ (hh) rfl rfl | exact FnA.sim hs ⟨Sim.lstE rfl fun i hi => chunk_lit (enc := iC) (l := intsR r) (fun _ => rfl) rfl hi, trivial⟩ | exact FnA.at_s (hh) rfl simT | exact FnA.at_s (hh) rfl simF)
        | (refine gateA 1 rfl ?_; refine runA_put ?_)
        | (refine gateBc ?_; first | (refine runB_nil (hK _ ?_); clear hK K) | (refine runB_op rfl ⟨_, evl, fun nb' => ?_⟩))
        | refine wpA_region (fun K hK => ?_)
        | (refine gateD ?_; first | (refine wpA_drawG false rfl (by kernel_rfl) (by kernel_rfl) (fun K hK => ?_)) | (refine wpA_drawG true rfl (by kernel_rfl) (by kernel_rfl) (fun K hK => ?_)))
        | (refine wpA_cond' ⟨_, evl, fun hb => ?_, fun hb => ?_⟩ <;> (try simp only [Bool.or_eq_true, Bool.and_eq_true, Bool.or_eq_false_iff, Bool.and_eq_false_iff, Bool.not_eq_true', Bool.not_eq_false', Bool.not_eq_true, Bool.not_eq_false, decide_eq_true_eq, decide_eq_false_iff_not, Bool.true_eq_false, Bool.false_eq_true, ne_eq, Classical.not_not, Int.not_lt, Int.not_le, Bool.not_true, Bool.not_false] at hb))
      | fail
  refine ret_of (by simp) ⟨_, _, _, evl, ob0, OutOk.eq ?_ ?_⟩
  · rfl
  · simp [AV.free]
theorem wrap_u64 (n : Int) : inK .u64 (IntKind.u64.wrap n) := by
  have : IntKind.u64.wrap n = n % 18446744073709551616 := rfl
  rw [this]
  simp only [inK]
  omega
theorem fnvL_range (l : List UInt8) : inK .u64 (fnvL l) := by
  unfold fnvL
  cases l.length with
  | zero => simp [fnv, inK]
  | succ n => exact wrap_u64 _
theorem digestM_range (r : Reply) : inK .u64 (digestM r) := fnvL_range _
theorem nextM_range (d : Int) (l : List Int) : inK .u64 (nextM d l) := fnvL_range _
def halvesM (n : Int) : List Int := [n / 4294967296, n % 4294967296]
theorem memD {α : Type} [Inhabited α] {l : List α} {k : Nat} (h : k < l.length) : l.getD k default ∈ l := by rw [getD_get h]; exact List.getElem_mem h
def behindL (rs : List Reply) : List Int := (rs.length : Int) :: rs.flatMap fun x => halvesM (digestM x)
def behindM (h : Int) (r : Round) : Int := nextM h (behindL r.replies)
theorem halves_in {n : Int} (h : inK .u64 n) : ∀ x ∈ halvesM n, inK .i64 x := by
  intro x hx
  simp only [halvesM, List.mem_cons, List.not_mem_nil, or_false] at hx
  simp only [inK] at *
  rcases hx with rfl | rfl <;> omega
theorem flatH_len (rs : List Reply) : (rs.flatMap fun x => halvesM (digestM x)).length = 2 * rs.length := by
  induction rs with
  | nil => rfl
  | cons x rs ih => rw [List.flatMap_cons, List.length_append, ih]; simp [halvesM]; omega
theorem behindL_ok {rs : List Reply} (h : rs.length ≤ 400000) : isL (behindL rs) := by
  refine isL_of fun x hx => ?_
  rcases List.mem_cons.1 hx with rfl | hx
  · simp only [inK]; omega
  · obtain ⟨r, hr, hx⟩ := List.mem_flatMap.1 hx
    exact halves_in (digestM_range r) x hx
theorem behind_A (h : Int) (hh : inK .u64 h) (r : Round) (hl : r.replies.length ≤ 400000) (hf : ∀ x ∈ r.replies, x.fits) : FnA Tryz.prog 184 [.raw (.int .u64 h), .agg r.av] (.raw (.int .u64 (behindM h r))) := by
  obtain ⟨rs⟩ := r
  simp only at hl hf
  have hn := nextL_A h hh (behindL rs) (behindL_ok hl) (by simp [behindL]) (by rw [behindL, List.length_cons, flatH_len]; omega)
  have hd := fun k (hk : k < rs.length) => digestC_A (rs.getD k default) (hf _ (memD hk))
  have hv := fun k => chalves_A (digestM (rs.getD k default)) (digestM_range _)
  have hfr : (lA 10 Reply.av rs).free := lA_free (fun y => Reply.free y) _
  refine fnA_of tblOk Tryz.func184 rfl (by kernel_rfl) 30 Tryz.ntmps184 lenT [.tmp 4] rfl ?_
  simp only [entrySt, argSl, Nat.zero_add, Nat.reduceAdd]
  try refine wkR trivial ?_
  try (refine Stop.mk ?_; intro K hK)
  refine wpA_loop (fun k : Nat => ⟨30, 0, [(0, true, .raw (.int .u64 h)), (5, true, .row 0 ((rs.length : Int) :: (rs.take k).flatMap fun x => halvesM (digestM x)).length), (14, true, lA 10 Reply.av rs), (15, true, .raw (.int .i64 rs.length)), (16, true, .raw (.int .i64 k))], [[lA 10 Reply.av rs]], [⟨3, 1, ((rs.length : Int) :: (rs.take k).flatMap fun x => halvesM (digestM x)).length, els iC ((rs.length : Int) :: (rs.take k).flatMap fun x => halvesM (digestM x))⟩], ((0, []), [], true)⟩)
    (fun k => k ≤ rs.length) (fun k => rs.length - k) 0 ?_ (by omega) ?_
  · refine wkn ?_ ?_ ?_
    all_goals first | exact wk0 | refine wkS ?_ | skip
    all_goals (try trivial)
    all_goals ((repeat' apply And.intro) <;> first | exact wkL | skip)
    intro q hq
    obtain rfl : q = 0 := by simpa using hq
    exact SimsL.of_eq rfl
  · intro k hk
    rcases Nat.lt_or_ge k rs.length with hlt | hge
    · have hdk := hd k hlt
      have hvk := hv k
      have hs : (rs.length : Int) :: (rs.take (k + 1)).flatMap (fun x => halvesM (digestM x)) = ((rs.length : Int) :: (rs.take k).flatMap fun x => halvesM (digestM x)) ++ halvesM (digestM (rs.getD k default)) := by
        rw [List.take_succ_eq_append_getElem hlt, List.flatMap_append, getD_get hlt]
        simp
      have hL : ((rs.length : Int) :: (rs.take k).flatMap fun x => halvesM (digestM x)).length ≤ 1000000 := by
        rw [List.length_cons, flatH_len, List.length_take]; omega
      clear hn hd hv
      generalize ((rs.length : Int) :: (rs.take k).flatMap fun x => halvesM (digestM x)) = R at *
      generalize digestM (rs.getD k default) = D at *
      try refine wkR trivial ?_
      try (refine Stop.mk ?_; intro K hK)
      refine wpA_cond' ⟨_, evl, fun _ => ?_, fun hb => absurd (of_decide_eq_false hb) (by omega)⟩
      try (first | refine wkN hK (And.intro hdk hvk) ?_ | refine wkR (And.intro hdk hvk) ?_)
      try clear hK K
      try (refine Stop.mk ?_; intro K hK)
      refine runS_bsl tblOk rfl rfl ⟨_, evl, _, _, _, evl, oblG, ?_⟩
      refine runS_freeze 1 obf ⟨_, evl, _, evl, ?_⟩
      try (first | refine wkN hK trivial ?_ | refine wkR trivial ?_)
      try clear hK K
      try (refine Stop.mk ?_; intro K hK)
      refine ⟨k + 1, by omega, by omega, ?_⟩
      rw [hs, List.length_append]
      refine wkn ?_ ?_ ?_
      all_goals first | exact wk0 | refine wkS ?_ | skip
      all_goals (try trivial)
      all_goals ((repeat' apply And.intro) <;> first | exact wkL | skip)
      intro q hq
      refine SimsL.of_eq ?_
      rcases Nat.lt_or_ge q R.length with h1 | h1
      · rw [appEl_lt h1]
        simp [els, List.getD_eq_getElem?_getD, List.getElem?_append_left h1]
      · rw [appEl_ge h1, ← els_append (l := R) (n := R.length) rfl, appEl_ge h1]
        have hq2 : q - R.length < 2 := by simp [halvesM] at hq; omega
        exact chunk_lit (enc := iC) (l := halvesM D) (fun _ => rfl) rfl hq2
    · obtain rfl : k = rs.length := by omega
      rw [List.take_length]
      rw [show ((rs.length : Int) :: rs.flatMap fun x => halvesM (digestM x)) = behindL rs from rfl]
      have e : behindM h ⟨rs⟩ = nextM h (behindL rs) := rfl
      rw [e]
      clear hd hv e
      generalize nextM h (behindL rs) = M at *
      generalize behindL rs = R at *
      have hR := liA_free R
      try refine wkR trivial ?_
      try (refine Stop.mk ?_; intro K hK)
      refine wpA_cond' ⟨_, evl, fun hb => absurd (of_decide_eq_true hb) (by omega), fun _ => ?_⟩
      try refine wkR hn ?_
      try (refine Stop.mk ?_; intro K hK)
      refine ret_of (by simp) ⟨_, _, _, evl, ob0, OutOk.eq ?_ ?_⟩
      · rfl
      · simp [AV.free]
theorem behindM_range (h : Int) (r : Round) : inK .u64 (behindM h r) := nextM_range _ _
def headM (l : List Round) : Nat → Int
  | 0 => 0
  | k + 1 => behindM (headM l k) (l.getD k default)
theorem headM_range (l : List Round) : ∀ k, inK .u64 (headM l k)
  | 0 => by simp [headM, inK]
  | _ + 1 => behindM_range _ _
def nonceM (h host round auth : Int) : Int := nextM h [host, round, auth]
theorem nonce_A (h host round auth : Int) (hh : inK .u64 h) (h1 : inK .i64 host) (h2 : inK .i64 round) (h3 : inK .i64 auth) : FnA Tryz.prog 188 [.raw (.int .u64 h), .raw (.int .i64 host), .raw (.int .i64 round), .raw (.int .i64 auth)] (.raw (.int .u64 (nonceM h host round auth))) := by
  have hn := nextL_A h hh [host, round, auth] (isL_of fun x hx => by
    simp only [List.mem_cons, List.not_mem_nil, or_false] at hx
    rcases hx with rfl | rfl | rfl <;> assumption) (by simp) (by simp)
  refine fnA_of tblOk Tryz.func188 rfl (by kernel_rfl) 15 Tryz.ntmps188 lenT [.tmp 8] rfl ?_
  simp only [entrySt, argSl, Nat.zero_add, Nat.reduceAdd]
  repeat'
    first
      | first
        | (refine runS_nil (hK _ ?_); clear hK K)
        | refine stG ?_
        | (refine gateS 1 rfl ?_; refine runS_call rfl rfl ⟨_, evl, _, _, _, evl, oblG, ?_⟩; apply Exists.intro; refine ⟨fun hg => ?_, ?_⟩; · first | exact FnA.sim hn ⟨Sim.refl _, Sim.lstE rfl fun i hi => chunk_lit (enc := iC) (l := [host, round, auth]) (fun _ => rfl) rfl hi, trivial⟩ )
        | (refine gateA 1 rfl ?_; refine runA_call rfl ⟨_, evl, _, _, _, (fun _ _ => evlA), oblG, ?_⟩; apply Exists.intro; refine ⟨fun hg => ?_, ?_⟩; · first | exact FnA.sim hn ⟨Sim.refl _, Sim.lstE rfl fun i hi => chunk_lit (enc := iC) (l := [host, round, auth]) (fun _ => rfl) rfl hi, trivial⟩ )
        | (refine gateA 1 rfl ?_; refine runA_put ?_)
        | (refine gateBc ?_; first | (refine runB_nil (hK _ ?_); clear hK K) | (refine runB_op rfl ⟨_, evl, fun nb' => ?_⟩))
        | refine wpA_region (fun K hK => ?_)
        | (refine gateD ?_; first | (refine wpA_drawG false rfl (by kernel_rfl) (by kernel_rfl) (fun K hK => ?_)) | (refine wpA_drawG true rfl (by kernel_rfl) (by kernel_rfl) (fun K hK => ?_)))
        | (refine wpA_cond' ⟨_, evl, fun hb => ?_, fun hb => ?_⟩ <;> (try simp only [Bool.or_eq_true, Bool.and_eq_true, Bool.or_eq_false_iff, Bool.and_eq_false_iff, Bool.not_eq_true', Bool.not_eq_false', Bool.not_eq_true, Bool.not_eq_false, decide_eq_true_eq, decide_eq_false_iff_not, Bool.true_eq_false, Bool.false_eq_true, ne_eq, Classical.not_not, Int.not_lt, Int.not_le, Bool.not_true, Bool.not_false] at hb))
      | fail
  refine ret_of (by simp) ⟨_, _, _, evl, ob0, OutOk.eq ?_ ?_⟩
  · rfl
  · simp [AV.free]
def headsF (l : List Round) : AV := .fn (.func 183) [] [.elt [lA 1 Round.av l] 0]
theorem heads_A (l : List Round) : FnA Tryz.prog 122 [lA 1 Round.av l] (headsF l) := by
  have hfr : (lA 1 Round.av l).free := lA_free (fun y => Round.free y) _
  refine fnA_of tblOk Tryz.func122 rfl (by kernel_rfl) 4 Tryz.ntmps122 lenT [.tmp 2] rfl ?_
  simp only [entrySt, argSl, Nat.zero_add, Nat.reduceAdd]
  try refine wkG trivial ?_
  try (refine Stop.mk ?_; intro K hK)
  refine ret_of (by simp) ⟨_, _, _, evl, ob0, ?_⟩
  exact OutOk.fn rfl ⟨_, _, rfl, OutOk.box rfl ⟨_, _, rfl, OutOk.free hfr, rfl⟩, rfl⟩
def itemH (l : List Round) (k : Nat) : List AV := [.raw (.int .u64 (headM l k)), .agg (l.getD k default).av]
def itemsH (l : List Round) (n : Nat) : List (List AV) := (List.range n).map (itemH l)
theorem itemsH_succ (l : List Round) (k : Nat) : itemsH l (k + 1) = itemsH l k ++ [itemH l k] := by simp [itemsH, List.range_succ]
theorem itemsH_pre (l : List Round) {k n : Nat} (h : k ≤ n) : itemsH l k <+: itemsH l n := by
  obtain ⟨j, rfl⟩ := Nat.exists_eq_add_of_le h
  induction j with
  | zero => exact List.prefix_refl _
  | succ j ih => exact (ih (by omega)).trans (by rw [← Nat.add_assoc, itemsH_succ]; exact List.prefix_append _ _)
theorem heads_S (l : List Round) (hmax : l.length ≤ 1000000) (hr : ∀ r ∈ l, r.replies.length ≤ 400000 ∧ ∀ x ∈ r.replies, x.fits) : SeqA Tryz.prog 183 [.elt [lA 1 Round.av l] 0] (itemsH l l.length) := by
  have hfr : (lA 1 Round.av l).free := lA_free (fun y => Round.free y) _
  refine seqA_of Tryz.func183 rfl (by kernel_rfl) 21 Tryz.ntmps183 lenT rfl (fun y => ?_)
  simp only [argSl, Nat.zero_add, Nat.reduceAdd, List.cons_append, List.nil_append]
  try refine wkG trivial ?_
  try (refine Stop.mk ?_; intro K hK)
  refine wpA_loop (fun k : Nat => ⟨21, 0, [(0, true, .raw (.func (.yield y) #[] #[])), (1, true, .elt [lA 1 Round.av l] 0), (3, true, .raw (.int .u64 (headM l k))), (6, true, lA 1 Round.av l), (7, true, .raw (.int .i64 l.length)), (8, true, .raw (.int .i64 k))], [], [], ((y, itemsH l l.length), itemsH l k, false)⟩)
    (fun k => k ≤ l.length) (fun k => l.length - k) 0 ?_ (by omega) ?_
  · refine wkn ?_ ?_ ?_
    all_goals first | exact wk0 | refine wkS ?_ | skip
    all_goals (try trivial)
    all_goals ((repeat' apply And.intro) <;> first | exact wkL | skip)
  · intro k hk
    try refine wkG trivial ?_
    try (refine Stop.mk ?_; intro K hK)
    refine wpA_cond' ⟨_, evl, fun hb => ?_, fun hb => ?_⟩
    · simp only [decide_eq_true_eq] at hb
      have hlt : k < l.length := by omega
      obtain ⟨h1, h2⟩ := hr _ (memD hlt)
      have hbe := behind_A (headM l k) (headM_range l k) (l.getD k default) h1 h2
      have hpre := itemsH_pre l (k := k + 1) (n := l.length) (by omega)
      have hs : headM l (k + 1) = behindM (headM l k) (l.getD k default) := rfl
      rw [itemsH_succ] at hpre
      have hfk : (lA 10 Reply.av (l.getD k default).replies).free := lA_free (fun y => Reply.free y) _
      try (first | refine wkM hK trivial ?_ | refine wkG trivial ?_)
      try clear hK K
      try (refine Stop.mk ?_; intro K hK)
      refine runS_yield rfl rfl ⟨_, evl, _, _, evl, ?_, ?_, ?_⟩
      · intro _
        exact ⟨fun c hc => by simp at hc; simp [hc], ⟨trivial, ⟨hfk, trivial⟩, trivial⟩, hpre⟩
      · intro hg
        simp at hg
      · intro _ b
        try (first | refine wkM hK trivial ?_ | refine wkG trivial ?_)
        try clear hK K
        try (refine Stop.mk ?_; intro K hK)
        refine wpA_cond' ⟨_, evl, fun hb2 => ?_, fun hb2 => ?_⟩
        · obtain rfl : b = false := by simpa using hb2
          try refine wkG trivial ?_
          try (refine Stop.mk ?_; intro K hK)
          exact ⟨.inr rfl, hpre, fun h => by simp at h⟩
        · obtain rfl : b = true := by simpa using hb2
          try refine wkG hbe ?_
          try (refine Stop.mk ?_; intro K hK)
          refine ⟨k + 1, by omega, by omega, ?_⟩
          rw [itemsH_succ, hs]
          refine wkn ?_ ?_ ?_
          all_goals first | exact wk0 | refine wkS ?_ | skip
          all_goals (try trivial)
          all_goals ((repeat' apply And.intro) <;> first | exact wkL | skip)
    · simp only [decide_eq_false_iff_not] at hb
      obtain rfl : k = l.length := by omega
      try refine wkG trivial ?_
      try (refine Stop.mk ?_; intro K hK)
      exact ⟨.inl rfl, List.prefix_refl _, fun _ => rfl⟩
end Go.Proofs.YtchpbdecipcelaaGreatDoor
