/- The abstract logic: regions that draw their order, of which some operations only compute, and the others wait for each other. -/
import Derived.Test.YtihnjbnlbedpaaaDoorAlX
import Derived.Test.YtihnjbnlbedpaaaDoorAlTok3
namespace Go.Proofs.YtihnjbnlbedpaaaDoor
set_option linter.unusedVariables false
set_option linter.unusedSimpArgs false
set_option maxHeartbeats 4000000
set_option maxRecDepth 100000
open Go.RowKit

/-- What is said of some slots alone. -/
def restr (L : List Nat) (sl : List (Nat × (Bool × AV))) : List (Nat × (Bool × AV)) := sl.filter fun e => L.contains e.1
theorem lookN_restr {L : List Nat} {t : Nat} : ∀ {sl : List (Nat × (Bool × AV))}, lookN t (restr L sl) = bif L.contains t then lookN t sl else none
  | [] => by cases L.contains t <;> rfl
  | (s, e) :: r => by
    have ih := lookN_restr (L := L) (t := t) (sl := r)
    unfold restr at ih ⊢
    rw [List.filter_cons]
    by_cases hs : L.contains s = true
    · simp only [hs, if_true, lookN]
      cases hb : Nat.beq t s
      · simp only [cond_false]; exact ih
      · obtain rfl := Nat.eq_of_beq_eq_true hb
        rw [hs]; rfl
    · simp only [hs, Bool.false_eq_true, if_false, lookN]
      rw [ih]
      cases hb : Nat.beq t s
      · rfl
      · obtain rfl := Nat.eq_of_beq_eq_true hb
        cases hc : L.contains t
        · rfl
        · exact absurd hc hs
def dl : Option Nat → (Bool × AV) → List (Nat × (Bool × AV))
  | some d, e => [(d, e)]
  | none, _ => []
theorem dl_look {o : Option Nat} {e : Bool × AV} {t : Nat} {x : Bool × AV} (h : lookN t (dl o e) = some x) : o = some t ∧ e = x := by
  cases o with
  | none => cases h
  | some d =>
    simp only [dl, lookN] at h
    cases hb : Nat.beq t d
    · rw [hb] at h; cases h
    · rw [hb] at h
      cases h
      exact ⟨by rw [Nat.eq_of_beq_eq_true hb], rfl⟩
/-- Operations that change nothing that was there. -/
def hrm (o : Oper) : Bool := match o.op with
  | .store _ _ _ => false
  | .call _ => false
  | .buildSlice _ _ _ => false
  | .makeSlice _ _ _ => false
  | _ => true
def mskB (all : Bool) (bx ext : List (List AV)) : List (List AV) := bif all then ext else bx ++ ext
def KeepB (all : Bool) (bx bx' : List (List AV)) : Prop := ∃ ext, bx' = mskB all bx ext
/-- A chain of operations. -/
def runB (P : Program) (full : Array Oper) (all : Bool) (bx0 : List (List AV)) : List Oper → (ASt → Prop) → ASt → Prop
  | [], k, st => k st
  | o :: r, k, st => st.bx.length < 64 ∧ ∀ nb, runS P full [o] (fun st' => ∃ ent bx' rw', st' = ⟨st.nt, nb, dl o.dst ent ++ restr (o.looksAt full) st.sl, bx', rw', st.ys⟩ ∧ KeepB all bx0 bx' ∧ (hrm o = true → rw' = st.rw ∧ ∃ ext, bx' = st.bx ++ ext) ∧
      runB P full all bx0 r k ⟨st.nt, st.nb, dl o.dst ent ++ st.sl, bx', rw', st.ys⟩) ⟨st.nt, nb, restr (o.looksAt full) st.sl, st.bx, st.rw, st.ys⟩
/-- How an operation that only computes was evaluated: with all that was there when the chain began, and new variables; or with whatever is there. -/
inductive AK where
  | first | any
def AStep (P : Program) (full : Array Oper) (all : Bool) (st : ASt) (o : Oper) (sl : List (Nat × (Bool × AV))) (g : Bool) (x : AV) : AK → Prop
  | .first => ∀ ext, OpSpec P full o { st with sl := sl, bx := st.bx ++ ext } g x
  | .any => ∀ ext rw', OpSpec P full o { st with sl := sl, bx := mskB all st.bx ext, rw := rw' } g x
abbrev AEn := Nat × AK × (Nat × (Bool × AV))
def slA (es : List AEn) : List (Nat × (Bool × AV)) := (es.map (·.2.2)).reverse
def iaOf (es : List AEn) : List (Nat × AK) := es.map fun e => (e.1, e.2.1)
def waitsAt (full : List Oper) (i j : Nat) : Bool := match full[i]? with
  | some o => waitsFor o j
  | none => false
def hrmAt (full : List Oper) (i : Nat) : Bool := match full[i]? with
  | some o => hrm o
  | none => false
def firstOk (full : List Oper) : List Nat → Nat → Bool
  | [], _ => true
  | b :: r, i => waitsAt full b i || (hrmAt full b && firstOk full r i)
def AK.isFirst : AK → Bool
  | .first => true
  | .any => false
def chainOk (full : List Oper) : List Nat → Bool
  | a :: b :: r => waitsAt full b a && chainOk full (b :: r)
  | _ => true
def risesN : List Nat → Bool
  | a :: b :: r => Nat.blt a b && risesN (b :: r)
  | _ => true
/-- What an operation that computes may look at: what others wrote for which it waits, or write that wait for it. -/
def lookA (full : List Oper) (ia : List (Nat × AK)) (i t : Nat) : Bool := full.zipIdx.all fun y => y.1.dst != some t || ((ia.any fun e => e.1 == y.2) && Nat.blt y.2 i && waitsAt full i y.2) || (Nat.blt i y.2 && waitsFor y.1 i)
def lookB (full : List Oper) (i t : Nat) : Bool := full.zipIdx.all fun y => y.1.dst != some t || waitsAt full i y.2
def depOk4 (full : List Oper) (ia : List (Nat × AK)) (ib : List Nat) : Bool :=
  (((List.range full.length).all fun i => (ia.any fun e => e.1 == i) || ib.contains i) && (ib.all fun i => !(ia.any fun e => e.1 == i) && Nat.blt i full.length)) &&
  ((full.zipIdx.all fun x => x.1.after.all fun e => !Region.binds .any e || Nat.blt e.on x.2) && (full.zipIdx.all fun x => full.zipIdx.all fun y => y.2 == x.2 || x.1.dst.isNone || x.1.dst != y.1.dst)) &&
  ((chainOk full ib && risesN (ia.map (·.1)) && ia.all fun e => !e.2.isFirst || firstOk full ib e.1) &&
  (full.zipIdx.all fun x => (x.1.looksAt full.toArray).all fun t => bif ib.contains x.2 then lookB full x.2 t else lookA full ia x.2 t) && plainOps full)
theorem wpIn_same {P : Program} {o : Oper} {ro : Option Nat} {a : Act} {w : World} {K0 : Act → World → Prop} {Q0 Q : Exit → Act → World → Prop} (hd : ∀ c, o.op ≠ .defer c) (ds : List Deferred) (hQ : ∀ e a' w', Q0 e a' w' → e = .normal)
    (h : o.wpIn (fen ro) 0 P { a with defers := ds } w K0 Q0) : o.wpIn (fen ro) 0 P a w (fun a' w' => ∃ v pre, a' = ({ a with defers := pre ++ a.defers } : Act).put o.dst v ∧ K0 (({ a with defers := pre ++ ds } : Act).put o.dst v) w') Q := by
  have he : ({ a with defers := ds } : Act).eval = a.eval := rfl
  unfold Oper.wpIn at *
  rw [he] at h
  refine ⟨h.1, ?_⟩
  have h := h.2
  have hsem : ∀ ρ : Operand → Value, Oper.semAt (fen ro).round ρ o = execOp ρ o := fun ρ => semAt_fen ro ρ o hd
  rw [hsem] at h ⊢
  generalize (execOp a.eval o).run P w = r at *
  cases r with
  | ok x w' =>
    cases x <;> simp only [Oper.uponIn] at h ⊢
    case value u => exact ⟨u, [], rfl, h⟩
    case skip => exact ⟨undef, [], rfl, h⟩
    case defer d => exact ⟨undef, [d], rfl, h⟩
    case enter f args =>
      refine ⟨h.1, CallsIn.mono h.2 fun e w'' he => ?_⟩
      cases e with
      | returned u => exact ⟨u, [], rfl, he⟩
      | panicked c => exact absurd (hQ _ _ _ he) (by simp)
      | outgrown => obtain ⟨a1, w1, he⟩ := he; exact absurd (hQ _ _ _ he) (by simp)
    case row row args => exact ⟨h.1, RowsIn.mono h.2 fun u w'' he => ⟨u, [], rfl, he⟩⟩
    case round l f tmps assign body =>
      refine ⟨h.1, RoundIn.mono h.2 fun e w'' he => ?_⟩
      cases e with
      | returned u => exact ⟨u, [], rfl, he⟩
      | panicked c => exact absurd (hQ _ _ _ he) (by simp)
      | outgrown => obtain ⟨a1, w1, he⟩ := he; exact absurd (hQ _ _ _ he) (by simp)
  | halt x w' =>
    cases x <;> simp only [Oper.uponIn] at h ⊢
    case panic u => exact absurd (hQ _ _ _ h) (by simp)

/-! What depOk4 says. -/
structure Dep4 (full : List Oper) (ia : List (Nat × AK)) (ib : List Nat) : Prop where
  cover : ∀ i, i < full.length → (∃ e ∈ ia, e.1 = i) ∨ i ∈ ib
  apart : ∀ i ∈ ib, i < full.length ∧ ∀ e ∈ ia, e.1 ≠ i
  back : ∀ (i : Nat) (o : Oper), full[i]? = some o → ∀ e ∈ o.after, Region.binds .any e = true → e.on < i
  dst : ∀ (i j : Nat) (o o' : Oper) (d : Nat), full[i]? = some o → full[j]? = some o' → o.dst = some d → o'.dst = some d → i = j
  chain : chainOk full ib = true
  rises : risesN (ia.map (·.1)) = true
  first : ∀ e ∈ ia, e.2.isFirst = true → firstOk full ib e.1 = true
  looksB : ∀ (i : Nat) (o : Oper) (t : Nat), full[i]? = some o → i ∈ ib → t ∈ o.looksAt full.toArray → ∀ (j : Nat) (o' : Oper), full[j]? = some o' → o'.dst = some t → waitsFor o j = true
  looksA : ∀ (i : Nat) (o : Oper) (t : Nat), full[i]? = some o → i ∉ ib → t ∈ o.looksAt full.toArray → ∀ (j : Nat) (o' : Oper), full[j]? = some o' → o'.dst = some t → ((∃ e ∈ ia, e.1 = j) ∧ j < i ∧ waitsFor o j = true) ∨ (i < j ∧ waitsFor o' i = true)
  plain : plainOps full = true
theorem zip_mem {full : List Oper} {i : Nat} {o : Oper} (h : full[i]? = some o) : (o, i) ∈ full.zipIdx := by rw [List.mem_zipIdx_iff_getElem?]; exact h
theorem blt_lt {a b : Nat} (h : Nat.blt a b = true) : a < b := Nat.le_of_ble_eq_true h
theorem depOk4_sound {full : List Oper} {ia : List (Nat × AK)} {ib : List Nat} (h : depOk4 full ia ib = true) : Dep4 full ia ib := by
  unfold depOk4 at h
  simp only [Bool.and_eq_true, List.all_eq_true, Bool.or_eq_true, List.mem_range] at h
  obtain ⟨⟨⟨h1, h2⟩, h3, h4⟩, ⟨⟨⟨h5, h6⟩, h7⟩, h8⟩, h9⟩ := h
  refine ⟨fun i hi => ?_, fun i hi => ?_, fun i o ho e he hb => ?_, fun i j o o' d ho ho' hd hd' => ?_, h5, h6, fun e he hf => ?_, fun i o t ho hi ht j o' ho' hd => ?_, fun i o t ho hi ht j o' ho' hd => ?_, h9⟩
  · rcases h1 i hi with h | h
    · rw [List.any_eq_true] at h
      obtain ⟨e, he, h⟩ := h
      exact .inl ⟨e, he, by simpa using h⟩
    · exact .inr (by simpa using h)
  · have := h2 i hi
    refine ⟨blt_lt this.2, fun e he hne => ?_⟩
    have h3 := this.1
    rw [Bool.not_eq_true', List.any_eq_false] at h3
    exact h3 e he (by simpa using hne)
  · have := h3 (o, i) (zip_mem ho)
    rw [Array.all_eq_true_iff_forall_mem] at this
    have h3 := this e he
    simp only [hb, Bool.not_true, Bool.false_or] at h3
    exact blt_lt h3
  · have := h4 (o, i) (zip_mem ho) (o', j) (zip_mem ho')
    simp only [hd, hd', Option.isNone_some, bne_self_eq_false, Bool.false_eq_true, or_false, beq_iff_eq] at this
    exact this.symm
  · have := h7 e he
    rw [hf] at this
    simpa using this
  · have h10 := h8 (o, i) (zip_mem ho) t ht
    rw [show ib.contains i = true from by simpa using hi] at h10
    simp only [cond_true, lookB, List.all_eq_true, Bool.or_eq_true] at h10
    have h11 := h10 (o', j) (zip_mem ho')
    simp only [hd, bne_self_eq_false, Bool.false_eq_true, false_or, waitsAt, ho] at h11
    exact h11
  · have h10 := h8 (o, i) (zip_mem ho) t ht
    rw [show ib.contains i = false from by simpa using hi] at h10
    simp only [cond_false, lookA, List.all_eq_true, Bool.or_eq_true, Bool.and_eq_true] at h10
    have h11 := h10 (o', j) (zip_mem ho')
    simp only [hd, bne_self_eq_false, Bool.false_eq_true, false_or, waitsAt, ho] at h11
    rcases h11 with ⟨⟨h11, h12⟩, h13⟩ | ⟨h11, h12⟩
    · rw [List.any_eq_true] at h11
      obtain ⟨e, he, h⟩ := h11
      exact .inl ⟨⟨e, he, by simpa using h⟩, blt_lt h12, h13⟩
    · exact .inr ⟨blt_lt h11, h12⟩
theorem risesN_lt : ∀ {l : List Nat} {p q i j : Nat}, risesN l = true → l[p]? = some i → l[q]? = some j → p < q → i < j
  | [], _, _, _, _, _, h, _, _ => by simp at h
  | [a], p, q, _, _, _, h1, h2, h => by
    have := (List.getElem?_eq_some_iff.1 h2).1
    simp at this; omega
  | a :: b :: r, p, q, i, j, hr, h1, h2, h => by
    simp only [risesN, Bool.and_eq_true] at hr
    have hab := blt_lt hr.1
    cases q with
    | zero => omega
    | succ q =>
      simp only [List.getElem?_cons_succ] at h2
      cases p with
      | succ p => exact risesN_lt hr.2 (by simpa using h1) h2 (by omega)
      | zero =>
        simp only [List.getElem?_cons_zero, Option.some.injEq] at h1
        subst h1
        cases q with
        | zero => simp only [List.getElem?_cons_zero, Option.some.injEq] at h2; omega
        | succ q => have := risesN_lt hr.2 (i := b) (p := 0) (q := q + 1) rfl h2 (by omega); omega
theorem chainOk_step {full : List Oper} : ∀ {ib : List Nat} {p i j : Nat}, chainOk full ib = true → ib[p]? = some i → ib[p + 1]? = some j → waitsAt full j i = true
  | [], _, _, _, _, h, _ => by simp at h
  | [a], _, _, _, _, _, h => by simp at h
  | a :: b :: r, 0, i, j, hc, h1, h2 => by
    simp only [List.getElem?_cons_zero, List.getElem?_cons_succ, Option.some.injEq] at h1 h2
    subst h1; subst h2
    simp only [chainOk, Bool.and_eq_true] at hc
    exact hc.1
  | a :: b :: r, p + 1, i, j, hc, h1, h2 => by
    simp only [chainOk, Bool.and_eq_true] at hc
    exact chainOk_step hc.2 (by simpa using h1) (by simpa using h2)
theorem firstOk_hrm {full : List Oper} {listed : Nat → Prop} {i : Nat} (hi : ∀ b, waitsAt full b i = true → ¬ listed b) : ∀ {ib : List Nat} {n : Nat}, firstOk full ib i = true → (∀ p b, p < n → ib[p]? = some b → listed b) → ∀ p b, p < n → ib[p]? = some b → hrmAt full b = true
  | [], _, _, _, _, _, _, h => by simp at h
  | b0 :: r, n, hf, hl, p, b, hp, hb => by
    simp only [firstOk, Bool.or_eq_true, Bool.and_eq_true] at hf
    rcases hf with hf | ⟨h1, h2⟩
    · exact absurd (hl 0 b0 (by omega) rfl) (hi b0 hf)
    · cases p with
      | zero => simp only [List.getElem?_cons_zero, Option.some.injEq] at hb; subst hb; exact h1
      | succ p => exact firstOk_hrm (n := n - 1) hi h2 (fun p b hp hb => hl (p + 1) b (by omega) (by simpa using hb)) p b (by omega) (by simpa using hb)
def SlotIs (G : Gh) (w : World) (a : Act) (t : Nat) (e : Bool × AV) : Prop := ∃ v, a.tmps[t]? = some v ∧ (e.1 = true → e.2.rel G w v) ∧ (e.1 = false → v = undef)
theorem SlotIs.mono {G G' : Gh} {w w' : World} {a a' : Act} {t : Nat} {e : Bool × AV} (le : G.Le w G' w') (h : SlotIs G w a t e) (ha : a'.tmps[t]? = a.tmps[t]?) : SlotIs G' w' a' t e := by
  obtain ⟨v, h1, h2, h3⟩ := h
  exact ⟨v, by rw [ha]; exact h1, fun hc => AV.rel_mono le _ _ (h2 hc), h3⟩
structure Mid4 {P : Program} (C : Ctx P) (full : List Oper) (all : Bool) (es : List AEn) (ib : List Nat) (st : ASt) (k : ASt → Prop) (listed : Array Bool) (G : Gh) (a : Act) (w : World) : Prop where
  frame' : Outside C.may C.w0 w
  le : C.G0.Le C.w0 G w
  fresh : ∀ b o, G.imm b o → C.G0.imm b o ∨ C.w0.heap.size ≤ b ∨ ∃ x ∈ C.G0.rw, x.2.ownBlock = some b
  ownB : ∀ blk ∈ G.bx, blk ∈ C.G0.bx ∨ C.w0.heap.size ≤ blk
  ownR : ∀ x ∈ G.rw, ∀ g, x.2.ownBlock = some g → (∃ y ∈ C.G0.rw, y.2.ownBlock = some g) ∨ C.w0.heap.size ≤ g
  fits : dstsFit a.tmps.size full = true
  size : a.tmps.size = st.nt
  callers : C.G0.bx.length = st.nb % 64 ∧ C.G0.rw.length = st.nb / 64
  lsz : listed.size = full.length
  clo : ∀ (i : Nat) (o : Oper), full[i]? = some o → listed.getD i true = true → ∀ e ∈ o.after, Region.binds .any e = true → listed.getD e.on false = true
  old : ∀ (t : Nat) e, (∀ (i : Nat) (o : Oper), full[i]? = some o → o.dst = some t → listed.getD i false = false) → lookN t st.sl = some e → SlotIs G w a t e
  new : ∀ e ∈ es, listed.getD e.1 false = true → SlotIs G w a e.2.2.1 e.2.2.2
  env : ∃ D, EnvD C G a.defers st.ys D w
  tree : ∃ (n : Nat) (eb : List (Nat × (Bool × AV))) (bx : List (List AV)) (rw : List ARow), (∀ p i, ib[p]? = some i → (listed.getD i false = true ↔ p < n)) ∧ n ≤ ib.length ∧ KeepB all st.bx bx ∧ ((∀ p b, p < n → ib[p]? = some b → hrmAt full b = true) → rw = st.rw ∧ ∃ ext, bx = st.bx ++ ext) ∧ MSat G w bx rw ∧
    (∀ t e, lookN t eb = some e → SlotIs G w a t e ∧ ∃ i o, i ∈ ib ∧ full[i]? = some o ∧ o.dst = some t) ∧ (∀ i o t, i ∈ ib → listed.getD i false = true → full[i]? = some o → o.dst = some t → lookN t eb ≠ none) ∧
    runB P full.toArray all st.bx ((ib.drop n).filterMap (full[·]?)) k ⟨st.nt, st.nb, eb ++ (slA es ++ st.sl), bx, rw, st.ys⟩
theorem slA_look {es : List AEn} {t : Nat} {x : Bool × AV} (h : lookN t (slA es) = some x) : ∃ e ∈ es, e.2.2 = (t, x) := by
  have := lookN_mem h
  unfold slA at this
  rw [List.mem_reverse, List.mem_map] at this
  exact this
theorem lookN_has {t : Nat} {x : Bool × AV} : ∀ {l : List (Nat × (Bool × AV))}, (t, x) ∈ l → lookN t l ≠ none
  | (d, y) :: l, h => by
    rw [lookN_cons]
    split
    · simp
    · rcases List.mem_cons.1 h with h | h
      · rename_i hne; cases h; exact absurd rfl hne
      · exact lookN_has h
theorem slA_has {es : List AEn} {e : AEn} (h : e ∈ es) : lookN e.2.2.1 (slA es) ≠ none := lookN_has (x := e.2.2.2) (by unfold slA; rw [List.mem_reverse, List.mem_map]; exact ⟨e, h, rfl⟩)

theorem not_listed {listed : Array Bool} {full : List Oper} {i : Nat} (hsz : listed.size = full.length) (hi : i < full.length) : listed.getD i false = listed.getD i true := getD_any (by omega) _ _
theorem wpAny4 {P : Program} {C : Ctx P} {full : List Oper} {all : Bool} {es : List AEn} {ib : List Nat} {st : ASt} {k : ASt → Prop} {Q : Exit → Act → World → Prop} (hd : depOk4 full (iaOf es) ib = true)
    (hsp : ∀ (p : Nat) (e : AEn), es[p]? = some e → ∃ o, full[e.1]? = some o ∧ o.dst = some e.2.2.1 ∧ AStep P full.toArray all st o (slA (es.take p) ++ st.sl) e.2.2.2.1 e.2.2.2.2 e.2.1)
    (hQ : ∀ G a w st', Sat C G a w st' → k st' → Q .normal a w) :
    ∀ (fuel : Nat) (listed : Array Bool) (G : Gh) (a : Act) (w : World), (List.range full.length).countP (fun k => !listed.getD k true) ≤ fuel → Mid4 C full all es ib st k listed G a w → wpAnyIn (fen C.round) 0 P .any full.toArray Q fuel listed a w := by
  have D4 := depOk4_sound hd
  have hia : ∀ e ∈ es, (e.1, e.2.1) ∈ iaOf es := fun e he => List.mem_map.2 ⟨e, he, rfl⟩
  have hai : ∀ i, (∃ e ∈ iaOf es, e.1 = i) → ∃ e ∈ es, e.1 = i := by
    rintro i ⟨e, he, rfl⟩
    obtain ⟨e', h1, rfl⟩ := List.mem_map.1 he
    exact ⟨e', h1, rfl⟩
  have hrise : ∀ (p q : Nat) (e e' : AEn), es[p]? = some e → es[q]? = some e' → p < q → e.1 < e'.1 := fun p q e e' h1 h2 h => by
    refine risesN_lt (l := (iaOf es).map (·.1)) D4.rises (p := p) (q := q) ?_ ?_ h
    · simp [iaOf, h1]
    · simp [iaOf, h2]
  have huniq : ∀ (p q : Nat) (e e' : AEn), es[p]? = some e → es[q]? = some e' → e.1 = e'.1 → p = q := fun p q e e' h1 h2 h => by
    rcases Nat.lt_trichotomy p q with h3 | h3 | h3
    · have := hrise p q e e' h1 h2 h3; omega
    · exact h3
    · have := hrise q p e' e h2 h1 h3; omega
  have hplain : ∀ (o : Oper), o ∈ full → (∀ c, o.op ≠ .defer c) := fun o ho c hc => by
    have h1 := D4.plain
    simp only [plainOps, List.all_eq_true] at h1
    have h2 := h1 o ho
    rw [hc] at h2; cases h2
  have hops : ∀ e ∈ es, ∃ o, full[e.1]? = some o ∧ o.dst = some e.2.2.1 := fun e he => by
    obtain ⟨p, hp⟩ := List.getElem?_of_mem he
    obtain ⟨o, h1, h2, _⟩ := hsp p e hp
    exact ⟨o, h1, h2⟩
  -- all is done
  have done : ∀ (listed : Array Bool) (G : Gh) (a : Act) (w : World), Mid4 C full all es ib st k listed G a w → Region.ready .any full.toArray listed = [] → Q .normal a w := by
    intro listed G a w hm hr
    have hall : ∀ i, i < full.length → listed.getD i true = true := by
      intro i
      induction i using Nat.strongRecOn with
      | _ i ih =>
        intro hi
        by_cases hu : listed.getD i true = true
        · exact hu
        · exfalso
          have : i ∈ Region.ready .any full.toArray listed := by
            rw [mem_ready]
            refine ⟨by simpa using hu, full[i], by rw [List.getElem?_toArray, List.getElem?_eq_getElem hi], fun e he heb => ?_⟩
            have hlt := D4.back i full[i] (List.getElem?_eq_getElem hi) e he heb
            rw [not_listed hm.lsz (by omega)]
            exact ih e.on hlt (by omega)
          rw [hr] at this
          cases this
    have hal : ∀ i, i < full.length → listed.getD i false = true := fun i hi => by rw [not_listed hm.lsz hi]; exact hall i hi
    obtain ⟨n, eb, bx, rw', t1, t2, t3, t4, t5, t6, t7, t8⟩ := hm.tree
    have hn : n = ib.length := by
      rcases Nat.lt_or_eq_of_le t2 with h | h
      · exfalso
        have h1 := (t1 n ib[n] (List.getElem?_eq_getElem h)).1 (hal _ (D4.apart _ (List.getElem_mem h)).1)
        omega
      · exact h
    rw [hn, List.drop_length, List.filterMap_nil] at t8
    refine hQ G a w ⟨st.nt, st.nb, eb ++ (slA es ++ st.sl), bx, rw', st.ys⟩ ⟨hm.size, hm.callers, hm.frame', hm.le, hm.fresh, hm.ownB, hm.ownR, hm.env, t5, fun t c x hl => ?_⟩ t8
    simp only [ASt.look, lookN_append] at hl
    cases h1 : lookN t eb with
    | some y => rw [h1] at hl; cases hl; exact (t6 t _ h1).1
    | none =>
      rw [h1] at hl
      cases h2 : lookN t (slA es) with
      | some y =>
        rw [h2] at hl
        cases hl
        obtain ⟨e, he, h3⟩ := slA_look h2
        obtain ⟨o, ho, _⟩ := hops e he
        have := hm.new e he (hal _ (List.getElem?_eq_some_iff.1 ho).1)
        rw [h3] at this
        exact this
      | none =>
        rw [h2] at hl
        refine hm.old t (c, x) (fun i o ho hdt => ?_) hl
        exfalso
        have hil := (List.getElem?_eq_some_iff.1 ho).1
        rcases D4.cover i hil with h3 | h3
        · obtain ⟨e, he, rfl⟩ := hai i h3
          obtain ⟨o', ho', hd'⟩ := hops e he
          rw [ho] at ho'; cases ho'
          rw [hdt] at hd'
          cases hd'
          exact slA_has he h2
        · exact t7 i o t h3 (hal i hil) ho hdt h1
  intro fuel
  induction fuel with
  | zero =>
    intro listed G a w hcnt hm
    have hr : Region.ready .any full.toArray listed = [] := by
      rw [List.eq_nil_iff_forall_not_mem]
      intro i hi
      obtain ⟨h1, o, h2, _⟩ := mem_ready.1 hi
      have hil : i < full.length := by simpa using (Array.getElem?_eq_some_iff.1 h2).1
      have h3 : 0 < (List.range full.length).countP (fun k => !listed.getD k true) := by
        rw [List.countP_pos_iff]
        exact ⟨i, List.mem_range.2 hil, by simpa using h1⟩
      omega
    exact ⟨hr, done listed G a w hm hr⟩
  | succ fuel ih =>
    intro listed G a w hcnt hm
    refine ⟨done listed G a w hm, fun i hi => ?_⟩
    obtain ⟨h1, o, h2, h3⟩ := mem_ready.1 hi
    have ho : full[i]? = some o := by simpa using h2
    have hil : i < full.length := (List.getElem?_eq_some_iff.1 ho).1
    have hil' : i < listed.size := by rw [hm.lsz]; exact hil
    have hun : listed.getD i false = false := by rw [not_listed hm.lsz hil]; exact h1
    have hcnt' : (List.range full.length).countP (fun k => !(listed.setIfInBounds i true).getD k true) ≤ fuel := by
      have := countP_lt (p := fun k => !listed.getD k true) (q := fun k => !(listed.setIfInBounds i true).getD k true) (k := i) (l := List.range full.length)
        (fun k _ hk => by
          by_cases hik : i = k
          · subst hik; rw [getD_set_self hil'] at hk; simp at hk
          · rwa [getD_set_other hik] at hk) (List.mem_range.2 hil) (by simp [h1]) (by show (!_) = false; rw [getD_set_self hil']; rfl)
      omega
    have clo' : ∀ (j : Nat) (o' : Oper), full[j]? = some o' → (listed.setIfInBounds i true).getD j true = true → ∀ e ∈ o'.after, Region.binds .any e = true → (listed.setIfInBounds i true).getD e.on false = true := by
      intro j o' ho' hl e he heb
      have hup : listed.getD e.on false = true → (listed.setIfInBounds i true).getD e.on false = true := fun h => by
        by_cases hie : i = e.on
        · rw [← hie, getD_set_self hil']
        · rw [getD_set_other hie]; exact h
      by_cases hij : i = j
      · subst hij
        rw [ho] at ho'
        cases ho'
        exact hup (h3 e he heb)
      · rw [getD_set_other hij] at hl
        exact hup (hm.clo j o' ho' hl e he heb)
    obtain ⟨n, eb, bx, rw', t1, t2, t3, t4, t5, t6, t7, t8⟩ := hm.tree
    have waitL : ∀ j, waitsFor o j = true → listed.getD j false = true := fun j h => by
      obtain ⟨e, he, h4, h5⟩ := waitsFor_sound h
      rw [← h4]; exact h3 e he h5
    have waitU : ∀ (j : Nat) (o' : Oper), full[j]? = some o' → waitsFor o' i = true → listed.getD j false = false := fun j o' ho' h => by
      cases hc : listed.getD j false with
      | false => rfl
      | true =>
        exfalso
        obtain ⟨e, he, h4, h5⟩ := waitsFor_sound h
        have hjl : j < full.length := (List.getElem?_eq_some_iff.1 ho').1
        have h6 := hm.clo j o' ho' (by rw [← not_listed hm.lsz hjl]; exact hc) e he h5
        rw [h4, hun] at h6
        cases h6
    have dlt : ∀ d, o.dst = some d → d < a.tmps.size := fun d hd => by
      have := hm.fits
      simp only [dstsFit, List.all_eq_true] at this
      have := this o (List.mem_of_getElem? ho)
      rw [hd] at this
      simpa using this
    unfold wpOpIn
    simp only [List.getElem?_toArray, ho]
    by_cases hib : i ∈ ib
    · -- one of the chain
      obtain ⟨p, hp⟩ := List.getElem?_of_mem hib
      have hpn : p = n := by
        have h4 : ¬ p < n := fun h => by rw [(t1 p i hp).2 h] at hun; cases hun
        rcases Nat.lt_or_eq_of_le (Nat.le_of_not_lt h4) with h5 | h5
        · exfalso
          obtain ⟨q, rfl⟩ : ∃ q, p = q + 1 := ⟨p - 1, by omega⟩
          have hql : q < ib.length := by have := (List.getElem?_eq_some_iff.1 hp).1; omega
          have h6 := chainOk_step D4.chain (List.getElem?_eq_getElem hql) hp
          simp only [waitsAt, ho] at h6
          have := (t1 q _ (List.getElem?_eq_getElem hql)).1 (waitL _ h6)
          omega
        · exact h5.symm
      subst hpn
      have hpl : p < ib.length := (List.getElem?_eq_some_iff.1 hp).1
      have hpe : ib[p] = i := (List.getElem?_eq_some_iff.1 hp).2
      rw [List.drop_eq_getElem_cons hpl, hpe, List.filterMap_cons_some ho] at t8
      obtain ⟨t64, t8⟩ := t8
      obtain ⟨D, hD⟩ := hm.env
      have hlenB := t5.lenB
      have hlenR := t5.lenR
      have hbl : G.bx.length < 64 := by have h64 : bx.length < 64 := t64; omega
      have t8 := t8 (G.bx.length + 64 * G.rw.length)
      let C' : Ctx P := { round := C.round, l := C.l, D := D, W := C.W, I0 := C.I0, G0 := G, w0 := w, base := fun b o h => hm.le.imm b o (C.base b o h), stable := C.stable, y := C.y, tabs := C.tabs }
      have hs : Sat C' G { a with defers := [] } w ⟨st.nt, G.bx.length + 64 * G.rw.length, restr (o.looksAt full.toArray) (eb ++ (slA es ++ st.sl)), bx, rw', st.ys⟩ := by
        refine ⟨hm.size, ⟨?_, ?_⟩, Outside.refl _ _, Gh.Le.refl _ _, fun b o h => .inl h, fun b h => .inl h, fun x hx g hg => .inl ⟨x, hx, hg⟩, ⟨D, ⟨hD.l, hD.cons, fun k h => .inl h, hD.lt, hD.bx, hD.rw, hD.imm, ⟨[], rfl, List.nodup_nil, fun m h => by cases h⟩, hD.record⟩⟩, t5, fun t c x hl => ?_⟩
        · show G.bx.length = (G.bx.length + 64 * G.rw.length) % 64
          omega
        · show G.rw.length = (G.bx.length + 64 * G.rw.length) / 64
          omega
        · simp only [ASt.look] at hl
          rw [lookN_restr] at hl
          cases hc : (o.looksAt full.toArray).contains t with
          | false => rw [hc] at hl; cases hl
          | true =>
            rw [hc] at hl
            simp only [cond_true, lookN_append] at hl
            have hlk : t ∈ o.looksAt full.toArray := by simpa using hc
            have hB := D4.looksB i o t ho hib hlk
            cases g1 : lookN t eb with
            | some y => rw [g1] at hl; cases hl; exact (t6 t _ g1).1
            | none =>
              rw [g1] at hl
              cases g2 : lookN t (slA es) with
              | some y =>
                rw [g2] at hl
                cases hl
                obtain ⟨e, he, g3⟩ := slA_look g2
                obtain ⟨o', ho', hd'⟩ := hops e he
                rw [g3] at hd'
                have := hm.new e he (waitL _ (hB _ _ ho' hd'))
                rw [g3] at this
                exact this
              | none =>
                rw [g2] at hl
                refine hm.old t (c, x) (fun j o' ho' hdt => ?_) hl
                exfalso
                have hjl := (List.getElem?_eq_some_iff.1 ho').1
                have hlj := waitL j (hB j o' ho' hdt)
                rcases D4.cover j hjl with g3 | g3
                · obtain ⟨e, he, rfl⟩ := hai j g3
                  obtain ⟨o2, ho2, hd2⟩ := hops e he
                  rw [ho'] at ho2; cases ho2
                  rw [hdt] at hd2
                  cases hd2
                  exact slA_has he g2
                · exact t7 j o' t g3 hlj ho' hdt g1
      have h4 := t8 C' G _ w (fun e a' w' => e = .normal ∧ ∃ G' st', Sat C' G' a' w' st' ∧ ∃ ent bx' rw'', st' = ⟨st.nt, G.bx.length + 64 * G.rw.length, dl o.dst ent ++ restr (o.looksAt full.toArray) (eb ++ (slA es ++ st.sl)), bx', rw'', st.ys⟩ ∧ KeepB all st.bx bx' ∧ (hrm o = true → rw'' = rw' ∧ ∃ ext, bx' = bx ++ ext) ∧
          runB P full.toArray all st.bx ((ib.drop (p + 1)).filterMap (full[·]?)) k ⟨st.nt, st.nb, dl o.dst ent ++ (eb ++ (slA es ++ st.sl)), bx', rw'', st.ys⟩) hs (fun G' a' w' st' hs' hk => ⟨rfl, G', st', hs', hk⟩)
      -- what is so behind it
      have next : ∀ (v : Value) (pre : List Deferred) (w' : World) (G' : Gh) (st' : ASt), Sat C' G' (({ a with defers := pre ++ [] } : Act).put o.dst v) w' st' → (∃ ent bx' rw'', st' = ⟨st.nt, G.bx.length + 64 * G.rw.length, dl o.dst ent ++ restr (o.looksAt full.toArray) (eb ++ (slA es ++ st.sl)), bx', rw'', st.ys⟩ ∧ KeepB all st.bx bx' ∧ (hrm o = true → rw'' = rw' ∧ ∃ ext, bx' = bx ++ ext) ∧
          runB P full.toArray all st.bx ((ib.drop (p + 1)).filterMap (full[·]?)) k ⟨st.nt, st.nb, dl o.dst ent ++ (eb ++ (slA es ++ st.sl)), bx', rw'', st.ys⟩) →
          wpAnyIn (fen C.round) 0 P .any full.toArray Q fuel (listed.setIfInBounds i true) (({ a with defers := pre ++ a.defers } : Act).put o.dst v) w' := by
        rintro v pre w' G' st' hs' ⟨ent, bx', rw'', rfl, k1, k2, k3⟩
        have le : G.Le w G' w' := hs'.le
        have hfr : Outside C'.may w w' := hs'.frame
        have putOther : ∀ t, o.dst ≠ some t → (({ a with defers := pre ++ a.defers } : Act).put o.dst v).tmps[t]? = a.tmps[t]? := fun t ht => by
          cases hdo : o.dst with
          | none => rfl
          | some d => rw [Act.put_get, if_neg (fun e => ht (by rw [hdo, e]))]
        have hslot : ∀ d, o.dst = some d → SlotIs G' w' (({ a with defers := pre ++ a.defers } : Act).put o.dst v) d ent := fun d hdo => by
          obtain ⟨u, u1, u2⟩ := hs'.slot d ent.1 ent.2 (by simp only [ASt.look, lookN_append, hdo, dl, lookN_cons]; rfl)
          refine ⟨u, ?_, u2⟩
          rw [← u1, hdo]
          rfl
        have hsizep : (({ a with defers := pre ++ a.defers } : Act).put o.dst v).tmps.size = a.tmps.size := by cases o.dst <;> simp [Act.put]
        have hle' : ∀ j, j ≠ i → (listed.setIfInBounds i true).getD j false = listed.getD j false := fun j h => getD_set_other (fun e => h e.symm)
        refine ih _ G' _ w' hcnt' ⟨⟨hfr.os.trans hm.frame'.os, hfr.tape.trans hm.frame'.tape, hfr.output.trans hm.frame'.output, Nat.le_trans hm.frame'.size hfr.size, fun q hq hn => ?_⟩, hm.le.trans le, fun b o' ib' => ?_, fun b hb => ?_, fun x hx g hg => ?_, by rw [hsizep]; exact hm.fits, by rw [hsizep]; exact hm.size, hm.callers, by simpa using hm.lsz, clo', fun t e ht hl => ?_, fun e he hl => ?_, ?_,
          ⟨p + 1, dl o.dst ent ++ eb, bx', rw'', fun q j hq => ?_, by omega, k1, fun hh => ?_, hs'.mem, fun t e hl => ?_, fun j o' t hj hlj ho' hdt => ?_, by rw [List.append_assoc]; exact k3⟩⟩
        · refine (hfr.block q (Nat.lt_of_lt_of_le hq hm.frame'.size) (fun hmay => ?_)).trans (hm.frame'.block q hq hn)
          rcases hmay with h | h | ⟨x, hx, h⟩
          · rcases hD.sub q h with h | h
            · exact hn (.inl h)
            · omega
          · rcases hm.ownB q h with h | h
            · exact hn (.inr (.inl h))
            · omega
          · rcases hm.ownR x hx q h with ⟨y, h5, h6⟩ | h
            · exact hn (.inr (.inr ⟨y, h5, h6⟩))
            · omega
        · rcases hs'.fresh b o' ib' with h | h | ⟨x, h5, h6⟩
          · exact hm.fresh b o' h
          · exact .inr (.inl (Nat.le_trans hm.frame'.size h))
          · rcases hm.ownR x h5 b h6 with ⟨y, h7, h8⟩ | h
            · exact .inr (.inr ⟨y, h7, h8⟩)
            · exact .inr (.inl h)
        · rcases hs'.ownB b hb with h | h
          · exact hm.ownB b h
          · exact .inr (Nat.le_trans hm.frame'.size h)
        · rcases hs'.ownR x hx g hg with ⟨y, h5, h6⟩ | h
          · exact hm.ownR y h5 g h6
          · exact .inr (Nat.le_trans hm.frame'.size h)
        · have hne : o.dst ≠ some t := fun h => by
            have := ht i o ho h
            rw [getD_set_self hil'] at this; cases this
          refine (hm.old t e (fun j o' ho' hdt => ?_) hl).mono le (putOther t hne)
          have h5 := ht j o' ho' hdt
          by_cases hij : j = i
          · subst hij; rw [ho] at ho'; cases ho'; exact absurd hdt hne
          · rwa [hle' j hij] at h5
        · have hei : e.1 ≠ i := fun h => (D4.apart i hib).2 _ (hia e he) h
          rw [hle' _ hei] at hl
          obtain ⟨o', ho', hd'⟩ := hops e he
          exact (hm.new e he hl).mono le (putOther _ fun h => hei (D4.dst _ _ _ _ _ ho' ho hd' h))
        · obtain ⟨D', hD'⟩ := hs'.env
          obtain ⟨l, g1, g2, g3⟩ := hD.marks
          obtain ⟨l', g1', g2', g3'⟩ := hD'.marks
          have g1' : pre = l'.map mark := by
            have : (({ a with defers := pre ++ [] } : Act).put o.dst v).defers = pre := by cases o.dst <;> simp [Act.put]
            rw [this] at g1'; exact g1'
          refine ⟨D', ⟨hD'.l, hD'.cons, fun q hq => ?_, hD'.lt, hD'.bx, hD'.rw, hD'.imm, ⟨l' ++ l, ?_, ?_, fun m hml => ?_⟩, hD'.record⟩⟩
          · rcases hD'.sub q hq with h | h
            · exact hD.sub q h
            · exact .inr (Nat.le_trans hm.frame'.size h)
          · have : (({ a with defers := pre ++ a.defers } : Act).put o.dst v).defers = pre ++ a.defers := by cases o.dst <;> rfl
            rw [this, List.map_append, g1', g1]
          · rw [List.nodup_append]
            refine ⟨g2', g2, fun x hx y hy e => ?_⟩
            subst e
            have h5 := (g3' x hx).2.2
            have h6 := (Array.getElem?_eq_some_iff.1 (g3 x hy).1).1
            have h5 : w.heap.size ≤ x := h5
            omega
          · rcases List.mem_append.1 hml with h | h
            · obtain ⟨h5, h6, h7⟩ := g3' m h
              exact ⟨h5, h6, Nat.le_trans hm.frame'.size h7⟩
            · obtain ⟨h5, h6, h7⟩ := g3 m h
              have hml : m < w.heap.size := (Array.getElem?_eq_some_iff.1 h5).1
              refine ⟨?_, fun hd' => ?_, h7⟩
              · rw [hfr.block m hml fun hmay => ?_]; exact h5
                rcases hmay with h | h | ⟨x, hx, h⟩
                · exact h6 h
                · exact t5.not_box h5 rfl h
                · exact t5.not_row h5 rfl x hx h
              · rcases hD'.sub m hd' with h | h
                · exact h6 h
                · have h : w.heap.size ≤ m := h
                  omega
        · by_cases hji : j = i
          · subst hji
            rw [getD_set_self hil']
            have : q = p := by
              rcases Nat.lt_trichotomy q p with h | h | h
              · have := (t1 q j hq).2 h; rw [hun] at this; cases this
              · exact h
              · exfalso
                -- a chain names nothing twice
                have hql : q < ib.length := (List.getElem?_eq_some_iff.1 hq).1
                have hstep : ∀ m, p < m → m < ib.length → ∀ x, ib[m]? = some x → j < x := by
                  intro m
                  induction m with
                  | zero => intro h; omega
                  | succ m ihm =>
                    intro hpm hml x hx
                    have hw := chainOk_step D4.chain (List.getElem?_eq_getElem (show m < ib.length by omega)) hx
                    unfold waitsAt at hw
                    split at hw
                    · rename_i ox hox
                      obtain ⟨e, he, h8, h9⟩ := waitsFor_sound hw
                      have hb := D4.back x ox hox e he h9
                      rcases Nat.lt_or_eq_of_le (show p ≤ m by omega) with h10 | rfl
                      · have := ihm h10 (by omega) _ (List.getElem?_eq_getElem (show m < ib.length by omega)); omega
                      · rw [hpe] at h8; omega
                    · cases hw
                have := hstep q h hql j hq
                omega
            simp [this]
          · rw [hle' j hji, t1 q j hq]
            constructor
            · intro h; omega
            · intro h
              rcases Nat.lt_or_eq_of_le (Nat.le_of_lt_succ h) with h | h
              · exact h
              · subst h; rw [hp] at hq; cases hq; exact absurd rfl hji
        · have h5 := t4 fun q b hq hb => hh q b (by omega) hb
          have h6 := hh p i (by omega) hp
          simp only [hrmAt, ho] at h6
          obtain ⟨h7, ext, h8⟩ := k2 h6
          obtain ⟨h9, ext', h10⟩ := h5
          exact ⟨h7.trans h9, ext' ++ ext, by rw [h8, h10, List.append_assoc]⟩
        · rw [lookN_append] at hl
          cases g1 : lookN t (dl o.dst ent) with
          | some y =>
            rw [g1] at hl
            cases hl
            obtain ⟨g2, g3⟩ := dl_look g1
            subst g3
            exact ⟨hslot t g2, i, o, hib, ho, g2⟩
          | none =>
            rw [g1] at hl
            obtain ⟨g2, j, o', g3, g4, g5⟩ := t6 t e hl
            by_cases hdt : o.dst = some t
            · rw [hdt] at g1; simp [dl, lookN_cons] at g1
            · exact ⟨g2.mono le (putOther t hdt), j, o', g3, g4, g5⟩
        · rw [lookN_append]
          by_cases hji : j = i
          · subst hji
            rw [ho] at ho'
            cases ho'
            rw [hdt]
            simp [dl, lookN_cons]
          · rw [hle' j hji] at hlj
            have := t7 j o' t hj hlj ho' hdt
            cases lookN t (dl o.dst ent) with
            | some y => simp
            | none => exact this
      unfold wpListIn at h4
      have hw : Region.wanted o (yielded full.toArray ({ a with defers := [] } : Act).tmps) = Region.wanted o (yielded full.toArray a.tmps) := rfl
      rw [hw] at h4
      split
      · rename_i hwt
        rw [if_pos hwt] at h4
        refine Oper.wpIn_mono ?_ (wpIn_same (hplain o (List.mem_of_getElem? ho)) [] (fun e a' w' h => h.1) h4)
        rintro a' w' ⟨v, pre, rfl, h5⟩
        unfold wpListIn at h5
        obtain ⟨_, G', st', hs', hk⟩ := h5
        exact next v pre w' G' st' hs' hk
      · rename_i hwt
        rw [if_neg hwt] at h4
        refine ⟨h4.1, ?_⟩
        have h5 := h4.2
        unfold wpListIn at h5
        obtain ⟨_, G', st', hs', hk⟩ := h5
        exact next undef [] w G' st' hs' hk
    · -- one that only computes
      obtain ⟨e, he, rfl⟩ := hai i ((D4.cover i hil).resolve_right hib)
      obtain ⟨p, hp⟩ := List.getElem?_of_mem he
      obtain ⟨o', ho', hdo, hstep⟩ := hsp p e hp
      rw [ho] at ho'
      cases ho'
      have hspec : OpSpec P full.toArray o ⟨st.nt, st.nb, slA (es.take p) ++ st.sl, bx, rw', st.ys⟩ e.2.2.2.1 e.2.2.2.2 := by
        cases hk : e.2.1 with
        | any =>
          rw [hk] at hstep
          obtain ⟨ext, h4⟩ := t3
          have := hstep ext rw'
          rw [← h4] at this
          exact this
        | first =>
          rw [hk] at hstep
          have hf := D4.first _ (hia e he) (by rw [hk]; rfl)
          have hh := firstOk_hrm (listed := fun b => listed.getD b false = true) (fun b hb => by
            unfold waitsAt at hb
            split at hb
            · rename_i ob hob
              rw [waitU b ob hob hb]; simp
            · cases hb) (n := n) hf (fun q b hq hb => (t1 q b hb).2 hq)
          obtain ⟨rfl, ext, h4⟩ := t4 hh
          have := hstep ext
          rw [← h4] at this
          exact this
      have hlk : ∀ t ∈ o.looksAt full.toArray, SlotOk G w a ⟨st.nt, st.nb, slA (es.take p) ++ st.sl, bx, rw', st.ys⟩ t := by
        intro t ht c x hl
        have hA := D4.looksA e.1 o t ho hib ht
        simp only [ASt.look, lookN_append] at hl
        cases g1 : lookN t (slA (es.take p)) with
        | some y =>
          rw [g1] at hl
          cases hl
          obtain ⟨e', he', g3⟩ := slA_look g1
          obtain ⟨q, hq⟩ := List.getElem?_of_mem he'
          rw [List.getElem?_take] at hq
          split at hq
          · rename_i hqp
            obtain ⟨o2, ho2, hd2, _⟩ := hsp q e' hq
            rw [g3] at hd2
            rcases hA _ _ ho2 hd2 with ⟨_, _, h6⟩ | ⟨h6, _⟩
            · have := hm.new e' (List.mem_of_mem_take he') (waitL _ h6)
              rw [g3] at this
              exact this
            · have := hrise q p e' e hq hp hqp
              omega
          · cases hq
        | none =>
          rw [g1] at hl
          refine hm.old t (c, x) (fun j o2 ho2 hdt => ?_) hl
          rcases hA j o2 ho2 hdt with ⟨h5, h6, h7⟩ | ⟨_, h7⟩
          · exfalso
            obtain ⟨e', he', rfl⟩ := hai j h5
            obtain ⟨o3, ho3, hd3⟩ := hops e' he'
            rw [ho2] at ho3
            cases ho3
            rw [hdt] at hd3
            cases hd3
            obtain ⟨q, hq⟩ := List.getElem?_of_mem he'
            have hqp : q < p := by
              rcases Nat.lt_trichotomy q p with h | h | h
              · exact h
              · subst h; rw [hp] at hq; cases hq; omega
              · have := hrise p q e e' hp hq h; omega
            exact slA_has (es := es.take p) (e := e') (List.mem_of_getElem? (i := q) (by rw [List.getElem?_take, if_pos hqp]; exact hq)) g1
          · exact waitU j o2 ho2 h7
      have hd := dlt _ hdo
      have hle' : ∀ j, j ≠ e.1 → (listed.setIfInBounds e.1 true).getD j false = listed.getD j false := fun j h => getD_set_other (fun e => h e.symm)
      have next : ∀ v G' w', Ext bx rw' G w G' w' → ((e.2.2.2.1 = true → e.2.2.2.2.rel G' w' v) ∧ (e.2.2.2.1 = false → v = undef)) → wpAnyIn (fen C.round) 0 P .any full.toArray Q fuel (listed.setIfInBounds e.1 true) (a.put (some e.2.2.1) v) w' := by
        intro v G' w' E hv
        have le := E.le
        have putOther : ∀ t, t ≠ e.2.2.1 → (a.put (some e.2.2.1) v).tmps[t]? = a.tmps[t]? := fun t h => by rw [Act.put_get, if_neg (fun e => h e.symm)]
        have putSelf : (a.put (some e.2.2.1) v).tmps[e.2.2.1]? = some v := by rw [Act.put_get]; simp [Array.getElem?_eq_getElem hd]
        have hsizep : (a.put (some e.2.2.1) v).tmps.size = a.tmps.size := by simp [Act.put]
        have hob : Outside (fun _ => False) w w' := .of_below E.below
        refine ih _ G' _ w' hcnt' ⟨⟨hob.os.trans hm.frame'.os, hob.tape.trans hm.frame'.tape, hob.output.trans hm.frame'.output, Nat.le_trans hm.frame'.size hob.size, fun q hq hn => (hob.block q (Nat.lt_of_lt_of_le hq hm.frame'.size) id).trans (hm.frame'.block q hq hn)⟩, hm.le.trans le, fun b o' ib' => ?_, by rw [E.gbx]; exact hm.ownB, by rw [E.grw]; exact hm.ownR, by rw [hsizep]; exact hm.fits, by rw [hsizep]; exact hm.size, hm.callers, by simpa using hm.lsz, clo', fun t e' ht hl => ?_, fun e' he' hl => ?_, ?_,
          ⟨n, eb, bx, rw', fun q j hq => ?_, t2, t3, t4, E.mem, fun t e' hl => ?_, fun j o' t hj hlj ho' hdt => ?_, t8⟩⟩
        · rcases E.fresh b o' ib' with h | h
          · exact hm.fresh b o' h
          · exact .inr (.inl (Nat.le_trans hm.frame'.size h))
        · have hne : t ≠ e.2.2.1 := fun h => by
            subst h
            have := ht e.1 o ho hdo
            rw [getD_set_self hil'] at this; cases this
          refine (hm.old t e' (fun j o' ho' hdt => ?_) hl).mono le (putOther t hne)
          have h5 := ht j o' ho' hdt
          by_cases hij : j = e.1
          · subst hij; rw [ho] at ho'; cases ho'; rw [hdo] at hdt; cases hdt; exact absurd rfl hne
          · rwa [hle' j hij] at h5
        · obtain ⟨q, hq⟩ := List.getElem?_of_mem he'
          by_cases hei : e'.1 = e.1
          · have := huniq q p e' e hq hp hei
            subst this
            rw [hp] at hq
            cases hq
            exact ⟨v, putSelf, hv⟩
          · rw [hle' _ hei] at hl
            obtain ⟨o', ho', hd'⟩ := hops e' he'
            exact (hm.new e' he' hl).mono le (putOther _ fun h => hei (D4.dst _ _ _ _ _ ho' ho hd' (h ▸ hdo)))
        · obtain ⟨D, hD⟩ := hm.env
          exact ⟨D, hD.step t5 le (fun b o' h => (E.fresh b o' h).elim .inl fun h => .inr (.inl h)) (fun b hb => .inl (by rw [E.gbx] at hb; exact hb)) (fun x hx g hg => .inl ⟨x, by rw [E.grw] at hx; exact hx, hg⟩) (hob.mono fun _ _ h => h.elim)⟩
        · rw [hle' j fun h => (D4.apart j (List.mem_of_getElem? hq)).2 _ (hia e he) h.symm]
          exact t1 q j hq
        · obtain ⟨g2, j, o', g3, g4, g5⟩ := t6 t e' hl
          refine ⟨g2.mono le (putOther t fun h => ?_), j, o', g3, g4, g5⟩
          have := D4.dst _ _ _ _ _ g4 ho g5 (h ▸ hdo)
          exact hib (this ▸ g3)
        · rw [hle' j fun h => hib (h ▸ hj)] at hlj
          exact t7 j o' t hj hlj ho' hdt
      obtain ⟨s1, s2⟩ := hspec G a w (TokM_tabs (X := fun _ => True) (let ⟨D, h⟩ := hm.env; ⟨D, h, trivial⟩)) t5 hlk
      rw [s1]
      cases hg : e.2.2.2.1
      · simp only [Bool.false_eq_true, if_false]
        rw [hdo]
        exact ⟨fun _ _ => trivial, next undef G w (Ext.refl t5) ⟨fun h => (by rw [hg] at h; cases h), fun _ => rfl⟩⟩
      · simp only [if_true]
        refine s2 hg _ _ _ fun v G' w' E hv => ?_
        rw [hdo]
        exact next v G' w' E ⟨fun _ => hv, fun h => by rw [hg] at h; cases h⟩
end Go.Proofs.YtihnjbnlbedpaaaDoor
