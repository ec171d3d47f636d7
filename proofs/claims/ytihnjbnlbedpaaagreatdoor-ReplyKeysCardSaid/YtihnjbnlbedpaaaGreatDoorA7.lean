/- The abstract logic: regions that draw their order, of which some operations only compute, and the others wait for each other. -/
import Derived.Test.YtihnjbnlbedpaaaGreatDoorA6
import Derived.Test.YtihnjbnlbedpaaaGreatDoorA4
import Derived.Deep.AppendSrc
import Derived.Lib.AppendZerosOnto
import Derived.Laws.Externs
namespace Go.Proofs.YtihnjbnlbedpaaaGreatDoor
set_option linter.unusedVariables false
set_option linter.unusedSimpArgs false
set_option maxHeartbeats 4000000
set_option maxRecDepth 100000
open Go.RowKit

/-- What is said of some slots alone. -/
def restr (L : List Nat) (sl : List (Nat × (Bool × AV))) : List (Nat × (Bool × AV)) := sl.filter fun e => L.contains e.1
theorem lookN_restr {L : List Nat} {t : Nat} : ∀ {sl : List (Nat × (Bool × AV))}, lookN t (restr L sl) = bif L.contains t then lookN t sl else none
  | [] => by cases L.contains t <;> rfl
  | (s, e) :: r => by
    have ih := lookN_restr (L := L) (t := t) (sl := r)
    unfold restr at ih ⊢
    rw [List.filter_cons]
    by_cases hs : L.contains s = true
    · simp only [hs, if_true, lookN]
      cases hb : Nat.beq t s
      · simp only [cond_false]; exact ih
      · obtain rfl := Nat.eq_of_beq_eq_true hb
        rw [hs]; rfl
    · simp only [hs, Bool.false_eq_true, if_false, lookN]
      rw [ih]
      cases hb : Nat.beq t s
      · rfl
      · obtain rfl := Nat.eq_of_beq_eq_true hb
        cases hc : L.contains t
        · rfl
        · exact absurd hc hs
def dl : Option Nat → (Bool × AV) → List (Nat × (Bool × AV))
  | some d, e => [(d, e)]
  | none, _ => []
theorem dl_look {o : Option Nat} {e : Bool × AV} {t : Nat} {x : Bool × AV} (h : lookN t (dl o e) = some x) : o = some t ∧ e = x := by
  cases o with
  | none => cases h
  | some d =>
    simp only [dl, lookN] at h
    cases hb : Nat.beq t d
    · rw [hb] at h; cases h
    · rw [hb] at h
      cases h
      exact ⟨by rw [Nat.eq_of_beq_eq_true hb], rfl⟩
/-- Operations that change nothing that was there. -/
def hrm (o : Oper) : Bool := match o.op with
  | .store _ _ _ => false
  | .call _ => false
  | .buildSlice _ _ _ => false
  | .makeSlice _ _ _ => false
  | .makeMap _ _ => false
  | .mapUpdate _ _ _ _ => false
  | _ => true
def mskB (all : Bool) (bx ext : List (List AV)) : List (List AV) := bif all then ext else bx ++ ext
def KeepB (all : Bool) (bx bx' : List (List AV)) : Prop := ∃ ext, bx' = mskB all bx ext
/-- A chain of operations. -/
def runB (P : Program) (full : Array Oper) (all : Bool) (bx0 : List (List AV)) : List Oper → (ASt → Prop) → ASt → Prop
  | [], k, st => k st
  | o :: r, k, st => st.bx.length < 64 ∧ ∀ nb, runS P full [o] (fun st' => ∃ ent bx' rw', st' = ⟨st.nt, nb, dl o.dst ent ++ restr (o.looksAt full) st.sl, bx', rw', st.ys⟩ ∧ KeepB all bx0 bx' ∧ (hrm o = true → rw' = st.rw ∧ ∃ ext, bx' = st.bx ++ ext) ∧
      runB P full all bx0 r k ⟨st.nt, st.nb, dl o.dst ent ++ st.sl, bx', rw', st.ys⟩) ⟨st.nt, nb, restr (o.looksAt full) st.sl, st.bx, st.rw, st.ys⟩
/-- How an operation that only computes was evaluated: with all that was there when the chain began, and new variables; or with whatever is there. -/
inductive AK where
  | first | any
def AStep (P : Program) (full : Array Oper) (all : Bool) (st : ASt) (o : Oper) (sl : List (Nat × (Bool × AV))) (g : Bool) (x : AV) : AK → Prop
  | .first => ∀ ext, OpSpec P full o { st with sl := sl, bx := st.bx ++ ext } g x
  | .any => ∀ ext rw', OpSpec P full o { st with sl := sl, bx := mskB all st.bx ext, rw := rw' } g x
abbrev AEn := Nat × AK × (Nat × (Bool × AV))
def slA (es : List AEn) : List (Nat × (Bool × AV)) := (es.map (·.2.2)).reverse
def iaOf (es : List AEn) : List (Nat × AK) := es.map fun e => (e.1, e.2.1)
def waitsAt (full : List Oper) (i j : Nat) : Bool := match full[i]? with
  | some o => waitsFor o j
  | none => false
def hrmAt (full : List Oper) (i : Nat) : Bool := match full[i]? with
  | some o => hrm o
  | none => false
def firstOk (full : List Oper) : List Nat → Nat → Bool
  | [], _ => true
  | b :: r, i => waitsAt full b i || (hrmAt full b && firstOk full r i)
def AK.isFirst : AK → Bool
  | .first => true
  | .any => false
def chainOk (full : List Oper) : List Nat → Bool
  | a :: b :: r => waitsAt full b a && chainOk full (b :: r)
  | _ => true
def risesN : List Nat → Bool
  | a :: b :: r => Nat.blt a b && risesN (b :: r)
  | _ => true
/-- What an operation that computes may look at: what others wrote for which it waits, or write that wait for it. -/
def lookA (full : List Oper) (ia : List (Nat × AK)) (i t : Nat) : Bool := full.zipIdx.all fun y => y.1.dst != some t || ((ia.any fun e => e.1 == y.2) && Nat.blt y.2 i && waitsAt full i y.2) || (Nat.blt i y.2 && waitsFor y.1 i)
def lookB (full : List Oper) (i t : Nat) : Bool := full.zipIdx.all fun y => y.1.dst != some t || waitsAt full i y.2
def depOk4 (full : List Oper) (ia : List (Nat × AK)) (ib : List Nat) : Bool :=
  (((List.range full.length).all fun i => (ia.any fun e => e.1 == i) || ib.contains i) && (ib.all fun i => !(ia.any fun e => e.1 == i) && Nat.blt i full.length)) &&
  ((full.zipIdx.all fun x => x.1.after.all fun e => !Region.binds .any e || Nat.blt e.on x.2) && (full.zipIdx.all fun x => full.zipIdx.all fun y => y.2 == x.2 || x.1.dst.isNone || x.1.dst != y.1.dst)) &&
  ((chainOk full ib && risesN (ia.map (·.1)) && ia.all fun e => !e.2.isFirst || firstOk full ib e.1) &&
  (full.zipIdx.all fun x => (x.1.looksAt full.toArray).all fun t => bif ib.contains x.2 then lookB full x.2 t else lookA full ia x.2 t) && plainOps full)
theorem wpIn_same {P : Program} {o : Oper} {ro : Option Nat} {a : Act} {w : World} {K0 : Act → World → Prop} {Q0 Q : Exit → Act → World → Prop} (hd : ∀ c, o.op ≠ .defer c) (ds : List Deferred) (hQ : ∀ e a' w', Q0 e a' w' → e = .normal)
    (h : o.wpIn (fen ro) 0 P { a with defers := ds } w K0 Q0) : o.wpIn (fen ro) 0 P a w (fun a' w' => ∃ v pre, a' = ({ a with defers := pre ++ a.defers } : Act).put o.dst v ∧ K0 (({ a with defers := pre ++ ds } : Act).put o.dst v) w') Q := by
  have he : ({ a with defers := ds } : Act).eval = a.eval := rfl
  unfold Oper.wpIn at *
  rw [he] at h
  refine ⟨h.1, ?_⟩
  have h := h.2
  have hsem : ∀ ρ : Operand → Value, Oper.semAt (fen ro).round ρ o = execOp ρ o := fun ρ => semAt_fen ro ρ o hd
  rw [hsem] at h ⊢
  generalize (execOp a.eval o).run P w = r at *
  cases r with
  | ok x w' =>
    cases x <;> simp only [Oper.uponIn] at h ⊢
    case value u => exact ⟨u, [], rfl, h⟩
    case skip => exact ⟨undef, [], rfl, h⟩
    case defer d => exact ⟨undef, [d], rfl, h⟩
    case enter f args =>
      refine ⟨h.1, CallsIn.mono h.2 fun e w'' he => ?_⟩
      cases e with
      | returned u => exact ⟨u, [], rfl, he⟩
      | panicked c => exact absurd (hQ _ _ _ he) (by simp)
      | outgrown => obtain ⟨a1, w1, he⟩ := he; exact absurd (hQ _ _ _ he) (by simp)
    case row row args => exact ⟨h.1, RowsIn.mono h.2 fun u w'' he => ⟨u, [], rfl, he⟩⟩
    case round l f tmps assign body =>
      refine ⟨h.1, RoundIn.mono h.2 fun e w'' he => ?_⟩
      cases e with
      | returned u => exact ⟨u, [], rfl, he⟩
      | panicked c => exact absurd (hQ _ _ _ he) (by simp)
      | outgrown => obtain ⟨a1, w1, he⟩ := he; exact absurd (hQ _ _ _ he) (by simp)
  | halt x w' =>
    cases x <;> simp only [Oper.uponIn] at h ⊢
    case panic u => exact absurd (hQ _ _ _ h) (by simp)

/-! What depOk4 says. -/
structure Dep4 (full : List Oper) (ia : List (Nat × AK)) (ib : List Nat) : Prop where
  cover : ∀ i, i < full.length → (∃ e ∈ ia, e.1 = i) ∨ i ∈ ib
  apart : ∀ i ∈ ib, i < full.length ∧ ∀ e ∈ ia, e.1 ≠ i
  back : ∀ (i : Nat) (o : Oper), full[i]? = some o → ∀ e ∈ o.after, Region.binds .any e = true → e.on < i
  dst : ∀ (i j : Nat) (o o' : Oper) (d : Nat), full[i]? = some o → full[j]? = some o' → o.dst = some d → o'.dst = some d → i = j
  chain : chainOk full ib = true
  rises : risesN (ia.map (·.1)) = true
  first : ∀ e ∈ ia, e.2.isFirst = true → firstOk full ib e.1 = true
  looksB : ∀ (i : Nat) (o : Oper) (t : Nat), full[i]? = some o → i ∈ ib → t ∈ o.looksAt full.toArray → ∀ (j : Nat) (o' : Oper), full[j]? = some o' → o'.dst = some t → waitsFor o j = true
  looksA : ∀ (i : Nat) (o : Oper) (t : Nat), full[i]? = some o → i ∉ ib → t ∈ o.looksAt full.toArray → ∀ (j : Nat) (o' : Oper), full[j]? = some o' → o'.dst = some t → ((∃ e ∈ ia, e.1 = j) ∧ j < i ∧ waitsFor o j = true) ∨ (i < j ∧ waitsFor o' i = true)
  plain : plainOps full = true
theorem zip_mem {full : List Oper} {i : Nat} {o : Oper} (h : full[i]? = some o) : (o, i) ∈ full.zipIdx := by rw [List.mem_zipIdx_iff_getElem?]; exact h
theorem blt_lt {a b : Nat} (h : Nat.blt a b = true) : a < b := Nat.le_of_ble_eq_true h
theorem depOk4_sound {full : List Oper} {ia : List (Nat × AK)} {ib : List Nat} (h : depOk4 full ia ib = true) : Dep4 full ia ib := by
  unfold depOk4 at h
  simp only [Bool.and_eq_true, List.all_eq_true, Bool.or_eq_true, List.mem_range] at h
  obtain ⟨⟨⟨h1, h2⟩, h3, h4⟩, ⟨⟨⟨h5, h6⟩, h7⟩, h8⟩, h9⟩ := h
  refine ⟨fun i hi => ?_, fun i hi => ?_, fun i o ho e he hb => ?_, fun i j o o' d ho ho' hd hd' => ?_, h5, h6, fun e he hf => ?_, fun i o t ho hi ht j o' ho' hd => ?_, fun i o t ho hi ht j o' ho' hd => ?_, h9⟩
  · rcases h1 i hi with h | h
    · rw [List.any_eq_true] at h
      obtain ⟨e, he, h⟩ := h
      exact .inl ⟨e, he, by simpa using h⟩
    · exact .inr (by simpa using h)
  · have := h2 i hi
    refine ⟨blt_lt this.2, fun e he hne => ?_⟩
    have h3 := this.1
    rw [Bool.not_eq_true', List.any_eq_false] at h3
    exact h3 e he (by simpa using hne)
  · have := h3 (o, i) (zip_mem ho)
    rw [Array.all_eq_true_iff_forall_mem] at this
    have h3 := this e he
    simp only [hb, Bool.not_true, Bool.false_or] at h3
    exact blt_lt h3
  · have := h4 (o, i) (zip_mem ho) (o', j) (zip_mem ho')
    simp only [hd, hd', Option.isNone_some, bne_self_eq_false, Bool.false_eq_true, or_false, beq_iff_eq] at this
    exact this.symm
  · have := h7 e he
    rw [hf] at this
    simpa using this
  · have h10 := h8 (o, i) (zip_mem ho) t ht
    rw [show ib.contains i = true from by simpa using hi] at h10
    simp only [cond_true, lookB, List.all_eq_true, Bool.or_eq_true] at h10
    have h11 := h10 (o', j) (zip_mem ho')
    simp only [hd, bne_self_eq_false, Bool.false_eq_true, false_or, waitsAt, ho] at h11
    exact h11
  · have h10 := h8 (o, i) (zip_mem ho) t ht
    rw [show ib.contains i = false from by simpa using hi] at h10
    simp only [cond_false, lookA, List.all_eq_true, Bool.or_eq_true, Bool.and_eq_true] at h10
    have h11 := h10 (o', j) (zip_mem ho')
    simp only [hd, bne_self_eq_false, Bool.false_eq_true, false_or, waitsAt, ho] at h11
    rcases h11 with ⟨⟨h11, h12⟩, h13⟩ | ⟨h11, h12⟩
    · rw [List.any_eq_true] at h11
      obtain ⟨e, he, h⟩ := h11
      exact .inl ⟨⟨e, he, by simpa using h⟩, blt_lt h12, h13⟩
    · exact .inr ⟨blt_lt h11, h12⟩
theorem risesN_lt : ∀ {l : List Nat} {p q i j : Nat}, risesN l = true → l[p]? = some i → l[q]? = some j → p < q → i < j
  | [], _, _, _, _, _, h, _, _ => by simp at h
  | [a], p, q, _, _, _, h1, h2, h => by
    have := (List.getElem?_eq_some_iff.1 h2).1
    simp at this; omega
  | a :: b :: r, p, q, i, j, hr, h1, h2, h => by
    simp only [risesN, Bool.and_eq_true] at hr
    have hab := blt_lt hr.1
    cases q with
    | zero => omega
    | succ q =>
      simp only [List.getElem?_cons_succ] at h2
      cases p with
      | succ p => exact risesN_lt hr.2 (by simpa using h1) h2 (by omega)
      | zero =>
        simp only [List.getElem?_cons_zero, Option.some.injEq] at h1
        subst h1
        cases q with
        | zero => simp only [List.getElem?_cons_zero, Option.some.injEq] at h2; omega
        | succ q => have := risesN_lt hr.2 (i := b) (p := 0) (q := q + 1) rfl h2 (by omega); omega
theorem chainOk_step {full : List Oper} : ∀ {ib : List Nat} {p i j : Nat}, chainOk full ib = true → ib[p]? = some i → ib[p + 1]? = some j → waitsAt full j i = true
  | [], _, _, _, _, h, _ => by simp at h
  | [a], _, _, _, _, _, h => by simp at h
  | a :: b :: r, 0, i, j, hc, h1, h2 => by
    simp only [List.getElem?_cons_zero, List.getElem?_cons_succ, Option.some.injEq] at h1 h2
    subst h1; subst h2
    simp only [chainOk, Bool.and_eq_true] at hc
    exact hc.1
  | a :: b :: r, p + 1, i, j, hc, h1, h2 => by
    simp only [chainOk, Bool.and_eq_true] at hc
    exact chainOk_step hc.2 (by simpa using h1) (by simpa using h2)
theorem firstOk_hrm {full : List Oper} {listed : Nat → Prop} {i : Nat} (hi : ∀ b, waitsAt full b i = true → ¬ listed b) : ∀ {ib : List Nat} {n : Nat}, firstOk full ib i = true → (∀ p b, p < n → ib[p]? = some b → listed b) → ∀ p b, p < n → ib[p]? = some b → hrmAt full b = true
  | [], _, _, _, _, _, _, h => by simp at h
  | b0 :: r, n, hf, hl, p, b, hp, hb => by
    simp only [firstOk, Bool.or_eq_true, Bool.and_eq_true] at hf
    rcases hf with hf | ⟨h1, h2⟩
    · exact absurd (hl 0 b0 (by omega) rfl) (hi b0 hf)
    · cases p with
      | zero => simp only [List.getElem?_cons_zero, Option.some.injEq] at hb; subst hb; exact h1
      | succ p => exact firstOk_hrm (n := n - 1) hi h2 (fun p b hp hb => hl (p + 1) b (by omega) (by simpa using hb)) p b (by omega) (by simpa using hb)
def SlotIs (G : Gh) (w : World) (a : Act) (t : Nat) (e : Bool × AV) : Prop := ∃ v, a.tmps[t]? = some v ∧ (e.1 = true → e.2.rel G w v) ∧ (e.1 = false → v = undef)
theorem SlotIs.mono {G G' : Gh} {w w' : World} {a a' : Act} {t : Nat} {e : Bool × AV} (le : G.Le w G' w') (h : SlotIs G w a t e) (ha : a'.tmps[t]? = a.tmps[t]?) : SlotIs G' w' a' t e := by
  obtain ⟨v, h1, h2, h3⟩ := h
  exact ⟨v, by rw [ha]; exact h1, fun hc => AV.rel_mono le _ _ (h2 hc), h3⟩
structure Mid4 {P : Program} (C : Ctx P) (full : List Oper) (all : Bool) (es : List AEn) (ib : List Nat) (st : ASt) (k : ASt → Prop) (listed : Array Bool) (G : Gh) (a : Act) (w : World) : Prop where
  frame' : Outside C.may C.w0 w
  le : C.G0.Le C.w0 G w
  fresh : ∀ b o, G.imm b o → C.G0.imm b o ∨ C.w0.heap.size ≤ b ∨ ∃ x ∈ C.G0.rw, (ownBlk x.2) = some b
  ownB : ∀ blk ∈ G.bx, blk ∈ C.G0.bx ∨ C.w0.heap.size ≤ blk
  ownR : ∀ x ∈ G.rw, ∀ g, (ownBlk x.2) = some g → (∃ y ∈ C.G0.rw, (ownBlk y.2) = some g) ∨ C.w0.heap.size ≤ g
  fits : dstsFit a.tmps.size full = true
  size : a.tmps.size = st.nt
  callers : C.G0.bx.length = st.nb % 64 ∧ C.G0.rw.length = st.nb / 64
  lsz : listed.size = full.length
  clo : ∀ (i : Nat) (o : Oper), full[i]? = some o → listed.getD i true = true → ∀ e ∈ o.after, Region.binds .any e = true → listed.getD e.on false = true
  old : ∀ (t : Nat) e, (∀ (i : Nat) (o : Oper), full[i]? = some o → o.dst = some t → listed.getD i false = false) → lookN t st.sl = some e → SlotIs G w a t e
  new : ∀ e ∈ es, listed.getD e.1 false = true → SlotIs G w a e.2.2.1 e.2.2.2
  env : ∃ D, EnvD C G a.defers st.ys D w
  tree : ∃ (n : Nat) (eb : List (Nat × (Bool × AV))) (bx : List (List AV)) (rw : List ARow), (∀ p i, ib[p]? = some i → (listed.getD i false = true ↔ p < n)) ∧ n ≤ ib.length ∧ KeepB all st.bx bx ∧ ((∀ p b, p < n → ib[p]? = some b → hrmAt full b = true) → rw = st.rw ∧ ∃ ext, bx = st.bx ++ ext) ∧ MSat G w bx rw ∧
    (∀ t e, lookN t eb = some e → SlotIs G w a t e ∧ ∃ i o, i ∈ ib ∧ full[i]? = some o ∧ o.dst = some t) ∧ (∀ i o t, i ∈ ib → listed.getD i false = true → full[i]? = some o → o.dst = some t → lookN t eb ≠ none) ∧
    runB P full.toArray all st.bx ((ib.drop n).filterMap (full[·]?)) k ⟨st.nt, st.nb, eb ++ (slA es ++ st.sl), bx, rw, st.ys⟩
theorem slA_look {es : List AEn} {t : Nat} {x : Bool × AV} (h : lookN t (slA es) = some x) : ∃ e ∈ es, e.2.2 = (t, x) := by
  have := lookN_mem h
  unfold slA at this
  rw [List.mem_reverse, List.mem_map] at this
  exact this
theorem lookN_has {t : Nat} {x : Bool × AV} : ∀ {l : List (Nat × (Bool × AV))}, (t, x) ∈ l → lookN t l ≠ none
  | (d, y) :: l, h => by
    rw [lookN_cons]
    split
    · simp
    · rcases List.mem_cons.1 h with h | h
      · rename_i hne; cases h; exact absurd rfl hne
      · exact lookN_has h
theorem slA_has {es : List AEn} {e : AEn} (h : e ∈ es) : lookN e.2.2.1 (slA es) ≠ none := lookN_has (x := e.2.2.2) (by unfold slA; rw [List.mem_reverse, List.mem_map]; exact ⟨e, h, rfl⟩)

theorem not_listed {listed : Array Bool} {full : List Oper} {i : Nat} (hsz : listed.size = full.length) (hi : i < full.length) : listed.getD i false = listed.getD i true := getD_any (by omega) _ _
theorem wpAny4 {P : Program} {C : Ctx P} {full : List Oper} {all : Bool} {es : List AEn} {ib : List Nat} {st : ASt} {k : ASt → Prop} {Q : Exit → Act → World → Prop} (hd : depOk4 full (iaOf es) ib = true)
    (hsp : ∀ (p : Nat) (e : AEn), es[p]? = some e → ∃ o, full[e.1]? = some o ∧ o.dst = some e.2.2.1 ∧ AStep P full.toArray all st o (slA (es.take p) ++ st.sl) e.2.2.2.1 e.2.2.2.2 e.2.1)
    (hQ : ∀ G a w st', Sat C G a w st' → k st' → Q .normal a w) :
    ∀ (fuel : Nat) (listed : Array Bool) (G : Gh) (a : Act) (w : World), (List.range full.length).countP (fun k => !listed.getD k true) ≤ fuel → Mid4 C full all es ib st k listed G a w → wpAnyIn (fen C.round) 0 P .any full.toArray Q fuel listed a w := by
  have D4 := depOk4_sound hd
  have hia : ∀ e ∈ es, (e.1, e.2.1) ∈ iaOf es := fun e he => List.mem_map.2 ⟨e, he, rfl⟩
  have hai : ∀ i, (∃ e ∈ iaOf es, e.1 = i) → ∃ e ∈ es, e.1 = i := by
    rintro i ⟨e, he, rfl⟩
    obtain ⟨e', h1, rfl⟩ := List.mem_map.1 he
    exact ⟨e', h1, rfl⟩
  have hrise : ∀ (p q : Nat) (e e' : AEn), es[p]? = some e → es[q]? = some e' → p < q → e.1 < e'.1 := fun p q e e' h1 h2 h => by
    refine risesN_lt (l := (iaOf es).map (·.1)) D4.rises (p := p) (q := q) ?_ ?_ h
    · simp [iaOf, h1]
    · simp [iaOf, h2]
  have huniq : ∀ (p q : Nat) (e e' : AEn), es[p]? = some e → es[q]? = some e' → e.1 = e'.1 → p = q := fun p q e e' h1 h2 h => by
    rcases Nat.lt_trichotomy p q with h3 | h3 | h3
    · have := hrise p q e e' h1 h2 h3; omega
    · exact h3
    · have := hrise q p e' e h2 h1 h3; omega
  have hplain : ∀ (o : Oper), o ∈ full → (∀ c, o.op ≠ .defer c) := fun o ho c hc => by
    have h1 := D4.plain
    simp only [plainOps, List.all_eq_true] at h1
    have h2 := h1 o ho
    rw [hc] at h2; cases h2
  have hops : ∀ e ∈ es, ∃ o, full[e.1]? = some o ∧ o.dst = some e.2.2.1 := fun e he => by
    obtain ⟨p, hp⟩ := List.getElem?_of_mem he
    obtain ⟨o, h1, h2, _⟩ := hsp p e hp
    exact ⟨o, h1, h2⟩
  -- all is done
  have done : ∀ (listed : Array Bool) (G : Gh) (a : Act) (w : World), Mid4 C full all es ib st k listed G a w → Region.ready .any full.toArray listed = [] → Q .normal a w := by
    intro listed G a w hm hr
    have hall : ∀ i, i < full.length → listed.getD i true = true := by
      intro i
      induction i using Nat.strongRecOn with
      | _ i ih =>
        intro hi
        by_cases hu : listed.getD i true = true
        · exact hu
        · exfalso
          have : i ∈ Region.ready .any full.toArray listed := by
            rw [mem_ready]
            refine ⟨by simpa using hu, full[i], by rw [List.getElem?_toArray, List.getElem?_eq_getElem hi], fun e he heb => ?_⟩
            have hlt := D4.back i full[i] (List.getElem?_eq_getElem hi) e he heb
            rw [not_listed hm.lsz (by omega)]
            exact ih e.on hlt (by omega)
          rw [hr] at this
          cases this
    have hal : ∀ i, i < full.length → listed.getD i false = true := fun i hi => by rw [not_listed hm.lsz hi]; exact hall i hi
    obtain ⟨n, eb, bx, rw', t1, t2, t3, t4, t5, t6, t7, t8⟩ := hm.tree
    have hn : n = ib.length := by
      rcases Nat.lt_or_eq_of_le t2 with h | h
      · exfalso
        have h1 := (t1 n ib[n] (List.getElem?_eq_getElem h)).1 (hal _ (D4.apart _ (List.getElem_mem h)).1)
        omega
      · exact h
    rw [hn, List.drop_length, List.filterMap_nil] at t8
    refine hQ G a w ⟨st.nt, st.nb, eb ++ (slA es ++ st.sl), bx, rw', st.ys⟩ ⟨hm.size, hm.callers, hm.frame', hm.le, hm.fresh, hm.ownB, hm.ownR, hm.env, t5, fun t c x hl => ?_⟩ t8
    simp only [ASt.look, lookN_append] at hl
    cases h1 : lookN t eb with
    | some y => rw [h1] at hl; cases hl; exact (t6 t _ h1).1
    | none =>
      rw [h1] at hl
      cases h2 : lookN t (slA es) with
      | some y =>
        rw [h2] at hl
        cases hl
        obtain ⟨e, he, h3⟩ := slA_look h2
        obtain ⟨o, ho, _⟩ := hops e he
        have := hm.new e he (hal _ (List.getElem?_eq_some_iff.1 ho).1)
        rw [h3] at this
        exact this
      | none =>
        rw [h2] at hl
        refine hm.old t (c, x) (fun i o ho hdt => ?_) hl
        exfalso
        have hil := (List.getElem?_eq_some_iff.1 ho).1
        rcases D4.cover i hil with h3 | h3
        · obtain ⟨e, he, rfl⟩ := hai i h3
          obtain ⟨o', ho', hd'⟩ := hops e he
          rw [ho] at ho'; cases ho'
          rw [hdt] at hd'
          cases hd'
          exact slA_has he h2
        · exact t7 i o t h3 (hal i hil) ho hdt h1
  intro fuel
  induction fuel with
  | zero =>
    intro listed G a w hcnt hm
    have hr : Region.ready .any full.toArray listed = [] := by
      rw [List.eq_nil_iff_forall_not_mem]
      intro i hi
      obtain ⟨h1, o, h2, _⟩ := mem_ready.1 hi
      have hil : i < full.length := by simpa using (Array.getElem?_eq_some_iff.1 h2).1
      have h3 : 0 < (List.range full.length).countP (fun k => !listed.getD k true) := by
        rw [List.countP_pos_iff]
        exact ⟨i, List.mem_range.2 hil, by simpa using h1⟩
      omega
    exact ⟨hr, done listed G a w hm hr⟩
  | succ fuel ih =>
    intro listed G a w hcnt hm
    refine ⟨done listed G a w hm, fun i hi => ?_⟩
    obtain ⟨h1, o, h2, h3⟩ := mem_ready.1 hi
    have ho : full[i]? = some o := by simpa using h2
    have hil : i < full.length := (List.getElem?_eq_some_iff.1 ho).1
    have hil' : i < listed.size := by rw [hm.lsz]; exact hil
    have hun : listed.getD i false = false := by rw [not_listed hm.lsz hil]; exact h1
    have hcnt' : (List.range full.length).countP (fun k => !(listed.setIfInBounds i true).getD k true) ≤ fuel := by
      have := countP_lt (p := fun k => !listed.getD k true) (q := fun k => !(listed.setIfInBounds i true).getD k true) (k := i) (l := List.range full.length)
        (fun k _ hk => by
          by_cases hik : i = k
          · subst hik; rw [getD_set_self hil'] at hk; simp at hk
          · rwa [getD_set_other hik] at hk) (List.mem_range.2 hil) (by simp [h1]) (by show (!_) = false; rw [getD_set_self hil']; rfl)
      omega
    have clo' : ∀ (j : Nat) (o' : Oper), full[j]? = some o' → (listed.setIfInBounds i true).getD j true = true → ∀ e ∈ o'.after, Region.binds .any e = true → (listed.setIfInBounds i true).getD e.on false = true := by
      intro j o' ho' hl e he heb
      have hup : listed.getD e.on false = true → (listed.setIfInBounds i true).getD e.on false = true := fun h => by
        by_cases hie : i = e.on
        · rw [← hie, getD_set_self hil']
        · rw [getD_set_other hie]; exact h
      by_cases hij : i = j
      · subst hij
        rw [ho] at ho'
        cases ho'
        exact hup (h3 e he heb)
      · rw [getD_set_other hij] at hl
        exact hup (hm.clo j o' ho' hl e he heb)
    obtain ⟨n, eb, bx, rw', t1, t2, t3, t4, t5, t6, t7, t8⟩ := hm.tree
    have waitL : ∀ j, waitsFor o j = true → listed.getD j false = true := fun j h => by
      obtain ⟨e, he, h4, h5⟩ := waitsFor_sound h
      rw [← h4]; exact h3 e he h5
    have waitU : ∀ (j : Nat) (o' : Oper), full[j]? = some o' → waitsFor o' i = true → listed.getD j false = false := fun j o' ho' h => by
      cases hc : listed.getD j false with
      | false => rfl
      | true =>
        exfalso
        obtain ⟨e, he, h4, h5⟩ := waitsFor_sound h
        have hjl : j < full.length := (List.getElem?_eq_some_iff.1 ho').1
        have h6 := hm.clo j o' ho' (by rw [← not_listed hm.lsz hjl]; exact hc) e he h5
        rw [h4, hun] at h6
        cases h6
    have dlt : ∀ d, o.dst = some d → d < a.tmps.size := fun d hd => by
      have := hm.fits
      simp only [dstsFit, List.all_eq_true] at this
      have := this o (List.mem_of_getElem? ho)
      rw [hd] at this
      simpa using this
    unfold wpOpIn
    simp only [List.getElem?_toArray, ho]
    by_cases hib : i ∈ ib
    · -- one of the chain
      obtain ⟨p, hp⟩ := List.getElem?_of_mem hib
      have hpn : p = n := by
        have h4 : ¬ p < n := fun h => by rw [(t1 p i hp).2 h] at hun; cases hun
        rcases Nat.lt_or_eq_of_le (Nat.le_of_not_lt h4) with h5 | h5
        · exfalso
          obtain ⟨q, rfl⟩ : ∃ q, p = q + 1 := ⟨p - 1, by omega⟩
          have hql : q < ib.length := by have := (List.getElem?_eq_some_iff.1 hp).1; omega
          have h6 := chainOk_step D4.chain (List.getElem?_eq_getElem hql) hp
          simp only [waitsAt, ho] at h6
          have := (t1 q _ (List.getElem?_eq_getElem hql)).1 (waitL _ h6)
          omega
        · exact h5.symm
      subst hpn
      have hpl : p < ib.length := (List.getElem?_eq_some_iff.1 hp).1
      have hpe : ib[p] = i := (List.getElem?_eq_some_iff.1 hp).2
      rw [List.drop_eq_getElem_cons hpl, hpe, List.filterMap_cons_some ho] at t8
      obtain ⟨t64, t8⟩ := t8
      obtain ⟨D, hD⟩ := hm.env
      have hlenB := t5.lenB
      have hlenR := t5.lenR
      have hbl : G.bx.length < 64 := by have h64 : bx.length < 64 := t64; omega
      have t8 := t8 (G.bx.length + 64 * G.rw.length)
      let C' : Ctx P := { round := C.round, l := C.l, D := D, W := C.W, I0 := C.I0, G0 := G, w0 := w, base := fun b o h => hm.le.imm b o (C.base b o h), stable := C.stable, y := C.y, tabs := C.tabs }
      have hs : Sat C' G { a with defers := [] } w ⟨st.nt, G.bx.length + 64 * G.rw.length, restr (o.looksAt full.toArray) (eb ++ (slA es ++ st.sl)), bx, rw', st.ys⟩ := by
        refine ⟨hm.size, ⟨?_, ?_⟩, Outside.refl _ _, Gh.Le.refl _ _, fun b o h => .inl h, fun b h => .inl h, fun x hx g hg => .inl ⟨x, hx, hg⟩, ⟨D, ⟨hD.l, hD.cons, fun k h => .inl h, hD.lt, hD.bx, hD.rw, hD.imm, ⟨[], rfl, List.nodup_nil, fun m h => by cases h⟩, hD.record⟩⟩, t5, fun t c x hl => ?_⟩
        · show G.bx.length = (G.bx.length + 64 * G.rw.length) % 64
          omega
        · show G.rw.length = (G.bx.length + 64 * G.rw.length) / 64
          omega
        · simp only [ASt.look] at hl
          rw [lookN_restr] at hl
          cases hc : (o.looksAt full.toArray).contains t with
          | false => rw [hc] at hl; cases hl
          | true =>
            rw [hc] at hl
            simp only [cond_true, lookN_append] at hl
            have hlk : t ∈ o.looksAt full.toArray := by simpa using hc
            have hB := D4.looksB i o t ho hib hlk
            cases g1 : lookN t eb with
            | some y => rw [g1] at hl; cases hl; exact (t6 t _ g1).1
            | none =>
              rw [g1] at hl
              cases g2 : lookN t (slA es) with
              | some y =>
                rw [g2] at hl
                cases hl
                obtain ⟨e, he, g3⟩ := slA_look g2
                obtain ⟨o', ho', hd'⟩ := hops e he
                rw [g3] at hd'
                have := hm.new e he (waitL _ (hB _ _ ho' hd'))
                rw [g3] at this
                exact this
              | none =>
                rw [g2] at hl
                refine hm.old t (c, x) (fun j o' ho' hdt => ?_) hl
                exfalso
                have hjl := (List.getElem?_eq_some_iff.1 ho').1
                have hlj := waitL j (hB j o' ho' hdt)
                rcases D4.cover j hjl with g3 | g3
                · obtain ⟨e, he, rfl⟩ := hai j g3
                  obtain ⟨o2, ho2, hd2⟩ := hops e he
                  rw [ho'] at ho2; cases ho2
                  rw [hdt] at hd2
                  cases hd2
                  exact slA_has he g2
                · exact t7 j o' t g3 hlj ho' hdt g1
      have h4 := t8 C' G _ w (fun e a' w' => e = .normal ∧ ∃ G' st', Sat C' G' a' w' st' ∧ ∃ ent bx' rw'', st' = ⟨st.nt, G.bx.length + 64 * G.rw.length, dl o.dst ent ++ restr (o.looksAt full.toArray) (eb ++ (slA es ++ st.sl)), bx', rw'', st.ys⟩ ∧ KeepB all st.bx bx' ∧ (hrm o = true → rw'' = rw' ∧ ∃ ext, bx' = bx ++ ext) ∧
          runB P full.toArray all st.bx ((ib.drop (p + 1)).filterMap (full[·]?)) k ⟨st.nt, st.nb, dl o.dst ent ++ (eb ++ (slA es ++ st.sl)), bx', rw'', st.ys⟩) hs (fun G' a' w' st' hs' hk => ⟨rfl, G', st', hs', hk⟩)
      -- what is so behind it
      have next : ∀ (v : Value) (pre : List Deferred) (w' : World) (G' : Gh) (st' : ASt), Sat C' G' (({ a with defers := pre ++ [] } : Act).put o.dst v) w' st' → (∃ ent bx' rw'', st' = ⟨st.nt, G.bx.length + 64 * G.rw.length, dl o.dst ent ++ restr (o.looksAt full.toArray) (eb ++ (slA es ++ st.sl)), bx', rw'', st.ys⟩ ∧ KeepB all st.bx bx' ∧ (hrm o = true → rw'' = rw' ∧ ∃ ext, bx' = bx ++ ext) ∧
          runB P full.toArray all st.bx ((ib.drop (p + 1)).filterMap (full[·]?)) k ⟨st.nt, st.nb, dl o.dst ent ++ (eb ++ (slA es ++ st.sl)), bx', rw'', st.ys⟩) →
          wpAnyIn (fen C.round) 0 P .any full.toArray Q fuel (listed.setIfInBounds i true) (({ a with defers := pre ++ a.defers } : Act).put o.dst v) w' := by
        rintro v pre w' G' st' hs' ⟨ent, bx', rw'', rfl, k1, k2, k3⟩
        have le : G.Le w G' w' := hs'.le
        have hfr : Outside C'.may w w' := hs'.frame
        have putOther : ∀ t, o.dst ≠ some t → (({ a with defers := pre ++ a.defers } : Act).put o.dst v).tmps[t]? = a.tmps[t]? := fun t ht => by
          cases hdo : o.dst with
          | none => rfl
          | some d => rw [Act.put_get, if_neg (fun e => ht (by rw [hdo, e]))]
        have hslot : ∀ d, o.dst = some d → SlotIs G' w' (({ a with defers := pre ++ a.defers } : Act).put o.dst v) d ent := fun d hdo => by
          obtain ⟨u, u1, u2⟩ := hs'.slot d ent.1 ent.2 (by simp only [ASt.look, lookN_append, hdo, dl, lookN_cons]; rfl)
          refine ⟨u, ?_, u2⟩
          rw [← u1, hdo]
          rfl
        have hsizep : (({ a with defers := pre ++ a.defers } : Act).put o.dst v).tmps.size = a.tmps.size := by cases o.dst <;> simp [Act.put]
        have hle' : ∀ j, j ≠ i → (listed.setIfInBounds i true).getD j false = listed.getD j false := fun j h => getD_set_other (fun e => h e.symm)
        refine ih _ G' _ w' hcnt' ⟨⟨hfr.os.trans hm.frame'.os, hfr.tape.trans hm.frame'.tape, hfr.output.trans hm.frame'.output, Nat.le_trans hm.frame'.size hfr.size, fun q hq hn => ?_⟩, hm.le.trans le, fun b o' ib' => ?_, fun b hb => ?_, fun x hx g hg => ?_, by rw [hsizep]; exact hm.fits, by rw [hsizep]; exact hm.size, hm.callers, by simpa using hm.lsz, clo', fun t e ht hl => ?_, fun e he hl => ?_, ?_,
          ⟨p + 1, dl o.dst ent ++ eb, bx', rw'', fun q j hq => ?_, by omega, k1, fun hh => ?_, hs'.mem, fun t e hl => ?_, fun j o' t hj hlj ho' hdt => ?_, by rw [List.append_assoc]; exact k3⟩⟩
        · refine (hfr.block q (Nat.lt_of_lt_of_le hq hm.frame'.size) (fun hmay => ?_)).trans (hm.frame'.block q hq hn)
          rcases hmay with h | h | ⟨x, hx, h⟩
          · rcases hD.sub q h with h | h
            · exact hn (.inl h)
            · omega
          · rcases hm.ownB q h with h | h
            · exact hn (.inr (.inl h))
            · omega
          · rcases hm.ownR x hx q h with ⟨y, h5, h6⟩ | h
            · exact hn (.inr (.inr ⟨y, h5, h6⟩))
            · omega
        · rcases hs'.fresh b o' ib' with h | h | ⟨x, h5, h6⟩
          · exact hm.fresh b o' h
          · exact .inr (.inl (Nat.le_trans hm.frame'.size h))
          · rcases hm.ownR x h5 b h6 with ⟨y, h7, h8⟩ | h
            · exact .inr (.inr ⟨y, h7, h8⟩)
            · exact .inr (.inl h)
        · rcases hs'.ownB b hb with h | h
          · exact hm.ownB b h
          · exact .inr (Nat.le_trans hm.frame'.size h)
        · rcases hs'.ownR x hx g hg with ⟨y, h5, h6⟩ | h
          · exact hm.ownR y h5 g h6
          · exact .inr (Nat.le_trans hm.frame'.size h)
        · have hne : o.dst ≠ some t := fun h => by
            have := ht i o ho h
            rw [getD_set_self hil'] at this; cases this
          refine (hm.old t e (fun j o' ho' hdt => ?_) hl).mono le (putOther t hne)
          have h5 := ht j o' ho' hdt
          by_cases hij : j = i
          · subst hij; rw [ho] at ho'; cases ho'; exact absurd hdt hne
          · rwa [hle' j hij] at h5
        · have hei : e.1 ≠ i := fun h => (D4.apart i hib).2 _ (hia e he) h
          rw [hle' _ hei] at hl
          obtain ⟨o', ho', hd'⟩ := hops e he
          exact (hm.new e he hl).mono le (putOther _ fun h => hei (D4.dst _ _ _ _ _ ho' ho hd' h))
        · obtain ⟨D', hD'⟩ := hs'.env
          obtain ⟨l, g1, g2, g3⟩ := hD.marks
          obtain ⟨l', g1', g2', g3'⟩ := hD'.marks
          have g1' : pre = l'.map mark := by
            have : (({ a with defers := pre ++ [] } : Act).put o.dst v).defers = pre := by cases o.dst <;> simp [Act.put]
            rw [this] at g1'; exact g1'
          refine ⟨D', ⟨hD'.l, hD'.cons, fun q hq => ?_, hD'.lt, hD'.bx, hD'.rw, hD'.imm, ⟨l' ++ l, ?_, ?_, fun m hml => ?_⟩, hD'.record⟩⟩
          · rcases hD'.sub q hq with h | h
            · exact hD.sub q h
            · exact .inr (Nat.le_trans hm.frame'.size h)
          · have : (({ a with defers := pre ++ a.defers } : Act).put o.dst v).defers = pre ++ a.defers := by cases o.dst <;> rfl
            rw [this, List.map_append, g1', g1]
          · rw [List.nodup_append]
            refine ⟨g2', g2, fun x hx y hy e => ?_⟩
            subst e
            have h5 := (g3' x hx).2.2
            have h6 := (Array.getElem?_eq_some_iff.1 (g3 x hy).1).1
            have h5 : w.heap.size ≤ x := h5
            omega
          · rcases List.mem_append.1 hml with h | h
            · obtain ⟨h5, h6, h7⟩ := g3' m h
              exact ⟨h5, h6, Nat.le_trans hm.frame'.size h7⟩
            · obtain ⟨h5, h6, h7⟩ := g3 m h
              have hml : m < w.heap.size := (Array.getElem?_eq_some_iff.1 h5).1
              refine ⟨?_, fun hd' => ?_, h7⟩
              · rw [hfr.block m hml fun hmay => ?_]; exact h5
                rcases hmay with h | h | ⟨x, hx, h⟩
                · exact h6 h
                · exact t5.not_box h5 rfl h
                · exact t5.not_row h5 rfl x hx h
              · rcases hD'.sub m hd' with h | h
                · exact h6 h
                · have h : w.heap.size ≤ m := h
                  omega
        · by_cases hji : j = i
          · subst hji
            rw [getD_set_self hil']
            have : q = p := by
              rcases Nat.lt_trichotomy q p with h | h | h
              · have := (t1 q j hq).2 h; rw [hun] at this; cases this
              · exact h
              · exfalso
                -- a chain names nothing twice
                have hql : q < ib.length := (List.getElem?_eq_some_iff.1 hq).1
                have hstep : ∀ m, p < m → m < ib.length → ∀ x, ib[m]? = some x → j < x := by
                  intro m
                  induction m with
                  | zero => intro h; omega
                  | succ m ihm =>
                    intro hpm hml x hx
                    have hw := chainOk_step D4.chain (List.getElem?_eq_getElem (show m < ib.length by omega)) hx
                    unfold waitsAt at hw
                    split at hw
                    · rename_i ox hox
                      obtain ⟨e, he, h8, h9⟩ := waitsFor_sound hw
                      have hb := D4.back x ox hox e he h9
                      rcases Nat.lt_or_eq_of_le (show p ≤ m by omega) with h10 | rfl
                      · have := ihm h10 (by omega) _ (List.getElem?_eq_getElem (show m < ib.length by omega)); omega
                      · rw [hpe] at h8; omega
                    · cases hw
                have := hstep q h hql j hq
                omega
            simp [this]
          · rw [hle' j hji, t1 q j hq]
            constructor
            · intro h; omega
            · intro h
              rcases Nat.lt_or_eq_of_le (Nat.le_of_lt_succ h) with h | h
              · exact h
              · subst h; rw [hp] at hq; cases hq; exact absurd rfl hji
        · have h5 := t4 fun q b hq hb => hh q b (by omega) hb
          have h6 := hh p i (by omega) hp
          simp only [hrmAt, ho] at h6
          obtain ⟨h7, ext, h8⟩ := k2 h6
          obtain ⟨h9, ext', h10⟩ := h5
          exact ⟨h7.trans h9, ext' ++ ext, by rw [h8, h10, List.append_assoc]⟩
        · rw [lookN_append] at hl
          cases g1 : lookN t (dl o.dst ent) with
          | some y =>
            rw [g1] at hl
            cases hl
            obtain ⟨g2, g3⟩ := dl_look g1
            subst g3
            exact ⟨hslot t g2, i, o, hib, ho, g2⟩
          | none =>
            rw [g1] at hl
            obtain ⟨g2, j, o', g3, g4, g5⟩ := t6 t e hl
            by_cases hdt : o.dst = some t
            · rw [hdt] at g1; simp [dl, lookN_cons] at g1
            · exact ⟨g2.mono le (putOther t hdt), j, o', g3, g4, g5⟩
        · rw [lookN_append]
          by_cases hji : j = i
          · subst hji
            rw [ho] at ho'
            cases ho'
            rw [hdt]
            simp [dl, lookN_cons]
          · rw [hle' j hji] at hlj
            have := t7 j o' t hj hlj ho' hdt
            cases lookN t (dl o.dst ent) with
            | some y => simp
            | none => exact this
      unfold wpListIn at h4
      have hw : Region.wanted o (yielded full.toArray ({ a with defers := [] } : Act).tmps) = Region.wanted o (yielded full.toArray a.tmps) := rfl
      rw [hw] at h4
      split
      · rename_i hwt
        rw [if_pos hwt] at h4
        refine Oper.wpIn_mono ?_ (wpIn_same (hplain o (List.mem_of_getElem? ho)) [] (fun e a' w' h => h.1) h4)
        rintro a' w' ⟨v, pre, rfl, h5⟩
        unfold wpListIn at h5
        obtain ⟨_, G', st', hs', hk⟩ := h5
        exact next v pre w' G' st' hs' hk
      · rename_i hwt
        rw [if_neg hwt] at h4
        refine ⟨h4.1, ?_⟩
        have h5 := h4.2
        unfold wpListIn at h5
        obtain ⟨_, G', st', hs', hk⟩ := h5
        exact next undef [] w G' st' hs' hk
    · -- one that only computes
      obtain ⟨e, he, rfl⟩ := hai i ((D4.cover i hil).resolve_right hib)
      obtain ⟨p, hp⟩ := List.getElem?_of_mem he
      obtain ⟨o', ho', hdo, hstep⟩ := hsp p e hp
      rw [ho] at ho'
      cases ho'
      have hspec : OpSpec P full.toArray o ⟨st.nt, st.nb, slA (es.take p) ++ st.sl, bx, rw', st.ys⟩ e.2.2.2.1 e.2.2.2.2 := by
        cases hk : e.2.1 with
        | any =>
          rw [hk] at hstep
          obtain ⟨ext, h4⟩ := t3
          have := hstep ext rw'
          rw [← h4] at this
          exact this
        | first =>
          rw [hk] at hstep
          have hf := D4.first _ (hia e he) (by rw [hk]; rfl)
          have hh := firstOk_hrm (listed := fun b => listed.getD b false = true) (fun b hb => by
            unfold waitsAt at hb
            split at hb
            · rename_i ob hob
              rw [waitU b ob hob hb]; simp
            · cases hb) (n := n) hf (fun q b hq hb => (t1 q b hb).2 hq)
          obtain ⟨rfl, ext, h4⟩ := t4 hh
          have := hstep ext
          rw [← h4] at this
          exact this
      have hlk : ∀ t ∈ o.looksAt full.toArray, SlotOk G w a ⟨st.nt, st.nb, slA (es.take p) ++ st.sl, bx, rw', st.ys⟩ t := by
        intro t ht c x hl
        have hA := D4.looksA e.1 o t ho hib ht
        simp only [ASt.look, lookN_append] at hl
        cases g1 : lookN t (slA (es.take p)) with
        | some y =>
          rw [g1] at hl
          cases hl
          obtain ⟨e', he', g3⟩ := slA_look g1
          obtain ⟨q, hq⟩ := List.getElem?_of_mem he'
          rw [List.getElem?_take] at hq
          split at hq
          · rename_i hqp
            obtain ⟨o2, ho2, hd2, _⟩ := hsp q e' hq
            rw [g3] at hd2
            rcases hA _ _ ho2 hd2 with ⟨_, _, h6⟩ | ⟨h6, _⟩
            · have := hm.new e' (List.mem_of_mem_take he') (waitL _ h6)
              rw [g3] at this
              exact this
            · have := hrise q p e' e hq hp hqp
              omega
          · cases hq
        | none =>
          rw [g1] at hl
          refine hm.old t (c, x) (fun j o2 ho2 hdt => ?_) hl
          rcases hA j o2 ho2 hdt with ⟨h5, h6, h7⟩ | ⟨_, h7⟩
          · exfalso
            obtain ⟨e', he', rfl⟩ := hai j h5
            obtain ⟨o3, ho3, hd3⟩ := hops e' he'
            rw [ho2] at ho3
            cases ho3
            rw [hdt] at hd3
            cases hd3
            obtain ⟨q, hq⟩ := List.getElem?_of_mem he'
            have hqp : q < p := by
              rcases Nat.lt_trichotomy q p with h | h | h
              · exact h
              · subst h; rw [hp] at hq; cases hq; omega
              · have := hrise p q e e' hp hq h; omega
            exact slA_has (es := es.take p) (e := e') (List.mem_of_getElem? (i := q) (by rw [List.getElem?_take, if_pos hqp]; exact hq)) g1
          · exact waitU j o2 ho2 h7
      have hd := dlt _ hdo
      have hle' : ∀ j, j ≠ e.1 → (listed.setIfInBounds e.1 true).getD j false = listed.getD j false := fun j h => getD_set_other (fun e => h e.symm)
      have next : ∀ v G' w', Ext bx rw' G w G' w' → ((e.2.2.2.1 = true → e.2.2.2.2.rel G' w' v) ∧ (e.2.2.2.1 = false → v = undef)) → wpAnyIn (fen C.round) 0 P .any full.toArray Q fuel (listed.setIfInBounds e.1 true) (a.put (some e.2.2.1) v) w' := by
        intro v G' w' E hv
        have le := E.le
        have putOther : ∀ t, t ≠ e.2.2.1 → (a.put (some e.2.2.1) v).tmps[t]? = a.tmps[t]? := fun t h => by rw [Act.put_get, if_neg (fun e => h e.symm)]
        have putSelf : (a.put (some e.2.2.1) v).tmps[e.2.2.1]? = some v := by rw [Act.put_get]; simp [Array.getElem?_eq_getElem hd]
        have hsizep : (a.put (some e.2.2.1) v).tmps.size = a.tmps.size := by simp [Act.put]
        have hob : Outside (fun _ => False) w w' := .of_below E.below
        refine ih _ G' _ w' hcnt' ⟨⟨hob.os.trans hm.frame'.os, hob.tape.trans hm.frame'.tape, hob.output.trans hm.frame'.output, Nat.le_trans hm.frame'.size hob.size, fun q hq hn => (hob.block q (Nat.lt_of_lt_of_le hq hm.frame'.size) id).trans (hm.frame'.block q hq hn)⟩, hm.le.trans le, fun b o' ib' => ?_, by rw [E.gbx]; exact hm.ownB, by rw [E.grw]; exact hm.ownR, by rw [hsizep]; exact hm.fits, by rw [hsizep]; exact hm.size, hm.callers, by simpa using hm.lsz, clo', fun t e' ht hl => ?_, fun e' he' hl => ?_, ?_,
          ⟨n, eb, bx, rw', fun q j hq => ?_, t2, t3, t4, E.mem, fun t e' hl => ?_, fun j o' t hj hlj ho' hdt => ?_, t8⟩⟩
        · rcases E.fresh b o' ib' with h | h
          · exact hm.fresh b o' h
          · exact .inr (.inl (Nat.le_trans hm.frame'.size h))
        · have hne : t ≠ e.2.2.1 := fun h => by
            subst h
            have := ht e.1 o ho hdo
            rw [getD_set_self hil'] at this; cases this
          refine (hm.old t e' (fun j o' ho' hdt => ?_) hl).mono le (putOther t hne)
          have h5 := ht j o' ho' hdt
          by_cases hij : j = e.1
          · subst hij; rw [ho] at ho'; cases ho'; rw [hdo] at hdt; cases hdt; exact absurd rfl hne
          · rwa [hle' j hij] at h5
        · obtain ⟨q, hq⟩ := List.getElem?_of_mem he'
          by_cases hei : e'.1 = e.1
          · have := huniq q p e' e hq hp hei
            subst this
            rw [hp] at hq
            cases hq
            exact ⟨v, putSelf, hv⟩
          · rw [hle' _ hei] at hl
            obtain ⟨o', ho', hd'⟩ := hops e' he'
            exact (hm.new e' he' hl).mono le (putOther _ fun h => hei (D4.dst _ _ _ _ _ ho' ho hd' (h ▸ hdo)))
        · obtain ⟨D, hD⟩ := hm.env
          exact ⟨D, hD.step t5 le (fun b o' h => (E.fresh b o' h).elim .inl fun h => .inr (.inl h)) (fun b hb => .inl (by rw [E.gbx] at hb; exact hb)) (fun x hx g hg => .inl ⟨x, by rw [E.grw] at hx; exact hx, hg⟩) (hob.mono fun _ _ h => h.elim)⟩
        · rw [hle' j fun h => (D4.apart j (List.mem_of_getElem? hq)).2 _ (hia e he) h.symm]
          exact t1 q j hq
        · obtain ⟨g2, j, o', g3, g4, g5⟩ := t6 t e' hl
          refine ⟨g2.mono le (putOther t fun h => ?_), j, o', g3, g4, g5⟩
          have := D4.dst _ _ _ _ _ g4 ho g5 (h ▸ hdo)
          exact hib (this ▸ g3)
        · rw [hle' j fun h => hib (h ▸ hj)] at hlj
          exact t7 j o' t hj hlj ho' hdt
      obtain ⟨s1, s2⟩ := hspec G a w (TokM_tabs (X := fun _ => True) (let ⟨D, h⟩ := hm.env; ⟨D, h, trivial⟩)) t5 hlk
      rw [s1]
      cases hg : e.2.2.2.1
      · simp only [Bool.false_eq_true, if_false]
        rw [hdo]
        exact ⟨fun _ _ => trivial, next undef G w (Ext.refl t5) ⟨fun h => (by rw [hg] at h; cases h), fun _ => rfl⟩⟩
      · simp only [if_true]
        refine s2 hg _ _ _ fun v G' w' E hv => ?_
        rw [hdo]
        exact next v G' w' E ⟨fun _ => hv, fun h => by rw [hg] at h; cases h⟩
end Go.Proofs.YtihnjbnlbedpaaaGreatDoor
/- The abstract logic: the walk through a region that draws its order, by XAlB. -/
namespace Go.Proofs.YtihnjbnlbedpaaaGreatDoor
set_option linter.unusedVariables false
set_option linter.unusedSimpArgs false
set_option maxHeartbeats 4000000
set_option maxRecDepth 100000
open Go.RowKit

def inN (t : Nat) : List Nat → Bool
  | [] => false
  | a :: L => if t = a then true else inN t L
theorem inN_eq (t : Nat) : ∀ L : List Nat, L.contains t = inN t L
  | [] => rfl
  | a :: L => by
    rw [List.contains_cons, inN_eq t L, inN]
    by_cases h : t = a
    · simp [h]
    · simp [h]
@[go_sem] theorem lookN_restr' (t : Nat) (L : List Nat) (sl : List (Nat × (Bool × AV))) : lookN t (restr L sl) = if inN t L = true then lookN t sl else none := by
  rw [lookN_restr, inN_eq]
  cases inN t L <;> rfl
@[go_sem] theorem mskB_f (bx ext : List (List AV)) : mskB false bx ext = bx ++ ext := rfl
@[go_sem] theorem mskB_t (bx ext : List (List AV)) : mskB true bx ext = ext := rfl
theorem inN_nil (t : Nat) : inN t [] = false := rfl
theorem inN_cons (t a : Nat) (L : List Nat) : inN t (a :: L) = if t = a then true else inN t L := rfl
attribute [go_sem] inN_nil inN_cons
/-- What an operation looks at, to be evaluated. -/
def tmpsL : List Operand → List Nat
  | [] => []
  | x :: r => match x with
    | .tmp t => t :: tmpsL r
    | _ => tmpsL r
def grdL (full : Array Oper) : Option (Nat × Bool) → List Nat
  | none => []
  | some (j, _) => match (full[j]?).bind (·.dst) with
    | some d => [d]
    | none => []
theorem looksAt_eq (full : Array Oper) (o : Oper) : o.looksAt full = tmpsL o.op.operands.toList ++ grdL full o.guard := by
  unfold Oper.looksAt
  congr 1
  · generalize o.op.operands.toList = l
    induction l with
    | nil => rfl
    | cons x r ih => cases x <;> simp [tmpsL, ih]
  · cases o.guard with
    | none => rfl
    | some g =>
      obtain ⟨j, b⟩ := g
      simp only [grdL]
      cases (full[j]?).bind (·.dst) <;> rfl
theorem tmpsL_nil : tmpsL [] = [] := rfl
theorem tmpsL_tmp (t : Nat) (r : List Operand) : tmpsL (.tmp t :: r) = t :: tmpsL r := rfl
theorem tmpsL_const (v : Value) (r : List Operand) : tmpsL (.const v :: r) = tmpsL r := rfl
theorem tmpsL_func (f : FuncId) (r : List Operand) : tmpsL (.func f :: r) = tmpsL r := rfl
theorem tmpsL_global (g : Nat) (r : List Operand) : tmpsL (.global g :: r) = tmpsL r := rfl
theorem grdL_none (full : Array Oper) : grdL full none = [] := rfl
theorem grdL_some (full : Array Oper) (j : Nat) (b : Bool) : grdL full (some (j, b)) = (match (full[j]?).bind (·.dst) with | some d => [d] | none => []) := rfl
theorem tl_app {α : Type} (a b : Array α) : (a ++ b).toList = a.toList ++ b.toList := by simp
theorem tl_mk {α : Type} (l : List α) : l.toArray.toList = l := by simp
theorem tl_nil {α : Type} : (#[] : Array α).toList = [] := rfl
attribute [go_sem] tl_app tl_mk tl_nil List.nil_append List.cons_append looksAt_eq tmpsL_nil tmpsL_tmp tmpsL_const tmpsL_func tmpsL_global grdL_none grdL_some Op.operands Call.operands
/-- As evl, where what is to be shown names no variables and rows. -/
theorem evlA {α : Type} {a b : α} (h : a = b := by first | ((conv => lhs; simp only [go_sem, AV.oneL, AV.one, Value.oneCell', cellsA, ↓reduceIte, Nat.reduceEqDiff, Nat.reduceAdd, Nat.reduceMul]) <;> rfl) | fail) : a = b := h
/-- Whether an operation looks at what none of some others makes. -/
def lookFree (full : List Oper) (ib : List Nat) (o : Oper) : Bool := (o.looksAt full.toArray).all fun t => ib.all fun j => match full[j]? with
  | some o' => o'.dst != some t
  | none => true
def isStore (o : Oper) : Bool := match o.op with
  | .store _ _ _ => true
  | .call c => match c.callee with
    | .builtin .copy => true
    | .builtin .append => true
    | _ => false
  | _ => false
def hasStore (l : List Oper) : Bool := l.any isStore
def pickOps (full : List Oper) : List Nat → List Oper
  | [] => []
  | i :: r => match full[i]? with
    | some o => o :: pickOps full r
    | none => pickOps full r
theorem pickOps_eq (full : List Oper) : ∀ ib, ib.filterMap (full[·]?) = pickOps full ib
  | [] => rfl
  | i :: r => by
    rw [List.filterMap_cons, pickOps, pickOps_eq full r]
    cases full[i]? <;> rfl
/-- The walk: what only computes, in the order of the text; the others are put by. -/
def runA (P : Program) (full : List Oper) (all : Bool) (m : Nat) (ia : List (Nat × AK)) (es : List AEn) (ib : List Nat) (l : List Oper) (k : ASt → Prop) (sl0 : List (Nat × (Bool × AV))) (st : ASt) : Prop :=
  full.drop m = l → st.sl = slA es ++ sl0 → ia = iaOf es → ∃ (es' : List AEn) (ib' : List Nat),
    (∀ (p : Nat) (e : AEn), es'[p]? = some e → ∃ o, full[e.1]? = some o ∧ o.dst = some e.2.2.1 ∧ AStep P full.toArray all st o (slA (es'.take p) ++ st.sl) e.2.2.2.1 e.2.2.2.2 e.2.1) ∧
    depOk4 full (iaOf (es ++ es')) (ib ++ ib') = true ∧ runB P full.toArray all st.bx ((ib ++ ib').filterMap (full[·]?)) k { st with sl := slA es' ++ st.sl }
/-- What stands at the end of an operation of the chain. -/
def KB (P : Program) (full : Array Oper) (all : Bool) (bx0 : List (List AV)) (o : Oper) (r : List Oper) (k : ASt → Prop) (nt nb0 nb : Nat) (L : List Nat) (sl : List (Nat × (Bool × AV))) (bx : List (List AV)) (rw : List ARow) (ys : (Nat × List (List AV)) × List (List AV) × Bool) (st' : ASt) : Prop :=
  ∃ ent bx' rw', st' = ⟨nt, nb, dl o.dst ent ++ restr L sl, bx', rw', ys⟩ ∧ KeepB all bx0 bx' ∧ (hrm o = true → rw' = rw ∧ ∃ ext, bx' = bx ++ ext) ∧ runB P full all bx0 r k ⟨nt, nb0, dl o.dst ent ++ sl, bx', rw', ys⟩
section
variable {P : Program} {Q : Exit → ASt → Prop} {T : TT} {full : List Oper} {all : Bool} {m : Nat} {ia : List (Nat × AK)} {es : List AEn} {ib : List Nat} {r : List Oper} {k : ASt → Prop} {nt nb : Nat} {sl sl0 : List (Nat × (Bool × AV))} {bx bx0 : List (List AV)} {rw : List ARow} {ys : (Nat × List (List AV)) × List (List AV) × Bool} {o : Oper} {d : Nat}
theorem slA_append (a b : List AEn) : slA (a ++ b) = slA b ++ slA a := by simp [slA]
theorem iaOf_append (a b : List AEn) : iaOf (a ++ b) = iaOf a ++ iaOf b := by simp [iaOf]
theorem drop_succ {l : List Oper} {m : Nat} {o : Oper} {r : List Oper} (h : l.drop m = o :: r) : l.drop (m + 1) = r ∧ l[m]? = some o := by
  have h1 : l[m]? = some o := by
    have := congrArg (·[0]?) h
    simpa using this
  refine ⟨?_, h1⟩
  rw [← List.drop_drop, h]; rfl
theorem runA_put (h : runA P full all (m + 1) ia es (ib ++ [m]) r k sl0 ⟨nt, nb, sl, bx, rw, ys⟩) : runA P full all m ia es ib (o :: r) k sl0 ⟨nt, nb, sl, bx, rw, ys⟩ := by
  intro h1 h2 h3
  obtain ⟨es', ib', h4, h5, h6⟩ := h (drop_succ h1).1 h2 h3
  exact ⟨es', m :: ib', h4, by simpa using h5, by simpa using h6⟩
/-- An operation that looks at what one of the chain makes is of the chain. -/
theorem runA_dep (_ : lookFree full ib o = false) (h : runA P full all (m + 1) ia es (ib ++ [m]) r k sl0 ⟨nt, nb, sl, bx, rw, ys⟩) : runA P full all m ia es ib (o :: r) k sl0 ⟨nt, nb, sl, bx, rw, ys⟩ := runA_put h
theorem runA_step {kd : AK} {g : Bool} {x : AV} (hd : o.dst = some d) (hok : AStep P full.toArray all ⟨nt, nb, sl, bx, rw, ys⟩ o sl g x kd)
    (h : runA P full all (m + 1) (ia ++ [(m, kd)]) (es ++ [(m, kd, (d, (g, x)))]) ib r k sl0 ⟨nt, nb, (d, (g, x)) :: sl, bx, rw, ys⟩) : runA P full all m ia es ib (o :: r) k sl0 ⟨nt, nb, sl, bx, rw, ys⟩ := by
  intro h1 h2 h3
  have h2 : sl = slA es ++ sl0 := h2
  obtain ⟨es', ib', h4, h5, h6⟩ := h (drop_succ h1).1 (by rw [slA_append, h2]; rfl) (by rw [iaOf_append, h3]; rfl)
  refine ⟨(m, kd, (d, (g, x))) :: es', ib', fun p e hp => ?_, by simpa [List.append_assoc] using h5, ?_⟩
  · cases p with
    | zero =>
      simp only [List.getElem?_cons_zero, Option.some.injEq] at hp
      subst hp
      exact ⟨o, (drop_succ h1).2, hd, hok⟩
    | succ p =>
      obtain ⟨o', g1, g2, g3⟩ := h4 p e (by simpa using hp)
      refine ⟨o', g1, g2, ?_⟩
      have : slA (((m, kd, (d, (g, x))) :: es').take (p + 1)) ++ sl = slA (es'.take p) ++ ((d, (g, x)) :: sl) := by
        simp [slA]
      simp only at g3 ⊢
      rw [this]
      exact g3
  · have : slA ((m, kd, (d, (g, x))) :: es') ++ sl = slA es' ++ ((d, (g, x)) :: sl) := by simp [slA]
    simp only at h6 ⊢
    rw [this]
    exact h6
theorem runA_any (hT : TOk P T) (hd : o.dst = some d)
    (h : ∃ g, guardA full.toArray ⟨nt, nb, sl, bx, rw, ys⟩ o = some g ∧ ∃ cs x p, (∀ ext rw', opA T ⟨nt, nb, sl, mskB all bx ext, rw', ys⟩ o.op = some (cs, x, p)) ∧ (g = true → (∀ c ∈ cs, c = true) ∧ p) ∧ runA P full all (m + 1) (ia ++ [(m, .any)]) (es ++ [(m, .any, (d, (g, x)))]) ib r k sl0 ⟨nt, nb, (d, (g, x)) :: sl, bx, rw, ys⟩) : runA P full all m ia es ib (o :: r) k sl0 ⟨nt, nb, sl, bx, rw, ys⟩ := by
  obtain ⟨g, hg, cs, x, p, h1, h2, h3⟩ := h
  exact runA_step (kd := .any) (g := g) (x := x) hd (fun ext rw' => opSpec_pure hT (st := ⟨nt, nb, sl, mskB all bx ext, rw', ys⟩) hg (h1 ext rw') h2) h3
theorem runA_first (hT : TOk P T) (hd : o.dst = some d)
    (h : ∃ g, guardA full.toArray ⟨nt, nb, sl, bx, rw, ys⟩ o = some g ∧ ∃ cs x p, (∀ ext, opA T ⟨nt, nb, sl, bx ++ ext, rw, ys⟩ o.op = some (cs, x, p)) ∧ (g = true → (∀ c ∈ cs, c = true) ∧ p) ∧ runA P full all (m + 1) (ia ++ [(m, .first)]) (es ++ [(m, .first, (d, (g, x)))]) ib r k sl0 ⟨nt, nb, (d, (g, x)) :: sl, bx, rw, ys⟩) : runA P full all m ia es ib (o :: r) k sl0 ⟨nt, nb, sl, bx, rw, ys⟩ := by
  obtain ⟨g, hg, cs, x, p, h1, h2, h3⟩ := h
  exact runA_step (kd := .first) (g := g) (x := x) hd (fun ext => opSpec_pure hT (st := ⟨nt, nb, sl, bx ++ ext, rw, ys⟩) hg (h1 ext) h2) h3
theorem runA_anyB (hT : TOk P T) (hd : o.dst = some d)
    (h : ∃ g, guardA full.toArray ⟨nt, nb, sl, bx, rw, ys⟩ o = some g ∧ ∃ cs x p, (∀ ext rw', opB T ⟨nt, nb, sl, mskB all bx ext, rw', ys⟩ o.op = some (cs, x, p)) ∧ (g = true → (∀ c ∈ cs, c = true) ∧ p) ∧ runA P full all (m + 1) (ia ++ [(m, .any)]) (es ++ [(m, .any, (d, (g, x)))]) ib r k sl0 ⟨nt, nb, (d, (g, x)) :: sl, bx, rw, ys⟩) : runA P full all m ia es ib (o :: r) k sl0 ⟨nt, nb, sl, bx, rw, ys⟩ := by
  obtain ⟨g, hg, cs, x, p, h1, h2, h3⟩ := h
  exact runA_step (kd := .any) (g := g) (x := x) hd (fun ext rw' => opSpec_B hT (st := ⟨nt, nb, sl, mskB all bx ext, rw', ys⟩) hg (h1 ext rw') h2) h3
theorem runA_mk (hT : TOk P T) (hd : o.dst = some d)
    (h : ∃ g, guardA full.toArray ⟨nt, nb, sl, bx, rw, ys⟩ o = some g ∧ ∃ cs x p, (∀ ext rw', mkA T ⟨nt, nb, sl, mskB all bx ext, rw', ys⟩ o.op = some (cs, x, p)) ∧ (g = true → (∀ c ∈ cs, c = true) ∧ p) ∧ runA P full all (m + 1) (ia ++ [(m, .any)]) (es ++ [(m, .any, (d, (g, x)))]) ib r k sl0 ⟨nt, nb, (d, (g, x)) :: sl, bx, rw, ys⟩) : runA P full all m ia es ib (o :: r) k sl0 ⟨nt, nb, sl, bx, rw, ys⟩ := by
  obtain ⟨g, hg, cs, x, p, h1, h2, h3⟩ := h
  exact runA_step (kd := .any) (g := g) (x := x) hd (fun ext rw' => opSpec_mk hT (st := ⟨nt, nb, sl, mskB all bx ext, rw', ys⟩) hg (h1 ext rw') h2) h3
theorem runA_call (hd : o.dst = some d)
    (h : ∃ g, guardA full.toArray ⟨nt, nb, sl, bx, rw, ys⟩ o = some g ∧ ∃ cs f args, (∀ ext rw', callA ⟨nt, nb, sl, mskB all bx ext, rw', ys⟩ o.op = some (cs, f, args)) ∧ (g = true → (∀ c ∈ cs, c = true) ∧ AV.freeL args) ∧ ∃ x, (g = true → FnA P f args x) ∧ runA P full all (m + 1) (ia ++ [(m, .any)]) (es ++ [(m, .any, (d, (g, x)))]) ib r k sl0 ⟨nt, nb, (d, (g, x)) :: sl, bx, rw, ys⟩) : runA P full all m ia es ib (o :: r) k sl0 ⟨nt, nb, sl, bx, rw, ys⟩ := by
  obtain ⟨g, hg, cs, f, args, h1, h2, x, h3, h4⟩ := h
  exact runA_step (kd := .any) (g := g) (x := x) hd (fun ext rw' => opSpec_call (st := ⟨nt, nb, sl, mskB all bx ext, rw', ys⟩) hg (h1 ext rw') h2 h3) h4
theorem runA_nil (h : ∃ ia', ia = ia' ∧ ∃ ib', ib = ib' ∧ depOk4 full ia' ib' = true ∧ runB P full.toArray all bx (pickOps full ib') k ⟨nt, nb, sl, bx, rw, ys⟩) : runA P full all m ia es ib [] k sl0 ⟨nt, nb, sl, bx, rw, ys⟩ := by
  obtain ⟨_, rfl, _, rfl, h1, h2⟩ := h
  rintro _ _ rfl
  exact ⟨[], [], fun p e h => by simp at h, by simpa using h1, by simpa [pickOps_eq, slA] using h2⟩
theorem runB_nil (h : k ⟨nt, nb, sl, bx, rw, ys⟩) : runB P full.toArray all bx0 [] k ⟨nt, nb, sl, bx, rw, ys⟩ := h
theorem runB_op (h64 : Nat.blt bx.length 64 = true) (h : ∃ L, o.looksAt full.toArray = L ∧ ∀ nb', runS P full.toArray [o] (KB P full.toArray all bx0 o r k nt nb nb' L sl bx rw ys) ⟨nt, nb', restr L sl, bx, rw, ys⟩) : runB P full.toArray all bx0 (o :: r) k ⟨nt, nb, sl, bx, rw, ys⟩ := by
  obtain ⟨_, rfl, h⟩ := h
  exact ⟨Nat.le_of_ble_eq_true h64, h⟩
theorem runB_end {nb' : Nat} {L : List Nat} {ent : Bool × AV} {bx' : List (List AV)} {rw' : List ARow} (hd : o.dst = some d) (h1 : KeepB all bx0 bx') (h2 : hrm o = true → rw' = rw ∧ ∃ ext, bx' = bx ++ ext)
    (h : runB P full.toArray all bx0 r k ⟨nt, nb, (d, ent) :: sl, bx', rw', ys⟩) : runS P full.toArray [] (KB P full.toArray all bx0 o r k nt nb nb' L sl bx rw ys) ⟨nt, nb', (d, ent) :: restr L sl, bx', rw', ys⟩ :=
  runS_nil ⟨ent, bx', rw', by rw [hd]; rfl, h1, h2, by rw [hd]; exact h⟩
theorem runB_endN {nb' : Nat} {L : List Nat} {bx' : List (List AV)} {rw' : List ARow} (hd : o.dst = none) (h1 : KeepB all bx0 bx') (h2 : hrm o = true → rw' = rw ∧ ∃ ext, bx' = bx ++ ext)
    (h : runB P full.toArray all bx0 r k ⟨nt, nb, sl, bx', rw', ys⟩) : runS P full.toArray [] (KB P full.toArray all bx0 o r k nt nb nb' L sl bx rw ys) ⟨nt, nb', restr L sl, bx', rw', ys⟩ :=
  runS_nil ⟨(true, .raw undef), bx', rw', by rw [hd]; rfl, h1, h2, by rw [hd]; exact h⟩
theorem keepT (bx0 bx' : List (List AV)) : KeepB true bx0 bx' := ⟨bx', rfl⟩
theorem keepF {bx0 bx' : List (List AV)} (ext : List (List AV)) (h : bx' = bx0 ++ ext) : KeepB false bx0 bx' := ⟨ext, h⟩
theorem wpA_drawA (all : Bool) {id : Nat} {ops : List Oper} (hm : P.follows .mixedOrders = true) (hf : dstsFit nt ops = true) (h : ∀ K : ASt → Prop, (∀ s, Q .normal s → K s) → runA P ops all 0 [] [] [] ops K sl ⟨nt, nb, sl, bx, rw, ys⟩) : wpA P (.region id ops.toArray true) Q ⟨nt, nb, sl, bx, rw, ys⟩ := by
  obtain ⟨es, ib, h1, h2, h3⟩ := h (Q .normal) (fun _ h => h) rfl rfl rfl
  intro C G a w hs
  have hs' := hs.drew
  simp only [List.nil_append] at h2 h3
  have hz : ∀ j, (Array.replicate ops.toArray.size false).getD j false = false := fun j => by
    simp only [Array.getD_eq_getD_getElem?, Array.getElem?_replicate]
    split <;> rfl
  have hz' : ∀ j, j < ops.length → (Array.replicate ops.toArray.size false).getD j true = false := fun j hj => by
    simp only [Array.getD_eq_getD_getElem?, Array.getElem?_replicate]
    rw [if_pos (by simpa using hj)]; rfl
  refine wpIn_mono (Q := fun e a w => e = .normal ∧ down C Q .normal a w) (wpIn_region_any hm (wpAny4 (C := C) (es := es) (ib := ib) (st := ⟨nt, nb, sl, bx, rw, ys⟩) (k := Q .normal) h2 h1 (fun G a w st' hs hk => ⟨rfl, G, st', hs, hk⟩) _ _ G a _ ?_ ⟨hs'.frame, hs'.le, hs'.fresh, hs'.ownB, hs'.ownR, by rw [hs.size]; exact hf, hs.size, hs.callers, by simp, fun i o ho hl => ?_, fun t e _ hl => hs'.slot t e.1 e.2 hl, fun e he hl => ?_, hs'.env,
    ⟨0, [], bx, rw, fun p i hp => ?_, Nat.zero_le _, ?_, fun _ => ⟨rfl, [], by simp⟩, hs'.mem, fun t e h => (by cases h), fun i o t _ hl => ?_, ?_⟩⟩)) (fun e a w h => by obtain ⟨rfl, h⟩ := h; exact h)
  · exact Nat.le_trans List.countP_le_length (by simp)
  · have hil : i < ops.length := (List.getElem?_eq_some_iff.1 ho).1
    rw [hz' i hil] at hl; cases hl
  · rw [hz] at hl; cases hl
  · rw [hz]; simp
  · cases all
    · exact ⟨[], by simp [mskB]⟩
    · exact ⟨bx, rfl⟩
  · rw [hz] at hl; cases hl
  · simpa using h3
theorem wpA_drawG (all : Bool) {id : Nat} {ops : List Oper} (_ : hasStore ops = all) (hm : P.follows .mixedOrders = true) (hf : dstsFit nt ops = true) (h : ∀ K : ASt → Prop, (∀ s, Q .normal s → K s) → runA P ops all 0 [] [] [] ops K sl ⟨nt, nb, sl, bx, rw, ys⟩) : wpA P (.region id ops.toArray true) Q ⟨nt, nb, sl, bx, rw, ys⟩ := wpA_drawA all hm hf h
theorem gateAc (h : runA P full all m ia es ib (o :: r) k sl0 ⟨nt, nb, sl, bx, rw, ys⟩) : runA P full all m ia es ib (o :: r) k sl0 ⟨nt, nb, sl, bx, rw, ys⟩ := h
theorem gateAn (h : runA P full all m ia es ib [] k sl0 ⟨nt, nb, sl, bx, rw, ys⟩) : runA P full all m ia es ib [] k sl0 ⟨nt, nb, sl, bx, rw, ys⟩ := h
theorem gateBc {l : List Oper} (h : runB P full.toArray all bx0 l k ⟨nt, nb, sl, bx, rw, ys⟩) : runB P full.toArray all bx0 l k ⟨nt, nb, sl, bx, rw, ys⟩ := h
theorem gateD {id : Nat} {ops : Array Oper} (h : wpA P (.region id ops true) Q ⟨nt, nb, sl, bx, rw, ys⟩) : wpA P (.region id ops true) Q ⟨nt, nb, sl, bx, rw, ys⟩ := h
/-- A contract, where the function is looked at first. -/
theorem FnA.at_ {P : Program} {f f' : FuncId} {args args' : List AV} {r : AV} (h : FnA P f' args' r) (hf : f' = f) (ha : args' = args) : FnA P f args r := by
  subst hf; subst ha; exact h
theorem FnA.at_s {P : Program} {f f' : FuncId} {args args' : List AV} {r : AV} (h : FnA P f' args' r) (hf : f' = f) (hs : SimL args args') : FnA P f args r := by
  subst hf; exact FnA.sim h hs
end
theorem gateA {P : Program} {full : List Oper} {all : Bool} {m : Nat} {ia : List (Nat × AK)} {es : List AEn} {ib : List Nat} {o : Oper} {r : List Oper} {k : ASt → Prop} {sl0 : List (Nat × (Bool × AV))} {st : ASt} (n : Nat) (hc : opCls o.op = n) (h : runA P full all m ia es ib (o :: r) k sl0 st) : runA P full all m ia es ib (o :: r) k sl0 st := h
end Go.Proofs.YtihnjbnlbedpaaaGreatDoor
/- The abstract logic: copies into slices of own variables, and what is appended to them. -/
namespace Go.Proofs.YtihnjbnlbedpaaaGreatDoor
set_option linter.unusedVariables false
set_option linter.unusedSimpArgs false
set_option maxHeartbeats 4000000
set_option maxRecDepth 100000
open Go.RowKit

/-- The cells that a slice has: the size of an element, how many, the cells, a condition. -/
def ASt.src (st : ASt) : AV → Option (Nat × Nat × List AV × Prop)
  | .bsl sz b off n _ => match st.bx[b]? with
    | some cs => some (sz, n, (cs.drop off).take (n * sz), off + n * sz ≤ cs.length)
    | none => none
  | v => match st.asL v with
    | some (sz, n, el, p) => some (sz, n, (List.range n).flatMap el, p)
    | none => none
section
variable {P : Program} {T : TT} {st : ASt} {G : Gh} {w : World}
theorem cell_of_heap {blk k : Nat} {vs : List Value} {Ty : TypeId} {x : Nat × Nat} {u : Value} (h : w.heap[blk]? = some (.cells vs.toArray Ty x)) (hu : vs[k]? = some u) : w.cell? ⟨blk, k, none⟩ = some u := by
  simp [World.cell?, h, hu]
theorem src_sound (hm : MSat G w st.bx st.rw) {v : AV} {sz n : Nat} {us : List AV} {p : Prop} (h : st.src v = some (sz, n, us, p)) (hp : p) (h0 : 0 < sz) {x : Value} (hx : v.rel G w x) :
    ∃ A cap vs, x = .slice A n cap ∧ vs.length = n * sz ∧ AV.relL G w us vs ∧ (0 < n → ∃ a, A = some a ∧ ∀ j u, vs[j]? = some u → w.cell? (a.add j) = some u) := by
  have gen : ∀ v : AV, (match st.asL v with | some (sz, n, el, p) => some (sz, n, (List.range n).flatMap el, p) | none => none) = some (sz, n, us, p) → v.rel G w x →
      ∃ A cap vs, x = .slice A n cap ∧ vs.length = n * sz ∧ AV.relL G w us vs ∧ (0 < n → ∃ a, A = some a ∧ ∀ j u, vs[j]? = some u → w.cell? (a.add j) = some u) := by
    intro v h hx
    split at h
    · rename_i sz' n' el p' hl
      simp only [Option.some.injEq, Prod.mk.injEq] at h
      obtain ⟨rfl, rfl, rfl, rfl⟩ := h
      have hyr := asL_sound hm hl hp hx
      obtain ⟨A, cap, rfl, _⟩ := id hyr
      obtain ⟨news, h1, h2, h3, _⟩ := lst_cells h0 hyr
      exact ⟨A, cap, news, rfl, h1, relL_flat h1 h3, h2⟩
    · cases h
  unfold ASt.src at h
  split at h
  · rename_i sz' b off n' cap'
    split at h
    · rename_i cs hcs
      simp only [Option.some.injEq, Prod.mk.injEq] at h
      obtain ⟨rfl, rfl, rfl, rfl⟩ := h
      obtain ⟨blk, A, h1, rfl, h2, h3, h4⟩ := hx
      obtain ⟨_, vs, Ty, h5, h6⟩ := hm.box b cs blk hcs h1
      have hl := AV.relL_length h6
      refine ⟨A, cap', (vs.drop off).take (n' * sz'), rfl, by simp; omega, AV.relL_take _ (AV.relL_drop _ h6), fun hn => ⟨⟨blk, off, none⟩, h4 (by omega), fun j u hj => ?_⟩⟩
      rw [add_lit]
      refine cell_of_heap h5 ?_
      rw [List.getElem?_take] at hj
      split at hj
      · rwa [List.getElem?_drop] at hj
      · cases hj
    · cases h
  · exact gen _ h hx
theorem Sat.stored {C : Ctx P} {a : Act} {w' : World} (hs : Sat C G a w st) {b blk : Nat} {cs cs' : List AV} {vs' : List Value} {Ty : TypeId} (hb : st.bx[b]? = some cs) (hg : G.bx[b]? = some blk) (h9 : SetTo w blk vs' Ty w') (hr : AV.relL G w cs' vs') :
    Sat C G a w' { st with bx := st.bx.set b cs' } ∧ G.Le w G w' := by
  obtain ⟨m, le⟩ := msat_store hs.mem hb hg h9 hr
  have ho : Outside (fun k => k ∈ G.bx ∨ ∃ x ∈ G.rw, (ownBlk x.2) = some k) w w' := ⟨h9.os, h9.tape, h9.output, Nat.le_of_eq h9.size.symm, fun k _ hk => h9.other k fun e => hk (.inl (e ▸ List.mem_of_getElem? hg))⟩
  exact ⟨hs.called ho le (fun _ _ i => .inl i) (fun _ h => .inl h) (fun x hx g hg => .inl ⟨x, hx, hg⟩) m, le⟩
theorem putL_nil' : ∀ (n : Nat) (l : List Value), putL l n ([] : List Value) = l
  | 0, l => by cases l <;> rfl
  | n + 1, l => by cases l <;> simp [putL, putL_nil' n]
theorem storeCells_at {blk off : Nat} {Ty : TypeId} {vs us : List Value} (h : w.heap[blk]? = some (.cells vs.toArray Ty (0, 0))) (hl : off + us.length ≤ vs.length) (h1 : ∀ u ∈ us, u.oneCell' = true) :
    ∃ w', (storeCells ⟨blk, off, none⟩ us).run P w = .ok () w' ∧ SetTo w blk (putL vs off us) Ty w' := by
  obtain ⟨w', e8, e9⟩ := storeCells_run (P := P) (off := off) (vs := vs) us [] w (by rw [putL_nil']; exact h) (by simp only [List.length_nil]; omega) h1
  simp only [List.nil_append, List.length_nil] at e8 e9
  exact ⟨w', e8, e9⟩
theorem info_of (hT : TOk P T) {e : TypeId} {j : TI} (h3 : T e = some j) : ∃ ie z, P.info? e = some ie ∧ ie.size = j.size ∧ ie.zero = some z ∧ ie.bytes = j.bytes ∧ z.cells.toList = j.zero := by
  have h1 := (hT _ _ h3).info
  cases hie : P.info? e with
  | none => rw [hie] at h1; cases h1
  | some x =>
    rw [hie] at h1
    simp only [Option.map_some, Option.some.injEq, Prod.mk.injEq] at h1
    cases hzz : x.zero with
    | none => rw [hzz] at h1; cases h1.1
    | some z =>
      rw [hzz] at h1
      simp only [Option.map_some, Option.some.injEq] at h1
      exact ⟨x, z, rfl, h1.2.1, hzz, h1.2.2, h1.1⟩
theorem slice_of (hT : TOk P T) {t e : TypeId} {s1 b1 : Nat} {z1 : List Value} {q1 : List CK} (h : T t = some ⟨.slice e, s1, b1, z1, q1⟩) : P.underlying t = some (.slice e) := by
  obtain ⟨d1, u1, u2⟩ := (hT _ _ h).und_some
  rw [u1, tkOf_slice u2]
end
/-- A slice of an own variable, and a source: what 'copy' and 'append' are given. -/
def argsB (st : ASt) (c : Call) : Option (List Bool × (Nat × Nat × Nat × Nat × Nat) × (Nat × Nat × List AV × Prop) × TypeId × TypeId) :=
  match c.args.toList, c.argTypes.toList with
  | [x, y], [t, t'] => match st.ev x, st.ev y with
    | some (g1, .bsl sz b off n cap), some (g2, v) => match st.src v with
      | some s => some ([g1, g2], (sz, b, off, n, cap), s, t, t')
      | none => none
    | _, _ => none
  | _, _ => none
def isCopy : Builtin → Bool
  | .copy => true
  | _ => false
def twoB (st : ASt) (k : Builtin) (o : Op) : Option (List Bool × (Nat × Nat × Nat × Nat × Nat) × (Nat × Nat × List AV × Prop) × TypeId × TypeId) :=
  match o with
  | .call c => match c.callee with
    | .builtin .copy => bif isCopy k then argsB st c else none
    | .builtin .append => bif isCopy k then none else argsB st c
    | _ => none
  | _ => none
theorem argsB_inv {st : ASt} {c : Call} {cs : List Bool} {sz b off n cap : Nat} {s : Nat × Nat × List AV × Prop} {t t' : TypeId} (h : argsB st c = some (cs, (sz, b, off, n, cap), s, t, t')) :
    ∃ x y g1 g2 v, c = ⟨c.callee, #[x, y], #[t, t']⟩ ∧ cs = [g1, g2] ∧ st.ev x = some (g1, .bsl sz b off n cap) ∧ st.ev y = some (g2, v) ∧ st.src v = some s := by
  obtain ⟨callee, args, argTypes⟩ := c
  obtain ⟨args⟩ := args
  obtain ⟨argTypes⟩ := argTypes
  unfold argsB at h
  simp only at h
  split at h
  · split at h
    · rename_i x y t1 t2 _ _ g1 sz' b' off' n' cap' g2 v hx hy
      split at h
      · rename_i s' hs
        simp only [Option.some.injEq, Prod.mk.injEq] at h
        obtain ⟨rfl, ⟨rfl, rfl, rfl, rfl, rfl⟩, rfl, rfl, rfl⟩ := h
        exact ⟨x, y, g1, g2, v, rfl, rfl, hx, hy, hs⟩
      · cases h
    · cases h
  · cases h
theorem twoC_inv {st : ASt} {o : Op} {cs : List Bool} {sz b off n cap : Nat} {s : Nat × Nat × List AV × Prop} {t t' : TypeId} (h : twoB st .copy o = some (cs, (sz, b, off, n, cap), s, t, t')) :
    ∃ x y g1 g2 v, o = .call ⟨.builtin .copy, #[x, y], #[t, t']⟩ ∧ cs = [g1, g2] ∧ st.ev x = some (g1, .bsl sz b off n cap) ∧ st.ev y = some (g2, v) ∧ st.src v = some s := by
  unfold twoB at h
  split at h
  · rename_i c
    split at h
    · rename_i hc
      obtain ⟨x, y, g1, g2, v, h1, h2⟩ := argsB_inv (c := c) (by simpa [isCopy] using h)
      exact ⟨x, y, g1, g2, v, by rw [h1, hc], h2⟩
    · simp [isCopy] at h
    · cases h
  · cases h
theorem twoB_inv {st : ASt} {o : Op} {cs : List Bool} {sz b off n cap : Nat} {s : Nat × Nat × List AV × Prop} {t t' : TypeId} (h : twoB st .append o = some (cs, (sz, b, off, n, cap), s, t, t')) :
    ∃ x y g1 g2 v, o = .call ⟨.builtin .append, #[x, y], #[t, t']⟩ ∧ cs = [g1, g2] ∧ st.ev x = some (g1, .bsl sz b off n cap) ∧ st.ev y = some (g2, v) ∧ st.src v = some s := by
  unfold twoB at h
  split at h
  · rename_i c
    split at h
    · simp [isCopy] at h
    · rename_i hc
      obtain ⟨x, y, g1, g2, v, h1, h2⟩ := argsB_inv (c := c) (by simpa [isCopy] using h)
      exact ⟨x, y, g1, g2, v, by rw [h1, hc], h2⟩
    · cases h
  · cases h
section rules
variable {P : Program} {T : TT} {ops : Array Oper} {rest : List Oper} {K : ASt → Prop} {nt nb : Nat} {sl : List (Nat × (Bool × AV))} {bx : List (List AV)} {rw : List ARow} {ys : (Nat × List (List AV)) × List (List AV) × Bool} {o : Oper} {d : Nat}
/-- 'copy'. -/
theorem runS_copyB (hT : TOk P T) (hg : o.guard = none) (hd : o.dst = some d) (hn : Nat.blt d nt = true)
    {cs : List Bool} {sz b off n cap sz' m : Nat} {us : List AV} {p : Prop} {t t' : TypeId} (h1 : twoB ⟨nt, nb, sl, bx, rw, ys⟩ .copy o.op = some (cs, (sz, b, off, n, cap), (sz', m, us, p), t, t')) (hc : ∀ c ∈ cs, c = true) (hp : p)
    {e s1 b1 : Nat} {z1 : List Value} {q1 : List CK} (h2 : T t = some ⟨.slice e, s1, b1, z1, q1⟩) {j : TI} (h3 : T e = some j) (hsz : sz = j.size ∧ sz' = j.size ∧ 0 < j.size) (h0 : 0 < n ∧ 0 < m) {cl : List AV} (hb : bx[b]? = some cl)
    (hone : AV.oneL ⟨nt, nb, sl, bx, rw, ys⟩ us) (hfit : off + n * sz ≤ cl.length)
    {q : Nat} (hq : min m n = q) {bx' : List (List AV)} (hset : bx.set b (putL cl off (us.take (q * sz))) = bx')
    (h : runS P ops rest K ⟨nt, nb, (d, (true, .raw (.int .i64 (q : Nat)))) :: sl, bx', rw, ys⟩) : runS P ops (o :: rest) K ⟨nt, nb, sl, bx, rw, ys⟩ := by
  subst hq; subst hset
  obtain ⟨x, y, g1, g2, v, hop, rfl, hx, hy, hsrc⟩ := twoC_inv h1
  obtain ⟨rfl, rfl, j0⟩ := hsz
  intro C G a w Q hs hQ
  have hev : ∀ y ∈ o.op.operands.toList, EvOk G w a ⟨nt, nb, sl, bx, rw, ys⟩ y := fun y hy => evOk_of fun t ht => hs.slot t
  obtain ⟨blk, A, hA0, ex, hnc, hcm, hA⟩ := hev x (by rw [hop]; simp [Op.operands, Call.operands]) _ _ hx (hc g1 (by simp))
  obtain ⟨A', cap', vs, ey, hvl, hvr, hva⟩ := src_sound hs.mem hsrc hp j0 (hev y (by rw [hop]; simp [Op.operands, Call.operands]) _ _ hy (hc g2 (by simp)))
  obtain ⟨a', rfl, hcell⟩ := hva h0.2
  have hA := hA (by omega)
  subst hA
  have hu := slice_of hT h2
  obtain ⟨ie, z, g2', g1', g3, g4, e2⟩ := info_of hT h3
  obtain ⟨_, ws, Ty, b3, b4⟩ := hs.mem.box b cl blk hb hA0
  have hwl := AV.relL_length b4
  have hkn : min m n * j.size ≤ n * j.size := Nat.mul_le_mul_right _ (Nat.min_le_right _ _)
  have hkm : min m n * j.size ≤ m * j.size := Nat.mul_le_mul_right _ (Nat.min_le_left _ _)
  have h1c : ∀ u ∈ vs, u.oneCell' = true := oneL_sound hs.mem hone hvr
  have hul := AV.relL_length hvr
  obtain ⟨w', e8, e9⟩ := storeCells_at (P := P) (off := off) (us := vs.take (min m n * j.size)) b3 (by simp; omega) (fun u hu => h1c u (List.mem_of_mem_take hu))
  obtain ⟨s1', le⟩ := hs.stored hb hA0 e9 (relL_put b4 (AV.relL_take _ hvr))
  have hf := run_firstCells_some (P := P) w j.size (min m n) a' m cap' (vs.take (min m n * j.size)) (by simp; omega) (fun q u hq => by
    rw [List.getElem?_take] at hq
    split at hq
    · exact hcell q u hq
    · cases hq)
  have hrun : ∀ ty, (Builtin.copy_ #[t, t'] ty #[.slice (some ⟨blk, off, none⟩) n cap, .slice (some a') m cap']).run P w = .ok (goInt (min m n : Nat)) w' := fun ty => by
    have hmn : Nat.min m n = min m n := rfl
    simp [Builtin.copy_, run_underlying hu, Builtin.lenOf, sizeOf, typeInfo, g2', g1', hmn, hf, e8]
  refine wpListIn_plain hg fun K' hK => ?_
  refine wpIn_of_run (fun c hc => by rw [hop] at hc; cases hc) ?_
  have hexec : (execOp a.eval o).run P w = .ok (.value (goInt (min m n : Nat))) w' := by
    obtain ⟨dst, op, type, pos, after, guard⟩ := o
    simp only at hop
    subst hop
    simp [execOp, resolve, invoke, builtin, ex, ey, hrun]
  rw [hexec, Oper.uponIn_value, hd]
  exact hK _ _ (h C _ _ _ Q (s1'.put (by simpa [Nat.blt_eq] using hn) (fun _ => rfl) (fun h => by cases h)) hQ)
/-- 'append' onto a slice of an own variable: there is room, or there is none. -/
theorem runS_appB (hT : TOk P T) (hg : o.guard = none) (hd : o.dst = some d) (hn : Nat.blt d nt = true)
    {cs : List Bool} {sz b off n cap sz' m : Nat} {us : List AV} {p : Prop} {t t' : TypeId} (h1 : twoB ⟨nt, nb, sl, bx, rw, ys⟩ .append o.op = some (cs, (sz, b, off, n, cap), (sz', m, us, p), t, t')) (hc : ∀ c ∈ cs, c = true) (hp : p) (htt : t' = t)
    {e s1 b1 : Nat} {z1 : List Value} {q1 : List CK} (h2 : T t = some ⟨.slice e, s1, b1, z1, q1⟩) {j : TI} (h3 : T e = some j) (hsz : sz = j.size ∧ sz' = j.size ∧ 0 < j.size ∧ j.zero.length = j.size) (h0 : 0 < m) {cl : List AV} (hb : bx[b]? = some cl)
    (hone : AV.oneL ⟨nt, nb, sl, bx, rw, ys⟩ us) (hfit : off + cap * sz ≤ cl.length) (hmax : n + m ≤ maxLen ∧ (n + m) * j.bytes ≤ 140737488355328)
    (hroom : n + m ≤ cap → ∀ bx', bx.set b (putL cl (off + n * sz) us) = bx' → runS P ops rest K ⟨nt, nb, (d, (true, .bsl sz b off (n + m) cap)) :: sl, bx', rw, ys⟩)
    (hgrow : cap < n + m → ∀ c, n + m ≤ c → c ≤ maxLen → ∀ bx' bn, bx.length = bn → bx ++ [((cl.drop off).take (n * sz) ++ us) ++ zerosA (c - (n + m)) j.zero] = bx' → runS P ops rest K ⟨nt, nb, (d, (true, .bsl sz bn 0 (n + m) c)) :: sl, bx', rw, ys⟩) : runS P ops (o :: rest) K ⟨nt, nb, sl, bx, rw, ys⟩ := by
  obtain ⟨x, y, g1, g2, v, hop, rfl, hx, hy, hsrc⟩ := twoB_inv h1
  obtain ⟨rfl, rfl, j0, jz⟩ := hsz
  subst htt
  intro C G a w Q hs hQ
  have hev : ∀ y ∈ o.op.operands.toList, EvOk G w a ⟨nt, nb, sl, bx, rw, ys⟩ y := fun y hy => evOk_of fun t ht => hs.slot t
  obtain ⟨blk, A, hA0, ex, hnc, hcm, hA⟩ := hev x (by rw [hop]; simp [Op.operands, Call.operands]) _ _ hx (hc g1 (by simp))
  obtain ⟨A', cap', vs, ey, hvl, hvr, hva⟩ := src_sound hs.mem hsrc hp j0 (hev y (by rw [hop]; simp [Op.operands, Call.operands]) _ _ hy (hc g2 (by simp)))
  obtain ⟨a', rfl, hcell⟩ := hva h0
  have hu := slice_of hT h2
  obtain ⟨ie, z, g2', g1', g3, g4, e2⟩ := info_of hT h3
  obtain ⟨_, ws, Ty, b3, b4⟩ := hs.mem.box b cl blk hb hA0
  have hwl := AV.relL_length b4
  have h1c : ∀ u ∈ vs, u.oneCell' = true := oneL_sound hs.mem hone hvr
  have hmle : n * j.size ≤ cap * j.size := Nat.mul_le_mul_right _ hnc
  have hsr : Src P ie.size t' (.slice (some a') m cap') m vs w := .ofSlice w hu a' m cap' vs (by rw [g1']; exact hvl) hcell h1c
  refine wpListIn_plain hg fun K' hK => ?_
  refine wpIn_of_run (fun c hc => by rw [hop] at hc; cases hc) ?_
  by_cases hr : n + m ≤ cap
  · have hA := hA (by omega)
    subst hA
    have hle : (n + m) * j.size ≤ cap * j.size := Nat.mul_le_mul_right _ hr
    rw [Nat.add_mul] at hle
    obtain ⟨w', e8, e9⟩ := storeCells_at (P := P) (off := off + n * j.size) (us := vs) b3 (by omega) h1c
    obtain ⟨s1', le⟩ := hs.stored hb hA0 e9 (relL_put b4 hvr)
    have hexec : (execOp a.eval o).run P w = .ok (.value (.slice (some ⟨blk, off, none⟩) (n + m) cap)) w' := by
      obtain ⟨dst, op, type, pos, after, guard⟩ := o
      simp only at hop
      subst hop
      have hf := run_firstCells_some (P := P) w j.size m a' m cap' vs hvl hcell
      simp [execOp, resolve, invoke, builtin, ex, ey, Builtin.append_, run_underlying hu, Builtin.lenOf, sizeOf, typeInfo, g2', g1', hf, hr, add_lit, e8]
    rw [hexec, Oper.uponIn_value, hd]
    refine hK _ _ (hroom hr _ rfl C _ _ _ Q (s1'.put (by simpa [Nat.blt_eq] using hn) (fun _ => ⟨blk, _, ?_, rfl, hr, hcm, fun _ => rfl⟩) (fun h => by cases h)) hQ)
    exact hA0
  · have hr : cap < n + m := by omega
    have hold : (Builtin.firstCells ie.size n (.slice A n cap)).run P w.drew = .ok ((ws.drop off).take (n * j.size)).toArray w.drew := by
      rw [g1']
      rcases Nat.eq_zero_or_pos cap with h | h
      · have hn0 : n = 0 := by omega
        subst hn0
        cases A with
        | none => simp [run_firstCells_none]
        | some A => exact run_firstCells_some (P := P) w.drew j.size 0 A 0 cap _ (by simp) (fun q u hq => by simp at hq)
      · rw [hA h]
        refine run_firstCells_some (P := P) w.drew j.size n ⟨blk, off, none⟩ n cap _ (by simp; omega) (fun q u hq => ?_)
        rw [add_lit]
        rw [List.getElem?_take] at hq
        split at hq
        · rw [List.getElem?_drop] at hq
          have := cell_of_heap b3 hq
          simpa using this
        · cases hq
    have hrun := fun ty => run_append_grow_src (P := P) w t' t' ty e ie z hu g2' g3 A n cap _ hold (.slice (some a') m cap') m vs hsr hr (by have := hmax.1; simp only [maxLen] at this; omega) (growslice_fits hr (by rw [g4]; exact hmax.2))
    have hge := grownCap_ge w (n + m) cap e
    have hcmx : grownCap w (n + m) cap e ≤ maxLen := grownCap_le_maxLen w (n + m) cap e hmax.1
    have hk := hgrow hr (grownCap w (n + m) cap e) hge hcmx _ _ rfl rfl
    generalize grownCap w (n + m) cap e = c at *
    have hexec : (execOp a.eval o).run P w = .ok (.value (.slice (some ⟨w.heap.size, 0, none⟩) (n + m) c)) (w.drew.alloc (.cells (((ws.drop off).take (n * j.size) ++ vs).toArray ++ Builtin.zeroCells z.cells (c - (n + m))) e)) := by
      obtain ⟨dst, op, type, pos, after, guard⟩ := o
      simp only at hop
      subst hop
      simp only [execOp, resolve, invoke, builtin, Array.map, ex, ey]
      have := hrun type
      simp [ex, ey, this]
    rw [hexec, Oper.uponIn_value, hd]
    have hb1 : Below w.heap.size w w.drew := (Below.refl _ _).drew
    have E := msat_ext hs.mem hb1 G.imm (fun _ _ i => i) (fun _ _ i => .inl i) (fun b o i => hs.mem.immOk b o i)
    have hs1 : Sat C G a w.drew ⟨nt, nb, sl, bx, rw, ys⟩ := hs.called (Outside.of_below hb1) E.le (fun _ _ i => .inl i) (fun _ h => .inl h) (fun x hx g hg => .inl ⟨x, hx, hg⟩) E.mem
    have hcells : AV.relL G w.drew (((cl.drop off).take (n * j.size) ++ us) ++ zerosA (c - (n + m)) j.zero) (((ws.drop off).take (n * j.size) ++ vs) ++ zerosV (c - (n + m)) j.zero) :=
      AV.relL_append (AV.relL_mono E.le _ _ (AV.relL_append (AV.relL_take _ (AV.relL_drop _ b4)) hvr)) (zerosA_rel _ _)
    have hs2 := hs1.push e hcells
    have harr : (((ws.drop off).take (n * j.size) ++ vs) ++ zerosV (c - (n + m)) j.zero).toArray = ((ws.drop off).take (n * j.size) ++ vs).toArray ++ Builtin.zeroCells z.cells (c - (n + m)) := by
      apply Array.ext'
      simp [zeroCells_list, e2]
    rw [harr] at hs2
    refine hK _ _ (hk C _ _ _ Q (hs2.put (by simpa [Nat.blt_eq] using hn) (fun _ => ⟨w.heap.size, _, ?_, rfl, hge, hcmx, fun _ => rfl⟩) (fun h => by cases h)) hQ)
    show (G.bx ++ [w.heap.size])[bx.length]? = _
    have hlb : G.bx.length = bx.length := hs.mem.lenB
    rw [← hlb, List.getElem?_append_right (Nat.le_refl _), Nat.sub_self]
    rfl
/-- 'append(s, make([]T, k)...)' where there is no room. -/
theorem runS_appZ (hT : TOk P T) (hg : o.guard = none) (hd : o.dst = some d) (hn : Nat.blt d nt = true)
    {x y : Operand} {t tn : TypeId} (hop : o.op = .call ⟨.builtin .append, #[x, y], #[t, tn]⟩) {sz b off n cap k : Nat} {kq : IntKind} (hx : (ASt.mk nt nb sl bx rw ys).ev x = some (true, .bsl sz b off n cap)) (hy : (ASt.mk nt nb sl bx rw ys).ev y = some (true, .raw (.int kq k)))
    {e s1 b1 : Nat} {z1 : List Value} {q1 : List CK} (h2 : T t = some ⟨.slice e, s1, b1, z1, q1⟩) {kn : IntKind} {s2 b2 : Nat} {z2 : List Value} {q2 : List CK} (h2' : T tn = some ⟨.int kn, s2, b2, z2, q2⟩) {j : TI} (h3 : T e = some j) (hsz : sz = j.size ∧ 0 < j.size ∧ j.zero.length = j.size) (h0 : 0 < k) {cl : List AV} (hb : bx[b]? = some cl)
    (hfit : off + n * sz ≤ cl.length) (hmax : n + k ≤ maxLen ∧ (n + k) * j.bytes ≤ 140737488355328) (hr : cap < n + k)
    (hgrow : ∀ c, n + k ≤ c → c ≤ maxLen → ∀ bx' bn, bx.length = bn → bx ++ [((cl.drop off).take (n * sz) ++ zerosA k j.zero) ++ zerosA (c - (n + k)) j.zero] = bx' → runS P ops rest K ⟨nt, nb, (d, (true, .bsl sz bn 0 (n + k) c)) :: sl, bx', rw, ys⟩) : runS P ops (o :: rest) K ⟨nt, nb, sl, bx, rw, ys⟩ := by
  obtain ⟨rfl, j0, jz⟩ := hsz
  intro C G a w Q hs hQ
  have hev : ∀ y ∈ o.op.operands.toList, EvOk G w a ⟨nt, nb, sl, bx, rw, ys⟩ y := fun y hy => evOk_of fun t ht => hs.slot t
  obtain ⟨blk, A, hA0, ex, hnc, hcm, hA⟩ := hev x (by rw [hop]; simp [Op.operands, Call.operands]) _ _ hx rfl
  have ey : a.eval y = .int kq k := hev y (by rw [hop]; simp [Op.operands, Call.operands]) _ _ hy rfl
  have hu := slice_of hT h2
  have hun : P.underlying tn = some (.int kn) := by
    obtain ⟨d1, u1, u2⟩ := (hT _ _ h2').und_some
    rw [u1, tkOf_int u2]
  obtain ⟨ie, z, g2', g1', g3, g4, e2⟩ := info_of hT h3
  obtain ⟨_, ws, Ty, b3, b4⟩ := hs.mem.box b cl blk hb hA0
  have hwl := AV.relL_length b4
  refine wpListIn_plain hg fun K' hK => ?_
  refine wpIn_of_run (fun c hc => by rw [hop] at hc; cases hc) ?_
  have hold : (Builtin.firstCells ie.size n (.slice A n cap)).run P w.drew = .ok ((ws.drop off).take (n * j.size)).toArray w.drew := by
    rw [g1']
    rcases Nat.eq_zero_or_pos cap with h | h
    · have hn0 : n = 0 := by omega
      subst hn0
      cases A with
      | none => simp [run_firstCells_none]
      | some A => exact run_firstCells_some (P := P) w.drew j.size 0 A 0 cap _ (by simp) (fun q u hq => by simp at hq)
    · rw [hA h]
      refine run_firstCells_some (P := P) w.drew j.size n ⟨blk, off, none⟩ n cap _ (by simp; omega) (fun q u hq => ?_)
      rw [add_lit]
      rw [List.getElem?_take] at hq
      split at hq
      · rw [List.getElem?_drop] at hq
        have := cell_of_heap b3 hq
        simpa using this
      · cases hq
  have hkb : k * ie.bytes ≤ 281474976710656 := by
    have h1 : k * j.bytes ≤ (n + k) * j.bytes := Nat.mul_le_mul_right _ (by omega)
    rw [g4]; omega
  have hrun := fun ty => Lib.run_append_grow_zeros (P := P) w t tn ty e ie z kq kn hu hun g2' g3 A n cap _ hold k h0 (by rw [g1']; exact j0) hr (by have := hmax.1; simp only [maxLen] at this; omega) hkb (growslice_fits hr (by rw [g4]; exact hmax.2))
  have hge := grownCap_ge w (n + k) cap e
  have hcmx : grownCap w (n + k) cap e ≤ maxLen := grownCap_le_maxLen w (n + k) cap e hmax.1
  have hk := hgrow (grownCap w (n + k) cap e) hge hcmx _ _ rfl rfl
  generalize grownCap w (n + k) cap e = c at *
  have hexec : (execOp a.eval o).run P w = .ok (.value (.slice (some ⟨w.heap.size, 0, none⟩) (n + k) c)) (w.drew.alloc (.cells (((ws.drop off).take (n * j.size)).toArray ++ Builtin.zeroCells z.cells k ++ Builtin.zeroCells z.cells (c - (n + k))) e)) := by
    obtain ⟨dst, op, type, pos, after, guard⟩ := o
    simp only at hop
    subst hop
    simp only [execOp, resolve, invoke, builtin, ex, ey]
    have := hrun type
    simp [ex, ey, this]
  rw [hexec, Oper.uponIn_value, hd]
  have hb1 : Below w.heap.size w w.drew := (Below.refl _ _).drew
  have E := msat_ext hs.mem hb1 G.imm (fun _ _ i => i) (fun _ _ i => .inl i) (fun b o i => hs.mem.immOk b o i)
  have hs1 : Sat C G a w.drew ⟨nt, nb, sl, bx, rw, ys⟩ := hs.called (Outside.of_below hb1) E.le (fun _ _ i => .inl i) (fun _ h => .inl h) (fun x hx g hg => .inl ⟨x, hx, hg⟩) E.mem
  have hcells : AV.relL G w.drew (((cl.drop off).take (n * j.size) ++ zerosA k j.zero) ++ zerosA (c - (n + k)) j.zero) (((ws.drop off).take (n * j.size) ++ zerosV k j.zero) ++ zerosV (c - (n + k)) j.zero) :=
    AV.relL_append (AV.relL_append (AV.relL_mono E.le _ _ (AV.relL_take _ (AV.relL_drop _ b4))) (zerosA_rel _ _)) (zerosA_rel _ _)
  have hs2 := hs1.push e hcells
  have harr : (((ws.drop off).take (n * j.size) ++ zerosV k j.zero) ++ zerosV (c - (n + k)) j.zero).toArray = ((ws.drop off).take (n * j.size)).toArray ++ Builtin.zeroCells z.cells k ++ Builtin.zeroCells z.cells (c - (n + k)) := by
    apply Array.ext'
    simp [zeroCells_list, e2]
  rw [harr] at hs2
  refine hK _ _ (hk C _ _ _ Q (hs2.put (by simpa [Nat.blt_eq] using hn) (fun _ => ⟨w.heap.size, _, ?_, rfl, hge, hcmx, fun _ => rfl⟩) (fun h => by cases h)) hQ)
  show (G.bx ++ [w.heap.size])[bx.length]? = _
  have hlb : G.bx.length = bx.length := hs.mem.lenB
  rw [← hlb, List.getElem?_append_right (Nat.le_refl _), Nat.sub_self]
  rfl
theorem run_overlaps_own {w : World} {t tr e : TypeId} (hu : P.underlying t = some (.slice e)) {size : Nat} (hsz : ∀ w, (sizeOf e).run P w = .ok size w) (A B : Option Addr) (blk off m c n c' : Nat) (hB : B = none ∨ n = 0 ∨ B = some ⟨blk, off, none⟩) {cs : Array Value} {Ty : TypeId} (hb : w.heap[blk]? = some (.cells cs Ty (0, 0)))
    (h : 0 < m → ∃ b o u, A = some ⟨b, o, none⟩ ∧ b ≠ blk ∧ (0 < size → w.cell? ⟨b, o, none⟩ = some u)) (hk : 0 < n → 0 < size → cs.size ≠ 0) :
    (Extern.SlicesOverlaps.overlaps #[t, t] #[tr] #[.slice A m c, .slice B n c']).run P w = .ok (.bool false) w := by
  change Sem.run P (α := Value) (do
    let some t := (#[t, t] : Array TypeId)[0]? | stuck "slices.overlaps: no parameter types"
    let .slice elem ← underlying t | stuck "slices.overlaps: slice type expected"
    let size ← sizeOf elem
    match A, B with
    | some a, some b =>
      if m = 0 ∨ n = 0 ∨ size = 0 then pure (Value.bool false)
      else if a.block != b.block && (← frozen a) && (← frozen b) then unsupported .addressObserved
      else do
        if a.block != b.block then do
          noView a; noView b
          if ← mayBeOne a b then return Value.bool ((← choose (.extern "sameAddr.stringBytes" 2)) == 1)
        pure (Value.bool (a.block == b.block && a.off < b.off + n * size && b.off < a.off + m * size))
    | _, _ => pure (Value.bool false)) w = _
  cases A with
  | none => simp [run_underlying hu, hsz]
  | some A =>
   cases B with
   | none => simp [run_underlying hu, hsz]
   | some B =>
    by_cases h0 : m = 0 ∨ n = 0 ∨ size = 0
    · simp [run_underlying hu, hsz, h0]
    · obtain ⟨b, o, u, e1, e2, e3⟩ := h (by omega)
      cases e1
      have hne : (b != blk) = true := by simpa using e2
      have hne' : (b == blk) = false := by simpa using e2
      obtain rfl : B = ⟨blk, off, none⟩ := by
        rcases hB with h | h | h
        · cases h
        · omega
        · exact Option.some.inj h
      have hc := e3 (by omega)
      have hks := hk (by omega) (by omega)
      unfold World.cell? at hc
      split at hc
      · rename_i c0 el0 fz hh
        have hlt : o < c0.size := by
          simp only [Option.isSome_none, Bool.false_eq_true, if_false] at hc
          exact (Array.getElem?_eq_some_iff.1 hc).1
        cases hcs : cs.size with
        | zero => exact absurd hcs hks
        | succ q =>
          cases hc0 : c0.size with
          | zero => omega
          | succ q' =>
            obtain ⟨lo, hi⟩ := fz
            simp [run_underlying hu, hsz, h0, hne, hne', frozen, noView, viewAt, mayBeOne, stringish, shape, Sem.run, World.frozen?, World.shape?, hh, hb, hcs, hc0]
      · cases hc
/-- What slices.Insert asks: whether a list that nobody writes and a slice of an own variable overlap. -/
theorem runS_overlaps (hT : TOk P T) (hg : o.guard = none) (hd : o.dst = some d) (hn : Nat.blt d nt = true) {f : FuncId} {fn : Func} {x y : Operand} {ats : Array TypeId} {t tr : TypeId} (hf : P.funcs[f]? = some fn) (hname : (fn.name == "runtime.NumGoroutine") = false)
    (hbd : fn.body.isNone = true) (hfn : Extern.findNext fn = none) (he : Extern.find fn = some (Extern.SlicesOverlaps.overlaps #[t, t] #[tr])) (hop : o.op = .call ⟨.value (.func f), #[x, y], ats⟩)
    {e s1 b1 : Nat} {z1 : List Value} {q1 : List CK} (h2 : T t = some ⟨.slice e, s1, b1, z1, q1⟩) {j : TI} (h3 : T e = some j) {sz m sz' b off n cap : Nat} {el : Nat → List AV} (hx : (ASt.mk nt nb sl bx rw ys).ev x = some (true, .lst sz m el)) (hy : (ASt.mk nt nb sl bx rw ys).ev y = some (true, .bsl sz' b off n cap)) (hsz : sz = j.size ∧ 0 < j.size)
    {cl : List AV} (hb : bx[b]? = some cl) (hcl : 0 < cl.length)
    (h : runS P ops rest K ⟨nt, nb, (d, (true, .raw (.bool false))) :: sl, bx, rw, ys⟩) : runS P ops (o :: rest) K ⟨nt, nb, sl, bx, rw, ys⟩ := by
  obtain ⟨rfl, j0⟩ := hsz
  intro C G a w Q hs hQ
  have hev : ∀ y ∈ o.op.operands.toList, EvOk G w a ⟨nt, nb, sl, bx, rw, ys⟩ y := fun y hy => evOk_of fun t ht => hs.slot t
  obtain ⟨blk, B, hB0, ey, hnc, hcm, hB⟩ := hev y (by rw [hop]; simp [Op.operands, Call.operands]) _ _ hy rfl
  obtain ⟨A, c, ex, _, _, hA⟩ := hev x (by rw [hop]; simp [Op.operands, Call.operands]) _ _ hx rfl
  have hu := slice_of hT h2
  obtain ⟨g0, ws, Ty, b3, b4⟩ := hs.mem.box b cl blk hb hB0
  have hwl := AV.relL_length b4
  have hov : (Extern.SlicesOverlaps.overlaps #[t, t] #[tr] #[a.eval x, a.eval y]).run P w = .ok (.bool false) w := by
    rw [ex, ey]
    refine run_overlaps_own (P := P) hu (fun w => (hT _ _ h3).size_run w) A B blk off m c n cap ?_ b3 (fun hm => ?_) (fun _ _ h => by rw [List.size_toArray] at h; omega)
    · rcases Nat.eq_zero_or_pos cap with h | h
      · exact .inr (.inl (by omega))
      · exact .inr (.inr (hB h))
    · obtain ⟨b', o', rfl, h5⟩ := hA hm
      obtain ⟨vs, h6, h7, h8⟩ := h5 0 hm
      have hvs : vs[0]? = some vs[0] := List.getElem?_eq_getElem (by omega)
      obtain ⟨h9, h10⟩ := h8 0 _ hvs
      simp only [Nat.zero_mul, Nat.add_zero] at h9 h10
      exact ⟨b', o', vs[0], rfl, fun e => g0 o' (e ▸ h9), fun _ => h10⟩
  refine wpListIn_plain hg fun K' hK => ?_
  refine wpIn_of_run (fun c hc => by rw [hop] at hc; cases hc) ?_
  have hexec : (execOp a.eval o).run P w = .ok (.value (.bool false)) w := by
    obtain ⟨dst, op, type, pos, after, guard⟩ := o
    simp only at hop
    subst hop
    have hcf := run_callFunc_extern (P := P) hf hname hbd hfn he #[a.eval x, a.eval y] w
    rw [hov] at hcf
    have e1 : a.eval (.func f) = .func (.func f) #[] #[] := rfl
    simp only [execOp, resolve, e1, Deferred.ofValue, Sem.run_bind, Sem.run_pure, Result.andThen_ok, invoke]
    simpa using hcf
  rw [hexec, Oper.uponIn_value, hd]
  exact hK _ _ (h C G _ w Q (hs.put (by simpa [Nat.blt_eq] using hn) (fun _ => rfl) (fun h => by cases h)) hQ)
theorem putL_eq {α : Type} : ∀ (cs : List α) (off : Nat) (us : List α), off + us.length ≤ cs.length → putL cs off us = cs.take off ++ (us ++ cs.drop (off + us.length))
  | [], 0, us, h => by
    have : us = [] := List.eq_nil_of_length_eq_zero (by simpa using h)
    subst this; rfl
  | c :: cs, 0, us, h => by
    have e : ∀ (us cs : List α), us.length ≤ cs.length → overL us cs = us ++ cs.drop us.length := by
      intro us
      induction us with
      | nil => intro cs _; rfl
      | cons u us ih => intro cs h; cases cs with
        | nil => simp at h
        | cons c cs => simp [overL, ih cs (by simpa using h)]
    have : putL (c :: cs) 0 us = overL us (c :: cs) := rfl
    rw [this, e us _ (by simpa using h)]
    simp
  | [], n + 1, us, h => by simp at h
  | c :: cs, n + 1, us, h => by
    have : putL (c :: cs) (n + 1) us = c :: putL cs n us := rfl
    rw [this, putL_eq cs n us (by simp at h; omega)]
    simp [Nat.add_right_comm n 1]
theorem flat_take {α : Type} {enc : α → List AV} {sz : Nat} (h : ∀ x, (enc x).length = sz) : ∀ (l : List α) (i : Nat), (l.flatMap enc).take (i * sz) = (l.take i).flatMap enc
  | [], i => by simp
  | x :: l, 0 => by simp
  | x :: l, i + 1 => by
    rw [List.flatMap_cons, List.take_succ_cons, List.flatMap_cons, List.take_append, h, Nat.add_mul, Nat.one_mul, List.take_of_length_le (by rw [h]; omega), Nat.add_sub_cancel, flat_take h l i]
theorem flat_drop {α : Type} {enc : α → List AV} {sz : Nat} (h : ∀ x, (enc x).length = sz) : ∀ (l : List α) (i : Nat), (l.flatMap enc).drop (i * sz) = (l.drop i).flatMap enc
  | [], i => by simp
  | x :: l, 0 => by simp
  | x :: l, i + 1 => by
    rw [List.flatMap_cons, List.drop_succ_cons, List.drop_append, h, Nat.add_mul, Nat.one_mul, List.drop_of_length_le (by rw [h]; omega), Nat.add_sub_cancel, flat_drop h l i, List.nil_append]
theorem put_mid {α : Type} {A B C us : List α} {off : Nat} (hA : A.length = off) (hB : B.length = us.length) : putL (A ++ (B ++ C)) off us = A ++ (us ++ C) := by
  rw [putL_eq _ _ _ (by simp; omega), List.take_left' hA, ← List.append_assoc A B C, List.drop_left' (by simp; omega)]
end rules
mutual
theorem bel_free (m : Nat) : ∀ (x : AV), x.free → x.bel m
  | .raw _, _ => trivial
  | .agg cs, h => belL_free' m cs h
  | .tup cs, h => belL_free' m cs h
  | .lst _ n el, h => fun i hi => belL_free' m (el i) (h i hi)
  | .elt cs _, h => belL_free' m cs h
  | .box _ _, h => h.elim
  | .fn _ a b, h => ⟨belL_free' m a h.1, belL_free' m b h.2⟩
  | .row _ _, h => h.elim
  | .bsl _ _ _ _ _, h => h.elim
theorem belL_free' (m : Nat) : ∀ (xs : List AV), AV.freeL xs → AV.belL m xs
  | [], _ => trivial
  | x :: xs, h => ⟨bel_free m x h.1, belL_free' m xs h.2⟩
end
theorem belL_free {m : Nat} (xs : List AV) (h : AV.freeL xs) : AV.belL m xs := belL_free' m xs h
/-- That only own variables that are kept are named. -/
theorem obb {p : Prop} (h : p := by first
    | trivial
    | (simp [belB, belR, AV.bel, AV.belL]; done)
    | (simp only [belB, belR, AV.bel, AV.belL, and_true, true_and, and_self]; (repeat' apply And.intro) <;> first | trivial | omega | (simp; done) | (refine bel_free _ _ ?_; first | assumption | exact lA_free (fun _ => by simp) _) | (refine belL_free _ ?_; first | assumption | (simp; done)) | (intro r hr; cases hr; done))
    | (intro r hr; simp at hr; done)
    | (simp_all [belB, belR, AV.bel, AV.belL]; done)
    | fail) : p := h
/-- A call, maybe under a condition, of a function that reads variables of its caller. -/
theorem sCallGq (ib ir : List Nat) {P : Program} {ops : Array Oper} {rest : List Oper} {K : ASt → Prop} {nt nb : Nat} {sl : List (Nat × (Bool × AV))} {bx : List (List AV)} {rw : List ARow} {ys : (Nat × List (List AV)) × List (List AV) × Bool} {o : Oper} {d : Nat} {g : Bool} {f : FuncId} {args : List AV} {sub : List (List AV)} {rsub : List ARow} {r : AV}
    (hgd : guardA ops ⟨nt, nb, sl, bx, rw, ys⟩ o = some g) (F : g = true → FnG P f args sub rsub r sub rsub) (hd : o.dst = some d) (hn : Nat.blt d nt = true)
    (h : ∃ m, bx.length = m ∧ ∃ n, rw.length = n ∧ ∃ cs, callA ⟨nt, nb, sl, bx, rw, ys⟩ o.op = some (cs, f, AV.renL (idx ib m) (idx ir n) args) ∧ (g = true → ∀ c ∈ cs, c = true) ∧ ib.Nodup ∧ ir.Nodup ∧ handL bx (AV.renL (idx ib m) (idx ir n)) ib sub ∧ handL rw (ARow.ren (idx ib m) (idx ir n)) ir rsub ∧
      ((∀ cs ∈ sub, AV.subL ib.length ir.length cs) ∧ (∀ r ∈ rsub, ∀ q, q < r.n → AV.subL ib.length ir.length (r.el q)) ∧ AV.subL ib.length ir.length args ∧ ib.length ≤ sub.length ∧ ir.length ≤ rsub.length) ∧
      ∃ r1, r.ren (idx ib m) (idx ir n) = r1 ∧ setAll bx ib (sub.map (AV.renL (idx ib m) (idx ir n))) = bx ∧ setAll rw ir (rsub.map (ARow.ren (idx ib m) (idx ir n))) = rw ∧
      runS P ops rest K ⟨nt, nb, (d, (g, r1)) :: sl, bx, rw, ys⟩) : runS P ops (o :: rest) K ⟨nt, nb, sl, bx, rw, ys⟩ := by
  obtain ⟨m, rfl, n, rfl, cs, h1, h2, h3, h4, h5, h6, ⟨h7, h8, h9, h10, h11⟩, r1, rfl, h12, h13, h14⟩ := h
  intro C G a w Q hs hQ
  have hw := guardA_sound hgd (G := G) (w := w) (a := a) (fun t _ => hs.slot t)
  have hdl : d < nt := by simpa [Nat.blt_eq] using hn
  unfold wpListIn
  rw [hw]
  cases g with
  | false =>
    simp only [Bool.false_eq_true, if_false]
    rw [hd]
    exact ⟨fun _ _ => trivial, h14 C G _ w Q (hs.put hdl (fun h => by cases h) (fun _ => rfl)) hQ⟩
  | true =>
    simp only [if_true]
    have F' := (F rfl).frame ib ir (handOk_of h3 h4 h5 h6 h7 h8) h9 h10 h11
    rw [h12, h13] at F'
    obtain ⟨vs, g1, g2⟩ := callA_sound (P := P) (a := a) h1 (fun y hy => evOk_of fun t ht => hs.slot t) (h2 rfl) F'.ok
    refine wpIn_of_run (fun c hc => by rw [hc] at h1; simp [callA] at h1) ?_
    rw [g2, Oper.uponIn_enter]
    refine ⟨fun h => by simp [fen] at h, callsIn_fen ?_⟩
    refine (F'.calls G w vs hs.tabs hs.tabs_own hs.mem g1).mono ?_
    rintro e w' ⟨v, G', rfl, hout, hle, hfr, hB, hR', hm1, hv⟩
    rw [hd]
    exact h14 C G' _ w' Q ((hs.called hout hle hfr hB hR' hm1).put hdl (fun _ => hv) (fun h => by cases h)) hQ
attribute [go_sem] twoB argsB isCopy ASt.src
end Go.Proofs.YtihnjbnlbedpaaaGreatDoor
