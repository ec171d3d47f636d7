import Derived.Test.YtioaahmkebojiaaGreatDoorWC01
import Derived.Deep.AppendSrc
import Derived.Laws.Externs
import Derived.Lib.AppendZerosOnto
import Derived.Test.YtioaahmkebojiaaGreatDoorWC04
import Derived.Test.YtioaahmkebojiaaGreatDoorWC06
namespace Go.Proofs.YtioaahmkebojiaaGreatDoor
set_option linter.unusedVariables false
set_option linter.unusedSimpArgs false
set_option maxHeartbeats 4000000
set_option maxRecDepth 100000
open Go.RowKit

def kT (L : List Nat) (sl : List (Nat × (Bool × AV))) : List (Nat × (Bool × AV)) := sl.filter fun e => L.contains e.1
theorem zAx {L : List Nat} {t : Nat} : ∀ {sl : List (Nat × (Bool × AV))}, yL t (kT L sl) = bif L.contains t then yL t sl else none
 | [] => by cases L.contains t <;> rfl
 | (s, e) :: r => by
  have ih := zAx (L := L) (t := t) (sl := r)
  unfold kT at ih ⊢
  rw [List.filter_cons]
  by_cases hs : L.contains s = true
  ·simp only [hs, if_true, yL]
   cases hb : Nat.beq t s
   ·simp only [yN5]; exact ih
   ·obtain rfl := yMs hb
    rw [hs]; rfl
  ·simp only [hs, yO0, if_false, yL]
   rw [ih]
   cases hb : Nat.beq t s
   ·rfl
   ·obtain rfl := yMs hb
    cases hc : L.contains t
    ·rfl
    ·exact absurd hc hs
def dl : Option Nat → (Bool × AV) → List (Nat × (Bool × AV))
 | some d, e => [(d, e)]
 | none, _ => []
theorem zYx {o : Option Nat} {e : Bool × AV} {t : Nat} {x : Bool × AV} (h : yL t (dl o e) = some x) : o = some t ∧ e = x := by
 cases o with
 | none => cases h
 | some d =>
  simp only [dl, yL] at h
  cases hb : Nat.beq t d
  ·rw [hb] at h; cases h
  ·rw [hb] at h
   cases h
   exact ⟨by rw [yMs hb], rfl⟩
def hrm (o : Oper) : Bool := match o.op with
 | .store _ _ _ => false
 | .call _ => false
 | .buildSlice _ _ _ => false
 | .makeSlice _ _ _ => false
 | .makeMap _ _ => false
 | .mapUpdate _ _ _ _ => false
 | _ => true
def zNi (all : Bool) (bx ext : List (List AV)) : List (List AV) := bif all then ext else bx ++ ext
def zFh (all : Bool) (bx bx' : List (List AV)) : Prop := ∃ ext, bx' = zNi all bx ext
def zL2 (P : Program) (full : Array Oper) (all : Bool) (bx0 : List (List AV)) (o : Oper) (k : ASt → Prop) (st : ASt) : Prop :=
 st.bx.length < 64 ∧ ∀ nb, yZ P full [o] (fun st' => ∃ ent bx' rw', st' = ⟨st.nt, nb, dl o.dst ent ++ kT (o.looksAt full) st.sl, bx', rw', st.ys⟩ ∧ zFh all bx0 bx' ∧ (hrm o = true → rw' = st.rw ∧ ∃ ext, bx' = st.bx ++ ext) ∧
   k ⟨st.nt, st.nb, dl o.dst ent ++ st.sl, bx', rw', st.ys⟩) ⟨st.nt, nb, kT (o.looksAt full) st.sl, st.bx, st.rw, st.ys⟩
theorem zGd {P : Program} {full : Array Oper} {all : Bool} {bx0 : List (List AV)} {o : Oper} {k k' : ASt → Prop} {st : ASt} (hk : ∀ s, k s → k' s) (h : zL2 P full all bx0 o k st) : zL2 P full all bx0 o k' st :=
 ⟨h.1, fun nb C G a w Q hs hQ => h.2 nb C G a w Q hs fun G' a' w' st' hs' ⟨ent, bx', rw', e, k1, k2, k3⟩ => hQ G' a' w' st' hs' ⟨ent, bx', rw', e, k1, k2, hk _ k3⟩⟩
def zU5 (P : Program) (full : Array Oper) (all : Bool) (bx0 : List (List AV)) : List Oper → (ASt → Prop) → ASt → Prop
 | [], k, st => k st
 | o :: r, k, st => zL2 P full all bx0 o (zU5 P full all bx0 r k) st
inductive AK where
 | first | any
def zZi (P : Program) (full : Array Oper) (all : Bool) (st : ASt) (o : Oper) (sl : List (Nat × (Bool × AV))) (g : Bool) (x : AV) : AK → Prop
 | .first => ∀ ext, vU P full o { st with sl := sl, bx := st.bx ++ ext } g x
 | .any => ∀ ext rw', vU P full o { st with sl := sl, bx := zNi all st.bx ext, rw := rw' } g x
abbrev AEn := Nat × AK × (Nat × (Bool × AV))
def slA (es : List AEn) : List (Nat × (Bool × AV)) := (es.map (·.2.2)).reverse
def zQ0 (es : List AEn) : List (Nat × AK) := es.map fun e => (e.1, e.2.1)
def zM (full : List Oper) (i j : Nat) : Bool := match full[i]? with
 | some o => vN o j
 | none => false
def zSi (full : List Oper) (i : Nat) : Bool := match full[i]? with
 | some o => hrm o
 | none => false
def zHw (full : List Oper) : List Nat → Nat → Bool
 | [], _ => true
 | b :: r, i => zM full b i || (zSi full b && zHw full r i)
def AK.isFirst : AK → Bool
 | .first => true
 | .any => false
def wF (full : List Oper) : List Nat → Bool
 | a :: b :: r => zM full b a && wF full (b :: r)
 | _ => true
def zEa : List Nat → Bool
 | a :: b :: r => Nat.blt a b && zEa (b :: r)
 | _ => true
def zVa (full : List Oper) (ia : List (Nat × AK)) (i t : Nat) : Bool := full.zipIdx.all fun y => y.1.dst != some t || ((ia.any fun e => e.1 == y.2) && Nat.blt y.2 i && zM full i y.2) || (Nat.blt i y.2 && vN y.1 i)
def zV9 (full : List Oper) (i t : Nat) : Bool := full.zipIdx.all fun y => y.1.dst != some t || zM full i y.2
def zT6 (full : List Oper) (ia : List (Nat × AK)) (ib : List Nat) : Bool :=
 (((List.range full.length).all fun i => (ia.any fun e => e.1 == i) || ib.contains i) && (ib.all fun i => !(ia.any fun e => e.1 == i) && Nat.blt i full.length)) &&
 ((full.zipIdx.all fun x => x.1.after.all fun e => !Region.binds .any e || Nat.blt e.on x.2) && (full.zipIdx.all fun x => full.zipIdx.all fun y => y.2 == x.2 || x.1.dst.isNone || x.1.dst != y.1.dst)) &&
 ((wF full ib && zEa (ia.map (·.1)) && ia.all fun e => !e.2.isFirst || zHw full ib e.1) &&
 (full.zipIdx.all fun x => (x.1.looksAt full.toArray).all fun t => bif ib.contains x.2 then zV9 full x.2 t else zVa full ia x.2 t) && kV full)
theorem zQ8 {P : Program} {o : Oper} {ro : Option Nat} {a : Act} {w : World} {K0 : Act → World → Prop} {Q0 Q : Exit → Act → World → Prop} (hd : ∀ c, o.op ≠ .defer c) (ds : List Deferred) (hQ : ∀ e a' w', Q0 e a' w' → e = .normal)
  (h : o.wpIn (fen ro) 0 P { a with defers := ds } w K0 Q0) : o.wpIn (fen ro) 0 P a w (fun a' w' => ∃ v pre, a' = ({ a with defers := pre ++ a.defers } : Act).put o.dst v ∧ K0 (({ a with defers := pre ++ ds } : Act).put o.dst v) w') Q := by
 have he : ({ a with defers := ds } : Act).eval = a.eval := rfl
 unfold Oper.wpIn at *
 rw [he] at h
 refine ⟨h.1, ?_⟩
 have h := h.2
 have hsem : ∀ ρ : Operand → Value, Oper.semAt (fen ro).round ρ o = execOp ρ o := fun ρ => zIt ro ρ o hd
 rw [hsem] at h ⊢
 generalize (execOp a.eval o).run P w = r at *
 cases r with
 | ok x w' =>
  cases x <;> simp only [Oper.uponIn] at h ⊢
  case value u => exact ⟨u, [], rfl, h⟩
  case skip => exact ⟨undef, [], rfl, h⟩
  case defer d => exact ⟨undef, [d], rfl, h⟩
  case enter f args =>
   refine ⟨h.1, CallsIn.mono h.2 fun e w'' he => ?_⟩
   cases e with
   | returned u => exact ⟨u, [], rfl, he⟩
   | panicked c => exact absurd (hQ _ _ _ he) sq
   | outgrown => obtain ⟨a1, w1, he⟩ := he; exact absurd (hQ _ _ _ he) sq
  case row row args => exact ⟨h.1, RowsIn.mono h.2 fun u w'' he => ⟨u, [], rfl, he⟩⟩
  case round l f tmps assign body =>
   refine ⟨h.1, RoundIn.mono h.2 fun e w'' he => ?_⟩
   cases e with
   | returned u => exact ⟨u, [], rfl, he⟩
   | panicked c => exact absurd (hQ _ _ _ he) sq
   | outgrown => obtain ⟨a1, w1, he⟩ := he; exact absurd (hQ _ _ _ he) sq
 | halt x w' =>
  cases x <;> simp only [Oper.uponIn] at h ⊢
  case panic u => exact absurd (hQ _ _ _ h) sq

def yC1 (full : List Oper) (rem : List Nat) (i : Nat) : Bool := rem.all fun j => !zM full i j
def runT (P : Program) (full : List Oper) (all : Bool) (bx0 : List (List AV)) : Nat → List Nat → (ASt → Prop) → ASt → Prop
 | 0, _, k, st => k st
 | m + 1, rem, k, st => ∀ i ∈ rem, yC1 full rem i = true → ∀ o, full[i]? = some o → zL2 P full.toArray all bx0 o (runT P full all bx0 m (rem.erase i) k) st
def zOi (full : List Oper) (ib : List Nat) (i : Nat) : Prop := ∀ listed : Nat → Prop, (∀ b c, zM full b c = true → listed b → listed c) → ¬ listed i → ∀ b ∈ ib, listed b → zSi full b = true
structure yCm (full : List Oper) (ia : List (Nat × AK)) (ib : List Nat) : Prop where
 cover : ∀ i, i < full.length → (∃ e ∈ ia, e.1 = i) ∨ i ∈ ib
 apart : ∀ i ∈ ib, i < full.length ∧ ∀ e ∈ ia, e.1 ≠ i
 back : ∀ (i : Nat) (o : Oper), full[i]? = some o → ∀ e ∈ o.after, Region.binds .any e = true → e.on < i
 dst : ∀ (i j : Nat) (o o' : Oper) (d : Nat), full[i]? = some o → full[j]? = some o' → o.dst = some d → o'.dst = some d → i = j
 nodup : ib.Nodup
 rises : zEa (ia.map (·.1)) = true
 first : ∀ e ∈ ia, e.2.isFirst = true → zOi full ib e.1
 looksB : ∀ (i : Nat) (o : Oper) (t : Nat), full[i]? = some o → i ∈ ib → t ∈ o.looksAt full.toArray → ∀ (j : Nat) (o' : Oper), full[j]? = some o' → o'.dst = some t → vN o j = true
 looksA : ∀ (i : Nat) (o : Oper) (t : Nat), full[i]? = some o → i ∉ ib → t ∈ o.looksAt full.toArray → ∀ (j : Nat) (o' : Oper), full[j]? = some o' → o'.dst = some t → ((∃ e ∈ ia, e.1 = j) ∧ j < i ∧ vN o j = true) ∨ (i < j ∧ vN o' i = true)
 plain : kV full = true
def zMa (full : List Oper) (i : Nat) : List Nat := (List.range full.length).foldl (fun acc j => bif zM full j i || acc.any (fun c => zM full j c) then j :: acc else acc) []
def zHv (full : List Oper) (ib : List Nat) (i : Nat) : Bool := ib.all fun b => zSi full b || zM full b i || (zMa full i).contains b
def zJe : List Nat → Bool
 | [] => true
 | a :: r => !(r.contains a) && zJe r
def zT5 (full : List Oper) (ia : List (Nat × AK)) (ib : List Nat) : Bool :=
 (((List.range full.length).all fun i => (ia.any fun e => e.1 == i) || ib.contains i) && (ib.all fun i => !(ia.any fun e => e.1 == i) && Nat.blt i full.length)) &&
 ((full.zipIdx.all fun x => x.1.after.all fun e => !Region.binds .any e || Nat.blt e.on x.2) && (full.zipIdx.all fun x => full.zipIdx.all fun y => y.2 == x.2 || x.1.dst.isNone || x.1.dst != y.1.dst)) &&
 ((zJe ib && zEa (ia.map (·.1)) && ia.all fun e => !e.2.isFirst || zHv full ib e.1) &&
 (full.zipIdx.all fun x => (x.1.looksAt full.toArray).all fun t => bif ib.contains x.2 then zV9 full x.2 t else zVa full ia x.2 t) && kV full)
theorem jR : ∀ {l : List Nat}, zJe l = true → l.Nodup
 | [], _ => List.nodup_nil
 | a :: r, h => by
  simp only [zJe, yNj, yNl] at h
  rw [List.nodup_cons]
  exact ⟨by simpa using h.1, jR h.2⟩
theorem jF {full : List Oper} {i : Nat} {listed : Nat → Prop} (hc : ∀ b c, zM full b c = true → listed b → listed c) (hi : ¬ listed i) : ∀ b ∈ zMa full i, ¬ listed b := by
 have key : ∀ (l acc : List Nat), (∀ b ∈ acc, ¬ listed b) → ∀ b ∈ l.foldl (fun acc j => bif zM full j i || acc.any (fun c => zM full j c) then j :: acc else acc) acc, ¬ listed b := by
  intro l
  induction l with
  | nil => intro acc h; exact h
  | cons j r ih =>
   intro acc h
   rw [yN0]
   refine ih _ ?_
   cases hw : (zM full j i || acc.any (fun c => zM full j c)) with
   | false => exact h
   | true =>
    simp only [yMq]
    intro b hb
    rcases yNa.1 hb with rfl | hb
    ·intro hl
     rw [yOn, List.any_eq_true] at hw
     rcases hw with hw | ⟨c, hca, hw⟩
     ·exact hi (hc _ _ hw hl)
     ·exact h c hca (hc _ _ hw hl)
    ·exact h b hb
 exact key _ [] sq
theorem zFx {full : List Oper} {ib : List Nat} {i : Nat} (h : zHv full ib i = true) : zOi full ib i := by
 intro listed hc hi b hb hl
 simp only [zHv, yP7, yOn] at h
 rcases h b hb with (h | h) | h
 ·exact h
 ·exact absurd (hc _ _ h hl) hi
 ·exact absurd hl (jF hc hi b (by simpa using h))
theorem vD {full : List Oper} {i : Nat} {o : Oper} (h : full[i]? = some o) : (o, i) ∈ full.zipIdx := by rw [List.mem_zipIdx_iff_getElem?]; exact h
theorem yY {a b : Nat} (h : Nat.blt a b = true) : a < b := yP8 h
theorem zD9 {full : List Oper} : ∀ {ib : List Nat} {p i j : Nat}, wF full ib = true → ib[p]? = some i → ib[p + 1]? = some j → zM full j i = true
 | [], _, _, _, _, h, _ => by simp at h
 | [a], _, _, _, _, _, h => by simp at h
 | a :: b :: r, 0, i, j, hc, h1, h2 => by
  simp only [yMb, yMd, yMc] at h1 h2
  subst h1; subst h2
  simp only [wF, yNj] at hc
  exact hc.1
 | a :: b :: r, p + 1, i, j, hc, h1, h2 => by
  simp only [wF, yNj] at hc
  exact zD9 hc.2 (by simpa using h1) (by simpa using h2)
theorem zJz {full : List Oper} {ia : List (Nat × AK)} {ib : List Nat}
  (h1 : ∀ x, x < full.length → (ia.any fun e => e.1 == x) = true ∨ ib.contains x = true) (h2 : ∀ x ∈ ib, (!(ia.any fun e => e.1 == x)) = true ∧ Nat.blt x full.length = true)
  (h3 : ∀ x ∈ full.zipIdx, (x.1.after.all fun e => !Region.binds .any e || Nat.blt e.on x.2) = true) (h4 : ∀ x ∈ full.zipIdx, ∀ y ∈ full.zipIdx, ((y.2 == x.2) = true ∨ x.1.dst.isNone = true) ∨ (x.1.dst != y.1.dst) = true)
  (h5 : ib.Nodup) (h6 : zEa (ia.map (·.1)) = true) (h7 : ∀ e ∈ ia, e.2.isFirst = true → zOi full ib e.1)
  (h8 : ∀ x ∈ full.zipIdx, ∀ t ∈ x.1.looksAt full.toArray, (bif ib.contains x.2 then zV9 full x.2 t else zVa full ia x.2 t) = true) (h9 : kV full = true) : yCm full ia ib := by
 refine ⟨fun i hi => ?_, fun i hi => ?_, fun i o ho e he hb => ?_, fun i j o o' d ho ho' hd hd' => ?_, h5, h6, fun e he hf => ?_, fun i o t ho hi ht j o' ho' hd => ?_, fun i o t ho hi ht j o' ho' hd => ?_, h9⟩
 ·rcases h1 i hi with h | h
  ·rw [List.any_eq_true] at h
   obtain ⟨e, he, h⟩ := h
   exact .inl ⟨e, he, by simpa using h⟩
  ·exact .inr (by simpa using h)
 ·have := h2 i hi
  refine ⟨yY this.2, fun e he hne => ?_⟩
  have h3 := this.1
  rw [yNl, List.any_eq_false] at h3
  exact h3 e he (by simpa using hne)
 ·have := h3 (o, i) (vD ho)
  rw [Array.all_eq_true_iff_forall_mem] at this
  have h3 := this e he
  simp only [hb, yOb, yNi] at h3
  exact yY h3
 ·have := h4 (o, i) (vD ho) (o', j) (vD ho')
  simp only [hd, hd', Option.isNone_some, bne_self_eq_false, yO0, or_false, beq_iff_eq] at this
  exact this.symm
 ·exact h7 e he hf
 ·have h10 := h8 (o, i) (vD ho) t ht
  rw [show ib.contains i = true from by simpa using hi] at h10
  simp only [yMq, zV9, yP7, yOn] at h10
  have h11 := h10 (o', j) (vD ho')
  simp only [hd, bne_self_eq_false, yO0, false_or, zM, ho] at h11
  exact h11
 ·have h10 := h8 (o, i) (vD ho) t ht
  rw [show ib.contains i = false from by simpa using hi] at h10
  simp only [yN5, zVa, yP7, yOn, yNj] at h10
  have h11 := h10 (o', j) (vD ho')
  simp only [hd, bne_self_eq_false, yO0, false_or, zM, ho] at h11
  rcases h11 with ⟨⟨h11, h12⟩, h13⟩ | ⟨h11, h12⟩
  ·rw [List.any_eq_true] at h11
   obtain ⟨e, he, h⟩ := h11
   exact .inl ⟨⟨e, he, by simpa using h⟩, yY h12, h13⟩
  ·exact .inr ⟨yY h11, h12⟩
theorem zOm {full : List Oper} (h3 : ∀ x ∈ full.zipIdx, (x.1.after.all fun e => !Region.binds .any e || Nat.blt e.on x.2) = true) {j i : Nat} (h : zM full j i = true) : i < j := by
 unfold zM at h
 split at h
 ·rename_i ox hox
  obtain ⟨e, he, h8, h9⟩ := xB h
  have h10 := h3 (ox, j) (vD hox)
  rw [Array.all_eq_true_iff_forall_mem] at h10
  have h11 := h10 e he
  simp only [h9, yOb, yNi] at h11
  have := yY h11
  omega
 ·cases h
theorem zOc {full : List Oper} (h3 : ∀ j i, zM full j i = true → i < j) : ∀ {ib : List Nat}, wF full ib = true → ib.Pairwise (· < ·)
 | [], _ => List.Pairwise.nil
 | [a], _ => List.pairwise_singleton ..
 | a :: b :: r, h => by
  simp only [wF, yNj] at h
  have ih := zOc h3 h.2
  have hab := h3 _ _ h.1
  rw [List.pairwise_cons]
  refine ⟨fun c hc => ?_, ih⟩
  rcases yNa.1 hc with rfl | hc
  ·exact hab
  ·have := (List.pairwise_cons.1 ih).1 c hc; omega
theorem zBj {full : List Oper} {i : Nat} : ∀ {ib : List Nat}, wF full ib = true → zHw full ib i = true → zOi full ib i
 | [], _, _ => fun _ _ _ b hb => by simp at hb
 | b0 :: r, hch, hf => by
  intro listed hc hi b hb hl
  have none : ¬ listed b0 → ∀ c ∈ b0 :: r, ¬ listed c := by
   clear hf hb hl
   induction r generalizing b0 with
   | nil => intro h c hm; rw [yO1] at hm; subst hm; exact h
   | cons b1 r ih =>
    intro h c hm
    simp only [wF, yNj] at hch
    rcases yNa.1 hm with rfl | hm
    ·exact h
    ·exact ih b1 hch.2 (fun h1 => h (hc _ _ hch.1 h1)) c hm
  simp only [zHw, yOn, yNj] at hf
  rcases hf with hf | ⟨h1, h2⟩
  ·exact absurd hl (none (fun h => hi (hc _ _ hf h)) b hb)
  ·rcases yNa.1 hb with rfl | hb
   ·exact h1
   ·have hch' : wF full r = true := by
     cases r with
     | nil => rfl
     | cons b1 r => simp only [wF, yNj] at hch; exact hch.2
    exact zBj hch' h2 listed hc hi b hb hl
theorem zK1 {full : List Oper} {ia : List (Nat × AK)} {ib : List Nat} (h : zT6 full ia ib = true) : yCm full ia ib ∧ wF full ib = true := by
 unfold zT6 at h
 simp only [yNj, yP7, yOn, yOv] at h
 obtain ⟨⟨⟨h1, h2⟩, h3, h4⟩, ⟨⟨⟨h5, h6⟩, h7⟩, h8⟩, h9⟩ := h
 refine ⟨zJz h1 h2 h3 h4 ?_ h6 (fun e he hf => zBj h5 ?_) h8 h9, h5⟩
 ·exact (zOc (fun j i h => zOm h3 h) h5).imp fun h => Nat.ne_of_lt h
 ·have := h7 e he
  rw [hf] at this
  simpa using this
theorem zK0 {full : List Oper} {ia : List (Nat × AK)} {ib : List Nat} (h : zT5 full ia ib = true) : yCm full ia ib := by
 unfold zT5 at h
 simp only [yNj, yP7, yOn, yOv] at h
 obtain ⟨⟨⟨h1, h2⟩, h3, h4⟩, ⟨⟨⟨h5, h6⟩, h7⟩, h8⟩, h9⟩ := h
 refine zJz h1 h2 h3 h4 (jR h5) h6 (fun e he hf => zFx ?_) h8 h9
 have := h7 e he
 rw [hf] at this
 simpa using this
theorem zA2 {P : Program} {full : List Oper} {all : Bool} {bx0 : List (List AV)} {k : ASt → Prop} : ∀ {rem : List Nat} {st : ASt}, wF full rem = true → zU5 P full.toArray all bx0 (rem.filterMap (full[·]?)) k st → runT P full all bx0 rem.length rem k st
 | [], st, _, h => h
 | a :: r, st, hch, h => by
  intro i hi hc o ho
  have hia : i = a := by
   rcases yNa.1 hi with h1 | h1
   ·exact h1
   ·obtain ⟨q, hq⟩ := yOw h1
    have hql : q < (a :: r).length := by have := (yNd.1 hq).1; rw [yMy]; omega
    have hw := zD9 (p := q) hch (yNf hql) (by simpa using hq)
    simp only [yC1, yP7] at hc
    have := hc _ (yP5 hql)
    rw [hw] at this
    cases this
  subst hia
  rw [List.filterMap_cons_some ho] at h
  rw [List.erase_cons_head]
  have hch' : wF full r = true := by
   cases r with
   | nil => rfl
   | cons b1 r => simp only [wF, yNj] at hch; exact hch.2
  exact zGd (fun s hs => zA2 hch' hs) h
theorem zE9 : ∀ {l : List Nat} {p q i j : Nat}, zEa l = true → l[p]? = some i → l[q]? = some j → p < q → i < j
 | [], _, _, _, _, _, h, _, _ => by simp at h
 | [a], p, q, _, _, _, h1, h2, h => by
  have := (yNd.1 h2).1
  simp at this; omega
 | a :: b :: r, p, q, i, j, hr, h1, h2, h => by
  simp only [zEa, yNj] at hr
  have hab := yY hr.1
  cases q with
  | zero => omega
  | succ q =>
   simp only [yMd] at h2
   cases p with
   | succ p => exact zE9 hr.2 (by simpa using h1) h2 oq
   | zero =>
    simp only [yMb, yMc] at h1
    subst h1
    cases q with
    | zero => simp only [yMb, yMc] at h2; omega
    | succ q => have := zE9 hr.2 (i := b) (p := 0) (q := q + 1) rfl h2 oq; omega
def zFf (G : Gh) (w : World) (a : Act) (t : Nat) (e : Bool × AV) : Prop := ∃ v, a.tmps[t]? = some v ∧ (e.1 = true → e.2.rel G w v) ∧ (e.1 = false → v = undef)
theorem zFf.mono {G G' : Gh} {w w' : World} {a a' : Act} {t : Nat} {e : Bool × AV} (le : G.Le w G' w') (h : zFf G w a t e) (ha : a'.tmps[t]? = a.tmps[t]?) : zFf G' w' a' t e := by
 obtain ⟨v, h1, h2, h3⟩ := h
 exact ⟨v, by rw [ha]; exact h1, fun hc => AV.rel_mono le _ _ (h2 hc), h3⟩
structure Mid4 {P : Program} (C : Ctx P) (full : List Oper) (all : Bool) (es : List AEn) (ib : List Nat) (st : ASt) (k : ASt → Prop) (listed : Array Bool) (G : Gh) (a : Act) (w : World) : Prop where
 frame' : zR C.may C.w0 w
 le : C.G0.Le C.w0 G w
 fresh : ∀ b o, G.imm b o → C.G0.imm b o ∨ C.w0.heap.size ≤ b ∨ ∃ x ∈ C.G0.rw, (zC x.2) = some b
 ownB : ∀ blk ∈ G.bx, blk ∈ C.G0.bx ∨ C.w0.heap.size ≤ blk
 ownR : ∀ x ∈ G.rw, ∀ g, (zC x.2) = some g → (∃ y ∈ C.G0.rw, (zC y.2) = some g) ∨ C.w0.heap.size ≤ g
 fits : zI0 a.tmps.size full = true
 size : a.tmps.size = st.nt
 callers : C.G0.bx.length = st.nb % 64 ∧ C.G0.rw.length = st.nb / 64
 lsz : listed.size = full.length
 clo : ∀ (i : Nat) (o : Oper), full[i]? = some o → listed.getD i true = true → ∀ e ∈ o.after, Region.binds .any e = true → listed.getD e.on false = true
 old : ∀ (t : Nat) e, (∀ (i : Nat) (o : Oper), full[i]? = some o → o.dst = some t → listed.getD i false = false) → yL t st.sl = some e → zFf G w a t e
 new : ∀ e ∈ es, listed.getD e.1 false = true → zFf G w a e.2.2.1 e.2.2.2
 env : ∃ D, EnvD C G a.defers st.ys D w
 tree : ∃ (rem : List Nat) (eb : List (Nat × (Bool × AV))) (bx : List (List AV)) (rw : List zV), (∀ i, i ∈ rem ↔ i ∈ ib ∧ listed.getD i false = false) ∧ rem.Nodup ∧ zFh all st.bx bx ∧ ((∀ b ∈ ib, listed.getD b false = true → zSi full b = true) → rw = st.rw ∧ ∃ ext, bx = st.bx ++ ext) ∧ xU G w bx rw ∧
  (∀ t e, yL t eb = some e → zFf G w a t e ∧ ∃ i o, i ∈ ib ∧ full[i]? = some o ∧ o.dst = some t) ∧ (∀ i o t, i ∈ ib → listed.getD i false = true → full[i]? = some o → o.dst = some t → yL t eb ≠ none) ∧
  runT P full all st.bx rem.length rem k ⟨st.nt, st.nb, eb ++ (slA es ++ st.sl), bx, rw, st.ys⟩
theorem zH7 {es : List AEn} {t : Nat} {x : Bool × AV} (h : yL t (slA es) = some x) : ∃ e ∈ es, e.2.2 = (t, x) := by
 have := zEl h
 unfold slA at this
 rw [List.mem_reverse, yO6] at this
 exact this
theorem zJn {t : Nat} {x : Bool × AV} : ∀ {l : List (Nat × (Bool × AV))}, (t, x) ∈ l → yL t l ≠ none
 | (d, y) :: l, h => by
  rw [zL]
  split
  ·simp
  ·rcases yNa.1 h with h | h
   ·rename_i hne; cases h; exact absurd rfl hne
   ·exact zJn h
theorem zL3 {es : List AEn} {e : AEn} (h : e ∈ es) : yL e.2.2.1 (slA es) ≠ none := zJn (x := e.2.2.2) (by unfold slA; rw [List.mem_reverse, yO6]; exact ⟨e, h, rfl⟩)

theorem xO {listed : Array Bool} {full : List Oper} {i : Nat} (hsz : listed.size = full.length) (hi : i < full.length) : listed.getD i false = listed.getD i true := zVl oq _ _
theorem yA0 {P : Program} {C : Ctx P} {full : List Oper} {all : Bool} {es : List AEn} {ib : List Nat} {st : ASt} {k : ASt → Prop} {Q : Exit → Act → World → Prop} (D4 : yCm full (zQ0 es) ib)
  (hsp : ∀ (p : Nat) (e : AEn), es[p]? = some e → ∃ o, full[e.1]? = some o ∧ o.dst = some e.2.2.1 ∧ zZi P full.toArray all st o (slA (es.take p) ++ st.sl) e.2.2.2.1 e.2.2.2.2 e.2.1)
  (hQ : ∀ G a w st', Sat C G a w st' → k st' → Q .normal a w) :
  ∀ (fuel : Nat) (listed : Array Bool) (G : Gh) (a : Act) (w : World), (List.range full.length).countP (fun k => !listed.getD k true) ≤ fuel → Mid4 C full all es ib st k listed G a w → wpAnyIn (fen C.round) 0 P .any full.toArray Q fuel listed a w := by
 have hia : ∀ e ∈ es, (e.1, e.2.1) ∈ zQ0 es := fun e he => yO6.2 ⟨e, he, rfl⟩
 have hai : ∀ i, (∃ e ∈ zQ0 es, e.1 = i) → ∃ e ∈ es, e.1 = i := by
  rintro i ⟨e, he, rfl⟩
  obtain ⟨e', h1, rfl⟩ := yO6.1 he
  exact ⟨e', h1, rfl⟩
 have hrise : ∀ (p q : Nat) (e e' : AEn), es[p]? = some e → es[q]? = some e' → p < q → e.1 < e'.1 := fun p q e e' h1 h2 h => by
  refine zE9 (l := (zQ0 es).map (·.1)) D4.rises (p := p) (q := q) ?_ ?_ h
  ·simp [zQ0, h1]
  ·simp [zQ0, h2]
 have huniq : ∀ (p q : Nat) (e e' : AEn), es[p]? = some e → es[q]? = some e' → e.1 = e'.1 → p = q := fun p q e e' h1 h2 h => by
  rcases Nat.lt_trichotomy p q with h3 | h3 | h3
  ·have := hrise p q e e' h1 h2 h3; omega
  ·exact h3
  ·have := hrise q p e' e h2 h1 h3; omega
 have hplain : ∀ (o : Oper), o ∈ full → (∀ c, o.op ≠ .defer c) := fun o ho c hc => by
  have h1 := D4.plain
  simp only [kV, yP7] at h1
  have h2 := h1 o ho
  rw [hc] at h2; cases h2
 have hops : ∀ e ∈ es, ∃ o, full[e.1]? = some o ∧ o.dst = some e.2.2.1 := fun e he => by
  obtain ⟨p, hp⟩ := yOw he
  obtain ⟨o, h1, h2, _⟩ := hsp p e hp
  exact ⟨o, h1, h2⟩
 -- all is done
 have done : ∀ (listed : Array Bool) (G : Gh) (a : Act) (w : World), Mid4 C full all es ib st k listed G a w → Region.ready .any full.toArray listed = [] → Q .normal a w := by
  intro listed G a w hm hr
  have hall : ∀ i, i < full.length → listed.getD i true = true := by
   intro i
   induction i using Nat.strongRecOn with
   | _ i ih =>
    intro hi
    by_cases hu : listed.getD i true = true
    ·exact hu
    ·exfalso
     have : i ∈ Region.ready .any full.toArray listed := by
      rw [mem_ready]
      refine ⟨by simpa using hu, full[i], by rw [List.getElem?_toArray, yNf hi], fun e he heb => ?_⟩
      have hlt := D4.back i full[i] (yNf hi) e he heb
      rw [xO hm.lsz oq]
      exact ih e.on hlt oq
     rw [hr] at this
     cases this
  have hal : ∀ i, i < full.length → listed.getD i false = true := fun i hi => by rw [xO hm.lsz hi]; exact hall i hi
  obtain ⟨rem, eb, bx, rw', t1, t2, t3, t4, t5, t6, t7, t8⟩ := hm.tree
  have hn : rem = [] := by
   rw [List.eq_nil_iff_forall_not_mem]
   intro i hi
   obtain ⟨h1, h2⟩ := (t1 i).1 hi
   rw [hal i (D4.apart i h1).1] at h2
   cases h2
  subst hn
  refine hQ G a w ⟨st.nt, st.nb, eb ++ (slA es ++ st.sl), bx, rw', st.ys⟩ ⟨hm.size, hm.callers, hm.frame', hm.le, hm.fresh, hm.ownB, hm.ownR, hm.env, t5, fun t c x hl => ?_⟩ t8
  simp only [ASt.look, xJ] at hl
  cases h1 : yL t eb with
  | some y => rw [h1] at hl; cases hl; exact (t6 t _ h1).1
  | none =>
   rw [h1] at hl
   cases h2 : yL t (slA es) with
   | some y =>
    rw [h2] at hl
    cases hl
    obtain ⟨e, he, h3⟩ := zH7 h2
    obtain ⟨o, ho, _⟩ := hops e he
    have := hm.new e he (hal _ (yNd.1 ho).1)
    rw [h3] at this
    exact this
   | none =>
    rw [h2] at hl
    refine hm.old t (c, x) (fun i o ho hdt => ?_) hl
    exfalso
    have hil := (yNd.1 ho).1
    rcases D4.cover i hil with h3 | h3
    ·obtain ⟨e, he, rfl⟩ := hai i h3
     obtain ⟨o', ho', hd'⟩ := hops e he
     rw [ho] at ho'; cases ho'
     rw [hdt] at hd'
     cases hd'
     exact zL3 he h2
    ·exact t7 i o t h3 (hal i hil) ho hdt h1
 intro fuel
 induction fuel with
 | zero =>
  intro listed G a w hcnt hm
  have hr : Region.ready .any full.toArray listed = [] := by
   rw [List.eq_nil_iff_forall_not_mem]
   intro i hi
   obtain ⟨h1, o, h2, _⟩ := mem_ready.1 hi
   have hil : i < full.length := by simpa using (yMi.1 h2).1
   have h3 : 0 < (List.range full.length).countP (fun k => !listed.getD k true) := by
    rw [List.countP_pos_iff]
    exact ⟨i, yOv.2 hil, by simpa using h1⟩
   omega
  exact ⟨hr, done listed G a w hm hr⟩
 | succ fuel ih =>
  intro listed G a w hcnt hm
  refine ⟨done listed G a w hm, fun i hi => ?_⟩
  obtain ⟨h1, o, h2, h3⟩ := mem_ready.1 hi
  have ho : full[i]? = some o := by simpa using h2
  have hil : i < full.length := (yNd.1 ho).1
  have hil' : i < listed.size := by rw [hm.lsz]; exact hil
  have hun : listed.getD i false = false := by rw [xO hm.lsz hil]; exact h1
  have hcnt' : (List.range full.length).countP (fun k => !(listed.setIfInBounds i true).getD k true) ≤ fuel := by
   have := zF2 (p := fun k => !listed.getD k true) (q := fun k => !(listed.setIfInBounds i true).getD k true) (k := i) (l := List.range full.length)
    (fun k _ hk => by
     by_cases hik : i = k
     ·subst hik; rw [z7 hil'] at hk; simp at hk
     ·rwa [zY hik] at hk) (yOv.2 hil) (by simp [h1]) (by show (!_) = false; rw [z7 hil']; rfl)
   omega
  have clo' : ∀ (j : Nat) (o' : Oper), full[j]? = some o' → (listed.setIfInBounds i true).getD j true = true → ∀ e ∈ o'.after, Region.binds .any e = true → (listed.setIfInBounds i true).getD e.on false = true := by
   intro j o' ho' hl e he heb
   have hup : listed.getD e.on false = true → (listed.setIfInBounds i true).getD e.on false = true := fun h => by
    by_cases hie : i = e.on
    ·rw [← hie, z7 hil']
    ·rw [zY hie]; exact h
   by_cases hij : i = j
   ·subst hij
    rw [ho] at ho'
    cases ho'
    exact hup (h3 e he heb)
   ·rw [zY hij] at hl
    exact hup (hm.clo j o' ho' hl e he heb)
  obtain ⟨rem, eb, bx, rw', t1, t2, t3, t4, t5, t6, t7, t8⟩ := hm.tree
  have waitL : ∀ j, vN o j = true → listed.getD j false = true := fun j h => by
   obtain ⟨e, he, h4, h5⟩ := xB h
   rw [← h4]; exact h3 e he h5
  have waitU : ∀ (j : Nat) (o' : Oper), full[j]? = some o' → vN o' i = true → listed.getD j false = false := fun j o' ho' h => by
   cases hc : listed.getD j false with
   | false => rfl
   | true =>
    exfalso
    obtain ⟨e, he, h4, h5⟩ := xB h
    have hjl : j < full.length := (yNd.1 ho').1
    have h6 := hm.clo j o' ho' (by rw [← xO hm.lsz hjl]; exact hc) e he h5
    rw [h4, hun] at h6
    cases h6
  have dlt : ∀ d, o.dst = some d → d < a.tmps.size := fun d hd => by
   have := hm.fits
   simp only [zI0, yP7] at this
   have := this o (yNr ho)
   rw [hd] at this
   simpa using this
  unfold wpOpIn
  simp only [List.getElem?_toArray, ho]
  by_cases hib : i ∈ ib
  ·have hir : i ∈ rem := (t1 i).2 ⟨hib, hun⟩
   have hca : yC1 full rem i = true := by
    simp only [yC1, yP7, yNl]
    intro j hj
    cases hw : zM full i j with
    | false => rfl
    | true =>
     simp only [zM, ho] at hw
     have h4 := waitL j hw
     rw [((t1 j).1 hj).2] at h4
     cases h4
   have hlr : rem.length = (rem.erase i).length + 1 := by
    have h4 := List.length_erase_of_mem hir
    have h5 := List.length_pos_of_mem hir
    omega
   rw [hlr] at t8
   obtain ⟨t64, t8⟩ := t8 i hir hca o ho
   obtain ⟨D, hD⟩ := hm.env
   have hlenB := t5.lenB
   have hlenR := t5.lenR
   have hbl : G.bx.length < 64 := by have h64 : bx.length < 64 := t64; omega
   have t8 := t8 (G.bx.length + 64 * G.rw.length)
   let C' : Ctx P := { round := C.round, l := C.l, D := D, W := C.W, I0 := C.I0, G0 := G, w0 := w, base := fun b o h => hm.le.imm b o (C.base b o h), stable := C.stable, y := C.y, tabs := C.tabs }
   have hs : Sat C' G { a with defers := [] } w ⟨st.nt, G.bx.length + 64 * G.rw.length, kT (o.looksAt full.toArray) (eb ++ (slA es ++ st.sl)), bx, rw', st.ys⟩ := by
    refine ⟨hm.size, ⟨?_, ?_⟩, zR.refl _ _, Gh.Le.refl _ _, fun b o h => .inl h, fun b h => .inl h, fun x hx g hg => .inl ⟨x, hx, hg⟩, ⟨D, ⟨hD.l, hD.cons, fun k h => .inl h, hD.lt, hD.bx, hD.rw, hD.imm, ⟨[], rfl, List.nodup_nil, fun m h => by cases h⟩, hD.record⟩⟩, t5, fun t c x hl => ?_⟩
    ·show G.bx.length = (G.bx.length + 64 * G.rw.length) % 64
     omega
    ·show G.rw.length = (G.bx.length + 64 * G.rw.length) / 64
     omega
    ·simp only [ASt.look] at hl
     rw [zAx] at hl
     cases hc : (o.looksAt full.toArray).contains t with
     | false => rw [hc] at hl; cases hl
     | true =>
      rw [hc] at hl
      simp only [yMq, xJ] at hl
      have hlk : t ∈ o.looksAt full.toArray := by simpa using hc
      have hB := D4.looksB i o t ho hib hlk
      cases g1 : yL t eb with
      | some y => rw [g1] at hl; cases hl; exact (t6 t _ g1).1
      | none =>
       rw [g1] at hl
       cases g2 : yL t (slA es) with
       | some y =>
        rw [g2] at hl
        cases hl
        obtain ⟨e, he, g3⟩ := zH7 g2
        obtain ⟨o', ho', hd'⟩ := hops e he
        rw [g3] at hd'
        have := hm.new e he (waitL _ (hB _ _ ho' hd'))
        rw [g3] at this
        exact this
       | none =>
        rw [g2] at hl
        refine hm.old t (c, x) (fun j o' ho' hdt => ?_) hl
        exfalso
        have hjl := (yNd.1 ho').1
        have hlj := waitL j (hB j o' ho' hdt)
        rcases D4.cover j hjl with g3 | g3
        ·obtain ⟨e, he, rfl⟩ := hai j g3
         obtain ⟨o2, ho2, hd2⟩ := hops e he
         rw [ho'] at ho2; cases ho2
         rw [hdt] at hd2
         cases hd2
         exact zL3 he g2
        ·exact t7 j o' t g3 hlj ho' hdt g1
   have h4 := t8 C' G _ w (fun e a' w' => e = .normal ∧ ∃ G' st', Sat C' G' a' w' st' ∧ ∃ ent bx' rw'', st' = ⟨st.nt, G.bx.length + 64 * G.rw.length, dl o.dst ent ++ kT (o.looksAt full.toArray) (eb ++ (slA es ++ st.sl)), bx', rw'', st.ys⟩ ∧ zFh all st.bx bx' ∧ (hrm o = true → rw'' = rw' ∧ ∃ ext, bx' = bx ++ ext) ∧
     runT P full all st.bx (rem.erase i).length (rem.erase i) k ⟨st.nt, st.nb, dl o.dst ent ++ (eb ++ (slA es ++ st.sl)), bx', rw'', st.ys⟩) hs (fun G' a' w' st' hs' hk => ⟨rfl, G', st', hs', hk⟩)
   -- what is so behind it
   have next : ∀ (v : Value) (pre : List Deferred) (w' : World) (G' : Gh) (st' : ASt), Sat C' G' (({ a with defers := pre ++ [] } : Act).put o.dst v) w' st' → (∃ ent bx' rw'', st' = ⟨st.nt, G.bx.length + 64 * G.rw.length, dl o.dst ent ++ kT (o.looksAt full.toArray) (eb ++ (slA es ++ st.sl)), bx', rw'', st.ys⟩ ∧ zFh all st.bx bx' ∧ (hrm o = true → rw'' = rw' ∧ ∃ ext, bx' = bx ++ ext) ∧
     runT P full all st.bx (rem.erase i).length (rem.erase i) k ⟨st.nt, st.nb, dl o.dst ent ++ (eb ++ (slA es ++ st.sl)), bx', rw'', st.ys⟩) →
     wpAnyIn (fen C.round) 0 P .any full.toArray Q fuel (listed.setIfInBounds i true) (({ a with defers := pre ++ a.defers } : Act).put o.dst v) w' := by
    rintro v pre w' G' st' hs' ⟨ent, bx', rw'', rfl, k1, k2, k3⟩
    have le : G.Le w G' w' := hs'.le
    have hfr : zR C'.may w w' := hs'.frame
    have putOther : ∀ t, o.dst ≠ some t → (({ a with defers := pre ++ a.defers } : Act).put o.dst v).tmps[t]? = a.tmps[t]? := fun t ht => by
     cases hdo : o.dst with
     | none => rfl
     | some d => rw [Act.put_get, if_neg (fun e => ht (by rw [hdo, e]))]
    have hslot : ∀ d, o.dst = some d → zFf G' w' (({ a with defers := pre ++ a.defers } : Act).put o.dst v) d ent := fun d hdo => by
     obtain ⟨u, u1, u2⟩ := hs'.slot d ent.1 ent.2 (by simp only [ASt.look, xJ, hdo, dl, zL]; rfl)
     refine ⟨u, ?_, u2⟩
     rw [← u1, hdo]
     rfl
    have hsizep : (({ a with defers := pre ++ a.defers } : Act).put o.dst v).tmps.size = a.tmps.size := by cases o.dst <;> simp [Act.put]
    have hle' : ∀ j, j ≠ i → (listed.setIfInBounds i true).getD j false = listed.getD j false := fun j h => zY (fun e => h e.symm)
    refine ih _ G' _ w' hcnt' ⟨⟨hfr.os.trans hm.frame'.os, hfr.tape.trans hm.frame'.tape, hfr.output.trans hm.frame'.output, yMk hm.frame'.size hfr.size, fun q hq hn => ?_⟩, hm.le.trans le, fun b o' ib' => ?_, fun b hb => ?_, fun x hx g hg => ?_, by rw [hsizep]; exact hm.fits, by rw [hsizep]; exact hm.size, hm.callers, by simpa using hm.lsz, clo', fun t e ht hl => ?_, fun e he hl => ?_, ?_,
     ⟨rem.erase i, dl o.dst ent ++ eb, bx', rw'', fun j => ?_, t2.erase i, k1, fun hh => ?_, hs'.mem, fun t e hl => ?_, fun j o' t hj hlj ho' hdt => ?_, by rw [yOs]; exact k3⟩⟩
    ·refine (hfr.block q (yMl hq hm.frame'.size) (fun hmay => ?_)).trans (hm.frame'.block q hq hn)
     rcases hmay with h | h | ⟨x, hx, h⟩
     ·rcases hD.sub q h with h | h
      ·exact hn (.inl h)
      ·omega
     ·rcases hm.ownB q h with h | h
      ·exact hn (.inr (.inl h))
      ·omega
     ·rcases hm.ownR x hx q h with ⟨y, h5, h6⟩ | h
      ·exact hn (.inr (.inr ⟨y, h5, h6⟩))
      ·omega
    ·rcases hs'.fresh b o' ib' with h | h | ⟨x, h5, h6⟩
     ·exact hm.fresh b o' h
     ·exact .inr (.inl (yMk hm.frame'.size h))
     ·rcases hm.ownR x h5 b h6 with ⟨y, h7, h8⟩ | h
      ·exact .inr (.inr ⟨y, h7, h8⟩)
      ·exact .inr (.inl h)
    ·rcases hs'.ownB b hb with h | h
     ·exact hm.ownB b h
     ·exact .inr (yMk hm.frame'.size h)
    ·rcases hs'.ownR x hx g hg with ⟨y, h5, h6⟩ | h
     ·exact hm.ownR y h5 g h6
     ·exact .inr (yMk hm.frame'.size h)
    ·have hne : o.dst ≠ some t := fun h => by
      have := ht i o ho h
      rw [z7 hil'] at this; cases this
     refine (hm.old t e (fun j o' ho' hdt => ?_) hl).mono le (putOther t hne)
     have h5 := ht j o' ho' hdt
     by_cases hij : j = i
     ·subst hij; rw [ho] at ho'; cases ho'; exact absurd hdt hne
     ·rwa [hle' j hij] at h5
    ·have hei : e.1 ≠ i := fun h => (D4.apart i hib).2 _ (hia e he) h
     rw [hle' _ hei] at hl
     obtain ⟨o', ho', hd'⟩ := hops e he
     exact (hm.new e he hl).mono le (putOther _ fun h => hei (D4.dst _ _ _ _ _ ho' ho hd' h))
    ·obtain ⟨D', hD'⟩ := hs'.env
     obtain ⟨l, g1, g2, g3⟩ := hD.marks
     obtain ⟨l', g1', g2', g3'⟩ := hD'.marks
     have g1' : pre = l'.map zNl := by
      have : (({ a with defers := pre ++ [] } : Act).put o.dst v).defers = pre := by cases o.dst <;> simp [Act.put]
      rw [this] at g1'; exact g1'
     refine ⟨D', ⟨hD'.l, hD'.cons, fun q hq => ?_, hD'.lt, hD'.bx, hD'.rw, hD'.imm, ⟨l' ++ l, ?_, ?_, fun m hml => ?_⟩, hD'.record⟩⟩
     ·rcases hD'.sub q hq with h | h
      ·exact hD.sub q h
      ·exact .inr (yMk hm.frame'.size h)
     ·have : (({ a with defers := pre ++ a.defers } : Act).put o.dst v).defers = pre ++ a.defers := by cases o.dst <;> rfl
      rw [this, List.map_append, g1', g1]
     ·rw [List.nodup_append]
      refine ⟨g2', g2, fun x hx y hy e => ?_⟩
      subst e
      have h5 := (g3' x hx).2.2
      have h6 := (yMi.1 (g3 x hy).1).1
      have h5 : w.heap.size ≤ x := h5
      omega
     ·rcases yO2.1 hml with h | h
      ·obtain ⟨h5, h6, h7⟩ := g3' m h
       exact ⟨h5, h6, yMk hm.frame'.size h7⟩
      ·obtain ⟨h5, h6, h7⟩ := g3 m h
       have hml : m < w.heap.size := (yMi.1 h5).1
       refine ⟨?_, fun hd' => ?_, h7⟩
       ·rw [hfr.block m hml fun hmay => ?_]; exact h5
        rcases hmay with h | h | ⟨x, hx, h⟩
        ·exact h6 h
        ·exact t5.not_box h5 rfl h
        ·exact t5.not_row h5 rfl x hx h
       ·rcases hD'.sub m hd' with h | h
        ·exact h6 h
        ·have h : w.heap.size ≤ m := h
         omega
    ·rw [t2.mem_erase_iff, t1 j]
     by_cases hji : j = i
     ·subst hji
      rw [z7 hil']
      simp
     ·rw [hle' j hji]
      simp [hji]
    ·have h5 := t4 fun b hb hl => hh b hb (if hbi : b = i then by subst hbi; rw [hun] at hl; cases hl else by rw [hle' b hbi]; exact hl)
     have h6 := hh i hib (z7 hil')
     simp only [zSi, ho] at h6
     obtain ⟨h7, ext, h8⟩ := k2 h6
     obtain ⟨h9, ext', h10⟩ := h5
     exact ⟨h7.trans h9, ext' ++ ext, by rw [h8, h10, yOs]⟩
    ·rw [xJ] at hl
     cases g1 : yL t (dl o.dst ent) with
     | some y =>
      rw [g1] at hl
      cases hl
      obtain ⟨g2, g3⟩ := zYx g1
      subst g3
      exact ⟨hslot t g2, i, o, hib, ho, g2⟩
     | none =>
      rw [g1] at hl
      obtain ⟨g2, j, o', g3, g4, g5⟩ := t6 t e hl
      by_cases hdt : o.dst = some t
      ·rw [hdt] at g1; simp [dl, zL] at g1
      ·exact ⟨g2.mono le (putOther t hdt), j, o', g3, g4, g5⟩
    ·rw [xJ]
     by_cases hji : j = i
     ·subst hji
      rw [ho] at ho'
      cases ho'
      rw [hdt]
      simp [dl, zL]
     ·rw [hle' j hji] at hlj
      have := t7 j o' t hj hlj ho' hdt
      cases yL t (dl o.dst ent) with
      | some y => simp
      | none => exact this
   unfold wpListIn at h4
   have hw : Region.wanted o (yielded full.toArray ({ a with defers := [] } : Act).tmps) = Region.wanted o (yielded full.toArray a.tmps) := rfl
   rw [hw] at h4
   split
   ·rename_i hwt
    rw [if_pos hwt] at h4
    refine Oper.wpIn_mono ?_ (zQ8 (hplain o (yNr ho)) [] (fun e a' w' h => h.1) h4)
    rintro a' w' ⟨v, pre, rfl, h5⟩
    unfold wpListIn at h5
    obtain ⟨_, G', st', hs', hk⟩ := h5
    exact next v pre w' G' st' hs' hk
   ·rename_i hwt
    rw [if_neg hwt] at h4
    refine ⟨h4.1, ?_⟩
    have h5 := h4.2
    unfold wpListIn at h5
    obtain ⟨_, G', st', hs', hk⟩ := h5
    exact next undef [] w G' st' hs' hk
  ·obtain ⟨e, he, rfl⟩ := hai i ((D4.cover i hil).resolve_right hib)
   obtain ⟨p, hp⟩ := yOw he
   obtain ⟨o', ho', hdo, hstep⟩ := hsp p e hp
   rw [ho] at ho'
   cases ho'
   have hspec : vU P full.toArray o ⟨st.nt, st.nb, slA (es.take p) ++ st.sl, bx, rw', st.ys⟩ e.2.2.2.1 e.2.2.2.2 := by
    cases hk : e.2.1 with
    | any =>
     rw [hk] at hstep
     obtain ⟨ext, h4⟩ := t3
     have := hstep ext rw'
     rw [← h4] at this
     exact this
    | first =>
     rw [hk] at hstep
     have hf := D4.first _ (hia e he) (by rw [hk]; rfl)
     have hh := hf (fun b => listed.getD b false = true) (fun b c hw hb => by
      unfold zM at hw
      split at hw
      ·rename_i ob hob
       obtain ⟨e', he', h4, h5⟩ := xB hw
       rw [← h4]
       exact hm.clo b ob hob (by rw [← xO hm.lsz (yNd.1 hob).1]; exact hb) e' he' h5
      ·cases hw) (by rw [hun]; simp)
     obtain ⟨rfl, ext, h4⟩ := t4 hh
     have := hstep ext
     rw [← h4] at this
     exact this
   have hlk : ∀ t ∈ o.looksAt full.toArray, zOh G w a ⟨st.nt, st.nb, slA (es.take p) ++ st.sl, bx, rw', st.ys⟩ t := by
    intro t ht c x hl
    have hA := D4.looksA e.1 o t ho hib ht
    simp only [ASt.look, xJ] at hl
    cases g1 : yL t (slA (es.take p)) with
    | some y =>
     rw [g1] at hl
     cases hl
     obtain ⟨e', he', g3⟩ := zH7 g1
     obtain ⟨q, hq⟩ := yOw he'
     rw [yMg] at hq
     split at hq
     ·rename_i hqp
      obtain ⟨o2, ho2, hd2, _⟩ := hsp q e' hq
      rw [g3] at hd2
      rcases hA _ _ ho2 hd2 with ⟨_, _, h6⟩ | ⟨h6, _⟩
      ·have := hm.new e' (yO8 he') (waitL _ h6)
       rw [g3] at this
       exact this
      ·have := hrise q p e' e hq hp hqp
       omega
     ·cases hq
    | none =>
     rw [g1] at hl
     refine hm.old t (c, x) (fun j o2 ho2 hdt => ?_) hl
     rcases hA j o2 ho2 hdt with ⟨h5, h6, h7⟩ | ⟨_, h7⟩
     ·exfalso
      obtain ⟨e', he', rfl⟩ := hai j h5
      obtain ⟨o3, ho3, hd3⟩ := hops e' he'
      rw [ho2] at ho3
      cases ho3
      rw [hdt] at hd3
      cases hd3
      obtain ⟨q, hq⟩ := yOw he'
      have hqp : q < p := by
       rcases Nat.lt_trichotomy q p with h | h | h
       ·exact h
       ·subst h; rw [hp] at hq; cases hq; omega
       ·have := hrise p q e e' hp hq h; omega
      exact zL3 (es := es.take p) (e := e') (yNr (i := q) (by rw [yMg, if_pos hqp]; exact hq)) g1
     ·exact waitU j o2 ho2 h7
   have hd := dlt _ hdo
   have hle' : ∀ j, j ≠ e.1 → (listed.setIfInBounds e.1 true).getD j false = listed.getD j false := fun j h => zY (fun e => h e.symm)
   have next : ∀ v G' w', Ext bx rw' G w G' w' → ((e.2.2.2.1 = true → e.2.2.2.2.rel G' w' v) ∧ (e.2.2.2.1 = false → v = undef)) → wpAnyIn (fen C.round) 0 P .any full.toArray Q fuel (listed.setIfInBounds e.1 true) (a.put (some e.2.2.1) v) w' := by
    intro v G' w' E hv
    have le := E.le
    have putOther : ∀ t, t ≠ e.2.2.1 → (a.put (some e.2.2.1) v).tmps[t]? = a.tmps[t]? := fun t h => by rw [Act.put_get, if_neg (fun e => h e.symm)]
    have putSelf : (a.put (some e.2.2.1) v).tmps[e.2.2.1]? = some v := by rw [Act.put_get]; simp [yMp hd]
    have hsizep : (a.put (some e.2.2.1) v).tmps.size = a.tmps.size := by simp [Act.put]
    have hob : zR (fun _ => False) w w' := .of_below E.below
    refine ih _ G' _ w' hcnt' ⟨⟨hob.os.trans hm.frame'.os, hob.tape.trans hm.frame'.tape, hob.output.trans hm.frame'.output, yMk hm.frame'.size hob.size, fun q hq hn => (hob.block q (yMl hq hm.frame'.size) id).trans (hm.frame'.block q hq hn)⟩, hm.le.trans le, fun b o' ib' => ?_, by rw [E.gbx]; exact hm.ownB, by rw [E.grw]; exact hm.ownR, by rw [hsizep]; exact hm.fits, by rw [hsizep]; exact hm.size, hm.callers, by simpa using hm.lsz, clo', fun t e' ht hl => ?_, fun e' he' hl => ?_, ?_,
     ⟨rem, eb, bx, rw', fun j => ?_, t2, t3, fun hh => t4 fun b hb hl => hh b hb (by rw [hle' b fun h => hib (h ▸ hb)]; exact hl), E.mem, fun t e' hl => ?_, fun j o' t hj hlj ho' hdt => ?_, t8⟩⟩
    ·rcases E.fresh b o' ib' with h | h
     ·exact hm.fresh b o' h
     ·exact .inr (.inl (yMk hm.frame'.size h))
    ·have hne : t ≠ e.2.2.1 := fun h => by
      subst h
      have := ht e.1 o ho hdo
      rw [z7 hil'] at this; cases this
     refine (hm.old t e' (fun j o' ho' hdt => ?_) hl).mono le (putOther t hne)
     have h5 := ht j o' ho' hdt
     by_cases hij : j = e.1
     ·subst hij; rw [ho] at ho'; cases ho'; rw [hdo] at hdt; cases hdt; exact absurd rfl hne
     ·rwa [hle' j hij] at h5
    ·obtain ⟨q, hq⟩ := yOw he'
     by_cases hei : e'.1 = e.1
     ·have := huniq q p e' e hq hp hei
      subst this
      rw [hp] at hq
      cases hq
      exact ⟨v, putSelf, hv⟩
     ·rw [hle' _ hei] at hl
      obtain ⟨o', ho', hd'⟩ := hops e' he'
      exact (hm.new e' he' hl).mono le (putOther _ fun h => hei (D4.dst _ _ _ _ _ ho' ho hd' (h ▸ hdo)))
    ·obtain ⟨D, hD⟩ := hm.env
     exact ⟨D, hD.step t5 le (fun b o' h => (E.fresh b o' h).elim .inl fun h => .inr (.inl h)) (fun b hb => .inl (by rw [E.gbx] at hb; exact hb)) (fun x hx g hg => .inl ⟨x, by rw [E.grw] at hx; exact hx, hg⟩) (hob.mono fun _ _ h => h.elim)⟩
    ·rw [t1 j]
     by_cases hj : j = e.1
     ·subst hj; simp [hib]
     ·rw [hle' j hj]
    ·obtain ⟨g2, j, o', g3, g4, g5⟩ := t6 t e' hl
     refine ⟨g2.mono le (putOther t fun h => ?_), j, o', g3, g4, g5⟩
     have := D4.dst _ _ _ _ _ g4 ho g5 (h ▸ hdo)
     exact hib (this ▸ g3)
    ·rw [hle' j fun h => hib (h ▸ hj)] at hlj
     exact t7 j o' t hj hlj ho' hdt
   obtain ⟨s1, s2⟩ := hspec G a w (zTv (X := fun _ => True) (let ⟨D, h⟩ := hm.env; ⟨D, h, trivial⟩)) t5 hlk
   rw [s1]
   cases hg : e.2.2.2.1
   ·simp only [yO0, if_false]
    rw [hdo]
    exact ⟨fun _ _ => trivial, next undef G w (Ext.refl t5) ⟨fun h => (by rw [hg] at h; cases h), fun _ => rfl⟩⟩
   ·simp only [if_true]
    refine s2 hg _ _ _ fun v G' w' E hv => ?_
    rw [hdo]
    exact next v G' w' E ⟨fun _ => hv, fun h => by rw [hg] at h; cases h⟩

def inN (t : Nat) : List Nat → Bool
 | [] => false
 | a :: L => if t = a then true else inN t L
theorem zWv (t : Nat) : ∀ L : List Nat, L.contains t = inN t L
 | [] => rfl
 | a :: L => by
  rw [List.contains_cons, zWv t L, inN]
  by_cases h : t = a
  ·simp [h]
  ·simp [h]
@[go_sem] theorem jV (t : Nat) (L : List Nat) (sl : List (Nat × (Bool × AV))) : yL t (kT L sl) = if inN t L = true then yL t sl else none := by
 rw [zAx, zWv]
 cases inN t L <;> rfl
@[go_sem] theorem mskB_f (bx ext : List (List AV)) : zNi false bx ext = bx ++ ext := rfl
@[go_sem] theorem mskB_t (bx ext : List (List AV)) : zNi true bx ext = ext := rfl
theorem zYk (t : Nat) : inN t [] = false := rfl
theorem zVi (t a : Nat) (L : List Nat) : inN t (a :: L) = if t = a then true else inN t L := rfl
attribute [go_sem] zYk zVi
def zC8 : List Operand → List Nat
 | [] => []
 | x :: r => match x with
  | .tmp t => t :: zC8 r
  | _ => zC8 r
def yD5 (full : Array Oper) : Option (Nat × Bool) → List Nat
 | none => []
 | some (j, _) => match (full[j]?).bind (·.dst) with
  | some d => [d]
  | none => []
theorem zPh (full : Array Oper) (o : Oper) : o.looksAt full = zC8 o.op.operands.toList ++ yD5 full o.guard := by
 unfold Oper.looksAt
 congr 1
 ·generalize o.op.operands.toList = l
  induction l with
  | nil => rfl
  | cons x r ih => cases x <;> simp [zC8, ih]
 ·cases o.guard with
  | none => rfl
  | some g =>
   obtain ⟨j, b⟩ := g
   simp only [yD5]
   cases (full[j]?).bind (·.dst) <;> rfl
theorem zQg : zC8 [] = [] := rfl
theorem zQf (t : Nat) (r : List Operand) : zC8 (.tmp t :: r) = t :: zC8 r := rfl
theorem zKs (v : Value) (r : List Operand) : zC8 (.const v :: r) = zC8 r := rfl
theorem zOq (f : FuncId) (r : List Operand) : zC8 (.func f :: r) = zC8 r := rfl
theorem zIj (g : Nat) (r : List Operand) : zC8 (.global g :: r) = zC8 r := rfl
theorem zSm (full : Array Oper) : yD5 full none = [] := rfl
theorem zSl (full : Array Oper) (j : Nat) (b : Bool) : yD5 full (some (j, b)) = (match (full[j]?).bind (·.dst) with | some d => [d] | none => []) := rfl
theorem yA6 {α : Type} (a b : Array α) : (a ++ b).toList = a.toList ++ b.toList := by simp
theorem yG5 {α : Type} (l : List α) : l.toArray.toList = l := by simp
theorem yA5 {α : Type} : (#[] : Array α).toList = [] := rfl
attribute [go_sem] yA6 yG5 yA5 List.nil_append List.cons_append zPh zQg zQf zKs zOq zIj zSm zSl Op.operands Call.operands
theorem zBl {α : Type} {a b : α} (h : a = b := by first | ((conv => lhs; simp only [go_sem, AV.oneL, AV.one, Value.oneCell', yE, ↓reduceIte, Nat.reduceEqDiff, Nat.reduceAdd, Nat.reduceMul]) <;> rfl) | fail) : a = b := h
def zV8 (full : List Oper) (ib : List Nat) (o : Oper) : Bool := (o.looksAt full.toArray).all fun t => ib.all fun j => match full[j]? with
 | some o' => o'.dst != some t
 | none => true
def zYe (o : Oper) : Bool := match o.op with
 | .store _ _ _ => true
 | .call c => match c.callee with
  | .builtin .copy => true
  | .builtin .append => true
  | _ => false
 | _ => false
def zVk (l : List Oper) : Bool := l.any zYe
def zAt (full : List Oper) : List Nat → List Oper
 | [] => []
 | i :: r => match full[i]? with
  | some o => o :: zAt full r
  | none => zAt full r
theorem zA5 (full : List Oper) : ∀ ib, ib.filterMap (full[·]?) = zAt full ib
 | [] => rfl
 | i :: r => by
  rw [List.filterMap_cons, zAt, zA5 full r]
  cases full[i]? <;> rfl
def zB7 (P : Program) (full : List Oper) (all : Bool) (m : Nat) (ia : List (Nat × AK)) (es : List AEn) (ib : List Nat) (l : List Oper) (k : ASt → Prop) (sl0 : List (Nat × (Bool × AV))) (st : ASt) : Prop :=
 full.drop m = l → st.sl = slA es ++ sl0 → ia = zQ0 es → ∃ (es' : List AEn) (ib' : List Nat),
  (∀ (p : Nat) (e : AEn), es'[p]? = some e → ∃ o, full[e.1]? = some o ∧ o.dst = some e.2.2.1 ∧ zZi P full.toArray all st o (slA (es'.take p) ++ st.sl) e.2.2.2.1 e.2.2.2.2 e.2.1) ∧
  yCm full (zQ0 (es ++ es')) (ib ++ ib') ∧ runT P full all st.bx (ib ++ ib').length (ib ++ ib') k { st with sl := slA es' ++ st.sl }
def KB (P : Program) (full : Array Oper) (all : Bool) (bx0 : List (List AV)) (o : Oper) (r : List Oper) (k : ASt → Prop) (nt nb0 nb : Nat) (L : List Nat) (sl : List (Nat × (Bool × AV))) (bx : List (List AV)) (rw : List zV) (ys : (Nat × List (List AV)) × List (List AV) × Bool) (st' : ASt) : Prop :=
 ∃ ent bx' rw', st' = ⟨nt, nb, dl o.dst ent ++ kT L sl, bx', rw', ys⟩ ∧ zFh all bx0 bx' ∧ (hrm o = true → rw' = rw ∧ ∃ ext, bx' = bx ++ ext) ∧ zU5 P full all bx0 r k ⟨nt, nb0, dl o.dst ent ++ sl, bx', rw', ys⟩
section
variable {P : Program} {Q : Exit → ASt → Prop} {T : TT} {full : List Oper} {all : Bool} {m : Nat} {ia : List (Nat × AK)} {es : List AEn} {ib : List Nat} {r : List Oper} {k : ASt → Prop} {nt nb : Nat} {sl sl0 : List (Nat × (Bool × AV))} {bx bx0 : List (List AV)} {rw : List zV} {ys : (Nat × List (List AV)) × List (List AV) × Bool} {o : Oper} {d : Nat}
theorem zOx (a b : List AEn) : slA (a ++ b) = slA b ++ slA a := by simp [slA]
theorem zLw (a b : List AEn) : zQ0 (a ++ b) = zQ0 a ++ zQ0 b := by simp [zQ0]
theorem zEy {l : List Oper} {m : Nat} {o : Oper} {r : List Oper} (h : l.drop m = o :: r) : l.drop (m + 1) = r ∧ l[m]? = some o := by
 have h1 : l[m]? = some o := by
  have := congrArg (·[0]?) h
  simpa using this
 refine ⟨?_, h1⟩
 rw [← List.drop_drop, h]; rfl
theorem zE (h : zB7 P full all (m + 1) ia es (ib ++ [m]) r k sl0 ⟨nt, nb, sl, bx, rw, ys⟩) : zB7 P full all m ia es ib (o :: r) k sl0 ⟨nt, nb, sl, bx, rw, ys⟩ := by
 intro h1 h2 h3
 obtain ⟨es', ib', h4, h5, h6⟩ := h (zEy h1).1 h2 h3
 exact ⟨es', m :: ib', h4, by simpa using h5, by simpa using h6⟩
theorem zHf (_ : zV8 full ib o = false) (h : zB7 P full all (m + 1) ia es (ib ++ [m]) r k sl0 ⟨nt, nb, sl, bx, rw, ys⟩) : zB7 P full all m ia es ib (o :: r) k sl0 ⟨nt, nb, sl, bx, rw, ys⟩ := zE h
theorem kE {kd : AK} {g : Bool} {x : AV} (hd : o.dst = some d) (hok : zZi P full.toArray all ⟨nt, nb, sl, bx, rw, ys⟩ o sl g x kd)
  (h : zB7 P full all (m + 1) (ia ++ [(m, kd)]) (es ++ [(m, kd, (d, (g, x)))]) ib r k sl0 ⟨nt, nb, (d, (g, x)) :: sl, bx, rw, ys⟩) : zB7 P full all m ia es ib (o :: r) k sl0 ⟨nt, nb, sl, bx, rw, ys⟩ := by
 intro h1 h2 h3
 have h2 : sl = slA es ++ sl0 := h2
 obtain ⟨es', ib', h4, h5, h6⟩ := h (zEy h1).1 (by rw [zOx, h2]; rfl) (by rw [zLw, h3]; rfl)
 refine ⟨(m, kd, (d, (g, x))) :: es', ib', fun p e hp => ?_, by simpa [yOs] using h5, ?_⟩
 ·cases p with
  | zero =>
   simp only [yMb, yMc] at hp
   subst hp
   exact ⟨o, (zEy h1).2, hd, hok⟩
  | succ p =>
   obtain ⟨o', g1, g2, g3⟩ := h4 p e (by simpa using hp)
   refine ⟨o', g1, g2, ?_⟩
   have : slA (((m, kd, (d, (g, x))) :: es').take (p + 1)) ++ sl = slA (es'.take p) ++ ((d, (g, x)) :: sl) := by
    simp [slA]
   simp only at g3 ⊢
   rw [this]
   exact g3
 ·have : slA ((m, kd, (d, (g, x))) :: es') ++ sl = slA es' ++ ((d, (g, x)) :: sl) := by simp [slA]
  simp only at h6 ⊢
  rw [this]
  exact h6
theorem zA4 (hT : TOk P T) (hd : o.dst = some d)
  (h : ∃ g,y9 full.toArray ⟨nt,nb,sl,bx,rw,ys⟩ o = some g ∧ ∃ cs x p,(∀ ext rw',opA T ⟨nt,nb,sl,zNi all bx ext,rw',ys⟩ o.op = some (cs,x,p)) ∧ (g = true → (∀ c ∈ cs,c = true) ∧ p) ∧ zB7 P full all (m + 1) (ia ++ [(m,.any)]) (es ++ [(m,.any,(d,(g,x)))]) ib r k sl0 ⟨nt,nb,(d,(g,x)) :: sl,bx,rw,ys⟩) : zB7 P full all m ia es ib (o :: r) k sl0 ⟨nt,nb,sl,bx,rw,ys⟩ := by
 obtain ⟨g, hg, cs, x, p, h1, h2, h3⟩ := h
 exact kE (kd := .any) (g := g) (x := x) hd (fun ext rw' => vI hT (st := ⟨nt, nb, sl, zNi all bx ext, rw', ys⟩) hg (h1 ext rw') h2) h3
theorem zCh (hT : TOk P T) (hd : o.dst = some d)
  (h : ∃ g,y9 full.toArray ⟨nt,nb,sl,bx,rw,ys⟩ o = some g ∧ ∃ cs x p,(∀ ext,opA T ⟨nt,nb,sl,bx ++ ext,rw,ys⟩ o.op = some (cs,x,p)) ∧ (g = true → (∀ c ∈ cs,c = true) ∧ p) ∧ zB7 P full all (m + 1) (ia ++ [(m,.first)]) (es ++ [(m,.first,(d,(g,x)))]) ib r k sl0 ⟨nt,nb,(d,(g,x)) :: sl,bx,rw,ys⟩) : zB7 P full all m ia es ib (o :: r) k sl0 ⟨nt,nb,sl,bx,rw,ys⟩ := by
 obtain ⟨g, hg, cs, x, p, h1, h2, h3⟩ := h
 exact kE (kd := .first) (g := g) (x := x) hd (fun ext => vI hT (st := ⟨nt, nb, sl, bx ++ ext, rw, ys⟩) hg (h1 ext) h2) h3
theorem zR1 (hT : TOk P T) (hd : o.dst = some d)
  (h : ∃ g,y9 full.toArray ⟨nt,nb,sl,bx,rw,ys⟩ o = some g ∧ ∃ cs x p,(∀ ext rw',opB T ⟨nt,nb,sl,zNi all bx ext,rw',ys⟩ o.op = some (cs,x,p)) ∧ (g = true → (∀ c ∈ cs,c = true) ∧ p) ∧ zB7 P full all (m + 1) (ia ++ [(m,.any)]) (es ++ [(m,.any,(d,(g,x)))]) ib r k sl0 ⟨nt,nb,(d,(g,x)) :: sl,bx,rw,ys⟩) : zB7 P full all m ia es ib (o :: r) k sl0 ⟨nt,nb,sl,bx,rw,ys⟩ := by
 obtain ⟨g, hg, cs, x, p, h1, h2, h3⟩ := h
 exact kE (kd := .any) (g := g) (x := x) hd (fun ext rw' => zNg hT (st := ⟨nt, nb, sl, zNi all bx ext, rw', ys⟩) hg (h1 ext rw') h2) h3
theorem zR0 (hT : TOk P T) (hd : o.dst = some d)
  (h : ∃ g,y9 full.toArray ⟨nt,nb,sl,bx,rw,ys⟩ o = some g ∧ ∃ cs x p,(∀ ext rw',mkA T ⟨nt,nb,sl,zNi all bx ext,rw',ys⟩ o.op = some (cs,x,p)) ∧ (g = true → (∀ c ∈ cs,c = true) ∧ p) ∧ zB7 P full all (m + 1) (ia ++ [(m,.any)]) (es ++ [(m,.any,(d,(g,x)))]) ib r k sl0 ⟨nt,nb,(d,(g,x)) :: sl,bx,rw,ys⟩) : zB7 P full all m ia es ib (o :: r) k sl0 ⟨nt,nb,sl,bx,rw,ys⟩ := by
 obtain ⟨g, hg, cs, x, p, h1, h2, h3⟩ := h
 exact kE (kd := .any) (g := g) (x := x) hd (fun ext rw' => zJ8 hT (st := ⟨nt, nb, sl, zNi all bx ext, rw', ys⟩) hg (h1 ext rw') h2) h3
theorem yJ (hd : o.dst = some d)
  (h : ∃ g,y9 full.toArray ⟨nt,nb,sl,bx,rw,ys⟩ o = some g ∧ ∃ cs f args,(∀ ext rw',kL ⟨nt,nb,sl,zNi all bx ext,rw',ys⟩ o.op = some (cs,f,args)) ∧ (g = true → (∀ c ∈ cs,c = true) ∧ AV.freeL args) ∧ ∃ x,(g = true → FnA P f args x) ∧ zB7 P full all (m + 1) (ia ++ [(m,.any)]) (es ++ [(m,.any,(d,(g,x)))]) ib r k sl0 ⟨nt,nb,(d,(g,x)) :: sl,bx,rw,ys⟩) : zB7 P full all m ia es ib (o :: r) k sl0 ⟨nt,nb,sl,bx,rw,ys⟩ := by
 obtain ⟨g, hg, cs, f, args, h1, h2, x, h3, h4⟩ := h
 exact kE (kd := .any) (g := g) (x := x) hd (fun ext rw' => zEg (st := ⟨nt, nb, sl, zNi all bx ext, rw', ys⟩) hg (h1 ext rw') h2 h3) h4
theorem zHe (h : ∃ ia', ia = ia' ∧ ∃ ib', ib = ib' ∧ zT6 full ia' ib' = true ∧ zU5 P full.toArray all bx (zAt full ib') k ⟨nt, nb, sl, bx, rw, ys⟩) : zB7 P full all m ia es ib [] k sl0 ⟨nt, nb, sl, bx, rw, ys⟩ := by
 obtain ⟨_, rfl, _, rfl, h1, h2⟩ := h
 rintro _ _ rfl
 obtain ⟨h3, h4⟩ := zK1 h1
 rw [← zA5] at h2
 exact ⟨[], [], fun p e h => by simp at h, by simpa using h3, by simpa [slA] using zA2 h4 h2⟩
theorem zE7 (h : ∃ ia', ia = ia' ∧ ∃ ib', ib = ib' ∧ zT5 full ia' ib' = true ∧ runT P full all bx ib'.length ib' k ⟨nt, nb, sl, bx, rw, ys⟩) : zB7 P full all m ia es ib [] k sl0 ⟨nt, nb, sl, bx, rw, ys⟩ := by
 obtain ⟨_, rfl, _, rfl, h1, h2⟩ := h
 rintro _ _ rfl
 exact ⟨[], [], fun p e h => by simp at h, by simpa using zK0 h1, by simpa [slA] using h2⟩
theorem qV {L : List Nat} {k' : ASt → Prop} (h64 : Nat.blt bx.length 64 = true) (hl : o.looksAt full.toArray = L) (h : ∀ nb', yZ P full.toArray [o] (fun st' => ∃ ent bx' rw', st' = ⟨nt, nb', dl o.dst ent ++ kT L sl, bx', rw', ys⟩ ∧ zFh all bx0 bx' ∧ (hrm o = true → rw' = rw ∧ ∃ ext, bx' = bx ++ ext) ∧ k' ⟨nt, nb, dl o.dst ent ++ sl, bx', rw', ys⟩) ⟨nt, nb', kT L sl, bx, rw, ys⟩) : zL2 P full.toArray all bx0 o k' ⟨nt, nb, sl, bx, rw, ys⟩ := by
 subst hl
 exact ⟨yP8 h64, h⟩
theorem zN (h : k ⟨nt, nb, sl, bx, rw, ys⟩) : zU5 P full.toArray all bx0 [] k ⟨nt, nb, sl, bx, rw, ys⟩ := h
theorem zT (h64 : Nat.blt bx.length 64 = true) (h : ∃ L, o.looksAt full.toArray = L ∧ ∀ nb', yZ P full.toArray [o] (KB P full.toArray all bx0 o r k nt nb nb' L sl bx rw ys) ⟨nt, nb', kT L sl, bx, rw, ys⟩) : zU5 P full.toArray all bx0 (o :: r) k ⟨nt, nb, sl, bx, rw, ys⟩ := by
 obtain ⟨_, rfl, h⟩ := h
 exact ⟨yP8 h64, h⟩
theorem zBc {nb' : Nat} {L : List Nat} {ent : Bool × AV} {bx' : List (List AV)} {rw' : List zV} (hd : o.dst = some d) (h1 : zFh all bx0 bx') (h2 : hrm o = true → rw' = rw ∧ ∃ ext, bx' = bx ++ ext)
  (h : zU5 P full.toArray all bx0 r k ⟨nt, nb, (d, ent) :: sl, bx', rw', ys⟩) : yZ P full.toArray [] (KB P full.toArray all bx0 o r k nt nb nb' L sl bx rw ys) ⟨nt, nb', (d, ent) :: kT L sl, bx', rw', ys⟩ :=
 zG ⟨ent, bx', rw', by rw [hd]; rfl, h1, h2, by rw [hd]; exact h⟩
theorem jP {nb' : Nat} {L : List Nat} {bx' : List (List AV)} {rw' : List zV} (hd : o.dst = none) (h1 : zFh all bx0 bx') (h2 : hrm o = true → rw' = rw ∧ ∃ ext, bx' = bx ++ ext)
  (h : zU5 P full.toArray all bx0 r k ⟨nt, nb, sl, bx', rw', ys⟩) : yZ P full.toArray [] (KB P full.toArray all bx0 o r k nt nb nb' L sl bx rw ys) ⟨nt, nb', kT L sl, bx', rw', ys⟩ :=
 zG ⟨(true, .raw undef), bx', rw', by rw [hd]; rfl, h1, h2, by rw [hd]; exact h⟩
theorem zFv (bx0 bx' : List (List AV)) : zFh true bx0 bx' := ⟨bx', rfl⟩
theorem jL {bx0 bx' : List (List AV)} (ext : List (List AV)) (h : bx' = bx0 ++ ext) : zFh false bx0 bx' := ⟨ext, h⟩
theorem zB9 (all : Bool) {id : Nat} {ops : List Oper} (hm : P.follows .mixedOrders = true) (hf : zI0 nt ops = true) (h : ∀ K : ASt → Prop, (∀ s, Q .normal s → K s) → zB7 P ops all 0 [] [] [] ops K sl ⟨nt, nb, sl, bx, rw, ys⟩) : wpA P (.region id ops.toArray true) Q ⟨nt, nb, sl, bx, rw, ys⟩ := by
 obtain ⟨es, ib, h1, h2, h3⟩ := h (Q .normal) (fun _ h => h) rfl rfl rfl
 intro C G a w hs
 have hs' := hs.drew
 simp only [yN8] at h2 h3
 have hz : ∀ j, (Array.replicate ops.toArray.size false).getD j false = false := fun j => by
  simp only [yMt, Array.getElem?_replicate]
  split <;> rfl
 have hz' : ∀ j, j < ops.length → (Array.replicate ops.toArray.size false).getD j true = false := fun j hj => by
  simp only [yMt, Array.getElem?_replicate]
  rw [if_pos (by simpa using hj)]; rfl
 refine wpIn_mono (Q := fun e a w => e = .normal ∧ zKk C Q .normal a w) (wpIn_region_any hm (yA0 (C := C) (es := es) (ib := ib) (st := ⟨nt, nb, sl, bx, rw, ys⟩) (k := Q .normal) h2 h1 (fun G a w st' hs hk => ⟨rfl, G, st', hs, hk⟩) _ _ G a _ ?_ ⟨hs'.frame, hs'.le, hs'.fresh, hs'.ownB, hs'.ownR, by rw [hs.size]; exact hf, hs.size, hs.callers, by simp, fun i o ho hl => ?_, fun t e _ hl => hs'.slot t e.1 e.2 hl, fun e he hl => ?_, hs'.env,
  ⟨ib, [], bx, rw, fun i => ?_, h2.nodup, ?_, fun _ => ⟨rfl, [], by simp⟩, hs'.mem, fun t e h => (by cases h), fun i o t _ hl => ?_, ?_⟩⟩)) (fun e a w h => by obtain ⟨rfl, h⟩ := h; exact h)
 ·exact yMk List.countP_le_length sq
 ·have hil : i < ops.length := (yNd.1 ho).1
  rw [hz' i hil] at hl; cases hl
 ·rw [hz] at hl; cases hl
 ·rw [hz i]; simp
 ·cases all
  ·exact ⟨[], by simp [zNi]⟩
  ·exact ⟨bx, rfl⟩
 ·rw [hz] at hl; cases hl
 ·simpa using h3
theorem zD (all : Bool) {id : Nat} {ops : List Oper} (_ : zVk ops = all) (hm : P.follows .mixedOrders = true) (hf : zI0 nt ops = true) (h : ∀ K : ASt → Prop, (∀ s, Q .normal s → K s) → zB7 P ops all 0 [] [] [] ops K sl ⟨nt, nb, sl, bx, rw, ys⟩) : wpA P (.region id ops.toArray true) Q ⟨nt, nb, sl, bx, rw, ys⟩ := zB9 all hm hf h
theorem zSp (h : zB7 P full all m ia es ib (o :: r) k sl0 ⟨nt, nb, sl, bx, rw, ys⟩) : zB7 P full all m ia es ib (o :: r) k sl0 ⟨nt, nb, sl, bx, rw, ys⟩ := h
theorem zSo (h : zB7 P full all m ia es ib [] k sl0 ⟨nt, nb, sl, bx, rw, ys⟩) : zB7 P full all m ia es ib [] k sl0 ⟨nt, nb, sl, bx, rw, ys⟩ := h
theorem yH {l : List Oper} (h : zU5 P full.toArray all bx0 l k ⟨nt, nb, sl, bx, rw, ys⟩) : zU5 P full.toArray all bx0 l k ⟨nt, nb, sl, bx, rw, ys⟩ := h
theorem wY {id : Nat} {ops : Array Oper} (h : wpA P (.region id ops true) Q ⟨nt, nb, sl, bx, rw, ys⟩) : wpA P (.region id ops true) Q ⟨nt, nb, sl, bx, rw, ys⟩ := h
theorem FnA.at_ {P : Program} {f f' : FuncId} {args args' : List AV} {r : AV} (h : FnA P f' args' r) (hf : f' = f) (ha : args' = args) : FnA P f args r := by
 subst hf; subst ha; exact h
theorem FnA.at_s {P : Program} {f f' : FuncId} {args args' : List AV} {r : AV} (h : FnA P f' args' r) (hf : f' = f) (hs : zB8 args args') : FnA P f args r := by
 subst hf; exact FnA.sim h hs
end
theorem z5 {P : Program} {full : List Oper} {all : Bool} {m : Nat} {ia : List (Nat × AK)} {es : List AEn} {ib : List Nat} {o : Oper} {r : List Oper} {k : ASt → Prop} {sl0 : List (Nat × (Bool × AV))} {st : ASt} (n : Nat) (hc : yBb o.op = n) (h : zB7 P full all m ia es ib (o :: r) k sl0 st) : zB7 P full all m ia es ib (o :: r) k sl0 st := h

def ASt.src (st : ASt) : AV → Option (Nat × Nat × List AV × Prop)
 | .bsl sz b off n _ => match st.bx[b]? with
  | some cs => some (sz, n, (cs.drop off).take (n * sz), off + n * sz ≤ cs.length)
  | none => none
 | v => match st.asL v with
  | some (sz, n, el, p) => some (sz, n, (List.range n).flatMap el, p)
  | none => none
section
variable {P : Program} {T : TT} {st : ASt} {G : Gh} {w : World}
theorem qX {blk k : Nat} {vs : List Value} {Ty : TypeId} {x : Nat × Nat} {u : Value} (h : w.heap[blk]? = some (.cells vs.toArray Ty x)) (hu : vs[k]? = some u) : w.cell? ⟨blk, k, none⟩ = some u := by
 simp [World.cell?, h, hu]
theorem zQq (hm : xU G w st.bx st.rw) {v : AV} {sz n : Nat} {us : List AV} {p : Prop} (h : st.src v = some (sz, n, us, p)) (hp : p) (h0 : 0 < sz) {x : Value} (hx : v.rel G w x) :
  ∃ A cap vs, x = .slice A n cap ∧ vs.length = n * sz ∧ AV.relL G w us vs ∧ (0 < n → ∃ a, A = some a ∧ ∀ j u, vs[j]? = some u → w.cell? (a.add j) = some u) := by
 have gen : ∀ v : AV, (match st.asL v with | some (sz, n, el, p) => some (sz, n, (List.range n).flatMap el, p) | none => none) = some (sz, n, us, p) → v.rel G w x →
   ∃ A cap vs, x = .slice A n cap ∧ vs.length = n * sz ∧ AV.relL G w us vs ∧ (0 < n → ∃ a, A = some a ∧ ∀ j u, vs[j]? = some u → w.cell? (a.add j) = some u) := by
  intro v h hx
  split at h
  ·rename_i sz' n' el p' hl
   simp only [yMc, yMu] at h
   obtain ⟨rfl, rfl, rfl, rfl⟩ := h
   have hyr := xN hm hl hp hx
   obtain ⟨A, cap, rfl, _⟩ := id hyr
   obtain ⟨news, h1, h2, h3, _⟩ := jU h0 hyr
   exact ⟨A, cap, news, rfl, h1, zEb h1 h3, h2⟩
  ·cases h
 unfold ASt.src at h
 split at h
 ·rename_i sz' b off n' cap'
  split at h
  ·rename_i cs hcs
   simp only [yMc, yMu] at h
   obtain ⟨rfl, rfl, rfl, rfl⟩ := h
   obtain ⟨blk, A, h1, rfl, h2, h3, h4⟩ := hx
   obtain ⟨_, vs, Ty, h5, h6⟩ := hm.box b cs blk hcs h1
   have hl := AV.relL_length h6
   refine ⟨A, cap', (vs.drop off).take (n' * sz'), rfl, by simp; omega, AV.relL_take _ (AV.relL_drop _ h6), fun hn => ⟨⟨blk, off, none⟩, h4 oq, fun j u hj => ?_⟩⟩
   rw [add_lit]
   refine qX h5 ?_
   rw [yMg] at hj
   split at hj
   ·rwa [yMf] at hj
   ·cases hj
  ·cases h
 ·exact gen _ h hx
theorem Sat.stored {C : Ctx P} {a : Act} {w' : World} (hs : Sat C G a w st) {b blk : Nat} {cs cs' : List AV} {vs' : List Value} {Ty : TypeId} (hb : st.bx[b]? = some cs) (hg : G.bx[b]? = some blk) (h9 : zIe w blk vs' Ty w') (hr : AV.relL G w cs' vs') :
  Sat C G a w' { st with bx := st.bx.set b cs' } ∧ G.Le w G w' := by
 obtain ⟨m, le⟩ := zGm hs.mem hb hg h9 hr
 have ho : zR (fun k => k ∈ G.bx ∨ ∃ x ∈ G.rw, (zC x.2) = some k) w w' := ⟨h9.os, h9.tape, h9.output, Nat.le_of_eq h9.size.symm, fun k _ hk => h9.other k fun e => hk (.inl (e ▸ yNr hg))⟩
 exact ⟨hs.called ho le (fun _ _ i => .inl i) (fun _ h => .inl h) (fun x hx g hg => .inl ⟨x, hx, hg⟩) m, le⟩
theorem zJ6 : ∀ (n : Nat) (l : List Value), wT l n ([] : List Value) = l
 | 0, l => by cases l <;> rfl
 | n + 1, l => by cases l <;> simp [wT, zJ6 n]
theorem kQ {blk off : Nat} {Ty : TypeId} {vs us : List Value} (h : w.heap[blk]? = some (.cells vs.toArray Ty (0, 0))) (hl : off + us.length ≤ vs.length) (h1 : ∀ u ∈ us, u.oneCell' = true) :
  ∃ w', (storeCells ⟨blk, off, none⟩ us).run P w = .ok () w' ∧ zIe w blk (wT vs off us) Ty w' := by
 obtain ⟨w', e8, e9⟩ := qY (P := P) (off := off) (vs := vs) us [] w (by rw [zJ6]; exact h) (by simp only [yO4]; omega) h1
 simp only [yN8, yO4] at e8 e9
 exact ⟨w', e8, e9⟩
theorem zCq (hT : TOk P T) {e : TypeId} {j : TI} (h3 : T e = some j) : ∃ ie z, P.info? e = some ie ∧ ie.size = j.size ∧ ie.zero = some z ∧ ie.bytes = j.bytes ∧ z.cells.toList = j.zero := by
 have h1 := (hT _ _ h3).info
 cases hie : P.info? e with
 | none => rw [hie] at h1; cases h1
 | some x =>
  rw [hie] at h1
  simp only [yMw, yMc, yMu] at h1
  cases hzz : x.zero with
  | none => rw [hzz] at h1; cases h1.1
  | some z =>
   rw [hzz] at h1
   simp only [yMw, yMc] at h1
   exact ⟨x, z, rfl, h1.2.1, hzz, h1.2.2, h1.1⟩
theorem kR (hT : TOk P T) {t e : TypeId} {s1 b1 : Nat} {z1 : List Value} {q1 : List CK} (h : T t = some ⟨.slice e, s1, b1, z1, q1⟩) : P.underlying t = some (.slice e) := by
 obtain ⟨d1, u1, u2⟩ := (hT _ _ h).und_some
 rw [u1, zF u2]
end
def zTm (st : ASt) (c : Call) : Option (List Bool × (Nat × Nat × Nat × Nat × Nat) × (Nat × Nat × List AV × Prop) × TypeId × TypeId) :=
 match c.args.toList, c.argTypes.toList with
 | [x, y], [t, t'] => match st.ev x, st.ev y with
  | some (g1, .bsl sz b off n cap), some (g2, v) => match st.src v with
   | some s => some ([g1, g2], (sz, b, off, n, cap), s, t, t')
   | none => none
  | _, _ => none
 | _, _ => none
def zJo : Builtin → Bool
 | .copy => true
 | _ => false
def zZl (st : ASt) (k : Builtin) (o : Op) : Option (List Bool × (Nat × Nat × Nat × Nat × Nat) × (Nat × Nat × List AV × Prop) × TypeId × TypeId) :=
 match o with
 | .call c => match c.callee with
  | .builtin .copy => bif zJo k then zTm st c else none
  | .builtin .append => bif zJo k then none else zTm st c
  | _ => none
 | _ => none
theorem zTl {st : ASt} {c : Call} {cs : List Bool} {sz b off n cap : Nat} {s : Nat × Nat × List AV × Prop} {t t' : TypeId} (h : zTm st c = some (cs, (sz, b, off, n, cap), s, t, t')) :
  ∃ x y g1 g2 v, c = ⟨c.callee, #[x, y], #[t, t']⟩ ∧ cs = [g1, g2] ∧ st.ev x = some (g1, .bsl sz b off n cap) ∧ st.ev y = some (g2, v) ∧ st.src v = some s := by
 obtain ⟨callee, args, argTypes⟩ := c
 obtain ⟨args⟩ := args
 obtain ⟨argTypes⟩ := argTypes
 unfold zTm at h
 simp only at h
 split at h
 ·split at h
  ·rename_i x y t1 t2 _ _ g1 sz' b' off' n' cap' g2 v hx hy
   split at h
   ·rename_i s' hs
    simp only [yMc, yMu] at h
    obtain ⟨rfl, ⟨rfl, rfl, rfl, rfl, rfl⟩, rfl, rfl, rfl⟩ := h
    exact ⟨x, y, g1, g2, v, rfl, rfl, hx, hy, hs⟩
   ·cases h
  ·cases h
 ·cases h
theorem zUe {st : ASt} {o : Op} {cs : List Bool} {sz b off n cap : Nat} {s : Nat × Nat × List AV × Prop} {t t' : TypeId} (h : zZl st .append o = some (cs, (sz, b, off, n, cap), s, t, t')) :
  ∃ x y g1 g2 v, o = .call ⟨.builtin .append, #[x, y], #[t, t']⟩ ∧ cs = [g1, g2] ∧ st.ev x = some (g1, .bsl sz b off n cap) ∧ st.ev y = some (g2, v) ∧ st.src v = some s := by
 unfold zZl at h
 split at h
 ·rename_i c
  split at h
  ·simp [zJo] at h
  ·rename_i hc
   obtain ⟨x, y, g1, g2, v, h1, h2⟩ := zTl (c := c) (by simpa [zJo] using h)
   exact ⟨x, y, g1, g2, v, by rw [h1, hc], h2⟩
  ·cases h
 ·cases h
section rules
variable {P : Program} {T : TT} {ops : Array Oper} {rest : List Oper} {K : ASt → Prop} {nt nb : Nat} {sl : List (Nat × (Bool × AV))} {bx : List (List AV)} {rw : List zV} {ys : (Nat × List (List AV)) × List (List AV) × Bool} {o : Oper} {d : Nat}
theorem zIx (hT : TOk P T) (hg : o.guard = none) (hd : o.dst = some d) (hn : Nat.blt d nt = true)
  {cs : List Bool} {sz b off n cap sz' m : Nat} {us : List AV} {p : Prop} {t t' : TypeId} (h1 : zZl ⟨nt, nb, sl, bx, rw, ys⟩ .append o.op = some (cs, (sz, b, off, n, cap), (sz', m, us, p), t, t')) (hc : ∀ c ∈ cs, c = true) (hp : p) (htt : t' = t)
  {e s1 b1 : Nat} {z1 : List Value} {q1 : List CK} (h2 : T t = some ⟨.slice e, s1, b1, z1, q1⟩) {j : TI} (h3 : T e = some j) (hsz : sz = j.size ∧ sz' = j.size ∧ 0 < j.size ∧ j.zero.length = j.size) (h0 : 0 < m) {cl : List AV} (hb : bx[b]? = some cl)
  (hone : AV.oneL ⟨nt, nb, sl, bx, rw, ys⟩ us) (hfit : off + cap * sz ≤ cl.length) (hmax : n + m ≤ maxLen ∧ (n + m) * j.bytes ≤ 140737488355328)
  (hroom : n + m ≤ cap → ∀ bx', bx.set b (wT cl (off + n * sz) us) = bx' → yZ P ops rest K ⟨nt, nb, (d, (true, .bsl sz b off (n + m) cap)) :: sl, bx', rw, ys⟩)
  (hgrow : cap < n + m → ∀ c, n + m ≤ c → c ≤ maxLen → ∀ bx' bn, bx.length = bn → bx ++ [((cl.drop off).take (n * sz) ++ us) ++ wI (c - (n + m)) j.zero] = bx' → yZ P ops rest K ⟨nt, nb, (d, (true, .bsl sz bn 0 (n + m) c)) :: sl, bx', rw, ys⟩) : yZ P ops (o :: rest) K ⟨nt, nb, sl, bx, rw, ys⟩ := by
 obtain ⟨x, y, g1, g2, v, hop, rfl, hx, hy, hsrc⟩ := zUe h1
 obtain ⟨rfl, rfl, j0, jz⟩ := hsz
 subst htt
 intro C G a w Q hs hQ
 have hev : ∀ y ∈ o.op.operands.toList, zIf G w a ⟨nt, nb, sl, bx, rw, ys⟩ y := fun y hy => yN fun t ht => hs.slot t
 obtain ⟨blk, A, hA0, ex, hnc, hcm, hA⟩ := hev x (by rw [hop]; simp [Op.operands, Call.operands]) _ _ hx (hc g1 sq)
 obtain ⟨A', cap', vs, ey, hvl, hvr, hva⟩ := zQq hs.mem hsrc hp j0 (hev y (by rw [hop]; simp [Op.operands, Call.operands]) _ _ hy (hc g2 sq))
 obtain ⟨a', rfl, hcell⟩ := hva h0
 have hu := kR hT h2
 obtain ⟨ie, z, g2', g1', g3, g4, e2⟩ := zCq hT h3
 obtain ⟨_, ws, Ty, b3, b4⟩ := hs.mem.box b cl blk hb hA0
 have hwl := AV.relL_length b4
 have h1c : ∀ u ∈ vs, u.oneCell' = true := zA6 hs.mem hone hvr
 have hmle : n * j.size ≤ cap * j.size := yNe _ hnc
 have hsr : Src P ie.size t' (.slice (some a') m cap') m vs w := .ofSlice w hu a' m cap' vs (by rw [g1']; exact hvl) hcell h1c
 refine wpListIn_plain hg fun K' hK => ?_
 refine zJ (fun c hc => by rw [hop] at hc; cases hc) ?_
 by_cases hr : n + m ≤ cap
 ·have hA := hA oq
  subst hA
  have hle : (n + m) * j.size ≤ cap * j.size := yNe _ hr
  rw [yN4] at hle
  obtain ⟨w', e8, e9⟩ := kQ (P := P) (off := off + n * j.size) (us := vs) b3 oq h1c
  obtain ⟨s1', le⟩ := hs.stored hb hA0 e9 (relL_put b4 hvr)
  have hexec : (execOp a.eval o).run P w = .ok (.value (.slice (some ⟨blk, off, none⟩) (n + m) cap)) w' := by
   obtain ⟨dst, op, type, pos, after, guard⟩ := o
   simp only at hop
   subst hop
   have hf := run_firstCells_some (P := P) w j.size m a' m cap' vs hvl hcell
   simp [execOp, resolve, invoke, builtin, ex, ey, Builtin.append_, run_underlying hu, Builtin.lenOf, sizeOf, typeInfo, g2', g1', hf, hr, add_lit, e8]
  rw [hexec, Oper.uponIn_value, hd]
  refine hK _ _ (hroom hr _ rfl C _ _ _ Q (s1'.put (by simpa [yNz] using hn) (fun _ => ⟨blk, _, ?_, rfl, hr, hcm, fun _ => rfl⟩) (fun h => by cases h)) hQ)
  exact hA0
 ·have hr : cap < n + m := by omega
  have hold : (Builtin.firstCells ie.size n (.slice A n cap)).run P w.drew = .ok ((ws.drop off).take (n * j.size)).toArray w.drew := by
   rw [g1']
   rcases yNc cap with h | h
   ·have hn0 : n = 0 := by omega
    subst hn0
    cases A with
    | none => simp [run_firstCells_none]
    | some A => exact run_firstCells_some (P := P) w.drew j.size 0 A 0 cap _ sq (fun q u hq => by simp at hq)
   ·rw [hA h]
    refine run_firstCells_some (P := P) w.drew j.size n ⟨blk, off, none⟩ n cap _ (by simp; omega) (fun q u hq => ?_)
    rw [add_lit]
    rw [yMg] at hq
    split at hq
    ·rw [yMf] at hq
     have := qX b3 hq
     simpa using this
    ·cases hq
  have hrun := fun ty => run_append_grow_src (P := P) w t' t' ty e ie z hu g2' g3 A n cap _ hold (.slice (some a') m cap') m vs hsr hr (by have := hmax.1; simp only [maxLen] at this; omega) (growslice_fits hr (by rw [g4]; exact hmax.2))
  have hge := grownCap_ge w (n + m) cap e
  have hcmx : grownCap w (n + m) cap e ≤ maxLen := grownCap_le_maxLen w (n + m) cap e hmax.1
  have hk := hgrow hr (grownCap w (n + m) cap e) hge hcmx _ _ rfl rfl
  generalize grownCap w (n + m) cap e = c at *
  have hexec : (execOp a.eval o).run P w = .ok (.value (.slice (some ⟨w.heap.size, 0, none⟩) (n + m) c)) (w.drew.alloc (.cells (((ws.drop off).take (n * j.size) ++ vs).toArray ++ Builtin.zeroCells z.cells (c - (n + m))) e)) := by
   obtain ⟨dst, op, type, pos, after, guard⟩ := o
   simp only at hop
   subst hop
   simp only [execOp, resolve, invoke, builtin, Array.map, ex, ey]
   have := hrun type
   simp [ex, ey, this]
  rw [hexec, Oper.uponIn_value, hd]
  have hb1 : Below w.heap.size w w.drew := (Below.refl _ _).drew
  have E := wX hs.mem hb1 G.imm (fun _ _ i => i) (fun _ _ i => .inl i) (fun b o i => hs.mem.immOk b o i)
  have hs1 : Sat C G a w.drew ⟨nt, nb, sl, bx, rw, ys⟩ := hs.called (zR.of_below hb1) E.le (fun _ _ i => .inl i) (fun _ h => .inl h) (fun x hx g hg => .inl ⟨x, hx, hg⟩) E.mem
  have hcells : AV.relL G w.drew (((cl.drop off).take (n * j.size) ++ us) ++ wI (c - (n + m)) j.zero) (((ws.drop off).take (n * j.size) ++ vs) ++ yT (c - (n + m)) j.zero) :=
   AV.relL_append (AV.relL_mono E.le _ _ (AV.relL_append (AV.relL_take _ (AV.relL_drop _ b4)) hvr)) (qC _ _)
  have hs2 := hs1.push e hcells
  have harr : (((ws.drop off).take (n * j.size) ++ vs) ++ yT (c - (n + m)) j.zero).toArray = ((ws.drop off).take (n * j.size) ++ vs).toArray ++ Builtin.zeroCells z.cells (c - (n + m)) := by
   apply Array.ext'
   simp [xZ, e2]
  rw [harr] at hs2
  refine hK _ _ (hk C _ _ _ Q (hs2.put (by simpa [yNz] using hn) (fun _ => ⟨w.heap.size, _, ?_, rfl, hge, hcmx, fun _ => rfl⟩) (fun h => by cases h)) hQ)
  show (G.bx ++ [w.heap.size])[bx.length]? = _
  have hlb : G.bx.length = bx.length := hs.mem.lenB
  rw [← hlb, yNu (yMj _), Nat.sub_self]
  rfl
theorem zEd {α : Type} : ∀ (cs : List α) (off : Nat) (us : List α), off + us.length ≤ cs.length → wT cs off us = cs.take off ++ (us ++ cs.drop (off + us.length))
 | [], 0, us, h => by
  have : us = [] := yMe (by simpa using h)
  subst this; rfl
 | c :: cs, 0, us, h => by
  have e : ∀ (us cs : List α), us.length ≤ cs.length → qS us cs = us ++ cs.drop us.length := by
   intro us
   induction us with
   | nil => intro cs _; rfl
   | cons u us ih => intro cs h; cases cs with
    | nil => simp at h
    | cons c cs => simp [qS, ih cs (by simpa using h)]
  have : wT (c :: cs) 0 us = qS us (c :: cs) := rfl
  rw [this, e us _ (by simpa using h)]
  simp
 | [], n + 1, us, h => by simp at h
 | c :: cs, n + 1, us, h => by
  have : wT (c :: cs) (n + 1) us = c :: wT cs n us := rfl
  rw [this, zEd cs n us (by simp at h; omega)]
  simp [Nat.add_right_comm n 1]
theorem zRi {α : Type} {A B C us : List α} {off : Nat} (hA : A.length = off) (hB : B.length = us.length) : wT (A ++ (B ++ C)) off us = A ++ (us ++ C) := by
 rw [zEd _ _ _ (by simp; omega), List.take_left' hA, ← yOs A B C, List.drop_left' (by simp; omega)]
end rules
mutual
theorem bel_free (m : Nat) : ∀ (x : AV), x.free → x.bel m
 | .raw _, _ => trivial
 | .agg cs, h => wR m cs h
 | .tup cs, h => wR m cs h
 | .lst _ n el, h => fun i hi => wR m (el i) (h i hi)
 | .elt cs _, h => wR m cs h
 | .box _ _, h => h.elim
 | .fn _ a b, h => ⟨wR m a h.1, wR m b h.2⟩
 | .row _ _, h => h.elim
 | .bsl _ _ _ _ _, h => h.elim
 | .ifc _ x, h => bel_free m x h
 | .ful x, h => bel_free m x h
theorem wR (m : Nat) : ∀ (xs : List AV), AV.freeL xs → AV.belL m xs
 | [], _ => trivial
 | x :: xs, h => ⟨bel_free m x h.1, wR m xs h.2⟩
end
theorem belL_free {m : Nat} (xs : List AV) (h : AV.freeL xs) : AV.belL m xs := wR m xs h
theorem obb {p : Prop} (h : p := by first
  | trivial
  | (simp [zFk, zQ3, AV.bel, AV.belL]; done)
  | (simp only [zFk, zQ3, AV.bel, AV.belL, yOi, yMv, yOj]; (repeat' apply And.intro) <;> first | trivial | omega | (simp; done) | (refine bel_free _ _ ?_; first | assumption | exact zO (fun _ => by simp) _) | (refine belL_free _ ?_; first | assumption | (simp; done)) | (intro r hr; cases hr; done))
  | (intro r hr; simp at hr; done)
  | (simp_all [zFk, zQ3, AV.bel, AV.belL]; done)
  | fail) : p := h
attribute [go_sem] zZl zTm zJo ASt.src
end Go.Proofs.YtioaahmkebojiaaGreatDoor
