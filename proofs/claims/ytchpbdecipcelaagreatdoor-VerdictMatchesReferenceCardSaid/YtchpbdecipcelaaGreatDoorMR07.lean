import Derived.Test.YtchpbdecipcelaaGreatDoorMR01
import Derived.Deep.AppendSrc
import Derived.Laws.Externs
import Derived.Lib.AppendZerosOnto
import Derived.Test.YtchpbdecipcelaaGreatDoorMR04
import Derived.Test.YtchpbdecipcelaaGreatDoorMR06
namespace Go.Proofs.YtchpbdecipcelaaGreatDoor
set_option linter.unusedVariables false
set_option linter.unusedSimpArgs false
set_option maxHeartbeats 4000000
set_option maxRecDepth 100000
open Go.RowKit

def zAw (L : List Nat) (sl : List (Nat × (Bool × AV))) : List (Nat × (Bool × AV)) := sl.filter fun e => L.contains e.1
theorem zBi {L : List Nat} {t : Nat} : ∀ {sl : List (Nat × (Bool × AV))}, xG t (zAw L sl) = bif L.contains t then xG t sl else none
 | [] => by cases L.contains t <;> rfl
 | (s, e) :: r => by
  have ih := zBi (L := L) (t := t) (sl := r)
  unfold zAw at ih ⊢
  rw [List.filter_cons]
  by_cases hs : L.contains s = true
  ·simp only [hs, if_true, xG]
   cases hb : Nat.beq t s
   ·simp only [yL9]; exact ih
   ·obtain rfl := yKw hb
    rw [hs]; rfl
  ·simp only [hs, yM7, if_false, xG]
   rw [ih]
   cases hb : Nat.beq t s
   ·rfl
   ·obtain rfl := yKw hb
    cases hc : L.contains t
    ·rfl
    ·exact absurd hc hs
def dl : Option Nat → (Bool × AV) → List (Nat × (Bool × AV))
 | some d, e => [(d, e)]
 | none, _ => []
theorem yBj {o : Option Nat} {e : Bool × AV} {t : Nat} {x : Bool × AV} (h : xG t (dl o e) = some x) : o = some t ∧ e = x := by
 cases o with
 | none => cases h
 | some d =>
  simp only [dl, xG] at h
  cases hb : Nat.beq t d
  ·rw [hb] at h; cases h
  ·rw [hb] at h
   cases h
   exact ⟨by rw [yKw hb], rfl⟩
def hrm (o : Oper) : Bool := match o.op with
 | .store _ _ _ => false
 | .call _ => false
 | .buildSlice _ _ _ => false
 | .makeSlice _ _ _ => false
 | .makeMap _ _ => false
 | .mapUpdate _ _ _ _ => false
 | _ => true
def zMy (all : Bool) (bx ext : List (List AV)) : List (List AV) := bif all then ext else bx ++ ext
def zGz (all : Bool) (bx bx' : List (List AV)) : Prop := ∃ ext, bx' = zMy all bx ext
def zMa (P : Program) (full : Array Oper) (all : Bool) (bx0 : List (List AV)) (o : Oper) (k : ASt → Prop) (st : ASt) : Prop :=
 st.bx.length < 64 ∧ ∀ nb, xK P full [o] (fun st' => ∃ ent bx' rw', st' = ⟨st.nt, nb, dl o.dst ent ++ zAw (o.looksAt full) st.sl, bx', rw', st.ys⟩ ∧ zGz all bx0 bx' ∧ (hrm o = true → rw' = st.rw ∧ ∃ ext, bx' = st.bx ++ ext) ∧
   k ⟨st.nt, st.nb, dl o.dst ent ++ st.sl, bx', rw', st.ys⟩) ⟨st.nt, nb, zAw (o.looksAt full) st.sl, st.bx, st.rw, st.ys⟩
theorem zQc {P : Program} {full : Array Oper} {all : Bool} {bx0 : List (List AV)} {o : Oper} {k k' : ASt → Prop} {st : ASt} (hk : ∀ s, k s → k' s) (h : zMa P full all bx0 o k st) : zMa P full all bx0 o k' st :=
 ⟨h.1, fun nb C G a w Q hs hQ => h.2 nb C G a w Q hs fun G' a' w' st' hs' ⟨ent, bx', rw', e, k1, k2, k3⟩ => hQ G' a' w' st' hs' ⟨ent, bx', rw', e, k1, k2, hk _ k3⟩⟩
def zWj (P : Program) (full : Array Oper) (all : Bool) (bx0 : List (List AV)) : List Oper → (ASt → Prop) → ASt → Prop
 | [], k, st => k st
 | o :: r, k, st => zMa P full all bx0 o (zWj P full all bx0 r k) st
inductive AK where
 | first | any
def yBz (P : Program) (full : Array Oper) (all : Bool) (st : ASt) (o : Oper) (sl : List (Nat × (Bool × AV))) (g : Bool) (x : AV) : AK → Prop
 | .first => ∀ ext, j4 P full o { st with sl := sl, bx := st.bx ++ ext } g x
 | .any => ∀ ext rw', j4 P full o { st with sl := sl, bx := zMy all st.bx ext, rw := rw' } g x
abbrev AEn := Nat × AK × (Nat × (Bool × AV))
def slA (es : List AEn) : List (Nat × (Bool × AV)) := (es.map (·.2.2)).reverse
def zS2 (es : List AEn) : List (Nat × AK) := es.map fun e => (e.1, e.2.1)
def xF (full : List Oper) (i j : Nat) : Bool := match full[i]? with
 | some o => v9 o j
 | none => false
def zUr (full : List Oper) (i : Nat) : Bool := match full[i]? with
 | some o => hrm o
 | none => false
def zIw (full : List Oper) : List Nat → Nat → Bool
 | [], _ => true
 | b :: r, i => xF full b i || (zUr full b && zIw full r i)
def AK.isFirst : AK → Bool
 | .first => true
 | .any => false
def wS (full : List Oper) : List Nat → Bool
 | a :: b :: r => xF full b a && wS full (b :: r)
 | _ => true
def zFj : List Nat → Bool
 | a :: b :: r => Nat.blt a b && zFj (b :: r)
 | _ => true
def zXg (full : List Oper) (ia : List (Nat × AK)) (i t : Nat) : Bool := full.zipIdx.all fun y => y.1.dst != some t || ((ia.any fun e => e.1 == y.2) && Nat.blt y.2 i && xF full i y.2) || (Nat.blt i y.2 && v9 y.1 i)
def zXf (full : List Oper) (i t : Nat) : Bool := full.zipIdx.all fun y => y.1.dst != some t || xF full i y.2
def zVr (full : List Oper) (ia : List (Nat × AK)) (ib : List Nat) : Bool :=
 (((List.range full.length).all fun i => (ia.any fun e => e.1 == i) || ib.contains i) && (ib.all fun i => !(ia.any fun e => e.1 == i) && Nat.blt i full.length)) &&
 ((full.zipIdx.all fun x => x.1.after.all fun e => !Region.binds .any e || Nat.blt e.on x.2) && (full.zipIdx.all fun x => full.zipIdx.all fun y => y.2 == x.2 || x.1.dst.isNone || x.1.dst != y.1.dst)) &&
 ((wS full ib && zFj (ia.map (·.1)) && ia.all fun e => !e.2.isFirst || zIw full ib e.1) &&
 (full.zipIdx.all fun x => (x.1.looksAt full.toArray).all fun t => bif ib.contains x.2 then zXf full x.2 t else zXg full ia x.2 t) && zC8 full)
theorem zS8 {P : Program} {o : Oper} {ro : Option Nat} {a : Act} {w : World} {K0 : Act → World → Prop} {Q0 Q : Exit → Act → World → Prop} (hd : ∀ c, o.op ≠ .defer c) (ds : List Deferred) (hQ : ∀ e a' w', Q0 e a' w' → e = .normal)
  (h : o.wpIn (fen ro) 0 P { a with defers := ds } w K0 Q0) : o.wpIn (fen ro) 0 P a w (fun a' w' => ∃ v pre, a' = ({ a with defers := pre ++ a.defers } : Act).put o.dst v ∧ K0 (({ a with defers := pre ++ ds } : Act).put o.dst v) w') Q := by
 have he : ({ a with defers := ds } : Act).eval = a.eval := rfl
 unfold Oper.wpIn at *
 rw [he] at h
 refine ⟨h.1, ?_⟩
 have h := h.2
 have hsem : ∀ ρ : Operand → Value, Oper.semAt (fen ro).round ρ o = execOp ρ o := fun ρ => zJs ro ρ o hd
 rw [hsem] at h ⊢
 generalize (execOp a.eval o).run P w = r at *
 cases r with
 | ok x w' =>
  cases x <;> simp only [Oper.uponIn] at h ⊢
  case value u => exact ⟨u, [], rfl, h⟩
  case skip => exact ⟨undef, [], rfl, h⟩
  case defer d => exact ⟨undef, [d], rfl, h⟩
  case enter f args =>
   refine ⟨h.1, CallsIn.mono h.2 fun e w'' he => ?_⟩
   cases e with
   | returned u => exact ⟨u, [], rfl, he⟩
   | panicked c => exact absurd (hQ _ _ _ he) (by simp)
   | outgrown => obtain ⟨a1, w1, he⟩ := he; exact absurd (hQ _ _ _ he) (by simp)
  case row row args => exact ⟨h.1, RowsIn.mono h.2 fun u w'' he => ⟨u, [], rfl, he⟩⟩
  case round l f tmps assign body =>
   refine ⟨h.1, RoundIn.mono h.2 fun e w'' he => ?_⟩
   cases e with
   | returned u => exact ⟨u, [], rfl, he⟩
   | panicked c => exact absurd (hQ _ _ _ he) (by simp)
   | outgrown => obtain ⟨a1, w1, he⟩ := he; exact absurd (hQ _ _ _ he) (by simp)
 | halt x w' =>
  cases x <;> simp only [Oper.uponIn] at h ⊢
  case panic u => exact absurd (hQ _ _ _ h) (by simp)

def yE3 (full : List Oper) (rem : List Nat) (i : Nat) : Bool := rem.all fun j => !xF full i j
def runT (P : Program) (full : List Oper) (all : Bool) (bx0 : List (List AV)) : Nat → List Nat → (ASt → Prop) → ASt → Prop
 | 0, _, k, st => k st
 | m + 1, rem, k, st => ∀ i ∈ rem, yE3 full rem i = true → ∀ o, full[i]? = some o → zMa P full.toArray all bx0 o (runT P full all bx0 m (rem.erase i) k) st
def zQ2 (full : List Oper) (ib : List Nat) (i : Nat) : Prop := ∀ listed : Nat → Prop, (∀ b c, xF full b c = true → listed b → listed c) → ¬ listed i → ∀ b ∈ ib, listed b → zUr full b = true
structure yEf (full : List Oper) (ia : List (Nat × AK)) (ib : List Nat) : Prop where
 cover : ∀ i, i < full.length → (∃ e ∈ ia, e.1 = i) ∨ i ∈ ib
 apart : ∀ i ∈ ib, i < full.length ∧ ∀ e ∈ ia, e.1 ≠ i
 back : ∀ (i : Nat) (o : Oper), full[i]? = some o → ∀ e ∈ o.after, Region.binds .any e = true → e.on < i
 dst : ∀ (i j : Nat) (o o' : Oper) (d : Nat), full[i]? = some o → full[j]? = some o' → o.dst = some d → o'.dst = some d → i = j
 nodup : ib.Nodup
 rises : zFj (ia.map (·.1)) = true
 first : ∀ e ∈ ia, e.2.isFirst = true → zQ2 full ib e.1
 looksB : ∀ (i : Nat) (o : Oper) (t : Nat), full[i]? = some o → i ∈ ib → t ∈ o.looksAt full.toArray → ∀ (j : Nat) (o' : Oper), full[j]? = some o' → o'.dst = some t → v9 o j = true
 looksA : ∀ (i : Nat) (o : Oper) (t : Nat), full[i]? = some o → i ∉ ib → t ∈ o.looksAt full.toArray → ∀ (j : Nat) (o' : Oper), full[j]? = some o' → o'.dst = some t → ((∃ e ∈ ia, e.1 = j) ∧ j < i ∧ v9 o j = true) ∨ (i < j ∧ v9 o' i = true)
 plain : zC8 full = true
def yDz (full : List Oper) (i : Nat) : List Nat := (List.range full.length).foldl (fun acc j => bif xF full j i || acc.any (fun c => xF full j c) then j :: acc else acc) []
def zIv (full : List Oper) (ib : List Nat) (i : Nat) : Bool := ib.all fun b => zUr full b || xF full b i || (yDz full i).contains b
def zOx : List Nat → Bool
 | [] => true
 | a :: r => !(r.contains a) && zOx r
def zVq (full : List Oper) (ia : List (Nat × AK)) (ib : List Nat) : Bool :=
 (((List.range full.length).all fun i => (ia.any fun e => e.1 == i) || ib.contains i) && (ib.all fun i => !(ia.any fun e => e.1 == i) && Nat.blt i full.length)) &&
 ((full.zipIdx.all fun x => x.1.after.all fun e => !Region.binds .any e || Nat.blt e.on x.2) && (full.zipIdx.all fun x => full.zipIdx.all fun y => y.2 == x.2 || x.1.dst.isNone || x.1.dst != y.1.dst)) &&
 ((zOx ib && zFj (ia.map (·.1)) && ia.all fun e => !e.2.isFirst || zIv full ib e.1) &&
 (full.zipIdx.all fun x => (x.1.looksAt full.toArray).all fun t => bif ib.contains x.2 then zXf full x.2 t else zXg full ia x.2 t) && zC8 full)
theorem zDv : ∀ {l : List Nat}, zOx l = true → l.Nodup
 | [], _ => List.nodup_nil
 | a :: r, h => by
  simp only [zOx, yLq, yLs] at h
  rw [yMd]
  exact ⟨by simpa using h.1, zDv h.2⟩
theorem zNk {full : List Oper} {i : Nat} {listed : Nat → Prop} (hc : ∀ b c, xF full b c = true → listed b → listed c) (hi : ¬ listed i) : ∀ b ∈ yDz full i, ¬ listed b := by
 have key : ∀ (l acc : List Nat), (∀ b ∈ acc, ¬ listed b) → ∀ b ∈ l.foldl (fun acc j => bif xF full j i || acc.any (fun c => xF full j c) then j :: acc else acc) acc, ¬ listed b := by
  intro l
  induction l with
  | nil => intro acc h; exact h
  | cons j r ih =>
   intro acc h
   rw [yL4]
   refine ih _ ?_
   cases hw : (xF full j i || acc.any (fun c => xF full j c)) with
   | false => exact h
   | true =>
    simp only [yKv]
    intro b hb
    rcases yLf.1 hb with rfl | hb
    ·intro hl
     rw [yMy, yNd] at hw
     rcases hw with hw | ⟨c, hca, hw⟩
     ·exact hi (hc _ _ hw hl)
     ·exact h c hca (hc _ _ hw hl)
    ·exact h b hb
 exact key _ [] (by simp)
theorem zGv {full : List Oper} {ib : List Nat} {i : Nat} (h : zIv full ib i = true) : zQ2 full ib i := by
 intro listed hc hi b hb hl
 simp only [zIv, yNi, yMy] at h
 rcases h b hb with (h | h) | h
 ·exact h
 ·exact absurd (hc _ _ h hl) hi
 ·exact absurd hl (zNk hc hi b (by simpa using h))
theorem j7 {full : List Oper} {i : Nat} {o : Oper} (h : full[i]? = some o) : (o, i) ∈ full.zipIdx := by rw [List.mem_zipIdx_iff_getElem?]; exact h
theorem zI1 {a b : Nat} (h : Nat.blt a b = true) : a < b := Nat.le_of_ble_eq_true h
theorem zE3 {full : List Oper} : ∀ {ib : List Nat} {p i j : Nat}, wS full ib = true → ib[p]? = some i → ib[p + 1]? = some j → xF full j i = true
 | [], _, _, _, _, h, _ => by simp at h
 | [a], _, _, _, _, _, h => by simp at h
 | a :: b :: r, 0, i, j, hc, h1, h2 => by
  simp only [yKi, yKk, yKj] at h1 h2
  subst h1; subst h2
  simp only [wS, yLq] at hc
  exact hc.1
 | a :: b :: r, p + 1, i, j, hc, h1, h2 => by
  simp only [wS, yLq] at hc
  exact zE3 hc.2 (by simpa using h1) (by simpa using h2)
theorem zLd {full : List Oper} {ia : List (Nat × AK)} {ib : List Nat}
  (h1 : ∀ x, x < full.length → (ia.any fun e => e.1 == x) = true ∨ ib.contains x = true) (h2 : ∀ x ∈ ib, (!(ia.any fun e => e.1 == x)) = true ∧ Nat.blt x full.length = true)
  (h3 : ∀ x ∈ full.zipIdx, (x.1.after.all fun e => !Region.binds .any e || Nat.blt e.on x.2) = true) (h4 : ∀ x ∈ full.zipIdx, ∀ y ∈ full.zipIdx, ((y.2 == x.2) = true ∨ x.1.dst.isNone = true) ∨ (x.1.dst != y.1.dst) = true)
  (h5 : ib.Nodup) (h6 : zFj (ia.map (·.1)) = true) (h7 : ∀ e ∈ ia, e.2.isFirst = true → zQ2 full ib e.1)
  (h8 : ∀ x ∈ full.zipIdx, ∀ t ∈ x.1.looksAt full.toArray, (bif ib.contains x.2 then zXf full x.2 t else zXg full ia x.2 t) = true) (h9 : zC8 full = true) : yEf full ia ib := by
 refine ⟨fun i hi => ?_, fun i hi => ?_, fun i o ho e he hb => ?_, fun i j o o' d ho ho' hd hd' => ?_, h5, h6, fun e he hf => ?_, fun i o t ho hi ht j o' ho' hd => ?_, fun i o t ho hi ht j o' ho' hd => ?_, h9⟩
 ·rcases h1 i hi with h | h
  ·rw [yNd] at h
   obtain ⟨e, he, h⟩ := h
   exact .inl ⟨e, he, by simpa using h⟩
  ·exact .inr (by simpa using h)
 ·have := h2 i hi
  refine ⟨zI1 this.2, fun e he hne => ?_⟩
  have h3 := this.1
  rw [yLs, yNc] at h3
  exact h3 e he (by simpa using hne)
 ·have := h3 (o, i) (j7 ho)
  rw [Array.all_eq_true_iff_forall_mem] at this
  have h3 := this e he
  simp only [hb, yMl, Bool.false_or] at h3
  exact zI1 h3
 ·have := h4 (o, i) (j7 ho) (o', j) (j7 ho')
  simp only [hd, hd', Option.isNone_some, bne_self_eq_false, yM7, yMv, beq_iff_eq] at this
  exact this.symm
 ·exact h7 e he hf
 ·have h10 := h8 (o, i) (j7 ho) t ht
  rw [show ib.contains i = true from by simpa using hi] at h10
  simp only [yKv, zXf, yNi, yMy] at h10
  have h11 := h10 (o', j) (j7 ho')
  simp only [hd, bne_self_eq_false, yM7, false_or, xF, ho] at h11
  exact h11
 ·have h10 := h8 (o, i) (j7 ho) t ht
  rw [show ib.contains i = false from by simpa using hi] at h10
  simp only [yL9, zXg, yNi, yMy, yLq] at h10
  have h11 := h10 (o', j) (j7 ho')
  simp only [hd, bne_self_eq_false, yM7, false_or, xF, ho] at h11
  rcases h11 with ⟨⟨h11, h12⟩, h13⟩ | ⟨h11, h12⟩
  ·rw [yNd] at h11
   obtain ⟨e, he, h⟩ := h11
   exact .inl ⟨⟨e, he, by simpa using h⟩, zI1 h12, h13⟩
  ·exact .inr ⟨zI1 h11, h12⟩
theorem zQ4 {full : List Oper} (h3 : ∀ x ∈ full.zipIdx, (x.1.after.all fun e => !Region.binds .any e || Nat.blt e.on x.2) = true) {j i : Nat} (h : xF full j i = true) : i < j := by
 unfold xF at h
 split at h
 ·rename_i ox hox
  obtain ⟨e, he, h8, h9⟩ := vT h
  have h10 := h3 (ox, j) (j7 hox)
  rw [Array.all_eq_true_iff_forall_mem] at h10
  have h11 := h10 e he
  simp only [h9, yMl, Bool.false_or] at h11
  have := zI1 h11
  omega
 ·cases h
theorem zPq {full : List Oper} (h3 : ∀ j i, xF full j i = true → i < j) : ∀ {ib : List Nat}, wS full ib = true → ib.Pairwise (· < ·)
 | [], _ => List.Pairwise.nil
 | [a], _ => List.pairwise_singleton ..
 | a :: b :: r, h => by
  simp only [wS, yLq] at h
  have ih := zPq h3 h.2
  have hab := h3 _ _ h.1
  rw [yNj]
  refine ⟨fun c hc => ?_, ih⟩
  rcases yLf.1 hc with rfl | hc
  ·exact hab
  ·have := (yNj.1 ih).1 c hc; omega
theorem zCj {full : List Oper} {i : Nat} : ∀ {ib : List Nat}, wS full ib = true → zIw full ib i = true → zQ2 full ib i
 | [], _, _ => fun _ _ _ b hb => by simp at hb
 | b0 :: r, hch, hf => by
  intro listed hc hi b hb hl
  have none : ¬ listed b0 → ∀ c ∈ b0 :: r, ¬ listed c := by
   clear hf hb hl
   induction r generalizing b0 with
   | nil => intro h c hm; rw [yM8] at hm; subst hm; exact h
   | cons b1 r ih =>
    intro h c hm
    simp only [wS, yLq] at hch
    rcases yLf.1 hm with rfl | hm
    ·exact h
    ·exact ih b1 hch.2 (fun h1 => h (hc _ _ hch.1 h1)) c hm
  simp only [zIw, yMy, yLq] at hf
  rcases hf with hf | ⟨h1, h2⟩
  ·exact absurd hl (none (fun h => hi (hc _ _ hf h)) b hb)
  ·rcases yLf.1 hb with rfl | hb
   ·exact h1
   ·have hch' : wS full r = true := by
     cases r with
     | nil => rfl
     | cons b1 r => simp only [wS, yLq] at hch; exact hch.2
    exact zCj hch' h2 listed hc hi b hb hl
theorem zLf {full : List Oper} {ia : List (Nat × AK)} {ib : List Nat} (h : zVr full ia ib = true) : yEf full ia ib ∧ wS full ib = true := by
 unfold zVr at h
 simp only [yLq, yNi, yMy, yN5] at h
 obtain ⟨⟨⟨h1, h2⟩, h3, h4⟩, ⟨⟨⟨h5, h6⟩, h7⟩, h8⟩, h9⟩ := h
 refine ⟨zLd h1 h2 h3 h4 ?_ h6 (fun e he hf => zCj h5 ?_) h8 h9, h5⟩
 ·exact (zPq (fun j i h => zQ4 h3 h) h5).imp fun h => Nat.ne_of_lt h
 ·have := h7 e he
  rw [hf] at this
  simpa using this
theorem zLe {full : List Oper} {ia : List (Nat × AK)} {ib : List Nat} (h : zVq full ia ib = true) : yEf full ia ib := by
 unfold zVq at h
 simp only [yLq, yNi, yMy, yN5] at h
 obtain ⟨⟨⟨h1, h2⟩, h3, h4⟩, ⟨⟨⟨h5, h6⟩, h7⟩, h8⟩, h9⟩ := h
 refine zLd h1 h2 h3 h4 (zDv h5) h6 (fun e he hf => zGv ?_) h8 h9
 have := h7 e he
 rw [hf] at this
 simpa using this
theorem xN {P : Program} {full : List Oper} {all : Bool} {bx0 : List (List AV)} {k : ASt → Prop} : ∀ {rem : List Nat} {st : ASt}, wS full rem = true → zWj P full.toArray all bx0 (rem.filterMap (full[·]?)) k st → runT P full all bx0 rem.length rem k st
 | [], st, _, h => h
 | a :: r, st, hch, h => by
  intro i hi hc o ho
  have hia : i = a := by
   rcases yLf.1 hi with h1 | h1
   ·exact h1
   ·obtain ⟨q, hq⟩ := yN6 h1
    have hql : q < (a :: r).length := by have := (yLk.1 hq).1; rw [yL2]; omega
    have hw := zE3 (p := q) hch (yLm hql) (by simpa using hq)
    simp only [yE3, yNi] at hc
    have := hc _ (yNe hql)
    rw [hw] at this
    cases this
  subst hia
  rw [List.filterMap_cons_some ho] at h
  rw [List.erase_cons_head]
  have hch' : wS full r = true := by
   cases r with
   | nil => rfl
   | cons b1 r => simp only [wS, yLq] at hch; exact hch.2
  exact zQc (fun s hs => xN hch' hs) h
theorem zFi : ∀ {l : List Nat} {p q i j : Nat}, zFj l = true → l[p]? = some i → l[q]? = some j → p < q → i < j
 | [], _, _, _, _, _, h, _, _ => by simp at h
 | [a], p, q, _, _, _, h1, h2, h => by
  have := (yLk.1 h2).1
  simp at this; omega
 | a :: b :: r, p, q, i, j, hr, h1, h2, h => by
  simp only [zFj, yLq] at hr
  have hab := zI1 hr.1
  cases q with
  | zero => omega
  | succ q =>
   simp only [yKk] at h2
   cases p with
   | succ p => exact zFi hr.2 (by simpa using h1) h2 (by omega)
   | zero =>
    simp only [yKi, yKj] at h1
    subst h1
    cases q with
    | zero => simp only [yKi, yKj] at h2; omega
    | succ q => have := zFi hr.2 (i := b) (p := 0) (q := q + 1) rfl h2 (by omega); omega
def zGl (G : Gh) (w : World) (a : Act) (t : Nat) (e : Bool × AV) : Prop := ∃ v, a.tmps[t]? = some v ∧ (e.1 = true → e.2.rel G w v) ∧ (e.1 = false → v = undef)
theorem zGl.mono {G G' : Gh} {w w' : World} {a a' : Act} {t : Nat} {e : Bool × AV} (le : G.Le w G' w') (h : zGl G w a t e) (ha : a'.tmps[t]? = a.tmps[t]?) : zGl G' w' a' t e := by
 obtain ⟨v, h1, h2, h3⟩ := h
 exact ⟨v, by rw [ha]; exact h1, fun hc => AV.rel_mono le _ _ (h2 hc), h3⟩
structure Mid4 {P : Program} (C : Ctx P) (full : List Oper) (all : Bool) (es : List AEn) (ib : List Nat) (st : ASt) (k : ASt → Prop) (listed : Array Bool) (G : Gh) (a : Act) (w : World) : Prop where
 frame' : z6 C.may C.w0 w
 le : C.G0.Le C.w0 G w
 fresh : ∀ b o, G.imm b o → C.G0.imm b o ∨ C.w0.heap.size ≤ b ∨ ∃ x ∈ C.G0.rw, (zK x.2) = some b
 ownB : ∀ blk ∈ G.bx, blk ∈ C.G0.bx ∨ C.w0.heap.size ≤ blk
 ownR : ∀ x ∈ G.rw, ∀ g, (zK x.2) = some g → (∃ y ∈ C.G0.rw, (zK y.2) = some g) ∨ C.w0.heap.size ≤ g
 fits : zJ1 a.tmps.size full = true
 size : a.tmps.size = st.nt
 callers : C.G0.bx.length = st.nb % 64 ∧ C.G0.rw.length = st.nb / 64
 lsz : listed.size = full.length
 clo : ∀ (i : Nat) (o : Oper), full[i]? = some o → listed.getD i true = true → ∀ e ∈ o.after, Region.binds .any e = true → listed.getD e.on false = true
 old : ∀ (t : Nat) e, (∀ (i : Nat) (o : Oper), full[i]? = some o → o.dst = some t → listed.getD i false = false) → xG t st.sl = some e → zGl G w a t e
 new : ∀ e ∈ es, listed.getD e.1 false = true → zGl G w a e.2.2.1 e.2.2.2
 env : ∃ D, EnvD C G a.defers st.ys D w
 tree : ∃ (rem : List Nat) (eb : List (Nat × (Bool × AV))) (bx : List (List AV)) (rw : List yD), (∀ i, i ∈ rem ↔ i ∈ ib ∧ listed.getD i false = false) ∧ rem.Nodup ∧ zGz all st.bx bx ∧ ((∀ b ∈ ib, listed.getD b false = true → zUr full b = true) → rw = st.rw ∧ ∃ ext, bx = st.bx ++ ext) ∧ wL G w bx rw ∧
  (∀ t e, xG t eb = some e → zGl G w a t e ∧ ∃ i o, i ∈ ib ∧ full[i]? = some o ∧ o.dst = some t) ∧ (∀ i o t, i ∈ ib → listed.getD i false = true → full[i]? = some o → o.dst = some t → xG t eb ≠ none) ∧
  runT P full all st.bx rem.length rem k ⟨st.nt, st.nb, eb ++ (slA es ++ st.sl), bx, rw, st.ys⟩
theorem zIa {es : List AEn} {t : Nat} {x : Bool × AV} (h : xG t (slA es) = some x) : ∃ e ∈ es, e.2.2 = (t, x) := by
 have := zFv h
 unfold slA at this
 rw [List.mem_reverse, yMf] at this
 exact this
theorem zKm {t : Nat} {x : Bool × AV} : ∀ {l : List (Nat × (Bool × AV))}, (t, x) ∈ l → xG t l ≠ none
 | (d, y) :: l, h => by
  rw [zO]
  split
  ·simp
  ·rcases yLf.1 h with h | h
   ·rename_i hne; cases h; exact absurd rfl hne
   ·exact zKm h
theorem zMb {es : List AEn} {e : AEn} (h : e ∈ es) : xG e.2.2.1 (slA es) ≠ none := zKm (x := e.2.2.2) (by unfold slA; rw [List.mem_reverse, yMf]; exact ⟨e, h, rfl⟩)

theorem kW {listed : Array Bool} {full : List Oper} {i : Nat} (hsz : listed.size = full.length) (hi : i < full.length) : listed.getD i false = listed.getD i true := zXw (by omega) _ _
theorem yC6 {P : Program} {C : Ctx P} {full : List Oper} {all : Bool} {es : List AEn} {ib : List Nat} {st : ASt} {k : ASt → Prop} {Q : Exit → Act → World → Prop} (D4 : yEf full (zS2 es) ib)
  (hsp : ∀ (p : Nat) (e : AEn), es[p]? = some e → ∃ o, full[e.1]? = some o ∧ o.dst = some e.2.2.1 ∧ yBz P full.toArray all st o (slA (es.take p) ++ st.sl) e.2.2.2.1 e.2.2.2.2 e.2.1)
  (hQ : ∀ G a w st', Sat C G a w st' → k st' → Q .normal a w) :
  ∀ (fuel : Nat) (listed : Array Bool) (G : Gh) (a : Act) (w : World), (List.range full.length).countP (fun k => !listed.getD k true) ≤ fuel → Mid4 C full all es ib st k listed G a w → wpAnyIn (fen C.round) 0 P .any full.toArray Q fuel listed a w := by
 have hia : ∀ e ∈ es, (e.1, e.2.1) ∈ zS2 es := fun e he => yMf.2 ⟨e, he, rfl⟩
 have hai : ∀ i, (∃ e ∈ zS2 es, e.1 = i) → ∃ e ∈ es, e.1 = i := by
  rintro i ⟨e, he, rfl⟩
  obtain ⟨e', h1, rfl⟩ := yMf.1 he
  exact ⟨e', h1, rfl⟩
 have hrise : ∀ (p q : Nat) (e e' : AEn), es[p]? = some e → es[q]? = some e' → p < q → e.1 < e'.1 := fun p q e e' h1 h2 h => by
  refine zFi (l := (zS2 es).map (·.1)) D4.rises (p := p) (q := q) ?_ ?_ h
  ·simp [zS2, h1]
  ·simp [zS2, h2]
 have huniq : ∀ (p q : Nat) (e e' : AEn), es[p]? = some e → es[q]? = some e' → e.1 = e'.1 → p = q := fun p q e e' h1 h2 h => by
  rcases Nat.lt_trichotomy p q with h3 | h3 | h3
  ·have := hrise p q e e' h1 h2 h3; omega
  ·exact h3
  ·have := hrise q p e' e h2 h1 h3; omega
 have hplain : ∀ (o : Oper), o ∈ full → (∀ c, o.op ≠ .defer c) := fun o ho c hc => by
  have h1 := D4.plain
  simp only [zC8, yNi] at h1
  have h2 := h1 o ho
  rw [hc] at h2; cases h2
 have hops : ∀ e ∈ es, ∃ o, full[e.1]? = some o ∧ o.dst = some e.2.2.1 := fun e he => by
  obtain ⟨p, hp⟩ := yN6 he
  obtain ⟨o, h1, h2, _⟩ := hsp p e hp
  exact ⟨o, h1, h2⟩
 -- all is done
 have done : ∀ (listed : Array Bool) (G : Gh) (a : Act) (w : World), Mid4 C full all es ib st k listed G a w → Region.ready .any full.toArray listed = [] → Q .normal a w := by
  intro listed G a w hm hr
  have hall : ∀ i, i < full.length → listed.getD i true = true := by
   intro i
   induction i using Nat.strongRecOn with
   | _ i ih =>
    intro hi
    by_cases hu : listed.getD i true = true
    ·exact hu
    ·exfalso
     have : i ∈ Region.ready .any full.toArray listed := by
      rw [mem_ready]
      refine ⟨by simpa using hu, full[i], by rw [List.getElem?_toArray, yLm hi], fun e he heb => ?_⟩
      have hlt := D4.back i full[i] (yLm hi) e he heb
      rw [kW hm.lsz (by omega)]
      exact ih e.on hlt (by omega)
     rw [hr] at this
     cases this
  have hal : ∀ i, i < full.length → listed.getD i false = true := fun i hi => by rw [kW hm.lsz hi]; exact hall i hi
  obtain ⟨rem, eb, bx, rw', t1, t2, t3, t4, t5, t6, t7, t8⟩ := hm.tree
  have hn : rem = [] := by
   rw [List.eq_nil_iff_forall_not_mem]
   intro i hi
   obtain ⟨h1, h2⟩ := (t1 i).1 hi
   rw [hal i (D4.apart i h1).1] at h2
   cases h2
  subst hn
  refine hQ G a w ⟨st.nt, st.nb, eb ++ (slA es ++ st.sl), bx, rw', st.ys⟩ ⟨hm.size, hm.callers, hm.frame', hm.le, hm.fresh, hm.ownB, hm.ownR, hm.env, t5, fun t c x hl => ?_⟩ t8
  simp only [ASt.look, x8] at hl
  cases h1 : xG t eb with
  | some y => rw [h1] at hl; cases hl; exact (t6 t _ h1).1
  | none =>
   rw [h1] at hl
   cases h2 : xG t (slA es) with
   | some y =>
    rw [h2] at hl
    cases hl
    obtain ⟨e, he, h3⟩ := zIa h2
    obtain ⟨o, ho, _⟩ := hops e he
    have := hm.new e he (hal _ (yLk.1 ho).1)
    rw [h3] at this
    exact this
   | none =>
    rw [h2] at hl
    refine hm.old t (c, x) (fun i o ho hdt => ?_) hl
    exfalso
    have hil := (yLk.1 ho).1
    rcases D4.cover i hil with h3 | h3
    ·obtain ⟨e, he, rfl⟩ := hai i h3
     obtain ⟨o', ho', hd'⟩ := hops e he
     rw [ho] at ho'; cases ho'
     rw [hdt] at hd'
     cases hd'
     exact zMb he h2
    ·exact t7 i o t h3 (hal i hil) ho hdt h1
 intro fuel
 induction fuel with
 | zero =>
  intro listed G a w hcnt hm
  have hr : Region.ready .any full.toArray listed = [] := by
   rw [List.eq_nil_iff_forall_not_mem]
   intro i hi
   obtain ⟨h1, o, h2, _⟩ := mem_ready.1 hi
   have hil : i < full.length := by simpa using (yKp.1 h2).1
   have h3 : 0 < (List.range full.length).countP (fun k => !listed.getD k true) := by
    rw [List.countP_pos_iff]
    exact ⟨i, yN5.2 hil, by simpa using h1⟩
   omega
  exact ⟨hr, done listed G a w hm hr⟩
 | succ fuel ih =>
  intro listed G a w hcnt hm
  refine ⟨done listed G a w hm, fun i hi => ?_⟩
  obtain ⟨h1, o, h2, h3⟩ := mem_ready.1 hi
  have ho : full[i]? = some o := by simpa using h2
  have hil : i < full.length := (yLk.1 ho).1
  have hil' : i < listed.size := by rw [hm.lsz]; exact hil
  have hun : listed.getD i false = false := by rw [kW hm.lsz hil]; exact h1
  have hcnt' : (List.range full.length).countP (fun k => !(listed.setIfInBounds i true).getD k true) ≤ fuel := by
   have := zLj (p := fun k => !listed.getD k true) (q := fun k => !(listed.setIfInBounds i true).getD k true) (k := i) (l := List.range full.length)
    (fun k _ hk => by
     by_cases hik : i = k
     ·subst hik; rw [xV hil'] at hk; simp at hk
     ·rwa [wO hik] at hk) (yN5.2 hil) (by simp [h1]) (by show (!_) = false; rw [xV hil']; rfl)
   omega
  have clo' : ∀ (j : Nat) (o' : Oper), full[j]? = some o' → (listed.setIfInBounds i true).getD j true = true → ∀ e ∈ o'.after, Region.binds .any e = true → (listed.setIfInBounds i true).getD e.on false = true := by
   intro j o' ho' hl e he heb
   have hup : listed.getD e.on false = true → (listed.setIfInBounds i true).getD e.on false = true := fun h => by
    by_cases hie : i = e.on
    ·rw [← hie, xV hil']
    ·rw [wO hie]; exact h
   by_cases hij : i = j
   ·subst hij
    rw [ho] at ho'
    cases ho'
    exact hup (h3 e he heb)
   ·rw [wO hij] at hl
    exact hup (hm.clo j o' ho' hl e he heb)
  obtain ⟨rem, eb, bx, rw', t1, t2, t3, t4, t5, t6, t7, t8⟩ := hm.tree
  have waitL : ∀ j, v9 o j = true → listed.getD j false = true := fun j h => by
   obtain ⟨e, he, h4, h5⟩ := vT h
   rw [← h4]; exact h3 e he h5
  have waitU : ∀ (j : Nat) (o' : Oper), full[j]? = some o' → v9 o' i = true → listed.getD j false = false := fun j o' ho' h => by
   cases hc : listed.getD j false with
   | false => rfl
   | true =>
    exfalso
    obtain ⟨e, he, h4, h5⟩ := vT h
    have hjl : j < full.length := (yLk.1 ho').1
    have h6 := hm.clo j o' ho' (by rw [← kW hm.lsz hjl]; exact hc) e he h5
    rw [h4, hun] at h6
    cases h6
  have dlt : ∀ d, o.dst = some d → d < a.tmps.size := fun d hd => by
   have := hm.fits
   simp only [zJ1, yNi] at this
   have := this o (yLz ho)
   rw [hd] at this
   simpa using this
  unfold wpOpIn
  simp only [List.getElem?_toArray, ho]
  by_cases hib : i ∈ ib
  ·have hir : i ∈ rem := (t1 i).2 ⟨hib, hun⟩
   have hca : yE3 full rem i = true := by
    simp only [yE3, yNi, yLs]
    intro j hj
    cases hw : xF full i j with
    | false => rfl
    | true =>
     simp only [xF, ho] at hw
     have h4 := waitL j hw
     rw [((t1 j).1 hj).2] at h4
     cases h4
   have hlr : rem.length = (rem.erase i).length + 1 := by
    have h4 := List.length_erase_of_mem hir
    have h5 := List.length_pos_of_mem hir
    omega
   rw [hlr] at t8
   obtain ⟨t64, t8⟩ := t8 i hir hca o ho
   obtain ⟨D, hD⟩ := hm.env
   have hlenB := t5.lenB
   have hlenR := t5.lenR
   have hbl : G.bx.length < 64 := by have h64 : bx.length < 64 := t64; omega
   have t8 := t8 (G.bx.length + 64 * G.rw.length)
   let C' : Ctx P := { round := C.round, l := C.l, D := D, W := C.W, I0 := C.I0, G0 := G, w0 := w, base := fun b o h => hm.le.imm b o (C.base b o h), stable := C.stable, y := C.y, tabs := C.tabs }
   have hs : Sat C' G { a with defers := [] } w ⟨st.nt, G.bx.length + 64 * G.rw.length, zAw (o.looksAt full.toArray) (eb ++ (slA es ++ st.sl)), bx, rw', st.ys⟩ := by
    refine ⟨hm.size, ⟨?_, ?_⟩, z6.refl _ _, Gh.Le.refl _ _, fun b o h => .inl h, fun b h => .inl h, fun x hx g hg => .inl ⟨x, hx, hg⟩, ⟨D, ⟨hD.l, hD.cons, fun k h => .inl h, hD.lt, hD.bx, hD.rw, hD.imm, ⟨[], rfl, List.nodup_nil, fun m h => by cases h⟩, hD.record⟩⟩, t5, fun t c x hl => ?_⟩
    ·show G.bx.length = (G.bx.length + 64 * G.rw.length) % 64
     omega
    ·show G.rw.length = (G.bx.length + 64 * G.rw.length) / 64
     omega
    ·simp only [ASt.look] at hl
     rw [zBi] at hl
     cases hc : (o.looksAt full.toArray).contains t with
     | false => rw [hc] at hl; cases hl
     | true =>
      rw [hc] at hl
      simp only [yKv, x8] at hl
      have hlk : t ∈ o.looksAt full.toArray := by simpa using hc
      have hB := D4.looksB i o t ho hib hlk
      cases g1 : xG t eb with
      | some y => rw [g1] at hl; cases hl; exact (t6 t _ g1).1
      | none =>
       rw [g1] at hl
       cases g2 : xG t (slA es) with
       | some y =>
        rw [g2] at hl
        cases hl
        obtain ⟨e, he, g3⟩ := zIa g2
        obtain ⟨o', ho', hd'⟩ := hops e he
        rw [g3] at hd'
        have := hm.new e he (waitL _ (hB _ _ ho' hd'))
        rw [g3] at this
        exact this
       | none =>
        rw [g2] at hl
        refine hm.old t (c, x) (fun j o' ho' hdt => ?_) hl
        exfalso
        have hjl := (yLk.1 ho').1
        have hlj := waitL j (hB j o' ho' hdt)
        rcases D4.cover j hjl with g3 | g3
        ·obtain ⟨e, he, rfl⟩ := hai j g3
         obtain ⟨o2, ho2, hd2⟩ := hops e he
         rw [ho'] at ho2; cases ho2
         rw [hdt] at hd2
         cases hd2
         exact zMb he g2
        ·exact t7 j o' t g3 hlj ho' hdt g1
   have h4 := t8 C' G _ w (fun e a' w' => e = .normal ∧ ∃ G' st', Sat C' G' a' w' st' ∧ ∃ ent bx' rw'', st' = ⟨st.nt, G.bx.length + 64 * G.rw.length, dl o.dst ent ++ zAw (o.looksAt full.toArray) (eb ++ (slA es ++ st.sl)), bx', rw'', st.ys⟩ ∧ zGz all st.bx bx' ∧ (hrm o = true → rw'' = rw' ∧ ∃ ext, bx' = bx ++ ext) ∧
     runT P full all st.bx (rem.erase i).length (rem.erase i) k ⟨st.nt, st.nb, dl o.dst ent ++ (eb ++ (slA es ++ st.sl)), bx', rw'', st.ys⟩) hs (fun G' a' w' st' hs' hk => ⟨rfl, G', st', hs', hk⟩)
   -- what is so behind it
   have next : ∀ (v : Value) (pre : List Deferred) (w' : World) (G' : Gh) (st' : ASt), Sat C' G' (({ a with defers := pre ++ [] } : Act).put o.dst v) w' st' → (∃ ent bx' rw'', st' = ⟨st.nt, G.bx.length + 64 * G.rw.length, dl o.dst ent ++ zAw (o.looksAt full.toArray) (eb ++ (slA es ++ st.sl)), bx', rw'', st.ys⟩ ∧ zGz all st.bx bx' ∧ (hrm o = true → rw'' = rw' ∧ ∃ ext, bx' = bx ++ ext) ∧
     runT P full all st.bx (rem.erase i).length (rem.erase i) k ⟨st.nt, st.nb, dl o.dst ent ++ (eb ++ (slA es ++ st.sl)), bx', rw'', st.ys⟩) →
     wpAnyIn (fen C.round) 0 P .any full.toArray Q fuel (listed.setIfInBounds i true) (({ a with defers := pre ++ a.defers } : Act).put o.dst v) w' := by
    rintro v pre w' G' st' hs' ⟨ent, bx', rw'', rfl, k1, k2, k3⟩
    have le : G.Le w G' w' := hs'.le
    have hfr : z6 C'.may w w' := hs'.frame
    have putOther : ∀ t, o.dst ≠ some t → (({ a with defers := pre ++ a.defers } : Act).put o.dst v).tmps[t]? = a.tmps[t]? := fun t ht => by
     cases hdo : o.dst with
     | none => rfl
     | some d => rw [Act.put_get, if_neg (fun e => ht (by rw [hdo, e]))]
    have hslot : ∀ d, o.dst = some d → zGl G' w' (({ a with defers := pre ++ a.defers } : Act).put o.dst v) d ent := fun d hdo => by
     obtain ⟨u, u1, u2⟩ := hs'.slot d ent.1 ent.2 (by simp only [ASt.look, x8, hdo, dl, zO]; rfl)
     refine ⟨u, ?_, u2⟩
     rw [← u1, hdo]
     rfl
    have hsizep : (({ a with defers := pre ++ a.defers } : Act).put o.dst v).tmps.size = a.tmps.size := by cases o.dst <;> simp [Act.put]
    have hle' : ∀ j, j ≠ i → (listed.setIfInBounds i true).getD j false = listed.getD j false := fun j h => wO (fun e => h e.symm)
    refine ih _ G' _ w' hcnt' ⟨⟨hfr.os.trans hm.frame'.os, hfr.tape.trans hm.frame'.tape, hfr.output.trans hm.frame'.output, yKr hm.frame'.size hfr.size, fun q hq hn => ?_⟩, hm.le.trans le, fun b o' ib' => ?_, fun b hb => ?_, fun x hx g hg => ?_, by rw [hsizep]; exact hm.fits, by rw [hsizep]; exact hm.size, hm.callers, by simpa using hm.lsz, clo', fun t e ht hl => ?_, fun e he hl => ?_, ?_,
     ⟨rem.erase i, dl o.dst ent ++ eb, bx', rw'', fun j => ?_, t2.erase i, k1, fun hh => ?_, hs'.mem, fun t e hl => ?_, fun j o' t hj hlj ho' hdt => ?_, by rw [yN2]; exact k3⟩⟩
    ·refine (hfr.block q (yKs hq hm.frame'.size) (fun hmay => ?_)).trans (hm.frame'.block q hq hn)
     rcases hmay with h | h | ⟨x, hx, h⟩
     ·rcases hD.sub q h with h | h
      ·exact hn (.inl h)
      ·omega
     ·rcases hm.ownB q h with h | h
      ·exact hn (.inr (.inl h))
      ·omega
     ·rcases hm.ownR x hx q h with ⟨y, h5, h6⟩ | h
      ·exact hn (.inr (.inr ⟨y, h5, h6⟩))
      ·omega
    ·rcases hs'.fresh b o' ib' with h | h | ⟨x, h5, h6⟩
     ·exact hm.fresh b o' h
     ·exact .inr (.inl (yKr hm.frame'.size h))
     ·rcases hm.ownR x h5 b h6 with ⟨y, h7, h8⟩ | h
      ·exact .inr (.inr ⟨y, h7, h8⟩)
      ·exact .inr (.inl h)
    ·rcases hs'.ownB b hb with h | h
     ·exact hm.ownB b h
     ·exact .inr (yKr hm.frame'.size h)
    ·rcases hs'.ownR x hx g hg with ⟨y, h5, h6⟩ | h
     ·exact hm.ownR y h5 g h6
     ·exact .inr (yKr hm.frame'.size h)
    ·have hne : o.dst ≠ some t := fun h => by
      have := ht i o ho h
      rw [xV hil'] at this; cases this
     refine (hm.old t e (fun j o' ho' hdt => ?_) hl).mono le (putOther t hne)
     have h5 := ht j o' ho' hdt
     by_cases hij : j = i
     ·subst hij; rw [ho] at ho'; cases ho'; exact absurd hdt hne
     ·rwa [hle' j hij] at h5
    ·have hei : e.1 ≠ i := fun h => (D4.apart i hib).2 _ (hia e he) h
     rw [hle' _ hei] at hl
     obtain ⟨o', ho', hd'⟩ := hops e he
     exact (hm.new e he hl).mono le (putOther _ fun h => hei (D4.dst _ _ _ _ _ ho' ho hd' h))
    ·obtain ⟨D', hD'⟩ := hs'.env
     obtain ⟨l, g1, g2, g3⟩ := hD.marks
     obtain ⟨l', g1', g2', g3'⟩ := hD'.marks
     have g1' : pre = l'.map zJb := by
      have : (({ a with defers := pre ++ [] } : Act).put o.dst v).defers = pre := by cases o.dst <;> simp [Act.put]
      rw [this] at g1'; exact g1'
     refine ⟨D', ⟨hD'.l, hD'.cons, fun q hq => ?_, hD'.lt, hD'.bx, hD'.rw, hD'.imm, ⟨l' ++ l, ?_, ?_, fun m hml => ?_⟩, hD'.record⟩⟩
     ·rcases hD'.sub q hq with h | h
      ·exact hD.sub q h
      ·exact .inr (yKr hm.frame'.size h)
     ·have : (({ a with defers := pre ++ a.defers } : Act).put o.dst v).defers = pre ++ a.defers := by cases o.dst <;> rfl
      rw [this, yNk, g1', g1]
     ·rw [List.nodup_append]
      refine ⟨g2', g2, fun x hx y hy e => ?_⟩
      subst e
      have h5 := (g3' x hx).2.2
      have h6 := (yKp.1 (g3 x hy).1).1
      have h5 : w.heap.size ≤ x := h5
      omega
     ·rcases yMa.1 hml with h | h
      ·obtain ⟨h5, h6, h7⟩ := g3' m h
       exact ⟨h5, h6, yKr hm.frame'.size h7⟩
      ·obtain ⟨h5, h6, h7⟩ := g3 m h
       have hml : m < w.heap.size := (yKp.1 h5).1
       refine ⟨?_, fun hd' => ?_, h7⟩
       ·rw [hfr.block m hml fun hmay => ?_]; exact h5
        rcases hmay with h | h | ⟨x, hx, h⟩
        ·exact h6 h
        ·exact t5.not_box h5 rfl h
        ·exact t5.not_row h5 rfl x hx h
       ·rcases hD'.sub m hd' with h | h
        ·exact h6 h
        ·have h : w.heap.size ≤ m := h
         omega
    ·rw [t2.mem_erase_iff, t1 j]
     by_cases hji : j = i
     ·subst hji
      rw [xV hil']
      simp
     ·rw [hle' j hji]
      simp [hji]
    ·have h5 := t4 fun b hb hl => hh b hb (if hbi : b = i then by subst hbi; rw [hun] at hl; cases hl else by rw [hle' b hbi]; exact hl)
     have h6 := hh i hib (xV hil')
     simp only [zUr, ho] at h6
     obtain ⟨h7, ext, h8⟩ := k2 h6
     obtain ⟨h9, ext', h10⟩ := h5
     exact ⟨h7.trans h9, ext' ++ ext, by rw [h8, h10, yN2]⟩
    ·rw [x8] at hl
     cases g1 : xG t (dl o.dst ent) with
     | some y =>
      rw [g1] at hl
      cases hl
      obtain ⟨g2, g3⟩ := yBj g1
      subst g3
      exact ⟨hslot t g2, i, o, hib, ho, g2⟩
     | none =>
      rw [g1] at hl
      obtain ⟨g2, j, o', g3, g4, g5⟩ := t6 t e hl
      by_cases hdt : o.dst = some t
      ·rw [hdt] at g1; simp [dl, zO] at g1
      ·exact ⟨g2.mono le (putOther t hdt), j, o', g3, g4, g5⟩
    ·rw [x8]
     by_cases hji : j = i
     ·subst hji
      rw [ho] at ho'
      cases ho'
      rw [hdt]
      simp [dl, zO]
     ·rw [hle' j hji] at hlj
      have := t7 j o' t hj hlj ho' hdt
      cases xG t (dl o.dst ent) with
      | some y => simp
      | none => exact this
   unfold wpListIn at h4
   have hw : Region.wanted o (yielded full.toArray ({ a with defers := [] } : Act).tmps) = Region.wanted o (yielded full.toArray a.tmps) := rfl
   rw [hw] at h4
   split
   ·rename_i hwt
    rw [if_pos hwt] at h4
    refine Oper.wpIn_mono ?_ (zS8 (hplain o (yLz ho)) [] (fun e a' w' h => h.1) h4)
    rintro a' w' ⟨v, pre, rfl, h5⟩
    unfold wpListIn at h5
    obtain ⟨_, G', st', hs', hk⟩ := h5
    exact next v pre w' G' st' hs' hk
   ·rename_i hwt
    rw [if_neg hwt] at h4
    refine ⟨h4.1, ?_⟩
    have h5 := h4.2
    unfold wpListIn at h5
    obtain ⟨_, G', st', hs', hk⟩ := h5
    exact next undef [] w G' st' hs' hk
  ·obtain ⟨e, he, rfl⟩ := hai i ((D4.cover i hil).resolve_right hib)
   obtain ⟨p, hp⟩ := yN6 he
   obtain ⟨o', ho', hdo, hstep⟩ := hsp p e hp
   rw [ho] at ho'
   cases ho'
   have hspec : j4 P full.toArray o ⟨st.nt, st.nb, slA (es.take p) ++ st.sl, bx, rw', st.ys⟩ e.2.2.2.1 e.2.2.2.2 := by
    cases hk : e.2.1 with
    | any =>
     rw [hk] at hstep
     obtain ⟨ext, h4⟩ := t3
     have := hstep ext rw'
     rw [← h4] at this
     exact this
    | first =>
     rw [hk] at hstep
     have hf := D4.first _ (hia e he) (by rw [hk]; rfl)
     have hh := hf (fun b => listed.getD b false = true) (fun b c hw hb => by
      unfold xF at hw
      split at hw
      ·rename_i ob hob
       obtain ⟨e', he', h4, h5⟩ := vT hw
       rw [← h4]
       exact hm.clo b ob hob (by rw [← kW hm.lsz (yLk.1 hob).1]; exact hb) e' he' h5
      ·cases hw) (by rw [hun]; simp)
     obtain ⟨rfl, ext, h4⟩ := t4 hh
     have := hstep ext
     rw [← h4] at this
     exact this
   have hlk : ∀ t ∈ o.looksAt full.toArray, zPz G w a ⟨st.nt, st.nb, slA (es.take p) ++ st.sl, bx, rw', st.ys⟩ t := by
    intro t ht c x hl
    have hA := D4.looksA e.1 o t ho hib ht
    simp only [ASt.look, x8] at hl
    cases g1 : xG t (slA (es.take p)) with
    | some y =>
     rw [g1] at hl
     cases hl
     obtain ⟨e', he', g3⟩ := zIa g1
     obtain ⟨q, hq⟩ := yN6 he'
     rw [yKn] at hq
     split at hq
     ·rename_i hqp
      obtain ⟨o2, ho2, hd2, _⟩ := hsp q e' hq
      rw [g3] at hd2
      rcases hA _ _ ho2 hd2 with ⟨_, _, h6⟩ | ⟨h6, _⟩
      ·have := hm.new e' (yMh he') (waitL _ h6)
       rw [g3] at this
       exact this
      ·have := hrise q p e' e hq hp hqp
       omega
     ·cases hq
    | none =>
     rw [g1] at hl
     refine hm.old t (c, x) (fun j o2 ho2 hdt => ?_) hl
     rcases hA j o2 ho2 hdt with ⟨h5, h6, h7⟩ | ⟨_, h7⟩
     ·exfalso
      obtain ⟨e', he', rfl⟩ := hai j h5
      obtain ⟨o3, ho3, hd3⟩ := hops e' he'
      rw [ho2] at ho3
      cases ho3
      rw [hdt] at hd3
      cases hd3
      obtain ⟨q, hq⟩ := yN6 he'
      have hqp : q < p := by
       rcases Nat.lt_trichotomy q p with h | h | h
       ·exact h
       ·subst h; rw [hp] at hq; cases hq; omega
       ·have := hrise p q e e' hp hq h; omega
      exact zMb (es := es.take p) (e := e') (yLz (i := q) (by rw [yKn, if_pos hqp]; exact hq)) g1
     ·exact waitU j o2 ho2 h7
   have hd := dlt _ hdo
   have hle' : ∀ j, j ≠ e.1 → (listed.setIfInBounds e.1 true).getD j false = listed.getD j false := fun j h => wO (fun e => h e.symm)
   have next : ∀ v G' w', Ext bx rw' G w G' w' → ((e.2.2.2.1 = true → e.2.2.2.2.rel G' w' v) ∧ (e.2.2.2.1 = false → v = undef)) → wpAnyIn (fen C.round) 0 P .any full.toArray Q fuel (listed.setIfInBounds e.1 true) (a.put (some e.2.2.1) v) w' := by
    intro v G' w' E hv
    have le := E.le
    have putOther : ∀ t, t ≠ e.2.2.1 → (a.put (some e.2.2.1) v).tmps[t]? = a.tmps[t]? := fun t h => by rw [Act.put_get, if_neg (fun e => h e.symm)]
    have putSelf : (a.put (some e.2.2.1) v).tmps[e.2.2.1]? = some v := by rw [Act.put_get]; simp [yKu hd]
    have hsizep : (a.put (some e.2.2.1) v).tmps.size = a.tmps.size := by simp [Act.put]
    have hob : z6 (fun _ => False) w w' := .of_below E.below
    refine ih _ G' _ w' hcnt' ⟨⟨hob.os.trans hm.frame'.os, hob.tape.trans hm.frame'.tape, hob.output.trans hm.frame'.output, yKr hm.frame'.size hob.size, fun q hq hn => (hob.block q (yKs hq hm.frame'.size) id).trans (hm.frame'.block q hq hn)⟩, hm.le.trans le, fun b o' ib' => ?_, by rw [E.gbx]; exact hm.ownB, by rw [E.grw]; exact hm.ownR, by rw [hsizep]; exact hm.fits, by rw [hsizep]; exact hm.size, hm.callers, by simpa using hm.lsz, clo', fun t e' ht hl => ?_, fun e' he' hl => ?_, ?_,
     ⟨rem, eb, bx, rw', fun j => ?_, t2, t3, fun hh => t4 fun b hb hl => hh b hb (by rw [hle' b fun h => hib (h ▸ hb)]; exact hl), E.mem, fun t e' hl => ?_, fun j o' t hj hlj ho' hdt => ?_, t8⟩⟩
    ·rcases E.fresh b o' ib' with h | h
     ·exact hm.fresh b o' h
     ·exact .inr (.inl (yKr hm.frame'.size h))
    ·have hne : t ≠ e.2.2.1 := fun h => by
      subst h
      have := ht e.1 o ho hdo
      rw [xV hil'] at this; cases this
     refine (hm.old t e' (fun j o' ho' hdt => ?_) hl).mono le (putOther t hne)
     have h5 := ht j o' ho' hdt
     by_cases hij : j = e.1
     ·subst hij; rw [ho] at ho'; cases ho'; rw [hdo] at hdt; cases hdt; exact absurd rfl hne
     ·rwa [hle' j hij] at h5
    ·obtain ⟨q, hq⟩ := yN6 he'
     by_cases hei : e'.1 = e.1
     ·have := huniq q p e' e hq hp hei
      subst this
      rw [hp] at hq
      cases hq
      exact ⟨v, putSelf, hv⟩
     ·rw [hle' _ hei] at hl
      obtain ⟨o', ho', hd'⟩ := hops e' he'
      exact (hm.new e' he' hl).mono le (putOther _ fun h => hei (D4.dst _ _ _ _ _ ho' ho hd' (h ▸ hdo)))
    ·obtain ⟨D, hD⟩ := hm.env
     exact ⟨D, hD.step t5 le (fun b o' h => (E.fresh b o' h).elim .inl fun h => .inr (.inl h)) (fun b hb => .inl (by rw [E.gbx] at hb; exact hb)) (fun x hx g hg => .inl ⟨x, by rw [E.grw] at hx; exact hx, hg⟩) (hob.mono fun _ _ h => h.elim)⟩
    ·rw [t1 j]
     by_cases hj : j = e.1
     ·subst hj; simp [hib]
     ·rw [hle' j hj]
    ·obtain ⟨g2, j, o', g3, g4, g5⟩ := t6 t e' hl
     refine ⟨g2.mono le (putOther t fun h => ?_), j, o', g3, g4, g5⟩
     have := D4.dst _ _ _ _ _ g4 ho g5 (h ▸ hdo)
     exact hib (this ▸ g3)
    ·rw [hle' j fun h => hib (h ▸ hj)] at hlj
     exact t7 j o' t hj hlj ho' hdt
   obtain ⟨s1, s2⟩ := hspec G a w (zWg (X := fun _ => True) (let ⟨D, h⟩ := hm.env; ⟨D, h, trivial⟩)) t5 hlk
   rw [s1]
   cases hg : e.2.2.2.1
   ·simp only [yM7, if_false]
    rw [hdo]
    exact ⟨fun _ _ => trivial, next undef G w (Ext.refl t5) ⟨fun h => (by rw [hg] at h; cases h), fun _ => rfl⟩⟩
   ·simp only [if_true]
    refine s2 hg _ _ _ fun v G' w' E hv => ?_
    rw [hdo]
    exact next v G' w' E ⟨fun _ => hv, fun h => by rw [hg] at h; cases h⟩

def inN (t : Nat) : List Nat → Bool
 | [] => false
 | a :: L => if t = a then true else inN t L
theorem zZb (t : Nat) : ∀ L : List Nat, L.contains t = inN t L
 | [] => rfl
 | a :: L => by
  rw [List.contains_cons, zZb t L, inN]
  by_cases h : t = a
  ·simp [h]
  ·simp [h]
@[go_sem] theorem zZ8 (t : Nat) (L : List Nat) (sl : List (Nat × (Bool × AV))) : xG t (zAw L sl) = if inN t L = true then xG t sl else none := by
 rw [zBi, zZb]
 cases inN t L <;> rfl
@[go_sem] theorem mskB_f (bx ext : List (List AV)) : zMy false bx ext = bx ++ ext := rfl
@[go_sem] theorem mskB_t (bx ext : List (List AV)) : zMy true bx ext = ext := rfl
theorem yB1 (t : Nat) : inN t [] = false := rfl
theorem zXr (t a : Nat) (L : List Nat) : inN t (a :: L) = if t = a then true else inN t L := rfl
attribute [go_sem] yB1 zXr
def zD3 : List Operand → List Nat
 | [] => []
 | x :: r => match x with
  | .tmp t => t :: zD3 r
  | _ => zD3 r
def yEp (full : Array Oper) : Option (Nat × Bool) → List Nat
 | none => []
 | some (j, _) => match (full[j]?).bind (·.dst) with
  | some d => [d]
  | none => []
theorem zR4 (full : Array Oper) (o : Oper) : o.looksAt full = zD3 o.op.operands.toList ++ yEp full o.guard := by
 unfold Oper.looksAt
 congr 1
 ·generalize o.op.operands.toList = l
  induction l with
  | nil => rfl
  | cons x r ih => cases x <;> simp [zD3, ih]
 ·cases o.guard with
  | none => rfl
  | some g =>
   obtain ⟨j, b⟩ := g
   simp only [yEp]
   cases (full[j]?).bind (·.dst) <;> rfl
theorem zSm : zD3 [] = [] := rfl
theorem zSl (t : Nat) (r : List Operand) : zD3 (.tmp t :: r) = t :: zD3 r := rfl
theorem zM4 (v : Value) (r : List Operand) : zD3 (.const v :: r) = zD3 r := rfl
theorem zQ7 (f : FuncId) (r : List Operand) : zD3 (.func f :: r) = zD3 r := rfl
theorem zJh (g : Nat) (r : List Operand) : zD3 (.global g :: r) = zD3 r := rfl
theorem zUw (full : Array Oper) : yEp full none = [] := rfl
theorem zUv (full : Array Oper) (j : Nat) (b : Bool) : yEp full (some (j, b)) = (match (full[j]?).bind (·.dst) with | some d => [d] | none => []) := rfl
theorem yCd {α : Type} (a b : Array α) : (a ++ b).toList = a.toList ++ b.toList := by simp
theorem yHn {α : Type} (l : List α) : l.toArray.toList = l := by simp
theorem yCc {α : Type} : (#[] : Array α).toList = [] := rfl
attribute [go_sem] yCd yHn yCc List.nil_append List.cons_append zR4 zSm zSl zM4 zQ7 zJh zUw zUv Op.operands Call.operands
theorem vH {α : Type} {a b : α} (h : a = b := by first | ((conv => lhs; simp only [go_sem, AV.oneL, AV.one, Value.oneCell', yQ, ↓reduceIte, Nat.reduceEqDiff, Nat.reduceAdd, Nat.reduceMul]) <;> rfl) | fail) : a = b := h
def zXe (full : List Oper) (ib : List Nat) (o : Oper) : Bool := (o.looksAt full.toArray).all fun t => ib.all fun j => match full[j]? with
 | some o' => o'.dst != some t
 | none => true
def yAx (o : Oper) : Bool := match o.op with
 | .store _ _ _ => true
 | .call c => match c.callee with
  | .builtin .copy => true
  | .builtin .append => true
  | _ => false
 | _ => false
def zXu (l : List Oper) : Bool := l.any yAx
def zDg (full : List Oper) : List Nat → List Oper
 | [] => []
 | i :: r => match full[i]? with
  | some o => o :: zDg full r
  | none => zDg full r
theorem xO (full : List Oper) : ∀ ib, ib.filterMap (full[·]?) = zDg full ib
 | [] => rfl
 | i :: r => by
  rw [List.filterMap_cons, zDg, xO full r]
  cases full[i]? <;> rfl
def zBt (P : Program) (full : List Oper) (all : Bool) (m : Nat) (ia : List (Nat × AK)) (es : List AEn) (ib : List Nat) (l : List Oper) (k : ASt → Prop) (sl0 : List (Nat × (Bool × AV))) (st : ASt) : Prop :=
 full.drop m = l → st.sl = slA es ++ sl0 → ia = zS2 es → ∃ (es' : List AEn) (ib' : List Nat),
  (∀ (p : Nat) (e : AEn), es'[p]? = some e → ∃ o, full[e.1]? = some o ∧ o.dst = some e.2.2.1 ∧ yBz P full.toArray all st o (slA (es'.take p) ++ st.sl) e.2.2.2.1 e.2.2.2.2 e.2.1) ∧
  yEf full (zS2 (es ++ es')) (ib ++ ib') ∧ runT P full all st.bx (ib ++ ib').length (ib ++ ib') k { st with sl := slA es' ++ st.sl }
def KB (P : Program) (full : Array Oper) (all : Bool) (bx0 : List (List AV)) (o : Oper) (r : List Oper) (k : ASt → Prop) (nt nb0 nb : Nat) (L : List Nat) (sl : List (Nat × (Bool × AV))) (bx : List (List AV)) (rw : List yD) (ys : (Nat × List (List AV)) × List (List AV) × Bool) (st' : ASt) : Prop :=
 ∃ ent bx' rw', st' = ⟨nt, nb, dl o.dst ent ++ zAw L sl, bx', rw', ys⟩ ∧ zGz all bx0 bx' ∧ (hrm o = true → rw' = rw ∧ ∃ ext, bx' = bx ++ ext) ∧ zWj P full all bx0 r k ⟨nt, nb0, dl o.dst ent ++ sl, bx', rw', ys⟩
section
variable {P : Program} {Q : Exit → ASt → Prop} {T : TT} {full : List Oper} {all : Bool} {m : Nat} {ia : List (Nat × AK)} {es : List AEn} {ib : List Nat} {r : List Oper} {k : ASt → Prop} {nt nb : Nat} {sl sl0 : List (Nat × (Bool × AV))} {bx bx0 : List (List AV)} {rw : List yD} {ys : (Nat × List (List AV)) × List (List AV) × Bool} {o : Oper} {d : Nat}
theorem zQd (a b : List AEn) : slA (a ++ b) = slA b ++ slA a := by simp [slA]
theorem zNa (a b : List AEn) : zS2 (a ++ b) = zS2 a ++ zS2 b := by simp [zS2]
theorem zGa {l : List Oper} {m : Nat} {o : Oper} {r : List Oper} (h : l.drop m = o :: r) : l.drop (m + 1) = r ∧ l[m]? = some o := by
 have h1 : l[m]? = some o := by
  have := congrArg (·[0]?) h
  simpa using this
 refine ⟨?_, h1⟩
 rw [← List.drop_drop, h]; rfl
theorem zJ (h : zBt P full all (m + 1) ia es (ib ++ [m]) r k sl0 ⟨nt, nb, sl, bx, rw, ys⟩) : zBt P full all m ia es ib (o :: r) k sl0 ⟨nt, nb, sl, bx, rw, ys⟩ := by
 intro h1 h2 h3
 obtain ⟨es', ib', h4, h5, h6⟩ := h (zGa h1).1 h2 h3
 exact ⟨es', m :: ib', h4, by simpa using h5, by simpa using h6⟩
theorem zIh (_ : zXe full ib o = false) (h : zBt P full all (m + 1) ia es (ib ++ [m]) r k sl0 ⟨nt, nb, sl, bx, rw, ys⟩) : zBt P full all m ia es ib (o :: r) k sl0 ⟨nt, nb, sl, bx, rw, ys⟩ := zJ h
theorem kT {kd : AK} {g : Bool} {x : AV} (hd : o.dst = some d) (hok : yBz P full.toArray all ⟨nt, nb, sl, bx, rw, ys⟩ o sl g x kd)
  (h : zBt P full all (m + 1) (ia ++ [(m, kd)]) (es ++ [(m, kd, (d, (g, x)))]) ib r k sl0 ⟨nt, nb, (d, (g, x)) :: sl, bx, rw, ys⟩) : zBt P full all m ia es ib (o :: r) k sl0 ⟨nt, nb, sl, bx, rw, ys⟩ := by
 intro h1 h2 h3
 have h2 : sl = slA es ++ sl0 := h2
 obtain ⟨es', ib', h4, h5, h6⟩ := h (zGa h1).1 (by rw [zQd, h2]; rfl) (by rw [zNa, h3]; rfl)
 refine ⟨(m, kd, (d, (g, x))) :: es', ib', fun p e hp => ?_, by simpa [yN2] using h5, ?_⟩
 ·cases p with
  | zero =>
   simp only [yKi, yKj] at hp
   subst hp
   exact ⟨o, (zGa h1).2, hd, hok⟩
  | succ p =>
   obtain ⟨o', g1, g2, g3⟩ := h4 p e (by simpa using hp)
   refine ⟨o', g1, g2, ?_⟩
   have : slA (((m, kd, (d, (g, x))) :: es').take (p + 1)) ++ sl = slA (es'.take p) ++ ((d, (g, x)) :: sl) := by
    simp [slA]
   simp only at g3 ⊢
   rw [this]
   exact g3
 ·have : slA ((m, kd, (d, (g, x))) :: es') ++ sl = slA es' ++ ((d, (g, x)) :: sl) := by simp [slA]
  simp only at h6 ⊢
  rw [this]
  exact h6
theorem zAn (hT : TOk P T) (hd : o.dst = some d)
  (h : ∃ g, xL full.toArray ⟨nt, nb, sl, bx, rw, ys⟩ o = some g ∧ ∃ cs x p, (∀ ext rw', opA T ⟨nt, nb, sl, zMy all bx ext, rw', ys⟩ o.op = some (cs, x, p)) ∧ (g = true → (∀ c ∈ cs, c = true) ∧ p) ∧ zBt P full all (m + 1) (ia ++ [(m, .any)]) (es ++ [(m, .any, (d, (g, x)))]) ib r k sl0 ⟨nt, nb, (d, (g, x)) :: sl, bx, rw, ys⟩) : zBt P full all m ia es ib (o :: r) k sl0 ⟨nt, nb, sl, bx, rw, ys⟩ := by
 obtain ⟨g, hg, cs, x, p, h1, h2, h3⟩ := h
 exact kT (kd := .any) (g := g) (x := x) hd (fun ext rw' => zBf hT (st := ⟨nt, nb, sl, zMy all bx ext, rw', ys⟩) hg (h1 ext rw') h2) h3
theorem zDb (hT : TOk P T) (hd : o.dst = some d)
  (h : ∃ g, xL full.toArray ⟨nt, nb, sl, bx, rw, ys⟩ o = some g ∧ ∃ cs x p, (∀ ext, opA T ⟨nt, nb, sl, bx ++ ext, rw, ys⟩ o.op = some (cs, x, p)) ∧ (g = true → (∀ c ∈ cs, c = true) ∧ p) ∧ zBt P full all (m + 1) (ia ++ [(m, .first)]) (es ++ [(m, .first, (d, (g, x)))]) ib r k sl0 ⟨nt, nb, (d, (g, x)) :: sl, bx, rw, ys⟩) : zBt P full all m ia es ib (o :: r) k sl0 ⟨nt, nb, sl, bx, rw, ys⟩ := by
 obtain ⟨g, hg, cs, x, p, h1, h2, h3⟩ := h
 exact kT (kd := .first) (g := g) (x := x) hd (fun ext => zBf hT (st := ⟨nt, nb, sl, bx ++ ext, rw, ys⟩) hg (h1 ext) h2) h3
theorem zT3 (hT : TOk P T) (hd : o.dst = some d)
  (h : ∃ g, xL full.toArray ⟨nt, nb, sl, bx, rw, ys⟩ o = some g ∧ ∃ cs x p, (∀ ext rw', opB T ⟨nt, nb, sl, zMy all bx ext, rw', ys⟩ o.op = some (cs, x, p)) ∧ (g = true → (∀ c ∈ cs, c = true) ∧ p) ∧ zBt P full all (m + 1) (ia ++ [(m, .any)]) (es ++ [(m, .any, (d, (g, x)))]) ib r k sl0 ⟨nt, nb, (d, (g, x)) :: sl, bx, rw, ys⟩) : zBt P full all m ia es ib (o :: r) k sl0 ⟨nt, nb, sl, bx, rw, ys⟩ := by
 obtain ⟨g, hg, cs, x, p, h1, h2, h3⟩ := h
 exact kT (kd := .any) (g := g) (x := x) hd (fun ext rw' => zOu hT (st := ⟨nt, nb, sl, zMy all bx ext, rw', ys⟩) hg (h1 ext rw') h2) h3
theorem zT2 (hT : TOk P T) (hd : o.dst = some d)
  (h : ∃ g, xL full.toArray ⟨nt, nb, sl, bx, rw, ys⟩ o = some g ∧ ∃ cs x p, (∀ ext rw', mkA T ⟨nt, nb, sl, zMy all bx ext, rw', ys⟩ o.op = some (cs, x, p)) ∧ (g = true → (∀ c ∈ cs, c = true) ∧ p) ∧ zBt P full all (m + 1) (ia ++ [(m, .any)]) (es ++ [(m, .any, (d, (g, x)))]) ib r k sl0 ⟨nt, nb, (d, (g, x)) :: sl, bx, rw, ys⟩) : zBt P full all m ia es ib (o :: r) k sl0 ⟨nt, nb, sl, bx, rw, ys⟩ := by
 obtain ⟨g, hg, cs, x, p, h1, h2, h3⟩ := h
 exact kT (kd := .any) (g := g) (x := x) hd (fun ext rw' => zKc hT (st := ⟨nt, nb, sl, zMy all bx ext, rw', ys⟩) hg (h1 ext rw') h2) h3
theorem zS (hd : o.dst = some d)
  (h : ∃ g, xL full.toArray ⟨nt, nb, sl, bx, rw, ys⟩ o = some g ∧ ∃ cs f args, (∀ ext rw', jW ⟨nt, nb, sl, zMy all bx ext, rw', ys⟩ o.op = some (cs, f, args)) ∧ (g = true → (∀ c ∈ cs, c = true) ∧ AV.freeL args) ∧ ∃ x, (g = true → FnA P f args x) ∧ zBt P full all (m + 1) (ia ++ [(m, .any)]) (es ++ [(m, .any, (d, (g, x)))]) ib r k sl0 ⟨nt, nb, (d, (g, x)) :: sl, bx, rw, ys⟩) : zBt P full all m ia es ib (o :: r) k sl0 ⟨nt, nb, sl, bx, rw, ys⟩ := by
 obtain ⟨g, hg, cs, f, args, h1, h2, x, h3, h4⟩ := h
 exact kT (kd := .any) (g := g) (x := x) hd (fun ext rw' => zFq (st := ⟨nt, nb, sl, zMy all bx ext, rw', ys⟩) hg (h1 ext rw') h2 h3) h4
theorem zIg (h : ∃ ia', ia = ia' ∧ ∃ ib', ib = ib' ∧ zVr full ia' ib' = true ∧ zWj P full.toArray all bx (zDg full ib') k ⟨nt, nb, sl, bx, rw, ys⟩) : zBt P full all m ia es ib [] k sl0 ⟨nt, nb, sl, bx, rw, ys⟩ := by
 obtain ⟨_, rfl, _, rfl, h1, h2⟩ := h
 rintro _ _ rfl
 obtain ⟨h3, h4⟩ := zLf h1
 rw [← xO] at h2
 exact ⟨[], [], fun p e h => by simp at h, by simpa using h3, by simpa [slA] using xN h4 h2⟩
theorem zFf (h : ∃ ia', ia = ia' ∧ ∃ ib', ib = ib' ∧ zVq full ia' ib' = true ∧ runT P full all bx ib'.length ib' k ⟨nt, nb, sl, bx, rw, ys⟩) : zBt P full all m ia es ib [] k sl0 ⟨nt, nb, sl, bx, rw, ys⟩ := by
 obtain ⟨_, rfl, _, rfl, h1, h2⟩ := h
 rintro _ _ rfl
 exact ⟨[], [], fun p e h => by simp at h, by simpa using zLe h1, by simpa [slA] using h2⟩
theorem zFa {rem cs : List Nat} (hm : rem.length = m + 1) (hc : rem.filter (yE3 full rem) = cs) (h : ∀ i ∈ cs, ∀ o, full[i]? = some o → zMa P full.toArray all bx0 o (runT P full all bx0 m (rem.erase i) k) ⟨nt, nb, sl, bx, rw, ys⟩) : runT P full all bx0 rem.length rem k ⟨nt, nb, sl, bx, rw, ys⟩ := by
 rw [hm]
 exact fun i hi hca o ho => h i (by rw [← hc]; exact yNl.2 ⟨hi, hca⟩) o ho
theorem zI9 {L : List Nat} {k' : ASt → Prop} (h64 : Nat.blt bx.length 64 = true) (hl : o.looksAt full.toArray = L) (h : ∀ nb', xK P full.toArray [o] (fun st' => ∃ ent bx' rw', st' = ⟨nt, nb', dl o.dst ent ++ zAw L sl, bx', rw', ys⟩ ∧ zGz all bx0 bx' ∧ (hrm o = true → rw' = rw ∧ ∃ ext, bx' = bx ++ ext) ∧ k' ⟨nt, nb, dl o.dst ent ++ sl, bx', rw', ys⟩) ⟨nt, nb', zAw L sl, bx, rw, ys⟩) : zMa P full.toArray all bx0 o k' ⟨nt, nb, sl, bx, rw, ys⟩ := by
 subst hl
 exact ⟨Nat.le_of_ble_eq_true h64, h⟩
theorem zP (h : k ⟨nt, nb, sl, bx, rw, ys⟩) : zWj P full.toArray all bx0 [] k ⟨nt, nb, sl, bx, rw, ys⟩ := h
theorem zX (h64 : Nat.blt bx.length 64 = true) (h : ∃ L, o.looksAt full.toArray = L ∧ ∀ nb', xK P full.toArray [o] (KB P full.toArray all bx0 o r k nt nb nb' L sl bx rw ys) ⟨nt, nb', zAw L sl, bx, rw, ys⟩) : zWj P full.toArray all bx0 (o :: r) k ⟨nt, nb, sl, bx, rw, ys⟩ := by
 obtain ⟨_, rfl, h⟩ := h
 exact ⟨Nat.le_of_ble_eq_true h64, h⟩
theorem zAm {nb' : Nat} {L : List Nat} {ent : Bool × AV} {bx' : List (List AV)} {rw' : List yD} (hd : o.dst = some d) (h1 : zGz all bx0 bx') (h2 : hrm o = true → rw' = rw ∧ ∃ ext, bx' = bx ++ ext)
  (h : zWj P full.toArray all bx0 r k ⟨nt, nb, (d, ent) :: sl, bx', rw', ys⟩) : xK P full.toArray [] (KB P full.toArray all bx0 o r k nt nb nb' L sl bx rw ys) ⟨nt, nb', (d, ent) :: zAw L sl, bx', rw', ys⟩ :=
 zG ⟨ent, bx', rw', by rw [hd]; rfl, h1, h2, by rw [hd]; exact h⟩
theorem zFe {nb' : Nat} {L : List Nat} {bx' : List (List AV)} {rw' : List yD} (hd : o.dst = none) (h1 : zGz all bx0 bx') (h2 : hrm o = true → rw' = rw ∧ ∃ ext, bx' = bx ++ ext)
  (h : zWj P full.toArray all bx0 r k ⟨nt, nb, sl, bx', rw', ys⟩) : xK P full.toArray [] (KB P full.toArray all bx0 o r k nt nb nb' L sl bx rw ys) ⟨nt, nb', zAw L sl, bx', rw', ys⟩ :=
 zG ⟨(true, .raw undef), bx', rw', by rw [hd]; rfl, h1, h2, by rw [hd]; exact h⟩
theorem zFx (bx0 bx' : List (List AV)) : zGz true bx0 bx' := ⟨bx', rfl⟩
theorem zR7 {bx0 bx' : List (List AV)} (ext : List (List AV)) (h : bx' = bx0 ++ ext) : zGz false bx0 bx' := ⟨ext, h⟩
theorem kJ (all : Bool) {id : Nat} {ops : List Oper} (hm : P.follows .mixedOrders = true) (hf : zJ1 nt ops = true) (h : ∀ K : ASt → Prop, (∀ s, Q .normal s → K s) → zBt P ops all 0 [] [] [] ops K sl ⟨nt, nb, sl, bx, rw, ys⟩) : wpA P (.region id ops.toArray true) Q ⟨nt, nb, sl, bx, rw, ys⟩ := by
 obtain ⟨es, ib, h1, h2, h3⟩ := h (Q .normal) (fun _ h => h) rfl rfl rfl
 intro C G a w hs
 have hs' := hs.drew
 simp only [yLc] at h2 h3
 have hz : ∀ j, (Array.replicate ops.toArray.size false).getD j false = false := fun j => by
  simp only [yKx, Array.getElem?_replicate]
  split <;> rfl
 have hz' : ∀ j, j < ops.length → (Array.replicate ops.toArray.size false).getD j true = false := fun j hj => by
  simp only [yKx, Array.getElem?_replicate]
  rw [if_pos (by simpa using hj)]; rfl
 refine wpIn_mono (Q := fun e a w => e = .normal ∧ zYa C Q .normal a w) (wpIn_region_any hm (yC6 (C := C) (es := es) (ib := ib) (st := ⟨nt, nb, sl, bx, rw, ys⟩) (k := Q .normal) h2 h1 (fun G a w st' hs hk => ⟨rfl, G, st', hs, hk⟩) _ _ G a _ ?_ ⟨hs'.frame, hs'.le, hs'.fresh, hs'.ownB, hs'.ownR, by rw [hs.size]; exact hf, hs.size, hs.callers, by simp, fun i o ho hl => ?_, fun t e _ hl => hs'.slot t e.1 e.2 hl, fun e he hl => ?_, hs'.env,
  ⟨ib, [], bx, rw, fun i => ?_, h2.nodup, ?_, fun _ => ⟨rfl, [], by simp⟩, hs'.mem, fun t e h => (by cases h), fun i o t _ hl => ?_, ?_⟩⟩)) (fun e a w h => by obtain ⟨rfl, h⟩ := h; exact h)
 ·exact yKr List.countP_le_length (by simp)
 ·have hil : i < ops.length := (yLk.1 ho).1
  rw [hz' i hil] at hl; cases hl
 ·rw [hz] at hl; cases hl
 ·rw [hz i]; simp
 ·cases all
  ·exact ⟨[], by simp [zMy]⟩
  ·exact ⟨bx, rfl⟩
 ·rw [hz] at hl; cases hl
 ·simpa using h3
theorem zD (all : Bool) {id : Nat} {ops : List Oper} (_ : zXu ops = all) (hm : P.follows .mixedOrders = true) (hf : zJ1 nt ops = true) (h : ∀ K : ASt → Prop, (∀ s, Q .normal s → K s) → zBt P ops all 0 [] [] [] ops K sl ⟨nt, nb, sl, bx, rw, ys⟩) : wpA P (.region id ops.toArray true) Q ⟨nt, nb, sl, bx, rw, ys⟩ := kJ all hm hf h
theorem zUy (h : zBt P full all m ia es ib (o :: r) k sl0 ⟨nt, nb, sl, bx, rw, ys⟩) : zBt P full all m ia es ib (o :: r) k sl0 ⟨nt, nb, sl, bx, rw, ys⟩ := h
theorem zUx (h : zBt P full all m ia es ib [] k sl0 ⟨nt, nb, sl, bx, rw, ys⟩) : zBt P full all m ia es ib [] k sl0 ⟨nt, nb, sl, bx, rw, ys⟩ := h
theorem yB {l : List Oper} (h : zWj P full.toArray all bx0 l k ⟨nt, nb, sl, bx, rw, ys⟩) : zWj P full.toArray all bx0 l k ⟨nt, nb, sl, bx, rw, ys⟩ := h
theorem yZ {id : Nat} {ops : Array Oper} (h : wpA P (.region id ops true) Q ⟨nt, nb, sl, bx, rw, ys⟩) : wpA P (.region id ops true) Q ⟨nt, nb, sl, bx, rw, ys⟩ := h
theorem FnA.at_ {P : Program} {f f' : FuncId} {args args' : List AV} {r : AV} (h : FnA P f' args' r) (hf : f' = f) (ha : args' = args) : FnA P f args r := by
 subst hf; subst ha; exact h
theorem FnA.at_s {P : Program} {f f' : FuncId} {args args' : List AV} {r : AV} (h : FnA P f' args' r) (hf : f' = f) (hs : jC args args') : FnA P f args r := by
 subst hf; exact FnA.sim h hs
end
theorem zW {P : Program} {full : List Oper} {all : Bool} {m : Nat} {ia : List (Nat × AK)} {es : List AEn} {ib : List Nat} {o : Oper} {r : List Oper} {k : ASt → Prop} {sl0 : List (Nat × (Bool × AV))} {st : ASt} (n : Nat) (hc : yDc o.op = n) (h : zBt P full all m ia es ib (o :: r) k sl0 st) : zBt P full all m ia es ib (o :: r) k sl0 st := h

def ASt.src (st : ASt) : AV → Option (Nat × Nat × List AV × Prop)
 | .bsl sz b off n _ => match st.bx[b]? with
  | some cs => some (sz, n, (cs.drop off).take (n * sz), off + n * sz ≤ cs.length)
  | none => none
 | v => match st.asL v with
  | some (sz, n, el, p) => some (sz, n, (List.range n).flatMap el, p)
  | none => none
section
variable {P : Program} {T : TT} {st : ASt} {G : Gh} {w : World}
theorem zE4 {blk k : Nat} {vs : List Value} {Ty : TypeId} {x : Nat × Nat} {u : Value} (h : w.heap[blk]? = some (.cells vs.toArray Ty x)) (hu : vs[k]? = some u) : w.cell? ⟨blk, k, none⟩ = some u := by
 simp [World.cell?, h, hu]
theorem zJr (hm : wL G w st.bx st.rw) {v : AV} {sz n : Nat} {us : List AV} {p : Prop} (h : st.src v = some (sz, n, us, p)) (hp : p) (h0 : 0 < sz) {x : Value} (hx : v.rel G w x) :
  ∃ A cap vs, x = .slice A n cap ∧ vs.length = n * sz ∧ AV.relL G w us vs ∧ (0 < n → ∃ a, A = some a ∧ ∀ j u, vs[j]? = some u → w.cell? (a.add j) = some u) := by
 have gen : ∀ v : AV, (match st.asL v with | some (sz, n, el, p) => some (sz, n, (List.range n).flatMap el, p) | none => none) = some (sz, n, us, p) → v.rel G w x →
   ∃ A cap vs, x = .slice A n cap ∧ vs.length = n * sz ∧ AV.relL G w us vs ∧ (0 < n → ∃ a, A = some a ∧ ∀ j u, vs[j]? = some u → w.cell? (a.add j) = some u) := by
  intro v h hx
  split at h
  ·rename_i sz' n' el p' hl
   simp only [yKj, yKy] at h
   obtain ⟨rfl, rfl, rfl, rfl⟩ := h
   have hyr := wA hm hl hp hx
   obtain ⟨A, cap, rfl, _⟩ := id hyr
   obtain ⟨news, h1, h2, h3, _⟩ := zA4 h0 hyr
   exact ⟨A, cap, news, rfl, h1, zFl h1 h3, h2⟩
  ·cases h
 unfold ASt.src at h
 split at h
 ·rename_i sz' b off n' cap'
  split at h
  ·rename_i cs hcs
   simp only [yKj, yKy] at h
   obtain ⟨rfl, rfl, rfl, rfl⟩ := h
   obtain ⟨blk, A, h1, rfl, h2, h3, h4⟩ := hx
   obtain ⟨_, vs, Ty, h5, h6⟩ := hm.box b cs blk hcs h1
   have hl := AV.relL_length h6
   refine ⟨A, cap', (vs.drop off).take (n' * sz'), rfl, by simp; omega, AV.relL_take _ (AV.relL_drop _ h6), fun hn => ⟨⟨blk, off, none⟩, h4 (by omega), fun j u hj => ?_⟩⟩
   rw [add_lit]
   refine zE4 h5 ?_
   rw [yKn] at hj
   split at hj
   ·rwa [yKm] at hj
   ·cases hj
  ·cases h
 ·exact gen _ h hx
theorem Sat.stored {C : Ctx P} {a : Act} {w' : World} (hs : Sat C G a w st) {b blk : Nat} {cs cs' : List AV} {vs' : List Value} {Ty : TypeId} (hb : st.bx[b]? = some cs) (hg : G.bx[b]? = some blk) (h9 : zGx w blk vs' Ty w') (hr : AV.relL G w cs' vs') :
  Sat C G a w' { st with bx := st.bx.set b cs' } ∧ G.Le w G w' := by
 obtain ⟨m, le⟩ := zDj hs.mem hb hg h9 hr
 have ho : z6 (fun k => k ∈ G.bx ∨ ∃ x ∈ G.rw, (zK x.2) = some k) w w' := ⟨h9.os, h9.tape, h9.output, Nat.le_of_eq h9.size.symm, fun k _ hk => h9.other k fun e => hk (.inl (e ▸ yLz hg))⟩
 exact ⟨hs.called ho le (fun _ _ i => .inl i) (fun _ h => .inl h) (fun x hx g hg => .inl ⟨x, hx, hg⟩) m, le⟩
theorem zK1 : ∀ (n : Nat) (l : List Value), vU l n ([] : List Value) = l
 | 0, l => by cases l <;> rfl
 | n + 1, l => by cases l <;> simp [vU, zK1 n]
theorem zC1 {blk off : Nat} {Ty : TypeId} {vs us : List Value} (h : w.heap[blk]? = some (.cells vs.toArray Ty (0, 0))) (hl : off + us.length ≤ vs.length) (h1 : ∀ u ∈ us, u.oneCell' = true) :
  ∃ w', (storeCells ⟨blk, off, none⟩ us).run P w = .ok () w' ∧ zGx w blk (vU vs off us) Ty w' := by
 obtain ⟨w', e8, e9⟩ := kF (P := P) (off := off) (vs := vs) us [] w (by rw [zK1]; exact h) (by simp only [yMc]; omega) h1
 simp only [yLc, yMc] at e8 e9
 exact ⟨w', e8, e9⟩
theorem zIs (hT : TOk P T) {e : TypeId} {j : TI} (h3 : T e = some j) : ∃ ie z, P.info? e = some ie ∧ ie.size = j.size ∧ ie.zero = some z ∧ ie.bytes = j.bytes ∧ z.cells.toList = j.zero := by
 have h1 := (hT _ _ h3).info
 cases hie : P.info? e with
 | none => rw [hie] at h1; cases h1
 | some x =>
  rw [hie] at h1
  simp only [yL0, yKj, yKy] at h1
  cases hzz : x.zero with
  | none => rw [hzz] at h1; cases h1.1
  | some z =>
   rw [hzz] at h1
   simp only [yL0, yKj] at h1
   exact ⟨x, z, rfl, h1.2.1, hzz, h1.2.2, h1.1⟩
theorem zEj (hT : TOk P T) {t e : TypeId} {s1 b1 : Nat} {z1 : List Value} {q1 : List CK} (h : T t = some ⟨.slice e, s1, b1, z1, q1⟩) : P.underlying t = some (.slice e) := by
 obtain ⟨d1, u1, u2⟩ := (hT _ _ h).und_some
 rw [u1, yE u2]
end
def zWa (st : ASt) (c : Call) : Option (List Bool × (Nat × Nat × Nat × Nat × Nat) × (Nat × Nat × List AV × Prop) × TypeId × TypeId) :=
 match c.args.toList, c.argTypes.toList with
 | [x, y], [t, t'] => match st.ev x, st.ev y with
  | some (g1, .bsl sz b off n cap), some (g2, v) => match st.src v with
   | some s => some ([g1, g2], (sz, b, off, n, cap), s, t, t')
   | none => none
  | _, _ => none
 | _, _ => none
def zKr : Builtin → Bool
 | .copy => true
 | _ => false
def yC0 (st : ASt) (k : Builtin) (o : Op) : Option (List Bool × (Nat × Nat × Nat × Nat × Nat) × (Nat × Nat × List AV × Prop) × TypeId × TypeId) :=
 match o with
 | .call c => match c.callee with
  | .builtin .copy => bif zKr k then zWa st c else none
  | .builtin .append => bif zKr k then none else zWa st c
  | _ => none
 | _ => none
theorem zW9 {st : ASt} {c : Call} {cs : List Bool} {sz b off n cap : Nat} {s : Nat × Nat × List AV × Prop} {t t' : TypeId} (h : zWa st c = some (cs, (sz, b, off, n, cap), s, t, t')) :
  ∃ x y g1 g2 v, c = ⟨c.callee, #[x, y], #[t, t']⟩ ∧ cs = [g1, g2] ∧ st.ev x = some (g1, .bsl sz b off n cap) ∧ st.ev y = some (g2, v) ∧ st.src v = some s := by
 obtain ⟨callee, args, argTypes⟩ := c
 obtain ⟨args⟩ := args
 obtain ⟨argTypes⟩ := argTypes
 unfold zWa at h
 simp only at h
 split at h
 ·split at h
  ·rename_i x y t1 t2 _ _ g1 sz' b' off' n' cap' g2 v hx hy
   split at h
   ·rename_i s' hs
    simp only [yKj, yKy] at h
    obtain ⟨rfl, ⟨rfl, rfl, rfl, rfl, rfl⟩, rfl, rfl, rfl⟩ := h
    exact ⟨x, y, g1, g2, v, rfl, rfl, hx, hy, hs⟩
   ·cases h
  ·cases h
 ·cases h
theorem zO7 {st : ASt} {o : Op} {cs : List Bool} {sz b off n cap : Nat} {s : Nat × Nat × List AV × Prop} {t t' : TypeId} (h : yC0 st .append o = some (cs, (sz, b, off, n, cap), s, t, t')) :
  ∃ x y g1 g2 v, o = .call ⟨.builtin .append, #[x, y], #[t, t']⟩ ∧ cs = [g1, g2] ∧ st.ev x = some (g1, .bsl sz b off n cap) ∧ st.ev y = some (g2, v) ∧ st.src v = some s := by
 unfold yC0 at h
 split at h
 ·rename_i c
  split at h
  ·simp [zKr] at h
  ·rename_i hc
   obtain ⟨x, y, g1, g2, v, h1, h2⟩ := zW9 (c := c) (by simpa [zKr] using h)
   exact ⟨x, y, g1, g2, v, by rw [h1, hc], h2⟩
  ·cases h
 ·cases h
section rules
variable {P : Program} {T : TT} {ops : Array Oper} {rest : List Oper} {K : ASt → Prop} {nt nb : Nat} {sl : List (Nat × (Bool × AV))} {bx : List (List AV)} {rw : List yD} {ys : (Nat × List (List AV)) × List (List AV) × Bool} {o : Oper} {d : Nat}
theorem zFd (hT : TOk P T) (hg : o.guard = none) (hd : o.dst = some d) (hn : Nat.blt d nt = true)
  {cs : List Bool} {sz b off n cap sz' m : Nat} {us : List AV} {p : Prop} {t t' : TypeId} (h1 : yC0 ⟨nt, nb, sl, bx, rw, ys⟩ .append o.op = some (cs, (sz, b, off, n, cap), (sz', m, us, p), t, t')) (hc : ∀ c ∈ cs, c = true) (hp : p) (htt : t' = t)
  {e s1 b1 : Nat} {z1 : List Value} {q1 : List CK} (h2 : T t = some ⟨.slice e, s1, b1, z1, q1⟩) {j : TI} (h3 : T e = some j) (hsz : sz = j.size ∧ sz' = j.size ∧ 0 < j.size ∧ j.zero.length = j.size) (h0 : 0 < m) {cl : List AV} (hb : bx[b]? = some cl)
  (hone : AV.oneL ⟨nt, nb, sl, bx, rw, ys⟩ us) (hfit : off + cap * sz ≤ cl.length) (hmax : n + m ≤ maxLen ∧ (n + m) * j.bytes ≤ 140737488355328)
  (hroom : n + m ≤ cap → ∀ bx', bx.set b (vU cl (off + n * sz) us) = bx' → xK P ops rest K ⟨nt, nb, (d, (true, .bsl sz b off (n + m) cap)) :: sl, bx', rw, ys⟩)
  (hgrow : cap < n + m → ∀ c, n + m ≤ c → c ≤ maxLen → ∀ bx' bn, bx.length = bn → bx ++ [((cl.drop off).take (n * sz) ++ us) ++ vB (c - (n + m)) j.zero] = bx' → xK P ops rest K ⟨nt, nb, (d, (true, .bsl sz bn 0 (n + m) c)) :: sl, bx', rw, ys⟩) : xK P ops (o :: rest) K ⟨nt, nb, sl, bx, rw, ys⟩ := by
 obtain ⟨x, y, g1, g2, v, hop, rfl, hx, hy, hsrc⟩ := zO7 h1
 obtain ⟨rfl, rfl, j0, jz⟩ := hsz
 subst htt
 intro C G a w Q hs hQ
 have hev : ∀ y ∈ o.op.operands.toList, zGm G w a ⟨nt, nb, sl, bx, rw, ys⟩ y := fun y hy => yU fun t ht => hs.slot t
 obtain ⟨blk, A, hA0, ex, hnc, hcm, hA⟩ := hev x (by rw [hop]; simp [Op.operands, Call.operands]) _ _ hx (hc g1 (by simp))
 obtain ⟨A', cap', vs, ey, hvl, hvr, hva⟩ := zJr hs.mem hsrc hp j0 (hev y (by rw [hop]; simp [Op.operands, Call.operands]) _ _ hy (hc g2 (by simp)))
 obtain ⟨a', rfl, hcell⟩ := hva h0
 have hu := zEj hT h2
 obtain ⟨ie, z, g2', g1', g3, g4, e2⟩ := zIs hT h3
 obtain ⟨_, ws, Ty, b3, b4⟩ := hs.mem.box b cl blk hb hA0
 have hwl := AV.relL_length b4
 have h1c : ∀ u ∈ vs, u.oneCell' = true := zAo hs.mem hone hvr
 have hmle : n * j.size ≤ cap * j.size := yLl _ hnc
 have hsr : Src P ie.size t' (.slice (some a') m cap') m vs w := .ofSlice w hu a' m cap' vs (by rw [g1']; exact hvl) hcell h1c
 refine wpListIn_plain hg fun K' hK => ?_
 refine zZ (fun c hc => by rw [hop] at hc; cases hc) ?_
 by_cases hr : n + m ≤ cap
 ·have hA := hA (by omega)
  subst hA
  have hle : (n + m) * j.size ≤ cap * j.size := yLl _ hr
  rw [yL8] at hle
  obtain ⟨w', e8, e9⟩ := zC1 (P := P) (off := off + n * j.size) (us := vs) b3 (by omega) h1c
  obtain ⟨s1', le⟩ := hs.stored hb hA0 e9 (zC4 b4 hvr)
  have hexec : (execOp a.eval o).run P w = .ok (.value (.slice (some ⟨blk, off, none⟩) (n + m) cap)) w' := by
   obtain ⟨dst, op, type, pos, after, guard⟩ := o
   simp only at hop
   subst hop
   have hf := run_firstCells_some (P := P) w j.size m a' m cap' vs hvl hcell
   simp [execOp, resolve, invoke, builtin, ex, ey, Builtin.append_, run_underlying hu, Builtin.lenOf, sizeOf, typeInfo, g2', g1', hf, hr, add_lit, e8]
  rw [hexec, Oper.uponIn_value, hd]
  refine hK _ _ (hroom hr _ rfl C _ _ _ Q (s1'.put (by simpa [yM6] using hn) (fun _ => ⟨blk, _, ?_, rfl, hr, hcm, fun _ => rfl⟩) (fun h => by cases h)) hQ)
  exact hA0
 ·have hr : cap < n + m := by omega
  have hold : (Builtin.firstCells ie.size n (.slice A n cap)).run P w.drew = .ok ((ws.drop off).take (n * j.size)).toArray w.drew := by
   rw [g1']
   rcases yLj cap with h | h
   ·have hn0 : n = 0 := by omega
    subst hn0
    cases A with
    | none => simp [run_firstCells_none]
    | some A => exact run_firstCells_some (P := P) w.drew j.size 0 A 0 cap _ (by simp) (fun q u hq => by simp at hq)
   ·rw [hA h]
    refine run_firstCells_some (P := P) w.drew j.size n ⟨blk, off, none⟩ n cap _ (by simp; omega) (fun q u hq => ?_)
    rw [add_lit]
    rw [yKn] at hq
    split at hq
    ·rw [yKm] at hq
     have := zE4 b3 hq
     simpa using this
    ·cases hq
  have hrun := fun ty => run_append_grow_src (P := P) w t' t' ty e ie z hu g2' g3 A n cap _ hold (.slice (some a') m cap') m vs hsr hr (by have := hmax.1; simp only [maxLen] at this; omega) (growslice_fits hr (by rw [g4]; exact hmax.2))
  have hge := grownCap_ge w (n + m) cap e
  have hcmx : grownCap w (n + m) cap e ≤ maxLen := grownCap_le_maxLen w (n + m) cap e hmax.1
  have hk := hgrow hr (grownCap w (n + m) cap e) hge hcmx _ _ rfl rfl
  generalize grownCap w (n + m) cap e = c at *
  have hexec : (execOp a.eval o).run P w = .ok (.value (.slice (some ⟨w.heap.size, 0, none⟩) (n + m) c)) (w.drew.alloc (.cells (((ws.drop off).take (n * j.size) ++ vs).toArray ++ Builtin.zeroCells z.cells (c - (n + m))) e)) := by
   obtain ⟨dst, op, type, pos, after, guard⟩ := o
   simp only at hop
   subst hop
   simp only [execOp, resolve, invoke, builtin, Array.map, ex, ey]
   have := hrun type
   simp [ex, ey, this]
  rw [hexec, Oper.uponIn_value, hd]
  have hb1 : Below w.heap.size w w.drew := (Below.refl _ _).drew
  have E := wP hs.mem hb1 G.imm (fun _ _ i => i) (fun _ _ i => .inl i) (fun b o i => hs.mem.immOk b o i)
  have hs1 : Sat C G a w.drew ⟨nt, nb, sl, bx, rw, ys⟩ := hs.called (z6.of_below hb1) E.le (fun _ _ i => .inl i) (fun _ h => .inl h) (fun x hx g hg => .inl ⟨x, hx, hg⟩) E.mem
  have hcells : AV.relL G w.drew (((cl.drop off).take (n * j.size) ++ us) ++ vB (c - (n + m)) j.zero) (((ws.drop off).take (n * j.size) ++ vs) ++ vG (c - (n + m)) j.zero) :=
   AV.relL_append (AV.relL_mono E.le _ _ (AV.relL_append (AV.relL_take _ (AV.relL_drop _ b4)) hvr)) (wV _ _)
  have hs2 := hs1.push e hcells
  have harr : (((ws.drop off).take (n * j.size) ++ vs) ++ vG (c - (n + m)) j.zero).toArray = ((ws.drop off).take (n * j.size) ++ vs).toArray ++ Builtin.zeroCells z.cells (c - (n + m)) := by
   apply Array.ext'
   simp [kB, e2]
  rw [harr] at hs2
  refine hK _ _ (hk C _ _ _ Q (hs2.put (by simpa [yM6] using hn) (fun _ => ⟨w.heap.size, _, ?_, rfl, hge, hcmx, fun _ => rfl⟩) (fun h => by cases h)) hQ)
  show (G.bx ++ [w.heap.size])[bx.length]? = _
  have hlb : G.bx.length = bx.length := hs.mem.lenB
  rw [← hlb, yM2 (yKq _), yM9]
  rfl
theorem zTi {α : Type} : ∀ (cs : List α) (off : Nat) (us : List α), off + us.length ≤ cs.length → vU cs off us = cs.take off ++ (us ++ cs.drop (off + us.length))
 | [], 0, us, h => by
  have : us = [] := yKl (by simpa using h)
  subst this; rfl
 | c :: cs, 0, us, h => by
  have e : ∀ (us cs : List α), us.length ≤ cs.length → kG us cs = us ++ cs.drop us.length := by
   intro us
   induction us with
   | nil => intro cs _; rfl
   | cons u us ih => intro cs h; cases cs with
    | nil => simp at h
    | cons c cs => simp [kG, ih cs (by simpa using h)]
  have : vU (c :: cs) 0 us = kG us (c :: cs) := rfl
  rw [this, e us _ (by simpa using h)]
  simp
 | [], n + 1, us, h => by simp at h
 | c :: cs, n + 1, us, h => by
  have : vU (c :: cs) (n + 1) us = c :: vU cs n us := rfl
  rw [this, zTi cs n us (by simp at h; omega)]
  simp [Nat.add_right_comm n 1]
theorem zMm {α : Type} {A B C us : List α} {off : Nat} (hA : A.length = off) (hB : B.length = us.length) : vU (A ++ (B ++ C)) off us = A ++ (us ++ C) := by
 rw [zTi _ _ _ (by simp; omega), List.take_left' hA, ← yN2 A B C, List.drop_left' (by simp; omega)]
end rules
mutual
theorem bel_free (m : Nat) : ∀ (x : AV), x.free → x.bel m
 | .raw _, _ => trivial
 | .agg cs, h => wY m cs h
 | .tup cs, h => wY m cs h
 | .lst _ n el, h => fun i hi => wY m (el i) (h i hi)
 | .elt cs _, h => wY m cs h
 | .box _ _, h => h.elim
 | .fn _ a b, h => ⟨wY m a h.1, wY m b h.2⟩
 | .row _ _, h => h.elim
 | .bsl _ _ _ _ _, h => h.elim
 | .ifc _ x, h => bel_free m x h
 | .ful x, h => bel_free m x h
theorem wY (m : Nat) : ∀ (xs : List AV), AV.freeL xs → AV.belL m xs
 | [], _ => trivial
 | x :: xs, h => ⟨bel_free m x h.1, wY m xs h.2⟩
end
theorem belL_free {m : Nat} (xs : List AV) (h : AV.freeL xs) : AV.belL m xs := wY m xs h
theorem obb {p : Prop} (h : p := by first
  | trivial
  | (simp [j6, zLy, AV.bel, AV.belL]; done)
  | (simp only [j6, zLy, AV.bel, AV.belL, yMs, yKz, yMt]; (repeat' apply And.intro) <;> first | trivial | omega | (simp; done) | (refine bel_free _ _ ?_; first | assumption | exact zC (fun _ => by simp) _) | (refine belL_free _ ?_; first | assumption | (simp; done)) | (intro r hr; cases hr; done))
  | (intro r hr; simp at hr; done)
  | (simp_all [j6, zLy, AV.bel, AV.belL]; done)
  | fail) : p := h
attribute [go_sem] yC0 zWa zKr ASt.src
end Go.Proofs.YtchpbdecipcelaaGreatDoor
