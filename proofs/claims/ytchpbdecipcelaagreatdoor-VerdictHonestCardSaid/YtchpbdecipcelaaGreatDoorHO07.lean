import Derived.Test.YtchpbdecipcelaaGreatDoorHO01
import Derived.Deep.AppendSrc
import Derived.Laws.Externs
import Derived.Lib.AppendZerosOnto
import Derived.Test.YtchpbdecipcelaaGreatDoorHO04
import Derived.Test.YtchpbdecipcelaaGreatDoorHO06
namespace Go.Proofs.YtchpbdecipcelaaGreatDoor
set_option linter.unusedVariables false
set_option linter.unusedSimpArgs false
set_option maxHeartbeats 4000000
set_option maxRecDepth 100000
open Go.RowKit

def kQ (L : List Nat) (sl : List (Nat × (Bool × AV))) : List (Nat × (Bool × AV)) := sl.filter fun e => L.contains e.1
theorem zBa {L : List Nat} {t : Nat} : ∀ {sl : List (Nat × (Bool × AV))}, xG t (kQ L sl) = bif L.contains t then xG t sl else none
 | [] => by cases L.contains t <;> rfl
 | (s, e) :: r => by
  have ih := zBa (L := L) (t := t) (sl := r)
  unfold kQ at ih ⊢
  rw [List.filter_cons]
  by_cases hs : L.contains s = true
  ·simp only [hs, if_true, xG]
   cases hb : Nat.beq t s
   ·simp only [yJ6]; exact ih
   ·obtain rfl := yIt hb
    rw [hs]; rfl
  ·simp only [hs, yK3, if_false, xG]
   rw [ih]
   cases hb : Nat.beq t s
   ·rfl
   ·obtain rfl := yIt hb
    cases hc : L.contains t
    ·rfl
    ·exact absurd hc hs
def dl : Option Nat → (Bool × AV) → List (Nat × (Bool × AV))
 | some d, e => [(d, e)]
 | none, _ => []
theorem zZj {o : Option Nat} {e : Bool × AV} {t : Nat} {x : Bool × AV} (h : xG t (dl o e) = some x) : o = some t ∧ e = x := by
 cases o with
 | none => cases h
 | some d =>
  simp only [dl, xG] at h
  cases hb : Nat.beq t d
  ·rw [hb] at h; cases h
  ·rw [hb] at h
   cases h
   exact ⟨by rw [yIt hb], rfl⟩
def hrm (o : Oper) : Bool := match o.op with
 | .store _ _ _ => false
 | .call _ => false
 | .buildSlice _ _ _ => false
 | .makeSlice _ _ _ => false
 | .makeMap _ _ => false
 | .mapUpdate _ _ _ _ => false
 | _ => true
def zLw (all : Bool) (bx ext : List (List AV)) : List (List AV) := bif all then ext else bx ++ ext
def zG1 (all : Bool) (bx bx' : List (List AV)) : Prop := ∃ ext, bx' = zLw all bx ext
def zHn (P : Program) (full : Array Oper) (all : Bool) (bx0 : List (List AV)) (o : Oper) (k : ASt → Prop) (st : ASt) : Prop :=
 st.bx.length < 64 ∧ ∀ nb, xM P full [o] (fun st' => ∃ ent bx' rw', st' = ⟨st.nt, nb, dl o.dst ent ++ kQ (o.looksAt full) st.sl, bx', rw', st.ys⟩ ∧ zG1 all bx0 bx' ∧ (hrm o = true → rw' = st.rw ∧ ∃ ext, bx' = st.bx ++ ext) ∧
   k ⟨st.nt, st.nb, dl o.dst ent ++ st.sl, bx', rw', st.ys⟩) ⟨st.nt, nb, kQ (o.looksAt full) st.sl, st.bx, st.rw, st.ys⟩
theorem zPc {P : Program} {full : Array Oper} {all : Bool} {bx0 : List (List AV)} {o : Oper} {k k' : ASt → Prop} {st : ASt} (hk : ∀ s, k s → k' s) (h : zHn P full all bx0 o k st) : zHn P full all bx0 o k' st :=
 ⟨h.1, fun nb C G a w Q hs hQ => h.2 nb C G a w Q hs fun G' a' w' st' hs' ⟨ent, bx', rw', e, k1, k2, k3⟩ => hQ G' a' w' st' hs' ⟨ent, bx', rw', e, k1, k2, hk _ k3⟩⟩
def zUr (P : Program) (full : Array Oper) (all : Bool) (bx0 : List (List AV)) : List Oper → (ASt → Prop) → ASt → Prop
 | [], k, st => k st
 | o :: r, k, st => zHn P full all bx0 o (zUr P full all bx0 r k) st
inductive AK where
 | first | any
def yA3 (P : Program) (full : Array Oper) (all : Bool) (st : ASt) (o : Oper) (sl : List (Nat × (Bool × AV))) (g : Bool) (x : AV) : AK → Prop
 | .first => ∀ ext, zA4 P full o { st with sl := sl, bx := st.bx ++ ext } g x
 | .any => ∀ ext rw', zA4 P full o { st with sl := sl, bx := zLw all st.bx ext, rw := rw' } g x
abbrev AEn := Nat × AK × (Nat × (Bool × AV))
def slA (es : List AEn) : List (Nat × (Bool × AV)) := (es.map (·.2.2)).reverse
def zQr (es : List AEn) : List (Nat × AK) := es.map fun e => (e.1, e.2.1)
def xF (full : List Oper) (i j : Nat) : Bool := match full[i]? with
 | some o => vQ o j
 | none => false
def zT7 (full : List Oper) (i : Nat) : Bool := match full[i]? with
 | some o => hrm o
 | none => false
def zI7 (full : List Oper) : List Nat → Nat → Bool
 | [], _ => true
 | b :: r, i => xF full b i || (zT7 full b && zI7 full r i)
def AK.isFirst : AK → Bool
 | .first => true
 | .any => false
def wM (full : List Oper) : List Nat → Bool
 | a :: b :: r => xF full b a && wM full (b :: r)
 | _ => true
def zEy : List Nat → Bool
 | a :: b :: r => Nat.blt a b && zEy (b :: r)
 | _ => true
def zVo (full : List Oper) (ia : List (Nat × AK)) (i t : Nat) : Bool := full.zipIdx.all fun y => y.1.dst != some t || ((ia.any fun e => e.1 == y.2) && Nat.blt y.2 i && xF full i y.2) || (Nat.blt i y.2 && vQ y.1 i)
def zVn (full : List Oper) (i t : Nat) : Bool := full.zipIdx.all fun y => y.1.dst != some t || xF full i y.2
def zU0 (full : List Oper) (ia : List (Nat × AK)) (ib : List Nat) : Bool :=
 (((List.range full.length).all fun i => (ia.any fun e => e.1 == i) || ib.contains i) && (ib.all fun i => !(ia.any fun e => e.1 == i) && Nat.blt i full.length)) &&
 ((full.zipIdx.all fun x => x.1.after.all fun e => !Region.binds .any e || Nat.blt e.on x.2) && (full.zipIdx.all fun x => full.zipIdx.all fun y => y.2 == x.2 || x.1.dst.isNone || x.1.dst != y.1.dst)) &&
 ((wM full ib && zEy (ia.map (·.1)) && ia.all fun e => !e.2.isFirst || zI7 full ib e.1) &&
 (full.zipIdx.all fun x => (x.1.looksAt full.toArray).all fun t => bif ib.contains x.2 then zVn full x.2 t else zVo full ia x.2 t) && zC6 full)
theorem zQw {P : Program} {o : Oper} {ro : Option Nat} {a : Act} {w : World} {K0 : Act → World → Prop} {Q0 Q : Exit → Act → World → Prop} (hd : ∀ c, o.op ≠ .defer c) (ds : List Deferred) (hQ : ∀ e a' w', Q0 e a' w' → e = .normal)
  (h : o.wpIn (fen ro) 0 P { a with defers := ds } w K0 Q0) : o.wpIn (fen ro) 0 P a w (fun a' w' => ∃ v pre, a' = ({ a with defers := pre ++ a.defers } : Act).put o.dst v ∧ K0 (({ a with defers := pre ++ ds } : Act).put o.dst v) w') Q := by
 have he : ({ a with defers := ds } : Act).eval = a.eval := rfl
 unfold Oper.wpIn at *
 rw [he] at h
 refine ⟨h.1, ?_⟩
 have h := h.2
 have hsem : ∀ ρ : Operand → Value, Oper.semAt (fen ro).round ρ o = execOp ρ o := fun ρ => zIy ro ρ o hd
 rw [hsem] at h ⊢
 generalize (execOp a.eval o).run P w = r at *
 cases r with
 | ok x w' =>
  cases x <;> simp only [Oper.uponIn] at h ⊢
  case value u => exact ⟨u, [], rfl, h⟩
  case skip => exact ⟨undef, [], rfl, h⟩
  case defer d => exact ⟨undef, [d], rfl, h⟩
  case enter f args =>
   refine ⟨h.1, CallsIn.mono h.2 fun e w'' he => ?_⟩
   cases e with
   | returned u => exact ⟨u, [], rfl, he⟩
   | panicked c => exact absurd (hQ _ _ _ he) (by simp)
   | outgrown => obtain ⟨a1, w1, he⟩ := he; exact absurd (hQ _ _ _ he) (by simp)
  case row row args => exact ⟨h.1, RowsIn.mono h.2 fun u w'' he => ⟨u, [], rfl, he⟩⟩
  case round l f tmps assign body =>
   refine ⟨h.1, RoundIn.mono h.2 fun e w'' he => ?_⟩
   cases e with
   | returned u => exact ⟨u, [], rfl, he⟩
   | panicked c => exact absurd (hQ _ _ _ he) (by simp)
   | outgrown => obtain ⟨a1, w1, he⟩ := he; exact absurd (hQ _ _ _ he) (by simp)
 | halt x w' =>
  cases x <;> simp only [Oper.uponIn] at h ⊢
  case panic u => exact absurd (hQ _ _ _ h) (by simp)

def yBs (full : List Oper) (rem : List Nat) (i : Nat) : Bool := rem.all fun j => !xF full i j
def runT (P : Program) (full : List Oper) (all : Bool) (bx0 : List (List AV)) : Nat → List Nat → (ASt → Prop) → ASt → Prop
 | 0, _, k, st => k st
 | m + 1, rem, k, st => ∀ i ∈ rem, yBs full rem i = true → ∀ o, full[i]? = some o → zHn P full.toArray all bx0 o (runT P full all bx0 m (rem.erase i) k) st
def zP0 (full : List Oper) (ib : List Nat) (i : Nat) : Prop := ∀ listed : Nat → Prop, (∀ b c, xF full b c = true → listed b → listed c) → ¬ listed i → ∀ b ∈ ib, listed b → zT7 full b = true
structure yC8 (full : List Oper) (ia : List (Nat × AK)) (ib : List Nat) : Prop where
 cover : ∀ i, i < full.length → (∃ e ∈ ia, e.1 = i) ∨ i ∈ ib
 apart : ∀ i ∈ ib, i < full.length ∧ ∀ e ∈ ia, e.1 ≠ i
 back : ∀ (i : Nat) (o : Oper), full[i]? = some o → ∀ e ∈ o.after, Region.binds .any e = true → e.on < i
 dst : ∀ (i j : Nat) (o o' : Oper) (d : Nat), full[i]? = some o → full[j]? = some o' → o.dst = some d → o'.dst = some d → i = j
 nodup : ib.Nodup
 rises : zEy (ia.map (·.1)) = true
 first : ∀ e ∈ ia, e.2.isFirst = true → zP0 full ib e.1
 looksB : ∀ (i : Nat) (o : Oper) (t : Nat), full[i]? = some o → i ∈ ib → t ∈ o.looksAt full.toArray → ∀ (j : Nat) (o' : Oper), full[j]? = some o' → o'.dst = some t → vQ o j = true
 looksA : ∀ (i : Nat) (o : Oper) (t : Nat), full[i]? = some o → i ∉ ib → t ∈ o.looksAt full.toArray → ∀ (j : Nat) (o' : Oper), full[j]? = some o' → o'.dst = some t → ((∃ e ∈ ia, e.1 = j) ∧ j < i ∧ vQ o j = true) ∨ (i < j ∧ vQ o' i = true)
 plain : zC6 full = true
def yBo (full : List Oper) (i : Nat) : List Nat := (List.range full.length).foldl (fun acc j => bif xF full j i || acc.any (fun c => xF full j c) then j :: acc else acc) []
def zI6 (full : List Oper) (ib : List Nat) (i : Nat) : Bool := ib.all fun b => zT7 full b || xF full b i || (yBo full i).contains b
def zNy : List Nat → Bool
 | [] => true
 | a :: r => !(r.contains a) && zNy r
def zTz (full : List Oper) (ia : List (Nat × AK)) (ib : List Nat) : Bool :=
 (((List.range full.length).all fun i => (ia.any fun e => e.1 == i) || ib.contains i) && (ib.all fun i => !(ia.any fun e => e.1 == i) && Nat.blt i full.length)) &&
 ((full.zipIdx.all fun x => x.1.after.all fun e => !Region.binds .any e || Nat.blt e.on x.2) && (full.zipIdx.all fun x => full.zipIdx.all fun y => y.2 == x.2 || x.1.dst.isNone || x.1.dst != y.1.dst)) &&
 ((zNy ib && zEy (ia.map (·.1)) && ia.all fun e => !e.2.isFirst || zI6 full ib e.1) &&
 (full.zipIdx.all fun x => (x.1.looksAt full.toArray).all fun t => bif ib.contains x.2 then zVn full x.2 t else zVo full ia x.2 t) && zC6 full)
theorem zDk : ∀ {l : List Nat}, zNy l = true → l.Nodup
 | [], _ => List.nodup_nil
 | a :: r, h => by
  simp only [zNy, yJl, yJn] at h
  rw [yK9]
  exact ⟨by simpa using h.1, zDk h.2⟩
theorem zMj {full : List Oper} {i : Nat} {listed : Nat → Prop} (hc : ∀ b c, xF full b c = true → listed b → listed c) (hi : ¬ listed i) : ∀ b ∈ yBo full i, ¬ listed b := by
 have key : ∀ (l acc : List Nat), (∀ b ∈ acc, ¬ listed b) → ∀ b ∈ l.foldl (fun acc j => bif xF full j i || acc.any (fun c => xF full j c) then j :: acc else acc) acc, ¬ listed b := by
  intro l
  induction l with
  | nil => intro acc h; exact h
  | cons j r ih =>
   intro acc h
   rw [yJ1]
   refine ih _ ?_
   cases hw : (xF full j i || acc.any (fun c => xF full j c)) with
   | false => exact h
   | true =>
    simp only [yIs]
    intro b hb
    rcases yJb.1 hb with rfl | hb
    ·intro hl
     rw [yKt, yLa] at hw
     rcases hw with hw | ⟨c, hca, hw⟩
     ·exact hi (hc _ _ hw hl)
     ·exact h c hca (hc _ _ hw hl)
    ·exact h b hb
 exact key _ [] (by simp)
theorem zG8 {full : List Oper} {ib : List Nat} {i : Nat} (h : zI6 full ib i = true) : zP0 full ib i := by
 intro listed hc hi b hb hl
 simp only [zI6, yLf, yKt] at h
 rcases h b hb with (h | h) | h
 ·exact h
 ·exact absurd (hc _ _ h hl) hi
 ·exact absurd hl (zMj hc hi b (by simpa using h))
theorem jZ {full : List Oper} {i : Nat} {o : Oper} (h : full[i]? = some o) : (o, i) ∈ full.zipIdx := by rw [List.mem_zipIdx_iff_getElem?]; exact h
theorem zHd {a b : Nat} (h : Nat.blt a b = true) : a < b := Nat.le_of_ble_eq_true h
theorem zDu {full : List Oper} : ∀ {ib : List Nat} {p i j : Nat}, wM full ib = true → ib[p]? = some i → ib[p + 1]? = some j → xF full j i = true
 | [], _, _, _, _, h, _ => by simp at h
 | [a], _, _, _, _, _, h => by simp at h
 | a :: b :: r, 0, i, j, hc, h1, h2 => by
  simp only [yIf, yIh, yIg] at h1 h2
  subst h1; subst h2
  simp only [wM, yJl] at hc
  exact hc.1
 | a :: b :: r, p + 1, i, j, hc, h1, h2 => by
  simp only [wM, yJl] at hc
  exact zDu hc.2 (by simpa using h1) (by simpa using h2)
theorem zKi {full : List Oper} {ia : List (Nat × AK)} {ib : List Nat}
  (h1 : ∀ x, x < full.length → (ia.any fun e => e.1 == x) = true ∨ ib.contains x = true) (h2 : ∀ x ∈ ib, (!(ia.any fun e => e.1 == x)) = true ∧ Nat.blt x full.length = true)
  (h3 : ∀ x ∈ full.zipIdx, (x.1.after.all fun e => !Region.binds .any e || Nat.blt e.on x.2) = true) (h4 : ∀ x ∈ full.zipIdx, ∀ y ∈ full.zipIdx, ((y.2 == x.2) = true ∨ x.1.dst.isNone = true) ∨ (x.1.dst != y.1.dst) = true)
  (h5 : ib.Nodup) (h6 : zEy (ia.map (·.1)) = true) (h7 : ∀ e ∈ ia, e.2.isFirst = true → zP0 full ib e.1)
  (h8 : ∀ x ∈ full.zipIdx, ∀ t ∈ x.1.looksAt full.toArray, (bif ib.contains x.2 then zVn full x.2 t else zVo full ia x.2 t) = true) (h9 : zC6 full = true) : yC8 full ia ib := by
 refine ⟨fun i hi => ?_, fun i hi => ?_, fun i o ho e he hb => ?_, fun i j o o' d ho ho' hd hd' => ?_, h5, h6, fun e he hf => ?_, fun i o t ho hi ht j o' ho' hd => ?_, fun i o t ho hi ht j o' ho' hd => ?_, h9⟩
 ·rcases h1 i hi with h | h
  ·rw [yLa] at h
   obtain ⟨e, he, h⟩ := h
   exact .inl ⟨e, he, by simpa using h⟩
  ·exact .inr (by simpa using h)
 ·have := h2 i hi
  refine ⟨zHd this.2, fun e he hne => ?_⟩
  have h3 := this.1
  rw [yJn, yL9] at h3
  exact h3 e he (by simpa using hne)
 ·have := h3 (o, i) (jZ ho)
  rw [Array.all_eq_true_iff_forall_mem] at this
  have h3 := this e he
  simp only [hb, yKg, Bool.false_or] at h3
  exact zHd h3
 ·have := h4 (o, i) (jZ ho) (o', j) (jZ ho')
  simp only [hd, hd', Option.isNone_some, bne_self_eq_false, yK3, yKq, beq_iff_eq] at this
  exact this.symm
 ·exact h7 e he hf
 ·have h10 := h8 (o, i) (jZ ho) t ht
  rw [show ib.contains i = true from by simpa using hi] at h10
  simp only [yIs, zVn, yLf, yKt] at h10
  have h11 := h10 (o', j) (jZ ho')
  simp only [hd, bne_self_eq_false, yK3, false_or, xF, ho] at h11
  exact h11
 ·have h10 := h8 (o, i) (jZ ho) t ht
  rw [show ib.contains i = false from by simpa using hi] at h10
  simp only [yJ6, zVo, yLf, yKt, yJl] at h10
  have h11 := h10 (o', j) (jZ ho')
  simp only [hd, bne_self_eq_false, yK3, false_or, xF, ho] at h11
  rcases h11 with ⟨⟨h11, h12⟩, h13⟩ | ⟨h11, h12⟩
  ·rw [yLa] at h11
   obtain ⟨e, he, h⟩ := h11
   exact .inl ⟨⟨e, he, by simpa using h⟩, zHd h12, h13⟩
  ·exact .inr ⟨zHd h11, h12⟩
theorem zP3 {full : List Oper} (h3 : ∀ x ∈ full.zipIdx, (x.1.after.all fun e => !Region.binds .any e || Nat.blt e.on x.2) = true) {j i : Nat} (h : xF full j i = true) : i < j := by
 unfold xF at h
 split at h
 ·rename_i ox hox
  obtain ⟨e, he, h8, h9⟩ := vF h
  have h10 := h3 (ox, j) (jZ hox)
  rw [Array.all_eq_true_iff_forall_mem] at h10
  have h11 := h10 e he
  simp only [h9, yKg, Bool.false_or] at h11
  have := zHd h11
  omega
 ·cases h
theorem zOp {full : List Oper} (h3 : ∀ j i, xF full j i = true → i < j) : ∀ {ib : List Nat}, wM full ib = true → ib.Pairwise (· < ·)
 | [], _ => List.Pairwise.nil
 | [a], _ => List.pairwise_singleton ..
 | a :: b :: r, h => by
  simp only [wM, yJl] at h
  have ih := zOp h3 h.2
  have hab := h3 _ _ h.1
  rw [yLg]
  refine ⟨fun c hc => ?_, ih⟩
  rcases yJb.1 hc with rfl | hc
  ·exact hab
  ·have := (yLg.1 ih).1 c hc; omega
theorem zCj {full : List Oper} {i : Nat} : ∀ {ib : List Nat}, wM full ib = true → zI7 full ib i = true → zP0 full ib i
 | [], _, _ => fun _ _ _ b hb => by simp at hb
 | b0 :: r, hch, hf => by
  intro listed hc hi b hb hl
  have none : ¬ listed b0 → ∀ c ∈ b0 :: r, ¬ listed c := by
   clear hf hb hl
   induction r generalizing b0 with
   | nil => intro h c hm; rw [yK4] at hm; subst hm; exact h
   | cons b1 r ih =>
    intro h c hm
    simp only [wM, yJl] at hch
    rcases yJb.1 hm with rfl | hm
    ·exact h
    ·exact ih b1 hch.2 (fun h1 => h (hc _ _ hch.1 h1)) c hm
  simp only [zI7, yKt, yJl] at hf
  rcases hf with hf | ⟨h1, h2⟩
  ·exact absurd hl (none (fun h => hi (hc _ _ hf h)) b hb)
  ·rcases yJb.1 hb with rfl | hb
   ·exact h1
   ·have hch' : wM full r = true := by
     cases r with
     | nil => rfl
     | cons b1 r => simp only [wM, yJl] at hch; exact hch.2
    exact zCj hch' h2 listed hc hi b hb hl
theorem zKk {full : List Oper} {ia : List (Nat × AK)} {ib : List Nat} (h : zU0 full ia ib = true) : yC8 full ia ib ∧ wM full ib = true := by
 unfold zU0 at h
 simp only [yJl, yLf, yKt, yL1] at h
 obtain ⟨⟨⟨h1, h2⟩, h3, h4⟩, ⟨⟨⟨h5, h6⟩, h7⟩, h8⟩, h9⟩ := h
 refine ⟨zKi h1 h2 h3 h4 ?_ h6 (fun e he hf => zCj h5 ?_) h8 h9, h5⟩
 ·exact (zOp (fun j i h => zP3 h3 h) h5).imp fun h => Nat.ne_of_lt h
 ·have := h7 e he
  rw [hf] at this
  simpa using this
theorem zKj {full : List Oper} {ia : List (Nat × AK)} {ib : List Nat} (h : zTz full ia ib = true) : yC8 full ia ib := by
 unfold zTz at h
 simp only [yJl, yLf, yKt, yL1] at h
 obtain ⟨⟨⟨h1, h2⟩, h3, h4⟩, ⟨⟨⟨h5, h6⟩, h7⟩, h8⟩, h9⟩ := h
 refine zKi h1 h2 h3 h4 (zDk h5) h6 (fun e he hf => zG8 ?_) h8 h9
 have := h7 e he
 rw [hf] at this
 simpa using this
theorem yM {P : Program} {full : List Oper} {all : Bool} {bx0 : List (List AV)} {k : ASt → Prop} : ∀ {rem : List Nat} {st : ASt}, wM full rem = true → zUr P full.toArray all bx0 (rem.filterMap (full[·]?)) k st → runT P full all bx0 rem.length rem k st
 | [], st, _, h => h
 | a :: r, st, hch, h => by
  intro i hi hc o ho
  have hia : i = a := by
   rcases yJb.1 hi with h1 | h1
   ·exact h1
   ·obtain ⟨q, hq⟩ := yL2 h1
    have hql : q < (a :: r).length := by have := (yJf.1 hq).1; rw [yIz]; omega
    have hw := zDu (p := q) hch (yJh hql) (by simpa using hq)
    simp only [yBs, yLf] at hc
    have := hc _ (yLb hql)
    rw [hw] at this
    cases this
  subst hia
  rw [List.filterMap_cons_some ho] at h
  rw [List.erase_cons_head]
  have hch' : wM full r = true := by
   cases r with
   | nil => rfl
   | cons b1 r => simp only [wM, yJl] at hch; exact hch.2
  exact zPc (fun s hs => yM hch' hs) h
theorem zEx : ∀ {l : List Nat} {p q i j : Nat}, zEy l = true → l[p]? = some i → l[q]? = some j → p < q → i < j
 | [], _, _, _, _, _, h, _, _ => by simp at h
 | [a], p, q, _, _, _, h1, h2, h => by
  have := (yJf.1 h2).1
  simp at this; omega
 | a :: b :: r, p, q, i, j, hr, h1, h2, h => by
  simp only [zEy, yJl] at hr
  have hab := zHd hr.1
  cases q with
  | zero => omega
  | succ q =>
   simp only [yIh] at h2
   cases p with
   | succ p => exact zEx hr.2 (by simpa using h1) h2 (by omega)
   | zero =>
    simp only [yIf, yIg] at h1
    subst h1
    cases q with
    | zero => simp only [yIf, yIg] at h2; omega
    | succ q => have := zEx hr.2 (i := b) (p := 0) (q := q + 1) rfl h2 (by omega); omega
def zG0 (G : Gh) (w : World) (a : Act) (t : Nat) (e : Bool × AV) : Prop := ∃ v, a.tmps[t]? = some v ∧ (e.1 = true → e.2.rel G w v) ∧ (e.1 = false → v = undef)
theorem zG0.mono {G G' : Gh} {w w' : World} {a a' : Act} {t : Nat} {e : Bool × AV} (le : G.Le w G' w') (h : zG0 G w a t e) (ha : a'.tmps[t]? = a.tmps[t]?) : zG0 G' w' a' t e := by
 obtain ⟨v, h1, h2, h3⟩ := h
 exact ⟨v, by rw [ha]; exact h1, fun hc => AV.rel_mono le _ _ (h2 hc), h3⟩
structure Mid4 {P : Program} (C : Ctx P) (full : List Oper) (all : Bool) (es : List AEn) (ib : List Nat) (st : ASt) (k : ASt → Prop) (listed : Array Bool) (G : Gh) (a : Act) (w : World) : Prop where
 frame' : zY C.may C.w0 w
 le : C.G0.Le C.w0 G w
 fresh : ∀ b o, G.imm b o → C.G0.imm b o ∨ C.w0.heap.size ≤ b ∨ ∃ x ∈ C.G0.rw, (zI x.2) = some b
 ownB : ∀ blk ∈ G.bx, blk ∈ C.G0.bx ∨ C.w0.heap.size ≤ blk
 ownR : ∀ x ∈ G.rw, ∀ g, (zI x.2) = some g → (∃ y ∈ C.G0.rw, (zI y.2) = some g) ∨ C.w0.heap.size ≤ g
 fits : zIb a.tmps.size full = true
 size : a.tmps.size = st.nt
 callers : C.G0.bx.length = st.nb % 64 ∧ C.G0.rw.length = st.nb / 64
 lsz : listed.size = full.length
 clo : ∀ (i : Nat) (o : Oper), full[i]? = some o → listed.getD i true = true → ∀ e ∈ o.after, Region.binds .any e = true → listed.getD e.on false = true
 old : ∀ (t : Nat) e, (∀ (i : Nat) (o : Oper), full[i]? = some o → o.dst = some t → listed.getD i false = false) → xG t st.sl = some e → zG0 G w a t e
 new : ∀ e ∈ es, listed.getD e.1 false = true → zG0 G w a e.2.2.1 e.2.2.2
 env : ∃ D, EnvD C G a.defers st.ys D w
 tree : ∃ (rem : List Nat) (eb : List (Nat × (Bool × AV))) (bx : List (List AV)) (rw : List z9), (∀ i, i ∈ rem ↔ i ∈ ib ∧ listed.getD i false = false) ∧ rem.Nodup ∧ zG1 all st.bx bx ∧ ((∀ b ∈ ib, listed.getD b false = true → zT7 full b = true) → rw = st.rw ∧ ∃ ext, bx = st.bx ++ ext) ∧ wG G w bx rw ∧
  (∀ t e, xG t eb = some e → zG0 G w a t e ∧ ∃ i o, i ∈ ib ∧ full[i]? = some o ∧ o.dst = some t) ∧ (∀ i o t, i ∈ ib → listed.getD i false = true → full[i]? = some o → o.dst = some t → xG t eb ≠ none) ∧
  runT P full all st.bx rem.length rem k ⟨st.nt, st.nb, eb ++ (slA es ++ st.sl), bx, rw, st.ys⟩
theorem zHq {es : List AEn} {t : Nat} {x : Bool × AV} (h : xG t (slA es) = some x) : ∃ e ∈ es, e.2.2 = (t, x) := by
 have := zF8 h
 unfold slA at this
 rw [List.mem_reverse, yKb] at this
 exact this
theorem zJs {t : Nat} {x : Bool × AV} : ∀ {l : List (Nat × (Bool × AV))}, (t, x) ∈ l → xG t l ≠ none
 | (d, y) :: l, h => by
  rw [zL]
  split
  ·simp
  ·rcases yJb.1 h with h | h
   ·rename_i hne; cases h; exact absurd rfl hne
   ·exact zJs h
theorem zLe {es : List AEn} {e : AEn} (h : e ∈ es) : xG e.2.2.1 (slA es) ≠ none := zJs (x := e.2.2.2) (by unfold slA; rw [List.mem_reverse, yKb]; exact ⟨e, h, rfl⟩)

theorem kR {listed : Array Bool} {full : List Oper} {i : Nat} (hsz : listed.size = full.length) (hi : i < full.length) : listed.getD i false = listed.getD i true := zW5 (by omega) _ _
theorem yAc {P : Program} {C : Ctx P} {full : List Oper} {all : Bool} {es : List AEn} {ib : List Nat} {st : ASt} {k : ASt → Prop} {Q : Exit → Act → World → Prop} (D4 : yC8 full (zQr es) ib)
  (hsp : ∀ (p : Nat) (e : AEn), es[p]? = some e → ∃ o, full[e.1]? = some o ∧ o.dst = some e.2.2.1 ∧ yA3 P full.toArray all st o (slA (es.take p) ++ st.sl) e.2.2.2.1 e.2.2.2.2 e.2.1)
  (hQ : ∀ G a w st', Sat C G a w st' → k st' → Q .normal a w) :
  ∀ (fuel : Nat) (listed : Array Bool) (G : Gh) (a : Act) (w : World), (List.range full.length).countP (fun k => !listed.getD k true) ≤ fuel → Mid4 C full all es ib st k listed G a w → wpAnyIn (fen C.round) 0 P .any full.toArray Q fuel listed a w := by
 have hia : ∀ e ∈ es, (e.1, e.2.1) ∈ zQr es := fun e he => yKb.2 ⟨e, he, rfl⟩
 have hai : ∀ i, (∃ e ∈ zQr es, e.1 = i) → ∃ e ∈ es, e.1 = i := by
  rintro i ⟨e, he, rfl⟩
  obtain ⟨e', h1, rfl⟩ := yKb.1 he
  exact ⟨e', h1, rfl⟩
 have hrise : ∀ (p q : Nat) (e e' : AEn), es[p]? = some e → es[q]? = some e' → p < q → e.1 < e'.1 := fun p q e e' h1 h2 h => by
  refine zEx (l := (zQr es).map (·.1)) D4.rises (p := p) (q := q) ?_ ?_ h
  ·simp [zQr, h1]
  ·simp [zQr, h2]
 have huniq : ∀ (p q : Nat) (e e' : AEn), es[p]? = some e → es[q]? = some e' → e.1 = e'.1 → p = q := fun p q e e' h1 h2 h => by
  rcases Nat.lt_trichotomy p q with h3 | h3 | h3
  ·have := hrise p q e e' h1 h2 h3; omega
  ·exact h3
  ·have := hrise q p e' e h2 h1 h3; omega
 have hplain : ∀ (o : Oper), o ∈ full → (∀ c, o.op ≠ .defer c) := fun o ho c hc => by
  have h1 := D4.plain
  simp only [zC6, yLf] at h1
  have h2 := h1 o ho
  rw [hc] at h2; cases h2
 have hops : ∀ e ∈ es, ∃ o, full[e.1]? = some o ∧ o.dst = some e.2.2.1 := fun e he => by
  obtain ⟨p, hp⟩ := yL2 he
  obtain ⟨o, h1, h2, _⟩ := hsp p e hp
  exact ⟨o, h1, h2⟩
 -- all is done
 have done : ∀ (listed : Array Bool) (G : Gh) (a : Act) (w : World), Mid4 C full all es ib st k listed G a w → Region.ready .any full.toArray listed = [] → Q .normal a w := by
  intro listed G a w hm hr
  have hall : ∀ i, i < full.length → listed.getD i true = true := by
   intro i
   induction i using Nat.strongRecOn with
   | _ i ih =>
    intro hi
    by_cases hu : listed.getD i true = true
    ·exact hu
    ·exfalso
     have : i ∈ Region.ready .any full.toArray listed := by
      rw [mem_ready]
      refine ⟨by simpa using hu, full[i], by rw [List.getElem?_toArray, yJh hi], fun e he heb => ?_⟩
      have hlt := D4.back i full[i] (yJh hi) e he heb
      rw [kR hm.lsz (by omega)]
      exact ih e.on hlt (by omega)
     rw [hr] at this
     cases this
  have hal : ∀ i, i < full.length → listed.getD i false = true := fun i hi => by rw [kR hm.lsz hi]; exact hall i hi
  obtain ⟨rem, eb, bx, rw', t1, t2, t3, t4, t5, t6, t7, t8⟩ := hm.tree
  have hn : rem = [] := by
   rw [List.eq_nil_iff_forall_not_mem]
   intro i hi
   obtain ⟨h1, h2⟩ := (t1 i).1 hi
   rw [hal i (D4.apart i h1).1] at h2
   cases h2
  subst hn
  refine hQ G a w ⟨st.nt, st.nb, eb ++ (slA es ++ st.sl), bx, rw', st.ys⟩ ⟨hm.size, hm.callers, hm.frame', hm.le, hm.fresh, hm.ownB, hm.ownR, hm.env, t5, fun t c x hl => ?_⟩ t8
  simp only [ASt.look, xX] at hl
  cases h1 : xG t eb with
  | some y => rw [h1] at hl; cases hl; exact (t6 t _ h1).1
  | none =>
   rw [h1] at hl
   cases h2 : xG t (slA es) with
   | some y =>
    rw [h2] at hl
    cases hl
    obtain ⟨e, he, h3⟩ := zHq h2
    obtain ⟨o, ho, _⟩ := hops e he
    have := hm.new e he (hal _ (yJf.1 ho).1)
    rw [h3] at this
    exact this
   | none =>
    rw [h2] at hl
    refine hm.old t (c, x) (fun i o ho hdt => ?_) hl
    exfalso
    have hil := (yJf.1 ho).1
    rcases D4.cover i hil with h3 | h3
    ·obtain ⟨e, he, rfl⟩ := hai i h3
     obtain ⟨o', ho', hd'⟩ := hops e he
     rw [ho] at ho'; cases ho'
     rw [hdt] at hd'
     cases hd'
     exact zLe he h2
    ·exact t7 i o t h3 (hal i hil) ho hdt h1
 intro fuel
 induction fuel with
 | zero =>
  intro listed G a w hcnt hm
  have hr : Region.ready .any full.toArray listed = [] := by
   rw [List.eq_nil_iff_forall_not_mem]
   intro i hi
   obtain ⟨h1, o, h2, _⟩ := mem_ready.1 hi
   have hil : i < full.length := by simpa using (yIm.1 h2).1
   have h3 : 0 < (List.range full.length).countP (fun k => !listed.getD k true) := by
    rw [List.countP_pos_iff]
    exact ⟨i, yL1.2 hil, by simpa using h1⟩
   omega
  exact ⟨hr, done listed G a w hm hr⟩
 | succ fuel ih =>
  intro listed G a w hcnt hm
  refine ⟨done listed G a w hm, fun i hi => ?_⟩
  obtain ⟨h1, o, h2, h3⟩ := mem_ready.1 hi
  have ho : full[i]? = some o := by simpa using h2
  have hil : i < full.length := (yJf.1 ho).1
  have hil' : i < listed.size := by rw [hm.lsz]; exact hil
  have hun : listed.getD i false = false := by rw [kR hm.lsz hil]; exact h1
  have hcnt' : (List.range full.length).countP (fun k => !(listed.setIfInBounds i true).getD k true) ≤ fuel := by
   have := zKp (p := fun k => !listed.getD k true) (q := fun k => !(listed.setIfInBounds i true).getD k true) (k := i) (l := List.range full.length)
    (fun k _ hk => by
     by_cases hik : i = k
     ·subst hik; rw [xR hil'] at hk; simp at hk
     ·rwa [wJ hik] at hk) (yL1.2 hil) (by simp [h1]) (by show (!_) = false; rw [xR hil']; rfl)
   omega
  have clo' : ∀ (j : Nat) (o' : Oper), full[j]? = some o' → (listed.setIfInBounds i true).getD j true = true → ∀ e ∈ o'.after, Region.binds .any e = true → (listed.setIfInBounds i true).getD e.on false = true := by
   intro j o' ho' hl e he heb
   have hup : listed.getD e.on false = true → (listed.setIfInBounds i true).getD e.on false = true := fun h => by
    by_cases hie : i = e.on
    ·rw [← hie, xR hil']
    ·rw [wJ hie]; exact h
   by_cases hij : i = j
   ·subst hij
    rw [ho] at ho'
    cases ho'
    exact hup (h3 e he heb)
   ·rw [wJ hij] at hl
    exact hup (hm.clo j o' ho' hl e he heb)
  obtain ⟨rem, eb, bx, rw', t1, t2, t3, t4, t5, t6, t7, t8⟩ := hm.tree
  have waitL : ∀ j, vQ o j = true → listed.getD j false = true := fun j h => by
   obtain ⟨e, he, h4, h5⟩ := vF h
   rw [← h4]; exact h3 e he h5
  have waitU : ∀ (j : Nat) (o' : Oper), full[j]? = some o' → vQ o' i = true → listed.getD j false = false := fun j o' ho' h => by
   cases hc : listed.getD j false with
   | false => rfl
   | true =>
    exfalso
    obtain ⟨e, he, h4, h5⟩ := vF h
    have hjl : j < full.length := (yJf.1 ho').1
    have h6 := hm.clo j o' ho' (by rw [← kR hm.lsz hjl]; exact hc) e he h5
    rw [h4, hun] at h6
    cases h6
  have dlt : ∀ d, o.dst = some d → d < a.tmps.size := fun d hd => by
   have := hm.fits
   simp only [zIb, yLf] at this
   have := this o (yJu ho)
   rw [hd] at this
   simpa using this
  unfold wpOpIn
  simp only [List.getElem?_toArray, ho]
  by_cases hib : i ∈ ib
  ·have hir : i ∈ rem := (t1 i).2 ⟨hib, hun⟩
   have hca : yBs full rem i = true := by
    simp only [yBs, yLf, yJn]
    intro j hj
    cases hw : xF full i j with
    | false => rfl
    | true =>
     simp only [xF, ho] at hw
     have h4 := waitL j hw
     rw [((t1 j).1 hj).2] at h4
     cases h4
   have hlr : rem.length = (rem.erase i).length + 1 := by
    have h4 := List.length_erase_of_mem hir
    have h5 := List.length_pos_of_mem hir
    omega
   rw [hlr] at t8
   obtain ⟨t64, t8⟩ := t8 i hir hca o ho
   obtain ⟨D, hD⟩ := hm.env
   have hlenB := t5.lenB
   have hlenR := t5.lenR
   have hbl : G.bx.length < 64 := by have h64 : bx.length < 64 := t64; omega
   have t8 := t8 (G.bx.length + 64 * G.rw.length)
   let C' : Ctx P := { round := C.round, l := C.l, D := D, W := C.W, I0 := C.I0, G0 := G, w0 := w, base := fun b o h => hm.le.imm b o (C.base b o h), stable := C.stable, y := C.y, tabs := C.tabs }
   have hs : Sat C' G { a with defers := [] } w ⟨st.nt, G.bx.length + 64 * G.rw.length, kQ (o.looksAt full.toArray) (eb ++ (slA es ++ st.sl)), bx, rw', st.ys⟩ := by
    refine ⟨hm.size, ⟨?_, ?_⟩, zY.refl _ _, Gh.Le.refl _ _, fun b o h => .inl h, fun b h => .inl h, fun x hx g hg => .inl ⟨x, hx, hg⟩, ⟨D, ⟨hD.l, hD.cons, fun k h => .inl h, hD.lt, hD.bx, hD.rw, hD.imm, ⟨[], rfl, List.nodup_nil, fun m h => by cases h⟩, hD.record⟩⟩, t5, fun t c x hl => ?_⟩
    ·show G.bx.length = (G.bx.length + 64 * G.rw.length) % 64
     omega
    ·show G.rw.length = (G.bx.length + 64 * G.rw.length) / 64
     omega
    ·simp only [ASt.look] at hl
     rw [zBa] at hl
     cases hc : (o.looksAt full.toArray).contains t with
     | false => rw [hc] at hl; cases hl
     | true =>
      rw [hc] at hl
      simp only [yIs, xX] at hl
      have hlk : t ∈ o.looksAt full.toArray := by simpa using hc
      have hB := D4.looksB i o t ho hib hlk
      cases g1 : xG t eb with
      | some y => rw [g1] at hl; cases hl; exact (t6 t _ g1).1
      | none =>
       rw [g1] at hl
       cases g2 : xG t (slA es) with
       | some y =>
        rw [g2] at hl
        cases hl
        obtain ⟨e, he, g3⟩ := zHq g2
        obtain ⟨o', ho', hd'⟩ := hops e he
        rw [g3] at hd'
        have := hm.new e he (waitL _ (hB _ _ ho' hd'))
        rw [g3] at this
        exact this
       | none =>
        rw [g2] at hl
        refine hm.old t (c, x) (fun j o' ho' hdt => ?_) hl
        exfalso
        have hjl := (yJf.1 ho').1
        have hlj := waitL j (hB j o' ho' hdt)
        rcases D4.cover j hjl with g3 | g3
        ·obtain ⟨e, he, rfl⟩ := hai j g3
         obtain ⟨o2, ho2, hd2⟩ := hops e he
         rw [ho'] at ho2; cases ho2
         rw [hdt] at hd2
         cases hd2
         exact zLe he g2
        ·exact t7 j o' t g3 hlj ho' hdt g1
   have h4 := t8 C' G _ w (fun e a' w' => e = .normal ∧ ∃ G' st', Sat C' G' a' w' st' ∧ ∃ ent bx' rw'', st' = ⟨st.nt, G.bx.length + 64 * G.rw.length, dl o.dst ent ++ kQ (o.looksAt full.toArray) (eb ++ (slA es ++ st.sl)), bx', rw'', st.ys⟩ ∧ zG1 all st.bx bx' ∧ (hrm o = true → rw'' = rw' ∧ ∃ ext, bx' = bx ++ ext) ∧
     runT P full all st.bx (rem.erase i).length (rem.erase i) k ⟨st.nt, st.nb, dl o.dst ent ++ (eb ++ (slA es ++ st.sl)), bx', rw'', st.ys⟩) hs (fun G' a' w' st' hs' hk => ⟨rfl, G', st', hs', hk⟩)
   -- what is so behind it
   have next : ∀ (v : Value) (pre : List Deferred) (w' : World) (G' : Gh) (st' : ASt), Sat C' G' (({ a with defers := pre ++ [] } : Act).put o.dst v) w' st' → (∃ ent bx' rw'', st' = ⟨st.nt, G.bx.length + 64 * G.rw.length, dl o.dst ent ++ kQ (o.looksAt full.toArray) (eb ++ (slA es ++ st.sl)), bx', rw'', st.ys⟩ ∧ zG1 all st.bx bx' ∧ (hrm o = true → rw'' = rw' ∧ ∃ ext, bx' = bx ++ ext) ∧
     runT P full all st.bx (rem.erase i).length (rem.erase i) k ⟨st.nt, st.nb, dl o.dst ent ++ (eb ++ (slA es ++ st.sl)), bx', rw'', st.ys⟩) →
     wpAnyIn (fen C.round) 0 P .any full.toArray Q fuel (listed.setIfInBounds i true) (({ a with defers := pre ++ a.defers } : Act).put o.dst v) w' := by
    rintro v pre w' G' st' hs' ⟨ent, bx', rw'', rfl, k1, k2, k3⟩
    have le : G.Le w G' w' := hs'.le
    have hfr : zY C'.may w w' := hs'.frame
    have putOther : ∀ t, o.dst ≠ some t → (({ a with defers := pre ++ a.defers } : Act).put o.dst v).tmps[t]? = a.tmps[t]? := fun t ht => by
     cases hdo : o.dst with
     | none => rfl
     | some d => rw [Act.put_get, if_neg (fun e => ht (by rw [hdo, e]))]
    have hslot : ∀ d, o.dst = some d → zG0 G' w' (({ a with defers := pre ++ a.defers } : Act).put o.dst v) d ent := fun d hdo => by
     obtain ⟨u, u1, u2⟩ := hs'.slot d ent.1 ent.2 (by simp only [ASt.look, xX, hdo, dl, zL]; rfl)
     refine ⟨u, ?_, u2⟩
     rw [← u1, hdo]
     rfl
    have hsizep : (({ a with defers := pre ++ a.defers } : Act).put o.dst v).tmps.size = a.tmps.size := by cases o.dst <;> simp [Act.put]
    have hle' : ∀ j, j ≠ i → (listed.setIfInBounds i true).getD j false = listed.getD j false := fun j h => wJ (fun e => h e.symm)
    refine ih _ G' _ w' hcnt' ⟨⟨hfr.os.trans hm.frame'.os, hfr.tape.trans hm.frame'.tape, hfr.output.trans hm.frame'.output, yIo hm.frame'.size hfr.size, fun q hq hn => ?_⟩, hm.le.trans le, fun b o' ib' => ?_, fun b hb => ?_, fun x hx g hg => ?_, by rw [hsizep]; exact hm.fits, by rw [hsizep]; exact hm.size, hm.callers, by simpa using hm.lsz, clo', fun t e ht hl => ?_, fun e he hl => ?_, ?_,
     ⟨rem.erase i, dl o.dst ent ++ eb, bx', rw'', fun j => ?_, t2.erase i, k1, fun hh => ?_, hs'.mem, fun t e hl => ?_, fun j o' t hj hlj ho' hdt => ?_, by rw [yKx]; exact k3⟩⟩
    ·refine (hfr.block q (yIp hq hm.frame'.size) (fun hmay => ?_)).trans (hm.frame'.block q hq hn)
     rcases hmay with h | h | ⟨x, hx, h⟩
     ·rcases hD.sub q h with h | h
      ·exact hn (.inl h)
      ·omega
     ·rcases hm.ownB q h with h | h
      ·exact hn (.inr (.inl h))
      ·omega
     ·rcases hm.ownR x hx q h with ⟨y, h5, h6⟩ | h
      ·exact hn (.inr (.inr ⟨y, h5, h6⟩))
      ·omega
    ·rcases hs'.fresh b o' ib' with h | h | ⟨x, h5, h6⟩
     ·exact hm.fresh b o' h
     ·exact .inr (.inl (yIo hm.frame'.size h))
     ·rcases hm.ownR x h5 b h6 with ⟨y, h7, h8⟩ | h
      ·exact .inr (.inr ⟨y, h7, h8⟩)
      ·exact .inr (.inl h)
    ·rcases hs'.ownB b hb with h | h
     ·exact hm.ownB b h
     ·exact .inr (yIo hm.frame'.size h)
    ·rcases hs'.ownR x hx g hg with ⟨y, h5, h6⟩ | h
     ·exact hm.ownR y h5 g h6
     ·exact .inr (yIo hm.frame'.size h)
    ·have hne : o.dst ≠ some t := fun h => by
      have := ht i o ho h
      rw [xR hil'] at this; cases this
     refine (hm.old t e (fun j o' ho' hdt => ?_) hl).mono le (putOther t hne)
     have h5 := ht j o' ho' hdt
     by_cases hij : j = i
     ·subst hij; rw [ho] at ho'; cases ho'; exact absurd hdt hne
     ·rwa [hle' j hij] at h5
    ·have hei : e.1 ≠ i := fun h => (D4.apart i hib).2 _ (hia e he) h
     rw [hle' _ hei] at hl
     obtain ⟨o', ho', hd'⟩ := hops e he
     exact (hm.new e he hl).mono le (putOther _ fun h => hei (D4.dst _ _ _ _ _ ho' ho hd' h))
    ·obtain ⟨D', hD'⟩ := hs'.env
     obtain ⟨l, g1, g2, g3⟩ := hD.marks
     obtain ⟨l', g1', g2', g3'⟩ := hD'.marks
     have g1' : pre = l'.map zIk := by
      have : (({ a with defers := pre ++ [] } : Act).put o.dst v).defers = pre := by cases o.dst <;> simp [Act.put]
      rw [this] at g1'; exact g1'
     refine ⟨D', ⟨hD'.l, hD'.cons, fun q hq => ?_, hD'.lt, hD'.bx, hD'.rw, hD'.imm, ⟨l' ++ l, ?_, ?_, fun m hml => ?_⟩, hD'.record⟩⟩
     ·rcases hD'.sub q hq with h | h
      ·exact hD.sub q h
      ·exact .inr (yIo hm.frame'.size h)
     ·have : (({ a with defers := pre ++ a.defers } : Act).put o.dst v).defers = pre ++ a.defers := by cases o.dst <;> rfl
      rw [this, yLh, g1', g1]
     ·rw [List.nodup_append]
      refine ⟨g2', g2, fun x hx y hy e => ?_⟩
      subst e
      have h5 := (g3' x hx).2.2
      have h6 := (yIm.1 (g3 x hy).1).1
      have h5 : w.heap.size ≤ x := h5
      omega
     ·rcases yK6.1 hml with h | h
      ·obtain ⟨h5, h6, h7⟩ := g3' m h
       exact ⟨h5, h6, yIo hm.frame'.size h7⟩
      ·obtain ⟨h5, h6, h7⟩ := g3 m h
       have hml : m < w.heap.size := (yIm.1 h5).1
       refine ⟨?_, fun hd' => ?_, h7⟩
       ·rw [hfr.block m hml fun hmay => ?_]; exact h5
        rcases hmay with h | h | ⟨x, hx, h⟩
        ·exact h6 h
        ·exact t5.not_box h5 rfl h
        ·exact t5.not_row h5 rfl x hx h
       ·rcases hD'.sub m hd' with h | h
        ·exact h6 h
        ·have h : w.heap.size ≤ m := h
         omega
    ·rw [t2.mem_erase_iff, t1 j]
     by_cases hji : j = i
     ·subst hji
      rw [xR hil']
      simp
     ·rw [hle' j hji]
      simp [hji]
    ·have h5 := t4 fun b hb hl => hh b hb (if hbi : b = i then by subst hbi; rw [hun] at hl; cases hl else by rw [hle' b hbi]; exact hl)
     have h6 := hh i hib (xR hil')
     simp only [zT7, ho] at h6
     obtain ⟨h7, ext, h8⟩ := k2 h6
     obtain ⟨h9, ext', h10⟩ := h5
     exact ⟨h7.trans h9, ext' ++ ext, by rw [h8, h10, yKx]⟩
    ·rw [xX] at hl
     cases g1 : xG t (dl o.dst ent) with
     | some y =>
      rw [g1] at hl
      cases hl
      obtain ⟨g2, g3⟩ := zZj g1
      subst g3
      exact ⟨hslot t g2, i, o, hib, ho, g2⟩
     | none =>
      rw [g1] at hl
      obtain ⟨g2, j, o', g3, g4, g5⟩ := t6 t e hl
      by_cases hdt : o.dst = some t
      ·rw [hdt] at g1; simp [dl, zL] at g1
      ·exact ⟨g2.mono le (putOther t hdt), j, o', g3, g4, g5⟩
    ·rw [xX]
     by_cases hji : j = i
     ·subst hji
      rw [ho] at ho'
      cases ho'
      rw [hdt]
      simp [dl, zL]
     ·rw [hle' j hji] at hlj
      have := t7 j o' t hj hlj ho' hdt
      cases xG t (dl o.dst ent) with
      | some y => simp
      | none => exact this
   unfold wpListIn at h4
   have hw : Region.wanted o (yielded full.toArray ({ a with defers := [] } : Act).tmps) = Region.wanted o (yielded full.toArray a.tmps) := rfl
   rw [hw] at h4
   split
   ·rename_i hwt
    rw [if_pos hwt] at h4
    refine Oper.wpIn_mono ?_ (zQw (hplain o (yJu ho)) [] (fun e a' w' h => h.1) h4)
    rintro a' w' ⟨v, pre, rfl, h5⟩
    unfold wpListIn at h5
    obtain ⟨_, G', st', hs', hk⟩ := h5
    exact next v pre w' G' st' hs' hk
   ·rename_i hwt
    rw [if_neg hwt] at h4
    refine ⟨h4.1, ?_⟩
    have h5 := h4.2
    unfold wpListIn at h5
    obtain ⟨_, G', st', hs', hk⟩ := h5
    exact next undef [] w G' st' hs' hk
  ·obtain ⟨e, he, rfl⟩ := hai i ((D4.cover i hil).resolve_right hib)
   obtain ⟨p, hp⟩ := yL2 he
   obtain ⟨o', ho', hdo, hstep⟩ := hsp p e hp
   rw [ho] at ho'
   cases ho'
   have hspec : zA4 P full.toArray o ⟨st.nt, st.nb, slA (es.take p) ++ st.sl, bx, rw', st.ys⟩ e.2.2.2.1 e.2.2.2.2 := by
    cases hk : e.2.1 with
    | any =>
     rw [hk] at hstep
     obtain ⟨ext, h4⟩ := t3
     have := hstep ext rw'
     rw [← h4] at this
     exact this
    | first =>
     rw [hk] at hstep
     have hf := D4.first _ (hia e he) (by rw [hk]; rfl)
     have hh := hf (fun b => listed.getD b false = true) (fun b c hw hb => by
      unfold xF at hw
      split at hw
      ·rename_i ob hob
       obtain ⟨e', he', h4, h5⟩ := vF hw
       rw [← h4]
       exact hm.clo b ob hob (by rw [← kR hm.lsz (yJf.1 hob).1]; exact hb) e' he' h5
      ·cases hw) (by rw [hun]; simp)
     obtain ⟨rfl, ext, h4⟩ := t4 hh
     have := hstep ext
     rw [← h4] at this
     exact this
   have hlk : ∀ t ∈ o.looksAt full.toArray, zOx G w a ⟨st.nt, st.nb, slA (es.take p) ++ st.sl, bx, rw', st.ys⟩ t := by
    intro t ht c x hl
    have hA := D4.looksA e.1 o t ho hib ht
    simp only [ASt.look, xX] at hl
    cases g1 : xG t (slA (es.take p)) with
    | some y =>
     rw [g1] at hl
     cases hl
     obtain ⟨e', he', g3⟩ := zHq g1
     obtain ⟨q, hq⟩ := yL2 he'
     rw [yIk] at hq
     split at hq
     ·rename_i hqp
      obtain ⟨o2, ho2, hd2, _⟩ := hsp q e' hq
      rw [g3] at hd2
      rcases hA _ _ ho2 hd2 with ⟨_, _, h6⟩ | ⟨h6, _⟩
      ·have := hm.new e' (yKd he') (waitL _ h6)
       rw [g3] at this
       exact this
      ·have := hrise q p e' e hq hp hqp
       omega
     ·cases hq
    | none =>
     rw [g1] at hl
     refine hm.old t (c, x) (fun j o2 ho2 hdt => ?_) hl
     rcases hA j o2 ho2 hdt with ⟨h5, h6, h7⟩ | ⟨_, h7⟩
     ·exfalso
      obtain ⟨e', he', rfl⟩ := hai j h5
      obtain ⟨o3, ho3, hd3⟩ := hops e' he'
      rw [ho2] at ho3
      cases ho3
      rw [hdt] at hd3
      cases hd3
      obtain ⟨q, hq⟩ := yL2 he'
      have hqp : q < p := by
       rcases Nat.lt_trichotomy q p with h | h | h
       ·exact h
       ·subst h; rw [hp] at hq; cases hq; omega
       ·have := hrise p q e e' hp hq h; omega
      exact zLe (es := es.take p) (e := e') (yJu (i := q) (by rw [yIk, if_pos hqp]; exact hq)) g1
     ·exact waitU j o2 ho2 h7
   have hd := dlt _ hdo
   have hle' : ∀ j, j ≠ e.1 → (listed.setIfInBounds e.1 true).getD j false = listed.getD j false := fun j h => wJ (fun e => h e.symm)
   have next : ∀ v G' w', Ext bx rw' G w G' w' → ((e.2.2.2.1 = true → e.2.2.2.2.rel G' w' v) ∧ (e.2.2.2.1 = false → v = undef)) → wpAnyIn (fen C.round) 0 P .any full.toArray Q fuel (listed.setIfInBounds e.1 true) (a.put (some e.2.2.1) v) w' := by
    intro v G' w' E hv
    have le := E.le
    have putOther : ∀ t, t ≠ e.2.2.1 → (a.put (some e.2.2.1) v).tmps[t]? = a.tmps[t]? := fun t h => by rw [Act.put_get, if_neg (fun e => h e.symm)]
    have putSelf : (a.put (some e.2.2.1) v).tmps[e.2.2.1]? = some v := by rw [Act.put_get]; simp [yIr hd]
    have hsizep : (a.put (some e.2.2.1) v).tmps.size = a.tmps.size := by simp [Act.put]
    have hob : zY (fun _ => False) w w' := .of_below E.below
    refine ih _ G' _ w' hcnt' ⟨⟨hob.os.trans hm.frame'.os, hob.tape.trans hm.frame'.tape, hob.output.trans hm.frame'.output, yIo hm.frame'.size hob.size, fun q hq hn => (hob.block q (yIp hq hm.frame'.size) id).trans (hm.frame'.block q hq hn)⟩, hm.le.trans le, fun b o' ib' => ?_, by rw [E.gbx]; exact hm.ownB, by rw [E.grw]; exact hm.ownR, by rw [hsizep]; exact hm.fits, by rw [hsizep]; exact hm.size, hm.callers, by simpa using hm.lsz, clo', fun t e' ht hl => ?_, fun e' he' hl => ?_, ?_,
     ⟨rem, eb, bx, rw', fun j => ?_, t2, t3, fun hh => t4 fun b hb hl => hh b hb (by rw [hle' b fun h => hib (h ▸ hb)]; exact hl), E.mem, fun t e' hl => ?_, fun j o' t hj hlj ho' hdt => ?_, t8⟩⟩
    ·rcases E.fresh b o' ib' with h | h
     ·exact hm.fresh b o' h
     ·exact .inr (.inl (yIo hm.frame'.size h))
    ·have hne : t ≠ e.2.2.1 := fun h => by
      subst h
      have := ht e.1 o ho hdo
      rw [xR hil'] at this; cases this
     refine (hm.old t e' (fun j o' ho' hdt => ?_) hl).mono le (putOther t hne)
     have h5 := ht j o' ho' hdt
     by_cases hij : j = e.1
     ·subst hij; rw [ho] at ho'; cases ho'; rw [hdo] at hdt; cases hdt; exact absurd rfl hne
     ·rwa [hle' j hij] at h5
    ·obtain ⟨q, hq⟩ := yL2 he'
     by_cases hei : e'.1 = e.1
     ·have := huniq q p e' e hq hp hei
      subst this
      rw [hp] at hq
      cases hq
      exact ⟨v, putSelf, hv⟩
     ·rw [hle' _ hei] at hl
      obtain ⟨o', ho', hd'⟩ := hops e' he'
      exact (hm.new e' he' hl).mono le (putOther _ fun h => hei (D4.dst _ _ _ _ _ ho' ho hd' (h ▸ hdo)))
    ·obtain ⟨D, hD⟩ := hm.env
     exact ⟨D, hD.step t5 le (fun b o' h => (E.fresh b o' h).elim .inl fun h => .inr (.inl h)) (fun b hb => .inl (by rw [E.gbx] at hb; exact hb)) (fun x hx g hg => .inl ⟨x, by rw [E.grw] at hx; exact hx, hg⟩) (hob.mono fun _ _ h => h.elim)⟩
    ·rw [t1 j]
     by_cases hj : j = e.1
     ·subst hj; simp [hib]
     ·rw [hle' j hj]
    ·obtain ⟨g2, j, o', g3, g4, g5⟩ := t6 t e' hl
     refine ⟨g2.mono le (putOther t fun h => ?_), j, o', g3, g4, g5⟩
     have := D4.dst _ _ _ _ _ g4 ho g5 (h ▸ hdo)
     exact hib (this ▸ g3)
    ·rw [hle' j fun h => hib (h ▸ hj)] at hlj
     exact t7 j o' t hj hlj ho' hdt
   obtain ⟨s1, s2⟩ := hspec G a w (zUn (X := fun _ => True) (let ⟨D, h⟩ := hm.env; ⟨D, h, trivial⟩)) t5 hlk
   rw [s1]
   cases hg : e.2.2.2.1
   ·simp only [yK3, if_false]
    rw [hdo]
    exact ⟨fun _ _ => trivial, next undef G w (Ext.refl t5) ⟨fun h => (by rw [hg] at h; cases h), fun _ => rfl⟩⟩
   ·simp only [if_true]
    refine s2 hg _ _ _ fun v G' w' E hv => ?_
    rw [hdo]
    exact next v G' w' E ⟨fun _ => hv, fun h => by rw [hg] at h; cases h⟩

def inN (t : Nat) : List Nat → Bool
 | [] => false
 | a :: L => if t = a then true else inN t L
theorem zXa (t : Nat) : ∀ L : List Nat, L.contains t = inN t L
 | [] => rfl
 | a :: L => by
  rw [List.contains_cons, zXa t L, inN]
  by_cases h : t = a
  ·simp [h]
  ·simp [h]
@[go_sem] theorem zX7 (t : Nat) (L : List Nat) (sl : List (Nat × (Bool × AV))) : xG t (kQ L sl) = if inN t L = true then xG t sl else none := by
 rw [zBa, zXa]
 cases inN t L <;> rfl
@[go_sem] theorem mskB_f (bx ext : List (List AV)) : zLw false bx ext = bx ++ ext := rfl
@[go_sem] theorem mskB_t (bx ext : List (List AV)) : zLw true bx ext = ext := rfl
theorem zZ2 (t : Nat) : inN t [] = false := rfl
theorem zVy (t a : Nat) (L : List Nat) : inN t (a :: L) = if t = a then true else inN t L := rfl
attribute [go_sem] zZ2 zVy
def zD0 : List Operand → List Nat
 | [] => []
 | x :: r => match x with
  | .tmp t => t :: zD0 r
  | _ => zD0 r
def yCj (full : Array Oper) : Option (Nat × Bool) → List Nat
 | none => []
 | some (j, _) => match (full[j]?).bind (·.dst) with
  | some d => [d]
  | none => []
theorem zQ0 (full : Array Oper) (o : Oper) : o.looksAt full = zD0 o.op.operands.toList ++ yCj full o.guard := by
 unfold Oper.looksAt
 congr 1
 ·generalize o.op.operands.toList = l
  induction l with
  | nil => rfl
  | cons x r ih => cases x <;> simp [zD0, ih]
 ·cases o.guard with
  | none => rfl
  | some g =>
   obtain ⟨j, b⟩ := g
   simp only [yCj]
   cases (full[j]?).bind (·.dst) <;> rfl
theorem zR7 : zD0 [] = [] := rfl
theorem zR6 (t : Nat) (r : List Operand) : zD0 (.tmp t :: r) = t :: zD0 r := rfl
theorem zL8 (v : Value) (r : List Operand) : zD0 (.const v :: r) = zD0 r := rfl
theorem zP7 (f : FuncId) (r : List Operand) : zD0 (.func f :: r) = zD0 r := rfl
theorem zIr (g : Nat) (r : List Operand) : zD0 (.global g :: r) = zD0 r := rfl
theorem zTb (full : Array Oper) : yCj full none = [] := rfl
theorem zTa (full : Array Oper) (j : Nat) (b : Bool) : yCj full (some (j, b)) = (match (full[j]?).bind (·.dst) with | some d => [d] | none => []) := rfl
theorem yAk {α : Type} (a b : Array α) : (a ++ b).toList = a.toList ++ b.toList := by simp
theorem yFi {α : Type} (l : List α) : l.toArray.toList = l := by simp
theorem yAj {α : Type} : (#[] : Array α).toList = [] := rfl
attribute [go_sem] yAk yFi yAj List.nil_append List.cons_append zQ0 zR7 zR6 zL8 zP7 zIr zTb zTa Op.operands Call.operands
theorem w7 {α : Type} {a b : α} (h : a = b := by first | ((conv => lhs; simp only [go_sem, AV.oneL, AV.one, Value.oneCell', yO, ↓reduceIte, Nat.reduceEqDiff, Nat.reduceAdd, Nat.reduceMul]) <;> rfl) | fail) : a = b := h
def zVm (full : List Oper) (ib : List Nat) (o : Oper) : Bool := (o.looksAt full.toArray).all fun t => ib.all fun j => match full[j]? with
 | some o' => o'.dst != some t
 | none => true
def zYy (o : Oper) : Bool := match o.op with
 | .store _ _ _ => true
 | .call c => match c.callee with
  | .builtin .copy => true
  | .builtin .append => true
  | _ => false
 | _ => false
def zW3 (l : List Oper) : Bool := l.any zYy
def vM (full : List Oper) : List Nat → List Oper
 | [] => []
 | i :: r => match full[i]? with
  | some o => o :: vM full r
  | none => vM full r
theorem yN (full : List Oper) : ∀ ib, ib.filterMap (full[·]?) = vM full ib
 | [] => rfl
 | i :: r => by
  rw [List.filterMap_cons, vM, yN full r]
  cases full[i]? <;> rfl
def zBn (P : Program) (full : List Oper) (all : Bool) (m : Nat) (ia : List (Nat × AK)) (es : List AEn) (ib : List Nat) (l : List Oper) (k : ASt → Prop) (sl0 : List (Nat × (Bool × AV))) (st : ASt) : Prop :=
 full.drop m = l → st.sl = slA es ++ sl0 → ia = zQr es → ∃ (es' : List AEn) (ib' : List Nat),
  (∀ (p : Nat) (e : AEn), es'[p]? = some e → ∃ o, full[e.1]? = some o ∧ o.dst = some e.2.2.1 ∧ yA3 P full.toArray all st o (slA (es'.take p) ++ st.sl) e.2.2.2.1 e.2.2.2.2 e.2.1) ∧
  yC8 full (zQr (es ++ es')) (ib ++ ib') ∧ runT P full all st.bx (ib ++ ib').length (ib ++ ib') k { st with sl := slA es' ++ st.sl }
def KB (P : Program) (full : Array Oper) (all : Bool) (bx0 : List (List AV)) (o : Oper) (r : List Oper) (k : ASt → Prop) (nt nb0 nb : Nat) (L : List Nat) (sl : List (Nat × (Bool × AV))) (bx : List (List AV)) (rw : List z9) (ys : (Nat × List (List AV)) × List (List AV) × Bool) (st' : ASt) : Prop :=
 ∃ ent bx' rw', st' = ⟨nt, nb, dl o.dst ent ++ kQ L sl, bx', rw', ys⟩ ∧ zG1 all bx0 bx' ∧ (hrm o = true → rw' = rw ∧ ∃ ext, bx' = bx ++ ext) ∧ zUr P full all bx0 r k ⟨nt, nb0, dl o.dst ent ++ sl, bx', rw', ys⟩
section
variable {P : Program} {Q : Exit → ASt → Prop} {T : TT} {full : List Oper} {all : Bool} {m : Nat} {ia : List (Nat × AK)} {es : List AEn} {ib : List Nat} {r : List Oper} {k : ASt → Prop} {nt nb : Nat} {sl sl0 : List (Nat × (Bool × AV))} {bx bx0 : List (List AV)} {rw : List z9} {ys : (Nat × List (List AV)) × List (List AV) × Bool} {o : Oper} {d : Nat}
theorem zPd (a b : List AEn) : slA (a ++ b) = slA b ++ slA a := by simp [slA]
theorem zM7 (a b : List AEn) : zQr (a ++ b) = zQr a ++ zQr b := by simp [zQr]
theorem zFo {l : List Oper} {m : Nat} {o : Oper} {r : List Oper} (h : l.drop m = o :: r) : l.drop (m + 1) = r ∧ l[m]? = some o := by
 have h1 : l[m]? = some o := by
  have := congrArg (·[0]?) h
  simpa using this
 refine ⟨?_, h1⟩
 rw [← List.drop_drop, h]; rfl
theorem zG (h : zBn P full all (m + 1) ia es (ib ++ [m]) r k sl0 ⟨nt, nb, sl, bx, rw, ys⟩) : zBn P full all m ia es ib (o :: r) k sl0 ⟨nt, nb, sl, bx, rw, ys⟩ := by
 intro h1 h2 h3
 obtain ⟨es', ib', h4, h5, h6⟩ := h (zFo h1).1 h2 h3
 exact ⟨es', m :: ib', h4, by simpa using h5, by simpa using h6⟩
theorem zHw (_ : zVm full ib o = false) (h : zBn P full all (m + 1) ia es (ib ++ [m]) r k sl0 ⟨nt, nb, sl, bx, rw, ys⟩) : zBn P full all m ia es ib (o :: r) k sl0 ⟨nt, nb, sl, bx, rw, ys⟩ := zG h
theorem kN {kd : AK} {g : Bool} {x : AV} (hd : o.dst = some d) (hok : yA3 P full.toArray all ⟨nt, nb, sl, bx, rw, ys⟩ o sl g x kd)
  (h : zBn P full all (m + 1) (ia ++ [(m, kd)]) (es ++ [(m, kd, (d, (g, x)))]) ib r k sl0 ⟨nt, nb, (d, (g, x)) :: sl, bx, rw, ys⟩) : zBn P full all m ia es ib (o :: r) k sl0 ⟨nt, nb, sl, bx, rw, ys⟩ := by
 intro h1 h2 h3
 have h2 : sl = slA es ++ sl0 := h2
 obtain ⟨es', ib', h4, h5, h6⟩ := h (zFo h1).1 (by rw [zPd, h2]; rfl) (by rw [zM7, h3]; rfl)
 refine ⟨(m, kd, (d, (g, x))) :: es', ib', fun p e hp => ?_, by simpa [yKx] using h5, ?_⟩
 ·cases p with
  | zero =>
   simp only [yIf, yIg] at hp
   subst hp
   exact ⟨o, (zFo h1).2, hd, hok⟩
  | succ p =>
   obtain ⟨o', g1, g2, g3⟩ := h4 p e (by simpa using hp)
   refine ⟨o', g1, g2, ?_⟩
   have : slA (((m, kd, (d, (g, x))) :: es').take (p + 1)) ++ sl = slA (es'.take p) ++ ((d, (g, x)) :: sl) := by
    simp [slA]
   simp only at g3 ⊢
   rw [this]
   exact g3
 ·have : slA ((m, kd, (d, (g, x))) :: es') ++ sl = slA es' ++ ((d, (g, x)) :: sl) := by simp [slA]
  simp only at h6 ⊢
  rw [this]
  exact h6
theorem zAb (hT : TOk P T) (hd : o.dst = some d)
  (h : ∃ g, xP full.toArray ⟨nt, nb, sl, bx, rw, ys⟩ o = some g ∧ ∃ cs x p, (∀ ext rw', opA T ⟨nt, nb, sl, zLw all bx ext, rw', ys⟩ o.op = some (cs, x, p)) ∧ (g = true → (∀ c ∈ cs, c = true) ∧ p) ∧ zBn P full all (m + 1) (ia ++ [(m, .any)]) (es ++ [(m, .any, (d, (g, x)))]) ib r k sl0 ⟨nt, nb, (d, (g, x)) :: sl, bx, rw, ys⟩) : zBn P full all m ia es ib (o :: r) k sl0 ⟨nt, nb, sl, bx, rw, ys⟩ := by
 obtain ⟨g, hg, cs, x, p, h1, h2, h3⟩ := h
 exact kN (kd := .any) (g := g) (x := x) hd (fun ext rw' => zB6 hT (st := ⟨nt, nb, sl, zLw all bx ext, rw', ys⟩) hg (h1 ext rw') h2) h3
theorem zD6 (hT : TOk P T) (hd : o.dst = some d)
  (h : ∃ g, xP full.toArray ⟨nt, nb, sl, bx, rw, ys⟩ o = some g ∧ ∃ cs x p, (∀ ext, opA T ⟨nt, nb, sl, bx ++ ext, rw, ys⟩ o.op = some (cs, x, p)) ∧ (g = true → (∀ c ∈ cs, c = true) ∧ p) ∧ zBn P full all (m + 1) (ia ++ [(m, .first)]) (es ++ [(m, .first, (d, (g, x)))]) ib r k sl0 ⟨nt, nb, (d, (g, x)) :: sl, bx, rw, ys⟩) : zBn P full all m ia es ib (o :: r) k sl0 ⟨nt, nb, sl, bx, rw, ys⟩ := by
 obtain ⟨g, hg, cs, x, p, h1, h2, h3⟩ := h
 exact kN (kd := .first) (g := g) (x := x) hd (fun ext => zB6 hT (st := ⟨nt, nb, sl, bx ++ ext, rw, ys⟩) hg (h1 ext) h2) h3
theorem zRo (hT : TOk P T) (hd : o.dst = some d)
  (h : ∃ g, xP full.toArray ⟨nt, nb, sl, bx, rw, ys⟩ o = some g ∧ ∃ cs x p, (∀ ext rw', opB T ⟨nt, nb, sl, zLw all bx ext, rw', ys⟩ o.op = some (cs, x, p)) ∧ (g = true → (∀ c ∈ cs, c = true) ∧ p) ∧ zBn P full all (m + 1) (ia ++ [(m, .any)]) (es ++ [(m, .any, (d, (g, x)))]) ib r k sl0 ⟨nt, nb, (d, (g, x)) :: sl, bx, rw, ys⟩) : zBn P full all m ia es ib (o :: r) k sl0 ⟨nt, nb, sl, bx, rw, ys⟩ := by
 obtain ⟨g, hg, cs, x, p, h1, h2, h3⟩ := h
 exact kN (kd := .any) (g := g) (x := x) hd (fun ext rw' => zNt hT (st := ⟨nt, nb, sl, zLw all bx ext, rw', ys⟩) hg (h1 ext rw') h2) h3
theorem zRn (hT : TOk P T) (hd : o.dst = some d)
  (h : ∃ g, xP full.toArray ⟨nt, nb, sl, bx, rw, ys⟩ o = some g ∧ ∃ cs x p, (∀ ext rw', mkA T ⟨nt, nb, sl, zLw all bx ext, rw', ys⟩ o.op = some (cs, x, p)) ∧ (g = true → (∀ c ∈ cs, c = true) ∧ p) ∧ zBn P full all (m + 1) (ia ++ [(m, .any)]) (es ++ [(m, .any, (d, (g, x)))]) ib r k sl0 ⟨nt, nb, (d, (g, x)) :: sl, bx, rw, ys⟩) : zBn P full all m ia es ib (o :: r) k sl0 ⟨nt, nb, sl, bx, rw, ys⟩ := by
 obtain ⟨g, hg, cs, x, p, h1, h2, h3⟩ := h
 exact kN (kd := .any) (g := g) (x := x) hd (fun ext rw' => zJh hT (st := ⟨nt, nb, sl, zLw all bx ext, rw', ys⟩) hg (h1 ext rw') h2) h3
theorem zP (hd : o.dst = some d)
  (h : ∃ g, xP full.toArray ⟨nt, nb, sl, bx, rw, ys⟩ o = some g ∧ ∃ cs f args, (∀ ext rw', jQ ⟨nt, nb, sl, zLw all bx ext, rw', ys⟩ o.op = some (cs, f, args)) ∧ (g = true → (∀ c ∈ cs, c = true) ∧ AV.freeL args) ∧ ∃ x, (g = true → FnA P f args x) ∧ zBn P full all (m + 1) (ia ++ [(m, .any)]) (es ++ [(m, .any, (d, (g, x)))]) ib r k sl0 ⟨nt, nb, (d, (g, x)) :: sl, bx, rw, ys⟩) : zBn P full all m ia es ib (o :: r) k sl0 ⟨nt, nb, sl, bx, rw, ys⟩ := by
 obtain ⟨g, hg, cs, f, args, h1, h2, x, h3, h4⟩ := h
 exact kN (kd := .any) (g := g) (x := x) hd (fun ext rw' => zF4 (st := ⟨nt, nb, sl, zLw all bx ext, rw', ys⟩) hg (h1 ext rw') h2 h3) h4
theorem zHv (h : ∃ ia', ia = ia' ∧ ∃ ib', ib = ib' ∧ zU0 full ia' ib' = true ∧ zUr P full.toArray all bx (vM full ib') k ⟨nt, nb, sl, bx, rw, ys⟩) : zBn P full all m ia es ib [] k sl0 ⟨nt, nb, sl, bx, rw, ys⟩ := by
 obtain ⟨_, rfl, _, rfl, h1, h2⟩ := h
 rintro _ _ rfl
 obtain ⟨h3, h4⟩ := zKk h1
 rw [← yN] at h2
 exact ⟨[], [], fun p e h => by simp at h, by simpa using h3, by simpa [slA] using yM h4 h2⟩
theorem zC0 (h : ∃ ia', ia = ia' ∧ ∃ ib', ib = ib' ∧ zTz full ia' ib' = true ∧ runT P full all bx ib'.length ib' k ⟨nt, nb, sl, bx, rw, ys⟩) : zBn P full all m ia es ib [] k sl0 ⟨nt, nb, sl, bx, rw, ys⟩ := by
 obtain ⟨_, rfl, _, rfl, h1, h2⟩ := h
 rintro _ _ rfl
 exact ⟨[], [], fun p e h => by simp at h, by simpa using zKj h1, by simpa [slA] using h2⟩
theorem qV {rem cs : List Nat} (hm : rem.length = m + 1) (hc : rem.filter (yBs full rem) = cs) (h : ∀ i ∈ cs, ∀ o, full[i]? = some o → zHn P full.toArray all bx0 o (runT P full all bx0 m (rem.erase i) k) ⟨nt, nb, sl, bx, rw, ys⟩) : runT P full all bx0 rem.length rem k ⟨nt, nb, sl, bx, rw, ys⟩ := by
 rw [hm]
 exact fun i hi hca o ho => h i (by rw [← hc]; exact yLi.2 ⟨hi, hca⟩) o ho
theorem zBw {L : List Nat} {k' : ASt → Prop} (h64 : Nat.blt bx.length 64 = true) (hl : o.looksAt full.toArray = L) (h : ∀ nb', xM P full.toArray [o] (fun st' => ∃ ent bx' rw', st' = ⟨nt, nb', dl o.dst ent ++ kQ L sl, bx', rw', ys⟩ ∧ zG1 all bx0 bx' ∧ (hrm o = true → rw' = rw ∧ ∃ ext, bx' = bx ++ ext) ∧ k' ⟨nt, nb, dl o.dst ent ++ sl, bx', rw', ys⟩) ⟨nt, nb', kQ L sl, bx, rw, ys⟩) : zHn P full.toArray all bx0 o k' ⟨nt, nb, sl, bx, rw, ys⟩ := by
 subst hl
 exact ⟨Nat.le_of_ble_eq_true h64, h⟩
theorem zK (h : k ⟨nt, nb, sl, bx, rw, ys⟩) : zUr P full.toArray all bx0 [] k ⟨nt, nb, sl, bx, rw, ys⟩ := h
theorem zT (h64 : Nat.blt bx.length 64 = true) (h : ∃ L, o.looksAt full.toArray = L ∧ ∀ nb', xM P full.toArray [o] (KB P full.toArray all bx0 o r k nt nb nb' L sl bx rw ys) ⟨nt, nb', kQ L sl, bx, rw, ys⟩) : zUr P full.toArray all bx0 (o :: r) k ⟨nt, nb, sl, bx, rw, ys⟩ := by
 obtain ⟨_, rfl, h⟩ := h
 exact ⟨Nat.le_of_ble_eq_true h64, h⟩
theorem zAa {nb' : Nat} {L : List Nat} {ent : Bool × AV} {bx' : List (List AV)} {rw' : List z9} (hd : o.dst = some d) (h1 : zG1 all bx0 bx') (h2 : hrm o = true → rw' = rw ∧ ∃ ext, bx' = bx ++ ext)
  (h : zUr P full.toArray all bx0 r k ⟨nt, nb, (d, ent) :: sl, bx', rw', ys⟩) : xM P full.toArray [] (KB P full.toArray all bx0 o r k nt nb nb' L sl bx rw ys) ⟨nt, nb', (d, ent) :: kQ L sl, bx', rw', ys⟩ :=
 zF ⟨ent, bx', rw', by rw [hd]; rfl, h1, h2, by rw [hd]; exact h⟩
theorem zEv {nb' : Nat} {L : List Nat} {bx' : List (List AV)} {rw' : List z9} (hd : o.dst = none) (h1 : zG1 all bx0 bx') (h2 : hrm o = true → rw' = rw ∧ ∃ ext, bx' = bx ++ ext)
  (h : zUr P full.toArray all bx0 r k ⟨nt, nb, sl, bx', rw', ys⟩) : xM P full.toArray [] (KB P full.toArray all bx0 o r k nt nb nb' L sl bx rw ys) ⟨nt, nb', kQ L sl, bx', rw', ys⟩ :=
 zF ⟨(true, .raw undef), bx', rw', by rw [hd]; rfl, h1, h2, by rw [hd]; exact h⟩
theorem zBc (bx0 bx' : List (List AV)) : zG1 true bx0 bx' := ⟨bx', rfl⟩
theorem zI3 {bx0 bx' : List (List AV)} (ext : List (List AV)) (h : bx' = bx0 ++ ext) : zG1 false bx0 bx' := ⟨ext, h⟩
theorem xW (all : Bool) {id : Nat} {ops : List Oper} (hm : P.follows .mixedOrders = true) (hf : zIb nt ops = true) (h : ∀ K : ASt → Prop, (∀ s, Q .normal s → K s) → zBn P ops all 0 [] [] [] ops K sl ⟨nt, nb, sl, bx, rw, ys⟩) : wpA P (.region id ops.toArray true) Q ⟨nt, nb, sl, bx, rw, ys⟩ := by
 obtain ⟨es, ib, h1, h2, h3⟩ := h (Q .normal) (fun _ h => h) rfl rfl rfl
 intro C G a w hs
 have hs' := hs.drew
 simp only [yJ9] at h2 h3
 have hz : ∀ j, (Array.replicate ops.toArray.size false).getD j false = false := fun j => by
  simp only [yIu, Array.getElem?_replicate]
  split <;> rfl
 have hz' : ∀ j, j < ops.length → (Array.replicate ops.toArray.size false).getD j true = false := fun j hj => by
  simp only [yIu, Array.getElem?_replicate]
  rw [if_pos (by simpa using hj)]; rfl
 refine wpIn_mono (Q := fun e a w => e = .normal ∧ zWf C Q .normal a w) (wpIn_region_any hm (yAc (C := C) (es := es) (ib := ib) (st := ⟨nt, nb, sl, bx, rw, ys⟩) (k := Q .normal) h2 h1 (fun G a w st' hs hk => ⟨rfl, G, st', hs, hk⟩) _ _ G a _ ?_ ⟨hs'.frame, hs'.le, hs'.fresh, hs'.ownB, hs'.ownR, by rw [hs.size]; exact hf, hs.size, hs.callers, by simp, fun i o ho hl => ?_, fun t e _ hl => hs'.slot t e.1 e.2 hl, fun e he hl => ?_, hs'.env,
  ⟨ib, [], bx, rw, fun i => ?_, h2.nodup, ?_, fun _ => ⟨rfl, [], by simp⟩, hs'.mem, fun t e h => (by cases h), fun i o t _ hl => ?_, ?_⟩⟩)) (fun e a w h => by obtain ⟨rfl, h⟩ := h; exact h)
 ·exact yIo List.countP_le_length (by simp)
 ·have hil : i < ops.length := (yJf.1 ho).1
  rw [hz' i hil] at hl; cases hl
 ·rw [hz] at hl; cases hl
 ·rw [hz i]; simp
 ·cases all
  ·exact ⟨[], by simp [zLw]⟩
  ·exact ⟨bx, rfl⟩
 ·rw [hz] at hl; cases hl
 ·simpa using h3
theorem zC (all : Bool) {id : Nat} {ops : List Oper} (_ : zW3 ops = all) (hm : P.follows .mixedOrders = true) (hf : zIb nt ops = true) (h : ∀ K : ASt → Prop, (∀ s, Q .normal s → K s) → zBn P ops all 0 [] [] [] ops K sl ⟨nt, nb, sl, bx, rw, ys⟩) : wpA P (.region id ops.toArray true) Q ⟨nt, nb, sl, bx, rw, ys⟩ := xW all hm hf h
theorem zTe (h : zBn P full all m ia es ib (o :: r) k sl0 ⟨nt, nb, sl, bx, rw, ys⟩) : zBn P full all m ia es ib (o :: r) k sl0 ⟨nt, nb, sl, bx, rw, ys⟩ := h
theorem zTd (h : zBn P full all m ia es ib [] k sl0 ⟨nt, nb, sl, bx, rw, ys⟩) : zBn P full all m ia es ib [] k sl0 ⟨nt, nb, sl, bx, rw, ys⟩ := h
theorem z7 {l : List Oper} (h : zUr P full.toArray all bx0 l k ⟨nt, nb, sl, bx, rw, ys⟩) : zUr P full.toArray all bx0 l k ⟨nt, nb, sl, bx, rw, ys⟩ := h
theorem xD {id : Nat} {ops : Array Oper} (h : wpA P (.region id ops true) Q ⟨nt, nb, sl, bx, rw, ys⟩) : wpA P (.region id ops true) Q ⟨nt, nb, sl, bx, rw, ys⟩ := h
theorem FnA.at_ {P : Program} {f f' : FuncId} {args args' : List AV} {r : AV} (h : FnA P f' args' r) (hf : f' = f) (ha : args' = args) : FnA P f args r := by
 subst hf; subst ha; exact h
theorem FnA.at_s {P : Program} {f f' : FuncId} {args args' : List AV} {r : AV} (h : FnA P f' args' r) (hf : f' = f) (hs : jX args args') : FnA P f args r := by
 subst hf; exact FnA.sim h hs
end
theorem zS {P : Program} {full : List Oper} {all : Bool} {m : Nat} {ia : List (Nat × AK)} {es : List AEn} {ib : List Nat} {o : Oper} {r : List Oper} {k : ASt → Prop} {sl0 : List (Nat × (Bool × AV))} {st : ASt} (n : Nat) (hc : yB0 o.op = n) (h : zBn P full all m ia es ib (o :: r) k sl0 st) : zBn P full all m ia es ib (o :: r) k sl0 st := h

def ASt.src (st : ASt) : AV → Option (Nat × Nat × List AV × Prop)
 | .bsl sz b off n _ => match st.bx[b]? with
  | some cs => some (sz, n, (cs.drop off).take (n * sz), off + n * sz ≤ cs.length)
  | none => none
 | v => match st.asL v with
  | some (sz, n, el, p) => some (sz, n, (List.range n).flatMap el, p)
  | none => none
section
variable {P : Program} {T : TT} {st : ASt} {G : Gh} {w : World}
theorem zDv {blk k : Nat} {vs : List Value} {Ty : TypeId} {x : Nat × Nat} {u : Value} (h : w.heap[blk]? = some (.cells vs.toArray Ty x)) (hu : vs[k]? = some u) : w.cell? ⟨blk, k, none⟩ = some u := by
 simp [World.cell?, h, hu]
theorem zIx (hm : wG G w st.bx st.rw) {v : AV} {sz n : Nat} {us : List AV} {p : Prop} (h : st.src v = some (sz, n, us, p)) (hp : p) (h0 : 0 < sz) {x : Value} (hx : v.rel G w x) :
  ∃ A cap vs, x = .slice A n cap ∧ vs.length = n * sz ∧ AV.relL G w us vs ∧ (0 < n → ∃ a, A = some a ∧ ∀ j u, vs[j]? = some u → w.cell? (a.add j) = some u) := by
 have gen : ∀ v : AV, (match st.asL v with | some (sz, n, el, p) => some (sz, n, (List.range n).flatMap el, p) | none => none) = some (sz, n, us, p) → v.rel G w x →
   ∃ A cap vs, x = .slice A n cap ∧ vs.length = n * sz ∧ AV.relL G w us vs ∧ (0 < n → ∃ a, A = some a ∧ ∀ j u, vs[j]? = some u → w.cell? (a.add j) = some u) := by
  intro v h hx
  split at h
  ·rename_i sz' n' el p' hl
   simp only [yIg, yIv] at h
   obtain ⟨rfl, rfl, rfl, rfl⟩ := h
   have hyr := x6 hm hl hp hx
   obtain ⟨A, cap, rfl, _⟩ := id hyr
   obtain ⟨news, h1, h2, h3, _⟩ := j6 h0 hyr
   exact ⟨A, cap, news, rfl, h1, zF0 h1 h3, h2⟩
  ·cases h
 unfold ASt.src at h
 split at h
 ·rename_i sz' b off n' cap'
  split at h
  ·rename_i cs hcs
   simp only [yIg, yIv] at h
   obtain ⟨rfl, rfl, rfl, rfl⟩ := h
   obtain ⟨blk, A, h1, rfl, h2, h3, h4⟩ := hx
   obtain ⟨_, vs, Ty, h5, h6⟩ := hm.box b cs blk hcs h1
   have hl := AV.relL_length h6
   refine ⟨A, cap', (vs.drop off).take (n' * sz'), rfl, by simp; omega, AV.relL_take _ (AV.relL_drop _ h6), fun hn => ⟨⟨blk, off, none⟩, h4 (by omega), fun j u hj => ?_⟩⟩
   rw [add_lit]
   refine zDv h5 ?_
   rw [yIk] at hj
   split at hj
   ·rwa [yIj] at hj
   ·cases hj
  ·cases h
 ·exact gen _ h hx
theorem Sat.stored {C : Ctx P} {a : Act} {w' : World} (hs : Sat C G a w st) {b blk : Nat} {cs cs' : List AV} {vs' : List Value} {Ty : TypeId} (hb : st.bx[b]? = some cs) (hg : G.bx[b]? = some blk) (h9 : zGb w blk vs' Ty w') (hr : AV.relL G w cs' vs') :
  Sat C G a w' { st with bx := st.bx.set b cs' } ∧ G.Le w G w' := by
 obtain ⟨m, le⟩ := zDa hs.mem hb hg h9 hr
 have ho : zY (fun k => k ∈ G.bx ∨ ∃ x ∈ G.rw, (zI x.2) = some k) w w' := ⟨h9.os, h9.tape, h9.output, Nat.le_of_eq h9.size.symm, fun k _ hk => h9.other k fun e => hk (.inl (e ▸ yJu hg))⟩
 exact ⟨hs.called ho le (fun _ _ i => .inl i) (fun _ h => .inl h) (fun x hx g hg => .inl ⟨x, hx, hg⟩) m, le⟩
theorem zJ9 : ∀ (n : Nat) (l : List Value), vG l n ([] : List Value) = l
 | 0, l => by cases l <;> rfl
 | n + 1, l => by cases l <;> simp [vG, zJ9 n]
theorem zBv {blk off : Nat} {Ty : TypeId} {vs us : List Value} (h : w.heap[blk]? = some (.cells vs.toArray Ty (0, 0))) (hl : off + us.length ≤ vs.length) (h1 : ∀ u ∈ us, u.oneCell' = true) :
  ∃ w', (storeCells ⟨blk, off, none⟩ us).run P w = .ok () w' ∧ zGb w blk (vG vs off us) Ty w' := by
 obtain ⟨w', e8, e9⟩ := qU (P := P) (off := off) (vs := vs) us [] w (by rw [zJ9]; exact h) (by simp only [yK8]; omega) h1
 simp only [yJ9, yK8] at e8 e9
 exact ⟨w', e8, e9⟩
theorem zM6 (hT : TOk P T) {e : TypeId} {j : TI} (h3 : T e = some j) : ∃ ie z, P.info? e = some ie ∧ ie.size = j.size ∧ ie.zero = some z ∧ ie.bytes = j.bytes ∧ z.cells.toList = j.zero := by
 have h1 := (hT _ _ h3).info
 cases hie : P.info? e with
 | none => rw [hie] at h1; cases h1
 | some x =>
  rw [hie] at h1
  simp only [yIx, yIg, yIv] at h1
  cases hzz : x.zero with
  | none => rw [hzz] at h1; cases h1.1
  | some z =>
   rw [hzz] at h1
   simp only [yIx, yIg] at h1
   exact ⟨x, z, rfl, h1.2.1, hzz, h1.2.2, h1.1⟩
theorem zHp (hT : TOk P T) {t e : TypeId} {s1 b1 : Nat} {z1 : List Value} {q1 : List CK} (h : T t = some ⟨.slice e, s1, b1, z1, q1⟩) : P.underlying t = some (.slice e) := by
 obtain ⟨d1, u1, u2⟩ := (hT _ _ h).und_some
 rw [u1, yC u2]
end
def zUh (st : ASt) (c : Call) : Option (List Bool × (Nat × Nat × Nat × Nat × Nat) × (Nat × Nat × List AV × Prop) × TypeId × TypeId) :=
 match c.args.toList, c.argTypes.toList with
 | [x, y], [t, t'] => match st.ev x, st.ev y with
  | some (g1, .bsl sz b off n cap), some (g2, v) => match st.src v with
   | some s => some ([g1, g2], (sz, b, off, n, cap), s, t, t')
   | none => none
  | _, _ => none
 | _, _ => none
def zJx : Builtin → Bool
 | .copy => true
 | _ => false
def yAi (st : ASt) (k : Builtin) (o : Op) : Option (List Bool × (Nat × Nat × Nat × Nat × Nat) × (Nat × Nat × List AV × Prop) × TypeId × TypeId) :=
 match o with
 | .call c => match c.callee with
  | .builtin .copy => bif zJx k then zUh st c else none
  | .builtin .append => bif zJx k then none else zUh st c
  | _ => none
 | _ => none
theorem zUg {st : ASt} {c : Call} {cs : List Bool} {sz b off n cap : Nat} {s : Nat × Nat × List AV × Prop} {t t' : TypeId} (h : zUh st c = some (cs, (sz, b, off, n, cap), s, t, t')) :
  ∃ x y g1 g2 v, c = ⟨c.callee, #[x, y], #[t, t']⟩ ∧ cs = [g1, g2] ∧ st.ev x = some (g1, .bsl sz b off n cap) ∧ st.ev y = some (g2, v) ∧ st.src v = some s := by
 obtain ⟨callee, args, argTypes⟩ := c
 obtain ⟨args⟩ := args
 obtain ⟨argTypes⟩ := argTypes
 unfold zUh at h
 simp only at h
 split at h
 ·split at h
  ·rename_i x y t1 t2 _ _ g1 sz' b' off' n' cap' g2 v hx hy
   split at h
   ·rename_i s' hs
    simp only [yIg, yIv] at h
    obtain ⟨rfl, ⟨rfl, rfl, rfl, rfl, rfl⟩, rfl, rfl, rfl⟩ := h
    exact ⟨x, y, g1, g2, v, rfl, rfl, hx, hy, hs⟩
   ·cases h
  ·cases h
 ·cases h
theorem zN2 {st : ASt} {o : Op} {cs : List Bool} {sz b off n cap : Nat} {s : Nat × Nat × List AV × Prop} {t t' : TypeId} (h : yAi st .append o = some (cs, (sz, b, off, n, cap), s, t, t')) :
  ∃ x y g1 g2 v, o = .call ⟨.builtin .append, #[x, y], #[t, t']⟩ ∧ cs = [g1, g2] ∧ st.ev x = some (g1, .bsl sz b off n cap) ∧ st.ev y = some (g2, v) ∧ st.src v = some s := by
 unfold yAi at h
 split at h
 ·rename_i c
  split at h
  ·simp [zJx] at h
  ·rename_i hc
   obtain ⟨x, y, g1, g2, v, h1, h2⟩ := zUg (c := c) (by simpa [zJx] using h)
   exact ⟨x, y, g1, g2, v, by rw [h1, hc], h2⟩
  ·cases h
 ·cases h
section rules
variable {P : Program} {T : TT} {ops : Array Oper} {rest : List Oper} {K : ASt → Prop} {nt nb : Nat} {sl : List (Nat × (Bool × AV))} {bx : List (List AV)} {rw : List z9} {ys : (Nat × List (List AV)) × List (List AV) × Bool} {o : Oper} {d : Nat}
theorem zJ1 (hT : TOk P T) (hg : o.guard = none) (hd : o.dst = some d) (hn : Nat.blt d nt = true)
  {cs : List Bool} {sz b off n cap sz' m : Nat} {us : List AV} {p : Prop} {t t' : TypeId} (h1 : yAi ⟨nt, nb, sl, bx, rw, ys⟩ .append o.op = some (cs, (sz, b, off, n, cap), (sz', m, us, p), t, t')) (hc : ∀ c ∈ cs, c = true) (hp : p) (htt : t' = t)
  {e s1 b1 : Nat} {z1 : List Value} {q1 : List CK} (h2 : T t = some ⟨.slice e, s1, b1, z1, q1⟩) {j : TI} (h3 : T e = some j) (hsz : sz = j.size ∧ sz' = j.size ∧ 0 < j.size ∧ j.zero.length = j.size) (h0 : 0 < m) {cl : List AV} (hb : bx[b]? = some cl)
  (hone : AV.oneL ⟨nt, nb, sl, bx, rw, ys⟩ us) (hfit : off + cap * sz ≤ cl.length) (hmax : n + m ≤ maxLen ∧ (n + m) * j.bytes ≤ 140737488355328)
  (hroom : n + m ≤ cap → ∀ bx', bx.set b (vG cl (off + n * sz) us) = bx' → xM P ops rest K ⟨nt, nb, (d, (true, .bsl sz b off (n + m) cap)) :: sl, bx', rw, ys⟩)
  (hgrow : cap < n + m → ∀ c, n + m ≤ c → c ≤ maxLen → ∀ bx' bn, bx.length = bn → bx ++ [((cl.drop off).take (n * sz) ++ us) ++ w5 (c - (n + m)) j.zero] = bx' → xM P ops rest K ⟨nt, nb, (d, (true, .bsl sz bn 0 (n + m) c)) :: sl, bx', rw, ys⟩) : xM P ops (o :: rest) K ⟨nt, nb, sl, bx, rw, ys⟩ := by
 obtain ⟨x, y, g1, g2, v, hop, rfl, hx, hy, hsrc⟩ := zN2 h1
 obtain ⟨rfl, rfl, j0, jz⟩ := hsz
 subst htt
 intro C G a w Q hs hQ
 have hev : ∀ y ∈ o.op.operands.toList, zHg G w a ⟨nt, nb, sl, bx, rw, ys⟩ y := fun y hy => yX fun t ht => hs.slot t
 obtain ⟨blk, A, hA0, ex, hnc, hcm, hA⟩ := hev x (by rw [hop]; simp [Op.operands, Call.operands]) _ _ hx (hc g1 (by simp))
 obtain ⟨A', cap', vs, ey, hvl, hvr, hva⟩ := zIx hs.mem hsrc hp j0 (hev y (by rw [hop]; simp [Op.operands, Call.operands]) _ _ hy (hc g2 (by simp)))
 obtain ⟨a', rfl, hcell⟩ := hva h0
 have hu := zHp hT h2
 obtain ⟨ie, z, g2', g1', g3, g4, e2⟩ := zM6 hT h3
 obtain ⟨_, ws, Ty, b3, b4⟩ := hs.mem.box b cl blk hb hA0
 have hwl := AV.relL_length b4
 have h1c : ∀ u ∈ vs, u.oneCell' = true := zAc hs.mem hone hvr
 have hmle : n * j.size ≤ cap * j.size := yJg _ hnc
 have hsr : Src P ie.size t' (.slice (some a') m cap') m vs w := .ofSlice w hu a' m cap' vs (by rw [g1']; exact hvl) hcell h1c
 refine wpListIn_plain hg fun K' hK => ?_
 refine z0 (fun c hc => by rw [hop] at hc; cases hc) ?_
 by_cases hr : n + m ≤ cap
 ·have hA := hA (by omega)
  subst hA
  have hle : (n + m) * j.size ≤ cap * j.size := yJg _ hr
  rw [yJ5] at hle
  obtain ⟨w', e8, e9⟩ := zBv (P := P) (off := off + n * j.size) (us := vs) b3 (by omega) h1c
  obtain ⟨s1', le⟩ := hs.stored hb hA0 e9 (zC2 b4 hvr)
  have hexec : (execOp a.eval o).run P w = .ok (.value (.slice (some ⟨blk, off, none⟩) (n + m) cap)) w' := by
   obtain ⟨dst, op, type, pos, after, guard⟩ := o
   simp only at hop
   subst hop
   have hf := run_firstCells_some (P := P) w j.size m a' m cap' vs hvl hcell
   simp [execOp, resolve, invoke, builtin, ex, ey, Builtin.append_, run_underlying hu, Builtin.lenOf, sizeOf, typeInfo, g2', g1', hf, hr, add_lit, e8]
  rw [hexec, Oper.uponIn_value, hd]
  refine hK _ _ (hroom hr _ rfl C _ _ _ Q (s1'.put (by simpa [yK2] using hn) (fun _ => ⟨blk, _, ?_, rfl, hr, hcm, fun _ => rfl⟩) (fun h => by cases h)) hQ)
  exact hA0
 ·have hr : cap < n + m := by omega
  have hold : (Builtin.firstCells ie.size n (.slice A n cap)).run P w.drew = .ok ((ws.drop off).take (n * j.size)).toArray w.drew := by
   rw [g1']
   rcases yJe cap with h | h
   ·have hn0 : n = 0 := by omega
    subst hn0
    cases A with
    | none => simp [run_firstCells_none]
    | some A => exact run_firstCells_some (P := P) w.drew j.size 0 A 0 cap _ (by simp) (fun q u hq => by simp at hq)
   ·rw [hA h]
    refine run_firstCells_some (P := P) w.drew j.size n ⟨blk, off, none⟩ n cap _ (by simp; omega) (fun q u hq => ?_)
    rw [add_lit]
    rw [yIk] at hq
    split at hq
    ·rw [yIj] at hq
     have := zDv b3 hq
     simpa using this
    ·cases hq
  have hrun := fun ty => run_append_grow_src (P := P) w t' t' ty e ie z hu g2' g3 A n cap _ hold (.slice (some a') m cap') m vs hsr hr (by have := hmax.1; simp only [maxLen] at this; omega) (growslice_fits hr (by rw [g4]; exact hmax.2))
  have hge := grownCap_ge w (n + m) cap e
  have hcmx : grownCap w (n + m) cap e ≤ maxLen := grownCap_le_maxLen w (n + m) cap e hmax.1
  have hk := hgrow hr (grownCap w (n + m) cap e) hge hcmx _ _ rfl rfl
  generalize grownCap w (n + m) cap e = c at *
  have hexec : (execOp a.eval o).run P w = .ok (.value (.slice (some ⟨w.heap.size, 0, none⟩) (n + m) c)) (w.drew.alloc (.cells (((ws.drop off).take (n * j.size) ++ vs).toArray ++ Builtin.zeroCells z.cells (c - (n + m))) e)) := by
   obtain ⟨dst, op, type, pos, after, guard⟩ := o
   simp only at hop
   subst hop
   simp only [execOp, resolve, invoke, builtin, Array.map, ex, ey]
   have := hrun type
   simp [ex, ey, this]
  rw [hexec, Oper.uponIn_value, hd]
  have hb1 : Below w.heap.size w w.drew := (Below.refl _ _).drew
  have E := wV hs.mem hb1 G.imm (fun _ _ i => i) (fun _ _ i => .inl i) (fun b o i => hs.mem.immOk b o i)
  have hs1 : Sat C G a w.drew ⟨nt, nb, sl, bx, rw, ys⟩ := hs.called (zY.of_below hb1) E.le (fun _ _ i => .inl i) (fun _ h => .inl h) (fun x hx g hg => .inl ⟨x, hx, hg⟩) E.mem
  have hcells : AV.relL G w.drew (((cl.drop off).take (n * j.size) ++ us) ++ w5 (c - (n + m)) j.zero) (((ws.drop off).take (n * j.size) ++ vs) ++ wZ (c - (n + m)) j.zero) :=
   AV.relL_append (AV.relL_mono E.le _ _ (AV.relL_append (AV.relL_take _ (AV.relL_drop _ b4)) hvr)) (w8 _ _)
  have hs2 := hs1.push e hcells
  have harr : (((ws.drop off).take (n * j.size) ++ vs) ++ wZ (c - (n + m)) j.zero).toArray = ((ws.drop off).take (n * j.size) ++ vs).toArray ++ Builtin.zeroCells z.cells (c - (n + m)) := by
   apply Array.ext'
   simp [qQ, e2]
  rw [harr] at hs2
  refine hK _ _ (hk C _ _ _ Q (hs2.put (by simpa [yK2] using hn) (fun _ => ⟨w.heap.size, _, ?_, rfl, hge, hcmx, fun _ => rfl⟩) (fun h => by cases h)) hQ)
  show (G.bx ++ [w.heap.size])[bx.length]? = _
  have hlb : G.bx.length = bx.length := hs.mem.lenB
  rw [← hlb, yJy (yIn _), yK5]
  rfl
theorem zRy {α : Type} : ∀ (cs : List α) (off : Nat) (us : List α), off + us.length ≤ cs.length → vG cs off us = cs.take off ++ (us ++ cs.drop (off + us.length))
 | [], 0, us, h => by
  have : us = [] := yIi (by simpa using h)
  subst this; rfl
 | c :: cs, 0, us, h => by
  have e : ∀ (us cs : List α), us.length ≤ cs.length → qW us cs = us ++ cs.drop us.length := by
   intro us
   induction us with
   | nil => intro cs _; rfl
   | cons u us ih => intro cs h; cases cs with
    | nil => simp at h
    | cons c cs => simp [qW, ih cs (by simpa using h)]
  have : vG (c :: cs) 0 us = qW us (c :: cs) := rfl
  rw [this, e us _ (by simpa using h)]
  simp
 | [], n + 1, us, h => by simp at h
 | c :: cs, n + 1, us, h => by
  have : vG (c :: cs) (n + 1) us = c :: vG cs n us := rfl
  rw [this, zRy cs n us (by simp at h; omega)]
  simp [Nat.add_right_comm n 1]
theorem zRx {α : Type} {A B C us : List α} {off : Nat} (hA : A.length = off) (hB : B.length = us.length) : vG (A ++ (B ++ C)) off us = A ++ (us ++ C) := by
 rw [zRy _ _ _ (by simp; omega), List.take_left' hA, ← yKx A B C, List.drop_left' (by simp; omega)]
end rules
mutual
theorem bel_free (m : Nat) : ∀ (x : AV), x.free → x.bel m
 | .raw _, _ => trivial
 | .agg cs, h => wR m cs h
 | .tup cs, h => wR m cs h
 | .lst _ n el, h => fun i hi => wR m (el i) (h i hi)
 | .elt cs _, h => wR m cs h
 | .box _ _, h => h.elim
 | .fn _ a b, h => ⟨wR m a h.1, wR m b h.2⟩
 | .row _ _, h => h.elim
 | .bsl _ _ _ _ _, h => h.elim
 | .ifc _ x, h => bel_free m x h
 | .ful x, h => bel_free m x h
theorem wR (m : Nat) : ∀ (xs : List AV), AV.freeL xs → AV.belL m xs
 | [], _ => trivial
 | x :: xs, h => ⟨bel_free m x h.1, wR m xs h.2⟩
end
theorem belL_free {m : Nat} (xs : List AV) (h : AV.freeL xs) : AV.belL m xs := wR m xs h
theorem obb {p : Prop} (h : p := by first
  | trivial
  | (simp [jY, zMp, AV.bel, AV.belL]; done)
  | (simp only [jY, zMp, AV.bel, AV.belL, yKn, yIw, yKo]; (repeat' apply And.intro) <;> first | trivial | omega | (simp; done) | (refine bel_free _ _ ?_; first | assumption | exact zE (fun _ => by simp) _) | (refine belL_free _ ?_; first | assumption | (simp; done)) | (intro r hr; cases hr; done))
  | (intro r hr; simp at hr; done)
  | (simp_all [jY, zMp, AV.bel, AV.belL]; done)
  | fail) : p := h
attribute [go_sem] yAi zUh zJx ASt.src
end Go.Proofs.YtchpbdecipcelaaGreatDoor
