import Derived.Test.YtchpbdecipcelaaGreatDoorHO01
import Derived.Test.YtchpbdecipcelaaGreatDoorHO10
import Derived.Test.YtchpbdecipcelaaGreatDoorHO23
namespace Go.Proofs.YtchpbdecipcelaaGreatDoor
set_option linter.unusedVariables false
set_option linter.unusedSimpArgs false
set_option maxHeartbeats 4000000
set_option maxRecDepth 100000
namespace Bf
structure E where
 a : Nat
 b : Nat
 m : Int
 deriving Inhabited
def zI2 (x : Nat → Int) (e : E) : Prop := x e.b ≤ x e.a + e.m
def keepsAll (l : List E) (x : Nat → Int) : Prop := ∀ e ∈ l, zI2 x e
def relax (f : Nat → Int) (e : E) : Nat → Int := fun i => if i = e.b then min (f e.b) (f e.a + e.m) else f i
def zP9 (l : List E) (f : Nat → Int) : Nat → Int := l.foldl relax f
def jac (l : List E) (f : Nat → Int) : Nat → Int := fun v => l.foldl (fun acc e => if e.b = v then min acc (f e.a + e.m) else acc) (f v)
theorem zNg (f : Nat → Int) (e : E) (i : Nat) : relax f e i ≤ f i := by
 unfold relax; split
 ·rename_i h; subst h; omega
 ·omega
theorem zNh {f h : Nat → Int} {e : E} (hk : zI2 h e) (hf : ∀ i, h i ≤ f i) (i : Nat) : h i ≤ relax f e i := by
 unfold relax; split
 ·rename_i hi; subst hi
  have h1 := hf e.b
  have h2 := hf e.a
  unfold zI2 at hk
  omega
 ·exact hf i
theorem zHl : ∀ (l : List E) (f : Nat → Int) (i : Nat), zP9 l f i ≤ f i
 | [], f, i => yM6 _
 | e :: l, f, i => Int.le_trans (zHl l (relax f e) i) (zNg f e i)
theorem zN3 {h : Nat → Int} : ∀ (l : List E) (f : Nat → Int), keepsAll l h → (∀ i, h i ≤ f i) → ∀ i, h i ≤ zP9 l f i
 | [], f, _, hf, i => hf i
 | e :: l, f, hk, hf, i => zN3 l (relax f e) (fun e' he => hk e' (by simp [he])) (zNh (hk e (by simp)) hf) i
theorem zGe : ∀ (l : List E) (f : Nat → Int) (e : E), e ∈ l → zP9 l f e.b ≤ f e.a + e.m
 | [], _, _, h => by cases h
 | e0 :: l, f, e, h => by
  rcases yJb.1 h with rfl | h
  ·refine Int.le_trans (zHl l (relax f e) e.b) ?_
   unfold relax
   rw [if_pos rfl]; omega
  ·refine Int.le_trans (zGe l (relax f e0) e h) ?_
   have := zNg f e0 e.a
   omega
theorem zCb (f : Nat → Int) (v : Nat) : ∀ (l : List E) (acc : Int), l.foldl (fun acc e => if e.b = v then min acc (f e.a + e.m) else acc) acc ≤ acc ∧ (∀ e ∈ l, e.b = v → l.foldl (fun acc e => if e.b = v then min acc (f e.a + e.m) else acc) acc ≤ f e.a + e.m) ∧
  (∀ c, c ≤ acc → (∀ e ∈ l, e.b = v → c ≤ f e.a + e.m) → c ≤ l.foldl (fun acc e => if e.b = v then min acc (f e.a + e.m) else acc) acc)
 | [], acc => ⟨yM6 _, fun e h => (by cases h), fun c h _ => h⟩
 | e0 :: l, acc => by
  obtain ⟨h1, h2, h3⟩ := zCb f v l (if e0.b = v then min acc (f e0.a + e0.m) else acc)
  simp only [yJ1]
  refine ⟨?_, fun e he hv => ?_, fun c hc hall => h3 c ?_ fun e he hv => hall e (by simp [he]) hv⟩
  ·refine Int.le_trans h1 ?_
   split <;> omega
  ·rcases yJb.1 he with rfl | he
   ·refine Int.le_trans h1 ?_
    rw [if_pos hv]; omega
   ·exact h2 e he hv
  ·split
   ·rename_i hv
    have := hall e0 (by simp) hv
    omega
   ·exact hc
structure Rnd (l : List E) (F : (Nat → Int) → Nat → Int) : Prop where
 le : ∀ f i, F f i ≤ f i
 edge : ∀ f, ∀ e ∈ l, F f e.b ≤ f e.a + e.m
 ge : ∀ (h f : Nat → Int), keepsAll l h → (∀ i, h i ≤ f i) → ∀ i, h i ≤ F f i
theorem zJ2 (l : List E) : Rnd l (zP9 l) := ⟨zHl l, fun f e he => zGe l f e he, fun _ f hk hf i => zN3 l f hk hf i⟩
theorem zRr (l : List E) : Rnd l (jac l) := by
 refine ⟨fun f i => (zCb f i l _).1, fun f e he => (zCb f e.b l _).2.1 e he rfl, fun h f hk hf i => (zCb f i l _).2.2 _ (hf i) fun e he hv => ?_⟩
 have h1 := hk e he
 have h2 := hf e.a
 unfold zI2 at h1
 rw [hv] at h1
 omega
def zBd (F : (Nat → Int) → Nat → Int) : Nat → Nat → Int
 | 0 => fun _ => 0
 | k + 1 => F (zBd F k)
theorem zUi {f : Nat → Int} : ∀ (R : List Nat), R ≠ [] → ∃ u ∈ R, ∀ v ∈ R, f u ≤ f v
 | [], h => absurd rfl h
 | [a], _ => ⟨a, by simp, fun v hv => by rw [yK4] at hv; subst hv; exact yM6 _⟩
 | a :: b :: r, _ => by
  obtain ⟨u, hu, h⟩ := zUi (f := f) (b :: r) (by simp)
  rcases Int.le_total (f a) (f u) with h1 | h1
  ·refine ⟨a, by simp, fun v hv => ?_⟩
   rcases yJb.1 hv with rfl | hv
   ·exact yM6 _
   ·exact Int.le_trans h1 (h v hv)
  ·refine ⟨u, List.mem_cons_of_mem _ hu, fun v hv => ?_⟩
   rcases yJb.1 hv with rfl | hv
   ·exact h1
   ·exact h v hv
theorem zKa {R : List Nat} {u : Nat} (hu : u ∈ R) : (R.filter fun v => decide (v ≠ u)).length < R.length := by
 rw [List.length_filter_lt_length_iff_exists]
 exact ⟨u, hu, by simp⟩
structure Near (l : List E) (n : Nat) (x : Nat → Int) (f : Nat → Int) (k : Nat) (R : List Nat) (M : Int) : Prop where
 len : R.length + k + 1 ≤ n ∨ R = []
 low : ∀ u ∈ R, M ≤ f u - x u
 stay : keepsAll l fun v => if v ∈ R then M + x v else f v
theorem near (l : List E) (n : Nat) (h0 : 0 < n) (hin : ∀ e ∈ l, e.a < n ∧ e.b < n) (x : Nat → Int) (hx : keepsAll l x) {F : (Nat → Int) → Nat → Int} (hF : Rnd l F) : ∀ k, ∃ R M, Near l n x (zBd F k) k R M
 | 0 => by
  obtain ⟨u, hu, hmin⟩ := zUi (f := fun v => (0 : Int) - x v) (List.range n) (by intro h; have := congrArg List.length h; simp at this; omega)
  refine ⟨(List.range n).filter fun v => decide (v ≠ u), 0 - x u, .inl ?_, fun v hv => hmin v (yLi.1 hv).1, fun e he => ?_⟩
  ·have := zKa hu
   rw [yM4] at this
   omega
  ·have e1 : ∀ v, v < n → (if v ∈ (List.range n).filter (fun v => decide (v ≠ u)) then 0 - x u + x v else zBd F 0 v) = 0 - x u + x v := fun v hv => by
    split
    ·rfl
    ·rename_i hn
     have hvu : v = u := by
      apply yM5
      intro hc
      exact hn (yLi.2 ⟨yL1.2 hv, by simpa using hc⟩)
     subst hvu
     simp only [zBd]
     omega
   have h1 := hx e he
   unfold zI2 at h1 ⊢
   dsimp only
   rw [e1 _ (hin e he).1, e1 _ (hin e he).2]
   omega
 | k + 1 => by
  obtain ⟨R, M, hlen, hlow, hstay⟩ := near l n h0 hin x hx hF k
  have hle : ∀ v, (if v ∈ R then M + x v else zBd F k v) ≤ zBd F k v := fun v => by
   split
   ·rename_i hv; have := hlow v hv; omega
   ·exact yM6 _
  have hge := hF.ge _ (zBd F k) hstay hle
  have hfin : ∀ v, v ∉ R → zBd F (k + 1) v = zBd F k v := fun v hv => by
   have h1 := hge v
   have h2 := hF.le (zBd F k) v
   rw [if_neg hv] at h1
   exact Int.le_antisymm h2 h1
  by_cases hR : R = []
  ·subst hR
   refine ⟨[], M, .inr rfl, fun u hu => (by cases hu), fun e he => ?_⟩
   have h1 := hstay e he
   unfold zI2 at h1 ⊢
   simp only [yKj, if_false] at h1 ⊢
   rw [hfin _ (by simp), hfin _ (by simp)]
   exact h1
  ·obtain ⟨u, hu, hmin⟩ := zUi (f := fun v => zBd F (k + 1) v - x v) R hR
   have hM : M ≤ zBd F (k + 1) u - x u := by
    have h1 := hge u
    rw [if_pos hu] at h1
    show M ≤ F (zBd F k) u - x u
    omega
   refine ⟨R.filter fun v => decide (v ≠ u), zBd F (k + 1) u - x u, .inl ?_, fun v hv => hmin v (yLi.1 hv).1, fun e he => ?_⟩
   ·have := zKa hu
    rcases hlen with h | h
    ·omega
    ·exact absurd h hR
   ·have hmem : ∀ v, v ∈ R.filter (fun v => decide (v ≠ u)) ↔ v ∈ R ∧ v ≠ u := fun v => by simp [yLi]
    have hval : ∀ v, v ∈ R → (if v ∈ R.filter (fun v => decide (v ≠ u)) then zBd F (k + 1) u - x u + x v else zBd F (k + 1) v) = zBd F (k + 1) u - x u + x v := fun v hv => by
     split
     ·rfl
     ·rename_i hn
      have : v = u := by
       apply yM5
       intro hc
       exact hn ((hmem v).2 ⟨hv, hc⟩)
      subst this
      omega
    have hval2 : ∀ v, v ∉ R → (if v ∈ R.filter (fun v => decide (v ≠ u)) then zBd F (k + 1) u - x u + x v else zBd F (k + 1) v) = zBd F k v := fun v hv => by
     rw [if_neg (fun h => hv ((hmem v).1 h).1), hfin v hv]
    have hx1 := hx e he
    have hs1 := hstay e he
    have he1 := hF.edge (zBd F k) e he
    unfold zI2 at hx1 hs1 ⊢
    dsimp only at hs1 ⊢
    by_cases ha : e.a ∈ R
    ·by_cases hb : e.b ∈ R
     ·rw [hval _ ha, hval _ hb]; omega
     ·rw [hval _ ha, hval2 _ hb]
      rw [if_pos ha, if_neg hb] at hs1
      omega
    ·by_cases hb : e.b ∈ R
     ·rw [hval2 _ ha, hval _ hb]
      have := hmin _ hb
      have h3 : zBd F (k + 1) e.b ≤ zBd F k e.a + e.m := he1
      omega
     ·rw [hval2 _ ha, hval2 _ hb]
      rw [if_neg ha, if_neg hb] at hs1
      exact hs1
theorem zRi {l : List E} {n : Nat} (h0 : 0 < n) (hin : ∀ e ∈ l, e.a < n ∧ e.b < n) {x : Nat → Int} (hx : keepsAll l x) {F : (Nat → Int) → Nat → Int} (hF : Rnd l F) : keepsAll l (zBd F (n - 1)) := by
 obtain ⟨R, M, hlen, hlow, hstay⟩ := near l n h0 hin x hx hF (n - 1)
 have hR : R = [] := by
  rcases hlen with h | h
  ·exact yM7.1 (by omega)
  ·exact h
 subst hR
 intro e he
 have := hstay e he
 unfold zI2 at this ⊢
 simpa using this
theorem zSv {l : List E} {F : (Nat → Int) → Nat → Int} (hF : Rnd l F) : ∀ k i, zBd F k i ≤ 0
 | 0, _ => yM6 _
 | k + 1, i => Int.le_trans (hF.le _ i) (zSv hF k i)
theorem zSw {l : List E} {F : (Nat → Int) → Nat → Int} (hF : Rnd l F) {h : Nat → Int} (hk : keepsAll l h) (h0 : ∀ i, h i ≤ 0) : ∀ k i, h i ≤ zBd F k i
 | 0, i => h0 i
 | k + 1, i => hF.ge h _ hk (zSw hF hk h0 k) i
theorem zM1 {l : List E} {c : Int} (hc : 0 ≤ c) (hm : ∀ e ∈ l, -c ≤ e.m) : ∀ (k i : Nat), -((k : Int) * c) ≤ zBd (jac l) k i
 | 0, i => by simp [zBd]
 | k + 1, i => by
  have e1 : ((k + 1 : Nat) : Int) * c = (k : Int) * c + c := by
   rw [Int.natCast_add, Int.add_mul]; simp
  rw [e1]
  refine (zCb (zBd (jac l) k) i l _).2.2 _ ?_ fun e he _ => ?_
  ·have := zM1 hc hm k i; omega
  ·have := zM1 hc hm k e.a
   have := hm e he
   omega
theorem best {l : List E} {n : Nat} (h0 : 0 < n) (hin : ∀ e ∈ l, e.a < n ∧ e.b < n) {x : Nat → Int} (hx : keepsAll l x) {c : Int} (hc : 0 ≤ c) (hm : ∀ e ∈ l, -c ≤ e.m) :
  ∃ h : Nat → Int, keepsAll l h ∧ (∀ i, h i ≤ 0) ∧ ∀ i, -((n : Int) * c) ≤ h i := by
 refine ⟨zBd (jac l) (n - 1), zRi h0 hin hx (zRr l), zSv (zRr l) _, fun i => ?_⟩
 have h1 := zM1 hc hm (n - 1) i
 have h2 : ((n - 1 : Nat) : Int) * c ≤ (n : Int) * c := yM8 (by omega) hc
 omega
end Bf
namespace Bf
def fn (l : List Int) : Nat → Int := fun i => l.getD i 0
def relaxL (t : List Int) (e : E) : List Int := t.set e.b (min (t.getD e.b 0) (t.getD e.a 0 + e.m))
theorem relaxL_len (t : List Int) (e : E) : (relaxL t e).length = t.length := by simp [relaxL]
theorem getD_set {t : List Int} {i j : Nat} {v : Int} (h : i < t.length) : (t.set i v).getD j 0 = if j = i then v else t.getD j 0 := by
 rw [yJk, List.getElem?_set, yJk]
 by_cases hji : j = i
 ·subst hji; simp [h]
 ·rw [if_neg (fun e => hji e.symm), if_neg hji]
theorem zK9 {t : List Int} {e : E} (h : e.b < t.length) : fn (relaxL t e) = relax (fn t) e := by
 funext i
 unfold fn relaxL relax
 rw [getD_set h]
def sweepL (c : Int) : List E → List Int → Option (List Int)
 | [], t => some t
 | e :: l, t => if (relaxL t e).getD e.b 0 < -c then none else sweepL c l (relaxL t e)
def viol (l : List E) (t : List Int) : Bool := l.any fun e => decide (t.getD e.a 0 + e.m < t.getD e.b 0)
def possL (c : Int) (l : List E) : Nat → List Int → Bool
 | 0, _ => false
 | k + 1, t => if viol l t then (match sweepL c l t with | none => false | some t' => possL c l k t') else true
theorem zMx {l : List E} {t : List Int} : viol l t = false ↔ keepsAll l (fn t) := by
 unfold viol keepsAll zI2 fn
 rw [yL9]
 constructor
 ·intro h e he
  have := h e he
  simp only [yJm] at this
  omega
 ·intro h e he
  have := h e he
  simp only [yJm]
  omega
theorem zEq {c : Int} {h : Nat → Int} (hc : ∀ i, -c ≤ h i) : ∀ (l : List E) (t : List Int), (∀ e ∈ l, e.a < t.length ∧ e.b < t.length) → keepsAll l h → (∀ i, h i ≤ fn t i) → ∃ t', sweepL c l t = some t' ∧ t'.length = t.length ∧ fn t' = zP9 l (fn t)
 | [], t, _, _, _ => ⟨t, rfl, rfl, rfl⟩
 | e :: l, t, hin, hk, hf => by
  have hb := (hin e (by simp)).2
  have h1 := zNh (hk e (by simp)) hf
  rw [← zK9 hb] at h1
  have h2 := h1 e.b
  have h3 := hc e.b
  unfold sweepL
  rw [if_neg (by have : (relaxL t e).getD e.b 0 = fn (relaxL t e) e.b := rfl; rw [this]; omega)]
  obtain ⟨t', e1, e2, e3⟩ := zEq hc l (relaxL t e) (fun e' he => by rw [relaxL_len]; exact hin e' (by simp [he])) (fun e' he => hk e' (by simp [he])) h1
  refine ⟨t', e1, by rw [e2, relaxL_len], ?_⟩
  rw [e3, zK9 hb]
  rfl
theorem zZ7 (n : Nat) : fn (List.replicate n 0) = fun _ => 0 := by
 funext i
 unfold fn
 rw [yJk, List.getElem?_replicate]
 split <;> rfl
theorem zGr {c : Int} {l : List E} : ∀ (k : Nat) (t : List Int), possL c l k t = true → ∃ x, keepsAll l x
 | 0, _, h => by cases h
 | k + 1, t, h => by
  unfold possL at h
  split at h
  ·split at h
   ·cases h
   ·exact zGr k _ h
  ·rename_i hv
   exact ⟨fn t, zMx.1 (by simpa using hv)⟩
structure Ok (l : List E) (n : Nat) (c : Int) : Prop where
 pos : 0 < n
 inn : ∀ e ∈ l, e.a < n ∧ e.b < n
 nn : 0 ≤ c
 most : ∀ e ∈ l, -c ≤ e.m
theorem zNm {l : List E} {n : Nat} {c : Int} (ho : Ok l n c) {x : Nat → Int} (hx : keepsAll l x) {h : Nat → Int} (hk : keepsAll l h) (h0 : ∀ i, h i ≤ 0) (hc : ∀ i, -((n : Int) * c) ≤ h i) :
  ∀ (k j : Nat) (t : List Int), t.length = n → fn t = zBd (zP9 l) j → j ≤ n - 1 → k + j = n + 1 → possL ((n : Int) * c) l k t = true
 | 0, j, _, _, _, hj, hkj => by have := ho.pos; omega
 | k + 1, j, t, ht, hf, hj, hkj => by
  unfold possL
  split
  ·rename_i hv
   have hjn : j ≠ n - 1 := fun e => by
    have hs := zRi ho.pos ho.inn hx (zJ2 l)
    rw [← e, ← hf] at hs
    rw [zMx.2 hs] at hv
    cases hv
   obtain ⟨t', e1, e2, e3⟩ := zEq (c := (n : Int) * c) hc l t (fun e he => by rw [ht]; exact ho.inn e he) hk (fun i => by rw [hf]; exact zSw (zJ2 l) hk h0 j i)
   rw [e1]
   exact zNm ho hx hk h0 hc k (j + 1) t' (e2.trans ht) (by rw [e3, hf]; rfl) (by omega) (by omega)
  ·rfl
theorem possL_iff {l : List E} {n : Nat} {c : Int} (ho : Ok l n c) : possL ((n : Int) * c) l (n + 1) (List.replicate n 0) = true ↔ ∃ x, keepsAll l x := by
 constructor
 ·exact zGr _ _
 ·rintro ⟨x, hx⟩
  obtain ⟨h, h1, h2, h3⟩ := best ho.pos ho.inn hx ho.nn ho.most
  exact zNm ho hx h1 h2 h3 (n + 1) 0 _ (by simp) (zZ7 n) (by omega) (by omega)
end Bf
open Go.RowKit
namespace Lk
theorem zTh (p : Change → Int) : ∀ (r : List Change) (b : Int), r.foldl (fun b x => min b (p x)) b ≤ b ∧ (∀ x ∈ r, r.foldl (fun b x => min b (p x)) b ≤ p x) ∧ (r.foldl (fun b x => min b (p x)) b = b ∨ ∃ x ∈ r, r.foldl (fun b x => min b (p x)) b = p x)
 | [], b => ⟨yM6 _, fun x h => by simp at h, .inl rfl⟩
 | y :: r, b => by
  obtain ⟨h1, h2, h3⟩ := zTh p r (min b (p y))
  simp only [yJ1]
  refine ⟨by omega, fun x hx => ?_, ?_⟩
  ·simp only [yJb] at hx
   rcases hx with rfl | hx
   ·omega
   ·exact h2 x hx
  ·rcases h3 with h3 | ⟨x, hx, h3⟩
   ·rcases Int.le_total b (p y) with h | h
    ·left; omega
    ·right; exact ⟨y, by simp, by omega⟩
   ·exact .inr ⟨x, by simp [hx], h3⟩
theorem zTi (p : Change → Int) : ∀ (r : List Change) (b : Int), b ≤ r.foldl (fun b x => max b (p x)) b ∧ (∀ x ∈ r, p x ≤ r.foldl (fun b x => max b (p x)) b) ∧ (r.foldl (fun b x => max b (p x)) b = b ∨ ∃ x ∈ r, r.foldl (fun b x => max b (p x)) b = p x)
 | [], b => ⟨yM6 _, fun x h => by simp at h, .inl rfl⟩
 | y :: r, b => by
  obtain ⟨h1, h2, h3⟩ := zTi p r (max b (p y))
  simp only [yJ1]
  refine ⟨by omega, fun x hx => ?_, ?_⟩
  ·simp only [yJb] at hx
   rcases hx with rfl | hx
   ·omega
   ·exact h2 x hx
  ·rcases h3 with h3 | ⟨x, hx, h3⟩
   ·rcases Int.le_total b (p y) with h | h
    ·right; exact ⟨y, by simp, by omega⟩
    ·left; omega
   ·exact .inr ⟨x, by simp [hx], h3⟩
theorem zO9 {p : Change → Int} {l : List Change} (h : l ≠ []) : (∀ x ∈ l, (zFi 1 p l).1 ≤ p x) ∧ ∃ x ∈ l, (zFi 1 p l).1 = p x := by
 match l, h with
 | c :: r, _ =>
  rw [zCm]
  obtain ⟨h1, h2, h3⟩ := zTh p r (p c)
  refine ⟨fun x hx => ?_, ?_⟩
  ·simp only [yJb] at hx
   rcases hx with rfl | hx
   ·exact h1
   ·exact h2 x hx
  ·rcases h3 with h3 | ⟨x, hx, h3⟩
   ·exact ⟨c, by simp, h3⟩
   ·exact ⟨x, by simp [hx], h3⟩
theorem zOa {p : Change → Int} {l : List Change} (h : l ≠ []) : (∀ x ∈ l, p x ≤ (zFi (-1) p l).1) ∧ ∃ x ∈ l, (zFi (-1) p l).1 = p x := by
 match l, h with
 | c :: r, _ =>
  rw [zCn]
  obtain ⟨h1, h2, h3⟩ := zTi p r (p c)
  refine ⟨fun x hx => ?_, ?_⟩
  ·simp only [yJb] at hx
   rcases hx with rfl | hx
   ·exact h1
   ·exact h2 x hx
  ·rcases h3 with h3 | ⟨x, hx, h3⟩
   ·exact ⟨c, by simp, h3⟩
   ·exact ⟨x, by simp [hx], h3⟩
theorem zXc {l : List Change} {k : Nat} (h : k < l.length) : gD l k ∈ l := by rw [yBc h]; exact yLb h
theorem zCf {l : List Change} {i : Iv} {x : Change} (h : x ∈ qO l i l.length) : x ∈ l := by
 simp only [qO, yKb, yLi, yL1] at h
 obtain ⟨k, ⟨hk, _⟩, rfl⟩ := h
 exact zXc hk
theorem zJu (l : List Change) (t : Int) (n : Nat) : zGw l ⟨t, t⟩ n = [] := by
 simp only [zGw, List.map_eq_nil_iff, List.filter_eq_nil_iff, yL1, yJm]
 intro k _ h
 omega
structure ChP (l : List Change) (i : Iv) (t : Int) (a b : Change) : Prop where
 ea : linkBoundsM l i = (a, 0)
 eb : linkBoundsM l ⟨t, t⟩ = (b, 0)
 ta : a.at_ = i.lo
 tb : b.at_ = t
 n1 : a.outLo ≤ b.outLo
 n2 : b.outHi ≤ a.outHi
 n3 : a.backLo ≤ b.backLo
 n4 : b.backHi ≤ a.backHi
 f1 : ∃ x ∈ l, x.outLo = a.outLo
 f2 : ∃ x ∈ l, x.outHi = a.outHi
 f3 : ∃ x ∈ l, x.backLo = a.backLo
 f4 : ∃ x ∈ l, x.backHi = a.backHi
 f5 : ∃ x ∈ l, { x with at_ := t } = b
theorem yBr {l : List Change} {i : Iv} {t : Int} (hl : validM l = true) (hi : qA i = true) (ht : i.lo ≤ t ∧ t ≤ i.hi) : ∃ a b, ChP l i t a b := by
 have hv := hl
 rw [validM, yJm] at hv
 obtain ⟨v1, v2, v3, v4, v5⟩ := hv
 have hi' := (kD i).1 hi
 have hs := zKy v5
 have htv : qA ⟨t, t⟩ = true := by rw [kD]; simp only; omega
 obtain ⟨q, q1, q2, q3⟩ := zX8 (lo := t) v1 (by omega) hs
 -- the delays in force at the time
 have hq : inF l i q = true := by
  simp only [inF, yJl, yJn, yKv, yKu, yJm]
  have e : ((q : Int) + 1).toNat = q + 1 := by omega
  rw [e]
  refine ⟨?_, by omega⟩
  by_cases hn : q + 1 < l.length
  ·have := q3 (q + 1) (by omega) hn; right; omega
  ·left; omega
 have hqm : gD l q ∈ qO l i l.length := by
  simp only [qO, yKb, yLi, yL1]
  exact ⟨q, ⟨q1, hq⟩, rfl⟩
 have hne : qO l i l.length ≠ [] := List.ne_nil_of_mem hqm
 have hone : qO l ⟨t, t⟩ l.length = [gD l q] := by
  have hat : ∀ n, n ≤ l.length → q < n → atM l t n = gD l q := by
   intro n
   induction n with
   | zero => intro _ h; omega
   | succ n ih =>
    intro hn hqn
    rw [zEk]
    by_cases hnq : n = q
    ·subst hnq; rw [if_pos q2]
    ·have := q3 n (by omega) (by omega)
     rw [if_neg (by omega)]
     exact ih (by omega) (by omega)
  rw [zO6 v1 (by simp only; omega) (yM6 _) hs, zJu, hat l.length (yIn _) q1]
 refine ⟨_, _, by rw [linkBoundsM, if_pos ⟨hl, hi⟩], by rw [linkBoundsM, if_pos ⟨hl, htv⟩], rfl, rfl, ?_, ?_, ?_, ?_, ?_, ?_, ?_, ?_, ?_⟩
 all_goals simp only [hone]
 ·rw [zCm]; exact (zO9 hne).1 _ hqm
 ·rw [zCn]; exact (zOa hne).1 _ hqm
 ·rw [zCm]; exact (zO9 hne).1 _ hqm
 ·rw [zCn]; exact (zOa hne).1 _ hqm
 ·obtain ⟨x, hx, e⟩ := (zO9 (p := Change.outLo) hne).2; exact ⟨x, zCf hx, e.symm⟩
 ·obtain ⟨x, hx, e⟩ := (zOa (p := Change.outHi) hne).2; exact ⟨x, zCf hx, e.symm⟩
 ·obtain ⟨x, hx, e⟩ := (zO9 (p := Change.backLo) hne).2; exact ⟨x, zCf hx, e.symm⟩
 ·obtain ⟨x, hx, e⟩ := (zOa (p := Change.backHi) hne).2; exact ⟨x, zCf hx, e.symm⟩
 ·refine ⟨gD l q, zXc q1, ?_⟩
  simp only [zCm, zCn, List.foldl_nil]
theorem bounds_formed {l : List Change} {i : Iv} (hl : validM l = true) (hi : qA i = true) : formedM (linkBoundsM l i).1 = true := by
 have hi' := (kD i).1 hi
 obtain ⟨a, b, h⟩ := yBr hl hi (t := i.lo) ⟨yM6 _, hi'.2.1⟩
 have hall : ∀ x ∈ l, 0 ≤ x.outLo ∧ x.outLo ≤ x.outHi ∧ x.outHi ≤ 1000000 ∧ 0 ≤ x.backLo ∧ x.backLo ≤ x.backHi ∧ x.backHi ≤ 1000000 := fun x hx => by
  rw [validM, yJm] at hl
  obtain ⟨k, hk, rfl⟩ := yL8.1 hx
  have := (hl.2.2.2.2 k hk).1
  rw [yBc hk, formed_iff] at this
  exact this
 rw [h.ea, formed_iff]
 obtain ⟨x1, m1, e1⟩ := h.f1
 obtain ⟨x2, m2, e2⟩ := h.f2
 obtain ⟨x3, m3, e3⟩ := h.f3
 obtain ⟨x4, m4, e4⟩ := h.f4
 obtain ⟨x5, m5, e5⟩ := h.f5
 have a1 := hall _ m1
 have a2 := hall _ m2
 have a3 := hall _ m3
 have a4 := hall _ m4
 have a5 := hall _ m5
 have n1 := h.n1
 have n2 := h.n2
 have n3 := h.n3
 have n4 := h.n4
 rw [← e5] at n1 n2 n3 n4
 simp only at n1 n2 n3 n4 ⊢
 omega
end Lk
end Go.Proofs.YtchpbdecipcelaaGreatDoor
