/- The abstract logic: calls of functions that write variables of their callers. -/
import Derived.Test.YtihnjbnlbedpaaaDoorAlG
namespace Go.Proofs.YtihnjbnlbedpaaaDoor
set_option linter.unusedVariables false
set_option linter.unusedSimpArgs false
set_option maxHeartbeats 4000000
set_option maxRecDepth 100000
open Go.RowKit

mutual
/-- Variables and rows get other numbers. -/
def AV.ren (f g : Nat → Nat) : AV → AV
  | .raw v => .raw v
  | .agg cs => .agg (AV.renL f g cs)
  | .tup cs => .tup (AV.renL f g cs)
  | .lst sz n el => .lst sz n fun i => AV.renL f g (el i)
  | .elt cs off => .elt (AV.renL f g cs) off
  | .box b off => .box (f b) off
  | .fn h first cap => .fn h (AV.renL f g first) (AV.renL f g cap)
  | .row k n => .row (g k) n
  | .bsl sz b off n cap => .bsl sz (f b) off n cap
def AV.renL (f g : Nat → Nat) : List AV → List AV
  | [] => []
  | c :: cs => AV.ren f g c :: AV.renL f g cs
end
mutual
/-- Only the first variables and rows are named. -/
def AV.sub (m n : Nat) : AV → Prop
  | .raw _ => True
  | .agg cs => AV.subL m n cs
  | .tup cs => AV.subL m n cs
  | .lst _ k el => ∀ i, i < k → AV.subL m n (el i)
  | .elt cs _ => AV.subL m n cs
  | .box b _ => b < m
  | .fn _ first cap => AV.subL m n first ∧ AV.subL m n cap
  | .row k _ => k < n
  | .bsl _ b _ _ _ => b < m
def AV.subL (m n : Nat) : List AV → Prop
  | [] => True
  | c :: cs => AV.sub m n c ∧ AV.subL m n cs
end
section
variable {G G' : Gh} {w : World} {f g : Nat → Nat}
theorem AV.renL_length (f g : Nat → Nat) : ∀ (xs : List AV), (AV.renL f g xs).length = xs.length
  | [] => rfl
  | _ :: xs => by simp [AV.renL, AV.renL_length f g xs]
mutual
theorem AV.rel_ren (h0 : ∀ b o, G.imm b o → G'.imm b o) (hb : ∀ (k x : Nat), G.bx[k]? = some x → G'.bx[f k]? = some x) (hr : ∀ (k : Nat) (e : Nat × Value), G.rw[k]? = some e → G'.rw[g k]? = some e) : ∀ (x : AV) (v : Value), x.rel G w v → (x.ren f g).rel G' w v
  | .raw _, _, h => h
  | .agg cs, _, h => by
    obtain ⟨vs, e, h⟩ := h
    exact ⟨vs, e, AV.relL_ren h0 hb hr cs vs h⟩
  | .tup cs, _, h => by
    obtain ⟨vs, e, h⟩ := h
    exact ⟨vs, e, AV.relL_ren h0 hb hr cs vs h⟩
  | .lst sz n el, _, h => by
    obtain ⟨A, cap, e, h1, h2, h3⟩ := h
    refine ⟨A, cap, e, h1, h2, fun hn => ?_⟩
    obtain ⟨b, o, hA, h4⟩ := h3 hn
    refine ⟨b, o, hA, fun i hi => ?_⟩
    obtain ⟨vs, h5, h6, h7⟩ := h4 i hi
    exact ⟨vs, AV.relL_ren h0 hb hr (el i) vs h5, h6, fun j u hj => ⟨h0 _ _ (h7 j u hj).1, (h7 j u hj).2⟩⟩
  | .elt cs off, _, h => by
    obtain ⟨b, o, vs, e, h1, h2⟩ := h
    exact ⟨b, o, vs, e, AV.relL_ren h0 hb hr cs vs h1, fun j u hj => ⟨h0 _ _ (h2 j u hj).1, (h2 j u hj).2⟩⟩
  | .box b off, _, h => by
    obtain ⟨blk, h1, h2⟩ := h
    exact ⟨blk, hb _ _ h1, h2⟩
  | .fn _ first cap, _, h => by
    obtain ⟨fs, cs, e, h1, h2⟩ := h
    exact ⟨fs, cs, e, AV.relL_ren h0 hb hr first fs h1, AV.relL_ren h0 hb hr cap cs h2⟩
  | .bsl _ b off n cap, _, h => by
    obtain ⟨blk, A, h1, h2⟩ := h
    exact ⟨blk, A, hb _ _ h1, h2⟩
  | .row k n, _, h => by
    obtain ⟨e, h1, h2⟩ := h
    exact ⟨e, hr _ _ h1, h2⟩
theorem AV.relL_ren (h0 : ∀ b o, G.imm b o → G'.imm b o) (hb : ∀ (k x : Nat), G.bx[k]? = some x → G'.bx[f k]? = some x) (hr : ∀ (k : Nat) (e : Nat × Value), G.rw[k]? = some e → G'.rw[g k]? = some e) : ∀ (xs : List AV) (vs : List Value), AV.relL G w xs vs → AV.relL G' w (AV.renL f g xs) vs
  | [], _, h => h
  | x :: xs, _, h => by
    obtain ⟨v, r, e, h1, h2⟩ := h
    exact ⟨v, r, e, AV.rel_ren h0 hb hr x v h1, AV.relL_ren h0 hb hr xs r h2⟩
end
mutual
theorem AV.rel_unren {m n : Nat} (h0 : ∀ b o, G'.imm b o → G.imm b o) (hb : ∀ (k x : Nat), k < m → G'.bx[f k]? = some x → G.bx[k]? = some x) (hr : ∀ (k : Nat) (e : Nat × Value), k < n → G'.rw[g k]? = some e → G.rw[k]? = some e) : ∀ (x : AV) (v : Value), x.sub m n → (x.ren f g).rel G' w v → x.rel G w v
  | .raw _, _, _, h => h
  | .agg cs, _, s, h => by
    obtain ⟨vs, e, h⟩ := h
    exact ⟨vs, e, AV.relL_unren h0 hb hr cs vs s h⟩
  | .tup cs, _, s, h => by
    obtain ⟨vs, e, h⟩ := h
    exact ⟨vs, e, AV.relL_unren h0 hb hr cs vs s h⟩
  | .lst sz n el, _, s, h => by
    obtain ⟨A, cap, e, h1, h2, h3⟩ := h
    refine ⟨A, cap, e, h1, h2, fun hn => ?_⟩
    obtain ⟨b, o, hA, h4⟩ := h3 hn
    refine ⟨b, o, hA, fun i hi => ?_⟩
    obtain ⟨vs, h5, h6, h7⟩ := h4 i hi
    exact ⟨vs, AV.relL_unren h0 hb hr (el i) vs (s i hi) h5, h6, fun j u hj => ⟨h0 _ _ (h7 j u hj).1, (h7 j u hj).2⟩⟩
  | .elt cs off, _, s, h => by
    obtain ⟨b, o, vs, e, h1, h2⟩ := h
    exact ⟨b, o, vs, e, AV.relL_unren h0 hb hr cs vs s h1, fun j u hj => ⟨h0 _ _ (h2 j u hj).1, (h2 j u hj).2⟩⟩
  | .box b off, _, s, h => by
    obtain ⟨blk, h1, h2⟩ := h
    exact ⟨blk, hb _ _ s h1, h2⟩
  | .fn _ first cap, _, s, h => by
    obtain ⟨fs, cs, e, h1, h2⟩ := h
    exact ⟨fs, cs, e, AV.relL_unren h0 hb hr first fs s.1 h1, AV.relL_unren h0 hb hr cap cs s.2 h2⟩
  | .bsl _ b off n cap, _, s, h => by
    obtain ⟨blk, A, h1, h2⟩ := h
    exact ⟨blk, A, hb _ _ s h1, h2⟩
  | .row k n, _, s, h => by
    obtain ⟨e, h1, h2⟩ := h
    exact ⟨e, hr _ _ s h1, h2⟩
theorem AV.relL_unren {m n : Nat} (h0 : ∀ b o, G'.imm b o → G.imm b o) (hb : ∀ (k x : Nat), k < m → G'.bx[f k]? = some x → G.bx[k]? = some x) (hr : ∀ (k : Nat) (e : Nat × Value), k < n → G'.rw[g k]? = some e → G.rw[k]? = some e) : ∀ (xs : List AV) (vs : List Value), AV.subL m n xs → AV.relL G' w (AV.renL f g xs) vs → AV.relL G w xs vs
  | [], _, _, h => h
  | x :: xs, _, s, h => by
    obtain ⟨v, r, e, h1, h2⟩ := h
    exact ⟨v, r, e, AV.rel_unren h0 hb hr x v s.1 h1, AV.relL_unren h0 hb hr xs r s.2 h2⟩
end
end
/-- The number that a callee's variable has with the caller: one that was handed over, or a new one. -/
def idx (ib : List Nat) (len k : Nat) : Nat := match ib[k]? with
  | some j => j
  | none => len + (k - ib.length)
theorem idx_old {ib : List Nat} {len k j : Nat} (h : ib[k]? = some j) : idx ib len k = j := by unfold idx; rw [h]
theorem idx_new {ib : List Nat} {len k : Nat} (h : ib.length ≤ k) : idx ib len k = len + (k - ib.length) := by
  unfold idx; rw [List.getElem?_eq_none h]
def ARow.ren (f g : Nat → Nat) (r : ARow) : ARow := ⟨r.e, r.sz, r.n, fun q => AV.renL f g (r.el q)⟩
/-- What is handed over: some of the caller's things, in the callee's numbers. -/
structure Handed {α : Type} (ib : List Nat) (bx sub : List α) (rn : α → α) : Prop where
  nodup : ib.Nodup
  len : sub.length = ib.length
  pick : ∀ (k j : Nat), ib[k]? = some j → ∃ c, sub[k]? = some c ∧ bx[j]? = some (rn c)
/-- What there is behind the call. -/
structure Upd {α : Type} (ib : List Nat) (bx sub' bx' : List α) (rn : α → α) : Prop where
  long : ib.length ≤ sub'.length
  len : bx'.length = bx.length + (sub'.length - ib.length)
  here : ∀ (k j : Nat), ib[k]? = some j → bx'[j]? = (sub'[k]?).map rn
  other : ∀ j, j < bx.length → j ∉ ib → bx'[j]? = bx[j]?
  new : ∀ q, bx'[bx.length + q]? = (sub'[ib.length + q]?).map rn
def setAll {α : Type} : List α → List Nat → List α → List α
  | bx, i :: ib, c :: cs => setAll (bx.set i c) ib cs
  | bx, _, cs => bx ++ cs
theorem setAll_upd {α : Type} (rn : α → α) : ∀ (ib : List Nat) (bx sub' : List α), ib.Nodup → (∀ j ∈ ib, j < bx.length) → ib.length ≤ sub'.length → Upd ib bx sub' (setAll bx ib (sub'.map rn)) rn
  | [], bx, sub', _, _, _ => ⟨Nat.zero_le _, by simp [setAll], fun k j h => by simp at h, fun j hj _ => by simp only [setAll]; rw [List.getElem?_append_left hj], fun q => by
      simp only [setAll, List.length_nil, Nat.zero_add]
      rw [List.getElem?_append_right (by omega), Nat.add_sub_cancel_left, List.getElem?_map]⟩
  | i :: ib, bx, [], _, _, h => by simp at h
  | i :: ib, bx, c :: cs, hn, hl, h => by
    obtain ⟨hi, hn'⟩ := List.nodup_cons.1 hn
    have U := setAll_upd rn ib (bx.set i (rn c)) cs hn' (fun j hj => by rw [List.length_set]; exact hl j (by simp [hj])) (by simpa using h)
    have hil := hl i (by simp)
    have hsl : (bx.set i (rn c)).length = bx.length := by simp
    refine ⟨h, by simp only [List.map_cons, setAll]; rw [U.len, hsl]; simp, fun k j hk => ?_, fun j hj hm => ?_, fun q => ?_⟩
    · simp only [List.map_cons, setAll]
      cases k with
      | zero =>
        simp only [List.getElem?_cons_zero, Option.some.injEq] at hk
        subst hk
        rw [U.other i (by rw [hsl]; exact hil) hi]
        simp [hil]
      | succ k =>
        rw [U.here k j (by simpa using hk)]
        simp
    · simp only [List.mem_cons, not_or] at hm
      simp only [List.map_cons, setAll]
      rw [U.other j (by rw [hsl]; exact hj) hm.2, List.getElem?_set_ne (fun e => hm.1 e.symm)]
    · simp only [List.map_cons, setAll]
      have := U.new q
      rw [hsl] at this
      rw [this]
      simp [Nat.add_right_comm]
end Go.Proofs.YtihnjbnlbedpaaaDoor
