import Derived.Test.YtioaahmkebojiaaGreatDoorWC44
import Derived.Test.YtioaahmkebojiaaGreatDoorWC45
namespace Go.Proofs.YtioaahmkebojiaaGreatDoor
set_option linter.unusedVariables false
set_option linter.unusedSimpArgs false
set_option maxHeartbeats 4000000
set_option maxRecDepth 100000
open Go.RowKit
set_option maxRecDepth 1000000 in
theorem zSj (b1 b2 b3 b4 : Bool) : @runsQ (spI b1 b2 b3 b4) O7 evT1 evF1 1000 4 = some true := by kernel_rfl
theorem zX2 : ∀ t z, zU1 t = some z → (Tryz.prog.info? t).bind (·.zero) = some z := fun t z h => by
 unfold zU1 at h
 cases h1 : Nat.beq t 4 with
 | true => rw [h1] at h; cases h; obtain rfl := yMs h1; kernel_rfl
 | false =>
  rw [h1] at h
  cases h2 : Nat.beq t 141 with
  | true => rw [h2] at h; cases h; obtain rfl := yMs h2; kernel_rfl
  | false =>
   rw [h2] at h
   cases h3 : Nat.beq t 3 with
   | true => rw [h3] at h; cases h; obtain rfl := yMs h3; kernel_rfl
   | false =>
    rw [h3] at h
    cases h4 : Nat.beq t 5 with
    | true => rw [h4] at h; cases h; obtain rfl := yMs h4; kernel_rfl
    | false => rw [h4] at h; cases h
theorem zYn : FnA Tryz.prog 4 [] (.raw (.bool true)) := by
 have key := fun b1 b2 b3 b4 => @zUm (spI b1 b2 b3 b4) Tryz.prog O7 evT1 evF1 (qZ b1 b2 b3 b4) (yA7 b1 b2 b3 b4) wE vY kq ⟨by kernel_rfl, zX2⟩ _ _ _ (zSj b1 b2 b3 b4)
 refine ⟨(key true true true true).1, fun imm w vs htb hi hr => ?_⟩
 have hvs : vs = [] := hr
 subst hvs
 obtain ⟨b1, b2, b3, b4, hs⟩ := zXl htb
 exact (key b1 b2 b3 b4).2 imm w hs hi
theorem zN3 {P : Program} {full : List Oper} {all : Bool} {bx0 : List (List AV)} {k : ASt → Prop} (I : List Nat → ASt → Prop) (hk : ∀ s, I [] s → k s)
  (h : ∀ rem st, I rem st → ∀ i, i ∈ rem → yC1 full rem i = true → ∀ o, full[i]? = some o → zL2 P full.toArray all bx0 o (I (rem.erase i)) st) : ∀ (m : Nat) (rem : List Nat) (st : ASt), rem.length = m → I rem st → runT P full all bx0 m rem k st
 | 0, rem, st, hl, hI => by
  obtain rfl := List.length_eq_zero_iff.1 hl
  exact hk st hI
 | m + 1, rem, st, hl, hI => fun i hi hc o ho => zGd (fun s hs => zN3 I hk h m (rem.erase i) s (by rw [List.length_erase_of_mem hi]; omega) hs) (h rem st hI i hi hc o ho)
def Kn (sl : List (Nat × (Bool × AV))) (t : Nat) (x : AV) : Prop := yL t sl = some (true, x)
theorem Kn.new {sl : List (Nat × (Bool × AV))} {d : Nat} {x : AV} : Kn ((d, (true, x)) :: sl) d x := by simp [Kn, zL]
theorem Kn.cons {sl : List (Nat × (Bool × AV))} {t d : Nat} {x : AV} {y : Bool × AV} (h : Kn sl t x) (hne : t ≠ d) : Kn ((d, y) :: sl) t x := by
 unfold Kn at *
 rw [zL, if_neg hne]
 exact h
section
variable (base : List (Nat × AV)) (spec : List (Nat × Nat × AV)) (A A' B : List AV)
structure In9 (D : Nat → Prop) (sl : List (Nat × (Bool × AV))) (ext : List (List AV)) (rw : List zV) : Prop where
 base : ∀ p ∈ base, Kn sl p.1 p.2
 spec : ∀ p ∈ spec, D p.1 → Kn sl p.2.1 p.2.2
 map : (¬ D 0 ∧ rw = []) ∨ (D 0 ∧ rw = [jK zDb] ∧ Kn sl 38 (.row 0 0))
 last : D 18 → D 16 ∧ D 17
 ext : (¬ D 16 ∧ ¬ D 17 ∧ ext = []) ∨ (D 16 ∧ ¬ D 17 ∧ ext = [A] ∧ Kn sl 10 (.box 5 0)) ∨ (¬ D 16 ∧ D 17 ∧ ext = [B] ∧ Kn sl 11 (.box 5 0)) ∨
  (D 16 ∧ D 17 ∧ ∃ X, (¬ D 18 ∧ X = A ∨ D 18 ∧ X = A') ∧ ((ext = [X, B] ∧ Kn sl 10 (.box 5 0) ∧ Kn sl 11 (.box 6 0)) ∨ (ext = [B, X] ∧ Kn sl 10 (.box 6 0) ∧ Kn sl 11 (.box 5 0))))
end
variable {base : List (Nat × AV)} {spec : List (Nat × Nat × AV)} {A A' B : List AV} {D : Nat → Prop} {sl : List (Nat × (Bool × AV))} {ext : List (List AV)} {rw : List zV}
theorem In9.len (H : In9 base spec A A' B D sl ext rw) : ext.length ≤ 2 := by
 rcases H.ext with ⟨_, _, rfl⟩ | ⟨_, _, rfl, _⟩ | ⟨_, _, rfl, _⟩ | ⟨_, _, X, _, ⟨rfl, _⟩ | ⟨rfl, _⟩⟩ <;> simp
theorem In9.val (H : In9 base spec A A' B D sl ext rw) {i d : Nat} {x : AV} (hx : ∀ p ∈ spec, p.1 = i → p.2.1 = d ∧ p.2.2 = x) (hd : ∀ p ∈ spec, p.1 ≠ i → p.2.1 ≠ d) (hb : ∀ p ∈ base, p.1 ≠ d) (hi : i ≠ 0 ∧ i ≠ 16 ∧ i ≠ 17 ∧ i ≠ 18) (h38 : (38 : Nat) ≠ d) (h10 : (10 : Nat) ≠ d) (h11 : (11 : Nat) ≠ d) :
  In9 base spec A A' B (fun j => j = i ∨ D j) ((d, (true, x)) :: sl) ext rw := by
 obtain ⟨i0, i16, i17, i18⟩ := hi
 have e : ∀ j, j ≠ i → ((j = i ∨ D j) ↔ D j) := fun j hj => ⟨fun h => h.resolve_left hj, .inr⟩
 refine ⟨fun p hp => (H.base p hp).cons (hb p hp), fun p hp h => ?_, ?_, ?_, ?_⟩
 ·by_cases hpi : p.1 = i
  ·obtain ⟨h1, h2⟩ := hx p hp hpi
   rw [h1, h2]
   exact Kn.new
  ·exact (H.spec p hp (h.resolve_left hpi)).cons (hd p hp hpi)
 ·simp only [e 0 (Ne.symm i0)]
  exact H.map.imp_right fun h => ⟨h.1, h.2.1, h.2.2.cons h38⟩
 ·simp only [e 16 (Ne.symm i16), e 17 (Ne.symm i17), e 18 (Ne.symm i18)]
  exact H.last
 ·simp only [e 16 (Ne.symm i16), e 17 (Ne.symm i17), e 18 (Ne.symm i18)]
  rcases H.ext with h | ⟨h1, h2, h3, h4⟩ | ⟨h1, h2, h3, h4⟩ | ⟨h1, h2, X, h3, h4 | h4⟩
  ·exact .inl h
  ·exact .inr (.inl ⟨h1, h2, h3, h4.cons h10⟩)
  ·exact .inr (.inr (.inl ⟨h1, h2, h3, h4.cons h11⟩))
  ·exact .inr (.inr (.inr ⟨h1, h2, X, h3, .inl ⟨h4.1, h4.2.1.cons h10, h4.2.2.cons h11⟩⟩))
  ·exact .inr (.inr (.inr ⟨h1, h2, X, h3, .inr ⟨h4.1, h4.2.1.cons h10, h4.2.2.cons h11⟩⟩))
theorem In9.maps (H : In9 base spec A A' B D sl ext rw) (hs : ∀ p ∈ spec, p.1 ≠ 0 ∧ p.2.1 ≠ 38) (hb : ∀ p ∈ base, p.1 ≠ 38) : In9 base spec A A' B (fun j => j = 0 ∨ D j) ((38, (true, .row 0 0)) :: sl) ext [jK zDb] := by
 have e : ∀ j, j ≠ 0 → ((j = 0 ∨ D j) ↔ D j) := fun j hj => ⟨fun h => h.resolve_left hj, .inr⟩
 refine ⟨fun p hp => (H.base p hp).cons (hb p hp), fun p hp h => (H.spec p hp (h.resolve_left (hs p hp).1)).cons (hs p hp).2, .inr ⟨.inl rfl, rfl, Kn.new⟩, ?_, ?_⟩
 ·simp only [e 16 dq, e 17 dq, e 18 dq]
  exact H.last
 ·simp only [e 16 dq, e 17 dq, e 18 dq]
  rcases H.ext with h | ⟨h1, h2, h3, h4⟩ | ⟨h1, h2, h3, h4⟩ | ⟨h1, h2, X, h3, h4 | h4⟩
  ·exact .inl h
  ·exact .inr (.inl ⟨h1, h2, h3, h4.cons dq⟩)
  ·exact .inr (.inr (.inl ⟨h1, h2, h3, h4.cons dq⟩))
  ·exact .inr (.inr (.inr ⟨h1, h2, X, h3, .inl ⟨h4.1, h4.2.1.cons dq, h4.2.2.cons dq⟩⟩))
  ·exact .inr (.inr (.inr ⟨h1, h2, X, h3, .inr ⟨h4.1, h4.2.1.cons dq, h4.2.2.cons dq⟩⟩))
theorem In9.a16 (H : In9 base spec A A' B D sl ext rw) (h0 : ¬ D 16) (hs : ∀ p ∈ spec, p.1 ≠ 16 ∧ p.2.1 ≠ 10) (hb : ∀ p ∈ base, p.1 ≠ 10) : In9 base spec A A' B (fun j => j = 16 ∨ D j) ((10, (true, .box (5 + ext.length) 0)) :: sl) (ext ++ [A]) rw := by
 have e : ∀ j, j ≠ 16 → ((j = 16 ∨ D j) ↔ D j) := fun j hj => ⟨fun h => h.resolve_left hj, .inr⟩
 refine ⟨fun p hp => (H.base p hp).cons (hb p hp), fun p hp h => (H.spec p hp (h.resolve_left (hs p hp).1)).cons (hs p hp).2, ?_, ?_, ?_⟩
 ·simp only [e 0 dq]
  exact H.map.imp_right fun h => ⟨h.1, h.2.1, h.2.2.cons dq⟩
 ·simp only [e 18 dq]
  exact fun h => absurd (H.last h).1 h0
 ·simp only [e 17 dq, e 18 dq, true_or, not_true, false_and, yMv, false_or]
  have h18 : ¬ D 18 := fun h => h0 (H.last h).1
  rcases H.ext with ⟨_, h2, rfl⟩ | ⟨h1, _⟩ | ⟨_, h2, rfl, h4⟩ | ⟨h1, _⟩
  ·exact .inl ⟨h2, rfl, Kn.new⟩
  ·exact absurd h1 h0
  ·exact .inr ⟨h2, A, .inl ⟨h18, rfl⟩, .inr ⟨rfl, Kn.new, h4.cons dq⟩⟩
  ·exact absurd h1 h0
theorem In9.a17 (H : In9 base spec A A' B D sl ext rw) (h0 : ¬ D 17) (hs : ∀ p ∈ spec, p.1 ≠ 17 ∧ p.2.1 ≠ 11) (hb : ∀ p ∈ base, p.1 ≠ 11) : In9 base spec A A' B (fun j => j = 17 ∨ D j) ((11, (true, .box (5 + ext.length) 0)) :: sl) (ext ++ [B]) rw := by
 have e : ∀ j, j ≠ 17 → ((j = 17 ∨ D j) ↔ D j) := fun j hj => ⟨fun h => h.resolve_left hj, .inr⟩
 refine ⟨fun p hp => (H.base p hp).cons (hb p hp), fun p hp h => (H.spec p hp (h.resolve_left (hs p hp).1)).cons (hs p hp).2, ?_, ?_, ?_⟩
 ·simp only [e 0 dq]
  exact H.map.imp_right fun h => ⟨h.1, h.2.1, h.2.2.cons dq⟩
 ·simp only [e 18 dq]
  exact fun h => absurd (H.last h).2 h0
 ·simp only [e 16 dq, e 18 dq, true_or, not_true, false_and, and_false, yMv, false_or]
  have h18 : ¬ D 18 := fun h => h0 (H.last h).2
  rcases H.ext with ⟨h1, _, rfl⟩ | ⟨h1, _, rfl, h4⟩ | ⟨_, h2, _⟩ | ⟨_, h2, _⟩
  ·exact .inl ⟨h1, rfl, Kn.new⟩
  ·exact .inr ⟨h1, A, .inl ⟨h18, rfl⟩, .inl ⟨rfl, h4.cons dq, Kn.new⟩⟩
  ·exact absurd h2 h0
  ·exact absurd h2 h0
theorem In9.s18 (H : In9 base spec A A' B D sl ext rw) (h16 : D 16) (h17 : D 17) (h18 : ¬ D 18) (hs : ∀ p ∈ spec, p.1 ≠ 18) : (ext = [A, B] ∧ Kn sl 10 (.box 5 0) ∧ In9 base spec A A' B (fun j => j = 18 ∨ D j) sl [A', B] rw) ∨ (ext = [B, A] ∧ Kn sl 10 (.box 6 0) ∧ In9 base spec A A' B (fun j => j = 18 ∨ D j) sl [B, A'] rw) := by
 have e : ∀ j, j ≠ 18 → ((j = 18 ∨ D j) ↔ D j) := fun j hj => ⟨fun h => h.resolve_left hj, .inr⟩
 have mk : ∀ ext', (∃ X, (¬ (18 = 18 ∨ D 18) ∧ X = A ∨ (18 = 18 ∨ D 18) ∧ X = A') ∧ ((ext' = [X, B] ∧ Kn sl 10 (.box 5 0) ∧ Kn sl 11 (.box 6 0)) ∨ (ext' = [B, X] ∧ Kn sl 10 (.box 6 0) ∧ Kn sl 11 (.box 5 0)))) → In9 base spec A A' B (fun j => j = 18 ∨ D j) sl ext' rw := fun ext' h =>
  ⟨H.base, fun p hp h => H.spec p hp (h.resolve_left (hs p hp)), by simp only [e 0 dq]; exact H.map, fun _ => ⟨.inr h16, .inr h17⟩, .inr (.inr (.inr ⟨.inr h16, .inr h17, h⟩))⟩
 rcases H.ext with ⟨h1, _⟩ | ⟨_, h2, _⟩ | ⟨h1, _⟩ | ⟨_, _, X, h3, h4⟩
 ·exact absurd h16 h1
 ·exact absurd h17 h2
 ·exact absurd h16 h1
 ·rcases h3 with ⟨_, rfl⟩ | ⟨h5, _⟩
  ·rcases h4 with ⟨h5, h6, h7⟩ | ⟨h5, h6, h7⟩
   ·exact .inl ⟨h5, h6, mk _ ⟨A', .inr ⟨.inl rfl, rfl⟩, .inl ⟨rfl, h6, h7⟩⟩⟩
   ·exact .inr ⟨h5, h6, mk _ ⟨A', .inr ⟨.inl rfl, rfl⟩, .inr ⟨rfl, h6, h7⟩⟩⟩
  ·exact absurd h5 h18
theorem In9.s19 (H : In9 base spec A A' B D sl ext rw) (h18 : D 18) (hs : ∀ p ∈ spec, p.1 ≠ 19) : ((ext = [A', B] ∧ Kn sl 11 (.box 6 0)) ∨ (ext = [B, A'] ∧ Kn sl 11 (.box 5 0))) ∧ In9 base spec A A' B (fun j => j = 19 ∨ D j) sl ext rw := by
 have e : ∀ j, j ≠ 19 → ((j = 19 ∨ D j) ↔ D j) := fun j hj => ⟨fun h => h.resolve_left hj, .inr⟩
 obtain ⟨h16, h17⟩ := H.last h18
 refine ⟨?_, H.base, fun p hp h => H.spec p hp (h.resolve_left (hs p hp)), by simp only [e 0 dq]; exact H.map, fun _ => ⟨.inr h16, .inr h17⟩, by simp only [e 16 dq, e 17 dq, e 18 dq]; exact H.ext⟩
 rcases H.ext with ⟨h1, _⟩ | ⟨_, h2, _⟩ | ⟨h1, _⟩ | ⟨_, _, X, h3, h4⟩
 ·exact absurd h16 h1
 ·exact absurd h17 h2
 ·exact absurd h16 h1
 ·rcases h3 with ⟨h5, _⟩ | ⟨_, rfl⟩
  ·exact absurd h18 h5
  ·exact h4.imp (fun h => ⟨h.1, h.2.2⟩) fun h => ⟨h.1, h.2.2⟩
theorem In9.all (H : In9 base spec A A' B (fun _ => True) sl ext rw) : rw = [jK zDb] ∧ ((ext = [A', B] ∧ Kn sl 10 (.box 5 0) ∧ Kn sl 11 (.box 6 0)) ∨ (ext = [B, A'] ∧ Kn sl 10 (.box 6 0) ∧ Kn sl 11 (.box 5 0))) := by
 refine ⟨?_, ?_⟩
 ·rcases H.map with ⟨h, _⟩ | ⟨_, h, _⟩
  ·exact absurd trivial h
  ·exact h
 rcases H.ext with ⟨h1, _⟩ | ⟨_, h2, _⟩ | ⟨h1, _⟩ | ⟨_, _, X, h3, h4⟩
 ·exact absurd trivial h1
 ·exact absurd trivial h2
 ·exact absurd trivial h1
 ·rcases h3 with ⟨h5, _⟩ | ⟨_, rfl⟩
  ·exact absurd trivial h5
  ·exact h4
theorem vP {nt nb t : Nat} {L : List Nat} {bx : List (List AV)} {ys : (Nat × List (List AV)) × List (List AV) × Bool} {x : AV} (h : Kn sl t x) (hL : inN t L = true) : (ASt.mk nt nb (kT L sl) bx rw ys).ev (.tmp t) = some (true, x) := by
 show yL t (kT L sl) = _
 rw [jV, if_pos hL]
 exact h
theorem vU.slots {P : Program} {ops : Array Oper} {o : Oper} {nt nb : Nat} {sl' : List (Nat × (Bool × AV))} {bx : List (List AV)} {ys : (Nat × List (List AV)) × List (List AV) × Bool} {g : Bool} {x : AV} (h : vU P ops o ⟨nt, nb, sl', bx, rw, ys⟩ g x) (hs : ∀ t c y, yL t sl' = some (c, y) → yL t sl = some (c, y)) : vU P ops o ⟨nt, nb, sl, bx, rw, ys⟩ g x :=
 fun G a w ht hm hsl => h G a w ht hm fun t ht' c y hl => hsl t ht' c y (hs t c y hl)
theorem zHk {t : Nat} {L : List Nat} {x : AV} (h : Kn sl t x) (hL : inN t L = true) : ∀ t' c y, yL t' [(t, (true, x))] = some (c, y) → yL t' (kT L sl) = some (c, y) := fun t' c y hl => by
 rw [zL] at hl
 split at hl
 ·rename_i e
  subst e
  rw [jV, if_pos hL]
  cases hl
  exact h
 ·cases hl
theorem zV6 (f g : Nat → Nat) (l : List (Int × Value)) : zV.ren f g (jK l) = jK l := by
 unfold zV.ren
 simp only [zV.mk.injEq, yMv]
 funext q
 unfold vS
 split
 ·rfl
 ·rfl
theorem zXp (ib ir : List Nat) {P : Program} {ops : Array Oper} {rest : List Oper} {K : ASt → Prop} {nt nb : Nat} {sl : List (Nat × (Bool × AV))} {bx : List (List AV)} {rw : List zV} {ys : (Nat × List (List AV)) × List (List AV) × Bool} {o : Oper} {d : Nat} {f : FuncId} {args : List AV} {sub sub' : List (List AV)} {rsub rsub' : List zV} {r : AV}
  (hgd : y9 ops ⟨nt, nb, sl, bx, rw, ys⟩ o = some true) (F : FnG P f args sub rsub r sub' rsub') (hd : o.dst = some d) (hn : Nat.blt d nt = true)
  (h : ∃ m, bx.length = m ∧ ∃ n, rw.length = n ∧ ∃ cs args0, kL ⟨nt, nb, sl, bx, rw, ys⟩ o.op = some (cs, f, args0) ∧ zB8 args0 (AV.renL (idx ib m) (idx ir n) args) ∧ (∀ c ∈ cs, c = true) ∧ ib.Nodup ∧ ir.Nodup ∧ zDf bx (AV.renL (idx ib m) (idx ir n)) ib sub ∧ zDf rw (zV.ren (idx ib m) (idx ir n)) ir rsub ∧
   ((∀ cs ∈ sub, AV.subL ib.length ir.length cs) ∧ (∀ r ∈ rsub, ∀ q, q < r.n → AV.subL ib.length ir.length (r.el q)) ∧ AV.subL ib.length ir.length args ∧ ib.length ≤ sub'.length ∧ ir.length ≤ rsub'.length) ∧
   ∃ r1, r.ren (idx ib m) (idx ir n) = r1 ∧ ∃ bx1, y8 bx ib (sub'.map (AV.renL (idx ib m) (idx ir n))) = bx1 ∧ ∃ rw1, y8 rw ir (rsub'.map (zV.ren (idx ib m) (idx ir n))) = rw1 ∧
   yZ P ops rest K ⟨nt, nb, (d, (true, r1)) :: sl, bx1, rw1, ys⟩) : yZ P ops (o :: rest) K ⟨nt, nb, sl, bx, rw, ys⟩ := by
 obtain ⟨m, rfl, n, rfl, cs, args0, h1, hsim, h2, h3, h4, h5, h6, ⟨h7, h8, h9, h10, h11⟩, r1, rfl, bx1, rfl, rw1, rfl, h14⟩ := h
 intro C G a w Q hs hQ
 have hw := y3 hgd (G := G) (w := w) (a := a) (fun t _ => hs.slot t)
 have hdl : d < nt := by simpa [yNz] using hn
 unfold wpListIn
 rw [hw]
 simp only [if_true]
 have F' := F.frame ib ir (zEs h3 h4 h5 h6 h7 h8) h9 h10 h11
 obtain ⟨vs, g1, g2⟩ := qQ (P := P) (a := a) h1 (fun y hy => yN fun t ht => hs.slot t) h2 F'.ok
 refine zJ (fun c hc => by rw [hc] at h1; simp [kL] at h1) ?_
 rw [g2, Oper.uponIn_enter]
 refine ⟨fun h => by simp [fen] at h, xM ?_⟩
 refine (F'.calls G w vs hs.tabs hs.tabs_own hs.mem (hsim.rel g1)).mono ?_
 rintro e w' ⟨v, G', rfl, hout, hle, hfr, hB, hR', hm1, hv⟩
 rw [hd]
 exact h14 C G' _ w' Q ((hs.called hout hle hfr hB hR' hm1).put hdl (fun _ => hv) (fun h => by cases h)) hQ
theorem zQo {P : Program} {full : List Oper} {all : Bool} {o : Oper} {d nt nb : Nat} {k' : ASt → Prop} {L : List Nat} {sl : List (Nat × (Bool × AV))} {bx bx0 : List (List AV)} {rw : List zV} {ys : (Nat × List (List AV)) × List (List AV) × Bool} {ent : Bool × AV} (hd : o.dst = some d) (hk : zFh all bx0 bx) (h64 : Nat.blt bx.length 64 = true) (hl : o.looksAt full.toArray = L)
  (h : ∀ nb' K, K ⟨nt, nb', (d, ent) :: kT L sl, bx, rw, ys⟩ → yZ P full.toArray [o] K ⟨nt, nb', kT L sl, bx, rw, ys⟩) (hk' : k' ⟨nt, nb, (d, ent) :: sl, bx, rw, ys⟩) : zL2 P full.toArray all bx0 o k' ⟨nt, nb, sl, bx, rw, ys⟩ :=
 qV h64 hl fun nb' => h nb' _ ⟨ent, _, _, by rw [hd]; rfl, hk, fun _ => ⟨rfl, [], by simp⟩, by rw [hd]; exact hk'⟩
end Go.Proofs.YtioaahmkebojiaaGreatDoor
namespace Go.Proofs.YtioaahmkebojiaaGreatDoor
set_option linter.unusedVariables false
set_option linter.unusedSimpArgs false
set_option maxHeartbeats 4000000
set_option maxRecDepth 100000
open Go.RowKit
def yCx (m : Nat) (bx : List (List AV)) : List (List AV) → Prop
 | [] => True
 | c :: r => AV.okFL m bx c ∧ yCx m bx r
theorem zNh {m : Nat} {bx : List (List AV)} : ∀ {l : List (List AV)} {k : Nat} {c : List AV}, yCx m bx l → l[k]? = some c → AV.okFL m bx c
 | c :: r, 0, c', h, hc => by cases hc; exact h.1
 | c :: r, k + 1, c', h, hc => zNh (k := k) h.2 (by simpa using hc)
theorem zS4 {G : Gh} {w : World} {bx : List (List AV)} (h : xU G w bx []) {m : Nat} (hb : yCx m bx (bx.take m)) : xU (G.cut m w) w ((bx.take m).map (AV.frzL m bx)) [] := by
 have taken : ∀ {k blk : Nat}, (G.bx.take m)[k]? = some blk → k < m ∧ G.bx[k]? = some blk := fun {k blk} hk => by
  rw [yMg] at hk
  split at hk
  ·exact ⟨by assumption, hk⟩
  ·cases hk
 refine ⟨fun b o i => ?_, ?_, h.lenR, h.nodup.sublist (List.take_sublist _ _), fun k cs blk hk hg => ?_, fun k r x hk hg => (by simp at hk), fun k x g hk hg hm => h.sepB k x g hk hg (yO8 hm), h.sepR⟩
 ·rcases i with i | ⟨_, i⟩
  ·exact h.immOk b o i
  ·exact i
 ·show (G.bx.take m).length = ((bx.take m).map _).length
  simp [h.lenB]
 ·obtain ⟨hkm, hg'⟩ := taken hg
  rw [yNg] at hk
  obtain ⟨cs0, hk0, rfl⟩ := yMx.1 hk
  have hok := zNh hb hk0
  rw [yMg, if_pos hkm] at hk0
  obtain ⟨e1, vs, T, e2, e3⟩ := h.box k cs0 blk hk0 hg'
  refine ⟨fun o i => ?_, vs, T, e2, AV.relL_frz h _ _ hok e3⟩
  rcases i with i | ⟨i, _⟩
  ·exact e1 o i
  ·obtain ⟨q, hq⟩ := yOw i
   rw [yMf] at hq
   have hl : k < G.bx.length := (yNd.1 hg').1
   have := (yO3 hl h.nodup).1 (hg'.trans hq.symm)
   omega
theorem xT.freezeM {nt nb : Nat} {sl : List (Nat × (Bool × AV))} {bx : List (List AV)} {ys : (Nat × List (List AV)) × List (List AV) × Bool} (m : Nat) (h1 : nb % 64 ≤ m) (h2 : yCx m bx (bx.take m)) (h4 : zUy m bx sl) :
  xT ⟨nt, nb, sl, bx, [], ys⟩ ⟨nt, nb, zWx m bx sl, (bx.take m).map (AV.frzL m bx), [], ys⟩ := by
 intro P C G a w hs
 obtain ⟨c1, c2⟩ := hs.callers
 simp only at c1 c2
 have hlb : C.G0.bx.length ≤ m := by omega
 have hmem := zS4 hs.mem h2
 obtain ⟨D, hD⟩ := hs.env
 refine ⟨G.cut m w, hs.size, hs.callers, hs.frame, ⟨fun b o i => .inl (hs.le.imm b o i), hs.le.cell, fun k x hx => zBr (yMl (yNd.1 hx).1 hlb) (hs.le.bx k x hx), hs.le.rw⟩, fun b o i => ?_, fun blk hb => hs.ownB blk (yO8 hb), hs.ownR,
  ⟨D, hD.l, ?_, hD.sub, hD.lt, fun k hk => hD.bx k (yO8 hk), hD.rw, fun b o i => ?_, hD.marks, hD.record⟩, hmem, fun t c x hl => ?_⟩
 ·rcases i with i | ⟨i, _⟩
  ·exact hs.fresh b o i
  ·rcases hs.ownB b (yOx i) with hb2 | hb2
   ·exfalso
    obtain ⟨q, hq⟩ := yOw hb2
    have h6 := hs.le.bx q b hq
    obtain ⟨q2, hq2⟩ := yOw i
    rw [yMf] at hq2
    have hl : q < G.bx.length := (yNd.1 h6).1
    have := (yO3 hl hs.mem.nodup).1 (h6.trans hq2.symm)
    have hql : q < C.G0.bx.length := (yNd.1 hq).1
    omega
   ·exact .inr (.inl hb2)
 ·exact C.stable _ _ _ _ _ _ _ hD.cons (zR.refl _ _) (fun b o i => ⟨.inl i, rfl⟩)
 ·rcases i with i | ⟨i, _⟩
  ·exact hD.imm b o i
  ·exact .inr (hD.bx b (yOx i))
 ·obtain ⟨y, q1, rfl, q2⟩ := zEt h4 hl
  obtain ⟨v, e1, e2, e3⟩ := hs.slot t c y q1
  exact ⟨v, e1, fun hc => AV.rel_frz hs.mem y v q2 (e2 hc), e3⟩
end Go.Proofs.YtioaahmkebojiaaGreatDoor
