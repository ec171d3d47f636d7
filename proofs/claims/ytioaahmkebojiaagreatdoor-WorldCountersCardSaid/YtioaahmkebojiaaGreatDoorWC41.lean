import Derived.Test.YtioaahmkebojiaaGreatDoorWC01
import Derived.Test.YtioaahmkebojiaaGreatDoorWC40
namespace Go.Proofs.YtioaahmkebojiaaGreatDoor
open Tryz
set_option linter.unusedVariables false
set_option linter.unusedSimpArgs false
set_option maxHeartbeats 4000000
set_option maxRecDepth 100000
open Go.RowKit
@[reducible] def spR (b1 b2 b3 b4 b5 b6 : Bool) : SpT := ⟨fun c => bif Nat.beq c 114 then some b1 else bif Nat.beq c 97 then some b2 else bif Nat.beq c 116 then some b3 else bif Nat.beq c 101 then some b4 else bif Nat.beq c 110 then some b5 else bif Nat.beq c 32 then some b6 else none, true, fun t name => bif name == "regulator/script.say" then yCy t else none⟩
theorem aiOk : AiOk Tryz.prog := ⟨⟨_, func320, by kernel_rfl, by kernel_rfl⟩, fun i w v n h0 h1 hv hl ht => zPx w v n i h0 h1 hv hl fun W hW => (ht W hW).1 _ (by unfold zGj; kernel_rfl : zGj Tryz.prog 2)⟩
theorem zXm (b1 b2 b3 b4 b5 b6 : Bool) : @MOk (spR b1 b2 b3 b4 b5 b6) Tryz.prog := @MOk.mk (spR b1 b2 b3 b4 b5 b6) _ (fun t name f h => (@MOk.mth (spI true true true true) _ (qZ true true true true)) t name f h) fun _ => aiOk
theorem zUk {w : World} (h : zFm Tryz.prog w) : ∃ b1 b2 b3 b4 b5 b6, @zBx (spR b1 b2 b3 b4 b5 b6) Tryz.prog w := by
 obtain ⟨a, T, fz, h1, h2⟩ := h.2 spN (by unfold zIp; kernel_rfl)
 have bit : ∀ c, c < 256 → ∃ b : Bool, ∃ n, w.cell? ⟨spN, c, none⟩ = some (.int .u8 n) ∧ (b = true ↔ n ≠ 0) := fun c hc => by
  obtain ⟨n, hn⟩ := h2 c hc
  exact ⟨decide (n ≠ 0), n, by simp [World.cell?, h1, hn], by simp⟩
 obtain ⟨b1, c1⟩ := bit 114 dq
 obtain ⟨b2, c2⟩ := bit 97 dq
 obtain ⟨b3, c3⟩ := bit 116 dq
 obtain ⟨b4, c4⟩ := bit 101 dq
 obtain ⟨b5, c5⟩ := bit 110 dq
 obtain ⟨b6, c6⟩ := bit 32 dq
 have step : ∀ {c d : Nat} {b0 b : Bool} {r : Option Bool} {q : Prop}, (bif Nat.beq c d then some b0 else r) = some b → (c = d → b = b0 → q) → (r = some b → q) → q := fun {c d b0 b r q} e k1 k2 => by
  cases hb : Nat.beq c d with
  | true => rw [hb] at e; cases e; exact k1 (yMs hb) rfl
  | false => rw [hb] at e; exact k2 e
 refine ⟨b1, b2, b3, b4, b5, b6, @zBx.mk (spR b1 b2 b3 b4 b5 b6) _ _ h fun c b hc => ?_⟩
 refine step hc (fun e1 e2 => by rw [e1, e2]; exact c1) fun hc => step hc (fun e1 e2 => by rw [e1, e2]; exact c2) fun hc => step hc (fun e1 e2 => by rw [e1, e2]; exact c3) fun hc => step hc (fun e1 e2 => by rw [e1, e2]; exact c4) fun hc => step hc (fun e1 e2 => by rw [e1, e2]; exact c5) fun hc => step hc (fun e1 e2 => by rw [e1, e2]; exact c6) fun hc => by cases hc
def yB6 (lo hi : Int) : CV := .agg [.raw (.int .i64 1), .sym (.rng .i64 lo hi), .sym (.rng .i64 1 64), .sym (.rng .i64 (-1000000) 1000000), .raw (.int .i64 0), .raw (.slice none 0 0)]
noncomputable def rateB (lo hi : Int) (i : SpT) : Option Bool := match @evalFQ i (@zJf) evT1 evF1 (@drawQ i evT1) 1000 (.fn 20) [yB6 lo hi] .e 0 with
 | some (.raw (.bool b), _, _) => some b
 | _ => none
set_option maxRecDepth 1000000 in
theorem zRg (b1 b2 b3 b4 b5 b6 : Bool) : rateB 0 900000000000000 (spR b1 b2 b3 b4 b5 b6) = some true := by
 cases b1 <;> cases b2 <;> cases b3 <;> cases b4 <;> cases b5 <;> cases b6 <;> kernel_rfl
set_option maxRecDepth 1000000 in
theorem zP6 (b1 b2 b3 b4 b5 b6 : Bool) : rateB (-9223372036854775808) (-1) (spR b1 b2 b3 b4 b5 b6) = some false := by kernel_rfl
def zAq (at' host a : Int) : AV := .agg [.raw (.int .i64 1), .raw (.int .i64 at'), .raw (.int .i64 host), .raw (.int .i64 a), .raw (.int .i64 0), .raw (.slice none 0 0)]
theorem zMq : ∀ t z, zU1 t = some z → (Tryz.prog.info? t).bind (·.zero) = some z := fun t z h => by
 have step : ∀ {d : Nat} {z0 : Value} {r : Option Value} {q : Prop}, (bif Nat.beq t d then some z0 else r) = some z → (t = d → z = z0 → q) → (r = some z → q) → q := fun {d z0 r q} e k1 k2 => by
  cases hb : Nat.beq t d with
  | true => rw [hb] at e; cases e; exact k1 (yMs hb) rfl
  | false => rw [hb] at e; exact k2 e
 unfold zU1 at h
 refine step (q := (Tryz.prog.info? t).bind (·.zero) = some z) h (fun e1 e2 => by subst e1; subst e2; kernel_rfl) fun h => step (q := (Tryz.prog.info? t).bind (·.zero) = some z) h (fun e1 e2 => by subst e1; subst e2; kernel_rfl) fun h => step (q := (Tryz.prog.info? t).bind (·.zero) = some z) h (fun e1 e2 => by subst e1; subst e2; kernel_rfl) fun h => step (q := (Tryz.prog.info? t).bind (·.zero) = some z) h (fun e1 e2 => by subst e1; subst e2; kernel_rfl) fun h => by cases h
theorem zWq {lo hi : Int} {b : Bool} (hr : ∀ b1 b2 b3 b4 b5 b6, rateB lo hi (spR b1 b2 b3 b4 b5 b6) = some b) {at' host a : Int} (h1 : lo ≤ at') (h2 : at' ≤ hi) (h3 : 1 ≤ host) (h4 : host ≤ 64) (h5 : -1000000 ≤ a) (h6 : a ≤ 1000000) :
  FnA Tryz.prog 20 [zAq at' host a] (.raw (.bool b)) := by
 have key : ∀ b1 b2 b3 b4 b5 b6, ∀ w vs, @zBx (spR b1 b2 b3 b4 b5 b6) Tryz.prog w → @CV.relL (fun _ => none) w [yB6 lo hi] vs → wS Tryz.prog 20 ∧ Calls Tryz.prog 20 vs.toArray w fun e w' => ∃ v, e = .returned v ∧ Below w.heap.size w w' ∧ (CV.raw (.bool b)).rel (fun _ => none) w' v := fun b1 b2 b3 b4 b5 b6 w vs ht hv => by
  have he := hr b1 b2 b3 b4 b5 b6
  unfold rateB at he
  rw [@kH (spR b1 b2 b3 b4 b5 b6)] at he
  split at he
  ·rename_i b' h' nx' he'
   cases he
   exact @zQw (spR b1 b2 b3 b4 b5 b6) Tryz.prog _ _ _ (zXm b1 b2 b3 b4 b5 b6) (@zBf (spR b1 b2 b3 b4 b5 b6) _) wE vY _ (fun call n hC => @zBp (spR b1 b2 b3 b4 b5 b6) _ _ call hC wE kq n) ⟨by kernel_rfl, zMq⟩ w ht _ _ _ vs _ _ _ he' hv rfl
  ·cases he
 refine ⟨⟨_, func20, by kernel_rfl, by kernel_rfl⟩, fun imm w vs htb hi hv => ?_⟩
 obtain ⟨v, _, rfl, hv1, rfl⟩ := hv
 obtain ⟨us, rfl, hu⟩ := hv1
 obtain ⟨x1, _, rfl, e1, x2, _, rfl, e2, x3, _, rfl, e3, x4, _, rfl, e4, x5, _, rfl, e5, x6, _, rfl, e6, rfl⟩ := hu
 obtain rfl : x1 = _ := e1
 obtain rfl : x2 = _ := e2
 obtain rfl : x3 = _ := e3
 obtain rfl : x4 = _ := e4
 obtain rfl : x5 = _ := e5
 obtain rfl : x6 = _ := e6
 obtain ⟨b1, b2, b3, b4, b5, b6, ht⟩ := zUk htb
 refine (key b1 b2 b3 b4 b5 b6 w _ ht ⟨_,_,rfl,⟨_,rfl,_,_,rfl,rfl,_,_,rfl,⟨at',rfl,h1,h2⟩,_,_,rfl,⟨host,rfl,h3,h4⟩,_,_,rfl,⟨a,rfl,h5,h6⟩,_,_,rfl,rfl,_,_,rfl,rfl,rfl⟩,rfl⟩).2.mono ?_
 rintro e w' ⟨v, rfl, hbl, hv⟩
 have hlt : ∀ b o, imm b o → b < w.heap.size := fun b o i => by
  have := hi b o i
  unfold World.cell? at this
  rcases yMn b w.heap.size with h | h
  ·exact h
  ·rw [yMo h] at this; simp at this
 refine ⟨v, imm, rfl, hbl, fun _ _ i => i, fun _ _ i => .inl i, fun b o i => ?_, hv⟩
 rw [World.cell?_of_block (w := w) (a := ⟨b, o, none⟩) (hbl.block b (hlt b o i))]
 exact hi b o i
theorem zLq {at' host a : Int} (h1 : 0 ≤ at') (h2 : at' ≤ 900000000000000) (h3 : 1 ≤ host) (h4 : host ≤ 64) (h5 : -1000000 ≤ a) (h6 : a ≤ 1000000) : FnA Tryz.prog 20 [zAq at' host a] (.raw (.bool true)) := zWq zRg h1 h2 h3 h4 h5 h6
theorem zFw {at' host a : Int} (h1 : -9223372036854775808 ≤ at') (h2 : at' ≤ -1) (h3 : 1 ≤ host) (h4 : host ≤ 64) (h5 : -1000000 ≤ a) (h6 : a ≤ 1000000) : FnA Tryz.prog 20 [zAq at' host a] (.raw (.bool false)) := zWq zP6 h1 h2 h3 h4 h5 h6
mutual
/-- What is known of a value. -/
def yG2 : CV → AV → Prop
 | .raw x, a => a = .raw x
 | .sym (.rng k lo hi), a => ∃ n, a = .raw (.int k n) ∧ lo ≤ n ∧ n ≤ hi
 | .agg cs, a => ∃ al, a = .agg al ∧ zG9 cs al
 | .tup cs, a => ∃ al, a = .tup al ∧ zG9 cs al
 | _, _ => False
def zG9 : List CV → List AV → Prop
 | [], al => al = []
 | c :: cs, al => ∃ a r, al = a :: r ∧ yG2 c a ∧ zG9 cs r
end
mutual
theorem yG2.rel {G : Gh} {φ : Phi} {w : World} : ∀ (c : CV) (a : AV) (v : Value), yG2 c a → a.rel G w v → c.rel φ w v
 | .raw x, _, v, h, hr => by cases h; exact hr
 | .sym (.rng k lo hi), _, v, ⟨n, h, h1, h2⟩, hr => by subst h; exact ⟨n, hr, h1, h2⟩
 | .agg cs, _, v, ⟨al, h, hl⟩, hr => by
  subst h
  obtain ⟨vs, e, h2⟩ := hr
  exact ⟨vs, e, zG9.rel cs al vs hl h2⟩
 | .tup cs, _, v, ⟨al, h, hl⟩, hr => by
  subst h
  obtain ⟨vs, e, h2⟩ := hr
  exact ⟨vs, e, zG9.rel cs al vs hl h2⟩
 | .sym (.nz _), _, _, h, _ => by cases h
 | .sym .top, _, _, h, _ => by cases h
 | .box _ _, _, _, h, _ => by cases h
 | .bsl _ _ _ _ _, _, _, h, _ => by cases h
 | .fn _ _ _, _, _, h, _ => by cases h
 | .mp _, _, _, h, _ => by cases h
 | .yld _, _, _, h, _ => by cases h
 | .gp _ _, _, _, h, _ => by cases h
 | .ifc _ _, _, _, h, _ => by cases h
 | .row _ _, _, _, h, _ => by cases h
theorem zG9.rel {G : Gh} {φ : Phi} {w : World} : ∀ (cs : List CV) (al : List AV) (vs : List Value), zG9 cs al → AV.relL G w al vs → CV.relL φ w cs vs
 | [], _, vs, h, hr => by cases h; exact hr
 | c :: cs, _, vs, ⟨a, r, h, h1, h2⟩, hr => by
  subst h
  obtain ⟨v, r', e, h3, h4⟩ := hr
  exact ⟨v, r', e, yG2.rel c a v h1 h3, zG9.rel cs r r' h2 h4⟩
end
mutual
/-- A value, of which all is known, as one of the abstract logic. -/
def CV.av : CV → Option AV
 | .raw x => some (.raw x)
 | .agg cs => (CV.avL cs).map .agg
 | .tup cs => (CV.avL cs).map .tup
 | _ => none
def CV.avL : List CV → Option (List AV)
 | [] => some []
 | c :: cs => match c.av, CV.avL cs with
  | some a, some r => some (a :: r)
  | _, _ => none
end
mutual
theorem CV.av_rel {G : Gh} {φ : Phi} {w : World} : ∀ (c : CV) (a : AV) (v : Value), c.av = some a → c.rel φ w v → a.rel G w v
 | .raw x, _, v, h, hr => by cases h; exact hr
 | .agg cs, a, v, h, ⟨vs, e, hr⟩ => by
  obtain ⟨al, h1, rfl⟩ := yMx.1 h
  exact ⟨vs, e, CV.avL_rel cs al vs h1 hr⟩
 | .tup cs, a, v, h, ⟨vs, e, hr⟩ => by
  obtain ⟨al, h1, rfl⟩ := yMx.1 h
  exact ⟨vs, e, CV.avL_rel cs al vs h1 hr⟩
 | .sym _, _, _, h, _ => by cases h
 | .box _ _, _, _, h, _ => by cases h
 | .bsl _ _ _ _ _, _, _, h, _ => by cases h
 | .fn _ _ _, _, _, h, _ => by cases h
 | .mp _, _, _, h, _ => by cases h
 | .yld _, _, _, h, _ => by cases h
 | .gp _ _, _, _, h, _ => by cases h
 | .ifc _ _, _, _, h, _ => by cases h
 | .row _ _, _, _, h, _ => by cases h
theorem CV.avL_rel {G : Gh} {φ : Phi} {w : World} : ∀ (cs : List CV) (al : List AV) (vs : List Value), CV.avL cs = some al → CV.relL φ w cs vs → AV.relL G w al vs
 | [], _, vs, h, hr => by cases h; exact hr
 | c :: cs, al, vs, h, ⟨v, r, e, h1, h2⟩ => by
  simp only [CV.avL] at h
  split at h
  ·rename_i a r' h3 h4
   cases h
   exact ⟨v, r, e, CV.av_rel c a v h3 h1, CV.avL_rel cs r' r h4 h2⟩
  ·cases h
end
mutual
theorem CV.av_plain : ∀ (c : CV) (a : AV), c.av = some a → c.plain = true
 | .raw _, _, _ => rfl
 | .agg cs, a, h => by
  obtain ⟨al, h1, _⟩ := yMx.1 h
  exact CV.avL_plain cs al h1
 | .tup cs, a, h => by
  obtain ⟨al, h1, _⟩ := yMx.1 h
  exact CV.avL_plain cs al h1
 | .sym _, _, h => by cases h
 | .box _ _, _, h => by cases h
 | .bsl _ _ _ _ _, _, h => by cases h
 | .fn _ _ _, _, h => by cases h
 | .mp _, _, h => by cases h
 | .yld _, _, h => by cases h
 | .gp _ _, _, h => by cases h
 | .ifc _ _, _, h => by cases h
 | .row _ _, _, h => by cases h
theorem CV.avL_plain : ∀ (cs : List CV) (al : List AV), CV.avL cs = some al → CV.plainL cs = true
 | [], _, _ => rfl
 | c :: cs, al, h => by
  simp only [CV.avL] at h
  split at h
  ·rename_i a r' h3 h4
   simp only [CV.plainL, CV.av_plain c a h3, CV.avL_plain cs r' h4, Bool.and_self]
  ·cases h
end
noncomputable def evCall (f : Nat) (args : List CV) : Option CV := match @evalFQ spT0 zJf evT1 evF1 (@drawQ spT0 evT1) 1000 (.fn f) args .e 0 with
 | some (r, _, _) => some r
 | none => none
theorem zMy : @MOk spT0 Tryz.prog := @MOk.mk spT0 _ (fun t name f h => by cases h) fun h => by cases h
theorem zHy {f : FuncId} {args : List CV} {r : CV} {a : AV} {l : List AV} (he : evCall f args = some r) (hr : r.av = some a) (hc : zG9 args l) : FnA Tryz.prog f l a := by
 have key : ∀ w vs, zFm Tryz.prog w → CV.relL (fun _ => none) w args vs → wS Tryz.prog f ∧ Calls Tryz.prog f vs.toArray w fun e w' => ∃ v, e = .returned v ∧ Below w.heap.size w w' ∧ r.rel (fun _ => none) w' v := fun w vs ht hv => by
  unfold evCall at he
  split at he
  ·rename_i r' h' nx' he'
   cases he
   rw [@kH spT0] at he'
   exact @zQw spT0 Tryz.prog _ _ _ zMy (@zBf spT0 _) wE vY _ (fun call n hC => @zBp spT0 _ _ call hC wE kq n) ⟨by kernel_rfl, zMq⟩ w (@zBx.mk spT0 _ _ ht fun c b hc => by cases hc) _ _ _ vs _ _ _ he' hv (CV.av_plain r a hr)
  ·cases he
 have hok : wS Tryz.prog f := by
  unfold evCall at he
  split at he
  ·rename_i r' h' nx' he'
   rw [@kH spT0] at he'
   exact ((@qM spT0 _ _ _ _ _ zMy (@zBf spT0 _) wE vY (fun call n hC => @zBp spT0 _ _ call hC wE kq n) 1000).fn _ _ _ _ _ _ _ he').1
  ·cases he
 refine ⟨hok, fun imm w vs htb hi hv => ?_⟩
 refine (key w vs htb (zG9.rel (G := ⟨imm, [], []⟩) args l vs hc hv)).2.mono ?_
 rintro e w' ⟨v, rfl, hbl, hv⟩
 have hlt : ∀ b o, imm b o → b < w.heap.size := fun b o i => by
  have := hi b o i
  unfold World.cell? at this
  rcases yMn b w.heap.size with h | h
  ·exact h
  ·rw [yMo h] at this; simp at this
 refine ⟨v, imm, rfl, hbl, fun _ _ i => i, fun _ _ i => .inl i, fun b o i => ?_, CV.av_rel r a v hr hv⟩
 rw [World.cell?_of_block (w := w) (a := ⟨b, o, none⟩) (hbl.block b (hlt b o i))]
 exact hi b o i
theorem zPs {id : Int} (h1 : 1 ≤ id) (h2 : id ≤ 64) : FnA Tryz.prog 127 [.agg [.raw (.int .i64 id), .raw (.slice none 0 0)]] (.raw (.bool true)) :=
 zHy (r := .raw (.bool true)) (args := [.agg [.sym (.rng .i64 1 64), .raw (.slice none 0 0)]]) kq rfl ⟨_, _, rfl, ⟨_, rfl, _, _, rfl, ⟨id, rfl, h1, h2⟩, _, _, rfl, rfl, rfl⟩, rfl⟩
theorem zMd : FnA Tryz.prog 117 [.agg [.raw (.int .i64 0), .raw (.slice none 0 0), .raw (.slice none 0 0)]] (.raw (.bool true)) :=
 zHy (r := .raw (.bool true)) (args := [.agg [.raw (.int .i64 0), .raw (.slice none 0 0), .raw (.slice none 0 0)]]) kq rfl ⟨_, _, rfl, ⟨_, rfl, _, _, rfl, rfl, _, _, rfl, rfl, _, _, rfl, rfl, rfl⟩, rfl⟩
theorem zS8 : FnA Tryz.prog 128 [.agg [.raw (.int .i64 0), .raw (.int .i64 0), .raw (.int .i64 3000000000000000)], .agg [.raw (.int .i64 0), .raw (.int .i64 0)]] (.tup [.agg [.raw (.int .i64 0), .raw (.int .i64 0), .raw (.int .i64 0)], .raw (.bool true), .raw (.int .i64 0)]) :=
 zHy (r := .tup [.agg [.raw (.int .i64 0),.raw (.int .i64 0),.raw (.int .i64 0)],.raw (.bool true),.raw (.int .i64 0)]) (args := [.agg [.raw (.int .i64 0),.raw (.int .i64 0),.raw (.int .i64 3000000000000000)],.agg [.raw (.int .i64 0),.raw (.int .i64 0)]]) kq rfl ⟨_,_,rfl,⟨_,rfl,_,_,rfl,rfl,_,_,rfl,rfl,_,_,rfl,rfl,rfl⟩,_,_,rfl,⟨_,rfl,_,_,rfl,rfl,_,_,rfl,rfl,rfl⟩,rfl⟩
theorem zQu : FnA Tryz.prog 110 [.agg [.raw (.int .i64 0), .raw (.int .i64 0), .raw (.int .i64 0)], .raw (.int .i64 0)] (.tup [.raw (.int .i64 0), .raw (.int .i64 0)]) :=
 zHy (r := .tup [.raw (.int .i64 0), .raw (.int .i64 0)]) (args := [.agg [.raw (.int .i64 0), .raw (.int .i64 0), .raw (.int .i64 0)], .raw (.int .i64 0)]) kq rfl ⟨_, _, rfl, ⟨_, rfl, _, _, rfl, rfl, _, _, rfl, rfl, _, _, rfl, rfl, rfl⟩, _, _, rfl, rfl, rfl⟩
end Go.Proofs.YtioaahmkebojiaaGreatDoor
