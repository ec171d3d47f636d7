import Derived.Test.YtioaahmkebojiaaGreatDoorWC01
import Derived.Test.YtioaahmkebojiaaGreatDoorWC33
namespace Go.Proofs.YtioaahmkebojiaaGreatDoor
set_option linter.unusedVariables false
set_option linter.unusedSimpArgs false
set_option maxHeartbeats 4000000
set_option maxRecDepth 100000
set_option linter.unusedSectionVars false
open Go.RowKit
variable [SpT]
def PreP (full : List Oper) (R : List Rec) : Prop := ∀ (L : Nat → Prop) (i : Nat), xW R i = true → i < R.length → (∀ d, zM full i d = true → L d) → (∀ c d, zM full c d = true → L c → L d) → ∀ j, xW R j = true → j < i → L j
def zTz (T : TT) (full : List Oper) (R : List Rec) (s' : ES) : Prop := ∀ i o q, full[i]? = some o → R[i]? = some q → kZ o.op = true → q.ent.1 = true → ∀ k, k ≤ full.length → k ∈ 0 :: (j7 R).map (· + 1) → ∀ L : Nat → Prop, (∀ c d, zM full c d = true → L c → L d) → ¬ L i → (∀ d, zM full i d = true → L d) →
 (∀ j, j < full.length → xW R j = true → (L j ↔ j < k)) → opE T (stD R s' k).h q.st.sl o.op = some q.ent.2
theorem zSc {T : TT} {full : List Oper} {R : List Rec} {s' : ES} (hRl : R.length = full.length) (h : zNp T full R s' = true) : zTz T full R s' := fun i o q ho hq hl he k _ hkm L waitC hun waitL k3 => by
 have hil : i < R.length := (yNd.1 hq).1
 unfold zNp at h
 rw [yP7] at h
 have h5 := h i (yOv.2 hil)
 simp only [ho, hq, hl, he, yOb, yNi, yP7] at h5
 have h6 := h5 k hkm
 have hadm : yLz full R (zMa full i) i k = true := by
  unfold yLz
  rw [yP7]
  intro j hj
  have hjl : j < full.length := by rw [← hRl]; exact yOv.1 hj
  cases he : xW R j with
  | false => rfl
  | true =>
   have h7 := k3 j hjl he
   simp only [yOb, yNi]
   cases hjk : Nat.blt j k with
   | true =>
    simp only [yMq, yNl]
    cases hc : (zMa full i).contains j with
    | false => rfl
    | true => exact absurd (h7.2 (yY hjk)) (jF (listed := L) waitC hun j (by simpa using hc))
   | false =>
    simp only [yN5, yNl]
    cases hc : zM full i j with
    | false => rfl
    | true =>
     exfalso
     have := h7.1 (waitL j hc)
     have h8 : Nat.blt j k = true := by rw [yNz]; exact this
     rw [hjk] at h8; cases h8
 rw [hadm] at h6
 simp only [yOb, yNi] at h6
 split at h6
 ·rename_i y hy
  rw [hy, CV.beq_ok _ _ h6]
 ·cases h6
theorem zX7 {P : Program} {T : TT} {call : z6} (hC : wH P call) (hT : TOk P T) {w0 : FW} {n n1 n2 : Nat} {ro : Option Nat} {full : List Oper} {l : List (Oper × Option Nat)} {R : List Rec} {s s' : ES} (D : yCl full) (S : zPz call T n full l n1 n2 s R s') (hch : PreP full R) (hfl : zPn full R = true) (hld : zTz T full R s') {Q : Exit → Act → World → Prop} {φ0 : Phi} {wa : World}
  (hQ : ∀ φ a w, y0 φ0 wa φ w → zDc P w0 n φ s' a w → Q .normal a w) :
  ∀ (fuel : Nat) (listed : Array Bool) (φ : Phi) (a : Act) (w : World), (List.range full.length).countP (fun k => !listed.getD k true) ≤ fuel → y0 φ0 wa φ w → MidE P w0 n n1 n2 full R s s' φ listed a w → wpAnyIn (fen ro) 0 P .any full.toArray Q fuel listed a w := by
 have hRl : R.length = full.length := S.len
 have eff_get : ∀ {j q}, R[j]? = some q → xW R j = q.eff := fun h => by unfold xW; rw [h]
 -- all is done
 have done : ∀ (listed : Array Bool) (φ : Phi) (a : Act) (w : World), y0 φ0 wa φ w → MidE P w0 n n1 n2 full R s s' φ listed a w → Region.ready .any full.toArray listed = [] → Q .normal a w := by
  intro listed φ a w hE hm hr
  have hall : ∀ i, i < full.length → listed.getD i true = true := by
   intro i
   induction i using Nat.strongRecOn with
   | _ i ih =>
    intro hi
    by_cases hu : listed.getD i true = true
    ·exact hu
    ·exfalso
     have : i ∈ Region.ready .any full.toArray listed := by
      rw [mem_ready]
      refine ⟨by simpa using hu, full[i], by rw [List.getElem?_toArray, yNf hi], fun e he heb => ?_⟩
      have hlt := D.back i full[i] (yNf hi) e he heb
      rw [xO hm.lsz oq]
      exact ih e.on hlt oq
     rw [hr] at this
     cases this
  have hal : ∀ i, i < full.length → listed.getD i false = true := fun i hi => by rw [xO hm.lsz hi]; exact hall i hi
  obtain ⟨k, k1, k2, k3, k4⟩ := hm.cut
  have A := k4.run S (full.length - k) oq fun j h1 h2 => ⟨by
   cases he : xW R j with
   | false => rfl
   | true =>
    have := (k3 j oq he).1 (hal j oq)
    omega, fun _ _ _ _ _ => hal j oq⟩
  rw [show k + (full.length - k) = full.length by omega] at A
  have A1 := A.hs
  rw [zL5 S] at A1
  have hds := zWn S full.length (yMj _)
  rw [zL5 S] at hds
  refine hQ φ a w hE ⟨hm.size, by rw [hds]; exact hm.defers, A1, fun t e ht => ?_⟩
  rw [← zL5 S] at ht
  rcases zH8 S full.length (yMj _) t e ht with ⟨j, o, q, h1, h2, h3, h4, rfl⟩ | ⟨h1, h2⟩
  ·exact hm.new j o q t h2 h4 h3 (hal j h1)
  ·exact hm.old t e (fun i o ho hd => absurd hd (h1 i o (yNd.1 ho).1 ho)) h2
 intro fuel
 induction fuel with
 | zero =>
  intro listed φ a w hcnt hE hm
  have hr : Region.ready .any full.toArray listed = [] := by
   rw [List.eq_nil_iff_forall_not_mem]
   intro i hi
   obtain ⟨h1, o, h2, _⟩ := mem_ready.1 hi
   have hil : i < full.length := by simpa using (yMi.1 h2).1
   have h3 : 0 < (List.range full.length).countP (fun k => !listed.getD k true) := by
    rw [List.countP_pos_iff]
    exact ⟨i, yOv.2 hil, by simpa using h1⟩
   omega
  exact ⟨hr, done listed φ a w hE hm hr⟩
 | succ fuel ih =>
  intro listed φ a w hcnt hE hm
  refine ⟨done listed φ a w hE hm, fun i hi => ?_⟩
  obtain ⟨h1, o, h2, h3⟩ := mem_ready.1 hi
  have ho : full[i]? = some o := by simpa using h2
  have hil : i < full.length := (yNd.1 ho).1
  have hil' : i < listed.size := by rw [hm.lsz]; exact hil
  have hun : listed.getD i false = false := by rw [xO hm.lsz hil]; exact h1
  have hcnt' : (List.range full.length).countP (fun k => !(listed.setIfInBounds i true).getD k true) ≤ fuel := by
   have := zF2 (p := fun k => !listed.getD k true) (q := fun k => !(listed.setIfInBounds i true).getD k true) (k := i) (l := List.range full.length)
    (fun k _ hk => by
     by_cases hik : i = k
     ·subst hik; rw [z7 hil'] at hk; simp at hk
     ·rwa [zY hik] at hk) (yOv.2 hil) (by simp [h1]) (by show (!_) = false; rw [z7 hil']; rfl)
   omega
  have clo' : ∀ (j : Nat) (o' : Oper), full[j]? = some o' → (listed.setIfInBounds i true).getD j true = true → ∀ e ∈ o'.after, Region.binds .any e = true → (listed.setIfInBounds i true).getD e.on false = true := by
   intro j o' ho' hl e he heb
   have hup : listed.getD e.on false = true → (listed.setIfInBounds i true).getD e.on false = true := fun h => by
    by_cases hie : i = e.on
    ·rw [← hie, z7 hil']
    ·rw [zY hie]; exact h
   by_cases hij : i = j
   ·subst hij
    rw [ho] at ho'
    cases ho'
    exact hup (h3 e he heb)
   ·rw [zY hij] at hl
    exact hup (hm.clo j o' ho' hl e he heb)
  have waitL : ∀ j, zM full i j = true → listed.getD j false = true := fun j h => by
   unfold zM at h
   rw [ho] at h
   obtain ⟨e, he, h4, h5⟩ := xB h
   rw [← h4]; exact h3 e he h5
  have waitC : ∀ c d, zM full c d = true → listed.getD c false = true → listed.getD d false = true := fun c d h hc => by
   unfold zM at h
   split at h
   ·rename_i oc hoc
    obtain ⟨e, he, h4, h5⟩ := xB h
    have hcl : c < full.length := (yNd.1 hoc).1
    have := hm.clo c oc hoc (by rw [← xO hm.lsz hcl]; exact hc) e he h5
    rw [← h4]; exact this
   ·cases h
  obtain ⟨o', mm, q, ho', hmm, hq, hst⟩ := zE2 S hil
  rw [ho] at ho'
  cases ho'
  have hqs := zMz (s' := s') _ _ hq
  -- the slots that are looked at
  have hlook : ∀ t ∈ o.looksAt full.toArray, ∀ e, q.st.sl.get t = some e → zId φ w a t e := by
   intro t ht e he
   rw [← hqs] at he
   rcases zH8 S i oq t e he with ⟨j, oj, qj, g1, g2, g3, g4, rfl⟩ | ⟨g1, g2⟩
   ·refine hm.new j oj qj t g2 g4 g3 ?_
    rcases D.looks i o t ho ht j oj g2 g3 with g5 | g5 | g5
    ·omega
    ·exact waitL j g5.2
    ·omega
   ·refine hm.old t e (fun j oj hj hd => ?_) g2
    rcases D.looks i o t ho ht j oj hj hd with g5 | g5 | g5
    ·rw [g5]; exact hun
    ·exact absurd hd (g1 j oj g5.1 hj)
    ·cases hc : listed.getD j false with
     | false => rfl
     | true =>
      have := waitC j i g5.2 hc
      rw [hun] at this; cases this
  have hev : ∀ y ∈ o.op.operands.toList, zCz φ w a q.st.sl y := fun y hy => jE fun t ht => hlook t (y7 (by rw [← ht]; exact hy))
  obtain ⟨k, k1, k2, k3, k4⟩ := hm.cut
  have hdlt : ∀ t, o.dst = some t → t < n := zBn hst.1
  -- what is so behind it
  have next : ∀ (v : Value) (φ' : Phi) (w' : World), y0 φ w φ' w' → (q.ent.1 = true → q.ent.2.rel φ' w' v) → (q.ent.1 = false → v = undef) →
    (∃ k, k ≤ full.length ∧ (k = 0 ∨ ∃ j, k = j + 1 ∧ xW R j = true) ∧ (∀ j, j < full.length → xW R j = true → ((listed.setIfInBounds i true).getD j false = true ↔ j < k)) ∧ AtE P w0 R s' n1 n2 φ' (fun j => j = i ∨ listed.getD j false = true) k w') →
    wpAnyIn (fen ro) 0 P .any full.toArray Q fuel (listed.setIfInBounds i true) (a.put o.dst v) w' := by
   intro v φ' w' E e1 e2 ⟨kk, c1, c2, c3, c4⟩
   have hcut : ∃ k, k ≤ full.length ∧ (k = 0 ∨ ∃ j, k = j + 1 ∧ xW R j = true) ∧ (∀ j, j < full.length → xW R j = true → ((listed.setIfInBounds i true).getD j false = true ↔ j < k)) ∧ AtE P w0 R s' n1 n2 φ' (fun j => (listed.setIfInBounds i true).getD j false = true) k w' := ⟨kk, c1, c2, c3, c4.congr fun j _ _ _ _ _ => by
    by_cases hij : i = j
    ·subst hij; rw [z7 hil']; simp
    ·rw [zY hij]
     exact ⟨.inr, fun h => h.resolve_left fun e => hij e.symm⟩⟩
   have putOther : ∀ t, o.dst ≠ some t → (a.put o.dst v).tmps[t]? = a.tmps[t]? := fun t ht => by
    cases hdo : o.dst with
    | none => rfl
    | some d => rw [Act.put_get, if_neg (fun e => ht (by rw [hdo, e]))]
   refine ih _ φ' _ w' hcnt' (hE.trans E) ⟨?_, by have := hm.defers.ext E; cases o.dst <;> exact this, by simpa using hm.lsz, clo', hcut, fun t e ht hl => ?_, fun j oj qj t hj hqj hd hl => ?_⟩
   ·cases hdo : o.dst with
    | none => exact hm.size
    | some d => show (a.tmps.setIfInBounds d v).size = n; rw [Array.size_setIfInBounds, hm.size]
   ·have hne : o.dst ≠ some t := fun h => by
     have := ht i o ho h
     rw [z7 hil'] at this; cases this
    refine (hm.old t e (fun j oj hj hd => ?_) hl).mono E (putOther t hne)
    have h5 := ht j oj hj hd
    by_cases hij : i = j
    ·subst hij; exact hun
    ·rwa [zY hij] at h5
   ·by_cases hij : i = j
    ·subst hij
     rw [ho] at hj
     cases hj
     rw [hq] at hqj
     cases hqj
     have hlt : t < a.tmps.size := by rw [hm.size]; exact hdlt t hd
     refine ⟨v, ?_, e1, e2⟩
     rw [hd]
     show (a.tmps.setIfInBounds t v)[t]? = _
     simp [hlt]
    ·rw [zY hij] at hl
     refine (hm.new j oj qj t hj hqj hd hl).mono E (putOther t fun h => hij (D.dst _ _ _ _ _ ho hj h hd))
  have keep : q.eff = false → ∀ φ' w', AtE P w0 R s' n1 n2 φ' (fun j => j = i ∨ listed.getD j false = true) k w' → ∃ k, k ≤ full.length ∧ (k = 0 ∨ ∃ j, k = j + 1 ∧ xW R j = true) ∧ (∀ j, j < full.length → xW R j = true → ((listed.setIfInBounds i true).getD j false = true ↔ j < k)) ∧ AtE P w0 R s' n1 n2 φ' (fun j => j = i ∨ listed.getD j false = true) k w' := fun hf φ' w' h5 =>
   ⟨k, k1, k2, fun j hj he => by
    have hne : i ≠ j := fun e => by subst e; rw [eff_get hq, hf] at he; cases he
    rw [zY hne]
    exact k3 j hj he, h5⟩
  have still : ∀ {k w φ}, q.flt = none → AtE P w0 R s' n1 n2 φ (fun j => listed.getD j false = true) k w → AtE P w0 R s' n1 n2 φ (fun j => j = i ∨ listed.getD j false = true) k w := fun hf h => h.congr fun j qj r blk g1 g2 => by
   refine ⟨fun h => h.resolve_left fun e => ?_, .inr⟩
   rw [e, hq] at g1; cases g1
   rw [hf] at g2; cases g2
  unfold wpOpIn
  simp only [List.getElem?_toArray, ho]
  rcases hst.2.2.2 with ⟨hg, hent, hf, hfl0, _⟩ | ⟨x, hg, hop, hcall, hent, hf, hfl0, _⟩ | ⟨x, hg, heff, hent, hf, hfl0⟩ | ⟨x, r, blk, hg, _, hfe, hent, hf, hfl0, _, _⟩
  ·rw [xK hg hlook]
   simp only [yO0, if_false]
   exact ⟨fun _ _ => trivial, next undef φ w (y0.refl _ _) (fun h => by rw [hent] at h; cases h) (fun _ => rfl) (keep hf _ _ (still hfl0 k4))⟩
  ·rw [xK hg hlook]
   simp only [if_true]
   have hval : opE T (stD R s' k).h q.st.sl o.op = some x := by
    cases hl : kZ o.op with
    | false => rw [← hop]; exact zUw hl
    | true =>
     have hkm : k ∈ 0 :: (j7 R).map (· + 1) := by
      rcases k2 with rfl | ⟨j, rfl, hj⟩
      ·simp
      ·refine yNy _ (yO6.2 ⟨j, List.mem_filter.2 ⟨yOv.2 ?_, hj⟩, rfl⟩)
       rw [hRl]; omega
     have h7 := hld i o q ho hq hl (by rw [hent]) k k1 hkm (fun j => listed.getD j false = true) waitC (by rw [hun]; simp) waitL k3
     rw [hent] at h7
     exact h7
   obtain ⟨v, r1, r2⟩ := zEh hT k4.hs hev hval
   refine zJ (D.plain o (yNr ho)) ?_
   rw [r1, Oper.uponIn_value]
   exact next v φ w (y0.refl _ _) (fun _ => by rw [hent]; exact r2) (fun h => by rw [hent] at h; cases h) (keep hf _ _ (still hfl0 k4))
  ·rw [xK hg hlook]
   simp only [if_true]
   have hei : xW R i = true := by rw [eff_get hq]; exact hf
   have hki : k ≤ i := by
    rcases yMn i k with h5 | h5
    ·have := (k3 i hil hei).2 h5
     rw [hun] at this; cases this
    ·exact h5
   have hpre := hch (fun j => listed.getD j false = true) i hei (by rw [hRl]; exact hil) waitL waitC
   have hpf : ∀ f, f < i → ∀ q r blk, R[f]? = some q → q.flt = some (r, blk) → listed.getD f false = true := fun f hfi qf r blk g1 g2 => by
    unfold zPn at hfl
    rw [yP7] at hfl
    have h5 := hfl f (yOv.2 (by rw [hRl]; omega))
    simp only [g1, g2, Option.isNone_some, yNi, yP7] at h5
    have h6 := h5 i (List.mem_filter.2 ⟨yOv.2 (by rw [hRl]; exact hil), hei⟩)
    simp only [yOn] at h6
    rcases h6 with (h6 | h6) | h6
    ·have := yP8 h6; omega
    ·exact waitL f h6
    ·exact Classical.byContradiction fun hn => jF (full := full) (i := f) (listed := fun j => listed.getD j false = true ∨ j = i) (fun c d h hc => by
      rcases hc with hc | rfl
      ·exact .inl (waitC c d h hc)
      ·exact .inl (waitL d h)) (fun h => h.elim hn fun e => by omega) i (by simpa using h6) (.inr rfl)
   have A := k4.run S (i - k) oq fun j g1 g2 => ⟨by
    cases he : xW R j with
    | false => rfl
    | true =>
     have := (k3 j oq he).1 (hpre j he oq)
     omega, fun qj r blk h1 h2 => hpf j oq qj r blk h1 h2⟩
   rw [show k + (i - k) = i by omega] at A
   have hF := A.hsF
   rw [hqs] at hF
   refine zGy hC hT hF hev heff fun v φ' w' E hs5 hv => ?_
   refine next v φ' w' E (fun _ => by rw [hent]; exact hv) (fun h => by rw [hent] at h; cases h) ⟨i + 1, by omega, .inr ⟨i, rfl, hei⟩, fun j hj he => ?_, still hfl0 (A.eff S E hs5)⟩
   by_cases hij : i = j
   ·subst hij
    rw [z7 hil']
    simp
   ·rw [zY hij]
    refine ⟨fun hl => ?_, fun hl => hpre j he oq⟩
    have := (k3 j hj he).1 hl
    omega
  ·rw [xK hg hlook]
   simp only [if_true]
   obtain ⟨v, b, w', r1, r2, r3, r4, r5⟩ := zPo hT k4.hs (a := a) hev hfe
   obtain ⟨E, A⟩ := k4.made S hq hfl0 (by rw [hun]; simp) r2 r3 r4
   have fin := next v _ w' E (fun _ => by rw [hent]; exact r5 _ (z8 _ _ _)) (fun h => by rw [hent] at h; cases h) (keep hf _ _ A)
   refine zJ (D.plain o (yNr ho)) ?_
   rcases r1 with r1 | ⟨r1, rfl⟩
   ·rw [r1, Oper.uponIn_value]
    exact fin
   ·rw [r1]
    exact fin
theorem zEz {P : Program} {T : TT} {call : z6} (hC : wH P call) (hT : TOk P T) (hm : P.follows .mixedOrders = true) {n : Nat} {ops : Array Oper} {s s' : ES} (b : Bool) {R : List Rec} (hd : yCl ops.toList)
  (S : zMn call T ops n (zBg b ops.toList s.nx) ⟨s.sl, s.h, zQ2 b ops.toList s.nx, s.ds⟩ R s') (hc1 : PreP ops.toList R) (hc2 : zPn ops.toList R = true) (hc3 : zTz T ops.toList R s')
  (id : Nat) (w0 : FW) (ro : Option Nat) (φ : Phi) (a : Act) (w : World) (Q : Exit → Act → World → Prop) (hs : zDc P w0 n φ s a w) (hQ : ∀ φ' a' w', y0 φ w φ' w' → zDc P w0 n φ' s' a' w' → Q .normal a' w') : (Code.region id ops true).wpIn (fen ro) 0 P Q a w := by
 have harr : ops = ops.toList.toArray := by simp
 have hz : ∀ j, (Array.replicate ops.toList.toArray.size false).getD j false = false := fun j => by
  simp only [yMt, Array.getElem?_replicate]
  split <;> rfl
 have hz' : ∀ j, j < ops.toList.length → (Array.replicate ops.toList.toArray.size false).getD j true = false := fun j hj => by
  simp only [yMt, Array.getElem?_replicate]
  rw [if_pos (by simpa using hj)]; rfl
 have S' : zPz call T n ops.toList (zBg b ops.toList s.nx) s.nx (zQ2 b ops.toList s.nx) ⟨s.sl, s.h, zQ2 b ops.toList s.nx, s.ds⟩ R s' :=
  ⟨by rw [← harr]; exact S, zEj _ _ _, fun i o r h => jT _ _ _ i o r h, fun i j o o' r h h' => zEi _ _ _ i j o o' r h h'⟩
 obtain ⟨E1, s2⟩ := hs.hs.same (w' := w.drew) (Below.refl _ _).drew
 have hle := zHz b ops.toList s.nx
 rw [harr]
 refine wpIn_region_any hm (zX7 hC hT hd S' hc1 hc2 hc3 (φ0 := φ) (wa := w) (fun φ' a' w' E h => hQ φ' a' w' E h) _ _ φ a _ (yMk List.countP_le_length sq) E1
  ⟨hs.size, hs.defers.ext E1, by simp, fun i o ho hl => ?_, ⟨0, yMh _, .inl rfl, fun j _ _ => by rw [hz]; simp, ?_⟩, fun t e _ ht => (hs.slot t e ht).mono E1 rfl, fun i o q t _ _ _ hl => by rw [hz] at hl; cases hl⟩)
 ·have hil : i < ops.toList.length := (yNd.1 ho).1
  rw [hz' i hil] at hl; cases hl
 ·have h0 := S'.ok.2.1
  refine ⟨by rw [h0]; exact ⟨s2.below, ⟨s2.heap.here, s2.heap.inj, fun k hk => s2.heap.fresh k (yMk hle hk)⟩, s2.tabs, s2.tab, yMk s2.num.1 hle, s2.num.2⟩, s2.num.1, by rw [h0]; exact yMj _, fun j q r blk h1 h2 _ => ?_, fun j q r blk _ _ h3 => ?_, fun j j' q q' r r' blk blk' b _ _ h3 => ?_⟩
  ·obtain ⟨o, ho⟩ := zH9 S' h1 h2
   exact s2.heap.fresh r (S'.lo j o r ho).1
  ·rw [hz] at h3; cases h3
  ·rw [hz] at h3; cases h3
theorem zVy {P : Program} {T : TT} {call : z6} (hC : wH P call) (hT : TOk P T) (hm : P.follows .mixedOrders = true) (n : Nat) : zDd P n (drawE T call n) := by
 intro id ops s s' h w0 ro φ a w Q hs hQ
 unfold drawE at h
 cases hd : yFy ops.toList with
 | false => rw [hd] at h; cases h
 | true =>
  rw [hd] at h
  simp only [yMq] at h
  rw [zZ] at h
  obtain ⟨R, s1, S, hk⟩ := zAm _ _ _ _ h
  cases hc : (zBt ops.toList (j7 R) && (zPn ops.toList R && zNp T ops.toList R s1)) with
  | false => rw [hc] at hk; cases hk
  | true =>
   rw [hc] at hk
   cases hk
   rw [yNj, yNj] at hc
   exact zEz hC hT hm _ (zYz hd) S (fun L i h1 h2 h3 h4 => zVv hc.1 h1 h2 h3 h4) hc.2.1 (zSc (by rw [S.1, ← yO7 (f := Prod.fst), zEj]) hc.2.2) id w0 ro φ a w Q hs hQ
end Go.Proofs.YtioaahmkebojiaaGreatDoor
