/- The abstract logic: calls of functions that write variables of their callers: the rule. -/
import Derived.Test.YtihnjbnlbedpaaaDoorAlG2
namespace Go.Proofs.YtihnjbnlbedpaaaDoor
set_option linter.unusedVariables false
set_option linter.unusedSimpArgs false
set_option maxHeartbeats 4000000
set_option maxRecDepth 100000
open Go.RowKit
def pickG (G : Gh) (ib ir : List Nat) : Gh := ⟨G.imm, ib.filterMap (G.bx[·]?), ir.filterMap (G.rw[·]?)⟩
theorem filterMap_get {α : Type} {l : List α} : ∀ {ib : List Nat}, (∀ j ∈ ib, j < l.length) → ∀ (k : Nat), (ib.filterMap (l[·]?))[k]? = (ib[k]?).bind (l[·]?)
  | [], _, k => by simp
  | i :: ib, h, k => by
    have hi : l[i]? = some (l[i]'(h i (by simp))) := List.getElem?_eq_getElem _
    rw [List.filterMap_cons_some hi]
    cases k with
    | zero => simp [hi]
    | succ k => simpa using filterMap_get (fun j hj => h j (by simp [hj])) k
theorem filterMap_len {α : Type} {l : List α} : ∀ {ib : List Nat}, (∀ j ∈ ib, j < l.length) → (ib.filterMap (l[·]?)).length = ib.length
  | [], _ => rfl
  | i :: ib, h => by
    have hi : l[i]? = some (l[i]'(h i (by simp))) := List.getElem?_eq_getElem _
    rw [List.filterMap_cons_some hi, List.length_cons, List.length_cons, filterMap_len (ib := ib) (fun j hj => h j (by simp [hj]))]
section
variable {P : Program} {G : Gh} {w : World} {bx sub : List (List AV)} {rw rsub : List ARow} {ib ir : List Nat} {f g : Nat → Nat}
structure HandOk (ib ir : List Nat) (bx sub : List (List AV)) (rw rsub : List ARow) (f g : Nat → Nat) : Prop where
  hb : Handed ib bx sub (AV.renL f g)
  hr : Handed ir rw rsub (ARow.ren f g)
  fb : ∀ (k j : Nat), ib[k]? = some j → f k = j
  fr : ∀ (k j : Nat), ir[k]? = some j → g k = j
  cb : ∀ cs ∈ sub, AV.subL ib.length ir.length cs
  cr : ∀ r ∈ rsub, ∀ q, q < r.n → AV.subL ib.length ir.length (r.el q)
theorem Handed.lt {α : Type} {ib : List Nat} {bx sub : List α} {rn : α → α} (h : Handed ib bx sub rn) : ∀ j ∈ ib, j < bx.length := fun j hj => by
  obtain ⟨k, hk⟩ := List.getElem?_of_mem hj
  obtain ⟨c, _, h2⟩ := h.pick k j hk
  exact (List.getElem?_eq_some_iff.1 h2).1
theorem pick_bx (hm : MSat G w bx rw) (H : HandOk ib ir bx sub rw rsub f g) {k x : Nat} (h : (pickG G ib ir).bx[k]? = some x) : ∃ j, ib[k]? = some j ∧ G.bx[j]? = some x := by
  have hl : ∀ j ∈ ib, j < G.bx.length := fun j hj => by rw [hm.lenB]; exact H.hb.lt j hj
  have := filterMap_get hl k
  rw [show (pickG G ib ir).bx = ib.filterMap (G.bx[·]?) from rfl, this] at h
  cases hk : ib[k]? with
  | none => rw [hk] at h; cases h
  | some j => rw [hk] at h; exact ⟨j, rfl, h⟩
theorem pick_rw (hm : MSat G w bx rw) (H : HandOk ib ir bx sub rw rsub f g) {k : Nat} {x : Nat × Value} (h : (pickG G ib ir).rw[k]? = some x) : ∃ j, ir[k]? = some j ∧ G.rw[j]? = some x := by
  have hl : ∀ j ∈ ir, j < G.rw.length := fun j hj => by rw [hm.lenR]; exact H.hr.lt j hj
  have := filterMap_get hl k
  rw [show (pickG G ib ir).rw = ir.filterMap (G.rw[·]?) from rfl, this] at h
  cases hk : ir[k]? with
  | none => rw [hk] at h; cases h
  | some j => rw [hk] at h; exact ⟨j, rfl, h⟩
theorem pick_bx' (hm : MSat G w bx rw) (H : HandOk ib ir bx sub rw rsub f g) {k j : Nat} (h : ib[k]? = some j) : (pickG G ib ir).bx[k]? = G.bx[j]? := by
  have hl : ∀ j ∈ ib, j < G.bx.length := fun j hj => by rw [hm.lenB]; exact H.hb.lt j hj
  rw [show (pickG G ib ir).bx = ib.filterMap (G.bx[·]?) from rfl, filterMap_get hl k, h]; rfl
theorem pick_rw' (hm : MSat G w bx rw) (H : HandOk ib ir bx sub rw rsub f g) {k j : Nat} (h : ir[k]? = some j) : (pickG G ib ir).rw[k]? = G.rw[j]? := by
  have hl : ∀ j ∈ ir, j < G.rw.length := fun j hj => by rw [hm.lenR]; exact H.hr.lt j hj
  rw [show (pickG G ib ir).rw = ir.filterMap (G.rw[·]?) from rfl, filterMap_get hl k, h]; rfl
/-- What is handed over is as the callee wants it. -/
theorem msat_pick (hm : MSat G w bx rw) (H : HandOk ib ir bx sub rw rsub f g) : MSat (pickG G ib ir) w sub rsub ∧
    ∀ (xs : List AV) (vs : List Value), AV.subL ib.length ir.length xs → AV.relL G w (AV.renL f g xs) vs → AV.relL (pickG G ib ir) w xs vs := by
  have down : ∀ (xs : List AV) (vs : List Value), AV.subL ib.length ir.length xs → AV.relL G w (AV.renL f g xs) vs → AV.relL (pickG G ib ir) w xs vs := fun xs vs hs h =>
    AV.relL_unren (G := pickG G ib ir) (G' := G) (fun _ _ i => i) (fun k x hk hx => by
      have h1 : ib[k]? = some (ib[k]'hk) := List.getElem?_eq_getElem hk
      rw [pick_bx' hm H h1, ← H.fb k _ h1]; exact hx) (fun k e hk he => by
      have h1 : ir[k]? = some (ir[k]'hk) := List.getElem?_eq_getElem hk
      rw [pick_rw' hm H h1, ← H.fr k _ h1]; exact he) xs vs hs h
  have hlB : ∀ j ∈ ib, j < G.bx.length := fun j hj => by rw [hm.lenB]; exact H.hb.lt j hj
  have hlR : ∀ j ∈ ir, j < G.rw.length := fun j hj => by rw [hm.lenR]; exact H.hr.lt j hj
  have nb : (pickG G ib ir).bx.Nodup := by
    refine List.pairwise_iff_getElem.2 fun i j hi hj hij he => ?_
    have hj' : (pickG G ib ir).bx[j]? = some ((pickG G ib ir).bx[j]'hj) := List.getElem?_eq_getElem hj
    have he : (pickG G ib ir).bx[i]? = some ((pickG G ib ir).bx[j]'hj) := by rw [List.getElem?_eq_getElem hi, he]
    obtain ⟨a, a1, a2⟩ := pick_bx hm H he
    obtain ⟨b, b1, b2⟩ := pick_bx hm H hj'
    have hab : a = b := (List.getElem?_inj (List.getElem?_eq_some_iff.1 a2).1 hm.nodup).1 (a2.trans b2.symm)
    subst hab
    have := (List.getElem?_inj (List.getElem?_eq_some_iff.1 a1).1 H.hb.nodup).1 (a1.trans b1.symm)
    omega
  refine ⟨⟨hm.immOk, ?_, ?_, nb, fun k cs blk hk hg => ?_, fun k r x hk hg => ?_, fun k x gg hk hg hmem => ?_, fun k k' x x' gg hk hk' hg hg' => ?_⟩, down⟩
  · show (ib.filterMap (G.bx[·]?)).length = sub.length
    rw [filterMap_len hlB, H.hb.len]
  · show (ir.filterMap (G.rw[·]?)).length = rsub.length
    rw [filterMap_len hlR, H.hr.len]
  · obtain ⟨j, j1, j2⟩ := pick_bx hm H hg
    obtain ⟨c, c1, c2⟩ := H.hb.pick k j j1
    rw [hk] at c1
    cases c1
    obtain ⟨e1, vs, T, e2, e3⟩ := hm.box j _ blk c2 j2
    exact ⟨e1, vs, T, e2, down _ _ (H.cb cs (List.mem_of_getElem? hk)) e3⟩
  · obtain ⟨j, j1, j2⟩ := pick_rw hm H hg
    obtain ⟨c, c1, c2⟩ := H.hr.pick k j j1
    rw [hk] at c1
    cases c1
    have ro := hm.row j _ x c2 j2
    obtain ⟨xs, ho, hel⟩ := ro.own
    exact ⟨ro.len, ⟨xs, ho, fun i hi => by
      obtain ⟨vs, e1, e2⟩ := hel i hi
      exact ⟨vs, down _ _ (H.cr r (List.mem_of_getElem? hk) i hi) e1, e2⟩⟩, ro.imm⟩
  · obtain ⟨j, j1, j2⟩ := pick_rw hm H hk
    obtain ⟨q, hq⟩ := List.getElem?_of_mem hmem
    obtain ⟨a, a1, a2⟩ := pick_bx hm H hq
    exact hm.sepB j x gg j2 hg (List.mem_of_getElem? a2)
  · obtain ⟨j, j1, j2⟩ := pick_rw hm H hk
    obtain ⟨j', j1', j2'⟩ := pick_rw hm H hk'
    have := hm.sepR j j' x x' gg j2 j2' hg hg'
    subst this
    exact (List.getElem?_inj (List.getElem?_eq_some_iff.1 j1).1 H.hr.nodup).1 (j1.trans j1'.symm)
/-- Where an element behind the call comes from. -/
theorem Upd.from_ {α : Type} {ib : List Nat} {bx sub' bx' : List α} {rn : α → α} (U : Upd ib bx sub' bx' rn) {j : Nat} {c : α} (h : bx'[j]? = some c) :
    (∃ k c0, sub'[k]? = some c0 ∧ c = rn c0 ∧ j = idx ib bx.length k ∧ (ib[k]? = some j ∨ ib.length ≤ k)) ∨ (j < bx.length ∧ j ∉ ib ∧ bx[j]? = some c) := by
  by_cases hj : j < bx.length
  · by_cases hm : j ∈ ib
    · obtain ⟨k, hk⟩ := List.getElem?_of_mem hm
      rw [U.here k j hk] at h
      cases hs : sub'[k]? with
      | none => rw [hs] at h; cases h
      | some c0 =>
        rw [hs] at h
        simp only [Option.map_some, Option.some.injEq] at h
        exact .inl ⟨k, c0, hs, h.symm, (idx_old hk).symm, .inl hk⟩
    · rw [U.other j hj hm] at h
      exact .inr ⟨hj, hm, h⟩
  · obtain ⟨q, rfl⟩ : ∃ q, j = bx.length + q := ⟨j - bx.length, by omega⟩
    rw [U.new q] at h
    cases hs : sub'[ib.length + q]? with
    | none => rw [hs] at h; cases h
    | some c0 =>
      rw [hs] at h
      simp only [Option.map_some, Option.some.injEq] at h
      exact .inl ⟨ib.length + q, c0, hs, h.symm, by rw [idx_new (by omega)]; omega, .inr (by omega)⟩
theorem Upd.at_ {α : Type} {ib : List Nat} {bx sub' bx' : List α} {rn : α → α} (U : Upd ib bx sub' bx' rn) {k : Nat} {c0 : α} (h : sub'[k]? = some c0) : bx'[idx ib bx.length k]? = some (rn c0) := by
  cases hk : ib[k]? with
  | some j => rw [idx_old hk, U.here k j hk, h]; rfl
  | none =>
    have hge : ib.length ≤ k := List.getElem?_eq_none_iff.1 hk
    rw [idx_new hge, U.new, show ib.length + (k - ib.length) = k from by omega, h]; rfl
theorem idx_inj {ib : List Nat} {len : Nat} (hn : ib.Nodup) (hl : ∀ j ∈ ib, j < len) {k k' : Nat} (h : idx ib len k = idx ib len k') : k = k' := by
  cases hk : ib[k]? with
  | some j =>
    cases hk' : ib[k']? with
    | some j' =>
      rw [idx_old hk, idx_old hk'] at h
      subst h
      exact (List.getElem?_inj (List.getElem?_eq_some_iff.1 hk).1 hn).1 (hk.trans hk'.symm)
    | none =>
      rw [idx_old hk, idx_new (List.getElem?_eq_none_iff.1 hk')] at h
      have := hl j (List.mem_of_getElem? hk)
      omega
  | none =>
    have h1 := List.getElem?_eq_none_iff.1 hk
    cases hk' : ib[k']? with
    | some j' =>
      rw [idx_new h1, idx_old hk'] at h
      have := hl j' (List.mem_of_getElem? hk')
      omega
    | none =>
      have h2 := List.getElem?_eq_none_iff.1 hk'
      rw [idx_new h1, idx_new h2] at h
      omega
/-- What the caller has behind the call. -/
theorem msat_back (hm : MSat G w bx rw) (H : HandOk ib ir bx sub rw rsub (idx ib bx.length) (idx ir rw.length)) {G1 : Gh} {w' : World} {sub' bx' : List (List AV)} {rsub' rw' : List ARow}
    (hout : Outside (fun k => k ∈ (pickG G ib ir).bx ∨ ∃ x ∈ (pickG G ib ir).rw, x.2.ownBlock = some k) w w') (hle : (pickG G ib ir).Le w G1 w') (hfr : ∀ b o, G1.imm b o → G.imm b o ∨ w.heap.size ≤ b ∨ ∃ x ∈ (pickG G ib ir).rw, x.2.ownBlock = some b)
    (hoB : ∀ k ∈ G1.bx, k ∈ (pickG G ib ir).bx ∨ w.heap.size ≤ k) (hoR : ∀ x ∈ G1.rw, ∀ g, x.2.ownBlock = some g → (∃ y ∈ (pickG G ib ir).rw, y.2.ownBlock = some g) ∨ w.heap.size ≤ g) (hm1 : MSat G1 w' sub' rsub')
    (U : Upd ib bx sub' bx' (AV.renL (idx ib bx.length) (idx ir rw.length))) (UR : Upd ir rw rsub' rw' (ARow.ren (idx ib bx.length) (idx ir rw.length))) :
    ∃ G2 : Gh, G2.imm = G1.imm ∧ MSat G2 w' bx' rw' ∧ G.Le w G2 w' ∧ (∀ k ∈ G2.bx, k ∈ G.bx ∨ w.heap.size ≤ k) ∧ (∀ x ∈ G2.rw, ∀ g, x.2.ownBlock = some g → (∃ y ∈ G.rw, y.2.ownBlock = some g) ∨ w.heap.size ≤ g) ∧
      ∀ (x : AV) (v : Value), x.rel G1 w' v → (x.ren (idx ib bx.length) (idx ir rw.length)).rel G2 w' v := by
  have hlB : ∀ j ∈ ib, j < G.bx.length := fun j hj => by rw [hm.lenB]; exact H.hb.lt j hj
  have hlR : ∀ j ∈ ir, j < G.rw.length := fun j hj => by rw [hm.lenR]; exact H.hr.lt j hj
  have UB := setAll_upd (id : Nat → Nat) ib G.bx G1.bx H.hb.nodup hlB (by rw [hm1.lenB]; exact U.long)
  have UX := setAll_upd (id : Nat × Value → Nat × Value) ir G.rw G1.rw H.hr.nodup hlR (by rw [hm1.lenR]; exact UR.long)
  simp only [List.map_id] at UB UX
  generalize setAll G.bx ib G1.bx = B2 at UB
  generalize setAll G.rw ir G1.rw = R2 at UX
  have hpb : ∀ k j x, ib[k]? = some j → G.bx[j]? = some x → G1.bx[k]? = some x := fun k j x hk hx => hle.bx k x (by rw [pick_bx' hm H hk]; exact hx)
  -- variables keep their blocks
  have keepB : ∀ j, j < G.bx.length → B2[j]? = G.bx[j]? := fun j hj => by
    by_cases hmem : j ∈ ib
    · obtain ⟨k, hk⟩ := List.getElem?_of_mem hmem
      have h1 : G.bx[j]? = some (G.bx[j]'hj) := List.getElem?_eq_getElem hj
      rw [UB.here k j hk, h1, hpb k j _ hk h1]; rfl
    · exact UB.other j hj hmem
  have upB : ∀ (k x : Nat), G1.bx[k]? = some x → B2[idx ib bx.length k]? = some x := fun k x hx => by rw [← hm.lenB]; exact UB.at_ hx
  have upR : ∀ (k : Nat) (e : Nat × Value), G1.rw[k]? = some e → R2[idx ir rw.length k]? = some e := fun k e he => by rw [← hm.lenR]; exact UX.at_ he
  have up : ∀ (x : AV) (v : Value), x.rel G1 w' v → (x.ren (idx ib bx.length) (idx ir rw.length)).rel ⟨G1.imm, B2, R2⟩ w' v := fun x v h => AV.rel_ren (G := G1) (G' := ⟨G1.imm, B2, R2⟩) (fun _ _ i => i) upB upR x v h
  have upL : ∀ (xs : List AV) (vs : List Value), AV.relL G1 w' xs vs → AV.relL ⟨G1.imm, B2, R2⟩ w' (AV.renL (idx ib bx.length) (idx ir rw.length) xs) vs := fun xs vs h => AV.relL_ren (G := G1) (G' := ⟨G1.imm, B2, R2⟩) (fun _ _ i => i) upB upR xs vs h
  have le : G.Le w ⟨G1.imm, B2, R2⟩ w' := by
    refine ⟨hle.imm, hle.cell, fun k x hx => ?_, fun k e he => ?_⟩
    · show B2[k]? = some x
      rw [keepB k (List.getElem?_eq_some_iff.1 hx).1]; exact hx
    · have hk : k < G.rw.length := (List.getElem?_eq_some_iff.1 he).1
      by_cases hmem : k ∈ ir
      · obtain ⟨q, hq⟩ := List.getElem?_of_mem hmem
        obtain ⟨e', h1, h2⟩ := hle.rw q e (by rw [pick_rw' hm H hq]; exact he)
        refine ⟨e', ?_, h2⟩
        show R2[k]? = some e'
        rw [UX.here q k hq, h1]; rfl
      · exact ⟨e, by show R2[k]? = some e; rw [UX.other k hk hmem]; exact he, .inl rfl⟩
  -- the blocks of new variables are new
  have newB : ∀ k x, ib.length ≤ k → G1.bx[k]? = some x → w.heap.size ≤ x := fun k x hk hx => by
    rcases hoB x (List.mem_of_getElem? hx) with h | h
    · exfalso
      obtain ⟨q, hq⟩ := List.getElem?_of_mem h
      obtain ⟨j, j1, j2⟩ := pick_bx hm H hq
      have h3 := hpb q j x j1 j2
      have := (List.getElem?_inj (List.getElem?_eq_some_iff.1 h3).1 hm1.nodup).1 (h3.trans hx.symm)
      have : q < ib.length := (List.getElem?_eq_some_iff.1 j1).1
      omega
    · exact h
  have inG0 : ∀ j x, G.bx[j]? = some x → x ∈ (pickG G ib ir).bx → j ∈ ib := fun j x hx h => by
    obtain ⟨q, hq⟩ := List.getElem?_of_mem h
    obtain ⟨j', j1, j2⟩ := pick_bx hm H hq
    have := (List.getElem?_inj (List.getElem?_eq_some_iff.1 hx).1 hm.nodup).1 (hx.trans j2.symm)
    rw [this]; exact List.mem_of_getElem? j1
  have rowG0 : ∀ y ∈ (pickG G ib ir).rw, ∃ j k, ir[k]? = some j ∧ G.rw[j]? = some y := fun y hy => by
    obtain ⟨q, hq⟩ := List.getElem?_of_mem hy
    obtain ⟨j', j1, j2⟩ := pick_rw hm H hq
    exact ⟨j', q, j1, j2⟩
  have clB : ∀ (k x : Nat), B2[k]? = some x → G.bx[k]? = some x ∨ (∃ q, ib.length ≤ q ∧ G1.bx[q]? = some x ∧ w.heap.size ≤ x) := fun k x hx => by
    by_cases hk : k < G.bx.length
    · exact .inl (by rw [← keepB k hk]; exact hx)
    · obtain ⟨q, rfl⟩ : ∃ q, k = G.bx.length + q := ⟨k - G.bx.length, by omega⟩
      rw [UB.new q, Option.map_id_fun] at hx
      exact .inr ⟨ib.length + q, by omega, hx, newB _ _ (by omega) hx⟩
  have clR : ∀ (j : Nat) (x : Nat × Value), R2[j]? = some x → (∃ q, G1.rw[q]? = some x ∧ j = idx ir G.rw.length q) ∨ (j ∉ ir ∧ G.rw[j]? = some x) := fun j x hx => by
    rcases UX.from_ hx with ⟨k, c0, k1, h1, k2, _⟩ | ⟨_, k2, k3⟩
    · exact .inl ⟨k, by rw [h1]; exact k1, k2⟩
    · exact .inr ⟨k2, k3⟩
  have hUlenB : G.bx.length = bx.length := hm.lenB
  have hUlenR : G.rw.length = rw.length := hm.lenR
  refine ⟨⟨G1.imm, B2, R2⟩, rfl, ⟨hm1.immOk, ?_, ?_, ?_, fun j cs blk hj hg => ?_, fun j r x hj hg => ?_, fun j x gg hj hgg hmem => ?_, fun j j' x x' gg hj hj' hgg hgg' => ?_⟩, le, fun k hk => ?_, fun x hx gg hgg => ?_, up⟩
  · show B2.length = bx'.length
    rw [UB.len, U.len, hm1.lenB, hm.lenB]
  · show R2.length = rw'.length
    rw [UX.len, UR.len, hm1.lenR, hm.lenR]
  · refine List.pairwise_iff_getElem.2 fun i j hi hj hij he => ?_
    have hj' : B2[j]? = some (B2[j]'hj) := List.getElem?_eq_getElem hj
    have hi' : B2[i]? = some (B2[j]'hj) := by rw [List.getElem?_eq_getElem hi, he]
    by_cases hjl : j < G.bx.length
    · rw [keepB j hjl] at hj'
      rw [keepB i (by omega)] at hi'
      have := (List.getElem?_inj (by omega) hm.nodup).1 (hi'.trans hj'.symm)
      omega
    · obtain ⟨q, rfl⟩ : ∃ q, j = G.bx.length + q := ⟨j - G.bx.length, by omega⟩
      rw [UB.new q, Option.map_id_fun] at hj'
      by_cases hil : i < G.bx.length
      · rw [keepB i hil] at hi'
        have h1 := newB _ _ (by omega) hj'
        have h2 := hm.lt_box (List.mem_of_getElem? hi')
        omega
      · obtain ⟨q', rfl⟩ : ∃ q', i = G.bx.length + q' := ⟨i - G.bx.length, by omega⟩
        rw [UB.new q', Option.map_id_fun] at hi'
        have := (List.getElem?_inj (List.getElem?_eq_some_iff.1 hi').1 hm1.nodup).1 (hi'.trans hj'.symm)
        omega
  · rcases U.from_ hj with ⟨k, c0, k1, rfl, rfl, k2⟩ | ⟨k1, k2, k3⟩
    · have hg1 : G1.bx[k]? = some blk := by
        have hkl : k < G1.bx.length := by rw [hm1.lenB]; exact (List.getElem?_eq_some_iff.1 k1).1
        have h1 : G1.bx[k]? = some (G1.bx[k]'hkl) := List.getElem?_eq_getElem hkl
        have h2 := upB k _ h1
        rw [show B2[idx ib bx.length k]? = some blk from hg] at h2
        rw [h1, h2]
      obtain ⟨e1, vs, T, e2, e3⟩ := hm1.box k c0 blk k1 hg1
      exact ⟨e1, vs, T, e2, upL _ _ e3⟩
    · have hg0 : G.bx[j]? = some blk := by rw [← keepB j (by omega)]; exact hg
      obtain ⟨e1, vs, T, e2, e3⟩ := hm.box j cs blk k3 hg0
      have hmb := List.mem_of_getElem? hg0
      have hlt := hm.lt_box hmb
      have hnr : ∀ y ∈ (pickG G ib ir).rw, y.2.ownBlock ≠ some blk := fun y hy hyb => by
        obtain ⟨q, _, _, hq⟩ := rowG0 y hy
        exact hm.sepB q y blk hq hyb hmb
      refine ⟨fun o i => ?_, vs, T, by rw [hout.block blk hlt (fun h => h.elim (fun h => k2 (inG0 j blk hg0 h)) fun ⟨y, hy, hyb⟩ => hnr y hy hyb)]; exact e2, AV.relL_mono le _ _ e3⟩
      rcases hfr blk o i with h | h | ⟨y, hy, hyb⟩
      · exact e1 o h
      · omega
      · exact hnr y hy hyb
  · rcases UR.from_ hj with ⟨k, c0, k1, rfl, rfl, k2⟩ | ⟨k1, k2, k3⟩
    · have hg1 : G1.rw[k]? = some x := by
        have hkl : k < G1.rw.length := by rw [hm1.lenR]; exact (List.getElem?_eq_some_iff.1 k1).1
        have h1 : G1.rw[k]? = some (G1.rw[k]'hkl) := List.getElem?_eq_getElem hkl
        have h2 := upR k _ h1
        rw [show R2[idx ir rw.length k]? = some x from hg] at h2
        rw [h1, h2]
      have ro := hm1.row k c0 x k1 hg1
      obtain ⟨xs, ho, hel⟩ := ro.own
      exact ⟨ro.len, ⟨xs, ho, fun i hi => by
        obtain ⟨vs, e1, e2⟩ := hel i hi
        exact ⟨vs, upL _ _ e1, e2⟩⟩, ro.imm⟩
    · have hg0 : G.rw[j]? = some x := by rw [← UX.other j (by omega) k2]; exact hg
      have ro := hm.row j r x k3 hg0
      obtain ⟨xs, ho, hel⟩ := ro.own
      have hnr : ∀ gq, x.2.ownBlock = some gq → ∀ y ∈ (pickG G ib ir).rw, y.2.ownBlock ≠ some gq := fun gq hgq y hy hyb => by
        obtain ⟨q, a, ha, hq⟩ := rowG0 y hy
        have := hm.sepR j q x y gq hg0 hq hgq hyb
        rw [this] at k2
        exact k2 (List.mem_of_getElem? ha)
      have hnb : ∀ gq, x.2.ownBlock = some gq → gq ∉ (pickG G ib ir).bx := fun gq hgq h => by
        obtain ⟨q, hq⟩ := List.getElem?_of_mem h
        obtain ⟨a, _, a2⟩ := pick_bx hm H hq
        exact hm.sepB j x gq hg0 hgq (List.mem_of_getElem? a2)
      refine ⟨ro.len, ⟨xs, ⟨ho.1, ?_⟩, fun i hi => by
        obtain ⟨vs, e1, e2⟩ := hel i hi
        exact ⟨vs, AV.relL_mono le _ _ e1, e2⟩⟩, fun gq hgq o => ?_⟩
      · rcases ho.2 with ho2 | ⟨gq, cap, cur, hv, hbg, hh, hr⟩
        · exact .inl ho2
        · have hgq : x.2.ownBlock = some gq := by rw [hv]; rfl
          exact .inr ⟨gq, cap, cur, hv, hbg, by rw [hout.block gq (Array.getElem?_eq_some_iff.1 hh).1 (fun h => h.elim (hnb gq hgq) fun ⟨y, hy, hyb⟩ => hnr gq hgq y hy hyb)]; exact hh, hr⟩
      · rw [← ro.imm gq hgq o]
        have hlt := hm.lt_row hg0 hgq
        refine ⟨fun i => ?_, hle.imm gq o⟩
        rcases hfr gq o i with h | h | ⟨y, hy, hyb⟩
        · exact h
        · omega
        · exact absurd hyb (hnr gq hgq y hy)
  · obtain ⟨kb, hkb⟩ := List.getElem?_of_mem hmem
    rcases clR j x hj with ⟨q, q1, q2⟩ | ⟨q1, q2⟩
    · rcases clB kb gg hkb with b1 | ⟨q', _, b1, _⟩
      · rcases hoR x (List.mem_of_getElem? q1) gg hgg with ⟨y, hy, hyg⟩ | h
        · obtain ⟨a, _, _, ha⟩ := rowG0 y hy
          exact hm.sepB a y gg ha hyg (List.mem_of_getElem? b1)
        · have := hm.lt_box (List.mem_of_getElem? b1)
          omega
      · exact hm1.sepB q x gg q1 hgg (List.mem_of_getElem? b1)
    · rcases clB kb gg hkb with b1 | ⟨q', _, _, b1⟩
      · exact hm.sepB j x gg q2 hgg (List.mem_of_getElem? b1)
      · have := hm.lt_row q2 hgg
        omega
  · have mix : ∀ (j j' : Nat) (x x' : Nat × Value) (q : Nat), G1.rw[q]? = some x → j' ∉ ir → G.rw[j']? = some x' → x.2.ownBlock = some gg → x'.2.ownBlock = some gg → False := fun j j' x x' q q1 q2 q3 o1 o2 => by
      rcases hoR x (List.mem_of_getElem? q1) gg o1 with ⟨y, hy, hyg⟩ | h
      · obtain ⟨a, k, hk, ha⟩ := rowG0 y hy
        have := hm.sepR a j' y x' gg ha q3 hyg o2
        rw [this] at hk
        exact q2 (List.mem_of_getElem? hk)
      · have := hm.lt_row q3 o2
        omega
    rcases clR j x hj with ⟨q, q1, q2⟩ | ⟨q1, q2⟩
    · rcases clR j' x' hj' with ⟨q', q1', q2'⟩ | ⟨q1', q2'⟩
      · rw [q2, q2', hm1.sepR q q' x x' gg q1 q1' hgg hgg']
      · exact (mix j j' x x' q q1 q1' q2' hgg hgg').elim
    · rcases clR j' x' hj' with ⟨q', q1', q2'⟩ | ⟨q1', q2'⟩
      · exact (mix j' j x' x q' q1' q1 q2 hgg' hgg).elim
      · exact hm.sepR j j' x x' gg q2 q2' hgg hgg'
  · obtain ⟨kb, hkb⟩ := List.getElem?_of_mem hk
    rcases clB kb k hkb with b1 | ⟨q', _, _, b1⟩
    · exact .inl (List.mem_of_getElem? b1)
    · exact .inr b1
  · obtain ⟨j, hj⟩ := List.getElem?_of_mem hx
    rcases clR j x hj with ⟨q, q1, q2⟩ | ⟨q1, q2⟩
    · rcases hoR x (List.mem_of_getElem? q1) gg hgg with ⟨y, hy, hyg⟩ | h
      · obtain ⟨a, _, _, ha⟩ := rowG0 y hy
        exact .inl ⟨y, List.mem_of_getElem? ha, hyg⟩
      · exact .inr h
    · exact .inl ⟨x, List.mem_of_getElem? q2, hgg⟩
end
end Go.Proofs.YtihnjbnlbedpaaaDoor
