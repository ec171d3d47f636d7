/- The last step of a statement: whatever a reading gives for an argument is an abstract value of its type. -/
import Derived.Test.YticlpcgkaffdmaaAlDraw
import Derived.WalkKit
import Derived.ProofKit
import Derived.OpenShut
import Derived.Carry
namespace Go.Proofs.Yticlpcgkaffdmaa
set_option linter.unusedSectionVars false
set_option linter.unusedVariables false
set_option linter.unusedSimpArgs false
open Go.RowKit Go.ChangeShapes

/-- Cells that follow each other, of some types. -/
def cutOk (ok : Nat → List AV → Prop) (T : TT) : List Nat → List AV → Prop
  | [], xs => xs = []
  | t :: r, xs => match T t with
    | some j => ∃ a b, xs = a ++ b ∧ a.length = j.size ∧ ok t a ∧ cutOk ok T r b
    | none => True
/-- The cells of a value of a type, down to some depth. -/
def CellsOk (T : TT) : Nat → Nat → List AV → Prop
  | 0, _, _ => True
  | n + 1, t, xs => match T t with
    | some i => match i.k with
      | .int k => ∃ m, xs = [.raw (.int k m)] ∧ inK k m
      | .bool => ∃ b, xs = [.raw (.bool b)]
      | .str => ∃ s : ByteArray, xs = [.raw (.string s)] ∧ s.size ≤ maxLen
      | .slice e => match T e with
        | some j => ∃ m el, xs = [.lst j.size m el] ∧ m ≤ maxLen ∧ ∀ i, i < m → (el i).length = j.size ∧ CellsOk T n e (el i)
        | none => True
      | .struct fs => cutOk (CellsOk T n) T (fs.map (·.2)) xs
      | .array c e => cutOk (CellsOk T n) T (List.replicate c e) xs
      | _ => True
    | none => True
def cutWf (T : TT) : Nat → List (Nat × Nat) → Nat → Bool
  | off, [], size => off == size
  | off, f :: r, size => f.1 == off && match T f.2 with
    | some j => cutWf T (off + j.size) r size
    | none => false
/-- That a type's parts are told of and lie one behind another. -/
def wfT (T : TT) : Nat → Nat → Bool
  | 0, _ => true
  | n + 1, t => match T t with
    | some i => match i.k with
      | .slice e => (match T e with
        | some j => decide (0 < j.size)
        | none => false) && wfT T n e
      | .struct fs => cutWf T 0 fs i.size && fs.all fun f => wfT T n f.2
      | .array c e => (match T e with
        | some j => i.size == c * j.size
        | none => false) && wfT T n e
      | _ => true
    | none => false
def presentI (w : World) (b o : Nat) : Prop := (w.cell? ⟨b, o, none⟩).isSome = true

section
variable {H : Type} {enc : TypeId × Value → H} {P : Program} {w : World} {base : Nat} {spare : Nat → Bool} {held : Bool} {T : TT}
theorem raws_rel (G : Gh) (w : World) (cs : List Value) : AV.relL G w (cs.map .raw) cs := AV.relL_mk (by simp) fun j x v hx hv => by
  rw [List.getElem?_map, hv] at hx
  simp only [Option.map_some, Option.some.injEq] at hx
  subst hx; rfl
theorem wf_inK {k : IntKind} {n : Int} (h : (Lit.int k n).wf = true) : inK k n := by
  cases k <;> simp [Lit.wf, IntKind.has, IntKind.min, IntKind.max, IntKind.bits, IntKind.signed] at h <;> simp only [inK] <;> omega
theorem cutWf_le : ∀ {fs : List (Nat × Nat)} {off size : Nat}, cutWf T off fs size = true → off ≤ size
  | [], off, size, h => by simp only [cutWf, beq_iff_eq] at h; omega
  | f :: r, off, size, h => by
    simp only [cutWf, Bool.and_eq_true, beq_iff_eq] at h
    obtain ⟨_, h⟩ := h
    split at h
    · have := cutWf_le h; omega
    · cases h
theorem cut_open {G : Gh} {ok : Nat → List AV → Prop} (cs : List Value) : ∀ (fs : List (Nat × Nat)) (off size : Nat), cutWf T off fs size = true → cs.length = size →
    (∀ f ∈ fs, ∀ j, T f.2 = some j → ∃ xs, AV.relL G w xs ((cs.drop f.1).take j.size) ∧ ok f.2 xs) → ∃ xs, AV.relL G w xs (cs.drop off) ∧ cutOk ok T (fs.map (·.2)) xs
  | [], off, size, h, hl, _ => by
    simp only [cutWf, beq_iff_eq] at h
    exact ⟨[], by rw [List.drop_eq_nil_of_le (by omega)]; rfl, rfl⟩
  | f :: r, off, size, h, hl, hf => by
    simp only [cutWf, Bool.and_eq_true, beq_iff_eq] at h
    obtain ⟨h1, h⟩ := h
    split at h
    · rename_i j hj
      obtain ⟨a, ha, hok⟩ := hf f (by simp) j hj
      obtain ⟨b, hb, hok2⟩ := cut_open cs r (off + j.size) size h hl fun g hg => hf g (by simp [hg])
      have hle := cutWf_le h
      have hlen := AV.relL_length ha
      rw [h1] at ha hlen
      refine ⟨a ++ b, ?_, ?_⟩
      · have : cs.drop off = (cs.drop off).take j.size ++ cs.drop (off + j.size) := by rw [← List.drop_drop, List.take_append_drop]
        rw [this]
        exact AV.relL_append ha hb
      · simp only [List.map_cons, cutOk, hj]
        exact ⟨a, b, rfl, by rw [← hlen]; simp; omega, hok, hok2⟩
    · cases h
theorem arr_open {G : Gh} {ok : Nat → List AV → Prop} {e : Nat} {j : TI} (hj : T e = some j) (cs : List Value) (c : Nat) (hl : cs.length = c * j.size) : ∀ (m s : Nat), s + m = c →
    (∀ i, i < c → ∃ xs, AV.relL G w xs ((cs.drop (i * j.size)).take j.size) ∧ ok e xs) → ∃ xs, AV.relL G w xs (cs.drop (s * j.size)) ∧ cutOk ok T (List.replicate m e) xs
  | 0, s, hs, _ => ⟨[], by rw [List.drop_eq_nil_of_le (by rw [hl, ← hs]; simp)]; rfl, rfl⟩
  | m + 1, s, hs, hf => by
    obtain ⟨a, ha, hok⟩ := hf s (by omega)
    obtain ⟨b, hb, hok2⟩ := arr_open hj cs c hl m (s + 1) (by omega) hf
    have hlen := AV.relL_length ha
    have hle : (s + 1) * j.size ≤ c * j.size := Nat.mul_le_mul_right _ (by omega)
    rw [Nat.succ_mul] at hle
    refine ⟨a ++ b, ?_, ?_⟩
    · have : cs.drop (s * j.size) = (cs.drop (s * j.size)).take j.size ++ cs.drop ((s + 1) * j.size) := by rw [Nat.succ_mul, ← List.drop_drop, List.take_append_drop]
      rw [this]
      exact AV.relL_append ha hb
    · simp only [List.replicate_succ, cutOk, hj]
      exact ⟨a, b, rfl, by rw [← hlen]; simp; omega, hok, hok2⟩
theorem TiOk.cells {t : Nat} {i : TI} (h : TiOk P t i) : P.cellsOf t = i.size := by
  have h1 := h.info
  cases hi : P.info? t with
  | none => rw [hi] at h1; cases h1
  | some x =>
    rw [hi] at h1
    simp only [Option.map_some, Option.some.injEq, Prod.mk.injEq] at h1
    simp [Program.cellsOf, hi, h1.2.1]
theorem open_cells (hT : TOk P T) : ∀ (n fuel t : Nat) (cs : List Value) (x : DataW H × List MemPlace), wfT T n t = true → DataW.trod enc P w base spare held fuel t cs = some x →
    ∃ xs, AV.relL ⟨presentI w, [], []⟩ w xs cs ∧ CellsOk T n t xs := by
  intro n
  induction n with
  | zero => intro fuel t cs x _ _; exact ⟨cs.map .raw, raws_rel _ _ _, trivial⟩
  | succ n ih =>
    intro fuel t cs x hw h
    unfold wfT at hw
    cases hi : T t with
    | none => rw [hi] at hw; cases hw
    | some i =>
      rw [hi] at hw
      simp only at hw
      obtain ⟨d, hd, hdk⟩ := (hT t i hi).und_some
      cases hk : i.k with
      | int k =>
        rw [hk] at hdk
        have := tkOf_int hdk; subst this
        obtain ⟨m, rfl, _, hwf⟩ := DataW.trod_int hd h
        exact ⟨[.raw (.int k m)], ⟨_, _, rfl, rfl, rfl⟩, by simp only [CellsOk, hi, hk]; exact ⟨m, rfl, wf_inK hwf⟩⟩
      | bool =>
        rw [hk] at hdk
        have := tkOf_bool hdk; subst this
        obtain ⟨m, rfl, _⟩ := DataW.trod_bool hd h
        exact ⟨[.raw (.bool m)], ⟨_, _, rfl, rfl, rfl⟩, by simp only [CellsOk, hi, hk]; exact ⟨m, rfl⟩⟩
      | str =>
        rw [hk] at hdk
        have := tkOf_str hdk; subst this
        obtain ⟨m, rfl, _, hm⟩ := DataW.trod_string hd h
        exact ⟨[.raw (.string m)], ⟨_, _, rfl, rfl, rfl⟩, by simp only [CellsOk, hi, hk]; exact ⟨m, rfl, hm⟩⟩
      | slice e =>
        rw [hk] at hdk hw
        have := tkOf_slice hdk; subst this
        simp only [Bool.and_eq_true] at hw
        obtain ⟨hw1, hw2⟩ := hw
        split at hw1
        · rename_i j hj
          have hj0 : 0 < j.size := by simpa using hw1
          have hce := (hT e j hj).cells
          rcases DataW.trod_slice hd h with ⟨rfl, _⟩ | ⟨a, len, cap, elems, rest, m, _, rfl, _, hb, hl, hm, hlen, hel, _⟩
          · refine ⟨[.lst j.size 0 fun _ => []], ⟨_, _, rfl, ⟨none, 0, rfl, Nat.le_refl _, by simp [maxLen], fun h => by omega⟩, rfl⟩, ?_⟩
            simp only [CellsOk, hi, hk, hj]
            exact ⟨0, _, rfl, by simp [maxLen], fun i h => by omega⟩
          · have each : ∀ k, k < len → ∃ xs, ∃ cs', w.cells? base (a.add (k * P.cellsOf e)) (P.cellsOf e) = some cs' ∧ AV.relL ⟨presentI w, [], []⟩ w xs cs' ∧ CellsOk T n e xs := by
              intro k hk
              have h1 := hel k hk
              rw [List.getElem?_eq_getElem (by omega), Option.bind_eq_some_iff] at h1
              obtain ⟨cs', h2, h3⟩ := h1
              obtain ⟨xs, h4, h5⟩ := ih m e cs' _ hw2 h3
              exact ⟨xs, cs', h2, h4, h5⟩
            let el : Nat → List AV := fun k => if h : k < len then (each k h).choose else []
            have hel2 : ∀ k, k < len → ∃ cs', w.cells? base (a.add (k * P.cellsOf e)) (P.cellsOf e) = some cs' ∧ AV.relL ⟨presentI w, [], []⟩ w (el k) cs' ∧ CellsOk T n e (el k) := by
              intro k hk
              have : el k = (each k hk).choose := by simp only [el, dif_pos hk]
              rw [this]
              exact (each k hk).choose_spec
            refine ⟨[.lst j.size len el], ⟨_, _, rfl, ⟨some a, cap, rfl, hl, hm, fun hn => ?_⟩, rfl⟩, ?_⟩
            · have hsp : a = ⟨a.block, a.off, none⟩ := by
                obtain ⟨cs', h1, _⟩ := hel2 0 hn
                have h2 := World.cells?_some h1
                have h3 := h2.2.2 0 (by omega)
                rw [List.getElem?_eq_getElem (by omega)] at h3
                simp only [Nat.zero_mul, Addr.add, if_true] at h3
                obtain ⟨b, o, sp⟩ := a
                cases sp with
                | none => rfl
                | some q =>
                  simp only [World.cell?] at h3
                  split at h3
                  · simp at h3
                  · cases h3
              refine ⟨a.block, a.off, by rw [← hsp], fun k hk => ?_⟩
              obtain ⟨cs', h1, h2, _⟩ := hel2 k hk
              obtain ⟨_, h4, h5⟩ := World.cells?_some h1
              refine ⟨cs', h2, by rw [h4, hce], fun q u hq => ?_⟩
              have hql : q < cs'.length := (List.getElem?_eq_some_iff.1 hq).1
              have h6 := h5 q (by omega)
              have hadd : (a.add (k * P.cellsOf e)).add q = ⟨a.block, a.off + k * j.size + q, none⟩ := by
                rw [hsp, hce]
                have e1 : (⟨a.block, a.off, none⟩ : Addr).add (k * j.size) = ⟨a.block, a.off + k * j.size, none⟩ := by
                  unfold Addr.add; split
                  · rename_i h0; rw [h0]; rfl
                  · rfl
                rw [e1]
                unfold Addr.add; split
                · rename_i h0; rw [h0]; rfl
                · rfl
              rw [hadd, hq] at h6
              exact ⟨by show (w.cell? _).isSome = true; rw [h6]; rfl, h6⟩
            · simp only [CellsOk, hi, hk, hj]
              refine ⟨len, el, rfl, by omega, fun k hk => ?_⟩
              obtain ⟨cs', h1, h2, h3⟩ := hel2 k hk
              exact ⟨by rw [← AV.relL_length h2, (World.cells?_some h1).2.1, hce], h3⟩
        · cases hw1
      | struct fs =>
        rw [hk] at hdk hw
        obtain ⟨fa, rfl, hfs⟩ := tkOf_struct hdk
        simp only [Bool.and_eq_true, List.all_eq_true] at hw
        obtain ⟨xs, m, _, _, hl, hxl, hfd⟩ := DataW.trod_struct hd h
        rw [(hT t i hi).cells] at hl
        obtain ⟨ys, h1, h2⟩ := cut_open (w := w) (G := ⟨presentI w, [], []⟩) (ok := CellsOk T n) cs fs 0 i.size hw.1 hl (fun f hf j hj => by
          rw [← hfs, List.mem_map] at hf
          obtain ⟨g, hg, rfl⟩ := hf
          obtain ⟨q, hq⟩ := List.getElem?_of_mem hg
          have h3 := hfd q g (by simpa using hq)
          have hql : q < xs.length := by rw [hxl]; simpa using (List.getElem?_eq_some_iff.1 hq).1
          rw [List.getElem?_eq_getElem hql, (hT _ j hj).cells] at h3
          exact ih m g.type _ _ (hw.2 (g.offset, g.type) (by rw [← hfs, List.mem_map]; exact ⟨g, hg, rfl⟩)) h3)
        exact ⟨ys, by simpa using h1, by simp only [CellsOk, hi, hk]; exact h2⟩
      | array c e =>
        rw [hk] at hdk hw
        have := tkOf_array hdk; subst this
        simp only [Bool.and_eq_true] at hw
        obtain ⟨hw1, hw2⟩ := hw
        split at hw1
        · rename_i j hj
          obtain ⟨xs, m, _, _, hl, hxl, hfd⟩ := DataW.trod_array hd h
          rw [(hT t i hi).cells, show i.size = c * j.size from by simpa using hw1] at hl
          obtain ⟨ys, h1, h2⟩ := arr_open (w := w) (G := ⟨presentI w, [], []⟩) (ok := CellsOk T n) hj cs c hl c 0 (by omega) (fun q hq => by
            have h3 := hfd q hq
            rw [List.getElem?_eq_getElem (by omega), (hT _ j hj).cells] at h3
            exact ih m e _ _ hw2 h3)
          exact ⟨ys, by simpa using h1, by simp only [CellsOk, hi, hk]; exact h2⟩
        · cases hw1
      | _ => exact ⟨cs.map .raw, raws_rel _ _ _, by simp only [CellsOk, hi, hk]⟩
/-- The value of some cells. -/
def valA (agg : Bool) (xs : List AV) : AV := bif agg then .agg xs else nthA xs 0
theorem open_val (hT : TOk P T) {r : Reach} {b0 n t : Nat} {i : TI} {v : Value} {d : DataW H} {ps : List MemPlace} (hi : T t = some i) (hw : wfT T n t = true) (hval : Value.okWide P w r b0 t v) (hd : DataW.Trod enc P w base spare held t v d ps) :
    ∃ xs, (valA i.k.agg xs).rel ⟨presentI w, [], []⟩ w v ∧ CellsOk T n t xs := by
  obtain ⟨fuel, hf⟩ := hd
  obtain ⟨xs, h1, h2⟩ := open_cells hT n fuel t _ _ hw hf
  refine ⟨xs, ?_, h2⟩
  obtain ⟨dd, hu, hk⟩ := (hT t i hi).und_some
  unfold Value.okWide at hval
  rw [hu] at hval
  have agg : i.k.agg = true → (∃ cs, v = .agg cs ∧ cs.size = P.cellsOf t ∧ Row.okWide P w r b0 t cs) → (valA i.k.agg xs).rel ⟨presentI w, [], []⟩ w v := by
    rintro ha ⟨cs, rfl, _, _⟩
    rw [ha]
    exact ⟨cs.toList, rfl, h1⟩
  have one : i.k.agg = false → Cell.okWide P w r b0 t v → (valA i.k.agg xs).rel ⟨presentI w, [], []⟩ w v := by
    intro ha hv
    have hc : v.cells = #[v] := by
      cases v with
      | agg cs =>
        exfalso
        unfold Cell.okWide Cell.ok at hv
        rw [hu] at hv
        cases dd <;> simp at hv
      | _ => rfl
    rw [hc] at h1
    rw [ha]
    match xs, h1 with
    | [], h1 => simp [AV.relL] at h1
    | [x], ⟨u, r, e, h3, h4⟩ =>
      simp only [List.cons.injEq] at e
      rw [e.1]
      exact h3
    | _ :: _ :: _, ⟨u, r, e, h3, u', r', e', _⟩ => simp [e'] at e
  rw [← hk] at agg one ⊢
  cases dd <;> first | exact agg rfl hval | exact one rfl hval
end

/-! ### What stands behind the call -/
theorem trodAll_stays {H : Type} {enc : TypeId × Value → H} {P : Program} (hl : laidOutB P = true) {W W' : World} (hb : Below W.heap.size W W') {sp : Nat → Bool} : ∀ (ts : List TypeId) (vs : List Value) (ds : List (DataW H)) (ps : List MemPlace),
    (∀ t ∈ ts, P.readableRec t = true ∧ t < P.types.size) → DataW.TrodAll enc P W 0 (fun _ => true) true ts vs ds ps → (∀ x ∈ ps, x.block < W.heap.size) → (∀ x ∈ ps, sp x.block = true) → DataW.TrodAll enc P W' 0 sp true ts vs ds ps
  | [], [], [], ps, _, h, _, _ => h
  | t :: ts, v :: vs, d :: ds, ps, ht, h, h1, h2 => by
    obtain ⟨p, q, e1, e2, rfl⟩ := h
    have htt := ht t (by simp)
    exact ⟨p, q, WideElems.Trod_stays hl htt.1 htt.2 e1 (fun x hx => hb.same (h1 x (by simp [hx]))) (fun x hx => h2 x (by simp [hx])),
      trodAll_stays hl hb ts vs ds q (fun u hu => ht u (by simp [hu])) e2 (fun x hx => h1 x (by simp [hx])) (fun x hx => h2 x (by simp [hx])), rfl⟩
  | [], [], _ :: _, ps, _, h, _, _ => h.elim
  | [], _ :: _, [], ps, _, h, _, _ => h.elim
  | [], _ :: _, _ :: _, ps, _, h, _, _ => h.elim
  | _ :: _, [], [], ps, _, h, _, _ => h.elim
  | _ :: _, [], _ :: _, ps, _, h, _, _ => h.elim
  | _ :: _, _ :: _, [], ps, _, h, _, _ => h.elim
theorem trodVars_nil' {H : Type} {enc : TypeId × Value → H} {P : Program} {W : World} {sp : Nat → Bool} : DataW.TrodVars enc P W sp [] [] [] := rfl
/-- A law that returned true, where nothing that there was is changed. -/
theorem law_post {H : Type} {enc : TypeId × Value → H} {P : Program} {f : Func} {s : ChangeSpec} {apart fresh handsOn again : Bool} {W W' : World} {args : Array Value} {ds gs : List (DataW H)} {before : List MemPlace} {tb : TypeId}
    (hl : laidOutB P = true) (hts : ∀ t ∈ f.params.toList, P.readableRec t = true ∧ t < P.types.size) (hrt : f.resultTypes = #[tb]) (hbo : P.underlying tb = some .bool) (hsv : s.vars = [])
    (hW : DataW.Whole enc P f.params.toList s.vars apart W args.toList ds gs before) (hfn : (s.fn H (ds ++ gs)) = { results := [.lit (.bool true)], args := ds }) (hb : Below W.heap.size W W') :
    s.post enc P f apart fresh handsOn again W args (.bool true) W' := by
  have hlt : ∀ p ∈ before, p.block < W.heap.size := fun p hp => hW.lt p hp
  obtain ⟨p, q, hA, hV, rfl, hz, hn⟩ := id hW
  rw [hsv] at hV
  obtain ⟨rfl, rfl⟩ := trodVars_none hV
  simp only [List.append_nil] at hlt hz hn hfn
  have hA' : ∀ sp : Nat → Bool, (∀ x ∈ p, sp x.block = true) → DataW.TrodAll enc P W' 0 sp true f.params.toList args.toList ds p := fun sp hsp => trodAll_stays hl hb _ _ _ _ hts hA hlt hsp
  have hres : ∀ (b : Nat) (sp : Nat → Bool) (hd : Bool), DataW.TrodAll enc P W' b sp hd f.resultTypes.toList ((Value.bool true).resultList f.resultTypes.size) [.lit (.bool true)] [] := fun b sp hd => by
    rw [hrt]
    exact trodAll_cons_mk (shut_bool hbo _) trodAll_mk0
  have hold : ∀ x ∈ p, (fun b => decide (b < W.heap.size)) x.block = true := fun x hx => by simpa using hlt x hx
  refine ⟨ds, [], p ++ [], [], p, [], hW, ?_, ?_, ?_, World.keptBut_mono (fun x hx => ⟨hx, .inr ?_⟩) (hb.frame (· ∈ p ++ [])), fun _ => ?_⟩
  · rw [List.append_nil, hfn]; exact hres _ _ _
  · rw [List.append_nil, hfn]; exact hA' _ hold
  · rw [List.append_nil, hfn, hsv]; rfl
  · simpa using hx
  · refine ⟨ok_one hrt rfl (okWide_bool_mk hbo _), _, _, ([] ++ p) ++ [], ⟨[] ++ p, [], trodAll_append (hA' _ (fun _ _ => rfl)) (hres _ _ _), (by rw [hsv]; exact trodVars_nil'), rfl, ?_, ?_⟩, ?_⟩
    · intro b off hp
      have hin : MemPlace.cell b off ∈ p := by simpa using hp
      rw [hb.frozen (hlt _ hin)]
      exact hz b off hin
    · intro ha
      simpa using hn ha
    · intro x hx _
      simpa using hx
end Go.Proofs.Yticlpcgkaffdmaa
