/- What is announced: signed, and valid with the others. -/
import Derived.Test.YtihnjbnlbedpaaaDoorAnq
import Derived.Test.YtihnjbnlbedpaaaDoorKeyS
namespace Go.Proofs.YtihnjbnlbedpaaaDoor
set_option linter.unusedVariables false
set_option linter.unusedSimpArgs false
set_option maxHeartbeats 4000000
set_option maxRecDepth 100000
open Go.RowKit
theorem pow_red {P q : Nat} (hP : 1 < P) (hq : 4 ^ q % P = 1) (x : Nat) : 4 ^ x % P = 4 ^ (x % q) % P := by
  have h1 : 4 ^ x = 4 ^ (x % q) * (4 ^ q) ^ (x / q) := by
    rw [← Nat.pow_mul, ← Nat.pow_add]; congr 1; rw [Nat.mod_add_div]
  rw [h1, Nat.mul_mod, Nat.pow_mod (4 ^ q), hq, Nat.one_pow, Nat.mod_eq_of_lt hP, Nat.mul_one, Nat.mod_mod]
theorem back_id {P q once key c : Nat} (hP : 1 < P) (hq : 4 ^ q % P = 1) (hc : c ≤ q) (ho : once < q) : 4 ^ ((once + c * key) % q) % P * ((4 ^ key % P) ^ (q - c) % P) % P = 4 ^ once % P := by
  have e1 : (4 ^ key % P) ^ (q - c) % P = 4 ^ (key * (q - c)) % P := by rw [← Nat.pow_mod, ← Nat.pow_mul]
  have e2 : once + c * key + key * (q - c) = once + q * key := by
    have h1 : key * (q - c) = key * q - key * c := Nat.mul_sub key q c
    have h2 : key * c ≤ key * q := Nat.mul_le_mul_left _ hc
    rw [h1, Nat.mul_comm c key, Nat.mul_comm q key]
    omega
  rw [← pow_red hP hq (once + c * key), e1, ← Nat.mul_mod, ← Nat.pow_add, pow_red hP hq, e2, Nat.add_mul_mod_self_left, Nat.mod_eq_of_lt ho]
theorem gen_one : 4 ^ 1073741789 % 2147483579 = 1 := (powM_eq 4 1073741789 (by omega)).symm.trans (by decide +kernel)
theorem signM_pos {key once : Int} {m : List Int} (hk : withinM key 1 = true) (ho : withinM once 1 = true) : signM key once m = (⟨chalM (powM 4 once.toNat) (powM 4 key.toNat) m, (once + chalM (powM 4 once.toNat) (powM 4 key.toNat) m * key).tmod 1073741789⟩, 0) := by
  unfold signM; rw [hk, ho]; rfl
theorem signM_range {key once : Int} {m : List Int} (hk : withinM key 1 = true) (ho : withinM once 1 = true) : withinM (signM key once m).1.c 0 = true ∧ withinM (signM key once m).1.s 0 = true := by
  rw [signM_pos hk ho]
  rw [withinM_iff] at hk ho
  have hc := chalM_range (powM 4 once.toNat) (powM 4 key.toNat) m
  rw [withinM_iff, withinM_iff]
  dsimp only
  generalize chalM (powM 4 once.toNat) (powM 4 key.toNat) m = c at *
  have := mulQ hc (show 0 ≤ key ∧ key < 1073741789 by omega)
  generalize c * key = z at *
  rw [Int.tmod_eq_emod_of_nonneg (by omega)]
  omega
theorem back_sign {key once : Int} {m : List Int} (hk : withinM key 1 = true) (ho : withinM once 1 = true) : backM (powM 4 key.toNat) (signM key once m).1 = powM 4 once.toNat := by
  rw [signM_pos hk ho]
  rw [withinM_iff] at hk ho
  have hc := chalM_range (powM 4 once.toNat) (powM 4 key.toNat) m
  generalize chalM (powM 4 once.toNat) (powM 4 key.toNat) m = c at *
  obtain ⟨c, rfl⟩ := Int.eq_ofNat_of_zero_le hc.1
  obtain ⟨k, rfl⟩ := Int.eq_ofNat_of_zero_le (show 0 ≤ key by omega)
  obtain ⟨o, rfl⟩ := Int.eq_ofNat_of_zero_le (show 0 ≤ once by omega)
  have e1 : (((o : Int) + (c : Int) * (k : Int)).tmod 1073741789).toNat = (o + c * k) % 1073741789 := by
    rw [← Int.natCast_mul, ← Int.natCast_add]
    rfl
  have e2 : ((1073741789 : Int) - (c : Int)).toNat = 1073741789 - c := by omega
  unfold backM
  simp only [Int.toNat_natCast]
  rw [e1, e2, powM_eq 4 _ (by omega), powM_eq 4 k (by omega), powM_eq _ (1073741789 - c) (by omega), powM_eq 4 o (by omega)]
  rw [back_id (P := 2147483579) (q := 1073741789) (by omega) gen_one (by omega) (by omega)]
theorem sign_verify {key once : Int} {m : List Int} (hk : withinM key 1 = true) (ho : withinM once 1 = true) (hm : memberM (powM 4 key.toNat) = true) : verifyM (powM 4 key.toNat) (signM key once m).1 m = (true, 0) := by
  have hr := signM_range (m := m) hk ho
  have hb := back_sign (m := m) hk ho
  rw [verifyM, hm, hr.1, hr.2, hb, signM_pos hk ho]
  simp
theorem insK_get {l : List KeyWin} {n : Nat} {x : KeyWin} (hn : n ≤ l.length) (j : Nat) : (insK l n x).getD j default = if j < n then l.getD j default else if j = n then x else l.getD (j - 1) default := by
  simp only [insK, List.getD_eq_getElem?_getD]
  split
  · rename_i h
    rw [List.getElem?_append_left (by rw [List.length_take]; omega), List.getElem?_take, if_pos h]
  · rename_i h
    rw [List.getElem?_append_right (by rw [List.length_take]; omega), List.length_take, Nat.min_eq_left hn]
    split
    · rename_i h2; subst h2; simp
    · rename_i h2
      obtain ⟨d, rfl⟩ : ∃ d, j = n + d + 1 := ⟨j - n - 1, by omega⟩
      rw [show n + d + 1 - n = d + 1 from by omega, List.getElem?_cons_succ, List.getElem?_drop]
      congr 2
theorem valid_ins {l : List KeyWin} (h : ValidP l) (hl : l.length ≠ 100) {n : Nat} (h0 : 0 < n) (hn : n ≤ l.length) {x : KeyWin} (hf : formedP x) (hfo : followsP (l.getD (n - 1) default) x) (hs : signedM (l.getD (n - 1) default) x = true) (hlt : n < l.length → x.auth < (l.getD n default).auth) : ValidP (insK l n x) := by
  have hget := insK_get (x := x) hn
  refine ⟨by rw [insK_len x hn]; have := h.1; omega, fun k hk => ?_, fun j hj => ?_⟩
  · rcases List.mem_append.1 hk with hk | hk
    · exact h.2.1 k (List.mem_of_mem_take hk)
    · rcases List.mem_cons.1 hk with rfl | hk
      · exact hf
      · exact h.2.1 k (List.mem_of_mem_drop hk)
  · rw [insK_len x hn] at hj
    rcases Nat.lt_trichotomy j n with h1 | rfl | h1
    · have := h.2.2 j (by omega)
      simp only [rightP, hget] at this ⊢
      rwa [if_pos h1, if_pos (by omega : j - 1 < n)]
    · have g1 := hget j
      have g2 := hget (j - 1)
      rw [if_neg (by omega), if_pos rfl] at g1
      rw [if_pos (by omega)] at g2
      unfold rightP
      rw [g1, g2, if_neg (by have := hfo.1; omega)]
      exact ⟨hfo, hs⟩
    · have h2 := h.2.2 (j - 1) (by omega)
      simp only [rightP, hget] at h2 ⊢
      rw [if_neg (by omega : ¬ j < n), if_neg (by omega : ¬ j = n)]
      rcases Nat.lt_or_ge (j - 1) (n + 1) with h3 | h3
      · obtain rfl : j = n + 1 := by omega
        rw [Nat.add_sub_cancel] at h2 ⊢
        have h4 := hlt (by omega)
        have h5 := hfo.1
        rw [if_neg (by omega : ¬ n < n), if_pos rfl, if_pos (by omega)]
        rwa [if_pos (by omega)] at h2
      · rw [if_neg (by omega : ¬ j - 1 < n), if_neg (by omega : ¬ j - 1 = n)]
        simp only [show ¬ j - 1 = 0 from by omega, show ¬ j = 0 from by omega, false_or] at h2 ⊢
        exact h2
theorem find_after {l : List KeyWin} (h : ValidP l) (auth : Int) : ∀ i, findN l auth 1001 ≤ i → i < l.length → auth < (l.getD i default).auth := by
  intro i hi hl
  have hform : ∀ i, i < l.length → formedP (l.getD i default) := fun i hi => h.2.1 _ (by rw [getD_get hi]; exact List.getElem_mem _)
  have h1 := lowN_ge (l := l) (c := fun k => cmpK k auth 1001) (show findN l auth 1001 < l.length by omega)
  have h2 := (cmpK_lt (l.getD (findN l auth 1001) default) auth 1001)
  have h3 := (hform (findN l auth 1001) (by omega)).2.2.2.1
  have h4 : auth < (l.getD (findN l auth 1001) default).auth := by
    have : ¬ ((l.getD (findN l auth 1001) default).auth < auth ∨ (l.getD (findN l auth 1001) default).auth = auth ∧ (l.getD (findN l auth 1001) default).id < 1001) := fun h => by
      have := h2.2 h
      have h1' : 0 ≤ cmpK (l.getD (findN l auth 1001) default) auth 1001 := h1
      omega
    omega
  rcases Nat.lt_or_eq_of_le hi with h5 | h5
  · have := valid_lex h i _ h5 hl
    omega
  · rw [← h5]; exact h4
theorem find_before {l : List KeyWin} (auth : Int) : ∀ i, i < findN l auth 1001 → (l.getD i default).auth ≤ auth := by
  intro i hi
  have h1 : cmpK (l.getD i default) auth 1001 < 0 := lowN_lt (l := l) (c := fun k => cmpK k auth 1001) hi
  rw [cmpK_lt] at h1
  omega
theorem prevK_eq (l : List KeyWin) (auth : Int) (h : findN l auth 1001 ≠ 0) : prevK l auth = l.getD (findN l auth 1001 - 1) default := by
  unfold prevK
  congr 1
  omega
/-- What is known of what was announced. -/
structure Anned (l : List KeyWin) (key once : Int) (next : KeyWin) : Prop where
  val : ValidP l
  hkey : withinM key 1 = true
  honce : withinM once 1 = true
  len : l.length ≠ 100
  pos : findN l next.auth 1001 ≠ 0
  auth : (prevK l next.auth).auth = next.auth
  fol : followsP (prevK l next.auth) (next0 next)
  pub : (powM 4 key.toNat : Int) = (prevK l next.auth).pub
  form : formedP (next0 next)
theorem member4 : memberM 4 = true := by decide +kernel
theorem expM4 {key : Int} (hk : withinM key 1 = true) : expM 4 key = ((powM 4 key.toNat : Int), 0) := by
  rw [withinM_iff] at hk
  unfold expM
  rw [member4, (withinM_iff key 0).2 (by omega)]
  rfl
/-- The new window. -/
abbrev newK (key once : Int) (next : KeyWin) : KeyWin := { next with sig := (signM key once (msgM (next0 next))).1 }
theorem annM_ok {l : List KeyWin} {key once : Int} {next : KeyWin} (he : (annM l key once next).2 = 0) : Anned l key once next ∧ (annM l key once next).1 = insK l (findN l next.auth 1001) (newK key once next) := by
  revert he
  unfold annM
  split
  · intro h; cases h
  rename_i h1
  split
  · intro h; cases h
  rename_i h2
  split
  · intro h; cases h
  rename_i h3
  split
  · intro h; cases h
  rename_i h4
  split
  · intro h; cases h
  rename_i h5
  intro _
  have h1 := Classical.not_not.1 h1
  have h4 := Classical.not_not.1 h4
  have h5 := Classical.not_not.1 h5
  rw [expM4 h1.1.2] at h5
  refine ⟨⟨h1.1.1.1, h1.1.2, h1.2, h2, fun h => h3 (.inl h), Classical.byContradiction fun h => h3 (.inr h), h4, h5.2, h1.1.1.2⟩, rfl⟩
theorem annM_err {l : List KeyWin} {key once : Int} {next : KeyWin} (he : (annM l key once next).2 ≠ 0) : (annM l key once next).1 = [] := by
  revert he
  unfold annM
  split
  · intro _; rfl
  split
  · intro _; rfl
  split
  · intro _; rfl
  split
  · intro _; rfl
  split
  · intro _; rfl
  · intro h; exact absurd rfl h
namespace Anned
variable {l : List KeyWin} {key once : Int} {next : KeyWin} (h : Anned l key once next)
include h
theorem le : findN l next.auth 1001 ≤ l.length := by have := h.pos; exact findN_le _ _ _
theorem prev : formedP (prevK l next.auth) := by
  have := h.le
  have := h.pos
  rw [prevK_eq l next.auth h.pos]
  exact h.val.2.1 _ (by rw [getD_get (by omega)]; exact List.getElem_mem _)
theorem ver : verifyM (powM 4 key.toNat) (newK key once next).sig (msgM next) = (true, 0) :=
  sign_verify h.hkey h.honce (by rw [h.pub]; exact h.prev.2.2.2.2.2.2.2.2.1)
theorem newForm : formedP (newK key once next) := by
  have hr := signM_range (m := msgM (next0 next)) h.hkey h.honce
  obtain ⟨a1, a2, a3, a4, a5, a6, a7, a8, a9, _, _⟩ := h.form
  exact ⟨a1, a2, a3, a4, a5, a6, a7, a8, a9, hr.1, hr.2⟩
theorem valid : ValidP (insK l (findN l next.auth 1001) (newK key once next)) := by
  have hp := prevK_eq l next.auth h.pos
  have hf := h.fol
  have hpub := h.pub
  rw [hp] at hf hpub
  refine valid_ins h.val h.len (by have := h.pos; omega) h.le h.newForm hf ?_ (fun hlt => find_after h.val next.auth _ (Nat.le_refl _) hlt)
  unfold signedM
  rw [← hpub]
  have := h.ver
  rw [show msgM (newK key once next) = msgM next from rfl, this]
theorem one {i : Nat} (hi : i < l.length + 1) : ((insK l (findN l next.auth 1001) (newK key once next)).getD i default).auth = next.auth ∧ ((insK l (findN l next.auth 1001) (newK key once next)).getD i default).id = next.id ↔ i = findN l next.auth 1001 := by
  have hl := insK_len (newK key once next) h.le
  have hg := insK_get (x := newK key once next) h.le (findN l next.auth 1001)
  rw [if_neg (by omega), if_pos rfl] at hg
  constructor
  · intro he
    rcases Nat.lt_trichotomy i (findN l next.auth 1001) with h1 | h1 | h1
    · have := valid_lex h.valid (findN l next.auth 1001) i h1 (by have := h.le; omega)
      rw [hg] at this
      have e1 : (newK key once next).auth = next.auth := rfl
      have e2 : (newK key once next).id = next.id := rfl
      omega
    · exact h1
    · have := valid_lex h.valid i (findN l next.auth 1001) h1 (by omega)
      rw [hg] at this
      have e1 : (newK key once next).auth = next.auth := rfl
      have e2 : (newK key once next).id = next.id := rfl
      omega
  · rintro rfl
    rw [hg]
    exact ⟨rfl, rfl⟩
/-- What Pub says of those of before is the same. -/
theorem same {auth id : Int} (i : Iv) (hn : ¬ (auth = next.auth ∧ id = next.id)) : pubM (insK l (findN l next.auth 1001) (newK key once next)) auth id i = pubM l auth id i := by
  by_cases hi : 0 ≤ i.lo ∧ i.lo ≤ i.hi ∧ i.hi ≤ 3000000000000000
  · have hg := insK_get (x := newK key once next) h.le
    have hl := insK_len (newK key once next) h.le
    by_cases hex : ∃ k, k < l.length ∧ (l.getD k default).auth = auth ∧ (l.getD k default).id = id
    · obtain ⟨k, hk, he⟩ := hex
      rw [pubM_at ⟨h.val, hi⟩ hk he]
      rcases Nat.lt_or_ge k (findN l next.auth 1001) with h1 | h1
      · have h2 := hg k
        rw [if_pos h1] at h2
        rw [pubM_at (k := k) ⟨h.valid, hi⟩ (by omega) (by rw [h2]; exact he), h2]
      · have h2 := hg (k + 1)
        rw [if_neg (by omega), if_neg (by omega), Nat.add_sub_cancel] at h2
        rw [pubM_at (k := k + 1) ⟨h.valid, hi⟩ (by omega) (by rw [h2]; exact he), h2]
    · rw [pubM_none ⟨h.val, hi⟩ fun k hk he => hex ⟨k, hk, he⟩]
      refine pubM_none ⟨h.valid, hi⟩ fun k hk he => ?_
      rw [hg] at he
      split at he
      · exact hex ⟨k, by have := h.le; omega, he⟩
      · split at he
        · exact hn ⟨he.1.symm, he.2.symm⟩
        · exact hex ⟨k - 1, by omega, he⟩
  · unfold pubM
    rw [if_neg (fun h => hi h.2), if_neg (fun h => hi h.2)]
end Anned
end Go.Proofs.YtihnjbnlbedpaaaDoor
