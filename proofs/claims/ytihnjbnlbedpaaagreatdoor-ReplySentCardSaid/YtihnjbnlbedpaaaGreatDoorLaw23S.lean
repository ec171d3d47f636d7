/- The statement ReplySigned: the plain law. -/
import Derived.Test.YtihnjbnlbedpaaaGreatDoorOp23
import Derived.Test.YtihnjbnlbedpaaaGreatDoorSgn
namespace Go.Proofs.YtihnjbnlbedpaaaGreatDoor
set_option linter.unusedVariables false
set_option linter.unusedSimpArgs false
set_option maxHeartbeats 4000000
set_option maxRecDepth 100000
open Go.RowKit
abbrev winS (r : Reply) (pub : Int) : KeyWin := ⟨r.auth, 1, pub, r.stamp.lo, r.stamp.hi + 1, ⟨0, 0⟩⟩
theorem win_valid {r : Reply} {k : Int} (hr : replyP (bare r)) (hk : withinM k 1 = true) (hp : (powM 4 k.toNat : Int) ≠ 1) (hh : r.stamp.hi < 3000000000000000) : ValidP [winS r (powM 4 k.toNat)] := by
  rw [withinM_iff] at hk
  have hm := member_pow (k := k.toNat) (by omega)
  obtain ⟨⟨_, h2, _⟩, ⟨h3, h4, _⟩, _⟩ := hr
  refine ⟨by simp, fun x hx => ?_, fun i hi => ?_⟩
  · simp only [List.mem_cons, List.not_mem_nil, or_false] at hx
    subst hx
    refine ⟨h2.1, h2.2, show (1 : Int) ≤ 1 by decide, show (1 : Int) ≤ 1000 by decide, h3, ?_, ?_, hp, hm, show withinM 0 0 = true by decide, show withinM 0 0 = true by decide⟩
    · show r.stamp.lo < r.stamp.hi + 1
      have h4' : r.stamp.lo ≤ r.stamp.hi := h4
      omega
    · show r.stamp.hi + 1 ≤ 3000000000000000
      omega
  · obtain rfl : i = 0 := by simpa using hi
    rw [rightP, if_pos (.inl rfl)]
    exact ⟨rfl, rfl, rfl⟩
theorem win_pub {r t : Reply} {pub : Int} (hv : ValidP [winS r pub]) (h1 : t.auth = r.auth) (h2 : t.key = 1) (h3 : r.stamp.lo ≤ t.stamp.lo) (h4 : t.stamp.hi ≤ r.stamp.hi) (hi : 0 ≤ t.stamp.lo ∧ t.stamp.lo ≤ t.stamp.hi ∧ t.stamp.hi ≤ 3000000000000000) : pubM [winS r pub] t.auth t.key t.stamp = (pub, 0) := by
  rw [pubM_at ⟨hv, hi⟩ (k := 0) (by simp) ⟨h1.symm, h2.symm⟩]
  show (if t.stamp.lo < r.stamp.lo ∨ r.stamp.hi + 1 ≤ t.stamp.hi then _ else _) = _
  rw [if_neg (by omega)]
  rfl
/-- What is signed is right, and what is changed is right exactly if the challenge is the same. -/
theorem win_right {r t : Reply} {pub : Int} (hv : ValidP [winS r pub]) (h1 : t.auth = r.auth) (h2 : t.key = 1) (h3 : r.stamp.lo ≤ t.stamp.lo) (h4 : t.stamp.hi ≤ r.stamp.hi) (hi : 0 ≤ t.stamp.lo ∧ t.stamp.lo ≤ t.stamp.hi ∧ t.stamp.hi ≤ 3000000000000000) : rightM [winS r pub] t = (verifyM pub t.sig (msgR t)).1 := by
  unfold rightM
  rw [win_pub hv h1 h2 h3 h4 hi]
  simp
end Go.Proofs.YtihnjbnlbedpaaaGreatDoor
