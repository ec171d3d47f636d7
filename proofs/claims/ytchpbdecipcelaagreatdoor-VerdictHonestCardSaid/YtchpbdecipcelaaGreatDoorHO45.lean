import Derived.Test.YtchpbdecipcelaaGreatDoorHO01
import Derived.LaidMore
import Derived.Test.YtchpbdecipcelaaGreatDoorRows
import Derived.Test.YtchpbdecipcelaaGreatDoorHO08
import Derived.Test.YtchpbdecipcelaaGreatDoorHO22
import Derived.Test.YtchpbdecipcelaaGreatDoorHO32
import Derived.Test.YtchpbdecipcelaaGreatDoorHO44
namespace Go.Proofs.YtchpbdecipcelaaGreatDoor
set_option linter.unusedVariables false
set_option linter.unusedSimpArgs false
set_option maxHeartbeats 4000000
set_option maxRecDepth 100000
open Go.RowKit
abbrev e0 : zM := ⟨1, 2, 1, 6372198651192198359, ⟨100, 110⟩, 1, 0, ⟨0, 0⟩⟩
abbrev e1 : zM := ⟨1, 2, 1, 6372198651192198359, ⟨100, 110⟩, 1, 0, ⟨138756445, 693782232⟩⟩
def exM (g : Int) : zQ := ⟨⟨[⟨1, 1, 1024, 0, 1000, ⟨0, 0⟩⟩], [⟨1, 5, 0, 0⟩], 0, [⟨2, [⟨[e1]⟩]⟩]⟩, [⟨2, 0, [0], [[g]]⟩], [⟨2, 1, [⟨0, 10, 20, 10, 20⟩]⟩]⟩
theorem zZi : kS 0 2 1 1 = 6372198651192198359 := by decide +kernel
theorem yBm : zC1 5 7 e0 = (e1, 0) := by decide +kernel
theorem zXg : e0.fits ∧ e1.fits := by
 unfold zM.fits Iv.fits Sig.fits
 simp only [inK]
 omega
theorem Sim.one {α : Type} [Inhabited α] {sz : Nat} {enc : α → List AV} {x : α} {cs : List AV} (h : jX cs (enc x)) (hl : cs.length = sz) : Sim (.lst sz 1 (yA sz cs)) (lA sz enc [x]) := by
 refine Sim.lst rfl fun i hi => ?_
 obtain rfl : i = 0 := by omega
 subst hl
 rw [yA, Nat.zero_mul, List.drop_zero, yLr]
 exact h
theorem zKb (g : Int) : FnA Tryz.prog 29 [.raw (.int .i64 g)] (.agg (exM g).av) := by
 have hn := zNx 0 2 1 1 (by simp only [inK]; omega) (by simp only [inK]; omega) (by simp only [inK]; omega)
 have hs := zNc 5 7 e0 zXg.1
 rw [zZi] at hn
 rw [yBm] at hs
 refine en Tryz.func29 Tryz.ntmps29 [.cell 2 30] rfl ?_
 try (refine wkg (And.intro hn hs) ?_; try refine sM fun K hK => ?_)
 refine rt ?_
 ·have r : ∀ xs : List AV, jX xs xs := jX.refl
  refine (Sim.agg ?_).s
  refine And.intro (Sim.one (r _) rfl) (And.intro (Sim.one (r _) rfl) (And.intro (Sim.refl _) (And.intro (Sim.one ?_ rfl) (And.intro (Sim.one ?_ rfl) (And.intro (Sim.one ?_ rfl) trivial)))))
  ·exact And.intro (Sim.refl _) (And.intro (Sim.one (And.intro (Sim.one (r _) rfl) trivial) rfl) trivial)
  ·exact And.intro (Sim.refl _) (And.intro (Sim.refl _) (And.intro (Sim.one (r _) rfl) (And.intro (Sim.one (And.intro (Sim.one (r _) rfl) trivial) rfl) trivial)))
  ·exact And.intro (Sim.refl _) (And.intro (Sim.refl _) (And.intro (Sim.one (r _) rfl) trivial))
theorem zTo (g : Int) : OkM (exM g) := {
 kl := by simp [exM]
 kf := by
  intro k hk
  simp only [exM, yJb, yKj, yKq] at hk
  subst hk
  unfold zH.fits Sig.fits
  simp only [inK]
  omega
 al := by simp [exM]
 wl := by simp [exM]
 wc := by
  intro w hw
  simp only [exM, yJb, yKj, yKq] at hw
  subst hw
  simp
 cl := by simp [exM]
 ch := by
  intro c hc
  simp only [exM, yJb, yKj, yKq] at hc
  subst hc
  refine ⟨by simp, by simp only [inK]; omega, fun r hr => ?_⟩
  simp only [yJb, yKj, yKq] at hr
  subst hr
  refine ⟨by simp, fun x hx => ?_⟩
  simp only [yJb, yKj, yKq] at hx
  subst hx
  exact zXg.2
 dl := by simp [exM]
 di := by
  intro d hd
  simp only [exM, yJb, yKj, yKq] at hd
  subst hd
  exact ⟨by simp, fun g hg => by simp at hg; subst hg; simp⟩ }
theorem zKc (g : Int) (h : g = 30 ∨ g = 50) : (z4 (exM g)).2 = (4, 0) ∧ (z4 (exM g)).1.length = 14 ∧ ∀ b ∈ (z4 (exM g)).1, wK 4 b := by
 rcases h with rfl | rfl <;> decide +kernel
theorem zOb {g : Int} (h : g = 30 ∨ g = 50) : BOk (exM g) := by
 obtain ⟨h1, h2, h3⟩ := zKc g h
 intro _
 rw [h1, h2]
 exact ⟨by decide, by decide, h3⟩
theorem zZb : zAl (exM 30) 3 = ([[]], 0) ∧ zAl (exM 50) 3 = ([[⟨2, 2⟩], [⟨3, 0⟩]], 0) ∧ zLa (exM 50) 3 = ([], 0) ∧ zLa (exM 50) 0 = ([], 4) ∧ zS2 (z4 (exM 30)).1 4 [] = (true, 0) := by decide +kernel
theorem yAh : Sim (.lst 1 2 (yA 1 [.lst 2 1 (yA 2 [.raw (.int .i64 2), .raw (.int .i64 2)]), .lst 2 1 (yA 2 [.raw (.int .i64 3), .raw (.int .i64 0)])])) (lA 1 sC2 [[⟨2, 2⟩], [⟨3, 0⟩]]) := by
 refine Sim.lst rfl fun i hi => ?_
 obtain rfl | rfl : i = 0 ∨ i = 1 := by omega
 ·exact And.intro (Sim.one (enc := zB.av) (x := ⟨2, 2⟩) (jX.refl _) rfl) trivial
 ·exact And.intro (Sim.one (enc := zB.av) (x := ⟨3, 0⟩) (jX.refl _) rfl) trivial
theorem zW1 : FnA Tryz.prog 10 [] (.raw (.bool true)) := by
 have x30 := zKb 30
 have x50 := zKb 50
 have f30 := zQ.free (exM 30)
 have f50 := zQ.free (exM 50)
 obtain ⟨b1, b2, b3⟩ := zKc 30 (.inl rfl)
 obtain ⟨s1, s2, s3, s4, s5⟩ := zZb
 have B := zHc (exM 30) (zTo 30)
 have S1 := zOy (exM 30) (zTo 30) (zOb (.inl rfl)) 3
 have S2 := zOy (exM 50) (zTo 50) (zOb (.inr rfl)) 3
 have U1 := zUo (exM 50) (zTo 50) (zOb (.inr rfl)) 3
 have U2 := zUo (exM 50) (zTo 50) (zOb (.inr rfl)) 0
 have P := zQo (z4 (exM 30)).1 4 []
 have c1 := zLh [[]] [[]] (by simp) (by simp)
 have c2 := zLh [[⟨2, 2⟩], [⟨3, 0⟩]] [[⟨2, 2⟩], [⟨3, 0⟩]] (by simp) (by simp)
 rw [b1] at B
 rw [s1] at S1
 rw [s2] at S2
 rw [s3] at U1
 rw [s4] at U2
 rw [s5] at P
 clear b1 b3 s1 s2 s3 s4 s5
 generalize (z4 (exM 30)).1 = l at *
 generalize exM 30 = m30 at *
 generalize exM 50 = m50 at *
 have hfl : (lA 4 zO.av l).free := zE (fun y => zO.free y) _
 refine en Tryz.func10 Tryz.ntmps10 [.tmp 0] rfl ?_
 try (refine wkg (And.intro x30 (And.intro x50 (And.intro B (And.intro S1 (And.intro S2 (And.intro U1 (And.intro U2 P))))))) ?_; try refine sM fun K hK => ?_)
 rw [b2]
 have hf1 := fun O : List (List zB) => (zE (fun y => show AV.freeL (sC2 y) from ⟨zE (fun z => zB.free z) _, trivial⟩) O : (lA 1 sC2 O).free)
 have hf2 : (AV.lst 1 1 (els sC2 [[]])).free := hf1 [[]]
 have hf3 : (AV.lst 1 2 (els sC2 [[⟨2, 2⟩], [⟨3, 0⟩]])).free := hf1 [[⟨2, 2⟩], [⟨3, 0⟩]]
 have hf4 : (AV.lst 1 1 (yA 1 [.raw (.slice none 0 0)])).free := fun i hi => by
  obtain rfl : i = 0 := by omega
  exact ⟨trivial, trivial⟩
 have hf5 : (AV.lst 1 2 (yA 1 [.lst 2 1 (yA 2 [.raw (.int .i64 2), .raw (.int .i64 2)]), .lst 2 1 (yA 2 [.raw (.int .i64 3), .raw (.int .i64 0)])])).free := fun i hi => by
  obtain rfl | rfl : i = 0 ∨ i = 1 := by omega
  all_goals exact ⟨fun j hj => (by
   obtain rfl : j = 0 := by omega
   exact ⟨trivial, trivial, trivial⟩), trivial⟩
 clear hf1
 repeat
  first
   | (refine zF (hK _ ?_); clear hK K)
   | refine stG ?_
   | (refine yH 1 rfl ?_; refine zN rfl rfl ⟨_, evl, _, _, _, evl, yR, ?_⟩; apply Exists.intro; refine ⟨fun hg => ?_, ?_⟩; · first | exact FnA.sim c1 ⟨Sim.refl _, Sim.one ⟨Sim.nil rfl, trivial⟩ rfl, trivial⟩ | exact FnA.sim c2 ⟨Sim.refl _, yAh, trivial⟩ )
   | (refine zS 1 rfl ?_; refine zP rfl ⟨_, evl, _, _, _, (fun _ _ => w7), yR, ?_⟩; apply Exists.intro; refine ⟨fun hg => ?_, ?_⟩; · first | exact FnA.sim c1 ⟨Sim.refl _, Sim.one ⟨Sim.nil rfl, trivial⟩ rfl, trivial⟩ | exact FnA.sim c2 ⟨Sim.refl _, yAh, trivial⟩ )
   | (refine zS 1 rfl ?_; refine zG ?_)
   | (refine z7 ?_; first | (refine zK (hK _ ?_); clear hK K) | (refine zT rfl ⟨_, evl, fun nb' => ?_⟩))
   | refine zD (fun K hK => ?_)
   | (refine xD ?_; first | (refine zC false rfl (by kernel_rfl) (by kernel_rfl) (fun K hK => ?_)) | (refine zC true rfl (by kernel_rfl) (by kernel_rfl) (fun K hK => ?_)))
 all_goals exact fA
theorem kX {p : zB} (h : wU p) : qI [p] := ⟨by simp, fun q hq => by rw [yK4.1 hq]; exact h⟩
theorem zKn : qI [] := ⟨by simp, fun q hq => by simp at hq⟩
theorem v8 {n a b : Int} {r : Rg} {who : List zB} (ha : 0 ≤ a ∧ a ≤ n - 1) (hb : 0 ≤ b ∧ b ≤ n - 1) (h1 : -3000000000000000 ≤ r.lo ∧ r.lo ≤ 3000000000000000) (h2 : -3000000000000000 ≤ r.hi ∧ r.hi ≤ 3000000000000000) (hw : qI who) : ∀ x ∈ zZ a b r who, wK n x := by
 intro x hx
 simp only [zZ, yJb, yKj, yKq] at hx
 rcases hx with rfl | rfl
 ·exact ⟨hb, ha, by simp only; omega, hw⟩
 ·exact ⟨ha, hb, h2, hw⟩
theorem zZv {n : Int} (k : Nat) (h : (k : Int) ≤ n - 1) : ∀ x ∈ xH k, wK n x := by
 intro x hx
 obtain ⟨t, ht, hx⟩ := yM9.1 hx
 have ht := yL1.1 ht
 exact v8 (by omega) (by omega) (by decide) (by decide) zKn x hx
theorem zV9 {m : zQ} {n : Int} {r : zM} (hr : yJ r) (rate count s t : Int) (hs : 0 ≤ s ∧ s ≤ n - 1) (ht : 0 ≤ t ∧ t + 1 ≤ n - 1) : ∀ x ∈ zAs m r rate count s t, wK n x := by
 obtain ⟨⟨h1, h2, h3⟩, h4, h5, h6, h7⟩ := id hr
 have hW := zEm m.wires r.host r.auth
 have hE := vT rate count
 intro x hx
 unfold zAs at hx
 simp only [yK6] at hx
 rcases hx with (((hx | hx) | hx) | hx) | hx
 ·exact v8 (by omega) (by omega) (by simp only; omega) (by simp only; omega) (kX (.inl ⟨rfl, by simp only; omega⟩)) x hx
 ·split at hx
  ·simp only [yJb, yKj, yKq] at hx
   subst hx
   exact ⟨by simp only; omega, by simp only; omega, by simp only; omega, kX (.inl ⟨rfl, by simp only; omega⟩)⟩
  ·simp at hx
 ·exact v8 (by omega) (by omega) (by simp only; omega) (by simp only; omega) (kX (.inr (.inr ⟨rfl, rfl⟩))) x hx
 ·exact v8 (by omega) (by omega) (by simp only; omega) (by simp only; omega) (kX (.inr (.inr ⟨rfl, rfl⟩))) x hx
 ·exact v8 (by omega) (by omega) (by omega) (by omega) (kX (.inr (.inl ⟨rfl, by simp only; omega⟩))) x hx
theorem zV7 {m : zQ} {n : Int} {e b : y7} (he : zMs m e) (hat : 1 ≤ e.at_ ∧ e.at_ + 1 + 2 * (e.replies.length : Int) ≤ n) (hb : 0 ≤ b.at_ ∧ b.at_ + 1 + 2 * (b.replies.length : Int) ≤ n) (hh : 1 ≤ (yY m e).host ∧ (yY m e).host ≤ 64) :
  ∀ x ∈ kP m e b, wK n x := by
 intro x hx
 unfold kP at hx
 rcases yK6.1 hx with hx | hx
 ·split at hx
  ·rcases yK6.1 hx with hx | hx
   ·have hE := vT (yY m e).rate ((yY m e).sent.getD e.round.toNat default - (yY m e).sent.getD (e.round - 1).toNat default)
    exact v8 (by omega) (by omega) (by omega) (by omega) (kX (.inr (.inl ⟨rfl, hh⟩))) x hx
   ·obtain ⟨j, hj, rfl⟩ := yKb.1 hx
    have hj := yL1.1 hj
    exact ⟨by simp only [qE]; omega, by simp only [qE]; omega, by simp only [qE]; omega, zKn⟩
  ·simp at hx
 ·obtain ⟨j, hj, hx⟩ := yM9.1 hx
  have hj := yL1.1 hj
  exact zV9 (he.p _ (zAn hj)) _ _ _ _ (by omega) (by omega) x hx
theorem zWk {m : zQ} (h : zBf m) {e : y7} (he : e ∈ evL m) : 1 ≤ (yY m e).host ∧ (yY m e).host ≤ 64 := by
 obtain ⟨i, k, h1, h2, rfl⟩ := zFk (yIn _) he
 obtain ⟨_, hc, hd⟩ := h.2.2.2.2.2.2 i h1
 have := hd.1
 have := hc.1
 unfold yY
 simp only [yJs]
 omega
theorem zZ6 {m : zQ} (h : zBf m) (hn : evN m ≤ 1000) (p : List zO × y7) (hp : ∀ x ∈ p.1, wK (evN m) x) (hb : 0 ≤ p.2.at_ ∧ p.2.at_ + 1 + 2 * (p.2.replies.length : Int) ≤ evN m) :
  ∀ es : List y7, (∀ e ∈ es, e ∈ evL m) → (∀ x ∈ (xU m es p).1, wK (evN m) x) ∧ (0 ≤ (xU m es p).2.at_ ∧ (xU m es p).2.at_ + 1 + 2 * ((xU m es p).2.replies.length : Int) ≤ evN m) := by
 intro es
 induction es using Vd.rev_rec with
 | h0 => exact fun _ => ⟨hp, hb⟩
 | h1 es e ih =>
  intro hes
  obtain ⟨h1, h2⟩ := ih fun e he => hes e (by simp [he])
  have hel := hes e (by simp)
  have hat := zZd hel
  rw [kV]
  refine ⟨fun x hx => ?_, by simp only; omega, hat.2⟩
  rcases yK6.1 hx with hx | hx
  ·exact h1 x hx
  ·exact zV7 (zOc h hn hel) hat h2 (zWk h hel) x hx
theorem zZe (m : zQ) : 1 ≤ evN m := by
 have := zMb m.evidence.chains m.evidence.chains.length
 unfold evN
 omega
theorem zU9 (m : zQ) (hc : ((evL m).length : Int) ≤ 20) (hr : ∀ e ∈ evL m, e.replies.length ≤ 1000) : BOk m := by
 unfold BOk z4
 by_cases hf : zBf m
 ·rw [if_neg (not_not_intro hf)]
  split
  ·intro h; simp at h
  ·rename_i hn
   have hn : evN m ≤ 1000 := by omega
   split
   ·rename_i hw
    exact fun h => absurd h hw
   ·intro _
    have hp := zZe m
    obtain ⟨h1, _⟩ := zZ6 hf hn (xH (evN m - 1).toNat, ev0) (zZv _ (by omega)) ⟨yM6 _, by simp [ev0]; omega⟩ (evL m) fun _ h => h
    have h2 := zK8 m (xH (evN m - 1).toNat, ev0) (by simp [ev0]) (evL m) hr
    simp only [zIe] at h2
    refine ⟨?_, ⟨hp, hn⟩, h1⟩
    show (xU m (evL m) (xH (evN m - 1).toNat, ev0)).1.length ≤ 1000000
    omega
 ·rw [if_pos hf]
  intro h; simp at h
theorem zYj {l : List zO} {n : Nat} (hn : 1 ≤ n) (hb : ∀ b ∈ l, wK n b) (blamed : List zB) : Bf.Ok ((zCz l blamed).map toE) n 3000000000000000 := by
 refine ⟨by omega, fun e he => ?_, by decide, fun e he => ?_⟩
 ·obtain ⟨b, hb2, rfl⟩ := yKb.1 he
  obtain ⟨h1, h2, h3, h4⟩ := hb b (yLi.1 hb2).1
  simp only [toE]
  omega
 ·obtain ⟨b, hb2, rfl⟩ := yKb.1 he
  exact (hb b (yLi.1 hb2).1).2.2.1.1
theorem zVd {l : List zO} {n : Nat} (hn : 1 ≤ n) (hb : ∀ b ∈ l, wK n b) (blamed : List zB) : zDz l n blamed = true ↔ ∃ x, Bf.keepsAll ((zCz l blamed).map toE) x := Bf.possL_iff (zYj hn hb blamed)
theorem zYi {n : Nat} {xs : List AV} (h : yF tbl (n + 1) 5 xs) : ∃ m : Int, xs = [.raw (.int .u8 m)] ∧ inK .u8 m := by
 simp only [yF, zE2, yJo, yKf, yJ4, yJ3, yFj] at h
 exact h
theorem zSd {α : Type} [Inhabited α] {av : α → List AV} {Q : α → Prop} {sz m : Nat} {el : Nat → List AV} (h : ∀ i, i < m → ∃ c : α, jX (el i) (av c) ∧ Q c) : ∃ l : List α, Sim (.lst sz m el) (lA sz av l) ∧ (∀ c ∈ l, Q c) ∧ l.length = m := by
 have hc : ∀ i, ∃ c : α, i < m → jX (el i) (av c) ∧ Q c := fun i => by
  by_cases hi : i < m
  ·obtain ⟨c, h1⟩ := h i hi
   exact ⟨c, fun _ => h1⟩
  ·exact ⟨default, fun h => absurd h hi⟩
 refine ⟨(List.range m).map fun i => (hc i).choose, ?_, fun c hcm => ?_, by simp⟩
 ·refine Sim.lst (by simp) fun i hi => ?_
  have : ((List.range m).map fun i => (hc i).choose).getD i default = (hc i).choose := by simp [hi]
  simp only [els, this]
  exact ((hc i).choose_spec hi).1
 ·obtain ⟨i, hi, rfl⟩ := yKb.1 hcm
  exact ((hc i).choose_spec (yL1.1 hi)).2
abbrev Lim {α : Type} (l : List α) : Prop := l.length ≤ 20000000000000
theorem zSc {α : Type} [Inhabited α] {av : α → List AV} {Q : α → Prop} {n t e : Nat} {xs : List AV} {i j : TI} (b : Nat) (h : yF tbl (n + 1) t xs) (h1 : tbl t = some i) (h2 : i.k = .slice e) (h3 : tbl e = some j) (hb : b ≤ j.bytes) (h8 : 8 ≤ b) (hQ : ∀ ys, yF tbl n e ys → ∃ c : α, jX ys (av c) ∧ Q c) :
  ∃ (y : AV) (l : List α), xs = [y] ∧ Sim y (lA j.size av l) ∧ (∀ c ∈ l, Q c) ∧ Lim l := by
 simp only [yF, h1, h2, h3] at h
 obtain ⟨m, el, rfl, ⟨-, hm⟩, hel⟩ := h
 obtain ⟨l, s, q, g⟩ := zSd (av := av) (Q := Q) (sz := j.size) (m := m) (el := el) fun i hi => hQ _ (hel i hi).2
 have h5 : m * 8 ≤ m * j.bytes := Nat.mul_le_mul_left _ (yIo h8 hb)
 have h6 : m * 8 ≤ 140737488351232 := yIo h5 hm
 exact ⟨_, l, rfl, s, q, by unfold Lim; omega⟩
theorem zLv {n : Nat} {xs : List AV} (h : yF tbl (n + 2) 125 xs) : ∃ c : Change, jX xs c.av ∧ True := by
 simp only [yF, zE2, yJo, yKf, yJ4, yJ3, yFp, zXs] at h
 obtain ⟨a, b, rfl, -, ⟨m0, rfl, h0⟩, a, b, rfl, -, ⟨m1, rfl, h1⟩, a, b, rfl, -, ⟨m2, rfl, h2⟩, a, b, rfl, -, ⟨m3, rfl, h3⟩, a, b, rfl, -, ⟨m4, rfl, h4⟩, rfl⟩ := h
 exact ⟨⟨m0, m1, m2, m3, m4⟩, jX.of_eq rfl, trivial⟩
theorem zJg {n : Nat} {xs : List AV} (h : yF tbl (n + 3) 62 xs) : ∃ (y : AV) (l : List Change), xs = [y] ∧ Sim y (lA 5 Change.av l) ∧ (∀ c ∈ l, True) ∧ Lim l :=
 zSc (av := Change.av) (Q := fun _ => True) 40 h rfl rfl rfl (by decide) (by decide) fun ys hy => zLv hy
theorem zIv {W : World} (h : laidMetH Tryz.prog [("math/bits.deBruijn32tab", Rows.laid_math_bits_deBruijn32tab), ("math/bits.deBruijn64tab", Rows.laid_math_bits_deBruijn64tab), ("internal/strconv.uint64pow10", Rows.laid_internal_strconv_uint64pow10)] W) : zIj Tryz.prog W := by
 intro g hg
 rw [MakeChecks.laidMetH_plain _ _ _ (by kernel_rfl)] at h
 obtain ⟨ps, ⟨g0, t0, cs0, f0, p0, q0, hg0, ht0, hv0, hd0, ⟨g1, t1, cs1, f1, p1, q1, hg1, ht1, hv1, hd1, ⟨g2, t2, cs2, f2, p2, q2, hg2, ht2, hv2, hd2, _, _⟩, _⟩, _⟩, _, _⟩ := h
 obtain rfl := yMg (hg.symm.trans hg2)
 obtain ⟨t, e, n, k1, k2, k3, k4, k5⟩ : ∃ t e n, (Tryz.prog.globals[g]?).map (·.type) = some t ∧ Tryz.prog.underlying t = some (.array n e) ∧ Tryz.prog.underlying e = some (.int .u64) ∧ Tryz.prog.cellsOf e = 1 ∧ Tryz.prog.cellsOf t = n := by
  obtain rfl : g = 2 := yMg (hg2.symm.trans (show Tryz.prog.globalNamed "internal/strconv.uint64pow10" = some 2 by kernel_rfl))
  exact ⟨302, 64, 20, by kernel_rfl, by kernel_rfl, by kernel_rfl, by kernel_rfl, by kernel_rfl⟩
 obtain rfl := yMg (k1.symm.trans ht2)
 unfold Lib.TabIs
 rw [hv2]
 have hd2' : DataW.trod (fun _ => ()) Tryz.prog W 0 (fun _ => true) false f2 t cs2.toList = some (Lib.tabData .u64 Lib.pow10Tab, p2) := hd2
 rw [← Lib.cells_of_tab k2 k3 k4 k5 hd2']
end Go.Proofs.YtchpbdecipcelaaGreatDoor
