import Derived.Test.YtchpbdecipcelaaGreatDoorMR01
import Derived.Test.YtchpbdecipcelaaGreatDoorMR20
import Derived.Test.YtchpbdecipcelaaGreatDoorMR39
namespace Go.Proofs.YtchpbdecipcelaaGreatDoor
set_option linter.unusedVariables false
set_option linter.unusedSimpArgs false
set_option maxHeartbeats 4000000
set_option maxRecDepth 100000
open Go.RowKit
abbrev e0 : zN := ⟨1, 2, 1, 6372198651192198359, ⟨100, 110⟩, 1, 0, ⟨0, 0⟩⟩
abbrev e1 : zN := ⟨1, 2, 1, 6372198651192198359, ⟨100, 110⟩, 1, 0, ⟨138756445, 693782232⟩⟩
def exM (g : Int) : zL := ⟨⟨[⟨1, 1, 1024, 0, 1000, ⟨0, 0⟩⟩], [⟨1, 5, 0, 0⟩], 0, [⟨2, [⟨[e1]⟩]⟩]⟩, [⟨2, 0, [0], [[g]]⟩], [⟨2, 1, [⟨0, 10, 20, 10, 20⟩]⟩]⟩
theorem yBi : zA3 0 2 1 1 = 6372198651192198359 := by decide +kernel
theorem yDy : zOg 5 7 e0 = (e1, 0) := by decide +kernel
theorem zZe : e0.fits ∧ e1.fits := by
  unfold zN.fits Iv.fits Sig.fits
  simp only [inK]
  omega
theorem Sim.one {α : Type} [Inhabited α] {sz : Nat} {enc : α → List AV} {x : α} {cs : List AV} (h : jC cs (enc x)) (hl : cs.length = sz) : Sim (.lst sz 1 (z7 sz cs)) (lA sz enc [x]) := by
  refine Sim.lst rfl fun i hi => ?_
  obtain rfl : i = 0 := by omega
  subst hl
  rw [z7, Nat.zero_mul, List.drop_zero, yNt]
  exact h
theorem zL4 (g : Int) : FnA Tryz.prog 29 [.raw (.int .i64 g)] (.agg (exM g).av) := by
  have hn := zOw 0 2 1 1 (by simp only [inK]; omega) (by simp only [inK]; omega) (by simp only [inK]; omega)
  have hs := zWx 5 7 e0 zZe.1
  rw [yBi] at hn
  rw [yDy] at hs
  refine en Tryz.func29 Tryz.ntmps29 [.cell 2 30] rfl ?_
  try (refine wkg (And.intro hn hs) ?_; try refine sM fun K hK => ?_)
  refine rt ?_
  · have r : ∀ xs : List AV, jC xs xs := jC.refl
    refine (Sim.agg ?_).s
    refine And.intro (Sim.one (r _) rfl) (And.intro (Sim.one (r _) rfl) (And.intro (Sim.refl _) (And.intro (Sim.one ?_ rfl) (And.intro (Sim.one ?_ rfl) (And.intro (Sim.one ?_ rfl) trivial)))))
    · exact And.intro (Sim.refl _) (And.intro (Sim.one (And.intro (Sim.one (r _) rfl) trivial) rfl) trivial)
    · exact And.intro (Sim.refl _) (And.intro (Sim.refl _) (And.intro (Sim.one (r _) rfl) (And.intro (Sim.one (And.intro (Sim.one (r _) rfl) trivial) rfl) trivial)))
    · exact And.intro (Sim.refl _) (And.intro (Sim.refl _) (And.intro (Sim.one (r _) rfl) trivial))
theorem zVd (g : Int) : OkM (exM g) := {
  kl := by simp [exM]
  kf := by
    intro k hk
    simp only [exM, yLf, yMo, yMv] at hk
    subst hk
    unfold zI.fits Sig.fits
    simp only [inK]
    omega
  al := by simp [exM]
  wl := by simp [exM]
  wc := by
    intro w hw
    simp only [exM, yLf, yMo, yMv] at hw
    subst hw
    simp
  cl := by simp [exM]
  ch := by
    intro c hc
    simp only [exM, yLf, yMo, yMv] at hc
    subst hc
    refine ⟨by simp, by simp only [inK]; omega, fun r hr => ?_⟩
    simp only [yLf, yMo, yMv] at hr
    subst hr
    refine ⟨by simp, fun x hx => ?_⟩
    simp only [yLf, yMo, yMv] at hx
    subst hx
    exact zZe.2
  dl := by simp [exM]
  di := by
    intro d hd
    simp only [exM, yLf, yMo, yMv] at hd
    subst hd
    exact ⟨by simp, fun g hg => by simp at hg; subst hg; simp⟩ }
theorem zL5 (g : Int) (h : g = 30 ∨ g = 50) : (zT (exM g)).2 = (4, 0) ∧ (zT (exM g)).1.length = 14 ∧ ∀ b ∈ (zT (exM g)).1, xQ 4 b := by
  rcases h with rfl | rfl <;> decide +kernel
theorem zPe {g : Int} (h : g = 30 ∨ g = 50) : BOk (exM g) := by
  obtain ⟨h1, h2, h3⟩ := zL5 g h
  intro _
  rw [h1, h2]
  exact ⟨by decide, by decide, h3⟩
theorem yBd : qA (exM 30) 3 = ([[]], 0) ∧ qA (exM 50) 3 = ([[⟨2, 2⟩], [⟨3, 0⟩]], 0) ∧ zC0 (exM 50) 3 = ([], 0) ∧ zC0 (exM 50) 0 = ([], 4) ∧ zE7 (zT (exM 30)).1 4 [] = (true, 0) := by decide +kernel
theorem yCb : Sim (.lst 1 2 (z7 1 [.lst 2 1 (z7 2 [.raw (.int .i64 2), .raw (.int .i64 2)]), .lst 2 1 (z7 2 [.raw (.int .i64 3), .raw (.int .i64 0)])])) (lA 1 sC2 [[⟨2, 2⟩], [⟨3, 0⟩]]) := by
  refine Sim.lst rfl fun i hi => ?_
  obtain rfl | rfl : i = 0 ∨ i = 1 := by omega
  · exact And.intro (Sim.one (enc := zB.av) (x := ⟨2, 2⟩) (jC.refl _) rfl) trivial
  · exact And.intro (Sim.one (enc := zB.av) (x := ⟨3, 0⟩) (jC.refl _) rfl) trivial
theorem zXt : FnA Tryz.prog 10 [] (.raw (.bool true)) := by
  have x30 := zL4 30
  have x50 := zL4 50
  have f30 := zL.free (exM 30)
  have f50 := zL.free (exM 50)
  obtain ⟨b1, b2, b3⟩ := zL5 30 (.inl rfl)
  obtain ⟨s1, s2, s3, s4, s5⟩ := yBd
  have B := zDq (exM 30) (zVd 30)
  have S1 := zQ0 (exM 30) (zVd 30) (zPe (.inl rfl)) 3
  have S2 := zQ0 (exM 50) (zVd 50) (zPe (.inr rfl)) 3
  have U1 := zWh (exM 50) (zVd 50) (zPe (.inr rfl)) 3
  have U2 := zWh (exM 50) (zVd 50) (zPe (.inr rfl)) 0
  have P := zI3 (zT (exM 30)).1 4 []
  have c1 := zMe [[]] [[]] (by simp) (by simp)
  have c2 := zMe [[⟨2, 2⟩], [⟨3, 0⟩]] [[⟨2, 2⟩], [⟨3, 0⟩]] (by simp) (by simp)
  rw [b1] at B
  rw [s1] at S1
  rw [s2] at S2
  rw [s3] at U1
  rw [s4] at U2
  rw [s5] at P
  clear b1 b3 s1 s2 s3 s4 s5
  generalize (zT (exM 30)).1 = l at *
  generalize exM 30 = m30 at *
  generalize exM 50 = m50 at *
  have hfl : (lA 4 zH.av l).free := zC (fun y => zH.free y) _
  refine en Tryz.func10 Tryz.ntmps10 [.tmp 0] rfl ?_
  try (refine wkg (And.intro x30 (And.intro x50 (And.intro B (And.intro S1 (And.intro S2 (And.intro U1 (And.intro U2 P))))))) ?_; try refine sM fun K hK => ?_)
  rw [b2]
  have hf1 := fun O : List (List zB) => (zC (fun y => show AV.freeL (sC2 y) from ⟨zC (fun z => zB.free z) _, trivial⟩) O : (lA 1 sC2 O).free)
  have hf2 : (AV.lst 1 1 (els sC2 [[]])).free := hf1 [[]]
  have hf3 : (AV.lst 1 2 (els sC2 [[⟨2, 2⟩], [⟨3, 0⟩]])).free := hf1 [[⟨2, 2⟩], [⟨3, 0⟩]]
  have hf4 : (AV.lst 1 1 (z7 1 [.raw (.slice none 0 0)])).free := fun i hi => by
    obtain rfl : i = 0 := by omega
    exact ⟨trivial, trivial⟩
  have hf5 : (AV.lst 1 2 (z7 1 [.lst 2 1 (z7 2 [.raw (.int .i64 2), .raw (.int .i64 2)]), .lst 2 1 (z7 2 [.raw (.int .i64 3), .raw (.int .i64 0)])])).free := fun i hi => by
    obtain rfl | rfl : i = 0 ∨ i = 1 := by omega
    all_goals exact ⟨fun j hj => (by obtain rfl : j = 0 := by omega
                                     exact ⟨trivial, trivial, trivial⟩), trivial⟩
  clear hf1
  repeat
    first
      | (refine zG (hK _ ?_); clear hK K)
      | refine stG ?_
      | (refine yJ 1 rfl ?_; refine zR rfl rfl ⟨_, evl, _, _, _, evl, yR, ?_⟩; apply Exists.intro; refine ⟨fun hg => ?_, ?_⟩; · first | exact FnA.sim c1 ⟨Sim.refl _, Sim.one ⟨Sim.nil rfl, trivial⟩ rfl, trivial⟩ | exact FnA.sim c2 ⟨Sim.refl _, yCb, trivial⟩ )
      | (refine zW 1 rfl ?_; refine zS rfl ⟨_, evl, _, _, _, (fun _ _ => vH), yR, ?_⟩; apply Exists.intro; refine ⟨fun hg => ?_, ?_⟩; · first | exact FnA.sim c1 ⟨Sim.refl _, Sim.one ⟨Sim.nil rfl, trivial⟩ rfl, trivial⟩ | exact FnA.sim c2 ⟨Sim.refl _, yCb, trivial⟩ )
      | (refine zW 1 rfl ?_; refine zJ ?_)
      | (refine yB ?_; first | (refine zP (hK _ ?_); clear hK K) | (refine zX rfl ⟨_, evl, fun nb' => ?_⟩))
      | refine zE (fun K hK => ?_)
      | (refine yZ ?_; first | (refine zD false rfl (by kernel_rfl) (by kernel_rfl) (fun K hK => ?_)) | (refine zD true rfl (by kernel_rfl) (by kernel_rfl) (fun K hK => ?_)))
  all_goals exact fA
theorem kY {p : zB} (h : xS p) : wJ [p] := ⟨by simp, fun q hq => by rw [yM8.1 hq]; exact h⟩
theorem zLi : wJ [] := ⟨by simp, fun q hq => by simp at hq⟩
theorem qI {n a b : Int} {r : Rg} {who : List zB} (ha : 0 ≤ a ∧ a ≤ n - 1) (hb : 0 ≤ b ∧ b ≤ n - 1) (h1 : -3000000000000000 ≤ r.lo ∧ r.lo ≤ 3000000000000000) (h2 : -3000000000000000 ≤ r.hi ∧ r.hi ≤ 3000000000000000) (hw : wJ who) : ∀ x ∈ zQ a b r who, xQ n x := by
  intro x hx
  simp only [zQ, yLf, yMo, yMv] at hx
  rcases hx with rfl | rfl
  · exact ⟨hb, ha, by simp only; omega, hw⟩
  · exact ⟨ha, hb, h2, hw⟩
theorem yBt {n : Int} (k : Nat) (h : (k : Int) ≤ n - 1) : ∀ x ∈ xC k, xQ n x := by
  intro x hx
  obtain ⟨t, ht, hx⟩ := yOb.1 hx
  have ht := yN5.1 ht
  exact qI (by omega) (by omega) (by decide) (by decide) zLi x hx
theorem zX2 {m : zL} {n : Int} {r : zN} (hr : z9 r) (rate count s t : Int) (hs : 0 ≤ s ∧ s ≤ n - 1) (ht : 0 ≤ t ∧ t + 1 ≤ n - 1) : ∀ x ∈ jZ m r rate count s t, xQ n x := by
  obtain ⟨⟨h1, h2, h3⟩, h4, h5, h6, h7⟩ := id hr
  have hW := zB6 m.wires r.host r.auth
  have hE := wD rate count
  intro x hx
  unfold jZ at hx
  simp only [yMa] at hx
  rcases hx with (((hx | hx) | hx) | hx) | hx
  · exact qI (by omega) (by omega) (by simp only; omega) (by simp only; omega) (kY (.inl ⟨rfl, by simp only; omega⟩)) x hx
  · split at hx
    · simp only [yLf, yMo, yMv] at hx
      subst hx
      exact ⟨by simp only; omega, by simp only; omega, by simp only; omega, kY (.inl ⟨rfl, by simp only; omega⟩)⟩
    · simp at hx
  · exact qI (by omega) (by omega) (by simp only; omega) (by simp only; omega) (kY (.inr (.inr ⟨rfl, rfl⟩))) x hx
  · exact qI (by omega) (by omega) (by simp only; omega) (by simp only; omega) (kY (.inr (.inr ⟨rfl, rfl⟩))) x hx
  · exact qI (by omega) (by omega) (by omega) (by omega) (kY (.inr (.inl ⟨rfl, by simp only; omega⟩))) x hx
theorem zWy {m : zL} {n : Int} {e b : yN} (he : zNv m e) (hat : 1 ≤ e.at_ ∧ e.at_ + 1 + 2 * (e.replies.length : Int) ≤ n) (hb : 0 ≤ b.at_ ∧ b.at_ + 1 + 2 * (b.replies.length : Int) ≤ n) (hh : 1 ≤ (y8 m e).host ∧ (y8 m e).host ≤ 64) :
    ∀ x ∈ roundL m e b, xQ n x := by
  intro x hx
  unfold roundL at hx
  rcases yMa.1 hx with hx | hx
  · split at hx
    · rcases yMa.1 hx with hx | hx
      · have hE := wD (y8 m e).rate ((y8 m e).sent.getD e.round.toNat default - (y8 m e).sent.getD (e.round - 1).toNat default)
        exact qI (by omega) (by omega) (by omega) (by omega) (kY (.inr (.inl ⟨rfl, hh⟩))) x hx
      · obtain ⟨j, hj, rfl⟩ := yMf.1 hx
        have hj := yN5.1 hj
        exact ⟨by simp only [xY]; omega, by simp only [xY]; omega, by simp only [xY]; omega, zLi⟩
    · simp at hx
  · obtain ⟨j, hj, hx⟩ := yOb.1 hx
    have hj := yN5.1 hj
    exact zX2 (he.p _ (w9 hj)) _ _ _ _ (by omega) (by omega) x hx
theorem zYf {m : zL} (h : vW m) {e : yN} (he : e ∈ evL m) : 1 ≤ (y8 m e).host ∧ (y8 m e).host ≤ 64 := by
  obtain ⟨i, k, h1, h2, rfl⟩ := zDm (yKq _) he
  obtain ⟨_, hc, hd⟩ := h.2.2.2.2.2.2 i h1
  have := hd.1
  have := hc.1
  unfold y8
  simp only [yLx]
  omega
theorem yB6 {m : zL} (h : vW m) (hn : evN m ≤ 1000) (p : List zH × yN) (hp : ∀ x ∈ p.1, xQ (evN m) x) (hb : 0 ≤ p.2.at_ ∧ p.2.at_ + 1 + 2 * (p.2.replies.length : Int) ≤ evN m) :
    ∀ es : List yN, (∀ e ∈ es, e ∈ evL m) → (∀ x ∈ (xZ m es p).1, xQ (evN m) x) ∧ (0 ≤ (xZ m es p).2.at_ ∧ (xZ m es p).2.at_ + 1 + 2 * ((xZ m es p).2.replies.length : Int) ≤ evN m) := by
  intro es
  induction es using Vd.rev_rec with
  | h0 => exact fun _ => ⟨hp, hb⟩
  | h1 es e ih =>
    intro hes
    obtain ⟨h1, h2⟩ := ih fun e he => hes e (by simp [he])
    have hel := hes e (by simp)
    have hat := zY7 hel
    rw [vP]
    refine ⟨fun x hx => ?_, by simp only; omega, hat.2⟩
    rcases yMa.1 hx with hx | hx
    · exact h1 x hx
    · exact zWy (zEu h hn hel) hat h2 (zYf h hel) x hx
theorem zVg (m : zL) : 1 ≤ evN m := by
  have := zJ0 m.evidence.chains m.evidence.chains.length
  unfold evN
  omega
theorem zW2 (m : zL) (hc : ((evL m).length : Int) ≤ 20) (hr : ∀ e ∈ evL m, e.replies.length ≤ 1000) : BOk m := by
  unfold BOk zT
  by_cases hf : vW m
  · rw [if_neg (not_not_intro hf)]
    split
    · intro h; simp at h
    · rename_i hn
      have hn : evN m ≤ 1000 := by omega
      split
      · rename_i hw
        exact fun h => absurd h hw
      · intro _
        have hp := zVg m
        obtain ⟨h1, _⟩ := yB6 hf hn (xC (evN m - 1).toNat, ev0) (yBt _ (by omega)) ⟨yO8 _, by simp [ev0]; omega⟩ (evL m) fun _ h => h
        have h2 := zG2 m (xC (evN m - 1).toNat, ev0) (by simp [ev0]) (evL m) hr
        simp only [zAu] at h2
        refine ⟨?_, ⟨hp, hn⟩, h1⟩
        show (xZ m (evL m) (xC (evN m - 1).toNat, ev0)).1.length ≤ 1000000
        omega
  · rw [if_pos hf]
    intro h; simp at h
theorem eqPQ (p q : zB) : (decide (p.kind = q.kind) && decide (p.id = q.id)) = decide (p = q) := by
  rw [yK6]
  exact decide_eq_decide.2 ⟨Eq.symm, Eq.symm⟩
theorem vN {α : Type} [Inhabited α] {l : List α} {x : α} (h : x ∈ l) : ∃ i, i < l.length ∧ l.getD i default = x := by
  obtain ⟨i, hi, rfl⟩ := yNb.1 h
  exact ⟨i, hi, zU hi⟩
theorem zUt (l : List zB) (hl : l.length ≤ 4611686018427387904) (p : zB) : FnA Tryz.prog 27 [lA 2 zB.av l, .agg p.av] (.raw (.bool (decide (p ∈ l)))) := by
  refine en Tryz.func27 Tryz.ntmps27 [.tmp 4] rfl ?_
  try (refine wg ?_; try refine sM fun K hK => ?_)
  refine zF (fun k : Nat => ⟨18, 0, [(0, true, lA 2 zB.av l), (3, true, .box 0 0), (5, true, .raw (.int .i64 k))], [p.av], [], ((0, []), [], true)⟩)
    (fun k => k ≤ l.length ∧ ∀ i, i < k → l.getD i default ≠ p) (fun k => l.length - k) 0 ?_ ⟨by omega, fun i h => by omega⟩ ?_
  · exact wkZ
  · rintro k ⟨hk, hall⟩
    try (refine wg ?_; try refine sM fun K hK => ?_)
    refine zA ⟨_, evl, fun hlt => ?_, fun hge => ?_⟩
    · simp only [yLr] at hlt
      try (refine wg ?_; try refine sM fun K hK => ?_)
      rw [eqPQ]
      refine zA ⟨_, evl, fun hb => ?_, fun hb => ?_⟩
      · have hm : p ∈ l := yNw hb ▸ w9 (by omega)
        try (refine wg ?_; try refine sM fun K hK => ?_)
        refine rq ?_ ?_
        · rw [yO3 hm]
        · simp [AV.free]
      · try (refine wg ?_; try refine sM fun K hK => ?_)
        refine ⟨k + 1, ⟨by omega, fun i hi => ?_⟩, by omega, ?_⟩
        · rcases yNv.1 hi with h | rfl
          · exact hall i h
          · exact yOc hb
        · exact wkZ
    · simp only [yMz] at hge
      have hm : ¬ p ∈ l := fun h => by
        obtain ⟨i, hi, e⟩ := vN h
        exact hall i (by omega) e
      try (refine wg ?_; try refine sM fun K hK => ?_)
      refine rq ?_ ?_
      · rw [yO4 hm]
      · simp [AV.free]
theorem zX1 (b : zH) (hw : b.who.length ≤ 4611686018427387904) (blamed : List zB) (hl : blamed.length ≤ 4611686018427387904) : FnA Tryz.prog 63 [.agg b.av, lA 2 zB.av blamed] (.raw (.bool (!zCf blamed b))) := by
  have hfb : (lA 2 zB.av blamed).free := zC (fun y => zB.free y) _
  have hfw : (lA 2 zB.av b.who).free := zC (fun y => zB.free y) _
  have e : (!zCf blamed b) = b.who.any fun p => decide (p ∈ blamed) := by unfold zCf; rw [Bool.not_not]
  rw [e]
  clear e
  refine en Tryz.func63 Tryz.ntmps63 [.tmp 4] rfl ?_
  try (refine wg ?_; try refine sM fun K hK => ?_)
  refine zF (fun k : Nat => ⟨22, 0, [(1, true, lA 2 zB.av blamed), (2, true, .box 0 0), (5, true, .raw (.int .i64 k))], [b.av], [], ((0, []), [], true)⟩)
    (fun k => k ≤ b.who.length ∧ ∀ i, i < k → ¬ b.who.getD i default ∈ blamed) (fun k => b.who.length - k) 0 ?_ ⟨by omega, fun i h => by omega⟩ ?_
  · exact wkZ
  · rintro k ⟨hk, hall⟩
    have hh := zUt blamed hl (b.who.getD k default)
    generalize hz : decide (b.who.getD k default ∈ blamed) = z at hh
    try (refine wg ?_; try refine sM fun K hK => ?_)
    refine zA ⟨_, evl, fun hlt => ?_, fun hge => ?_⟩
    · simp only [yLr] at hlt
      try (refine wkg hh ?_; try refine sM fun K hK => ?_)
      refine zA ⟨_, evl, fun hb => ?_, fun hb => ?_⟩
      · subst hb
        have hm : (b.who.any fun p => decide (p ∈ blamed)) = true := yNd.2 ⟨_, w9 (by omega), hz⟩
        try (refine wg ?_; try refine sM fun K hK => ?_)
        refine rq ?_ ?_
        · rw [hm]
        · simp [AV.free]
      · subst hb
        try (refine wg ?_; try refine sM fun K hK => ?_)
        refine ⟨k + 1, ⟨by omega, fun i hi => ?_⟩, by omega, ?_⟩
        · rcases yNv.1 hi with h | rfl
          · exact hall i h
          · exact yOc hz
        · exact wkZ
    · simp only [yMz] at hge
      have hm : (b.who.any fun p => decide (p ∈ blamed)) = false := yNc.2 fun p hp => by
        obtain ⟨i, hi, rfl⟩ := vN hp
        simpa using hall i (by omega)
      try (refine wg ?_; try refine sM fun K hK => ?_)
      refine rq ?_ ?_
      · rw [hm]
      · simp [AV.free]
theorem yAg (a b : List zB) (ha : a.length ≤ 4611686018427387904) (hl : b.length ≤ 4611686018427387904) : FnA Tryz.prog 25 [lA 2 zB.av a, lA 2 zB.av b] (.raw (.bool (Vd.part a b))) := by
  have hfb : (lA 2 zB.av b).free := zC (fun y => zB.free y) _
  refine en Tryz.func25 Tryz.ntmps25 [.tmp 4] rfl ?_
  try (refine wg ?_; try refine sM fun K hK => ?_)
  refine zF (fun k : Nat => ⟨21, 0, [(0, true, lA 2 zB.av a), (1, true, lA 2 zB.av b), (5, true, .raw (.int .i64 k))], [], [], ((0, []), [], true)⟩)
    (fun k => k ≤ a.length ∧ ∀ i, i < k → a.getD i default ∈ b) (fun k => a.length - k) 0 ?_ ⟨by omega, fun i h => by omega⟩ ?_
  · exact wkZ
  · rintro k ⟨hk, hall⟩
    have hh := zUt b hl (a.getD k default)
    generalize hz : decide (a.getD k default ∈ b) = z at hh
    try (refine wg ?_; try refine sM fun K hK => ?_)
    refine zA ⟨_, evl, fun hlt => ?_, fun hge => ?_⟩
    · simp only [yLr] at hlt
      try (refine wkg hh ?_; try refine sM fun K hK => ?_)
      refine zA ⟨_, evl, fun hb => ?_, fun hb => ?_⟩
      · rw [yLs] at hb
        subst hb
        have hm : Vd.part a b = false := by
          rw [Bool.eq_false_iff, ne_eq, Vd.part_iff]
          exact fun h => yOc hz (h _ (w9 (by omega)))
        try (refine wg ?_; try refine sM fun K hK => ?_)
        refine rq ?_ ?_
        · rw [hm]
        · simp [AV.free]
      · rw [yMx] at hb
        subst hb
        try (refine wg ?_; try refine sM fun K hK => ?_)
        refine ⟨k + 1, ⟨by omega, fun i hi => ?_⟩, by omega, ?_⟩
        · rcases yNv.1 hi with h | rfl
          · exact hall i h
          · exact yNw hz
        · exact wkZ
    · simp only [yMz] at hge
      have hm : Vd.part a b = true := Vd.part_iff.2 fun x hx => by
        obtain ⟨i, hi, rfl⟩ := vN hx
        exact hall i (by omega)
      try (refine wg ?_; try refine sM fun K hK => ?_)
      refine rq ?_ ?_
      · rw [hm]
      · simp [AV.free]
end Go.Proofs.YtchpbdecipcelaaGreatDoor
