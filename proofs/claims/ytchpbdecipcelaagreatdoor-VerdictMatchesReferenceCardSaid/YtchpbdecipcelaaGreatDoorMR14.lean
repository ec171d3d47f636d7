import Derived.Test.YtchpbdecipcelaaGreatDoorMR01
import Derived.Test.YtchpbdecipcelaaGreatDoorMR13
namespace Go.Proofs.YtchpbdecipcelaaGreatDoor
set_option linter.unusedVariables false
set_option linter.unusedSimpArgs false
set_option maxHeartbeats 4000000
set_option maxRecDepth 100000
open Go.RowKit
def xD (a b : zI) : Prop := b.auth = a.auth ∧ b.id = a.id + 1 ∧ a.from_ < b.from_ ∧ b.from_ ≤ a.until_ ∧ a.until_ < b.until_
instance (a b : zI) : Decidable (xD a b) := by unfold xD; infer_instance
theorem zV2 (a b : zI) (h : a.id ≤ 1000 ∧ 1 ≤ a.id) : FnA Tryz.prog 175 [.agg a.av, .agg b.av] (.raw (.bool (decide (xD a b)))) := by
 refine en Tryz.func175 Tryz.ntmps175 [.tmp 4] rfl ?_
 repeat' first
  | refine wkg trivial ?_
  | (refine cS (fun hb => ?_) fun hb => ?_ <;> try (cases hb; done))
  | refine sM fun K hK => ?_
  | fail
 all_goals (try (refine zM (by simp) ⟨_, _, _, evl, ob0, zV.sims ?_ fre⟩))
 all_goals first | exact z5.refl _ | (refine z5.of_eq ?_; first | rfl | (simp [xD]; done) | (simp_all [xD]; done) | (simp_all [xD]; omega) | (simp [xD]; grind) | (simp [xD]; grind) | (split <;> simp_all)) | exact yM | (refine z5.tup ?_; simp only [z8, yMs]; (repeat' apply And.intro) <;> first | exact yM | skip) | (exfalso; first | omega | (simp_all; done) | (simp_all; omega)) | skip
theorem zTx {k : zI} (h : k.fits) : okI (zFr k) := by
 obtain ⟨h1, h2, h3, h4, h5, h6⟩ := h
 simp only [okI, zFr, yMn]
 exact ⟨h1, h2, h3, h4, h5, by simp⟩
def vK (a b : zI) : Bool := (yY a.pub b.sig (zFr b)).1
theorem zWt (a b : zI) (ha : a.fits) (hb : b.fits) : FnA Tryz.prog 176 [.agg a.av, .agg b.av] (.raw (.bool (vK a b))) := by
 have hm := zU7 b
 have hv := zO3 a.pub b.sig (zFr b) (zTx hb) ha.2.2.1 (by simp [zFr])
 have e : ((yY a.pub b.sig (zFr b)).1 && decide ((yY a.pub b.sig (zFr b)).2 = 0)) = vK a b := by
  unfold vK yY; split <;> simp
 have hfr : (liA (zFr b)).free := zC (fun _ => by simp [AV.free, AV.freeL, iC]) (zFr b)
 generalize vK a b = s at *
 generalize yY a.pub b.sig (zFr b) = v at *
 generalize liA (zFr b) = L at *
 refine en Tryz.func176 Tryz.ntmps176 [.tmp 4] rfl ?_
 repeat' first
  | refine wkg (And.intro hm hv) ?_
  | (refine cS (fun hb => ?_) fun hb => ?_ <;> try (cases hb; done))
  | refine sM fun K hK => ?_
  | fail
 all_goals exact fA
structure Iv where
 lo : Int
 hi : Int
 deriving Inhabited, DecidableEq
@[go_sem] def Iv.av (x : Iv) : List AV := [.raw (.int .i64 x.lo), .raw (.int .i64 x.hi)]
def Iv.fits (x : Iv) : Prop := (inK .i64 x.lo) ∧ (inK .i64 x.hi)
@[simp] theorem Iv.free (x : Iv) : AV.freeL x.av := ⟨trivial, trivial, trivial⟩
theorem zBx (lo hi : Int) : FnA Tryz.prog 177 [.agg [.raw (.int .i64 lo), .raw (.int .i64 hi)]] (.raw (.bool (decide (0 ≤ lo) && decide (lo ≤ hi) && decide (hi ≤ 3000000000000000)))) := by
 refine en Tryz.func177 Tryz.ntmps177 [.tmp 2] rfl ?_
 repeat' first
  | refine wkg trivial ?_
  | (refine cS (fun hb => ?_) fun hb => ?_ <;> try (cases hb; done))
  | refine sM fun K hK => ?_
  | fail
 all_goals exact fA
def wN (l : List zI) (i : Nat) : Prop :=
 if i = 0 ∨ (l.getD (i - 1) default).auth < (l.getD i default).auth then (l.getD i default).id = 1 ∧ (l.getD i default).sig.c = 0 ∧ (l.getD i default).sig.s = 0
 else xD (l.getD (i - 1) default) (l.getD i default) ∧ vK (l.getD (i - 1) default) (l.getD i default) = true
instance (l : List zI) (i : Nat) : Decidable (wN l i) := by unfold wN; infer_instance
theorem yA4 (l : List zI) (hl : l.length ≤ 4611686018427387904) (hf : ∀ k ∈ l, k.fits ∧ xH k) (i : Nat) (hi : i < l.length) : FnA Tryz.prog 119 [lA 7 zI.av l, .raw (.int .i64 i)] (.raw (.bool (decide (wN l i)))) := by
 have m1 : l.getD i default ∈ l := by rw [zU hi]; exact yNe _
 rcases yLj i with rfl | h0
 ·refine en Tryz.func119 Tryz.ntmps119 [.tmp 4] rfl ?_
  repeat' first
   | refine wkg trivial ?_
   | (refine cS (fun hb => ?_) fun hb => ?_ <;> try (cases hb; done))
   | refine sM fun K hK => ?_
   | fail
  all_goals (try (refine zM (by simp) ⟨_, _, _, evl, ob0, zV.sims ?_ fre⟩))
  all_goals first | exact z5.refl _ | (refine z5.of_eq ?_; first | rfl | (simp [wN]; done) | (simp_all [wN]; done) | (simp_all [wN]; omega) | (simp [wN]; grind) | (split <;> simp_all)) | exact yM | (refine z5.tup ?_; simp only [z8, yMs]; (repeat' apply And.intro) <;> first | exact yM | skip) | (exfalso; first | omega | (simp_all; done) | (simp_all; omega)) | skip
 ·have e1 : ((i : Int) - 1).toNat = i - 1 := by omega
  have m2 : l.getD ((i : Int) - 1).toNat default ∈ l := by rw [e1, zU (by omega)]; exact yNe _
  have h1 := hf _ m1
  have h2 := hf _ m2
  have f1 := zV2 (l.getD ((i : Int) - 1).toNat default) (l.getD i default) ⟨h2.2.2.2.2.1, h2.2.2.2.1⟩
  have f2 := zWt (l.getD ((i : Int) - 1).toNat default) (l.getD i default) h2.1 h1.1
  have er : wN l i = (if (l.getD ((i : Int) - 1).toNat default).auth < (l.getD i default).auth then (l.getD i default).id = 1 ∧ (l.getD i default).sig.c = 0 ∧ (l.getD i default).sig.s = 0
   else xD (l.getD ((i : Int) - 1).toNat default) (l.getD i default) ∧ vK (l.getD ((i : Int) - 1).toNat default) (l.getD i default) = true) := by
   rw [wN, e1]; simp only [show ¬ i = 0 from by omega, false_or]
  have ed : decide (wN l i) = (if (l.getD ((i : Int) - 1).toNat default).auth < (l.getD i default).auth then decide ((l.getD i default).id = 1) && (decide ((l.getD i default).sig.c = 0) && decide ((l.getD i default).sig.s = 0))
   else decide (xD (l.getD ((i : Int) - 1).toNat default) (l.getD i default)) && vK (l.getD ((i : Int) - 1).toNat default) (l.getD i default)) := by
   by_cases hlt : (l.getD ((i : Int) - 1).toNat default).auth < (l.getD i default).auth
   ·rw [if_pos hlt] at er ⊢; simp only [er, Bool.decide_and]
   ·rw [if_neg hlt] at er ⊢; simp only [er, Bool.decide_and, Bool.decide_eq_true]
  rw [ed]
  clear er ed h1 h2 m1 m2 hf
  generalize decide (xD (l.getD ((i : Int) - 1).toNat default) (l.getD i default)) = b1 at *
  generalize vK (l.getD ((i : Int) - 1).toNat default) (l.getD i default) = b2 at *
  refine en Tryz.func119 Tryz.ntmps119 [.tmp 4] rfl ?_
  repeat' first
   | refine wkg (And.intro f1 f2) ?_
   | (refine cS (fun hb => ?_) fun hb => ?_ <;> try (cases hb; done))
   | refine sM fun K hK => ?_
   | fail
  all_goals exact fA
theorem yEc (g : FuncId) (k : zI) (b : Bool) (h : FnA Tryz.prog g [.agg k.av] (.raw (.bool b))) : FnA Tryz.prog 172 [.agg k.av, .elt [.raw (.func (.func g) #[] #[])] 0] (.raw (.bool (!b))) := by
 refine en Tryz.func172 Tryz.ntmps172 [.tmp 3] rfl ?_
 repeat' first
  | refine wkg h ?_
  | (refine cS (fun hb => ?_) fun hb => ?_ <;> try (cases hb; done))
  | refine sM fun K hK => ?_
  | fail
 all_goals exact fA
theorem yKc (l : List zI) (hl : l.length ≤ 4611686018427387904) (g : FuncId) (p : zI → Bool) (h : ∀ k ∈ l, FnA Tryz.prog g [.agg k.av] (.raw (.bool (p k)))) : FnA Tryz.prog 117 [lA 7 zI.av l, .raw (.func (.func g) #[] #[])] (.raw (.bool (l.all p))) := by
 have hc := zBm l hl 172 [.elt [.raw (.func (.func g) #[] #[])] 0] (by simp [AV.freeL, AV.free]) (fun k => !p k) (fun x hx => yEc g x _ (h x hx))
 have hfr : (lA 7 zI.av l).free := zC (fun y => zI.free y) _
 have he : (!l.any fun k => !p k) = l.all p := by simp [List.all_eq_not_any_not]
 rw [← he]
 clear he
 refine en Tryz.func117 Tryz.ntmps117 [.tmp 4] rfl ?_
 repeat'
  first
   | first
    | (refine zG (hK _ ?_); clear hK K)
    | refine stG ?_
    | (refine yJ 1 rfl ?_; refine zR rfl rfl ⟨_, evl, _, _, _, evl, yR, ?_⟩; apply Exists.intro; refine ⟨fun hg => ?_, ?_⟩; · first | exact FnA.at_ (hc) rfl rfl | exact FnA.at_s (hc) rfl yV | exact FnA.at_s (hc) rfl yW)
    | (refine zW 1 rfl ?_; refine zS rfl ⟨_, evl, _, _, _, (fun _ _ => vH), yR, ?_⟩; apply Exists.intro; refine ⟨fun hg => ?_, ?_⟩; · first | exact FnA.at_ (hc) rfl rfl | exact FnA.at_s (hc) rfl yV | exact FnA.at_s (hc) rfl yW)
    | (refine zW 1 rfl ?_; refine zJ ?_)
    | (refine yB ?_; first | (refine zP (hK _ ?_); clear hK K) | (refine zX rfl ⟨_, evl, fun nb' => ?_⟩))
    | refine zE (fun K hK => ?_)
    | (refine yZ ?_; first | (refine zD false rfl (by kernel_rfl) (by kernel_rfl) (fun K hK => ?_)) | (refine zD true rfl (by kernel_rfl) (by kernel_rfl) (fun K hK => ?_)))
    | (refine zA ⟨_, evl, fun hb => ?_, fun hb => ?_⟩ <;> (try simp only [yMy, yLq, yN1, yN0, yLs, yMx, yLi, yNm, yLr, yMz, yNn, yM7, ne_eq, yNo, yLh, yNp, yMl, yMm] at hb))
   | fail
 refine z0 0 obf ⟨_, evl, _, evl, ?_⟩
 repeat'
  first
   | first
    | (refine zG (hK _ ?_); clear hK K)
    | refine stG ?_
    | (refine yJ 1 rfl ?_; refine zR rfl rfl ⟨_, evl, _, _, _, evl, yR, ?_⟩; apply Exists.intro; refine ⟨fun hg => ?_, ?_⟩; · first | exact FnA.at_ (hc) rfl rfl | exact FnA.at_s (hc) rfl yV | exact FnA.at_s (hc) rfl yW)
    | (refine zW 1 rfl ?_; refine zS rfl ⟨_, evl, _, _, _, (fun _ _ => vH), yR, ?_⟩; apply Exists.intro; refine ⟨fun hg => ?_, ?_⟩; · first | exact FnA.at_ (hc) rfl rfl | exact FnA.at_s (hc) rfl yV | exact FnA.at_s (hc) rfl yW)
    | (refine zW 1 rfl ?_; refine zJ ?_)
    | (refine yB ?_; first | (refine zP (hK _ ?_); clear hK K) | (refine zX rfl ⟨_, evl, fun nb' => ?_⟩))
    | refine zE (fun K hK => ?_)
    | (refine yZ ?_; first | (refine zD false rfl (by kernel_rfl) (by kernel_rfl) (fun K hK => ?_)) | (refine zD true rfl (by kernel_rfl) (by kernel_rfl) (fun K hK => ?_)))
    | (refine zA ⟨_, evl, fun hb => ?_, fun hb => ?_⟩ <;> (try simp only [yMy, yLq, yN1, yN0, yLs, yMx, yLi, yNm, yLr, yMz, yNn, yM7, ne_eq, yNo, yLh, yNp, yMl, yMm] at hb))
   | fail
 all_goals exact fA
def ValidP (l : List zI) : Prop := l.length ≤ 100 ∧ (∀ k ∈ l, xH k) ∧ ∀ i, i < l.length → wN l i
instance (l : List zI) : Decidable (ValidP l) := by unfold ValidP; infer_instance
theorem valid_A (l : List zI) (hl : l.length ≤ 4611686018427387904) (hf : ∀ k ∈ l, k.fits) : FnA Tryz.prog 72 [lA 7 zI.av l] (.raw (.bool (decide (ValidP l)))) := by
 have ha := yKc l hl _ _ fun k _ => formed_A k
 have hall : l.all (fun k => decide (xH k)) = true ↔ ∀ k ∈ l, xH k := by simp [yNi]
 have hr := fun h i hi => yA4 l hl (fun k hk => ⟨hf k hk, hall.1 h k hk⟩) i hi
 refine en Tryz.func72 Tryz.ntmps72 [.tmp 2] rfl ?_
 repeat' first
  | refine wkg ha ?_
  | (refine cS (fun hb => ?_) fun hb => ?_ <;> try (cases hb; done))
  | refine sM fun K hK => ?_
  | fail
 ·refine zM (by simp) ⟨_, _, _, evl, ob0, zV.eq ?_ (by simp [AV.free])⟩
  simp only [AV.raw.injEq, Value.bool.injEq]
  rw [eq_comm, yMz]
  rintro ⟨h1, h2, _⟩
  rcases hb with h | h
  ·omega
  ·rw [hall.2 h2] at h; cases h
 ·refine zF (fun k : Nat => ⟨22, 0, [(0, true, lA 7 zI.av l), (13, true, .raw (.int .i64 l.length)), (14, true, .raw (.int .i64 k))], [], [], ((0, []), [], true)⟩)
   (fun k => k ≤ l.length ∧ ∀ i, i < k → wN l i) (fun k => l.length - k) 0 ?_ ⟨by omega, fun i h => by omega⟩ ?_
  ·exact wkZ
  ·rintro k ⟨hk, hr2⟩
   have hb0 := hb
   repeat'
    first
     | first
      | (refine zG (hK _ ?_); clear hK K)
      | refine stG ?_
      | (refine yJ 1 rfl ?_; refine zR rfl rfl ⟨_, evl, _, _, _, evl, yR, ?_⟩; apply Exists.intro; refine ⟨fun hg => ?_, ?_⟩; · first | exact FnA.at_ (hr (by simp_all) k (by omega)) rfl rfl | exact FnA.at_s (hr (by simp_all) k (by omega)) rfl yV | exact FnA.at_s (hr (by simp_all) k (by omega)) rfl yW)
      | (refine zW 1 rfl ?_; refine zS rfl ⟨_, evl, _, _, _, (fun _ _ => vH), yR, ?_⟩; apply Exists.intro; refine ⟨fun hg => ?_, ?_⟩; · first | exact FnA.at_ (hr (by simp_all) k (by omega)) rfl rfl | exact FnA.at_s (hr (by simp_all) k (by omega)) rfl yV | exact FnA.at_s (hr (by simp_all) k (by omega)) rfl yW)
      | (refine zW 1 rfl ?_; refine zJ ?_)
      | (refine yB ?_; first | (refine zP (hK _ ?_); clear hK K) | (refine zX rfl ⟨_, evl, fun nb' => ?_⟩))
      | refine zE (fun K hK => ?_)
      | (refine yZ ?_; first | (refine zD false rfl (by kernel_rfl) (by kernel_rfl) (fun K hK => ?_)) | (refine zD true rfl (by kernel_rfl) (by kernel_rfl) (fun K hK => ?_)))
      | (refine zA ⟨_, evl, fun hb => ?_, fun hb => ?_⟩ <;> (try simp only [yMy, yLq, yN1, yN0, yLs, yMx, yLi, yNm, yLr, yMz, yNn, yM7, ne_eq, yNo, yLh, yNp, yMl, yMm] at hb))
     | fail
   ·refine zM (by simp) ⟨_, _, _, evl, ob0, zV.eq ?_ (by simp [AV.free])⟩
    simp only [AV.raw.injEq, Value.bool.injEq]
    rw [eq_comm, yMz]
    rintro ⟨_, _, h3⟩
    exact hb (h3 k (by omega))
   ·refine ⟨k + 1, ⟨by omega, fun i hi => ?_⟩, by omega, ?_⟩
    ·rcases yNv.1 hi with h | rfl
     ·exact hr2 i h
     ·exact hb
    ·exact wkZ
   ·refine zM (by simp) ⟨_, _, _, evl, ob0, zV.eq ?_ (by simp [AV.free])⟩
    simp only [AV.raw.injEq, Value.bool.injEq]
    rw [eq_comm, yLr]
    exact ⟨by omega, hall.1 hb0.2, fun i hi => hr2 i (by omega)⟩
end Go.Proofs.YtchpbdecipcelaaGreatDoor
