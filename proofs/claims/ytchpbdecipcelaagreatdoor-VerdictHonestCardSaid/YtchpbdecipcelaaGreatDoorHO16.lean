import Derived.Test.YtchpbdecipcelaaGreatDoorHO01
import Derived.Test.YtchpbdecipcelaaGreatDoorHO15
namespace Go.Proofs.YtchpbdecipcelaaGreatDoor
set_option linter.unusedVariables false
set_option linter.unusedSimpArgs false
set_option maxHeartbeats 4000000
set_option maxRecDepth 100000
open Go.RowKit
def y9 (a b : zH) : Prop := b.auth = a.auth ∧ b.id = a.id + 1 ∧ a.from_ < b.from_ ∧ b.from_ ≤ a.until_ ∧ a.until_ < b.until_
instance (a b : zH) : Decidable (y9 a b) := by unfold y9; infer_instance
theorem zTg (a b : zH) (h : a.id ≤ 1000 ∧ 1 ≤ a.id) : FnA Tryz.prog 175 [.agg a.av, .agg b.av] (.raw (.bool (decide (y9 a b)))) := by
 refine en Tryz.func175 Tryz.ntmps175 [.tmp 4] rfl ?_
 repeat' first
  | refine wkg trivial ?_
  | (refine cS (fun hb => ?_) fun hb => ?_ <;> try (cases hb; done))
  | refine sM fun K hK => ?_
  | fail
 all_goals (try (refine zR (by simp) ⟨_, _, _, evl, ob0, zV.sims ?_ fre⟩))
 all_goals first | exact z6.refl _ | (refine z6.of_eq ?_; first | rfl | (simp [y9]; done) | (simp_all [y9]; done) | (simp_all [y9]; omega) | (simp [y9]; grind) | (simp [y9]; grind) | (split <;> simp_all)) | exact yU | (refine z6.tup ?_; simp only [z8, yKn]; (repeat' apply And.intro) <;> first | exact yU | skip) | (exfalso; first | omega | (simp_all; done) | (simp_all; omega)) | skip
theorem zSg {k : zH} (h : k.fits) : okI (zF6 k) := by
 obtain ⟨h1, h2, h3, h4, h5, h6⟩ := h
 simp only [okI, zF6, yKi]
 exact ⟨h1, h2, h3, h4, h5, by simp⟩
def vA (a b : zH) : Bool := (yW a.pub b.sig (zF6 b)).1
theorem zV1 (a b : zH) (ha : a.fits) (hb : b.fits) : FnA Tryz.prog 176 [.agg a.av, .agg b.av] (.raw (.bool (vA a b))) := by
 have hm := zSq b
 have hv := zMy a.pub b.sig (zF6 b) (zSg hb) ha.2.2.1 (by simp [zF6])
 have e : ((yW a.pub b.sig (zF6 b)).1 && decide ((yW a.pub b.sig (zF6 b)).2 = 0)) = vA a b := by
  unfold vA yW; split <;> simp
 have hfr : (liA (zF6 b)).free := zE (fun _ => by simp [AV.free, AV.freeL, iC]) (zF6 b)
 generalize vA a b = s at *
 generalize yW a.pub b.sig (zF6 b) = v at *
 generalize liA (zF6 b) = L at *
 refine en Tryz.func176 Tryz.ntmps176 [.tmp 4] rfl ?_
 repeat' first
  | refine wkg (And.intro hm hv) ?_
  | (refine cS (fun hb => ?_) fun hb => ?_ <;> try (cases hb; done))
  | refine sM fun K hK => ?_
  | fail
 all_goals exact fA
structure Iv where
 lo : Int
 hi : Int
 deriving Inhabited, DecidableEq
@[go_sem] def Iv.av (x : Iv) : List AV := [.raw (.int .i64 x.lo), .raw (.int .i64 x.hi)]
def Iv.fits (x : Iv) : Prop := (inK .i64 x.lo) ∧ (inK .i64 x.hi)
@[simp] theorem Iv.free (x : Iv) : AV.freeL x.av := ⟨trivial, trivial, trivial⟩
theorem zBt (lo hi : Int) : FnA Tryz.prog 177 [.agg [.raw (.int .i64 lo), .raw (.int .i64 hi)]] (.raw (.bool (decide (0 ≤ lo) && decide (lo ≤ hi) && decide (hi ≤ 3000000000000000)))) := by
 refine en Tryz.func177 Tryz.ntmps177 [.tmp 2] rfl ?_
 repeat' first
  | refine wkg trivial ?_
  | (refine cS (fun hb => ?_) fun hb => ?_ <;> try (cases hb; done))
  | refine sM fun K hK => ?_
  | fail
 all_goals exact fA
def wI (l : List zH) (i : Nat) : Prop :=
 if i = 0 ∨ (l.getD (i - 1) default).auth < (l.getD i default).auth then (l.getD i default).id = 1 ∧ (l.getD i default).sig.c = 0 ∧ (l.getD i default).sig.s = 0
 else y9 (l.getD (i - 1) default) (l.getD i default) ∧ vA (l.getD (i - 1) default) (l.getD i default) = true
instance (l : List zH) (i : Nat) : Decidable (wI l i) := by unfold wI; infer_instance
theorem zY6 (l : List zH) (hl : l.length ≤ 4611686018427387904) (hf : ∀ k ∈ l, k.fits ∧ xI k) (i : Nat) (hi : i < l.length) : FnA Tryz.prog 119 [lA 7 zH.av l, .raw (.int .i64 i)] (.raw (.bool (decide (wI l i)))) := by
 have m1 : l.getD i default ∈ l := by rw [z5 hi]; exact yLb _
 rcases yJe i with rfl | h0
 ·refine en Tryz.func119 Tryz.ntmps119 [.tmp 4] rfl ?_
  repeat' first
   | refine wkg trivial ?_
   | (refine cS (fun hb => ?_) fun hb => ?_ <;> try (cases hb; done))
   | refine sM fun K hK => ?_
   | fail
  all_goals (try (refine zR (by simp) ⟨_, _, _, evl, ob0, zV.sims ?_ fre⟩))
  all_goals first | exact z6.refl _ | (refine z6.of_eq ?_; first | rfl | (simp [wI]; done) | (simp_all [wI]; done) | (simp_all [wI]; omega) | (simp [wI]; grind) | (split <;> simp_all)) | exact yU | (refine z6.tup ?_; simp only [z8, yKn]; (repeat' apply And.intro) <;> first | exact yU | skip) | (exfalso; first | omega | (simp_all; done) | (simp_all; omega)) | skip
 ·have e1 : ((i : Int) - 1).toNat = i - 1 := by omega
  have m2 : l.getD ((i : Int) - 1).toNat default ∈ l := by rw [e1, z5 (by omega)]; exact yLb _
  have h1 := hf _ m1
  have h2 := hf _ m2
  have f1 := zTg (l.getD ((i : Int) - 1).toNat default) (l.getD i default) ⟨h2.2.2.2.2.1, h2.2.2.2.1⟩
  have f2 := zV1 (l.getD ((i : Int) - 1).toNat default) (l.getD i default) h2.1 h1.1
  have er : wI l i = (if (l.getD ((i : Int) - 1).toNat default).auth < (l.getD i default).auth then (l.getD i default).id = 1 ∧ (l.getD i default).sig.c = 0 ∧ (l.getD i default).sig.s = 0
   else y9 (l.getD ((i : Int) - 1).toNat default) (l.getD i default) ∧ vA (l.getD ((i : Int) - 1).toNat default) (l.getD i default) = true) := by
   rw [wI, e1]; simp only [show ¬ i = 0 from by omega, false_or]
  have ed : decide (wI l i) = (if (l.getD ((i : Int) - 1).toNat default).auth < (l.getD i default).auth then decide ((l.getD i default).id = 1) && (decide ((l.getD i default).sig.c = 0) && decide ((l.getD i default).sig.s = 0))
   else decide (y9 (l.getD ((i : Int) - 1).toNat default) (l.getD i default)) && vA (l.getD ((i : Int) - 1).toNat default) (l.getD i default)) := by
   by_cases hlt : (l.getD ((i : Int) - 1).toNat default).auth < (l.getD i default).auth
   ·rw [if_pos hlt] at er ⊢; simp only [er, Bool.decide_and]
   ·rw [if_neg hlt] at er ⊢; simp only [er, Bool.decide_and, Bool.decide_eq_true]
  rw [ed]
  clear er ed h1 h2 m1 m2 hf
  generalize decide (y9 (l.getD ((i : Int) - 1).toNat default) (l.getD i default)) = b1 at *
  generalize vA (l.getD ((i : Int) - 1).toNat default) (l.getD i default) = b2 at *
  refine en Tryz.func119 Tryz.ntmps119 [.tmp 4] rfl ?_
  repeat' first
   | refine wkg (And.intro f1 f2) ?_
   | (refine cS (fun hb => ?_) fun hb => ?_ <;> try (cases hb; done))
   | refine sM fun K hK => ?_
   | fail
  all_goals exact fA
theorem yC4 (g : FuncId) (k : zH) (b : Bool) (h : FnA Tryz.prog g [.agg k.av] (.raw (.bool b))) : FnA Tryz.prog 172 [.agg k.av, .elt [.raw (.func (.func g) #[] #[])] 0] (.raw (.bool (!b))) := by
 refine en Tryz.func172 Tryz.ntmps172 [.tmp 3] rfl ?_
 repeat' first
  | refine wkg h ?_
  | (refine cS (fun hb => ?_) fun hb => ?_ <;> try (cases hb; done))
  | refine sM fun K hK => ?_
  | fail
 all_goals exact fA
theorem yIb (l : List zH) (hl : l.length ≤ 4611686018427387904) (g : FuncId) (p : zH → Bool) (h : ∀ k ∈ l, FnA Tryz.prog g [.agg k.av] (.raw (.bool (p k)))) : FnA Tryz.prog 117 [lA 7 zH.av l, .raw (.func (.func g) #[] #[])] (.raw (.bool (l.all p))) := by
 have hc := zBh l hl 172 [.elt [.raw (.func (.func g) #[] #[])] 0] (by simp [AV.freeL, AV.free]) (fun k => !p k) (fun x hx => yC4 g x _ (h x hx))
 have hfr : (lA 7 zH.av l).free := zE (fun y => zH.free y) _
 have he : (!l.any fun k => !p k) = l.all p := by simp [List.all_eq_not_any_not]
 rw [← he]
 clear he
 refine en Tryz.func117 Tryz.ntmps117 [.tmp 4] rfl ?_
 repeat'
  first
   | first
    | (refine zF (hK _ ?_); clear hK K)
    | refine stG ?_
    | (refine yH 1 rfl ?_; refine zN rfl rfl ⟨_, evl, _, _, _, evl, yR, ?_⟩; apply Exists.intro; refine ⟨fun hg => ?_, ?_⟩; · first | exact FnA.at_ (hc) rfl rfl | exact FnA.at_s (hc) rfl xB | exact FnA.at_s (hc) rfl xC)
    | (refine zS 1 rfl ?_; refine zP rfl ⟨_, evl, _, _, _, (fun _ _ => w7), yR, ?_⟩; apply Exists.intro; refine ⟨fun hg => ?_, ?_⟩; · first | exact FnA.at_ (hc) rfl rfl | exact FnA.at_s (hc) rfl xB | exact FnA.at_s (hc) rfl xC)
    | (refine zS 1 rfl ?_; refine zG ?_)
    | (refine z7 ?_; first | (refine zK (hK _ ?_); clear hK K) | (refine zT rfl ⟨_, evl, fun nb' => ?_⟩))
    | refine zD (fun K hK => ?_)
    | (refine xD ?_; first | (refine zC false rfl (by kernel_rfl) (by kernel_rfl) (fun K hK => ?_)) | (refine zC true rfl (by kernel_rfl) (by kernel_rfl) (fun K hK => ?_)))
    | (refine zA ⟨_, evl, fun hb => ?_, fun hb => ?_⟩ <;> (try simp only [yKt, yJl, yKw, yKv, yJn, yKs, yJd, yLj, yJm, yKu, yLk, yK3, ne_eq, yLl, yJc, yLm, yKg, yKh] at hb))
   | fail
 refine zX 0 obf ⟨_, evl, _, evl, ?_⟩
 repeat'
  first
   | first
    | (refine zF (hK _ ?_); clear hK K)
    | refine stG ?_
    | (refine yH 1 rfl ?_; refine zN rfl rfl ⟨_, evl, _, _, _, evl, yR, ?_⟩; apply Exists.intro; refine ⟨fun hg => ?_, ?_⟩; · first | exact FnA.at_ (hc) rfl rfl | exact FnA.at_s (hc) rfl xB | exact FnA.at_s (hc) rfl xC)
    | (refine zS 1 rfl ?_; refine zP rfl ⟨_, evl, _, _, _, (fun _ _ => w7), yR, ?_⟩; apply Exists.intro; refine ⟨fun hg => ?_, ?_⟩; · first | exact FnA.at_ (hc) rfl rfl | exact FnA.at_s (hc) rfl xB | exact FnA.at_s (hc) rfl xC)
    | (refine zS 1 rfl ?_; refine zG ?_)
    | (refine z7 ?_; first | (refine zK (hK _ ?_); clear hK K) | (refine zT rfl ⟨_, evl, fun nb' => ?_⟩))
    | refine zD (fun K hK => ?_)
    | (refine xD ?_; first | (refine zC false rfl (by kernel_rfl) (by kernel_rfl) (fun K hK => ?_)) | (refine zC true rfl (by kernel_rfl) (by kernel_rfl) (fun K hK => ?_)))
    | (refine zA ⟨_, evl, fun hb => ?_, fun hb => ?_⟩ <;> (try simp only [yKt, yJl, yKw, yKv, yJn, yKs, yJd, yLj, yJm, yKu, yLk, yK3, ne_eq, yLl, yJc, yLm, yKg, yKh] at hb))
   | fail
 all_goals exact fA
def ValidP (l : List zH) : Prop := l.length ≤ 100 ∧ (∀ k ∈ l, xI k) ∧ ∀ i, i < l.length → wI l i
instance (l : List zH) : Decidable (ValidP l) := by unfold ValidP; infer_instance
theorem valid_A (l : List zH) (hl : l.length ≤ 4611686018427387904) (hf : ∀ k ∈ l, k.fits) : FnA Tryz.prog 72 [lA 7 zH.av l] (.raw (.bool (decide (ValidP l)))) := by
 have ha := yIb l hl _ _ fun k _ => formed_A k
 have hall : l.all (fun k => decide (xI k)) = true ↔ ∀ k ∈ l, xI k := by simp [yLf]
 have hr := fun h i hi => zY6 l hl (fun k hk => ⟨hf k hk, hall.1 h k hk⟩) i hi
 refine en Tryz.func72 Tryz.ntmps72 [.tmp 2] rfl ?_
 repeat' first
  | refine wkg ha ?_
  | (refine cS (fun hb => ?_) fun hb => ?_ <;> try (cases hb; done))
  | refine sM fun K hK => ?_
  | fail
 ·refine zR (by simp) ⟨_, _, _, evl, ob0, zV.eq ?_ (by simp [AV.free])⟩
  simp only [AV.raw.injEq, Value.bool.injEq]
  rw [eq_comm, yKu]
  rintro ⟨h1, h2, _⟩
  rcases hb with h | h
  ·omega
  ·rw [hall.2 h2] at h; cases h
 ·refine zJ (fun k : Nat => ⟨22, 0, [(0, true, lA 7 zH.av l), (13, true, .raw (.int .i64 l.length)), (14, true, .raw (.int .i64 k))], [], [], ((0, []), [], true)⟩)
   (fun k => k ≤ l.length ∧ ∀ i, i < k → wI l i) (fun k => l.length - k) 0 ?_ ⟨by omega, fun i h => by omega⟩ ?_
  ·exact wkZ
  ·rintro k ⟨hk, hr2⟩
   have hb0 := hb
   repeat'
    first
     | first
      | (refine zF (hK _ ?_); clear hK K)
      | refine stG ?_
      | (refine yH 1 rfl ?_; refine zN rfl rfl ⟨_, evl, _, _, _, evl, yR, ?_⟩; apply Exists.intro; refine ⟨fun hg => ?_, ?_⟩; · first | exact FnA.at_ (hr (by simp_all) k (by omega)) rfl rfl | exact FnA.at_s (hr (by simp_all) k (by omega)) rfl xB | exact FnA.at_s (hr (by simp_all) k (by omega)) rfl xC)
      | (refine zS 1 rfl ?_; refine zP rfl ⟨_, evl, _, _, _, (fun _ _ => w7), yR, ?_⟩; apply Exists.intro; refine ⟨fun hg => ?_, ?_⟩; · first | exact FnA.at_ (hr (by simp_all) k (by omega)) rfl rfl | exact FnA.at_s (hr (by simp_all) k (by omega)) rfl xB | exact FnA.at_s (hr (by simp_all) k (by omega)) rfl xC)
      | (refine zS 1 rfl ?_; refine zG ?_)
      | (refine z7 ?_; first | (refine zK (hK _ ?_); clear hK K) | (refine zT rfl ⟨_, evl, fun nb' => ?_⟩))
      | refine zD (fun K hK => ?_)
      | (refine xD ?_; first | (refine zC false rfl (by kernel_rfl) (by kernel_rfl) (fun K hK => ?_)) | (refine zC true rfl (by kernel_rfl) (by kernel_rfl) (fun K hK => ?_)))
      | (refine zA ⟨_, evl, fun hb => ?_, fun hb => ?_⟩ <;> (try simp only [yKt, yJl, yKw, yKv, yJn, yKs, yJd, yLj, yJm, yKu, yLk, yK3, ne_eq, yLl, yJc, yLm, yKg, yKh] at hb))
     | fail
   ·refine zR (by simp) ⟨_, _, _, evl, ob0, zV.eq ?_ (by simp [AV.free])⟩
    simp only [AV.raw.injEq, Value.bool.injEq]
    rw [eq_comm, yKu]
    rintro ⟨_, _, h3⟩
    exact hb (h3 k (by omega))
   ·refine ⟨k + 1, ⟨by omega, fun i hi => ?_⟩, by omega, ?_⟩
    ·rcases yLu.1 hi with h | rfl
     ·exact hr2 i h
     ·exact hb
    ·exact wkZ
   ·refine zR (by simp) ⟨_, _, _, evl, ob0, zV.eq ?_ (by simp [AV.free])⟩
    simp only [AV.raw.injEq, Value.bool.injEq]
    rw [eq_comm, yJm]
    exact ⟨by omega, hall.1 hb0.2, fun i hi => hr2 i (by omega)⟩
end Go.Proofs.YtchpbdecipcelaaGreatDoor
