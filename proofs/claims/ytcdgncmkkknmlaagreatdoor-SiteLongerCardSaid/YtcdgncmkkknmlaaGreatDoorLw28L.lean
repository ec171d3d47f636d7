/- The statement SiteLonger, walked. -/
import Derived.Test.YtcdgncmkkknmlaaGreatDoorLw28R
namespace Go.Proofs.YtcdgncmkkknmlaaGreatDoor
set_option linter.unusedVariables false
set_option linter.unusedSimpArgs false
set_option maxHeartbeats 4000000
set_option maxRecDepth 100000
open Go.RowKit
theorem any_take {α : Type} [Inhabited α] (p : α → Bool) (l : List α) {k : Nat} (hk : k < l.length) : (l.take (k + 1)).any p = ((l.take k).any p || p (l.getD k default)) := by
  rw [List.take_succ_eq_append_getElem hk, List.any_append, getD_get hk]
  simp
/-- A fresh own variable, of operations whose order is open. -/
theorem stepB_box {P : Program} {full : List Oper} {all : Bool} {o : Oper} {d nt nb : Nat} {k' : ASt → Prop} {L : List Nat} {sl : List (Nat × (Bool × AV))} {bx bx0 : List (List AV)} {rw : List ARow} {ys : (Nat × List (List AV)) × List (List AV) × Bool} {ent : Bool × AV} {c : List AV} (hd : o.dst = some d) (hk : ∃ ext, bx ++ [c] = mskB all bx0 ext) (h64 : Nat.blt bx.length 64 = true) (hl : o.looksAt full.toArray = L)
    (h : ∀ nb' K, K ⟨nt, nb', (d, ent) :: restr L sl, bx ++ [c], rw, ys⟩ → runS P full.toArray [o] K ⟨nt, nb', restr L sl, bx, rw, ys⟩) (hk' : k' ⟨nt, nb, (d, ent) :: sl, bx ++ [c], rw, ys⟩) : stepB P full.toArray all bx0 o k' ⟨nt, nb, sl, bx, rw, ys⟩ :=
  stepB_of h64 hl fun nb' => h nb' _ ⟨ent, _, _, by rw [hd]; rfl, hk, fun _ => ⟨rfl, _, rfl⟩, by rw [hd]; exact hk'⟩
theorem weak_frz {nt nb : Nat} {sl : List (Nat × (Bool × AV))} {bx : List (List AV)} {rw : List ARow} {ys : (Nat × List (List AV)) × List (List AV) × Bool} {st2 : ASt} (m : Nat)
    (h1 : nb % 64 ≤ m ∧ belB m (bx.take m) ∧ belR m rw ∧ okFS m bx sl) (h : ∃ sl', frzS m bx sl = sl' ∧ ∃ bx', bx.take m = bx' ∧ Weak ⟨nt, nb, sl', bx', rw, ys⟩ st2) : Weak ⟨nt, nb, sl, bx, rw, ys⟩ st2 := by
  obtain ⟨_, rfl, _, rfl, h⟩ := h
  exact Weak.trans (Weak.freeze m h1.1 h1.2.1 h1.2.2.1 h1.2.2.2) h
def cutIv (i : Iv) (left right : Int) : Iv := ⟨min i.hi (i.lo + left), max (min i.hi (i.lo + left)) (i.hi - right)⟩
theorem sameP_eq (p q : Peer) : decide (sameP p q) = (decide (q.auth = p.auth) && decide (q.err = p.err) && decide (q.cost = p.cost) && (decide (p.link.outLo ≤ q.link.outLo) && decide (q.link.outHi ≤ p.link.outHi) && decide (p.link.backLo ≤ q.link.backLo) && decide (q.link.backHi ≤ p.link.backHi))) := by
  rw [Bool.eq_iff_iff, decide_eq_true_iff]
  simp only [sameP, Bool.and_eq_true, decide_eq_true_eq, and_assoc]
theorem siteLonger_A (n : Net) (hf : ∀ t ∈ n.tables, t.fits) (which : Int) (hw : inK .u8 which) (i : Iv) (left right : Int) (hleft : inK .u16 left) (hright : inK .u16 right) :
    FnA Tryz.prog 5 [.agg n.av, .raw (.int .u8 which), .agg i.av, .raw (.int .u16 left), .raw (.int .u16 right)] (.raw (.bool true)) := by
  have hh := head28_A
  have hu := usable_A n hf i
  obtain ⟨f1, f2, f3, f4⟩ := net_free n
  by_cases hc : usableP n i
  · rw [decide_eq_true hc] at hu
    obtain ⟨hfew, hn, hiv⟩ := hc
    obtain ⟨hs, -⟩ := few_small hfew hf
    have hlen : 0 < n.hosts.length := List.length_pos_iff.2 (rises_iff.1 hn.2.1.1).1
    have hlen2 := hfew.1.2.1
    have hwl := hfew.1.2.2.2
    have hw2 := hw
    simp only [inK] at hw2
    have hJ := pick_range hw hlen
    have hm : n.hosts.getD (which.tmod n.hosts.length).toNat default ∈ n.hosts := getD_mem (by omega)
    have hi := (Lk.validI_iff i).1 hiv
    simp only [inK] at hleft hright
    have hkv : Lk.validI (cutIv i left right) = true := by rw [Lk.validI_iff]; simp only [cutIv]; omega
    have hs1 := site_A n hs (n.hosts.getD (which.tmod n.hosts.length).toNat default).id i
    have hs2 := site_A n hs (n.hosts.getD (which.tmod n.hosts.length).toNat default).id (cutIv i left right)
    rw [site_ok hn hm hiv] at hs1
    rw [site_ok hn hm hkv] at hs2
    have hrr := bound_range n (n.hosts.getD (which.tmod n.hosts.length).toNat default)
    obtain ⟨hl1, hl2⟩ := longer hn (id := (n.hosts.getD (which.tmod n.hosts.length).toNat default).id) hrr hiv hkv (by simp only [cutIv]; omega) (by simp only [cutIv]; omega)
    have e1 : (peersM n (n.hosts.getD (which.tmod n.hosts.length).toNat default).id (boundN n (n.hosts.getD (which.tmod n.hosts.length).toNat default)).1 i n.wires).length ≤ 60 := by
      simp only [peersM, List.length_map]
      have := List.length_filter_le (isPeer n (n.hosts.getD (which.tmod n.hosts.length).toNat default).id (boundN n (n.hosts.getD (which.tmod n.hosts.length).toNat default)).1 i) n.wires
      omega
    have e2 : (peersM n (n.hosts.getD (which.tmod n.hosts.length).toNat default).id (boundN n (n.hosts.getD (which.tmod n.hosts.length).toNat default)).1 (cutIv i left right) n.wires).length ≤ 60 := by
      simp only [peersM, List.length_map]
      have := List.length_filter_le (isPeer n (n.hosts.getD (which.tmod n.hosts.length).toNat default).id (boundN n (n.hosts.getD (which.tmod n.hosts.length).toNat default)).1 (cutIv i left right)) n.wires
      omega
    clear hrr hm hn hs hfew hiv hkv hf
    unfold cutIv at *
    generalize (boundN n (n.hosts.getD (which.tmod n.hosts.length).toNat default)).1 = rate at *
    generalize peersM n (n.hosts.getD (which.tmod n.hosts.length).toNat default).id rate i n.wires = A at *
    generalize peersM n (n.hosts.getD (which.tmod n.hosts.length).toNat default).id rate _ n.wires = B at *
    have g1 := lA_free (sz := 8) (fun y => Peer.free y) A
    have g2 := lA_free (sz := 8) (fun y => Peer.free y) B
    refine fnA_of tblOk Tryz.func5 rfl (by kernel_rfl) 168 Tryz.ntmps5 (by simp only [List.length_cons, List.length_nil]; omega) [.tmp 10] rfl ?_
    simp only [entrySt, argSl, Nat.zero_add, Nat.reduceAdd]
    try refine wkG (And.intro hh hu) ?_
    try (refine Stop.mk ?_; intro K hK)
    refine wpA_cond' ⟨_, evl, fun hb => absurd hb (by decide), fun _ => ?_⟩
    try refine wkG (And.intro hs1 hs2) ?_
    try (refine Stop.mk ?_; intro K hK)
    refine wpA_cond' ⟨_, evl, fun hb => absurd hb (by simp), fun _ => ?_⟩
    have hfull : ∀ k, k < A.length → (B.any fun q => decide (sameP (A.getD k default) q)) = true := fun k hk => by
      obtain ⟨q, hq, hp⟩ := hl1 _ (getD_mem hk)
      exact List.any_eq_true.2 ⟨q, hq, decide_eq_true hp⟩
    clear hl1 hs1 hs2 hh hu
    try refine wkG trivial ?_
    try (refine Stop.mk ?_; intro K hK)
    refine wpA_loop (fun k : Nat => ⟨168, 0, [(11, true, .raw (.bool true)), (14, true, .box 3 0), (16, true, .box 4 0), (84, true, lA 8 Peer.av A), (85, true, .raw (.int .i64 A.length)), (86, true, .raw (.int .i64 k))], [n.av, i.av, Iv.av ⟨min i.hi (i.lo + left), max (min i.hi (i.lo + left)) (i.hi - right)⟩, Site.av ⟨rate, n.f, n.lost, n.timeout, A⟩, Site.av ⟨rate, n.f, n.lost, n.timeout, B⟩], [], ((0, []), [], true)⟩)
      (fun k => k ≤ A.length) (fun k => A.length - k) 0 ?_ (by omega) ?_
    · refine wkn ?_ ?_ ?_
      all_goals first | exact wk0 | refine wkS ?_ | skip
      all_goals (try trivial)
      all_goals ((repeat' apply And.intro) <;> first | exact wkL | skip)
    · intro k hk
      try refine wkG trivial ?_
      try (refine Stop.mk ?_; intro K hK)
      refine wpA_cond' ⟨_, evl, fun hb => ?_, fun hb => ?_⟩
      · simp only [decide_eq_true_eq] at hb
        have hfk := hfull k (by omega)
        clear hfull
        try refine wkG trivial ?_
        try (refine Stop.mk ?_; intro K hK)
        refine wpA_freeze 5 obf ⟨_, evl, _, evl, ?_⟩
        refine wpA_loop (fun j : Nat => ⟨168, 0, [(11, true, .raw (.bool true)), (14, true, .box 3 0), (16, true, .box 4 0), (84, true, lA 8 Peer.av A), (85, true, .raw (.int .i64 A.length)), (86, true, .raw (.int .i64 k)), (19, true, .elt (Peer.av (A.getD k default)) 0), (20, true, .raw (.bool ((B.take j).any fun q => decide (sameP (A.getD k default) q)))), (91, true, lA 8 Peer.av B), (92, true, .raw (.int .i64 B.length)), (93, true, .raw (.int .i64 j))], [n.av, i.av, Iv.av ⟨min i.hi (i.lo + left), max (min i.hi (i.lo + left)) (i.hi - right)⟩, Site.av ⟨rate, n.f, n.lost, n.timeout, A⟩, Site.av ⟨rate, n.f, n.lost, n.timeout, B⟩], [], ((0, []), [], true)⟩)
          (fun j => j ≤ B.length) (fun j => B.length - j) 0 ?_ (by omega) ?_
        · simp only [List.take_zero, List.any_nil]
          refine wkn ?_ ?_ ?_
          all_goals first | exact wk0 | refine wkS ?_ | skip
          all_goals (try trivial)
          all_goals ((repeat' apply And.intro) <;> first | exact wkL | skip)
        · intro j hj
          rcases Nat.lt_or_ge j B.length with hlt | hge
          · have hs := any_take (fun q => decide (sameP (A.getD k default) q)) B hlt
            rw [sameP_eq] at hs
            generalize ((B.take j).any fun q => decide (sameP (A.getD k default) q)) = r at *
            clear hfk
            try refine wkG trivial ?_
            try (refine Stop.mk ?_; intro K hK)
            refine wpA_cond' ⟨_, evl, fun _ => ?_, fun hb => absurd (of_decide_eq_false hb) (by omega)⟩
            repeat refine stG ?_
            refine wpA_region (fun K hK => ?_)
            iterate 4 (refine stG ?_)
            refine runS_freeze 5 obf ⟨_, evl, _, evl, ?_⟩
            refine runS_nil (hK _ ?_); clear hK K
            repeat refine stG ?_
            refine wpA_join ⟨168, 0, [(11, true, .raw (.bool true)), (14, true, .box 3 0), (16, true, .box 4 0), (84, true, lA 8 Peer.av A), (85, true, .raw (.int .i64 A.length)), (86, true, .raw (.int .i64 k)), (19, true, .elt (Peer.av (A.getD k default)) 0), (20, true, .raw (.bool r)), (91, true, lA 8 Peer.av B), (92, true, .raw (.int .i64 B.length)), (93, true, .raw (.int .i64 j)), (22, true, .elt (Peer.av (B.getD j default)) 0), (23, true, .elt (Change.av (A.getD k default).link) 0), (24, true, .elt (Change.av (B.getD j default).link) 0)], [n.av, i.av, Iv.av ⟨min i.hi (i.lo + left), max (min i.hi (i.lo + left)) (i.hi - right)⟩, Site.av ⟨rate, n.f, n.lost, n.timeout, A⟩, Site.av ⟨rate, n.f, n.lost, n.timeout, B⟩], [], ((0, []), [], true)⟩ ?_ ?_
            · refine wpA_drawG true rfl (by kernel_rfl) (by kernel_rfl) (fun K hK => ?_)
              repeat
                first
                  | (refine runS_nil (hK _ ?_); clear hK K)
                  | refine stG ?_
                  | (refine gateA 1 rfl ?_; refine runA_put ?_)
                  | (refine gateBc ?_; first | (refine runB_nil (hK _ ?_); clear hK K) | (refine runB_op rfl ⟨_, evl, fun nb' => ?_⟩))
                  | refine wpA_region (fun K hK => ?_)
                  | (refine gateD ?_; first | (refine wpA_drawG false rfl (by kernel_rfl) (by kernel_rfl) (fun K hK => ?_)) | (refine wpA_drawG true rfl (by kernel_rfl) (by kernel_rfl) (fun K hK => ?_)))
              refine runA_nilT ⟨_, evl, _, evl, by decide +kernel, ?_⟩
              refine runT_op (m := 3) (cs := [4, 5]) rfl (by decide +kernel) ?_
              refine List.forall_mem_cons.2 ⟨fun o ho => ?_, List.forall_mem_cons.2 ⟨fun o ho => ?_, fun _ h => by cases h⟩⟩
              · cases Option.some.inj ho
                refine stepB_box (d := 23) (ent := (true, .box 5 0)) (c := Change.av ⟨0, 0, 0, 0, 0⟩) rfl ⟨_, rfl⟩ rfl evl (fun nb' K hk => ?_) ?_
                · refine stG ?_
                  exact runS_nil hk
                · refine runT_chain (rem := [5, 6, 7]) (by decide +kernel) ?_
                  rw [pickOps_eq]
                  dsimp only [List.cons_append, List.nil_append]

                  repeat
                    first
                      | (refine runS_nil (hK _ ?_); clear hK K)
                      | refine stG ?_
                      | (refine gateA 1 rfl ?_; refine runA_put ?_)
                      | (refine gateBc ?_; first | (refine runB_nil (hK _ ?_); clear hK K) | (refine runB_op rfl ⟨_, evl, fun nb' => ?_⟩))
                      | refine wpA_region (fun K hK => ?_)
                      | (refine gateD ?_; first | (refine wpA_drawG false rfl (by kernel_rfl) (by kernel_rfl) (fun K hK => ?_)) | (refine wpA_drawG true rfl (by kernel_rfl) (by kernel_rfl) (fun K hK => ?_)))
                  refine weak_frz 5 obf ⟨_, evl, _, evl, ?_⟩
                  refine wkn ?_ ?_ ?_
                  all_goals first | exact wk0 | refine wkS ?_ | skip
                  all_goals (try trivial)
                  all_goals ((repeat' apply And.intro) <;> first | exact wkL | skip)
              · cases Option.some.inj ho
                refine stepB_box (d := 24) (ent := (true, .box 5 0)) (c := Change.av ⟨0, 0, 0, 0, 0⟩) rfl ⟨_, rfl⟩ rfl evl (fun nb' K hk => ?_) ?_
                · refine stG ?_
                  exact runS_nil hk
                · refine runT_chain (rem := [4, 6, 7]) (by decide +kernel) ?_
                  rw [pickOps_eq]
                  dsimp only [List.cons_append, List.nil_append]

                  repeat
                    first
                      | (refine runS_nil (hK _ ?_); clear hK K)
                      | refine stG ?_
                      | (refine gateA 1 rfl ?_; refine runA_put ?_)
                      | (refine gateBc ?_; first | (refine runB_nil (hK _ ?_); clear hK K) | (refine runB_op rfl ⟨_, evl, fun nb' => ?_⟩))
                      | refine wpA_region (fun K hK => ?_)
                      | (refine gateD ?_; first | (refine wpA_drawG false rfl (by kernel_rfl) (by kernel_rfl) (fun K hK => ?_)) | (refine wpA_drawG true rfl (by kernel_rfl) (by kernel_rfl) (fun K hK => ?_)))
                  refine weak_frz 5 obf ⟨_, evl, _, evl, ?_⟩
                  refine wkn ?_ ?_ ?_
                  all_goals first | exact wk0 | refine wkS ?_ | skip
                  all_goals (try trivial)
                  all_goals ((repeat' apply And.intro) <;> first | exact wkL | skip)
            try refine wkG trivial ?_
            try (refine Stop.mk ?_; intro K hK)
            refine ⟨j + 1, by omega, by omega, ?_⟩
            rw [hs]
            refine wkn ?_ ?_ ?_
            all_goals first | exact wk0 | refine wkS ?_ | skip
            all_goals (try trivial)
            all_goals ((repeat' apply And.intro) <;> first | exact wkL | skip)
          · obtain rfl : j = B.length := by omega
            rw [List.take_length, hfk]
            clear hfk
            try refine wkG trivial ?_
            try (refine Stop.mk ?_; intro K hK)
            refine wpA_cond' ⟨_, evl, fun hb => absurd (of_decide_eq_true hb) (by omega), fun _ => ?_⟩
            try refine wkG trivial ?_
            try (refine Stop.mk ?_; intro K hK)
            refine ⟨k + 1, by omega, by omega, ?_⟩
            refine wkn ?_ ?_ ?_
            all_goals first | exact wk0 | refine wkS ?_ | skip
            all_goals (try trivial)
            all_goals ((repeat' apply And.intro) <;> first | exact wkL | skip)
      · simp only [decide_eq_false_iff_not] at hb
        try refine wkG trivial ?_
        try (refine Stop.mk ?_; intro K hK)
        refine ret_of (by simp) ⟨_, _, _, evl, ob0, OutOk.eq ?_ ?_⟩
        · simp; omega
        · simp [AV.free]
  · rw [decide_eq_false hc] at hu
    clear hc
    refine fnA_of tblOk Tryz.func5 rfl (by kernel_rfl) 168 Tryz.ntmps5 (by simp only [List.length_cons, List.length_nil]; omega) [.tmp 10] rfl ?_
    simp only [entrySt, argSl, Nat.zero_add, Nat.reduceAdd]
    try refine wkG (And.intro hh hu) ?_
    try (refine Stop.mk ?_; intro K hK)
    refine wpA_cond' ⟨_, evl, fun _ => ?_, fun hb => absurd hb (by decide)⟩
    try refine wkG trivial ?_
    try (refine Stop.mk ?_; intro K hK)
    refine ret_of (by simp) ⟨_, _, _, evl, ob0, OutOk.eq ?_ ?_⟩
    · rfl
    · simp [AV.free]
theorem siteLonger_B {x0 x1 x2 x3 x4 : List AV} (k0 : CellsOk tbl 30 27 x0) (k1 : CellsOk tbl 30 5 x1) (k2 : CellsOk tbl 30 29 x2) (k3 : CellsOk tbl 30 64 x3) (k4 : CellsOk tbl 30 64 x4) :
    FnA Tryz.prog 5 [valA true x0, valA false x1, valA true x2, valA false x3, valA false x4] (.raw (.bool true)) := by
  obtain ⟨n, h0, hf⟩ := open_Net k0
  obtain ⟨a, rfl, ha⟩ := open_u8 k1
  obtain ⟨i, rfl, _⟩ := open_Iv k2
  obtain ⟨b, rfl, hb⟩ := open_u16 k3
  obtain ⟨c, rfl, hc⟩ := open_u16 k4
  exact FnA.sim (siteLonger_A n hf a ha i b c hb hc) ⟨h0, Sim.of_eq rfl, Sim.of_eq rfl, Sim.of_eq rfl, Sim.of_eq rfl, trivial⟩
end Go.Proofs.YtcdgncmkkknmlaaGreatDoor
