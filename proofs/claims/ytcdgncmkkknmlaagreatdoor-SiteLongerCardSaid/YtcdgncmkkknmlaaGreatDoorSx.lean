/- Networks: plain facts, what Rate, Site and Keys say, and the plain laws of chapter 28; a row in an own variable. -/
import Derived.Test.YtcdgncmkkknmlaaGreatDoorSm
import Derived.Test.YtcdgncmkkknmlaaGreatDoorSn
import Derived.Test.YtcdgncmkkknmlaaGreatDoorSgn
namespace Go.Proofs.YtcdgncmkkknmlaaGreatDoor
set_option linter.unusedVariables false
set_option linter.unusedSimpArgs false
set_option maxHeartbeats 4000000
set_option maxRecDepth 100000
open Go.RowKit
theorem relL_set {G : Gh} {w : World} : ∀ {cs : List AV} {vs : List Value} {j : Nat} {x : AV}, AV.relL G w cs vs → (∀ v, vs[j]? = some v → x.rel G w v) → AV.relL G w (cs.set j x) vs
  | [], vs, j, x, h, _ => by simpa using h
  | c :: cs, vs, 0, x, h, hx => by
    obtain ⟨v, r, rfl, h1, h2⟩ := h
    exact ⟨v, r, rfl, hx v rfl, h2⟩
  | c :: cs, vs, j + 1, x, h, hx => by
    obtain ⟨v, r, rfl, h1, h2⟩ := h
    exact ⟨v, r, rfl, h1, relL_set h2 fun u hu => hx u (by simpa using hu)⟩
/-- A slice in an own variable that is nil is a row in which nothing lies. -/
theorem Weak.nilRowB {nt nb : Nat} {sl : List (Nat × (Bool × AV))} {bx : List (List AV)} {rw : List ARow} {ys : (Nat × List (List AV)) × List (List AV) × Bool} (b j : Nat) (e : TypeId) (sz : Nat) {cs : List AV} (hb : bx[b]? = some cs) (hj : cs[j]? = some (.raw (.slice none 0 0))) (hz : 0 < sz := by decide) :
    Weak ⟨nt, nb, sl, bx, rw, ys⟩ ⟨nt, nb, sl, bx.set b (cs.set j (.row rw.length 0)), rw ++ [⟨e, sz, 0, fun _ => []⟩], ys⟩ := by
  intro P C G a w hs
  have hR : RowOk G w ⟨e, sz, 0, fun _ => []⟩ (0, .slice none 0 0) := ⟨rfl, ⟨[], ⟨by simp, .inl ⟨rfl, rfl, hz⟩⟩, fun i hi => by simp at hi⟩, fun g hg => by simp [ownBlk] at hg⟩
  obtain ⟨m2, le⟩ := msat_addRow hs.mem hR (fun g hg => by simp [ownBlk] at hg)
  have hs' := hs.called (Outside.refl _ _) le (fun _ _ i => .inl i) (fun _ h => .inl h) (fun x hx g hg => by
    rw [List.mem_append, List.mem_singleton] at hx
    rcases hx with hx | rfl
    · exact .inl ⟨x, hx, hg⟩
    · simp [ownBlk] at hg) m2
  refine ⟨⟨G.imm, G.bx, G.rw ++ [(0, .slice none 0 0)]⟩, ⟨hs'.size, hs'.callers, hs'.frame, hs'.le, hs'.fresh, hs'.ownB, hs'.ownR, hs'.env, ?_, fun t c x hl => hs'.slot t c x hl⟩⟩
  have m := hs'.mem
  refine ⟨m.immOk, by rw [List.length_set]; exact m.lenB, m.lenR, m.nodup, fun k cs' blk hk hG => ?_, m.row, m.sepB, m.sepR⟩
  by_cases hkb : k = b
  · subst hkb
    have hlt : k < bx.length := (List.getElem?_eq_some_iff.1 hb).1
    rw [List.getElem?_set_self hlt, Option.some.injEq] at hk
    subst hk
    obtain ⟨h1, vs, T, h2, h3⟩ := m.box k cs blk hb hG
    refine ⟨h1, vs, T, h2, relL_set h3 fun v hv => ?_⟩
    obtain ⟨u, hu, hr⟩ := AV.relL_get h3 hj
    obtain rfl := Option.some.inj (hv.symm.trans hu)
    have hv0 : v = .slice none 0 0 := hr
    refine ⟨(0, .slice none 0 0), ?_, Nat.le_refl _, fun _ => hv0⟩
    have hl : rw.length = G.rw.length := hs.mem.lenR.symm
    show (G.rw ++ [(0, Value.slice none 0 0)])[rw.length]? = _
    rw [hl, List.getElem?_append_right (Nat.le_refl _), Nat.sub_self]; rfl
  · rw [List.getElem?_set_ne (fun h => hkb h.symm)] at hk
    exact m.box k cs' blk hk hG
/-! Lists that rise. -/
theorem pw_iff {α : Type} [Inhabited α] {R : α → α → Prop} (tr : ∀ a b c, R a b → R b c → R a c) (l : List α) : (∀ k, k < l.length → 0 < k → R (l.getD (k - 1) default) (l.getD k default)) ↔ l.Pairwise R := by
  rw [List.pairwise_iff_getElem]
  constructor
  · intro h
    have key : ∀ (j i : Nat), i < j → j < l.length → R (l.getD i default) (l.getD j default) := by
      intro j
      induction j with
      | zero => intro i hi; omega
      | succ j ih =>
        intro i hi hj
        have h1 := h (j + 1) hj (by omega)
        rw [Nat.add_sub_cancel] at h1
        rcases Nat.lt_succ_iff_lt_or_eq.1 hi with h2 | rfl
        · exact tr _ _ _ (ih i h2 (by omega)) h1
        · exact h1
    intro i j hi hj hij
    have := key j i hij hj
    rwa [getD_get hi, getD_get hj] at this
  · intro h k hk h0
    rw [getD_get (show k - 1 < l.length by omega), getD_get hk]
    exact h (k - 1) k (by omega) hk (by omega)
theorem getD_mem {α : Type} [Inhabited α] {l : List α} {k : Nat} (h : k < l.length) : l.getD k default ∈ l := by rw [getD_get h]; exact List.getElem_mem h
theorem mem_getD {α : Type} [Inhabited α] {l : List α} {x : α} (h : x ∈ l) : ∃ k, k < l.length ∧ l.getD k default = x := by
  obtain ⟨k, hk, e⟩ := List.mem_iff_getElem.1 h
  exact ⟨k, hk, by rw [getD_get hk]; exact e⟩
theorem rises_iff {α : Type} [Inhabited α] {f : α → Int} {l : List α} {most : Int} : risesP f l most ↔ l ≠ [] ∧ l.Pairwise (fun a b => f a < f b) ∧ ∀ x ∈ l, 1 ≤ f x ∧ f x ≤ most := by
  rw [← pw_iff (R := fun a b => f a < f b) (fun a b c h1 h2 => Int.lt_trans h1 h2)]
  constructor
  · rintro ⟨h0, h⟩
    refine ⟨List.length_pos_iff.1 h0, fun k hk h1 => ?_, fun x hx => ?_⟩
    · have := (h k hk).1
      rwa [lastId_pos h1] at this
    · obtain ⟨k, hk, rfl⟩ := mem_getD hx
      have := rise_ge h k hk
      exact ⟨by omega, (h k hk).2⟩
  · rintro ⟨h0, h1, h2⟩
    refine ⟨List.length_pos_iff.2 h0, fun k hk => ⟨?_, (h2 _ (getD_mem hk)).2⟩⟩
    rcases Nat.eq_zero_or_pos k with rfl | h
    · have := (h2 _ (getD_mem hk)).1
      simp only [lastId]; omega
    · rw [lastId_pos h]; exact h1 k hk h
theorem lexLt_tr (a b c : Wire) (h1 : lexLt a b) (h2 : lexLt b c) : lexLt a c := by unfold lexLt at *; omega
theorem wired_iff {n : Net} : wiredN n ↔ (∀ w ∈ n.wires, (∃ h ∈ n.hosts, h.id = w.host) ∧ (∃ a ∈ n.auths, a.id = w.auth) ∧ Lk.ValidP w.changes) ∧ n.wires.Pairwise lexLt := by
  rw [← pw_iff lexLt_tr]
  unfold wiredN wireOk
  simp only [mem_knOut]
  constructor
  · intro h
    refine ⟨fun w hw => ?_, fun k hk h0 => (h k hk).2.2 h0⟩
    obtain ⟨k, hk, rfl⟩ := mem_getD hw
    obtain ⟨⟨⟨p, h1, h2⟩, q, h3, h4⟩, h5, _⟩ := h k hk
    exact ⟨⟨_, getD_mem h1, h2⟩, ⟨_, getD_mem h3, h4⟩, h5⟩
  · rintro ⟨h1, h2⟩ k hk
    obtain ⟨⟨x, hx, e1⟩, ⟨y, hy, e2⟩, h5⟩ := h1 _ (getD_mem hk)
    obtain ⟨p, hp, rfl⟩ := mem_getD hx
    obtain ⟨q, hq, rfl⟩ := mem_getD hy
    exact ⟨⟨⟨p, hp, e1⟩, q, hq, e2⟩, h5, fun h0 => h2 k hk h0⟩
theorem pw_inj {α : Type} {f : α → Int} {l : List α} (h : l.Pairwise (fun a b => f a < f b)) {x y : α} (hx : x ∈ l) (hy : y ∈ l) (e : f x = f y) : x = y := by
  obtain ⟨i, hi, rfl⟩ := List.mem_iff_getElem.1 hx
  obtain ⟨j, hj, rfl⟩ := List.mem_iff_getElem.1 hy
  rw [List.pairwise_iff_getElem] at h
  rcases Nat.lt_trichotomy i j with hij | rfl | hij
  · have := h i j hi hj hij; omega
  · rfl
  · have := h j i hj hi hij; omega
theorem idxM_of {α : Type} [Inhabited α] {p : α → Bool} {l : List α} {x : α} (hx : x ∈ l) (hp : p x = true) (hu : ∀ y ∈ l, p y = true → y = x) : 0 ≤ idxM p l ∧ idxM p l < l.length ∧ l.getD (idxM p l).toNat default = x := by
  unfold idxM
  cases h : l.findIdx? p with
  | none =>
    rw [List.findIdx?_eq_none_iff] at h
    rw [h x hx] at hp
    cases hp
  | some i =>
    obtain ⟨hi, h1, _⟩ := List.findIdx?_eq_some_iff_getElem.1 h
    have := hu _ (List.getElem_mem hi) h1
    simp only [Int.toNat_natCast]
    exact ⟨by omega, by omega, by rw [getD_get hi]; exact this⟩
theorem idxM_no {α : Type} {p : α → Bool} {l : List α} (h : ∀ y ∈ l, p y = false) : idxM p l = -1 := by
  unfold idxM
  cases e : l.findIdx? p with
  | none => rfl
  | some i =>
    obtain ⟨hi, h1, _⟩ := List.findIdx?_eq_some_iff_getElem.1 e
    rw [h _ (List.getElem_mem hi)] at h1
    cases h1
theorem idxM_neg {α : Type} {p : α → Bool} {l : List α} : idxM p l < 0 ↔ ∀ y ∈ l, p y = false := by
  constructor
  · intro h y hy
    unfold idxM at h
    cases e : l.findIdx? p with
    | none => rw [List.findIdx?_eq_none_iff] at e; exact e y hy
    | some i => rw [e] at h; simp only at h; omega
  · intro h; rw [idxM_no h]; decide
theorem pow_gcd {P : Nat} (hP : 1 < P) : ∀ (a b : Nat), 4 ^ a % P = 1 → 4 ^ b % P = 1 → 4 ^ (Nat.gcd a b) % P = 1 := by
  intro a b
  induction a, b using Nat.gcd.induction with
  | H0 n => intro _ h; rwa [Nat.gcd_zero_left]
  | H1 m n hm ih =>
    intro h1 h2
    rw [Nat.gcd_rec]
    refine ih ?_ h1
    rw [← pow_red hP h1 n]
    exact h2
theorem pow_ne {P q k : Nat} (hP : 4 < P) (hq : 4 ^ q % P = 1) (hc : Nat.gcd k q = 1) : 4 ^ k % P ≠ 1 := by
  intro h
  have h1 := pow_gcd (by omega) k q h hq
  rw [hc, Nat.pow_one, Nat.mod_eq_of_lt hP] at h1
  cases h1
/-- Nothing from d + 2 on, 2 ^ b numbers, divides the order. -/
def noDiv : Nat → Nat → Bool
  | 0, d => !(Nat.beq (1073741789 % (d + 2)) 0)
  | b + 1, d => noDiv b d && noDiv b (d + 2 ^ b)
theorem noDiv_spec : ∀ (b d : Nat), noDiv b d = true → ∀ j, j < 2 ^ b → 1073741789 % (d + j + 2) ≠ 0
  | 0, d, h, j, hj => by
    obtain rfl : j = 0 := by simpa using hj
    intro h0
    simp only [Nat.add_zero] at h0
    rw [noDiv, h0] at h
    cases h
  | b + 1, d, h, j, hj => by
    rw [noDiv, Bool.and_eq_true] at h
    rcases Nat.lt_or_ge j (2 ^ b) with h1 | h1
    · exact noDiv_spec b d h.1 j h1
    · have h2 := noDiv_spec b (d + 2 ^ b) h.2 (j - 2 ^ b) (by rw [Nat.pow_succ] at hj; omega)
      have e : d + 2 ^ b + (j - 2 ^ b) + 2 = d + j + 2 := by omega
      rwa [e] at h2
theorem noDiv_ok : noDiv 15 0 = true := by decide +kernel
theorem small_div {d : Nat} (h2 : 2 ≤ d) (h : d < 32768) : 1073741789 % d ≠ 0 := by
  have := noDiv_spec 15 0 noDiv_ok (d - 2) (by omega)
  rwa [show 0 + (d - 2) + 2 = d by omega] at this
theorem cop {k : Nat} (h1 : 1 ≤ k) (h2 : k < 1073741789) : Nat.gcd k 1073741789 = 1 := by
  obtain ⟨e, he⟩ := Nat.gcd_dvd_right k 1073741789
  have hg := Nat.le_of_dvd h1 (Nat.gcd_dvd_left k 1073741789)
  generalize Nat.gcd k 1073741789 = g at *
  rcases Nat.lt_or_ge g 2 with h3 | h3
  · rcases Nat.eq_zero_or_pos g with rfl | h4
    · rw [Nat.zero_mul] at he; cases he
    · omega
  · exfalso
    have he2 : 2 ≤ e := by
      rcases Nat.lt_or_ge e 2 with h4 | h4
      · have : e = 0 ∨ e = 1 := by omega
        rcases this with rfl | rfl
        · rw [Nat.mul_zero] at he; cases he
        · rw [Nat.mul_one] at he; omega
      · exact h4
    rcases Nat.lt_or_ge g 32768 with h4 | h4
    · exact small_div h3 h4 (by rw [he, Nat.mul_mod_right])
    · rcases Nat.lt_or_ge e 32768 with h5 | h5
      · exact small_div he2 h5 (by rw [he, Nat.mul_mod_left])
      · have := Nat.mul_le_mul h4 h5
        omega
/-- The public key of a key is not 1. -/
theorem pub_ne {k : Nat} (h1 : 1 ≤ k) (h2 : k < 1073741789) : powM 4 k ≠ 1 := by
  have h3 := cop h1 h2
  rw [powM_eq 4 k (by omega)]
  exact pow_ne (by decide) gen_one h3
structure Peer where
  auth : Int
  err : Int
  cost : Int
  link : Change
  deriving Inhabited, DecidableEq
@[go_sem] def Peer.av (x : Peer) : List AV := [.raw (.int .i64 x.auth), .raw (.int .i64 x.err), .raw (.int .i64 x.cost), .raw (.int .i64 x.link.at_), .raw (.int .i64 x.link.outLo), .raw (.int .i64 x.link.outHi), .raw (.int .i64 x.link.backLo), .raw (.int .i64 x.link.backHi)]
def Peer.fits (x : Peer) : Prop := (inK .i64 x.auth) ∧ (inK .i64 x.err) ∧ (inK .i64 x.cost) ∧ (x.link.fits)
@[simp] theorem Peer.free (x : Peer) : AV.freeL x.av := ⟨trivial, trivial, trivial, trivial, trivial, trivial, trivial, trivial, trivial⟩
structure Site where
  rate : Int
  f : Int
  lost : Int
  timeout : Int
  peers : List Peer
  deriving Inhabited, DecidableEq
@[go_sem] def Site.av (x : Site) : List AV := [.raw (.int .i64 x.rate), .raw (.int .i64 x.f), .raw (.int .i64 x.lost), .raw (.int .i64 x.timeout), lA 8 Peer.av x.peers]
def Site.fits (x : Site) : Prop := (inK .i64 x.rate) ∧ (inK .i64 x.f) ∧ (inK .i64 x.lost) ∧ (inK .i64 x.timeout) ∧ (x.peers.length ≤ maxLen ∧ ∀ y ∈ x.peers, y.fits)
@[simp] theorem Site.free (x : Site) : AV.freeL x.av := ⟨trivial, trivial, trivial, trivial, lA_free (fun y => Peer.free y) _, trivial⟩
def rateN (n : Net) (id : Int) : Int × Int := if idxM (isH id) n.hosts < 0 then (0, 4) else boundN n (n.hosts.getD (idxM (isH id) n.hosts).toNat default)
def rateM (n : Net) (id : Int) : Int × Int := if netP n then rateN n id else (0, 1)
/-- The delays of a wire in an interval, and the most that a counter counts meanwhile. -/
def linkW (w : Wire) (i : Iv) : Change := (Lk.linkBoundsM w.changes i).1
def mostW (rate : Int) (w : Wire) (i : Iv) : Rg × Int := countsM rate ((linkW w i).outHi + (linkW w i).backHi)
def peerM (n : Net) (w : Wire) (rate : Int) (i : Iv) : Peer × Bool :=
  (⟨(findU n.auths w.auth).1.id, (findU n.auths w.auth).1.err, (findU n.auths w.auth).1.cost, linkW w i⟩,
    (findU n.auths w.auth).2 && decide ((Lk.linkBoundsM w.changes i).2 = 0) && decide ((mostW rate w i).2 = 0) && decide ((mostW rate w i).1.hi ≤ n.timeout))
def isPeer (n : Net) (id rate : Int) (i : Iv) (w : Wire) : Bool := (peerM n w rate i).2 && decide (w.host = id)
def peersM (n : Net) (id rate : Int) (i : Iv) (ws : List Wire) : List Peer := (ws.filter (isPeer n id rate i)).map fun w => (peerM n w rate i).1
theorem peersM_succ (n : Net) (id rate : Int) (i : Iv) (ws : List Wire) {k : Nat} (hk : k < ws.length) : peersM n id rate i (ws.take (k + 1)) = peersM n id rate i (ws.take k) ++ if isPeer n id rate i (ws.getD k default) then [(peerM n (ws.getD k default) rate i).1] else [] := by
  unfold peersM
  rw [List.take_succ_eq_append_getElem hk, List.filter_append, List.map_append, getD_get hk]
  cases h : isPeer n id rate i ws[k] <;> simp [h]
def noSite : Site := ⟨0, 0, 0, 0, []⟩
def siteM (n : Net) (id : Int) (i : Iv) : Site × Int :=
  if netP n ∧ Lk.validI i = true then
    if (rateM n id).2 = 0 then (⟨(rateM n id).1, n.f, n.lost, n.timeout, peersM n id (rateM n id).1 i n.wires⟩, 0) else (noSite, (rateM n id).2)
  else (noSite, 1)
def keyA (a : Auth) : KeyWin := ⟨a.id, 1, powM 4 a.key.toNat, 0, 3000000000000000, ⟨0, 0⟩⟩
def keysM (n : Net) : List KeyWin × Int := if netP n then (n.auths.map keyA, 0) else ([], 1)
/-! What holds of networks. -/
theorem auth_unique {n : Net} (h : netP n) {a b : Auth} (ha : a ∈ n.auths) (hb : b ∈ n.auths) (e : a.id = b.id) : a = b := pw_inj (f := fun a : Auth => a.id) (rises_iff.1 h.2.2.1.1).2.1 ha hb e
theorem host_unique {n : Net} (h : netP n) {a b : Host} (ha : a ∈ n.hosts) (hb : b ∈ n.hosts) (e : a.id = b.id) : a = b := pw_inj (f := fun a : Host => a.id) (rises_iff.1 h.2.1.1).2.1 ha hb e
theorem find_auth {n : Net} (h : netP n) {a : Auth} (ha : a ∈ n.auths) : 0 ≤ idxM (isU a.id) n.auths ∧ idxM (isU a.id) n.auths < n.auths.length ∧ n.auths.getD (idxM (isU a.id) n.auths).toNat default = a :=
  idxM_of ha (by simp [isU]) fun y hy hp => auth_unique h hy ha (by simpa [isU] using hp)
theorem find_host {n : Net} (h : netP n) {a : Host} (ha : a ∈ n.hosts) : 0 ≤ idxM (isH a.id) n.hosts ∧ idxM (isH a.id) n.hosts < n.hosts.length ∧ n.hosts.getD (idxM (isH a.id) n.hosts).toNat default = a :=
  idxM_of ha (by simp [isH]) fun y hy hp => host_unique h hy ha (by simpa [isH] using hp)
theorem rate_host {n : Net} (h : netP n) {a : Host} (ha : a ∈ n.hosts) : rateM n a.id = boundN n a := by
  obtain ⟨h1, h2, h3⟩ := find_host h ha
  rw [rateM, if_pos h, rateN, if_neg (by omega), h3]
theorem rate_none {n : Net} (h : netP n) {id : Int} (hn : ∀ a ∈ n.hosts, a.id ≠ id) : rateM n id = (0, 4) := by
  rw [rateM, if_pos h, rateN, if_pos (idxM_neg.2 fun y hy => by simpa [isH] using hn y hy)]
theorem fold_max {f : Nat → Int} {lo hi : Int} : ∀ (r : List Nat) (b : Int), lo ≤ b → b ≤ hi → (∀ q ∈ r, f q ≤ hi) → lo ≤ r.foldl (fun m q => max m (f q)) b ∧ r.foldl (fun m q => max m (f q)) b ≤ hi
  | [], b, h1, h2, _ => ⟨h1, h2⟩
  | x :: r, b, h1, h2, h3 => by
    have := h3 x (by simp)
    exact fold_max r (max b (f x)) (by omega) (by omega) fun q hq => h3 q (by simp [hq])
theorem fold_maxG {g : Int → Nat → Int} {lo hi : Int} (hg : ∀ b q, lo ≤ b → b ≤ hi → lo ≤ g b q ∧ g b q ≤ hi) : ∀ (r : List Nat) (b : Int), lo ≤ b → b ≤ hi → lo ≤ r.foldl g b ∧ r.foldl g b ≤ hi
  | [], b, h1, h2 => ⟨h1, h2⟩
  | x :: r, b, h1, h2 => by
    have := hg b x h1 h2
    exact fold_maxG hg r (g b x) this.1 this.2
theorem cell_le {t : Table} (h : tabP t) (a q : Nat) : (t.rates.getD a default).getD q 0 ≤ 1000000 ∧ 0 ≤ (t.rates.getD a default).getD q 0 := by
  by_cases ha : a < t.rates.length
  · have hr := h.2.2.2 _ (getD_mem ha)
    by_cases hq : q < (t.rates.getD a default).length
    · have := hr.2 _ (getD_mem hq)
      exact ⟨this.2, this.1⟩
    · have e : (t.rates.getD a default).getD q 0 = 0 := by rw [List.getD_eq_getElem?_getD, List.getElem?_eq_none (by omega)]; rfl
      rw [e]; decide
  · have e : t.rates.getD a default = [] := by rw [List.getD_eq_getElem?_getD, List.getElem?_eq_none (by omega)]; rfl
    rw [e]
    simp
theorem outW_range {t : Table} (h : tabP t) (i k C R : Nat) : 0 ≤ outW t i k C R ∧ outW t i k C R ≤ 1000000 :=
  fold_maxG (g := fun m a => inW t (i + a) k C m) (fun b q h1 h2 => fold_max (f := fun q' => (t.rates.getD (i + q) default).getD (k + q') 0) _ b h1 h2 fun q' _ => (cell_le h _ _).1) _ 0 (by decide) (by decide)
theorem worst_range (t : Table) (temp age : Rg) : 0 ≤ (worstM t temp age).1 ∧ (worstM t temp age).1 ≤ 1000000 := by
  unfold worstM
  split
  · rename_i h
    split
    · decide
    · exact outW_range h.1 _ _ _ _
  · decide
theorem bound_range (n : Net) (a : Host) : 0 ≤ (boundN n a).1 ∧ (boundN n a).1 ≤ 1000000 := by
  unfold boundN
  split
  · exact worst_range _ _ _
  · decide
theorem rate_range (n : Net) (id : Int) : 0 ≤ (rateM n id).1 ∧ (rateM n id).1 ≤ 1000000 := by
  unfold rateM rateN
  split
  · split
    · decide
    · exact bound_range _ _
  · decide
theorem link_sum (w : Wire) (i : Iv) : 0 ≤ (linkW w i).outHi + (linkW w i).backHi ∧ (linkW w i).outHi + (linkW w i).backHi ≤ 2000000 := by
  unfold linkW
  by_cases h : Lk.validM w.changes = true ∧ Lk.validI i = true
  · have := (Lk.formed_iff _).1 (Lk.bounds_formed h.1 h.2)
    omega
  · rw [Lk.linkBoundsM, if_neg h]; decide
theorem wire_auth {n : Net} (h : netP n) {w : Wire} (hw : w ∈ n.wires) : ∃ a ∈ n.auths, a.id = w.auth := ((wired_iff.1 h.2.2.2.1).1 w hw).2.1
theorem wire_valid {n : Net} (h : netP n) {w : Wire} (hw : w ∈ n.wires) : Lk.validM w.changes = true := by
  rw [Lk.validM, decide_eq_true_eq]; exact ((wired_iff.1 h.2.2.2.1).1 w hw).2.2
theorem most_ok {rate : Int} (hr : 0 ≤ rate ∧ rate ≤ 1000000) (w : Wire) (i : Iv) : (mostW rate w i).2 = 0 := by
  have := link_sum w i
  rw [mostW, countsM, if_pos ⟨hr, by omega, by omega⟩]
theorem bounds_ok {l : List Change} {i : Iv} (hl : Lk.validM l = true) (hi : Lk.validI i = true) : (Lk.linkBoundsM l i).2 = 0 := by rw [Lk.linkBoundsM, if_pos ⟨hl, hi⟩]
theorem peer_ok {n : Net} (h : netP n) {w : Wire} (hw : w ∈ n.wires) {rate : Int} (hr : 0 ≤ rate ∧ rate ≤ 1000000) {i : Iv} (hi : Lk.validI i = true) {a : Auth} (ha : a ∈ n.auths) (e : a.id = w.auth) :
    peerM n w rate i = (⟨a.id, a.err, a.cost, linkW w i⟩, decide ((mostW rate w i).1.hi ≤ n.timeout)) := by
  obtain ⟨h1, h2, h3⟩ := find_auth h ha
  rw [e] at h1 h2 h3
  rw [peerM, findU, if_neg (by omega), h3, bounds_ok (wire_valid h hw) hi, most_ok hr]
  simp
theorem keyA_formed {a : Auth} (h : authF a) (hid : 1 ≤ a.id ∧ a.id ≤ 16) : formedP (keyA a) := by
  obtain ⟨_, _, h3, h4⟩ := h
  have hk : 1 ≤ a.key.toNat ∧ a.key.toNat < 1073741789 := by omega
  have h5 := pub_ne hk.1 hk.2
  have h6 := member_pow (k := a.key.toNat) (by omega)
  unfold keyA
  generalize powM 4 a.key.toNat = p at *
  refine ⟨hid.1, hid.2, show (1 : Int) ≤ 1 by decide, show (1 : Int) ≤ 1000 by decide, show (0 : Int) ≤ 0 by decide, show (0 : Int) < 3000000000000000 by decide, show (3000000000000000 : Int) ≤ 3000000000000000 by decide, ?_, h6, show withinM 0 0 = true by decide, show withinM 0 0 = true by decide⟩
  show (p : Int) ≠ 1
  omega
theorem keys_valid {n : Net} (h : netP n) : ValidP (n.auths.map keyA) := by
  obtain ⟨h1, h2, h3⟩ := rises_iff.1 h.2.2.1.1
  have hl := rises_len h.2.2.1.1
  refine ⟨by rw [List.length_map]; omega, fun k hk => ?_, fun i hi => ?_⟩
  · obtain ⟨a, ha, rfl⟩ := List.mem_map.1 hk
    exact keyA_formed (h.2.2.1.2 a ha) (h3 a ha)
  · have hi' : i < n.auths.length := by rwa [List.length_map] at hi
    have e : ∀ j, j < n.auths.length → (n.auths.map keyA).getD j default = keyA (n.auths.getD j default) := fun j hj => by
      rw [getD_get (by rw [List.length_map]; exact hj), getD_get hj, List.getElem_map]
    unfold rightP
    rw [if_pos]
    · rw [e i hi']; exact ⟨rfl, rfl, rfl⟩
    · rcases Nat.eq_zero_or_pos i with rfl | h0
      · exact .inl rfl
      · right
        rw [e i hi', e (i - 1) (by omega)]
        exact (pw_iff (R := fun a b : Auth => a.id < b.id) (fun a b c h1 h2 => Int.lt_trans h1 h2) n.auths).2 h2 i hi' h0
/-! SiteRate. -/
theorem inW_ge (t : Table) (a k : Nat) (acc : Int) : ∀ c, acc ≤ inW t a k c acc ∧ ∀ q, q < c → (t.rates.getD a default).getD (k + q) 0 ≤ inW t a k c acc
  | 0 => ⟨Int.le_refl _, fun q h => by omega⟩
  | c + 1 => by
    obtain ⟨h1, h2⟩ := inW_ge t a k acc c
    rw [inW_succ]
    refine ⟨by omega, fun q hq => ?_⟩
    rcases Nat.lt_succ_iff_lt_or_eq.1 hq with h | rfl
    · have := h2 q h; omega
    · omega
theorem outW_ge (t : Table) (i k C : Nat) : ∀ R, 0 ≤ outW t i k C R ∧ ∀ r, r < R → ∀ q, q < C → (t.rates.getD (i + r) default).getD (k + q) 0 ≤ outW t i k C R
  | 0 => ⟨by simp [outW], fun r h => by omega⟩
  | R + 1 => by
    obtain ⟨h1, h2⟩ := outW_ge t i k C R
    rw [outW_succ]
    obtain ⟨h3, h4⟩ := inW_ge t (i + R) k (outW t i k C R) C
    refine ⟨by omega, fun r hr q hq => ?_⟩
    rcases Nat.lt_succ_iff_lt_or_eq.1 hr with h | rfl
    · have := h2 r h q hq; omega
    · exact h4 q hq
theorem worst_point {t : Table} {temp age : Rg} (h : (worstM t temp age).2 = 0) {T A : Int} (hT : temp.lo ≤ T ∧ T ≤ temp.hi) (hA : age.lo ≤ A ∧ A ≤ age.hi) : (worstM t ⟨T, T⟩ ⟨A, A⟩).2 = 0 ∧ (worstM t ⟨T, T⟩ ⟨A, A⟩).1 ≤ (worstM t temp age).1 := by
  unfold worstM at h ⊢
  split at h
  · rename_i hc
    split at h
    · cases h
    · rename_i hb
      rw [if_pos ⟨hc.1, Int.le_refl _, Int.le_refl _⟩, if_pos hc]
      have b1 := band_mono hc.1.1 hT.1
      have b2 := band_mono hc.1.1 hT.2
      have b3 := band_mono hc.1.2.1 hA.1
      have b4 := band_mono hc.1.2.1 hA.2
      simp only
      rw [if_neg (by omega), if_neg hb]
      refine ⟨rfl, ?_⟩
      simp only
      rw [Int.sub_self, Int.sub_self]
      have e1 : ((0 : Int) + 1).toNat = 1 := rfl
      rw [e1]
      obtain ⟨g1, g2⟩ := outW_ge t (bandM t.temps temp.lo).toNat (bandM t.ages age.lo).toNat (bandM t.ages age.hi - bandM t.ages age.lo + 1).toNat (bandM t.temps temp.hi - bandM t.temps temp.lo + 1).toNat
      have g3 := g2 (bandM t.temps T - bandM t.temps temp.lo).toNat (by omega) (bandM t.ages A - bandM t.ages age.lo).toNat (by omega)
      rw [show (bandM t.temps temp.lo).toNat + (bandM t.temps T - bandM t.temps temp.lo).toNat = (bandM t.temps T).toNat by omega, show (bandM t.ages age.lo).toNat + (bandM t.ages A - bandM t.ages age.lo).toNat = (bandM t.ages A).toNat by omega] at g3
      have e2 : outW t (bandM t.temps T).toNat (bandM t.ages A).toNat 1 1 = max 0 ((t.rates.getD (bandM t.temps T).toNat default).getD (bandM t.ages A).toNat 0) := by
        rw [outW_succ, inW_succ]
        simp [inW, outW]
      rw [e2]
      omega
  · cases h
/-! SitePeers. -/
theorem fm_congr {α β : Type} {f g : α → Option β} : ∀ {l : List α}, (∀ a ∈ l, f a = g a) → l.filterMap f = l.filterMap g
  | [], _ => rfl
  | a :: l, h => by
    rw [List.filterMap_cons, List.filterMap_cons, h a (by simp), fm_congr fun b hb => h b (by simp [hb])]
theorem find_all {ws : List Wire} (hw : ws.Pairwise fun a b => a.auth < b.auth) : ∀ (al : List Auth), al.Pairwise (fun a b => a.id < b.id) → (∀ w ∈ ws, ∃ a ∈ al, a.id = w.auth) → al.filterMap (fun a => ws.find? fun w => decide (w.auth = a.id)) = ws := by
  intro al
  induction al generalizing ws with
  | nil =>
    intro _ h
    cases ws with
    | nil => rfl
    | cons w r => obtain ⟨a, ha, _⟩ := h w (by simp); cases ha
  | cons a al ih =>
    intro ha h
    rw [List.pairwise_cons] at ha
    cases ws with
    | nil => simp
    | cons w r =>
      have hw' := List.pairwise_cons.1 hw
      by_cases e : w.auth = a.id
      · have hr : ∀ v ∈ r, ∃ b ∈ al, b.id = v.auth := fun v hv => by
          obtain ⟨b, hb, e2⟩ := h v (by simp [hv])
          rcases List.mem_cons.1 hb with rfl | hb
          · have := hw'.1 v hv; omega
          · exact ⟨b, hb, e2⟩
        rw [List.filterMap_cons]
        simp only [List.find?_cons, e, decide_true]
        congr 1
        rw [← ih hw'.2 ha.2 hr]
        refine fm_congr fun b hb => ?_
        have := ha.1 b hb
        rw [decide_eq_false (show ¬ a.id = b.id by omega)]
        rw [ih hw'.2 ha.2 hr]
      · have hgt : ∀ v ∈ w :: r, a.id < v.auth := by
          obtain ⟨b, hb, e2⟩ := h w (by simp)
          have h1 : a.id < w.auth := by
            rcases List.mem_cons.1 hb with rfl | hb
            · exact absurd e2.symm e
            · have := ha.1 b hb; omega
          intro v hv
          rcases List.mem_cons.1 hv with rfl | hv
          · exact h1
          · have := hw'.1 v hv; omega
        have hn : (w :: r).find? (fun v => decide (v.auth = a.id)) = none := by
          rw [List.find?_eq_none]
          intro v hv
          have := hgt v hv
          simp only [decide_eq_true_eq]; omega
        rw [List.filterMap_cons, hn]
        exact ih hw ha.2 fun v hv => by
          obtain ⟨b, hb, e2⟩ := h v hv
          rcases List.mem_cons.1 hb with rfl | hb
          · have := hgt v hv; omega
          · exact ⟨b, hb, e2⟩
def wireOf (n : Net) (id aid : Int) : Option Wire := n.wires.find? fun w => decide (w.host = id) && decide (w.auth = aid)
theorem wireOf_some {n : Net} {id aid : Int} {w : Wire} (h : wireOf n id aid = some w) : w ∈ n.wires ∧ w.host = id ∧ w.auth = aid := by
  have h1 := List.find?_some h
  have h2 := List.mem_of_find?_eq_some h
  simp only [Bool.and_eq_true, decide_eq_true_eq] at h1
  exact ⟨h2, h1⟩
/-- The peer at an authority, if there is one. -/
def pf (n : Net) (id rate : Int) (i : Iv) (a : Auth) : Option Peer := (wireOf n id a.id).bind fun w => if (mostW rate w i).1.hi ≤ n.timeout then some ⟨a.id, a.err, a.cost, linkW w i⟩ else none
theorem peers_auths {n : Net} (h : netP n) {id rate : Int} (hr : 0 ≤ rate ∧ rate ≤ 1000000) {i : Iv} (hi : Lk.validI i = true) : peersM n id rate i n.wires = n.auths.filterMap (pf n id rate i) := by
  have hp := (rises_iff.1 h.2.2.1.1).2.1
  have hx := (wired_iff.1 h.2.2.2.1).2
  have hs : (n.wires.filter fun w => decide (w.host = id)).Pairwise fun a b => a.auth < b.auth := by
    rw [List.pairwise_filter]
    refine hx.imp fun {a b} hab h1 h2 => ?_
    simp only [decide_eq_true_eq] at h1 h2
    unfold lexLt at hab; omega
  have hall := find_all hs n.auths hp fun w hw => wire_auth h ((List.mem_filter.1 hw).1)
  have e1 : peersM n id rate i n.wires = (n.wires.filter fun w => decide (w.host = id)).filterMap fun w => if (peerM n w rate i).2 then some (peerM n w rate i).1 else none := by
    unfold peersM
    generalize n.wires = ws
    induction ws with
    | nil => rfl
    | cons w r ih =>
      by_cases h1 : w.host = id
      · cases h2 : (peerM n w rate i).2 <;> simp [isPeer, h1, h2, ← ih]
      · simp [isPeer, h1, ← ih]
  rw [e1, ← hall, List.filterMap_filterMap]
  refine fm_congr fun a ha => ?_
  have e2 : (List.find? (fun w => decide (w.auth = a.id)) (List.filter (fun w => decide (w.host = id)) n.wires)) = wireOf n id a.id := by
    rw [List.find?_filter]
    unfold wireOf
    congr 1
    funext w
    rw [Bool.eq_iff_iff]
    simp
  rw [e2, pf]
  cases hw : wireOf n id a.id with
  | none => rfl
  | some w =>
    obtain ⟨h1, h2, h3⟩ := wireOf_some hw
    simp only [Option.bind_some]
    rw [peer_ok h h1 hr hi ha h3.symm]
    simp
/-- What is appended when one more authority is looked at. -/
theorem pf_take {n : Net} {id rate : Int} {i : Iv} {k : Nat} (hk : k < n.auths.length) : (n.auths.take (k + 1)).filterMap (pf n id rate i) = (n.auths.take k).filterMap (pf n id rate i) ++ (pf n id rate i (n.auths.getD k default)).toList := by
  rw [List.take_succ_eq_append_getElem hk, List.filterMap_append, getD_get hk]
  cases h : pf n id rate i n.auths[k] <;> simp [h]
theorem pf_at {n : Net} {id rate : Int} {i : Iv} {k : Nat} (hk : k < n.auths.length) {p : Peer} (hp : pf n id rate i (n.auths.getD k default) = some p) :
    ((n.auths.take k).filterMap (pf n id rate i)).length < (n.auths.filterMap (pf n id rate i)).length ∧ (n.auths.filterMap (pf n id rate i)).getD ((n.auths.take k).filterMap (pf n id rate i)).length default = p := by
  have e : n.auths.filterMap (pf n id rate i) = (n.auths.take (k + 1)).filterMap (pf n id rate i) ++ (n.auths.drop (k + 1)).filterMap (pf n id rate i) := by
    rw [← List.filterMap_append, List.take_append_drop]
  rw [pf_take hk, hp] at e
  rw [e]
  simp [List.getD_eq_getElem?_getD]
theorem counts_mono {rate a b : Int} (hr : 0 ≤ rate ∧ rate ≤ 1000000) (ha : 0 ≤ a) (hab : a ≤ b) (hb : b ≤ 2000000) : (countsM rate a).1.hi ≤ (countsM rate b).1.hi := by
  rw [countsM, if_pos ⟨hr, ha, by omega⟩, countsM, if_pos ⟨hr, by omega, by omega⟩]
  have h := Int.mul_le_mul_of_nonneg_right hab (show 0 ≤ 1000000000 + rate by omega)
  simp only
  generalize a * (1000000000 + rate) = x at *
  generalize b * (1000000000 + rate) = y at *
  unfold ceilD
  split <;> split <;> omega
theorem most_mono {rate : Int} (hr : 0 ≤ rate ∧ rate ≤ 1000000) {w : Wire} {i k : Iv} (h1 : (linkW w k).outHi ≤ (linkW w i).outHi) (h2 : (linkW w k).backHi ≤ (linkW w i).backHi) : (mostW rate w k).1.hi ≤ (mostW rate w i).1.hi := by
  have a := link_sum w i
  have b := link_sum w k
  exact counts_mono hr b.1 (by omega) a.2
/-! SiteLonger. -/
theorem force_sub {l : List Change} {i k : Iv} (h1 : i.lo ≤ k.lo) (h2 : k.hi ≤ i.hi) {x : Change} (h : x ∈ Lk.forceL l k l.length) : x ∈ Lk.forceL l i l.length := by
  simp only [Lk.forceL, List.mem_map, List.mem_filter, List.mem_range] at h ⊢
  obtain ⟨q, ⟨hq, hf⟩, e⟩ := h
  refine ⟨q, ⟨hq, ?_⟩, e⟩
  simp only [Lk.inF, Bool.and_eq_true, Bool.not_eq_true', Bool.and_eq_false_iff, decide_eq_false_iff_not, decide_eq_true_eq] at hf ⊢
  omega
theorem force_ne {l : List Change} {i : Iv} (hl : Lk.validM l = true) (hi : Lk.validI i = true) : Lk.forceL l i l.length ≠ [] := by
  have hv := hl
  rw [Lk.validM, decide_eq_true_eq] at hv
  obtain ⟨v1, v2, v3, v4, v5⟩ := hv
  have hi' := (Lk.validI_iff i).1 hi
  obtain ⟨q, q1, q2, q3⟩ := Lk.lastAt (lo := i.lo) v1 (by omega) (Lk.at_strict v5)
  refine List.ne_nil_of_mem (a := Lk.gD l q) ?_
  simp only [Lk.forceL, List.mem_map, List.mem_filter, List.mem_range]
  refine ⟨q, ⟨q1, ?_⟩, rfl⟩
  simp only [Lk.inF, Bool.and_eq_true, Bool.not_eq_true', Bool.and_eq_false_iff, decide_eq_false_iff_not, decide_eq_true_eq]
  have e : ((q : Int) + 1).toNat = q + 1 := by omega
  rw [e]
  refine ⟨?_, by omega⟩
  by_cases hn : q + 1 < l.length
  · have := q3 (q + 1) (by omega) hn; right; omega
  · left; omega
theorem link_sub {w : Wire} {i k : Iv} (hw : Lk.validM w.changes = true) (hi : Lk.validI i = true) (hk : Lk.validI k = true) (h1 : i.lo ≤ k.lo) (h2 : k.hi ≤ i.hi) :
    (linkW w i).outLo ≤ (linkW w k).outLo ∧ (linkW w k).outHi ≤ (linkW w i).outHi ∧ (linkW w i).backLo ≤ (linkW w k).backLo ∧ (linkW w k).backHi ≤ (linkW w i).backHi := by
  have hne := force_ne hw hi
  have hke := force_ne hw hk
  unfold linkW
  rw [Lk.linkBoundsM, if_pos ⟨hw, hi⟩, Lk.linkBoundsM, if_pos ⟨hw, hk⟩]
  simp only
  refine ⟨?_, ?_, ?_, ?_⟩
  · obtain ⟨x, hx, e⟩ := (Lk.extMin (p := Change.outLo) hke).2; rw [e]; exact (Lk.extMin hne).1 _ (force_sub h1 h2 hx)
  · obtain ⟨x, hx, e⟩ := (Lk.extMax (p := Change.outHi) hke).2; rw [e]; exact (Lk.extMax hne).1 _ (force_sub h1 h2 hx)
  · obtain ⟨x, hx, e⟩ := (Lk.extMin (p := Change.backLo) hke).2; rw [e]; exact (Lk.extMin hne).1 _ (force_sub h1 h2 hx)
  · obtain ⟨x, hx, e⟩ := (Lk.extMax (p := Change.backHi) hke).2; rw [e]; exact (Lk.extMax hne).1 _ (force_sub h1 h2 hx)
def sameP (p q : Peer) : Prop := q.auth = p.auth ∧ q.err = p.err ∧ q.cost = p.cost ∧ p.link.outLo ≤ q.link.outLo ∧ q.link.outHi ≤ p.link.outHi ∧ p.link.backLo ≤ q.link.backLo ∧ q.link.backHi ≤ p.link.backHi
instance (p q : Peer) : Decidable (sameP p q) := by unfold sameP; infer_instance
theorem longer {n : Net} (h : netP n) {id rate : Int} (hr : 0 ≤ rate ∧ rate ≤ 1000000) {i k : Iv} (hi : Lk.validI i = true) (hk : Lk.validI k = true) (h1 : i.lo ≤ k.lo) (h2 : k.hi ≤ i.hi) :
    (∀ p ∈ peersM n id rate i n.wires, ∃ q ∈ peersM n id rate k n.wires, sameP p q) ∧ (peersM n id rate i n.wires).length ≤ (peersM n id rate k n.wires).length := by
  have hm : ∀ w ∈ n.wires, isPeer n id rate i w = true → isPeer n id rate k w = true ∧ sameP (peerM n w rate i).1 (peerM n w rate k).1 := fun w hw hp => by
    obtain ⟨a, ha, e⟩ := wire_auth h hw
    have hs := link_sub (wire_valid h hw) hi hk h1 h2
    have hmo := most_mono hr hs.2.1 hs.2.2.2
    unfold isPeer at hp ⊢
    rw [peer_ok h hw hr hi ha e] at hp ⊢
    rw [peer_ok h hw hr hk ha e]
    simp only [Bool.and_eq_true, decide_eq_true_eq] at hp ⊢
    exact ⟨⟨by omega, hp.2⟩, rfl, rfl, rfl, hs⟩
  unfold peersM
  refine ⟨fun p hp => ?_, ?_⟩
  · obtain ⟨w, hw, rfl⟩ := List.mem_map.1 hp
    obtain ⟨h3, h4⟩ := List.mem_filter.1 hw
    obtain ⟨h5, h6⟩ := hm w h3 h4
    exact ⟨_, List.mem_map.2 ⟨w, List.mem_filter.2 ⟨h3, h5⟩, rfl⟩, h6⟩
  · rw [List.length_map, List.length_map, ← List.countP_eq_length_filter, ← List.countP_eq_length_filter]
    exact List.countP_mono_left fun w hw hp => (hm w hw hp).1
/-! SiteOthers. -/
def noWires (n : Net) (gone : Int) : Net := { n with wires := n.wires.filter fun w => decide (w.host ≠ gone) }
def noHost (n : Net) (gone : Int) : Net := { noWires n gone with hosts := n.hosts.filter fun h => decide (h.id ≠ gone) }
theorem boundN_tables {n m : Net} (h : m.tables = n.tables) (a : Host) : boundN m a = boundN n a := by unfold boundN; rw [h]
theorem noWires_net {n : Net} (h : netP n) (gone : Int) : netP (noWires n gone) := by
  obtain ⟨h1, h2, h3, h4, h5⟩ := h
  refine ⟨h1, h2, h3, ?_, h5⟩
  obtain ⟨g1, g2⟩ := wired_iff.1 h4
  rw [wired_iff]
  exact ⟨fun w hw => g1 w ((List.mem_filter.1 hw).1), g2.filter _⟩
theorem noHost_net {n : Net} (h : netP n) {gone : Int} {a : Host} (ha : a ∈ n.hosts) (hg : a.id ≠ gone) : netP (noHost n gone) := by
  obtain ⟨h1, h2, h3, h4, h5⟩ := h
  refine ⟨h1, ⟨?_, fun b hb => h2.2 b ((List.mem_filter.1 hb).1)⟩, h3, ?_, h5⟩
  · obtain ⟨g1, g2, g3⟩ := rises_iff.1 h2.1
    rw [rises_iff]
    exact ⟨List.ne_nil_of_mem (List.mem_filter.2 ⟨ha, by simpa using hg⟩), g2.filter _, fun x hx => g3 x ((List.mem_filter.1 hx).1)⟩
  · obtain ⟨g1, g2⟩ := wired_iff.1 h4
    rw [wired_iff]
    refine ⟨fun w hw => ?_, g2.filter _⟩
    obtain ⟨hw1, hw2⟩ := List.mem_filter.1 hw
    obtain ⟨⟨b, hb, e⟩, g4, g5⟩ := g1 w hw1
    simp only [decide_eq_true_eq] at hw2
    exact ⟨⟨b, List.mem_filter.2 ⟨hb, by simp only [decide_eq_true_eq]; omega⟩, e⟩, g4, g5⟩
theorem peers_noWires (n : Net) {gone id rate : Int} (h : id ≠ gone) (i : Iv) : peersM (noWires n gone) id rate i (noWires n gone).wires = peersM n id rate i n.wires := by
  unfold peersM noWires
  simp only [List.filter_filter]
  congr 1
  refine List.filter_congr fun w _ => ?_
  unfold isPeer
  by_cases hw : w.host = id
  · simp only [hw, decide_true, Bool.and_true]
    rw [decide_eq_true h, Bool.and_true]; rfl
  · simp only [decide_eq_false hw, Bool.and_false, Bool.false_and]
theorem site_noWires {n : Net} (h : netP n) {gone : Int} {a : Host} (ha : a ∈ n.hosts) (hg : a.id ≠ gone) (i : Iv) : siteM (noWires n gone) a.id i = siteM n a.id i := by
  have hr : rateM (noWires n gone) a.id = rateM n a.id := by rw [rate_host (noWires_net h gone) ha, rate_host h ha]; exact boundN_tables rfl a
  have hp := fun rate => peers_noWires n (rate := rate) hg i
  unfold siteM
  rw [hr, hp]
  by_cases hi : Lk.validI i = true
  · simp only [hi, noWires_net h gone, h, and_self, if_true]; rfl
  · rw [if_neg (fun c => hi c.2), if_neg (fun c => hi c.2)]
theorem site_noHost {n : Net} (h : netP n) {gone : Int} {a : Host} (ha : a ∈ n.hosts) (hg : a.id ≠ gone) (i : Iv) : siteM (noHost n gone) a.id i = siteM n a.id i := by
  have hn := noHost_net h ha hg
  have hr : rateM (noHost n gone) a.id = rateM n a.id := by rw [rate_host hn (List.mem_filter.2 ⟨ha, by simpa using hg⟩), rate_host h ha]; exact boundN_tables rfl a
  have hp : ∀ rate, peersM (noHost n gone) a.id rate i (noHost n gone).wires = peersM n a.id rate i n.wires := fun rate => peers_noWires n (rate := rate) hg i
  unfold siteM
  rw [hr, hp]
  by_cases hi : Lk.validI i = true
  · simp only [hi, hn, h, and_self, if_true]; rfl
  · rw [if_neg (fun c => hi c.2), if_neg (fun c => hi c.2)]
theorem site_gone {n : Net} (h : netP n) {gone : Int} {a : Host} (ha : a ∈ n.hosts) (hg : a.id ≠ gone) {i : Iv} (hi : Lk.validI i = true) : (siteM (noHost n gone) gone i).2 = 4 := by
  have hn := noHost_net h ha hg
  have hr : rateM (noHost n gone) gone = (0, 4) := rate_none hn fun b hb => by simpa using (List.mem_filter.1 hb).2
  rw [siteM, if_pos ⟨hn, hi⟩, hr, if_neg (by decide)]
theorem site_ok {n : Net} (h : netP n) {a : Host} (ha : a ∈ n.hosts) {i : Iv} (hi : Lk.validI i = true) : siteM n a.id i = (⟨(boundN n a).1, n.f, n.lost, n.timeout, peersM n a.id (boundN n a).1 i n.wires⟩, 0) := by
  have hr := rate_host h ha
  rw [siteM, if_pos ⟨h, hi⟩, hr, if_pos (h.2.1.2 a ha)]
end Go.Proofs.YtcdgncmkkknmlaaGreatDoor
