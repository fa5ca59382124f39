import Derived.Test.YtollegoajlfdiaaGreatPart23
import Derived.Test.YtollegoajlfdiaaGreatPart24
import Derived.Test.YtollegoajlfdiaaGreatPart16
/-
  The contract of an award, in one form for all its ends.
-/
namespace Go.Proofs.YtollegoajlfdiaaGreat
open Go.RowKit Lg Go.Sort Go.Shelf Go.Maps

/-- What an award hands back. -/
def ResA (r : Rate) (s : Sale) (fs : List Int) (w w' : World) (pr ct st fd rs er : Int) (a : Option Addr) (n c : Nat) (ys : List Share) : Prop :=
  Lst w' 2 cSh a n c ys ∧ RowKit.Below w.heap.size w w' ∧ n ≤ 1100 ∧ (∀ x ∈ ys, -1000000000000 ≤ x.pence ∧ x.pence ≤ 1000000000000) ∧
    ((er = 0 ∧ awOk r s fs = true ∧ pr = s.price ∧ ct = awCart r s ∧ st = awStore r s ∧ fd = awFind r s ∧ rs = awRest r s ∧ ListOf (sumP (awRaw r s fs)) ys) ∨
     (er = 1 ∧ awOk r s fs = false ∧ pr = 0 ∧ ct = 0 ∧ st = 0 ∧ fd = 0 ∧ rs = 0 ∧ ys = []))

theorem awOk_fees {r : Rate} {s : Sale} {fs : List Int} (h : awOk r s fs = true) : (feesOf r s).2 = 0 ∧ partiesOk fs = true := by
  unfold awOk at h
  simpa using h

theorem asc_len : ∀ (l : List Int) (lo hi : Int), l.Pairwise (· < ·) → (∀ x ∈ l, lo ≤ x ∧ x ≤ hi) → (l.length : Int) ≤ max 0 (hi - lo + 1)
  | [], lo, hi, _, _ => by simp; omega
  | x :: l, lo, hi, hp, h => by
    rw [List.pairwise_cons] at hp
    have h1 := asc_len l (x + 1) hi hp.2 (fun y hy => ⟨by have := hp.1 y hy; omega, (h y (List.mem_cons_of_mem _ hy)).2⟩)
    have h2 := h x List.mem_cons_self
    rw [List.length_cons]
    omega

theorem awarded_res (r : Rate) (s : Sale) (a : Option Addr) (n cap : Nat) (fs : List Int) (w : World) (hL : Lst w 1 cI a n cap fs) :
    Calls Tryz.prog 37 #[aR r, aS s, .slice a n cap] w fun e w' => ∃ (pr ct st fd rs er : Int) (a' : Option Addr) (n' c' : Nat) (ys : List Share),
      e = .returned (.tuple #[.agg #[.int .i64 pr, .int .i64 ct, .int .i64 st, .int .i64 fd, .int .i64 rs, .slice a' n' c'], .int .i64 er]) ∧ ResA r s fs w w' pr ct st fd rs er a' n' c' ys := by
  refine (awarded_any r s a n cap fs w hL).mono ?_
  rintro e w' ⟨hB, h⟩
  by_cases ho : awOk r s fs = true
  · rw [if_pos ho] at h
    obtain ⟨v, ys, rfl, hl, hown⟩ := h
    obtain ⟨h1, h2⟩ := awOk_fees ho
    have hs := aw_shares h1 h2 hl
    have hlen : ys.length ≤ 40 := by
      have h3 := asc_len (ys.map Share.party) 1 40 hl.1 (fun p hp => by
        obtain ⟨x, hx, rfl⟩ := List.mem_map.1 hp
        have := hs.1 x hx; omega)
      rw [List.length_map] at h3
      omega
    obtain ⟨av, cv, rfl, _, hl'⟩ := Lst.of_owns (k := 2) (enc := cSh) (fun _ => rfl) (by omega) hown rfl
    exact ⟨_, _, _, _, _, _, _, _, _, ys, rfl, hl', hB, by omega, fun x hx => by have := hs.1 x hx; omega, .inl ⟨rfl, ho, rfl, rfl, rfl, rfl, rfl, hl⟩⟩
  · rw [if_neg ho] at h
    subst h
    exact ⟨_, _, _, _, _, _, _, _, _, [], rfl, Lst.nil _ _ _, hB, by omega, fun x hx => (by cases hx), .inr ⟨rfl, by simpa using ho, rfl, rfl, rfl, rfl, rfl, rfl⟩⟩

end Go.Proofs.YtollegoajlfdiaaGreat

/-
  Walk: the law of more.
-/
namespace Go.Proofs.YtollegoajlfdiaaGreat
open Go.RowKit Lg Go.Sort Go.Shelf Go.Maps

theorem more_facts1 {r : Rate} {s : Sale} {fs : List Int} {price pr1 ct1 st1 fd1 rs1 er1 pr2 ct2 st2 fd2 rs2 er2 : Int} {ys1 ys2 : List Share}
    (h1 : ((er1 = 0 ∧ awOk r s fs = true ∧ pr1 = (s).price ∧ ct1 = awCart r s ∧ st1 = awStore r s ∧ fd1 = awFind r s ∧ rs1 = awRest r s ∧ ListOf (sumP (awRaw r s fs)) ys1) ∨
     (er1 = 1 ∧ awOk r s fs = false ∧ pr1 = 0 ∧ ct1 = 0 ∧ st1 = 0 ∧ fd1 = 0 ∧ rs1 = 0 ∧ ys1 = [])))
    (h2 : ((er2 = 0 ∧ awOk r (Sale.mk s.id s.known s.hour s.parcel price s.carter s.keeper s.since s.of_) fs = true ∧ pr2 = ((Sale.mk s.id s.known s.hour s.parcel price s.carter s.keeper s.since s.of_)).price ∧ ct2 = awCart r (Sale.mk s.id s.known s.hour s.parcel price s.carter s.keeper s.since s.of_) ∧ st2 = awStore r (Sale.mk s.id s.known s.hour s.parcel price s.carter s.keeper s.since s.of_) ∧ fd2 = awFind r (Sale.mk s.id s.known s.hour s.parcel price s.carter s.keeper s.since s.of_) ∧ rs2 = awRest r (Sale.mk s.id s.known s.hour s.parcel price s.carter s.keeper s.since s.of_) ∧ ListOf (sumP (awRaw r (Sale.mk s.id s.known s.hour s.parcel price s.carter s.keeper s.since s.of_) fs)) ys2) ∨
     (er2 = 1 ∧ awOk r (Sale.mk s.id s.known s.hour s.parcel price s.carter s.keeper s.since s.of_) fs = false ∧ pr2 = 0 ∧ ct2 = 0 ∧ st2 = 0 ∧ fd2 = 0 ∧ rs2 = 0 ∧ ys2 = []))) :
    er1 = 0 → er2 = 0 → s.price ≤ price → (rs1 ≤ rs2 ∧ ct1 ≤ ct2 ∧ st1 ≤ st2 ∧ fd1 ≤ fd2) ∧ ∀ p, sumP ys1 p ≤ sumP ys2 p := by
  intro e1 e2 hp
  rcases h1 with ⟨_, o1, _, rfl, rfl, rfl, rfl, l1⟩ | ⟨h, _⟩
  · rcases h2 with ⟨_, o2, _, rfl, rfl, rfl, rfl, l2⟩ | ⟨h, _⟩
    · have f1 := (awOk_fees o1).1
      have f2 := (awOk_fees o2).1
      obtain ⟨m1, m2, m3, m4⟩ := more_price f1 f2 rfl hp
      refine ⟨⟨m4, m1, m2, m3⟩, fun p => ?_⟩
      rw [listOf_sum l1, listOf_sum l2]
      exact sumP_raw_mono m1 m2 m3 rfl rfl (aw_bounds f1).2.2.2.2.1 p
    · omega
  · omega

theorem partOk_bounds {f : Frac} (h : partOk f = true) : 0 ≤ f.num ∧ f.num ≤ 1000000 ∧ 1 ≤ f.den ∧ f.den ≤ 1000000 := by
  unfold partOk at h
  simp only [Bool.and_eq_true, inn_iff] at h
  omega

theorem more_facts2 {r : Rate} {s : Sale} {fs : List Int} {g : Frac} {pr1 ct1 st1 fd1 rs1 er1 pr3 ct3 st3 fd3 rs3 er3 : Int} {ys1 ys3 : List Share}
    (h1 : ((er1 = 0 ∧ awOk r s fs = true ∧ pr1 = (s).price ∧ ct1 = awCart r s ∧ st1 = awStore r s ∧ fd1 = awFind r s ∧ rs1 = awRest r s ∧ ListOf (sumP (awRaw r s fs)) ys1) ∨
     (er1 = 1 ∧ awOk r s fs = false ∧ pr1 = 0 ∧ ct1 = 0 ∧ st1 = 0 ∧ fd1 = 0 ∧ rs1 = 0 ∧ ys1 = [])))
    (h3 : ((er3 = 0 ∧ awOk (Rate.mk r.id r.known r.from_ r.goods g r.cart r.store r.of_) s fs = true ∧ pr3 = (s).price ∧ ct3 = awCart (Rate.mk r.id r.known r.from_ r.goods g r.cart r.store r.of_) s ∧ st3 = awStore (Rate.mk r.id r.known r.from_ r.goods g r.cart r.store r.of_) s ∧ fd3 = awFind (Rate.mk r.id r.known r.from_ r.goods g r.cart r.store r.of_) s ∧ rs3 = awRest (Rate.mk r.id r.known r.from_ r.goods g r.cart r.store r.of_) s ∧ ListOf (sumP (awRaw (Rate.mk r.id r.known r.from_ r.goods g r.cart r.store r.of_) s fs)) ys3) ∨
     (er3 = 1 ∧ awOk (Rate.mk r.id r.known r.from_ r.goods g r.cart r.store r.of_) s fs = false ∧ pr3 = 0 ∧ ct3 = 0 ∧ st3 = 0 ∧ fd3 = 0 ∧ rs3 = 0 ∧ ys3 = []))) :
    er1 = 0 → (er3 = 0 ∧ IntKind.i64.wrap (g.num * r.finder.den) = g.num * r.finder.den ∧ IntKind.i64.wrap (r.finder.num * g.den) = r.finder.num * g.den ∧ r.finder.num * g.den ≤ g.num * r.finder.den ∧ ¬ rs1 < rs3 ∧ ¬ fd3 < fd1) ∨
      (er3 = 0 ∧ IntKind.i64.wrap (g.num * r.finder.den) = g.num * r.finder.den ∧ IntKind.i64.wrap (r.finder.num * g.den) = r.finder.num * g.den ∧ ¬ r.finder.num * g.den ≤ g.num * r.finder.den) ∨ er3 = 1 := by
  intro e1
  rcases h3 with ⟨e3, o3, _, _, _, rfl, rfl, l3⟩ | ⟨h, _⟩
  · rcases h1 with ⟨_, o1, _, _, _, rfl, rfl, l1⟩ | ⟨h, _⟩
    · have f1 := (awOk_fees o1).1
      have f3 := (awOk_fees o3).1
      obtain ⟨_, _, _, _, _, _, _, _, _, _, a7⟩ := fees_bounds f1
      obtain ⟨_, _, _, _, _, _, _, _, _, _, b7⟩ := fees_bounds f3
      have b7 : partOk g = true := b7
      obtain ⟨p1, p2, p3, p4⟩ := partOk_bounds a7
      obtain ⟨q1, q2, q3, q4⟩ := partOk_bounds b7
      have u1 := Int.mul_nonneg q1 (show 0 ≤ r.finder.den by omega)
      have u2 := Int.mul_nonneg p1 (show 0 ≤ g.den by omega)
      have u3 : g.num * r.finder.den ≤ 1000000 * 1000000 := Int.mul_le_mul q2 p4 (by omega) (by omega)
      have u4 : r.finder.num * g.den ≤ 1000000 * 1000000 := Int.mul_le_mul p2 q4 (by omega) (by omega)
      have w1 : IntKind.i64.wrap (g.num * r.finder.den) = g.num * r.finder.den := by rw [IntKind.wrap_i64]; omega
      have w2 : IntKind.i64.wrap (r.finder.num * g.den) = r.finder.num * g.den := by rw [IntKind.wrap_i64]; omega
      by_cases hc : r.finder.num * g.den ≤ g.num * r.finder.den
      · obtain ⟨m1, m2⟩ := more_part f1 f3 rfl hc
        exact .inl ⟨e3, w1, w2, hc, by omega, by omega⟩
      · exact .inr (.inl ⟨e3, w1, w2, hc⟩)
    · omega
  · exact .inr (.inr h)

set_option maxRecDepth 100000 in
set_option maxHeartbeats 3200000 in
theorem lawMore_any (r : Rate) (s : Sale) (a : Option Addr) (n cap : Nat) (fs : List Int) (price : Int) (g : Frac) (w : World) (hL : Lst w 1 cI a n cap fs) :
    Calls Tryz.prog 10 #[aR r, aS s, .slice a n cap, .int .i64 price, aF g] w (Gives w (.bool true)) := by
  have hp := paid_any
  by_cases h60 : (100 : Int) < (r.goods.size : Int)
  · clear hL
    go_enter Tryz.func10, Tryz.ntmps10
    go_wp2_with (go_at_call 16; refine (hp _).mono ?_; rintro e w2 ⟨rfl, hB2⟩)
    go_ret
    have hB0 : RowKit.Below w.heap.size w (((w.alloc (.cells #[.int .i64 r.id, .int .i64 r.known, .int .i64 r.from_, .string r.goods, .int .i64 r.finder.num, .int .i64 r.finder.den, .int .i64 r.cart, .int .i64 r.store, .int .i64 r.of_] 26)).alloc (.cells #[.int .i64 s.id, .int .i64 s.known, .int .i64 s.hour, .int .i64 s.parcel, .int .i64 s.price, .int .i64 s.carter, .int .i64 s.keeper, .int .i64 s.since, .int .i64 s.of_] 39)).alloc (.cells #[.int .i64 g.num, .int .i64 g.den] 24)) := (((Below.refl _ w).alloc (Nat.le_refl _) _).alloc (by simp) _).alloc (by simp; omega) _
    first | exact ⟨rfl, hB0.trans (hB2.mono hB0.size)⟩ | exact ⟨rfl, hB2⟩
  by_cases h61 : (60 : Int) < (n : Int)
  · clear hL
    go_enter Tryz.func10, Tryz.ntmps10
    go_wp2_with (go_at_call 16; refine (hp _).mono ?_; rintro e w2 ⟨rfl, hB2⟩)
    go_ret
    have hB0 : RowKit.Below w.heap.size w (((w.alloc (.cells #[.int .i64 r.id, .int .i64 r.known, .int .i64 r.from_, .string r.goods, .int .i64 r.finder.num, .int .i64 r.finder.den, .int .i64 r.cart, .int .i64 r.store, .int .i64 r.of_] 26)).alloc (.cells #[.int .i64 s.id, .int .i64 s.known, .int .i64 s.hour, .int .i64 s.parcel, .int .i64 s.price, .int .i64 s.carter, .int .i64 s.keeper, .int .i64 s.since, .int .i64 s.of_] 39)).alloc (.cells #[.int .i64 g.num, .int .i64 g.den] 24)) := (((Below.refl _ w).alloc (Nat.le_refl _) _).alloc (by simp) _).alloc (by simp; omega) _
    exact ⟨rfl, hB0.trans (hB2.mono hB0.size)⟩
  have h1 := fun W (hB : RowKit.Below w.heap.size w W) => awarded_res r s a n cap fs W (hL.below hB)
  have h2 := fun W (hB : RowKit.Below w.heap.size w W) => awarded_res r ⟨s.id, s.known, s.hour, s.parcel, price, s.carter, s.keeper, s.since, s.of_⟩ a n cap fs W (hL.below hB)
  have h3 := fun W (hB : RowKit.Below w.heap.size w W) => awarded_res ⟨r.id, r.known, r.from_, r.goods, g, r.cart, r.store, r.of_⟩ s a n cap fs W (hL.below hB)
  clear hL
  go_enter Tryz.func10, Tryz.ntmps10
  go_wp2_with (fail)
  obtain ⟨W0, hW0⟩ : ∃ W0, W0 = (((w.alloc (.cells #[.int .i64 r.id, .int .i64 r.known, .int .i64 r.from_, .string r.goods, .int .i64 r.finder.num, .int .i64 r.finder.den, .int .i64 r.cart, .int .i64 r.store, .int .i64 r.of_] 26)).alloc (.cells #[.int .i64 s.id, .int .i64 s.known, .int .i64 s.hour, .int .i64 s.parcel, .int .i64 s.price, .int .i64 s.carter, .int .i64 s.keeper, .int .i64 s.since, .int .i64 s.of_] 39)).alloc (.cells #[.int .i64 g.num, .int .i64 g.den] 24)) := ⟨_, rfl⟩
  rw [← hW0]
  have hB0 : RowKit.Below w.heap.size w W0 := hW0 ▸ (((Below.refl _ w).alloc (Nat.le_refl _) _).alloc (by simp) _).alloc (by simp; omega) _
  have j1 := Blk.new w 26 #[.int .i64 r.id, .int .i64 r.known, .int .i64 r.from_, .string r.goods, .int .i64 r.finder.num, .int .i64 r.finder.den, .int .i64 r.cart, .int .i64 r.store, .int .i64 r.of_]
  have j2 := Blk.new (w.alloc (.cells #[.int .i64 r.id, .int .i64 r.known, .int .i64 r.from_, .string r.goods, .int .i64 r.finder.num, .int .i64 r.finder.den, .int .i64 r.cart, .int .i64 r.store, .int .i64 r.of_] 26)) 39 #[.int .i64 s.id, .int .i64 s.known, .int .i64 s.hour, .int .i64 s.parcel, .int .i64 s.price, .int .i64 s.carter, .int .i64 s.keeper, .int .i64 s.since, .int .i64 s.of_]
  have j3 := Blk.new ((w.alloc (.cells #[.int .i64 r.id, .int .i64 r.known, .int .i64 r.from_, .string r.goods, .int .i64 r.finder.num, .int .i64 r.finder.den, .int .i64 r.cart, .int .i64 r.store, .int .i64 r.of_] 26)).alloc (.cells #[.int .i64 s.id, .int .i64 s.known, .int .i64 s.hour, .int .i64 s.parcel, .int .i64 s.price, .int .i64 s.carter, .int .i64 s.keeper, .int .i64 s.since, .int .i64 s.of_] 39)) 24 #[.int .i64 g.num, .int .i64 g.den]
  simp only [World.size_alloc] at j2 j3
  have k1 : Blk W0 w.heap.size #[.int .i64 r.id, .int .i64 r.known, .int .i64 r.from_, .string r.goods, .int .i64 r.finder.num, .int .i64 r.finder.den, .int .i64 r.cart, .int .i64 r.store, .int .i64 r.of_] 26 := by rw [hW0]; exact (j1.alloc _).alloc _
  have k2 : Blk W0 (w.heap.size + 1) #[.int .i64 s.id, .int .i64 s.known, .int .i64 s.hour, .int .i64 s.parcel, .int .i64 s.price, .int .i64 s.carter, .int .i64 s.keeper, .int .i64 s.since, .int .i64 s.of_] 39 := by rw [hW0]; exact j2.alloc _
  have k3 : Blk W0 (w.heap.size + 1 + 1) #[.int .i64 g.num, .int .i64 g.den] 24 := by rw [hW0]; exact j3
  clear j1 j2 j3 hW0
  refine (h1 W0 hB0).mono ?_
  clear h1
  rintro e w2 ⟨pr1, ct1, st1, fd1, rs1, er1, a1, n1, c1, ys1, rfl, hL1, hB1, hn1, hy1, hR1⟩
  have k1 := k1.below' hB1
  have k2 := k2.below' hB1
  have k3 := k3.below' hB1
  have hB2 := hB0.trans (hB1.mono hB0.size)
  clear hB0 hB1
  have e1 := k1.cell
  have e2 := k2.cell
  have e3 := k3.cell
  have l1 := k1.lt
  have l2 := k2.lt
  have l3 := k3.lt
  go_wp2_with (fail)
  clear e1 e2 e3 l1 l2 l3
  obtain ⟨W0, hW0⟩ : ∃ W0, W0 = ((w2.alloc (.cells #[.int .i64 pr1, .int .i64 ct1, .int .i64 st1, .int .i64 fd1, .int .i64 rs1, .slice a1 n1 c1] 59)).alloc (.cells #[.int .i64 s.id, .int .i64 s.known, .int .i64 s.hour, .int .i64 s.parcel, .int .i64 price, .int .i64 s.carter, .int .i64 s.keeper, .int .i64 s.since, .int .i64 s.of_] 39)) := ⟨_, rfl⟩
  rw [← hW0]
  have hB0 : RowKit.Below w.heap.size w W0 := hW0 ▸ (hB2.alloc hB2.size _).alloc (by have := hB2.size; simp; omega) _
  have j4 : Blk W0 w2.heap.size #[.int .i64 pr1, .int .i64 ct1, .int .i64 st1, .int .i64 fd1, .int .i64 rs1, .slice a1 n1 c1] 59 := by rw [hW0]; exact (Blk.new w2 _ _).alloc _
  have k1 : Blk W0 w.heap.size #[.int .i64 r.id, .int .i64 r.known, .int .i64 r.from_, .string r.goods, .int .i64 r.finder.num, .int .i64 r.finder.den, .int .i64 r.cart, .int .i64 r.store, .int .i64 r.of_] 26 := by rw [hW0]; exact (k1.alloc _).alloc _
  have k2 : Blk W0 (w.heap.size + 1) #[.int .i64 s.id, .int .i64 s.known, .int .i64 s.hour, .int .i64 s.parcel, .int .i64 s.price, .int .i64 s.carter, .int .i64 s.keeper, .int .i64 s.since, .int .i64 s.of_] 39 := by rw [hW0]; exact (k2.alloc _).alloc _
  have k3 : Blk W0 (w.heap.size + 1 + 1) #[.int .i64 g.num, .int .i64 g.den] 24 := by rw [hW0]; exact (k3.alloc _).alloc _
  have hL1 : Lst W0 2 cSh a1 n1 c1 ys1 := hL1.below (hW0 ▸ ((Below.refl _ w2).alloc (Nat.le_refl _) _).alloc (by simp) _)
  clear hW0 hB2
  refine (h2 W0 hB0).mono ?_
  clear h2
  rintro e w3 ⟨pr2, ct2, st2, fd2, rs2, er2, a2, n2, c2, ys2, rfl, hL2, hB1, hn2, hy2, hR2⟩
  have k1 := k1.below' hB1
  have k2 := k2.below' hB1
  have k3 := k3.below' hB1
  have j4 := j4.below' hB1
  have hL1 := hL1.below hB1
  have hB2 := hB0.trans (hB1.mono hB0.size)
  clear hB0 hB1
  have e1 := k1.cell
  have e2 := k2.cell
  have e3 := k3.cell
  have l1 := k1.lt
  have l2 := k2.lt
  have l3 := k3.lt
  go_wp2_with (fail)
  clear e1 e2 e3 l1 l2 l3
  obtain ⟨W0, hW0⟩ : ∃ W0, W0 = ((w3.alloc (.cells #[.int .i64 pr2, .int .i64 ct2, .int .i64 st2, .int .i64 fd2, .int .i64 rs2, .slice a2 n2 c2] 59)).alloc (.cells #[.int .i64 r.id, .int .i64 r.known, .int .i64 r.from_, .string r.goods, .int .i64 g.num, .int .i64 g.den, .int .i64 r.cart, .int .i64 r.store, .int .i64 r.of_] 26)) := ⟨_, rfl⟩
  rw [← hW0]
  have hB0 : RowKit.Below w.heap.size w W0 := hW0 ▸ (hB2.alloc hB2.size _).alloc (by have := hB2.size; simp; omega) _
  have j5 : Blk W0 w3.heap.size #[.int .i64 pr2, .int .i64 ct2, .int .i64 st2, .int .i64 fd2, .int .i64 rs2, .slice a2 n2 c2] 59 := by rw [hW0]; exact (Blk.new w3 _ _).alloc _
  have j4 : Blk W0 w2.heap.size #[.int .i64 pr1, .int .i64 ct1, .int .i64 st1, .int .i64 fd1, .int .i64 rs1, .slice a1 n1 c1] 59 := by rw [hW0]; exact (j4.alloc _).alloc _
  have k1 : Blk W0 w.heap.size #[.int .i64 r.id, .int .i64 r.known, .int .i64 r.from_, .string r.goods, .int .i64 r.finder.num, .int .i64 r.finder.den, .int .i64 r.cart, .int .i64 r.store, .int .i64 r.of_] 26 := by rw [hW0]; exact (k1.alloc _).alloc _
  have k2 : Blk W0 (w.heap.size + 1) #[.int .i64 s.id, .int .i64 s.known, .int .i64 s.hour, .int .i64 s.parcel, .int .i64 s.price, .int .i64 s.carter, .int .i64 s.keeper, .int .i64 s.since, .int .i64 s.of_] 39 := by rw [hW0]; exact (k2.alloc _).alloc _
  have k3 : Blk W0 (w.heap.size + 1 + 1) #[.int .i64 g.num, .int .i64 g.den] 24 := by rw [hW0]; exact (k3.alloc _).alloc _
  have hz0 : RowKit.Below w3.heap.size w3 W0 := hW0 ▸ ((Below.refl _ w3).alloc (Nat.le_refl _) _).alloc (by simp) _
  have hL1 := hL1.below hz0
  have hL2 := hL2.below hz0
  clear hW0 hB2 hz0
  refine (h3 W0 hB0).mono ?_
  clear h3
  rintro e w4 ⟨pr3, ct3, st3, fd3, rs3, er3, a3, n3, c3, ys3, rfl, hL3, hB1, hn3, hy3, hR3⟩
  have k1 := k1.below' hB1
  have k2 := k2.below' hB1
  have k3 := k3.below' hB1
  have j4 := j4.below' hB1
  have j5 := j5.below' hB1
  have hL1 := hL1.below hB1
  have hL2 := hL2.below hB1
  have hB2 := hB0.trans (hB1.mono hB0.size)
  clear hB0 hB1 hL3
  have hP : er1 = 0 → er2 = 0 → s.price ≤ price → (rs1 ≤ rs2 ∧ ct1 ≤ ct2 ∧ st1 ≤ st2 ∧ fd1 ≤ fd2) ∧ ∀ p, sumP ys1 p ≤ sumP ys2 p := more_facts1 hR1 hR2
  have hT : er1 = 0 → (er3 = 0 ∧ IntKind.i64.wrap (g.num * r.finder.den) = g.num * r.finder.den ∧ IntKind.i64.wrap (r.finder.num * g.den) = r.finder.num * g.den ∧ r.finder.num * g.den ≤ g.num * r.finder.den ∧ ¬ rs1 < rs3 ∧ ¬ fd3 < fd1) ∨
      (er3 = 0 ∧ IntKind.i64.wrap (g.num * r.finder.den) = g.num * r.finder.den ∧ IntKind.i64.wrap (r.finder.num * g.den) = r.finder.num * g.den ∧ ¬ r.finder.num * g.den ≤ g.num * r.finder.den) ∨ er3 = 1 := more_facts2 hR1 hR3
  have hE1 : er1 = 0 ∨ er1 = 1 := hR1.imp (·.1) (·.1)
  have hE2 : er2 = 0 ∨ er2 = 1 := hR2.imp (·.1) (·.1)
  clear hR1 hR2 hR3
  have e1 := k1.cell
  have e2 := k2.cell
  have l2 := k2.lt
  have e3 := k3.cell
  have e4 := j4.cell
  have e5 := j5.cell
  have l1 := k1.lt
  have l3 := k3.lt
  have l4 := j4.lt
  have l5 := j5.lt
  have hB3 := hB2.alloc hB2.size (.cells #[.int .i64 pr3, .int .i64 ct3, .int .i64 st3, .int .i64 fd3, .int .i64 rs3, .slice a3 n3 c3] 59)
  rcases hE1 with rfl | rfl
  · have hT3 := hT rfl
    clear hT
    by_cases hC : er2 = 0 ∧ s.price ≤ price
    · obtain ⟨rfl, hC2⟩ := hC
      obtain ⟨⟨y1, y2, y3, y4⟩, hsum⟩ := hP rfl rfl hC2
      clear hP hE2
      have y1 : ¬ rs2 < rs1 := by omega
      have y2 : ¬ ct2 < ct1 := by omega
      have y3 : ¬ st2 < st1 := by omega
      have y4 : ¬ fd2 < fd1 := by omega
      have Hsum := Lib.hid hsum; clear hsum
      have HT := Lib.hid hT3; clear hT3
      go_wp2_with (fail)
      obtain ⟨W1, hW1⟩ : ∃ W1, W1 = w4.alloc (.cells #[.int .i64 pr3, .int .i64 ct3, .int .i64 st3, .int .i64 fd3, .int .i64 rs3, .slice a3 n3 c3] 59) := ⟨_, rfl⟩
      rw [← hW1] at hB3 ⊢
      clear e1 e2 e3 e4 e5 l1 l2 l3 l4 l5
      have j6 : Blk W1 w4.heap.size #[.int .i64 pr3, .int .i64 ct3, .int .i64 st3, .int .i64 fd3, .int .i64 rs3, .slice a3 n3 c3] 59 := by rw [hW1]; exact Blk.new w4 _ _
      have j4 : Blk W1 w2.heap.size #[.int .i64 pr1, .int .i64 ct1, .int .i64 st1, .int .i64 fd1, .int .i64 rs1, .slice a1 n1 c1] 59 := by rw [hW1]; exact j4.alloc _
      have j5 : Blk W1 w3.heap.size #[.int .i64 pr2, .int .i64 ct2, .int .i64 st2, .int .i64 fd2, .int .i64 rs2, .slice a2 n2 c2] 59 := by rw [hW1]; exact j5.alloc _
      have k1 : Blk W1 w.heap.size #[.int .i64 r.id, .int .i64 r.known, .int .i64 r.from_, .string r.goods, .int .i64 r.finder.num, .int .i64 r.finder.den, .int .i64 r.cart, .int .i64 r.store, .int .i64 r.of_] 26 := by rw [hW1]; exact k1.alloc _
      have k3 : Blk W1 (w.heap.size + 1 + 1) #[.int .i64 g.num, .int .i64 g.den] 24 := by rw [hW1]; exact k3.alloc _
      have hz0 : RowKit.Below w4.heap.size w4 W1 := hW1 ▸ (Below.refl _ w4).alloc (Nat.le_refl _) _
      have hL1 := hL1.below hz0
      have hL2 := hL2.below hz0
      clear hW1 hz0
      go_loopw [19] (fun i wr => ∃ q : Nat, 1 ≤ q ∧ q ≤ 41 ∧ i = .int .i64 q ∧ RowKit.Below W1.heap.size W1 wr) (fun i _ => 41 - (intOf i).toNat)
      case atStart => exact ⟨1, by omega, by omega, rfl, Below.refl _ _⟩
      case round =>
        obtain ⟨q, hq1, hq, rfl, hBq⟩ := hrel
        have j4 := j4.below' hBq
        have j5 := j5.below' hBq
        have j6 := j6.below' hBq
        have k1 := k1.below' hBq
        have k3 := k3.below' hBq
        have hL1 := hL1.below hBq
        have hL2 := hL2.below hBq
        have e1 := k1.cell
        have e3 := k3.cell
        have e4 := j4.cell
        have e5 := j5.cell
        have e6 := j6.cell
        have hBw := hB3.trans (hBq.mono hB3.size)
        by_cases hlt : q < 41
        · have hltz : (q : Int) ≤ 40 := by omega
          have o1 : ∀ W, RowKit.Below wr.heap.size wr W → Calls Tryz.prog 40 #[.agg #[.int .i64 pr1, .int .i64 ct1, .int .i64 st1, .int .i64 fd1, .int .i64 rs1, .slice a1 n1 c1], .int .i64 (q : Int)] W fun e w' => e = .returned (.int .i64 (sumP ys1 q)) ∧ RowKit.Below wr.heap.size wr w' :=
            fun W hW => (of_any pr1 ct1 st1 fd1 rs1 (q : Int) a1 n1 c1 ys1 W (hL1.below hW) hn1 hy1).mono fun e w' h => ⟨h.1, hW.trans (h.2.mono hW.size)⟩
          have o2 : ∀ W, RowKit.Below wr.heap.size wr W → Calls Tryz.prog 40 #[.agg #[.int .i64 pr2, .int .i64 ct2, .int .i64 st2, .int .i64 fd2, .int .i64 rs2, .slice a2 n2 c2], .int .i64 (q : Int)] W fun e w' => e = .returned (.int .i64 (sumP ys2 q)) ∧ RowKit.Below wr.heap.size wr w' :=
            fun W hW => (of_any pr2 ct2 st2 fd2 rs2 (q : Int) a2 n2 c2 ys2 W (hL2.below hW) hn2 hy2).mono fun e w' h => ⟨h.1, hW.trans (h.2.mono hW.size)⟩
          have hs := Hsum.out (q : Int)
          generalize sumP ys1 q = u at *
          generalize sumP ys2 q = v at *
          have hvv : ¬ v < u := by omega
          clear e1 e3 e6
          go_wp2_with (fail)
          go_region_held3 (fun w' => (∀ j, w'.cell? ⟨w2.heap.size, j, none⟩ = #[.int .i64 pr1, .int .i64 ct1, .int .i64 st1, .int .i64 fd1, .int .i64 rs1, .slice a1 n1 c1][j]?) ∧ (∀ j, w'.cell? ⟨w3.heap.size, j, none⟩ = #[.int .i64 pr2, .int .i64 ct2, .int .i64 st2, .int .i64 fd2, .int .i64 rs2, .slice a2 n2 c2][j]?))
            (first
              | with_reducible exact ⟨j4.cell, j5.cell⟩
              | with_reducible exact ⟨(j4.below' (Below.refl _ _).drew).cell, (j5.below' (Below.refl _ _).drew).cell⟩
              | with_reducible exact ⟨(j4.below' hB5).cell, (j5.below' hB5).cell⟩
              | with_reducible exact ⟨(j4.below' hB6).cell, (j5.below' hB6).cell⟩
              | fail)
            (first
              | (go_at_call 40; with_reducible refine (o2 _ (Below.refl _ _).drew).mono ?_; rintro e w5 ⟨rfl, hB5⟩)
              | (go_at_call 40; with_reducible refine (o1 _ hB5).mono ?_; rintro e w6 ⟨rfl, hB6⟩)
              | fail)
          trace_state
          go_wp2_with (fail)
          all_goals go_roundw
          case rel => exact ⟨q + 1, by omega, by omega, by go_num, hBq.trans (hB6.mono hBq.size)⟩
          case measure => simp [intOf]; omega
        · obtain rfl : q = 41 := by omega
          clear hlt
          have hT3 := HT.out
          rcases hT3 with ⟨z3, x1, x2, x3, x4, x5⟩ | ⟨z3, x1, x2, x3⟩ | z3
          all_goals subst z3
          all_goals go_wp2_with (go_at_call 16; refine (hp _).mono ?_; rintro e w5 ⟨rfl, hB5⟩)
          all_goals go_ret
          all_goals exact ⟨rfl, hBw.trans (hB5.mono hBw.size)⟩
    · have hE : (er2 = 1) ∨ (er2 = 0 ∧ ¬ s.price ≤ price) := by
        rcases hE2 with h | h
        · exact .inr ⟨h, fun h2 => hC ⟨h, h2⟩⟩
        · exact .inl h
      clear hE2 hC hP
      rcases hE with rfl | ⟨rfl, hC2⟩
      · 
        rcases hT3 with ⟨z3, x1, x2, x3, x4, x5⟩ | ⟨z3, x1, x2, x3⟩ | z3
        all_goals subst z3
        all_goals go_wp2_with (go_at_call 16; refine (hp _).mono ?_; rintro e w5 ⟨rfl, hB5⟩)
        all_goals go_ret
        all_goals exact ⟨rfl, hB3.trans (hB5.mono hB3.size)⟩
      · 
        rcases hT3 with ⟨z3, x1, x2, x3, x4, x5⟩ | ⟨z3, x1, x2, x3⟩ | z3
        all_goals subst z3
        all_goals go_wp2_with (go_at_call 16; refine (hp _).mono ?_; rintro e w5 ⟨rfl, hB5⟩)
        all_goals go_ret
        all_goals exact ⟨rfl, hB3.trans (hB5.mono hB3.size)⟩
  · clear hT hP
    rcases hE2 with rfl | rfl
    all_goals go_wp2_with (go_at_call 16; refine (hp _).mono ?_; rintro e w5 ⟨rfl, hB5⟩)
    all_goals go_ret
    all_goals exact ⟨rfl, hB3.trans (hB5.mono hB3.size)⟩

end Go.Proofs.YtollegoajlfdiaaGreat
