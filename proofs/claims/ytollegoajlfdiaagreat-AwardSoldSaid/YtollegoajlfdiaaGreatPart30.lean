import Derived.Test.YtollegoajlfdiaaGreatPart29
import Derived.Test.YtollegoajlfdiaaGreatPart22
import Derived.Test.YtollegoajlfdiaaGreatPart23
/-
  Walk: the law of what was sold.
-/
namespace Go.Proofs.YtollegoajlfdiaaGreat
open Go.RowKit Lg Go.Sort Go.Shelf Go.Maps

theorem sold_bounds {l : List Sale} (h : (checkSales l).2 = 0) {K p : Int} (hp : p ∈ soldOf l K) : 10 ≤ p ∧ p ≤ 10000007 := by
  unfold soldOf at hp
  rw [if_pos h, List.mem_mergeSort] at hp
  obtain ⟨x, hx, rfl⟩ := List.mem_map.1 hp
  obtain ⟨m1, m2, _⟩ := mem_cntS.1 hx
  have hok := checkSales_ok h x m1
  unfold saleOk at hok
  rw [if_neg (by simpa using m2)] at hok
  simp only [Bool.and_eq_true, inn_iff] at hok
  omega

def turnL (s : List Int) (t : Nat) : List Int := (List.range s.length).map fun i => s.getD ((i + t) % s.length) 0

theorem turnL_take (s : List Int) (t k : Nat) (hk : k < s.length) (q : Int) (hq : s[(k + t) % s.length]? = some q) : (turnL s t).take (k + 1) = (turnL s t).take k ++ [q] := by
  have hl : (turnL s t).length = s.length := by simp [turnL]
  rw [List.take_succ_eq_append_getElem (by omega)]
  congr 1
  simp [turnL, hq]

set_option maxRecDepth 100000 in
set_option maxHeartbeats 3200000 in
theorem lawSold_any (a : Option Addr) (n cap : Nat) (xs : List Sale) (known turn : Int) (w : World) (hL : Lst w 9 cS a n cap xs) :
    Calls Tryz.prog 14 #[.slice a n cap, .int .i64 known, .int .i64 turn] w (Gives w (.bool true)) := by
  have hp := paid_any
  by_cases h30 : 30 < n
  · have hz : (30 : Int) < (n : Int) := by omega
    clear hL
    go_enter Tryz.func14, Tryz.ntmps14
    go_wp2_with (go_at_call 16; refine (hp _).mono ?_; rintro e w5 ⟨rfl, hB5⟩)
    go_ret
    exact ⟨rfl, hB5⟩
  have hz : ¬ (30 : Int) < (n : Int) := by omega
  have hlen := hL.len
  have hc := fun W (hB : RowKit.Below w.heap.size w W) => checkSales_any a n cap xs W (hL.below hB)
  have hs := fun W (hB : RowKit.Below w.heap.size w W) => Sold_any a n cap xs known W (hL.below hB)
  by_cases h0 : (checkSales xs).2 = 0
  · have hsl := soldOf_len (l := xs) known
    have hst := soldOf_strict h0 known
    have hso := fun (p : Int) (hp : p ∈ soldOf xs known) => saleOf_sold h0 known hp
    have hsb := fun (p : Int) (hp : p ∈ soldOf xs known) => sold_bounds h0 hp
    have hvp := fun (b : List Int) (hp : b.Perm (soldOf xs known)) => valueOf_perm h0 (by omega) known hp
    have hsf := fun (p : Int) W (hB : RowKit.Below w.heap.size w W) => saleOf_any a n cap xs p known W (hL.below hB)
    have hpr := fun (ps : List Int) => priceSum_bound h0 known ps
    rw [h0] at hc
    generalize (checkSales xs).1 = ci at hc
    generalize soldOf xs known = ps at *
    have HL := Lib.hid hL
    have Hso := Lib.hid hso
    have Hsb := Lib.hid hsb
    have Hvp := Lib.hid hvp
    have Hst := Lib.hid hst
    have Hpr := Lib.hid hpr
    have hps : ps.length ≤ 30 := by omega
    clear hL hso hsb hvp hst hpr h0 hlen h30 hsl
    go_enter Tryz.func14, Tryz.ntmps14
    go_wp2_with (fail)
    refine (hc w (Below.refl _ _)).mono ?_
    clear hc
    rintro e w1 ⟨rfl, hB1⟩
    go_wp2_with (fail)
    refine (hs w1 hB1).mono ?_
    clear hs
    rintro e w2 ⟨v, rfl, ho, hB2⟩
    have hB2 := hB1.trans (hB2.mono hB1.size)
    rw [← flat_int] at ho
    obtain ⟨av, cv, rfl, _, hl⟩ := Lst.of_owns (k := 1) (enc := cI) (fun _ => rfl) (by omega) ho rfl
    clear ho hB1
    obtain ⟨L, hLn⟩ : ∃ L, L = ps.length := ⟨_, rfl⟩
    rw [← hLn] at hl hps ⊢
    have HLn := Lib.hid hLn
    clear hLn
    have hmv : cv ≤ 9223372036854775807 := by have := hl.max; unfold maxLen at this; omega
    have hlv := hl.le
    obtain ⟨i0, hi0, hz0, hz1, hz2⟩ := info_parts infoI
    go_wp2_with (fail)
    go_loopw [10, 11, 12] (fun sm o i wr => ∃ k : Nat, k ≤ L ∧ i = .int .i64 k ∧ sm = .int .i64 (priceSum xs known (ps.take k)) ∧ wr.ownsRow w2.heap.size 3 1 o k (((turnL ps (IntKind.u64.wrap turn % (L : Int)).toNat).take k).map (Value.int .i64)) ∧ RowKit.Below w2.heap.size w2 wr) (fun _ _ i _ => L - (intOf i).toNat)
    case atStart => exact ⟨0, Nat.zero_le _, rfl, rfl, ⟨by simp, .inl ⟨rfl, rfl⟩⟩, Below.refl _ _⟩
    case round =>
      obtain ⟨k, hk, rfl, rfl, hor, hBr⟩ := hrel
      have hBw := hB2.trans (hBr.mono hB2.size)
      by_cases hlt : k < L
      · have hltz : (k : Int) < (L : Int) := by omega
        obtain ⟨p, hpk⟩ : ∃ p, ps[k]? = some p := ⟨ps[k]'(by rw [← HLn.out]; exact hlt), by simp⟩
        obtain ⟨x, hxm, hxs, hxp, hx1, hx2, hxi⟩ := Hso.out p (List.mem_of_getElem? hpk)
        subst hxp
        have hcs := hsf x.parcel
        rw [hxs] at hcs
        dsimp only at hcs
        obtain ⟨bb, off, rfl, hbb, hrg⟩ := hl.at_ k _ hpk
        have c0 := rangeAt_below hBr hbb hrg 0 _ rfl
        simp only [Nat.mul_one, Nat.add_zero] at c0
        have hur : 0 ≤ IntKind.u64.wrap turn % (L : Int) ∧ IntKind.u64.wrap turn % (L : Int) < (L : Int) := ⟨Int.emod_nonneg _ (by omega), Int.emod_lt_of_pos _ (by omega)⟩
        obtain ⟨t, ht⟩ : ∃ t : Nat, (t : Int) = IntKind.u64.wrap turn % (L : Int) := ⟨(IntKind.u64.wrap turn % (L : Int)).toNat, by omega⟩
        rw [← ht] at hur hor ⊢
        rw [Int.toNat_natCast] at hor
        have hqlt : (k + t) % L < L := Nat.mod_lt _ (by omega)
        obtain ⟨q, hqk⟩ : ∃ q, ps[(k + t) % L]? = some q := ⟨ps[(k + t) % L]'(by rw [← HLn.out]; exact hqlt), by simp⟩
        obtain ⟨b2, off2, e2, _, hrq⟩ := hl.at_ _ q hqk
        cases e2
        have cq := hrq 0 _ rfl
        simp only [Nat.mul_one, Nat.add_zero] at cq
        have hsn := priceSum_snoc xs known ps k x.parcel hpk
        rw [hxi] at hsn
        dsimp only at hsn
        have hsb := Hpr.out (ps.take k)
        have hlk : (ps.take k).length ≤ 30 := Nat.le_trans (List.length_take_le _ _) (by omega)
        obtain ⟨S, hS⟩ : ∃ S, S = priceSum xs known (ps.take k) := ⟨_, rfl⟩
        rw [← hS] at hsn hsb ⊢
        obtain ⟨hs1, hs2⟩ := hsb
        have hs3 : S ≤ 30000000000 := by omega
        have Hsn := Lib.hid hsn
        clear hsn hs2 hlk hS hxi
        have htt := turnL_take ps t k (by rw [← HLn.out]; exact hlt) q (by rw [← HLn.out]; exact hqk)
        have Htt := Lib.hid htt
        have Hq := Lib.hid hqk
        have Hpk := Lib.hid hpk
        have hm1 : (IntKind.u64.wrap turn).tmod (L : Int) = (t : Int) := by
          rw [ht, Int.tmod_eq_emod_of_nonneg (by rw [IntKind.wrap_u64]; omega)]
        obtain ⟨r, hr⟩ : ∃ r, r = (k + t) % L := ⟨_, rfl⟩
        rw [← hr] at hqlt cq
        have hm2 : ((k : Int) + (t : Int)).tmod (L : Int) = (r : Int) := by
          rw [hr, Int.tmod_eq_emod_of_nonneg (by omega)]; simp
        have hm3 : ((k : Int) + (t : Int)) % (L : Int) = (r : Int) := by rw [hr]; simp
        have hm4 : (r : Int) < (L : Int) := by omega
        obtain ⟨hur1, hur2⟩ := hur
        clear hrg hrq hxm hxs hsf htt hqk ht hr
        have hBW := fun W (h : RowKit.Below wr.heap.size wr W) => hcs W (hBw.trans (h.mono hBw.size))
        have hn0 : 0 < k → ∃ y, ps[k - 1]? = some y ∧ y < x.parcel := fun hk0 => by
          have hst := Hst.out
          rw [List.pairwise_iff_getElem] at hst
          obtain ⟨q1, q2⟩ := List.getElem?_eq_some_iff.1 Hpk.out
          have := hst (k - 1) k (by omega) q1 (by omega)
          rw [q2] at this
          exact ⟨_, List.getElem?_eq_getElem (by omega), this⟩
        have Hcs := Lib.hid hBW
        clear hcs hBW
        have hb : (0 < k ∧ ∃ y, y < x.parcel ∧ wr.cell? ⟨bb, off + (k - 1), none⟩ = some (.int .i64 y)) ∨ k = 0 := by
          by_cases hk0 : 0 < k
          · obtain ⟨y, hy1, hy2⟩ := hn0 hk0
            obtain ⟨b3, off3, e3, hb3, hr3⟩ := hl.at_ _ y hy1
            cases e3
            have c3 := rangeAt_below hBr hb3 hr3 0 _ rfl
            simp only [Nat.mul_one, Nat.add_zero] at c3
            exact .inl ⟨hk0, y, hy2, c3⟩
          · exact .inr (by omega)
        clear hn0
        go_wp2_with (fail)
        have hbbr : bb < wr.heap.size := Nat.lt_of_lt_of_le hbb hBr.size
        have cqr := (hBr.cell (p := ⟨bb, off + r, none⟩) hbb).trans cq
        rcases hb with ⟨hk0, y, hy, cy⟩ | hk0
        all_goals
          first
            | (have u0 : decide ((0 : Int) < (k : Int)) = true := decide_eq_true (by omega)
               have u1 : IntKind.i64.wrap ((k : Int) - 1) = (k : Int) - 1 := by rw [IntKind.wrap_i64]; omega
               have u2 : (0 : Int) ≤ (k : Int) - 1 := by omega
               have u3 : (k : Int) - 1 < (L : Int) := by omega
               have u4 : ((k : Int) - 1).toNat = k - 1 := by omega
               have u5 : decide (x.parcel ≤ y) = false := decide_eq_false (by omega)
               go_quiet (fail)
               clear u0 u1 u2 u3 u4 u5 cy hy)
            | (have u0 : decide ((0 : Int) < (k : Int)) = false := decide_eq_false (by omega)
               have u0n : decide (0 < k) = false := decide_eq_false (by omega)
               have u0m : ¬ 0 < k := by omega
               clear hk0
               go_quiet (fail)
               clear u0 u0n u0m)
          have hcd := Hcs.out (wr.drewN nq) (below_drewN' (Below.refl _ _) nq)
          go_wp2_with (first
            | (go_at_call 47; (with_reducible refine hcd.mono ?_); rintro e w4 ⟨rfl, hB4⟩)
            | fail)
          have hB4' : RowKit.Below wr.heap.size wr w4 := (below_drewN' (Below.refl _ _) nq).trans hB4
          obtain ⟨W5, hW5⟩ : ∃ W5, W5 = w4.alloc (.cells #[.int .i64 x.id, .int .i64 x.known, .int .i64 x.hour, .int .i64 x.parcel, .int .i64 x.price, .int .i64 x.carter, .int .i64 x.keeper, .int .i64 x.since, .int .i64 x.of_] 39) := ⟨_, rfl⟩
          rw [← hW5]
          have k5 : Blk W5 w4.heap.size #[.int .i64 x.id, .int .i64 x.known, .int .i64 x.hour, .int .i64 x.parcel, .int .i64 x.price, .int .i64 x.carter, .int .i64 x.keeper, .int .i64 x.since, .int .i64 x.of_] 39 := by rw [hW5]; exact Blk.new w4 _ _
          have hB5 : RowKit.Below wr.heap.size wr W5 := hW5 ▸ hB4'.alloc hB4'.size _
          have d0 := (hB5.cell (p := ⟨bb, off + k, none⟩) hbbr).trans c0
          have dq := (hB5.cell (p := ⟨bb, off + r, none⟩) hbbr).trans cqr
          have e5 := k5.cell
          have l5 := k5.lt
          have hor5 := own_below hor hB5
          have v1 : (x.parcel != x.parcel) = false := by simp
          clear hW5 hB4 hB4' c0 cqr hcd k5
          go_wp2_with (fail)
          go_quiet (fail)
          have hor6 : (W5.drewN nq).ownsRow w2.heap.size 3 1 u11 k (((turnL ps t).take k).map (Value.int .i64)) := own_below hor5 (below_drewN' (Below.refl _ _) nq)
          have hB6 : RowKit.Below w2.heap.size w2 (W5.drewN nq) := below_drewN' (hBr.trans (hB5.mono hBr.size)) nq
          have hs6 := hB6.size
          go_wp2_with (first
            | (at_builtin; refine wpList_append_lies _ rfl _ _ _ rfl w2.heap.size 3 i0 _ 1 8 Tryz.underlying35 hi0 hz0 hz1 hz2 rfl (by omega) _ k (((turnL ps t).take k).map (Value.int .i64)) rfl (hor6.alloc _) ⟨(W5.drewN nq).heap.size, 0, none⟩ 1 1 [.int .i64 q] rfl rfl (World.news_of_block (cs := #[.int .i64 q]) (t := 3) (fr := (0, 0)) (heap_alloc_new (W5.drewN nq) _)) (by simp [Value.oneCell']) (by omega) (by unfold maxLen; omega) (by omega) (by simp at hs6 ⊢; omega) _ rfl ?_; intro g cap1 w6 hown hgrow hat hlt1)
            | fail)
          go_roundw
          case rel =>
            refine ⟨k + 1, by omega, by go_num, by rw [Hsn.out], ?_, below_of_grown (hB6.alloc hB6.size _) (Nat.le_refl _) hgrow (own_ge' hor6)⟩
            rw [Int.toNat_natCast, Htt.out, List.map_append]
            exact hown
          case measure => simp [intOf]; omega
      · obtain rfl : k = L := by omega
        have hperm := turned_perm ps (IntKind.u64.wrap turn % (k : Int)).toNat
        have htl : (turnL ps (IntKind.u64.wrap turn % (k : Int)).toNat).length = k := by simp [turnL, HLn.out]
        rw [List.take_of_length_le (by rw [htl]; exact Nat.le_refl _)] at hor
        rw [List.take_of_length_le (by rw [← HLn.out]; exact Nat.le_refl _)]
        have hperm : (turnL ps (IntKind.u64.wrap turn % (k : Int)).toNat).Perm ps := hperm
        generalize turnL ps (IntKind.u64.wrap turn % (k : Int)).toNat = ts at *
        rw [← flat_int] at hor
        obtain ⟨a3, c3, rfl, _, hl3⟩ := Lst.of_owns (k := 1) (enc := cI) (fun _ => rfl) (by omega) hor htl
        have hv1 := Hvp.out ps (List.Perm.refl _)
        have hv2 := Hvp.out ts hperm
        have hwf : ∀ p ∈ ps, (Lit.int .i64 p).wf = true := fun p hp => by have := Hsb.out p hp; exact WalkArith.wf_i64 (by omega)
        have hwf2 : ∀ p ∈ ts, (Lit.int .i64 p).wf = true := fun p hp => hwf p (hperm.mem_iff.1 hp)
        have q1 := fun W (hB : RowKit.Below wr.heap.size wr W) => value_any a n cap xs av k cv ps known W (HL.out.below (hBw.trans (hB.mono hBw.size))) ((hl.below hBr).below hB) hwf
        have q2 := fun W (hB : RowKit.Below wr.heap.size wr W) => value_any a n cap xs a3 k c3 ts known W (HL.out.below (hBw.trans (hB.mono hBw.size))) (hl3.below hB) hwf2
        rw [hv1] at q1
        rw [hv2] at q2
        dsimp only at q1 q2
        generalize priceSum xs known ps = S at *
        have b1 : (S == S) = true := by simp
        have hP := Lib.hid hperm
        clear hv1 hv2 hwf hwf2 hor htl hperm hlt hsf
        go_wp2_with (fail)
        refine (q1 wr (Below.refl _ _)).mono ?_
        clear q1
        rintro e w3 ⟨rfl, hB3⟩
        go_wp2_with (fail)
        refine (q2 w3 hB3).mono ?_
        clear q2
        rintro e w4 ⟨rfl, hB4⟩
        have hB4 := hB3.trans (hB4.mono hB3.size)
        have hB5 := hBw.trans (hB4.mono hBw.size)
        go_wp2_with (fail)
        refine (hp _).mono ?_
        rintro e w5 ⟨rfl, hB6⟩
        go_wp2_with (fail)
        go_ret
        exact ⟨rfl, hB5.trans (hB6.mono hB5.size)⟩
  · have hso : soldOf xs known = [] := by unfold soldOf; rw [if_neg h0]
    rw [hso] at hs
    generalize (checkSales xs).2 = q at *
    generalize (checkSales xs).1 = ci at hc
    have g0 : (q != 0) = true := by simpa using h0
    clear h0 hso hL hlen
    go_enter Tryz.func14, Tryz.ntmps14
    go_wp2_with (fail)
    refine (hc w (Below.refl _ _)).mono ?_
    clear hc
    rintro e w1 ⟨rfl, hB1⟩
    go_wp2_with (fail)
    refine (hs w1 hB1).mono ?_
    clear hs
    rintro e w2 ⟨v, rfl, ho, hB2⟩
    have hB2 := hB1.trans (hB2.mono hB1.size)
    obtain ⟨_, ⟨rfl, _⟩ | ⟨g, c, cur, rfl, _⟩⟩ := ho
    all_goals
      go_wp2_with (fail)
      refine (hp _).mono ?_
      rintro e w5 ⟨rfl, hB6⟩
      go_wp2_with (fail)
      go_ret
      exact ⟨rfl, hB2.trans (hB6.mono hB2.size)⟩

end Go.Proofs.YtollegoajlfdiaaGreat
