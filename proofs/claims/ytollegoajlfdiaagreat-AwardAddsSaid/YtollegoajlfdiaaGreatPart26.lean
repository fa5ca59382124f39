import Derived.Test.YtollegoajlfdiaaGreatPart16
import Derived.Test.YtollegoajlfdiaaGreatPart15
import Derived.Test.YtollegoajlfdiaaGreatPart25
/-
  Plain laws: what titles divide.
-/
namespace Lg
open Go

theorem total_zip : ∀ (ps vs : List Int), vs.length = ps.length → total (List.zipWith Share.mk ps vs) = sumI vs
  | [], [], _ => rfl
  | p :: ps, v :: vs, h => by
    rw [List.zipWith_cons_cons, total, sumI, total_zip ps vs (by simpa using h)]
  | [], _ :: _, h => by simp at h
  | _ :: _, [], h => by simp at h

theorem divide_err {pence : Int} {ts : List Title} (h : (divideOf pence ts).2 ≠ 0) : (divideOf pence ts).1 = ([], 0) := by
  unfold divideOf at h ⊢
  by_cases h1 : titOk ts = true
  · rw [if_pos h1] at h ⊢
    by_cases h2 : (splitOf pence (ts.map Title.share)).2 = 0
    · rw [if_pos h2] at h; exact absurd rfl h
    · rw [if_neg h2]
  · rw [if_neg h1]

theorem divide_facts {pence : Int} {ts : List Title} (h : (divideOf pence ts).2 = 0) :
    (divideOf pence ts).1.1.length = ts.length ∧ ts.length ≤ 41 ∧ (∀ (k : Nat) (y : Share) (t : Title), (divideOf pence ts).1.1[k]? = some y → ts[k]? = some t → y.party = t.party) ∧
      (∀ y ∈ (divideOf pence ts).1.1, 0 ≤ y.pence ∧ y.pence ≤ 1000000041) ∧ (divideOf pence ts).1.2 + total (divideOf pence ts).1.1 = pence := by
  unfold divideOf at h ⊢
  by_cases h1 : titOk ts = true
  · rw [if_pos h1] at h ⊢
    by_cases h2 : (splitOf pence (ts.map Title.share)).2 = 0
    · rw [if_pos h2]
      obtain ⟨s1, s2, _, _, s5⟩ := splitOf_bd h2
      rw [List.length_map] at s1 s2
      generalize (splitOf pence (ts.map Title.share)).1 = vs at *
      dsimp only
      have hg : ∀ (k : Nat) (y : Share), (List.zipWith Share.mk (ts.map Title.party) vs)[k]? = some y → ∃ t v, ts[k]? = some t ∧ vs[k]? = some v ∧ y = ⟨t.party, v⟩ := by
        intro k y hy
        rw [List.getElem?_zipWith, List.getElem?_map] at hy
        cases ht : ts[k]? with
        | none => rw [ht] at hy; cases hy
        | some t =>
          cases hv : vs[k]? with
          | none => rw [ht, hv] at hy; cases hy
          | some v => rw [ht, hv] at hy; exact ⟨t, v, rfl, rfl, by simpa using hy.symm⟩
      refine ⟨by rw [List.length_zipWith, List.length_map, s1]; omega, s2, ?_, ?_, ?_⟩
      · intro k y t hy ht
        obtain ⟨t', v, ht', _, rfl⟩ := hg k y hy
        rw [ht] at ht'; cases ht'; rfl
      · intro y hy
        obtain ⟨k, hk⟩ := List.mem_iff_getElem?.1 hy
        obtain ⟨t', v, _, hv, rfl⟩ := hg k y hk
        exact s5 v (List.mem_of_getElem? hv)
      · rw [total_zip _ _ (by rw [List.length_map]; exact s1)]; omega
    · rw [if_neg h2] at h; exact absurd h h2
  · rw [if_neg h1] at h; cases h

end Lg

/-
  Walk: the law of adds.
-/
namespace Go.Proofs.YtollegoajlfdiaaGreat
open Go.RowKit Lg Go.Sort Go.Shelf Go.Maps

set_option maxRecDepth 100000 in
set_option maxHeartbeats 3200000 in
theorem lawAdds_any (r : Rate) (s : Sale) (a : Option Addr) (n cap : Nat) (fs : List Int) (b : Option Addr) (m capB : Nat) (ts : List Title) (w : World) (hL : Lst w 1 cI a n cap fs) (hM : Lst w 3 cT b m capB ts) :
    Calls Tryz.prog 9 #[aR r, aS s, .slice a n cap, .slice b m capB] w (Gives w (.bool true)) := by
  have hp := paid_any
  by_cases h60 : (100 : Int) < (r.goods.size : Int)
  · clear hL hM
    go_enter Tryz.func9, Tryz.ntmps9
    go_wp2_with (go_at_call 16; refine (hp _).mono ?_; rintro e w5 ⟨rfl, hB5⟩)
    go_ret
    have hB0 : RowKit.Below w.heap.size w ((w.alloc (.cells #[.int .i64 r.id, .int .i64 r.known, .int .i64 r.from_, .string r.goods, .int .i64 r.finder.num, .int .i64 r.finder.den, .int .i64 r.cart, .int .i64 r.store, .int .i64 r.of_] 26)).alloc (.cells #[.int .i64 s.id, .int .i64 s.known, .int .i64 s.hour, .int .i64 s.parcel, .int .i64 s.price, .int .i64 s.carter, .int .i64 s.keeper, .int .i64 s.since, .int .i64 s.of_] 39)) := ((Below.refl _ w).alloc (Nat.le_refl _) _).alloc (by simp) _
    first | exact ⟨rfl, hB0.trans (hB5.mono hB0.size)⟩ | exact ⟨rfl, hB5⟩
  by_cases h61 : (60 : Int) < (n : Int)
  · clear hL hM
    go_enter Tryz.func9, Tryz.ntmps9
    go_wp2_with (go_at_call 16; refine (hp _).mono ?_; rintro e w5 ⟨rfl, hB5⟩)
    go_ret
    have hB0 : RowKit.Below w.heap.size w ((w.alloc (.cells #[.int .i64 r.id, .int .i64 r.known, .int .i64 r.from_, .string r.goods, .int .i64 r.finder.num, .int .i64 r.finder.den, .int .i64 r.cart, .int .i64 r.store, .int .i64 r.of_] 26)).alloc (.cells #[.int .i64 s.id, .int .i64 s.known, .int .i64 s.hour, .int .i64 s.parcel, .int .i64 s.price, .int .i64 s.carter, .int .i64 s.keeper, .int .i64 s.since, .int .i64 s.of_] 39)) := ((Below.refl _ w).alloc (Nat.le_refl _) _).alloc (by simp) _
    first | exact ⟨rfl, hB0.trans (hB5.mono hB0.size)⟩ | exact ⟨rfl, hB5⟩
  by_cases h62 : (60 : Int) < (m : Int)
  · clear hL hM
    go_enter Tryz.func9, Tryz.ntmps9
    go_wp2_with (go_at_call 16; refine (hp _).mono ?_; rintro e w5 ⟨rfl, hB5⟩)
    go_ret
    have hB0 : RowKit.Below w.heap.size w ((w.alloc (.cells #[.int .i64 r.id, .int .i64 r.known, .int .i64 r.from_, .string r.goods, .int .i64 r.finder.num, .int .i64 r.finder.den, .int .i64 r.cart, .int .i64 r.store, .int .i64 r.of_] 26)).alloc (.cells #[.int .i64 s.id, .int .i64 s.known, .int .i64 s.hour, .int .i64 s.parcel, .int .i64 s.price, .int .i64 s.carter, .int .i64 s.keeper, .int .i64 s.since, .int .i64 s.of_] 39)) := ((Below.refl _ w).alloc (Nat.le_refl _) _).alloc (by simp) _
    first | exact ⟨rfl, hB0.trans (hB5.mono hB0.size)⟩ | exact ⟨rfl, hB5⟩
  have h1 := fun W (hB : RowKit.Below w.heap.size w W) => awarded_res r s a n cap fs W (hL.below hB)
  clear hL
  go_enter Tryz.func9, Tryz.ntmps9
  go_wp2_with (fail)
  obtain ⟨W0, hW0⟩ : ∃ W0, W0 = ((w.alloc (.cells #[.int .i64 r.id, .int .i64 r.known, .int .i64 r.from_, .string r.goods, .int .i64 r.finder.num, .int .i64 r.finder.den, .int .i64 r.cart, .int .i64 r.store, .int .i64 r.of_] 26)).alloc (.cells #[.int .i64 s.id, .int .i64 s.known, .int .i64 s.hour, .int .i64 s.parcel, .int .i64 s.price, .int .i64 s.carter, .int .i64 s.keeper, .int .i64 s.since, .int .i64 s.of_] 39)) := ⟨_, rfl⟩
  rw [← hW0]
  have hB0 : RowKit.Below w.heap.size w W0 := hW0 ▸ ((Below.refl _ w).alloc (Nat.le_refl _) _).alloc (by simp) _
  have j1 := Blk.new w 26 #[.int .i64 r.id, .int .i64 r.known, .int .i64 r.from_, .string r.goods, .int .i64 r.finder.num, .int .i64 r.finder.den, .int .i64 r.cart, .int .i64 r.store, .int .i64 r.of_]
  have j2 := Blk.new (w.alloc (.cells #[.int .i64 r.id, .int .i64 r.known, .int .i64 r.from_, .string r.goods, .int .i64 r.finder.num, .int .i64 r.finder.den, .int .i64 r.cart, .int .i64 r.store, .int .i64 r.of_] 26)) 39 #[.int .i64 s.id, .int .i64 s.known, .int .i64 s.hour, .int .i64 s.parcel, .int .i64 s.price, .int .i64 s.carter, .int .i64 s.keeper, .int .i64 s.since, .int .i64 s.of_]
  simp only [World.size_alloc] at j2
  have k2 : Blk W0 (w.heap.size + 1) #[.int .i64 s.id, .int .i64 s.known, .int .i64 s.hour, .int .i64 s.parcel, .int .i64 s.price, .int .i64 s.carter, .int .i64 s.keeper, .int .i64 s.since, .int .i64 s.of_] 39 := by rw [hW0]; exact j2
  clear j1 j2 hW0
  refine (h1 W0 hB0).mono ?_
  clear h1
  rintro e w2 ⟨pr, ct, st, fd, rs, er, a1, n1, c1, ys, rfl, hL1, hB1, hn1, hy1, hR⟩
  have k2 := k2.below' hB1
  have hB2 := hB0.trans (hB1.mono hB0.size)
  have hM := hM.below hB2
  clear hB0 hB1
  have e2 := k2.cell
  have l2 := k2.lt
  have hB3 := hB2.alloc hB2.size (.cells #[.int .i64 pr, .int .i64 ct, .int .i64 st, .int .i64 fd, .int .i64 rs, .slice a1 n1 c1] 59)
  rcases hR with ⟨rfl, o1, rfl, rfl, rfl, rfl, rfl, hl⟩ | ⟨rfl, _, rfl, rfl, rfl, rfl, rfl, rfl⟩
  · have hf := (awOk_fees o1).1
    have hs := aw_shares hf (awOk_fees o1).2 hl
    have hb := aw_bounds hf
    have hrs : awRest r s = s.price - awCart r s - awStore r s - awFind r s := rfl
    have hpb := fees_bounds hf
    generalize awCart r s = ct at *
    generalize awStore r s = st at *
    generalize awFind r s = fd at *
    generalize awRest r s = rs at *
    have g1 : ¬ ct < 0 := by omega
    have g2 : ¬ st < 0 := by omega
    have g3 : ¬ fd < 0 := by omega
    have g4 : ¬ rs < 0 := by omega
    have g5 : (ct + st + fd + rs != s.price) = false := by simp; omega
    obtain ⟨s1, s2⟩ := hs
    have Hs := Lib.hid s1; have Ht := Lib.hid s2; have Hl := Lib.hid hl; have Hrs := Lib.hid hrs
    have hpr1 : s.price ≤ 1000000000 := hpb.2.2.2.2.2.1
    have hct : ct ≤ 1000000000 := by omega
    have hst : st ≤ 1000000000 := by omega
    have hfd : fd ≤ 1000000000 := by omega
    have hrs1 : rs ≤ 1000000000 := by omega
    clear s1 s2 hl hrs hpb hb hf o1
    go_wp2_with (fail)
    obtain ⟨W1, hW1⟩ : ∃ W1, W1 = w2.alloc (.cells #[.int .i64 s.price, .int .i64 ct, .int .i64 st, .int .i64 fd, .int .i64 rs, .slice a1 n1 c1] 59) := ⟨_, rfl⟩
    rw [← hW1] at hB3 ⊢
    clear e2 l2
    have j6 : Blk W1 w2.heap.size #[.int .i64 s.price, .int .i64 ct, .int .i64 st, .int .i64 fd, .int .i64 rs, .slice a1 n1 c1] 59 := by rw [hW1]; exact Blk.new w2 _ _
    have hz0 : RowKit.Below w2.heap.size w2 W1 := hW1 ▸ (Below.refl _ w2).alloc (Nat.le_refl _) _
    have hL1 := hL1.below hz0
    have hM := hM.below hz0
    clear hW1 hz0 k2
    have hlen := Lib.hid hL1.len
    have hle1 := hL1.le
    have hmv : c1 ≤ 9223372036854775807 := by have := hL1.max; unfold maxLen at this; omega
    go_loopw [11, 12] (fun t i wr => ∃ k : Nat, k ≤ n1 ∧ i = .int .i64 k ∧ t = .int .i64 (total (ys.take k)) ∧ RowKit.Below W1.heap.size W1 wr) (fun _ i _ => n1 - (intOf i).toNat)
    case atStart => exact ⟨0, Nat.zero_le _, rfl, rfl, Below.refl _ _⟩
    case round =>
      obtain ⟨k, hk, rfl, rfl, hBq⟩ := hrel
      have j6 := j6.below' hBq
      have hL1 := hL1.below hBq
      have hM := hM.below hBq
      have hBw := hB3.trans (hBq.mono hB3.size)
      have e6 := j6.cell
      have l6 := j6.lt
      by_cases hlt : k < n1
      · have hltz : (k : Int) < (n1 : Int) := by omega
        obtain ⟨x, hx⟩ : ∃ x, ys[k]? = some x := ⟨ys[k]'(by rw [hlen.out]; exact hlt), by simp⟩
        obtain ⟨x1, x2, x3, x4, x5⟩ := Hs.out x (List.mem_of_getElem? hx)
        have htk := total_take ys k x hx
        have Htk := Lib.hid htk
        clear htk
        obtain ⟨bb, off, rfl, hbb, hr⟩ := hL1.at_ k x hx
        have Hx := Lib.hid hx
        clear hx
        go_wp2_with (first
          | (refine wpList_load_mid rfl 69 _ rfl bb (off + k * 2) rfl (cSh x) _ hr Tryz.underlying69 rfl (by kernel_rfl) ?_)
          | fail)
        obtain ⟨WX, hWX⟩ : ∃ WX, WX = wr.alloc (.cells #[.int .i64 x.party, .int .i64 x.pence] 69) := ⟨_, rfl⟩
        rw [← hWX]
        have kx : Blk WX wr.heap.size #[.int .i64 x.party, .int .i64 x.pence] 69 := by rw [hWX]; exact Blk.new wr _ _
        have j6 : Blk WX w2.heap.size #[.int .i64 s.price, .int .i64 ct, .int .i64 st, .int .i64 fd, .int .i64 rs, .slice (some ⟨bb, off, none⟩) n1 c1] 59 := by rw [hWX]; exact j6.alloc _
        have hzx : RowKit.Below wr.heap.size wr WX := hWX ▸ (Below.refl _ wr).alloc (Nat.le_refl _) _
        have hL1 := hL1.below hzx
        have hBX := hBq.trans (hzx.mono hBq.size)
        clear hWX hzx e6 l6 hr hBw
        have t1 : decide (x.pence ≤ 0) = false := decide_eq_false (by omega)
        have t2 : decide (x.party < 1) = false := decide_eq_false (by omega)
        have t3 : decide (40 < x.party) = false := decide_eq_false (by omega)
        have t4 : (x.pence != x.pence) = false := by simp
        have t5 : ¬ x.pence ≤ 0 := by omega
        have t6 : ¬ x.party < 1 := by omega
        have t7 : ¬ 40 < x.party := by omega
        have o1 : ∀ W, RowKit.Below WX.heap.size WX W → Calls Tryz.prog 40 #[.agg #[.int .i64 s.price, .int .i64 ct, .int .i64 st, .int .i64 fd, .int .i64 rs, .slice (some ⟨bb, off, none⟩) n1 c1], .int .i64 x.party] W (Gives W (.int .i64 x.pence)) :=
          fun W hW => (of_any s.price ct st fd rs x.party _ n1 c1 ys W (hL1.below hW) hn1 hy1).mono fun e w' h => ⟨by rw [h.1, x5], h.2⟩
        have tb : 0 ≤ total (ys.take k) ∧ total (ys.take k) ≤ 100000000000 * (ys.take k).length := total_bound (fun y hy => by have := Hs.out y (List.mem_of_mem_take hy); omega)
        have hlk : (ys.take k).length ≤ 1100 := Nat.le_trans (List.length_take_le _ _) (by omega)
        generalize total (ys.take k) = tk at *
        obtain ⟨tb1, tb2⟩ := tb
        have tb3 : tk ≤ 110000000000000 := by omega
        clear tb2 hlk x5
        have cF := regrown_call (w := WX) (v := .int .i64 x.pence) o1
        have cX := kx.regrown
        have c6 := j6.regrown
        have hBT := hB3.trans (hBX.mono hB3.size)
        have hsX := hBX.size
        clear o1 hBT
        have fin : ∀ d os, RowKit.Below W1.heap.size W1 (grow (redrawn WX d) os) := fun d os => hBX.trans ((below_regrown WX d os).mono hBX.size)
        by_cases hk0 : k = 0
        · subst hk0
          simp only [Int.natCast_zero]
          refine wp_region_quiet_below (by kernel_rfl) (by kernel_rfl) ?_
          repeat (go_big_quiet_step (exact cF _ _))
          refine wpQuiet_nil ?_
          intro _ hw'
          obtain ⟨⟨dq, osq⟩, hw''⟩ := hw'
          subst hw''
          go_wp2_with (fail)
          go_roundw
          case rel => exact ⟨0 + 1, by omega, by go_num, by first | (rw [Htk.out]; done) | (rw [Htk.out]; go_num), fin _ _⟩
          case measure => simp [intOf]; omega
        · obtain ⟨j, rfl⟩ : ∃ j, k = j + 1 := ⟨k - 1, by omega⟩
          obtain ⟨y, hy⟩ : ∃ y, ys[j]? = some y := ⟨ys[j]'(by rw [hlen.out]; omega), by simp⟩
          have hlt2 : y.party < x.party := by
            have hp := Hl.out.1
            rw [List.pairwise_iff_getElem] at hp
            obtain ⟨q1, q2⟩ := List.getElem?_eq_some_iff.1 hy
            obtain ⟨q3, q4⟩ := List.getElem?_eq_some_iff.1 Hx.out
            have := hp j (j + 1) (by simpa using q1) (by simpa using q3) (by omega)
            rw [List.getElem_map, List.getElem_map, q2, q4] at this
            exact this
          obtain ⟨bb2, off2, e2, hbb2, hr2⟩ := hL1.at_ j y hy
          cases e2
          have cY := cell_regrown (hr2 0 _ rfl)
          simp only [Nat.add_zero] at cY
          clear hr2 hy
          have u1 : decide (x.party ≤ y.party) = false := decide_eq_false (by omega)
          have u2 : ¬ x.party ≤ y.party := by omega
          have hkp : decide ((0 : Int) < (j : Int) + 1) = true := decide_eq_true (by omega)
          have hkp' : (0 : Int) < (j : Int) + 1 := by omega
          have hwj : IntKind.i64.wrap ((j : Int)) = (j : Int) := by rw [IntKind.wrap_i64]; omega
          have hjn : (j : Int) < (n1 : Int) := by omega
          refine wp_region_quiet_below (by kernel_rfl) (by kernel_rfl) ?_
          repeat (go_big_quiet_step (exact cF _ _))
          refine wpQuiet_nil ?_
          intro _ hw'
          obtain ⟨⟨dq, osq⟩, hw''⟩ := hw'
          subst hw''
          go_wp2_with (fail)
          go_roundw
          case rel => exact ⟨j + 1 + 1, by omega, by go_num, by rw [Htk.out], fin _ _⟩
          case measure => simp [intOf]; omega
      · obtain rfl : k = n1 := by omega
        rw [List.take_of_length_le (by rw [hlen.out]; exact Nat.le_refl _)]
        rw [Ht.out]
        have g6 : (ct + st + fd != ct + st + fd) = false := by simp
        clear hlt
        have hD := divide_any rs b m capB ts wr (by omega) hM
        have dE := fun (h : (divideOf rs ts).2 ≠ 0) => divide_err h
        have dF := fun (h : (divideOf rs ts).2 = 0) => divide_facts h
        generalize divideOf rs ts = dv at *
        obtain ⟨⟨zs, left⟩, er⟩ := dv
        dsimp only at dE dF
        go_wp2_with (fail)
        refine hD.mono ?_
        clear hD
        rintro e w3 ⟨v, rfl, ho3, hB4⟩
        dsimp only at ho3 ⊢
        have hBw := hBq.trans (hB4.mono hBq.size)
        have hB5 := hB3.trans (hBw.mono hB3.size)
        have j6 := j6.below' hB4
        have hM := hM.below hB4
        obtain ⟨av, cv, rfl, _, hLz⟩ := Lst.of_owns (k := 2) (enc := cSh) (fun _ => rfl) (by omega) ho3 rfl
        clear ho3 e6 l6
        have e6 := j6.cell
        have l6 := j6.lt
        by_cases her : er = 0
        · subst her
          obtain ⟨f1, f2, f3, f4, f5⟩ := dF rfl
          clear dE dF
          have Hf1 := Lib.hid f1
          have Hf3 := Lib.hid f3
          have Hf4 := Lib.hid f4
          have hzl := hLz.le
          have hzm : cv ≤ 9223372036854775807 := by have := hLz.max; unfold maxLen at this; omega
          have hml := Lib.hid hM.len
          have hmm : capB ≤ 9223372036854775807 := by have := hM.max; unfold maxLen at this; omega
          have hmle := hM.le
          obtain ⟨lz, hlz⟩ : ∃ lz, lz = zs.length := ⟨_, rfl⟩
          rw [← hlz] at hLz hzl ⊢
          have hlm : lz = m := by rw [hlz, f1, hml.out]
          have hl41 : m ≤ 41 := by rw [← hml.out]; exact f2
          have htb : 0 ≤ total zs ∧ total zs ≤ 1000000041 * zs.length := total_bound f4
          have Hlz := Lib.hid hlz
          have hleft : left = rs - total zs := by omega
          have Hleft := Lib.hid hleft
          obtain ⟨T, hT⟩ : ∃ T, T = total zs := ⟨_, rfl⟩
          rw [← hT] at htb hleft
          rw [← hlz] at htb
          have hT1 : 0 ≤ T := htb.1
          have hT2 : T ≤ 41000001681 := by omega
          have HT := Lib.hid hT
          clear f1 f2 f3 f4 f5 hlz htb hT hleft
          subst hlm
          go_wp2_with (fail)
          go_loopw [15, 17] (fun lf i wr2 => ∃ q : Nat, q ≤ lz ∧ i = .int .i64 q ∧ lf = .int .i64 (left + total (zs.take q)) ∧ RowKit.Below w3.heap.size w3 wr2) (fun _ i _ => lz - (intOf i).toNat)
          case atStart => exact ⟨0, Nat.zero_le _, rfl, by simp [total], Below.refl _ _⟩
          case round =>
            obtain ⟨q, hq, rfl, rfl, hBr⟩ := hrel
            have hBq2 := hB5.trans (hBr.mono hB5.size)
            have j7 := j6.below' hBr
            have e7 := j7.cell
            have l7 := j7.lt
            by_cases hlt : q < lz
            · have hltz : (q : Int) < (lz : Int) := by omega
              obtain ⟨y, hy⟩ : ∃ y, zs[q]? = some y := ⟨zs[q]'(by rw [← Hlz.out]; exact hlt), by simp⟩
              obtain ⟨t, ht⟩ : ∃ t, ts[q]? = some t := ⟨ts[q]'(by rw [hml.out]; exact hlt), by simp⟩
              obtain ⟨b1, o1, rfl, hb1, hr1⟩ := hLz.at_ q y hy
              obtain ⟨b2, o2, rfl, hb2, hr2⟩ := hM.at_ q t ht
              have p0 := rangeAt_below hBr hb1 hr1 0 _ rfl
              have p1 := rangeAt_below hBr hb1 hr1 1 _ rfl
              have t0 := rangeAt_below hBr hb2 hr2 0 _ rfl
              simp only [Nat.add_zero] at p0 t0
              have hyb := Hf4.out y (List.mem_of_getElem? hy)
              obtain ⟨hyb1, hyb2⟩ := hyb
              have hpt := Hf3.out q y t hy ht
              have htk := total_take zs q y hy
              have htb := total_bound (l := zs.take q) (fun z hz => Hf4.out z (List.mem_of_mem_take hz))
              have hlk : (zs.take q).length ≤ 41 := Nat.le_trans (List.length_take_le _ _) (by omega)
              have v1 : decide (y.pence < 0) = false := decide_eq_false (by omega)
              have v2 : (y.party != t.party) = false := by simp [hpt]
              have Htk := Lib.hid htk
              have HLf := Hleft.out
              have HTT := HT.out
              generalize total (zs.take q) = tq at *
              obtain ⟨tb1, tb2⟩ := htb
              have tb3 : tq ≤ 41000001681 := by omega
              have lf1 : -41000001681 ≤ left := by omega
              have lf2 : left ≤ 1000000000 := by omega
              have hwl : IntKind.i64.wrap (left + tq + y.pence) = left + tq + y.pence := by rw [IntKind.wrap_i64]; omega
              clear hr1 hr2 hy ht hpt htk tb2 hlk HLf HTT
              go_wp2
              go_quiet (fail)
              go_wp2
              go_roundw
              case rel => exact ⟨q + 1, by omega, by go_num, by rw [Htk.out]; go_num, below_drewN' hBr _⟩
              case measure => simp [intOf]; omega
            · obtain rfl : q = lz := by omega
              rw [List.take_of_length_le (by rw [← Hlz.out]; exact Nat.le_refl _)]
              have e : left + total zs = rs := by rw [Hleft.out]; omega
              rw [e]
              have v3 : ((q : Int) == (q : Int)) = true := by simp
              have v4 : (rs == rs) = true := by simp
              clear e
              have HLe := Lib.hid Hleft
              go_wp2_with (fail)
              refine (hp _).mono ?_
              rintro e w5 ⟨rfl, hB6⟩
              have j8 := j7.below' hB6
              have e8 := j8.cell
              go_wp2_with (fail)
              go_ret
              exact ⟨rfl, hBq2.trans (hB6.mono hBq2.size)⟩
        · have hz := dE her
          obtain ⟨rfl, rfl⟩ : zs = [] ∧ left = 0 := by simpa using hz
          have g7 : (er != 0) = true := by simpa using her
          clear dE dF hz her
          go_wp2_with (fail)
          refine (hp _).mono ?_
          rintro e w5 ⟨rfl, hB6⟩
          go_wp2_with (fail)
          go_ret
          exact ⟨rfl, hB5.trans (hB6.mono hB5.size)⟩
  · obtain rfl : n1 = 0 := by have := hL1.len; simpa using this.symm
    have j6 := Blk.new w2 59 #[.int .i64 0, .int .i64 0, .int .i64 0, .int .i64 0, .int .i64 0, .slice a1 0 c1]
    go_wp2_with (fail)
    refine (hp _).mono ?_
    rintro e w5 ⟨rfl, hB5⟩
    have j6 := j6.below' hB5
    have e6 := j6.cell
    go_wp2_with (fail)
    go_ret
    exact ⟨rfl, hB3.trans (hB5.mono hB3.size)⟩

end Go.Proofs.YtollegoajlfdiaaGreat
