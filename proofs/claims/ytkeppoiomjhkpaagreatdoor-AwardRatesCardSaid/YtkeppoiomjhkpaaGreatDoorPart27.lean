import Derived.Test.YtkeppoiomjhkpaaGreatDoorPart15
import Derived.Test.YtkeppoiomjhkpaaGreatDoorPart26
import Derived.Test.YtkeppoiomjhkpaaGreatDoorPart07
import Derived.StillTailTactics
import Derived.Deep.RegionHeld3
/-
  Walks: the sum of fractions, whatever they are.
-/
namespace Go.Proofs.YtkeppoiomjhkpaaGreatDoor
open Go.RowKit Lg Go.Sort Go.Shelf

set_option maxRecDepth 100000 in
set_option maxHeartbeats 800000 in
theorem plus_up (a b : Frac) (w : World) (ha : frOk a) (hb : frOk b) (hok : normOk (a.num * b.den + b.num * a.den) (a.den * b.den) = false) :
    Calls Tryz.prog 141 #[aF a, aF b] w fun e w' => e = .panicked [{ v := upV, recovered := false }] ∧ RowKit.Below w.heap.size w w' := by
  obtain ⟨a1, a2, a3, a4⟩ := ha
  obtain ⟨b1, b2, b3, b4⟩ := hb
  obtain ⟨p1, p2⟩ := mul_bound a1 a2 b3 b4
  obtain ⟨q1, q2⟩ := mul_bound b1 b2 a3 a4
  have d1 : 1 ≤ a.den * b.den := by
    calc (1 : Int) ≤ 1 * b.den := by omega
      _ ≤ a.den * b.den := Int.mul_le_mul_of_nonneg_right a3 (by omega)
  have d2 : a.den * b.den ≤ 1000000000000 := by
    calc a.den * b.den ≤ 1000000 * b.den := Int.mul_le_mul_of_nonneg_right a4 (by omega)
      _ ≤ 1000000000000 := by omega
  have hn := fun W => norm_up (a.num * b.den + b.num * a.den) (a.den * b.den) W (by omega) (by omega) (by omega) hok
  clear hok
  go_enter Tryz.func141, Tryz.ntmps141
  go_wp2_with (fail)
  refine (hn _).mono ?_
  clear hn
  rintro e w2 ⟨rfl, hB⟩
  exact ⟨rfl, rfl, ((((Below.refl _ w).alloc (Nat.le_refl _) _).alloc (by simp) _).alloc (by simp; omega) _).trans (hB.mono (by simp; omega))⟩

set_option maxRecDepth 100000 in
set_option maxHeartbeats 1600000 in
theorem sum1_up (a : Option Addr) (n cap : Nat) (xs : List Frac) (Bl Bs : Nat) (w : World) (hBl : Blk w Bl #[.slice a n cap] 117) (hBs : Blk w Bs #[.int .i64 0, .int .i64 1] 179)
    (hL : ∀ W', w.grownBy W' (some Bs) → Lst W' 2 cF a n cap xs) (q : Nat) (f : Frac) (hq : xs[q]? = some f) (hff : frOk f) (hok : sumsOk (xs.take q)) (hacc : frOk (sumFr (xs.take q)))
    (hbad : normOk ((sumFr (xs.take q)).num * f.den + f.num * (sumFr (xs.take q)).den) ((sumFr (xs.take q)).den * f.den) = false) :
    Calls Tryz.prog 140 #[.pointer (some ⟨Bl, 0, none⟩), .pointer (some ⟨Bs, 0, none⟩)] w fun e w' => e = .panicked [{ v := upV, recovered := false }] ∧ w.grownBy w' (some Bs) := by
  have hL0 := hL w (grown_refl _ _)
  have hm : cap ≤ 9223372036854775807 := by have := hL0.max; unfold maxLen at this; omega
  have hle := hL0.le
  have hqn : q < n := by rw [← hL0.len]; exact (List.getElem?_eq_some_iff.1 hq).1
  have hlen := Lib.hid hL0.len
  clear hL0
  have hne : Bl ≠ Bs := hBl.other hBs (by decide)
  have c0 := hBl.cell
  have hup := fun W => plus_up (sumFr (xs.take q)) f W hacc hff hbad
  have Hq := Lib.hid hq; clear hq hbad
  go_enter Tryz.func140, Tryz.ntmps140
  go_wp2
  go_loopw [6] (fun i wr => ∃ k : Nat, k ≤ q ∧ i = .int .i64 k ∧ Blk wr Bs #[.int .i64 (sumFr (xs.take k)).num, .int .i64 (sumFr (xs.take k)).den] 179 ∧ w.grownBy wr (some Bs)) (fun i _ => q - (intOf i).toNat)
  case atStart => exact ⟨0, Nat.zero_le _, rfl, hBs, grown_refl _ _⟩
  case round =>
    obtain ⟨k, hk, rfl, kS, hg⟩ := hrel
    have hkn : k < n := by omega
    obtain ⟨x, hx⟩ : ∃ x, xs[k]? = some x := ⟨xs[k]'(by rw [hlen.out]; exact hkn), by simp⟩
    have hLr := hL wr hg
    obtain ⟨b, off, rfl, hb, hr⟩ := hLr.at_ k x hx
    by_cases hlt : k < q
    · have hk2 : (xs.take q)[k]? = some x := by rw [List.getElem?_take_of_lt hlt]; exact hx
      obtain ⟨o1, o2, o3⟩ := hok k x hk2
      rw [List.take_take, Nat.min_eq_left (by omega)] at o2 o3
      have htk : sumFr (xs.take (k + 1)) = sumStep (sumFr (xs.take k)) x := by
        obtain ⟨h1, h2⟩ := List.getElem?_eq_some_iff.1 hx
        unfold sumFr
        rw [List.take_succ_eq_append_getElem h1, h2, List.foldl_append]; rfl
      have Htk := Lib.hid htk
      have Hx := Lib.hid hx
      clear htk hx hLr hk2 hup
      generalize sumFr (xs.take k) = acc at *
      have hp := fun W => plus_ok acc x W o2 o1 o3
      have hst : sumStep acc x = normN (acc.num * x.den + x.num * acc.den) (acc.den * x.den) := rfl
      rw [← hst] at hp
      rw [hst] at Htk
      have Hst := Lib.hid hst
      rw [← hst] at Htk
      clear hst o1 o2 o3
      generalize sumStep acc x = nx at *
      have cS := kS.cell
      have hltS := kS.lt
      go_wp2_with (first
        | (refine wpList_load_mid rfl 41 _ rfl b (off + k * 2) rfl (cF x) _ hr Tryz.underlying41 rfl (by kernel_rfl) ?_)
        | fail)
      refine (hp _).mono ?_
      clear hp cS
      rintro e w3 ⟨rfl, hB3⟩
      have kS3 := (kS.alloc (.cells #[.int .i64 x.num, .int .i64 x.den] 41)).below' hB3
      have hg3 : w.grownBy w3 (some Bs) := grown_trans hg (grown_of_below _ (((Below.refl _ wr).alloc (Nat.le_refl _) _).trans (hB3.mono (by simp))))
      have c3 := kS3.cell
      have f3 := kS3.frozen
      go_wp2_with (fail)
      go_roundw
      case rel =>
        refine ⟨k + 1, by omega, by go_num, ?_, grown_trans hg3 (grownBy_setCells w3 Bs 0 [.int .i64 nx.num, .int .i64 nx.den])⟩
        rw [Htk.out]
        have h := kS3.setCells 0 [.int .i64 nx.num, .int .i64 nx.den]
        rw [setAll_F] at h
        exact h
      case measure => simp [intOf]; omega
    · obtain rfl : k = q := by omega
      have e := Hq.out
      rw [hx] at e
      cases e
      clear hx hLr Hq
      generalize sumFr (xs.take k) = acc at *
      have cS := kS.cell
      have hltS := kS.lt
      go_wp2_with (first
        | (refine wpList_load_mid rfl 41 _ rfl b (off + k * 2) rfl (cF f) _ hr Tryz.underlying41 rfl (by kernel_rfl) ?_)
        | fail)
      refine (hup _).mono ?_
      clear hup cS
      rintro e w3 ⟨rfl, hB3⟩
      have hg3 : w.grownBy w3 (some Bs) := grown_trans hg (grown_of_below _ (((Below.refl _ wr).alloc (Nat.le_refl _) _).trans (hB3.mono (by simp))))
      exact ⟨rfl, rfl, hg3⟩

set_option maxRecDepth 100000 in
set_option maxHeartbeats 1600000 in
theorem sum_up (a : Option Addr) (n cap : Nat) (xs : List Frac) (w : World) (hL : Lst w 2 cF a n cap xs) (hn : n ≤ 1000) (hv : (xs.any fun f => !validF f) = false) (q : Nat) (f : Frac) (hq : xs[q]? = some f) (hff : frOk f) (hok : sumsOk (xs.take q)) (hacc : frOk (sumFr (xs.take q)))
    (hbad : normOk ((sumFr (xs.take q)).num * f.den + f.num * (sumFr (xs.take q)).den) ((sumFr (xs.take q)).den * f.den) = false) :
    Calls Tryz.prog 105 #[.slice a n cap] w (Gives w (.tuple #[aF ⟨0, 0⟩, .int .i64 2])) := by
  have eg : ∀ args w, (callFunc 140 args).run Tryz.prog w = .ok (.enter 140 args) w := enters_of Tryz.func140 (by kernel_rfl) rfl
  have hmf : ∀ (fn : Fn) (first cap : Array Value) (w : World), (Instr.makeFunc fn first cap).run Tryz.prog w = .ok (.func fn first cap) w := fun _ _ _ _ => rfl
  have hB1 : RowKit.Below w.heap.size w ((w.alloc (.cells #[.slice a n cap] 117)).alloc (.cells #[.int .i64 0, .int .i64 0] 41)) := ((Below.refl _ w).alloc (Nat.le_refl _) _).alloc (by simp) _
  have hva := valid_any a n cap xs ((w.alloc (.cells #[.slice a n cap] 117)).alloc (.cells #[.int .i64 0, .int .i64 0] 41)) (hL.below hB1)
  rw [hv] at hva
  clear hv
  go_enter Tryz.func105, Tryz.ntmps105
  go_wp2_with (fail)
  refine hva.mono ?_
  clear hva
  rintro e w2 ⟨rfl, hB2⟩
  have k1 : Blk w2 w.heap.size #[.slice a n cap] 117 := ((Blk.new w _ _).alloc _).below' hB2
  have k2 : Blk w2 (w.heap.size + 1) #[.int .i64 0, .int .i64 0] 41 := by
    have := (Blk.new (w.alloc (.cells #[.slice a n cap] 117)) 41 #[.int .i64 0, .int .i64 0]).below' hB2
    simpa using this
  have hb2 : RowKit.Below w.heap.size w w2 := hB1.trans (hB2.mono hB1.size)
  obtain ⟨w3, hw3⟩ : ∃ w3, w3 = w2.alloc (.cells #[.int .i64 0, .int .i64 1] 179) := ⟨_, rfl⟩
  have kS : Blk w3 w2.heap.size #[.int .i64 0, .int .i64 1] 179 := hw3 ▸ Blk.new _ _ _
  have hb23 : RowKit.Below w2.heap.size w2 w3 := hw3 ▸ (Below.refl _ w2).alloc (Nat.le_refl _) _
  have k13 := k1.below' hb23
  have k23 := k2.below' hb23
  have hb3 := hb2.trans (hb23.mono hb2.size)
  have hs2 := k2.lt
  have hsS := kS.lt
  have hr := ranged_up 140 #[.pointer (some ⟨w.heap.size, 0, none⟩), .pointer (some ⟨w2.heap.size, 0, none⟩)] eg w3 (fun w' => (w3.alloc (.cells #[.int .i64 0] 27)).grownBy w' (some w2.heap.size)) (by
    refine (sum1_up a n cap xs w.heap.size w2.heap.size (w3.alloc (.cells #[.int .i64 0] 27)) (k13.alloc _) (kS.alloc _) (fun W' hg => ?_) q f hq hff hok hacc hbad).mono ?_
    · refine hL.below ?_
      exact (hb3.alloc hb3.size _).grown hg (by simp; omega) (fun k e => by cases e; omega)
    · rintro e w' ⟨rfl, h2⟩
      refine ⟨rfl, ?_, h2⟩
      exact (Blk.new w3 _ _).kept h2 (by simp; omega))
  rw [hw3] at hr
  go_wp2_with (fail)
  refine hr.mono ?_
  clear hr
  rintro e w5 ⟨rfl, w4, hg4, rfl⟩
  rw [← hw3] at hg4 ⊢
  clear hw3
  have k24 : Blk w4 (w.heap.size + 1) #[.int .i64 0, .int .i64 0] 41 := (k23.alloc (.cells #[.int .i64 0] 27)).kept hg4 (by simp; omega)
  have hb4 : RowKit.Below w.heap.size w w4 := (hb3.alloc hb3.size (.cells #[.int .i64 0] 27)).grown hg4 (by simp; omega) (fun k e => by cases e; omega)
  have hsz4 := hg4.size
  obtain ⟨w5, hw5⟩ : ∃ w5, w5 = (w4.alloc (.cells #[] 200)).setCell ⟨w3.heap.size, 0, none⟩ (.int .i64 2) := ⟨_, rfl⟩
  rw [← hw5]
  have k25 : Blk w5 (w.heap.size + 1) #[.int .i64 0, .int .i64 0] 41 := hw5 ▸ (k24.alloc _).setCell_other (by omega) 0 _
  have hb5 : RowKit.Below w.heap.size w w5 := hw5 ▸ (hb4.alloc hb4.size _).setCell (p := ⟨w3.heap.size, 0, none⟩) (by simp; omega) _
  clear hw5 k24 k23 k13 k1 k2 kS
  have c6 := k25.cell
  have f6 := k25.frozen
  go_wp2_with (fail)
  have hbl : Blk (w5.setCells (w.heap.size + 1) 0 (cF ⟨0, 0⟩)) (w.heap.size + 1) (cF ⟨0, 0⟩).toArray 41 := by
    have h := k25.setCells 0 (cF ⟨0, 0⟩)
    have e : setAll #[.int .i64 0, .int .i64 0] 0 (cF ⟨0, 0⟩) = (cF ⟨0, 0⟩).toArray := by kernel_rfl
    rw [e] at h
    exact h
  (try simp only [Exit.inBlock, Exit.then])
  first
    | (refine bodyPost_ret (results_cell_tmp rfl _ (w5.setCells (w.heap.size + 1) 0 (cF ⟨0, 0⟩)) (w.heap.size + 1) 41 (cF ⟨0, 0⟩) _ rfl hbl Tryz.underlying41 rfl (by kernel_rfl)) rfl ?_
       exact ⟨rfl, below_setCells hb5 (show w.heap.size ≤ w.heap.size + 1 by omega) 0 (cF ⟨0, 0⟩)⟩)
    | (refine bodyPost_ret (results_cell_tmp rfl _ w5 (w.heap.size + 1) 41 (cF ⟨0, 0⟩) _ rfl k25 Tryz.underlying41 rfl (by kernel_rfl)) rfl ?_
       exact ⟨rfl, hb5⟩)

set_option maxRecDepth 100000 in
set_option maxHeartbeats 1600000 in
theorem sum_any (a : Option Addr) (n cap : Nat) (xs : List Frac) (w : World) (hL : Lst w 2 cF a n cap xs) :
    Calls Tryz.prog 105 #[.slice a n cap] w (Gives w (.tuple #[aF (sumOf xs).1, .int .i64 (sumOf xs).2])) := by
  by_cases h1 : 1000 < xs.length
  · have e : sumOf xs = (⟨0, 0⟩, 2) := by unfold sumOf; rw [if_pos h1]
    rw [e]
    rw [hL.len] at h1
    have h1z : (1000 : Int) < (n : Int) := by omega
    clear e hL
    obtain ⟨w2, hw2⟩ : ∃ w2, w2 = (w.alloc (.cells #[.slice a n cap] 117)).alloc (.cells #[.int .i64 0, .int .i64 0] 41) := ⟨_, rfl⟩
    have k2 : Blk w2 (w.heap.size + 1) #[.int .i64 0, .int .i64 0] 41 := by
      have := Blk.new (w.alloc (.cells #[.slice a n cap] 117)) 41 #[.int .i64 0, .int .i64 0]
      rw [hw2]; simpa using this
    have hb2 : RowKit.Below w.heap.size w w2 := hw2 ▸ ((Below.refl _ w).alloc (Nat.le_refl _) _).alloc (by simp) _
    go_enter Tryz.func105, Tryz.ntmps105
    go_wp2_with (fail)
    (try simp only [Exit.inBlock, Exit.then])
    first
      | (rw [← hw2]
         refine bodyPost_ret (results_cell_tmp rfl _ w2 (w.heap.size + 1) 41 (cF ⟨0, 0⟩) _ rfl k2 Tryz.underlying41 rfl (by kernel_rfl)) rfl ?_
         exact ⟨rfl, hb2⟩)
  · by_cases h2 : (xs.any fun f => !validF f) = true
    · have e : sumOf xs = (⟨0, 0⟩, 1) := by unfold sumOf; rw [if_neg h1, if_pos h2]
      rw [e]
      have h1z : ¬ (1000 : Int) < (n : Int) := by have := hL.len; omega
      have hB1 : RowKit.Below w.heap.size w ((w.alloc (.cells #[.slice a n cap] 117)).alloc (.cells #[.int .i64 0, .int .i64 0] 41)) := ((Below.refl _ w).alloc (Nat.le_refl _) _).alloc (by simp) _
      have hva := valid_any a n cap xs ((w.alloc (.cells #[.slice a n cap] 117)).alloc (.cells #[.int .i64 0, .int .i64 0] 41)) (hL.below hB1)
      rw [h2] at hva
      clear e h2 hL h1
      go_enter Tryz.func105, Tryz.ntmps105
      go_wp2_with (fail)
      refine hva.mono ?_
      clear hva
      rintro e w2 ⟨rfl, hB2⟩
      have k2 : Blk w2 (w.heap.size + 1) #[.int .i64 0, .int .i64 0] 41 := by
        have := (Blk.new (w.alloc (.cells #[.slice a n cap] 117)) 41 #[.int .i64 0, .int .i64 0]).below' hB2
        simpa using this
      have hb2 : RowKit.Below w.heap.size w w2 := hB1.trans (hB2.mono hB1.size)
      have c6 := k2.cell
      have f6 := k2.frozen
      go_wp2_with (fail)
      (try simp only [Exit.inBlock, Exit.then])
      have hbl : Blk (w2.setCells (w.heap.size + 1) 0 (cF ⟨0, 0⟩)) (w.heap.size + 1) (cF ⟨0, 0⟩).toArray 41 := by
        have h := k2.setCells 0 (cF ⟨0, 0⟩)
        have e : setAll #[.int .i64 0, .int .i64 0] 0 (cF ⟨0, 0⟩) = (cF ⟨0, 0⟩).toArray := by kernel_rfl
        rw [e] at h
        exact h
      first
        | (refine bodyPost_ret (results_cell_tmp rfl _ (w2.setCells (w.heap.size + 1) 0 (cF ⟨0, 0⟩)) (w.heap.size + 1) 41 (cF ⟨0, 0⟩) _ rfl hbl Tryz.underlying41 rfl (by kernel_rfl)) rfl ?_
           exact ⟨rfl, below_setCells hb2 (show w.heap.size ≤ w.heap.size + 1 by omega) 0 (cF ⟨0, 0⟩)⟩)
        | (refine bodyPost_ret (results_cell_tmp rfl _ w2 (w.heap.size + 1) 41 (cF ⟨0, 0⟩) _ rfl k2 Tryz.underlying41 rfl (by kernel_rfl)) rfl ?_
           exact ⟨rfl, hb2⟩)
    · have hv : (xs.any fun f => !validF f) = false := by simpa using h2
      have hall : ∀ f ∈ xs, frOk f := fun f hf => by
        have := List.any_eq_false.1 hv f hf
        exact validF_ok (by simpa using this)
      have e : sumOf xs = sumGo ⟨0, 1⟩ xs := by unfold sumOf; rw [if_neg h1, if_neg h2]
      rw [e]
      have hn : n ≤ 1000 := by have := hL.len; omega
      rcases sumGo_cases xs hall with ⟨s1, s2, _⟩ | ⟨k, f, s1, s2, s3, s4, s5⟩
      · rw [s2]; exact sum_ok a n cap xs w hL hn hv s1
      · rw [s5]; exact sum_up a n cap xs w hL hn hv k f s1 (hall f (List.mem_iff_getElem?.2 ⟨k, s1⟩)) s2 s3 s4

end Go.Proofs.YtkeppoiomjhkpaaGreatDoor

/-
  Walks: what is cut off of a part; the comparison of two of them.
-/
namespace Go.Proofs.YtkeppoiomjhkpaaGreatDoor
open Go.RowKit Lg Go.Sort Go.Shelf

set_option maxRecDepth 100000 in
set_option maxHeartbeats 1600000 in
theorem cut_any (Bt Bp : Nat) (total : Int) (a : Option Addr) (n cap : Nat) (xs : List Frac) (i : Nat) (x : Frac) (w : World) (hBt : Blk w Bt #[.int .i64 total] 3) (hBp : Blk w Bp #[.slice a n cap] 117)
    (hL : Lst w 2 cF a n cap xs) (hx : xs[i]? = some x) (ht : 0 ≤ total ∧ total ≤ 1000000000) (h0 : 0 ≤ x.num ∧ x.num ≤ x.den) (hb : 1 ≤ x.den ∧ x.den ≤ 1000000) :
    Calls Tryz.prog 106 #[.int .i64 i, .pointer (some ⟨Bt, 0, none⟩), .pointer (some ⟨Bp, 0, none⟩)] w (Gives w (aF ⟨(total * x.num) % x.den, x.den⟩)) := by
  have hm : cap ≤ 9223372036854775807 := by have := hL.max; unfold maxLen at this; omega
  have hle := hL.le
  have hi : i < n := by rw [← hL.len]; exact (List.getElem?_eq_some_iff.1 hx).1
  obtain ⟨b, off, rfl, hbl, hr⟩ := hL.at_ i x hx
  obtain ⟨b3, b4⟩ := hb
  obtain ⟨h0, h02⟩ := h0
  obtain ⟨t1, t2⟩ := ht
  have p1 : 0 ≤ total * x.num := Int.mul_nonneg t1 h0
  have p2 : total * x.num ≤ 1000000000000000 := by
    calc total * x.num ≤ 1000000000 * x.num := Int.mul_le_mul_of_nonneg_right t2 h0
      _ ≤ 1000000000000000 := by omega
  have hw1 : IntKind.i64.wrap (total * x.num) = total * x.num := by rw [IntKind.wrap_i64]; omega
  have hmod : 0 ≤ (total * x.num) % x.den ∧ (total * x.num) % x.den < x.den := ⟨Int.emod_nonneg _ (by omega), Int.emod_lt_of_pos _ (by omega)⟩
  have htm : (total * x.num).tmod x.den = (total * x.num) % x.den := Int.tmod_eq_emod_of_nonneg p1
  have hw2 : IntKind.i64.wrap ((total * x.num) % x.den) = (total * x.num) % x.den := by rw [IntKind.wrap_i64]; omega
  have hd0 : (x.den == 0) = false := by simp; omega
  have hd1 : x.den ≠ 0 := by omega
  have l1 := show w.cell? ⟨b, off + i * 2, none⟩ = some (.int .i64 x.num) from hr 0 _ rfl
  have l2 := show w.cell? ⟨b, off + i * 2 + 1, none⟩ = some (.int .i64 x.den) from hr 1 _ rfl
  clear hr hL
  go_enter Tryz.func106, Tryz.ntmps106
  go_wp2_with (fail)
  obtain ⟨w1, hw⟩ : ∃ w1, w1 = w.alloc (.cells #[.int .i64 0, .int .i64 0] 41) := ⟨_, rfl⟩
  rw [← hw]
  have c1 : w1.cell? ⟨b, off + i * 2, none⟩ = some (.int .i64 x.num) := hw ▸ cell_allocs l1 _
  have c2 : w1.cell? ⟨b, off + i * 2 + 1, none⟩ = some (.int .i64 x.den) := hw ▸ cell_allocs l2 _
  have c3 : w1.cell? ⟨Bt, 0, none⟩ = some (.int .i64 total) := hw ▸ (hBt.alloc _).cell 0
  have c4 : w1.cell? ⟨Bp, 0, none⟩ = some (.slice (some ⟨b, off, none⟩) n cap) := hw ▸ (hBp.alloc _).cell 0
  have k5 : Blk w1 w.heap.size #[.int .i64 0, .int .i64 0] 41 := hw ▸ Blk.new _ _ _
  have hb1 : RowKit.Below w.heap.size w w1 := hw ▸ (Below.refl _ w).alloc (Nat.le_refl _) _
  clear hw l1 l2 hBt hBp
  go_still_tail 18, (by kernel_rfl)
  change wpList _ _ _ _ _ w1.drew
  have c5 := k5.cell
  have f5 := k5.frozen
  go_wp2_with (fail)
  refine bodyPost_ret (results_cell_row rfl _ _ w.heap.size 41 _ _ _ rfl (((k5.setCell 0 _).setCell 1 _).drew) Tryz.underlying41 rfl (by kernel_rfl)) rfl ⟨rfl, ((hb1.setCell (p := ⟨w.heap.size, 0, none⟩) (Nat.le_refl _) _).setCell (p := ⟨w.heap.size, 1, none⟩) (Nat.le_refl _) _).drew⟩

end Go.Proofs.YtkeppoiomjhkpaaGreatDoor
