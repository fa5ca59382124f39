import Derived.Test.YtmeomhojbobpbaaGreatDoorPart43
import Derived.Test.YtmeomhojbobpbaaGreatDoorPart07
import Derived.Test.YtmeomhojbobpbaaGreatDoorPart42
import Derived.Deep.CutRange
import Derived.Deep.DeepCutAuto
/-
  Plain law: the pence of a division add up to the total times the sum of the parts, rounded down; none is off by one.
-/
namespace Lg
open Go Go.Sort

theorem incr_mem (l : List Int) (is : List Nat) (hd : is.Nodup) (i : Nat) (hi : i < l.length) : (incr l is).getD i 0 = l.getD i 0 + (if i ∈ is then 1 else 0) := by
  induction is generalizing l with
  | nil => simp [incr]
  | cons j r ih =>
    obtain ⟨h1, h2⟩ := List.nodup_cons.1 hd
    rw [incr, ih _ h2 (by rw [List.length_set]; exact hi)]
    by_cases e : j = i
    · subst e
      rw [if_neg h1, if_pos (by simp), List.getD_eq_getElem?_getD, List.getElem?_set_self hi]
      simp
    · have e2 : (l.set j (l.getD j 0 + 1)).getD i 0 = l.getD i 0 := by
        rw [List.getD_eq_getElem?_getD, List.getElem?_set_ne e, ← List.getD_eq_getElem?_getD]
      rw [e2]
      by_cases hm : i ∈ r
      · rw [if_pos hm, if_pos (List.mem_cons_of_mem _ hm)]
      · rw [if_neg hm, if_neg (fun h => (List.mem_cons.1 h).elim (fun h => e h.symm) hm)]

theorem sum_set (l : List Int) (i : Nat) (hi : i < l.length) (v : Int) : (l.set i v).sum = l.sum - l.getD i 0 + v := by
  induction l generalizing i with
  | nil => simp at hi
  | cons x r ih =>
    cases i with
    | zero => simp; omega
    | succ i =>
      have hi' : i < r.length := by simpa using hi
      have := ih i hi'
      simp only [List.set_cons_succ, List.sum_cons, this]
      simp only [List.getD_cons_succ]
      omega

theorem incr_sum (l : List Int) (is : List Nat) (h : ∀ i ∈ is, i < l.length) : (incr l is).sum = l.sum + is.length := by
  induction is generalizing l with
  | nil => simp [incr]
  | cons j r ih =>
    rw [incr, ih _ (fun i hi => by rw [List.length_set]; exact h i (List.mem_cons_of_mem _ hi)), sum_set _ _ (h j List.mem_cons_self), List.length_cons]
    omega

theorem baseSum_sum (total : Int) (l : List Frac) : (l.map (baseF total)).sum = baseSum total l := by
  induction l with
  | nil => rfl
  | cons f r ih => rw [List.map_cons, List.sum_cons, ih, baseSum]

/-- Those that get a penny more have something cut off. -/
theorem order_pos {total : Int} {l : List Frac} (h : splitFine total l = true) (k : Nat) (hk : k ≤ nzOf total l) :
    (splitOrder total l).toList.Nodup ∧ (splitOrder total l).toList.length = l.length ∧ (∀ i ∈ (splitOrder total l).toList, i < l.length) ∧
    ∀ p ∈ (splitOrder total l).toList.take k, 0 < cutN total (l.getD p ⟨0, 1⟩) := by
  obtain ⟨f0, f1, fa⟩ := fine_all h
  have hget : ∀ i, i < l.length → l.getD i ⟨0, 1⟩ ∈ l := fun i hi => by rw [List.getD_eq_getElem?_getD, List.getElem?_eq_getElem hi]; exact List.getElem_mem _
  have hDp : ∀ i, 0 < (l.getD i ⟨0, 1⟩).den := fun i => by
    by_cases hi : i < l.length
    · have := (fa _ (hget i hi)).2.1.2.2.1; omega
    · rw [List.getD_eq_getElem?_getD, List.getElem?_eq_none (by omega)]; decide
  have hK : ∀ i, 0 ≤ cutN total (l.getD i ⟨0, 1⟩) := fun i => by
    unfold cutN
    exact Int.emod_nonneg _ (by have := hDp i; omega)
  have hSW := cmpP_swo (total := total) hDp
  obtain ⟨hperm, hsort⟩ := stableS_spec hSW l.length
  have hro : (stableS (ltC (cmpP total l)) (List.range l.length).toArray) = splitOrder total l := rfl
  rw [hro] at hperm hsort
  have hnz : nzOf total l = (splitOrder total l).toList.countP (fun i => decide (cutN total (l.getD i ⟨0, 1⟩) ≠ 0)) := by
    rw [hperm.countP_eq]
    unfold nzOf
    conv => lhs; rw [← range_getD l]
    rw [List.countP_map]; rfl
  have hltd := fun i j => cmpP_neg total l i j
  have hrl : (splitOrder total l).toList.length = l.length := by rw [hperm.length_eq, List.length_range]
  have hnd : (splitOrder total l).toList.Nodup := hperm.nodup_iff.2 List.nodup_range
  have hmem2 : ∀ i, i ∈ (splitOrder total l).toList → i < l.length := fun i hi => List.mem_range.1 (hperm.mem_iff.1 hi)
  have hs2 : ∀ i j, i < j → j < l.length → tieLt (ltC (cmpP total l)) ((splitOrder total l).toList.getD j 0) ((splitOrder total l).toList.getD i 0) = false := fun i j h1 h2 => by
    rw [arr_get, arr_get]; exact hsort i j (Nat.zero_le _) h1 h2
  refine ⟨hnd, hrl, hmem2, fun p hp => ?_⟩
  clear hsort hperm hro fa
  generalize (splitOrder total l).toList = r at *
  generalize ltC (cmpP total l) = lt at *
  obtain ⟨s, hs⟩ := List.getElem?_of_mem hp
  have hsk : s < k := by
    have := (List.getElem?_eq_some_iff.1 hs).1
    rw [List.length_take] at this; omega
  rw [List.getElem?_take_of_lt hsk] at hs
  have hsl : s < r.length := (List.getElem?_eq_some_iff.1 hs).1
  have hgp : r.getD s 0 = p := by rw [List.getD_eq_getElem?_getD, hs]; rfl
  rcases Int.lt_or_le 0 (cutN total (l.getD p ⟨0, 1⟩)) with h1 | h1
  · exact h1
  · exfalso
    have h0 : cutN total (l.getD p ⟨0, 1⟩) = 0 := by have := hK p; omega
    have hz2 : (r.drop s).countP (fun i => decide (cutN total (l.getD i ⟨0, 1⟩) ≠ 0)) = 0 := by
      rw [List.countP_eq_zero]
      intro i hi
      obtain ⟨j, hj⟩ := List.getElem?_of_mem hi
      rw [List.getElem?_drop] at hj
      simp only [ne_eq, decide_not, Bool.not_eq_true', decide_eq_false_iff_not, Decidable.not_not]
      by_cases hj0 : j = 0
      · subst hj0
        rw [Nat.add_zero, hs] at hj
        injection hj with hj
        rw [← hj]; exact h0
      · have hjl : s + j < l.length := by rw [← hrl]; exact (List.getElem?_eq_some_iff.1 hj).1
        have e : r.getD (s + j) 0 = i := by rw [List.getD_eq_getElem?_getD, hj]; rfl
        have := hs2 s (s + j) (by omega) hjl
        rw [e, hgp] at this
        unfold tieLt at this
        rw [Bool.or_eq_false_iff, hltd, decide_eq_false_iff_not, h0] at this
        have h3 := this.1
        rw [Int.zero_mul] at h3
        rcases Int.lt_or_le 0 (cutN total (l.getD i ⟨0, 1⟩)) with h4 | h4
        · exact absurd (Int.mul_pos h4 (hDp p)) h3
        · have := hK i; omega
    have hc : r.countP (fun i => decide (cutN total (l.getD i ⟨0, 1⟩) ≠ 0)) ≤ s := by
      conv => lhs; rw [← List.take_append_drop s r]
      rw [List.countP_append, hz2, Nat.add_zero]
      exact Nat.le_trans List.countP_le_length (List.length_take_le _ _)
    omega

theorem pence_law {total : Int} {l : List Frac} (h : (splitOf total l).2 = 0) :
    (splitOf total l).1.length = l.length ∧ (sumOf l).2 = 0 ∧ 0 ≤ total ∧ total ≤ 1000000000 ∧ frOk (sumOf l).1 ∧ 0 ≤ (sumOf l).1.num ∧ l.length ≤ 41 ∧
    (splitOf total l).1.sum = (total * (sumOf l).1.num).tdiv (sumOf l).1.den ∧
    ∀ (i : Nat) (n : Int) (f : Frac), (splitOf total l).1[i]? = some n → l[i]? = some f → frOk f ∧ 0 ≤ f.num ∧ f.num ≤ f.den ∧ 0 ≤ n ∧ n ≤ 1000000001 ∧ -f.den < n * f.den - total * f.num ∧ n * f.den - total * f.num < f.den := by
  unfold splitOf at h ⊢
  by_cases c1 : 41 < l.length
  · rw [if_pos c1] at h; cases h
  rw [if_neg c1] at h ⊢
  by_cases c2 : splitFine total l = false
  · rw [if_pos c2] at h; cases h
  rw [if_neg c2] at h ⊢
  by_cases c3 : (sumOf l).2 ≠ 0
  · rw [if_pos c3] at h; exact absurd h c3
  rw [if_neg c3] at h ⊢
  by_cases c4 : (sumOf l).1.den < (sumOf l).1.num
  · rw [if_pos c4] at h; cases h
  rw [if_neg c4] at h ⊢
  have c2' : splitFine total l = true := by simpa using c2
  have c3' : (sumOf l).2 = 0 := Decidable.not_not.1 c3
  obtain ⟨f0, f1, fa⟩ := fine_all c2'
  have hs : sumsOk l ∧ sumOf l = (sumFr l, 0) ∧ frOk (sumFr l) := by
    unfold sumOf at c3' ⊢
    have d1 : ¬ 1000 < l.length := by omega
    rw [if_neg d1] at c3' ⊢
    have d2 : ¬ ((l.any fun f => !validF f) = true) := by
      rw [Bool.not_eq_true, List.any_eq_false]
      intro f hf
      simp [(fa f hf).1]
    rw [if_neg d2] at c3' ⊢
    rcases sumGo_cases l (fun f hf => (fa f hf).2.1) with ⟨a, b, c⟩ | ⟨k, f, _, _, _, _, e⟩
    · exact ⟨a, b, c⟩
    · rw [e] at c3'; cases c3'
  obtain ⟨hs1, hs2, hs3⟩ := hs
  obtain ⟨b1, b2, b3, b4, b5⟩ := splitLeft_bd c2' hs1
  have hnz := splitLeft_nz c2' hs1
  obtain ⟨o1, o2, o3, o4⟩ := order_pos c2' (splitLeft total l).toNat (by omega)
  rw [hs2]
  dsimp only
  have hlen : ((splitOrder total l).toList.take (splitLeft total l).toNat).length = (splitLeft total l).toNat := by rw [List.length_take]; omega
  refine ⟨by rw [incr_length, List.length_map], rfl, f0, f1, hs3, b4, by omega, ?_, ?_⟩
  · rw [incr_sum _ _ (fun i hi => by rw [List.length_map]; exact o3 i (List.mem_of_mem_take hi)), baseSum_sum, hlen]
    have : ((splitLeft total l).toNat : Int) = splitLeft total l := by omega
    rw [this]
    unfold splitLeft
    omega
  · intro i n f hn hf
    have hi : i < l.length := (List.getElem?_eq_some_iff.1 hf).1
    have hfm : f ∈ l := List.mem_of_getElem? hf
    obtain ⟨g1, g2, g3, g4⟩ := fa f hfm
    have hfg : l.getD i ⟨0, 1⟩ = f := by rw [List.getD_eq_getElem?_getD, hf]; rfl
    have hn2 : n = (incr (l.map (baseF total)) ((splitOrder total l).toList.take (splitLeft total l).toNat)).getD i 0 := by rw [List.getD_eq_getElem?_getD, hn]; rfl
    rw [incr_mem _ _ (o1.sublist (List.take_sublist _ _)) i (by rw [List.length_map]; exact hi)] at hn2
    have hb : (l.map (baseF total)).getD i 0 = baseF total f := by rw [List.getD_eq_getElem?_getD, List.getElem?_map, hf]; rfl
    rw [hb] at hn2
    have hden : 0 < f.den := by have := g2.2.2.1; omega
    obtain ⟨e1, e2, e3⟩ := base_cut f0 g3 hden
    have e4 := (baseF_bd f0 g2 g3).1
    have e5 := baseF_le f0 g2 g3 g4
    refine ⟨g2, g3, g4, ?_⟩
    by_cases hm : i ∈ (splitOrder total l).toList.take (splitLeft total l).toNat
    · rw [if_pos hm] at hn2
      have e6 := o4 i hm
      rw [hfg] at e6
      rw [hn2, e1, Int.add_mul, Int.one_mul]
      refine ⟨by omega, by omega, by omega, by omega⟩
    · rw [if_neg hm] at hn2
      rw [hn2, e1, Int.add_zero]
      refine ⟨by omega, by omega, by omega, by omega⟩

end Lg

/-
  Walk: the law ClaimPence.
-/
namespace Go.Proofs.YtmeomhojbobpbaaGreatDoor
open Go.RowKit Lg Go.Sort Go.Shelf Go.Maps

theorem split_err {total : Int} {l : List Frac} (h : (splitOf total l).2 ≠ 0) : (splitOf total l).1 = [] := by
  unfold splitOf at h ⊢
  (repeat' split) <;> simp_all

theorem split_whole {total : Int} {l : List Frac} (h : (splitOf total l).2 = 0) : (sumOf l).1.num ≤ (sumOf l).1.den := by
  unfold splitOf at h
  by_cases c1 : 41 < l.length
  · rw [if_pos c1] at h; cases h
  rw [if_neg c1] at h
  by_cases c2 : splitFine total l = false
  · rw [if_pos c2] at h; cases h
  rw [if_neg c2] at h
  by_cases c3 : (sumOf l).2 ≠ 0
  · rw [if_pos c3] at h; exact absurd h c3
  rw [if_neg c3] at h
  by_cases c4 : (sumOf l).1.den < (sumOf l).1.num
  · rw [if_pos c4] at h; cases h
  omega

theorem sum_take_le (vs : List Int) (h : ∀ v ∈ vs, 0 ≤ v ∧ v ≤ 1000000001) : ∀ k, 0 ≤ (vs.take k).sum ∧ (vs.take k).sum ≤ 1000000001 * (vs.take k).length := by
  intro k
  have h2 : ∀ v ∈ vs.take k, 0 ≤ v ∧ v ≤ 1000000001 := fun v hv => h v (List.mem_of_mem_take hv)
  generalize vs.take k = l at *
  clear h
  induction l with
  | nil => simp
  | cons x r ih =>
    have h3 := h2 x (by simp)
    have h4 := ih (fun v hv => h2 v (by simp [hv]))
    simp only [List.sum_cons, List.length_cons]
    omega

set_option maxRecDepth 100000 in
set_option maxHeartbeats 3200000 in
theorem lawPence_any (total : Int) (a : Option Addr) (n cap : Nat) (xs : List Frac) (w : World) (hL : Lst w 2 cF a n cap xs) (hV : Vs w) :
    Calls Tryz.prog 6 #[.int .i64 total, .slice a n cap] w (Gives w (.bool true)) := by
  have HV := Lib.hid hV
  by_cases h1 : 45 < n
  · have hz : (45 : Int) < (n : Int) := by omega
    have hal := alive_any w hV
    clear hL hV
    go_enter Tryz.func6, Tryz.ntmps6
    go_wp2_with (fail)
    refine hal.mono ?_
    rintro e w2 ⟨rfl, hB2⟩
    go_wp2_with (fail)
    go_ret
    exact ⟨rfl, hB2⟩
  · have hz : ¬ (45 : Int) < (n : Int) := by omega
    have hS := split_any total a n cap xs w hL
    by_cases h0 : (splitOf total xs).2 = 0
    · have hsum := fun W h => sum_any a n cap xs W (hL.below (w' := W) h)
      obtain ⟨p1, p2, p3, p4, p5, p6, p7, p8, p9⟩ := pence_law h0
      have p10 := split_whole h0
      rw [h0] at hS
      have hlen := hL.len
      have hm : cap ≤ 9223372036854775807 := by have := hL.max; unfold maxLen at this; omega
      have hle := hL.le
      obtain ⟨vs, hvs⟩ : ∃ vs, vs = (splitOf total xs).1 := ⟨_, rfl⟩
      obtain ⟨s, hs⟩ : ∃ s, s = (sumOf xs).1 := ⟨_, rfl⟩
      rw [← hvs] at hS p1 p8 p9
      rw [← hs] at p5 p6 p8 p10
      simp only [p2, ← hs] at hsum
      obtain ⟨q1, q2, q3, q4⟩ := p5
      have hvl : vs.length = n := p1.trans hlen
      have hvb : ∀ v ∈ vs, 0 ≤ v ∧ v ≤ 1000000001 := fun v hv => by
        obtain ⟨i, hi⟩ := List.getElem?_of_mem hv
        have hil : i < vs.length := (List.getElem?_eq_some_iff.1 hi).1
        obtain ⟨f, hf⟩ : ∃ f, xs[i]? = some f := ⟨xs[i]'(by omega), by simp⟩
        have := p9 i v f hi hf
        exact ⟨this.2.2.2.1, this.2.2.2.2.1⟩
      have hst := sum_take_le vs hvb
      obtain ⟨T, hT⟩ : ∃ T, T = (total * s.num).tdiv s.den := ⟨_, rfl⟩
      have hTb : total * s.num ≤ 1000000000 * 1000000 := Int.mul_le_mul p4 (by omega) p6 (by omega)
      have hT0 : 0 ≤ total * s.num := Int.mul_nonneg p3 p6
      have hw1 : IntKind.i64.wrap (total * s.num) = total * s.num := by rw [IntKind.wrap_i64]; omega
      have hTs : vs.sum = T := by rw [p8, hT]
      have hTr : 0 ≤ T ∧ T ≤ 50000000000 := by
        have := hst vs.length
        rw [List.take_length] at this
        omega
      have hdz : s.den ≠ 0 := by omega
      have hw2 : IntKind.i64.wrap T = T := by rw [IntKind.wrap_i64]; omega
      have HTs := Lib.hid hTs
      have Hst := Lib.hid hst
      have H9 := Lib.hid p9
      have Hvl := Lib.hid hvl
      have Hlen := Lib.hid hlen
      have HL := Lib.hid hL
      have Hq := Lib.hid (And.intro q1 (And.intro q2 (And.intro q3 q4)))
      have hdz2 : (s.den == 0) = false := by simpa using hdz
      have hTdiv : (total * s.num).tdiv s.den = T := hT.symm
      have hne : ((n : Int) != (n : Int)) = false := by simp
      clear hL hV h0 h1 hvs hs p1 p2 p8 p9 hT hTs hst hvb hvl hlen q1 q2 p10
      go_enter Tryz.func6, Tryz.ntmps6
      go_wp2_with (fail)
      refine hS.mono ?_
      clear hS
      rintro e w1 ⟨v1, rfl, ho1, hB1⟩
      obtain ⟨a1, c1, rfl, _, hL1⟩ := Lst.of_owns (k := 1) (enc := cI) (fun _ => rfl) (by omega) ho1 rfl
      rw [Hvl.out] at hL1
      have hm1 : c1 ≤ 9223372036854775807 := by have := hL1.max; unfold maxLen at this; omega
      have hle1 := hL1.le
      have HL1 := Lib.hid hL1
      rw [Hvl.out]
      clear ho1 hL1
      go_wp2_with (fail)
      refine (hsum _ hB1).mono ?_
      clear hsum
      rintro e w2 ⟨rfl, hB2⟩
      have kS := Blk.new w2 25 #[.int .i64 s.num, .int .i64 s.den]
      have hb2 := hB1.trans (hB2.mono hB1.size)
      have hb3 := hb2.alloc hb2.size (.cells #[.int .i64 s.num, .int .i64 s.den] 25)
      obtain ⟨w3, hw3⟩ : ∃ w3, w3 = w2.alloc (.cells #[.int .i64 s.num, .int .i64 s.den] 25) := ⟨_, rfl⟩
      rw [← hw3] at kS hb3
      replace HL1 := Lib.hid (HL1.out.below (hB2.alloc hB2.size (.cells #[.int .i64 s.num, .int .i64 s.den] 25)))
      rw [← hw3] at HL1
      have cS := kS.cell
      clear hB1 hB2 hb2
      go_upto_region 7 with fail
      rw [← hw3]
      clear hw3
      go_wp2_with (fail)
      go_loopw [9, 54] (fun l i wr => ∃ k : Nat, k ≤ n ∧ i = .int .i64 k ∧ l = .int .i64 (T - (vs.take k).sum) ∧ RowKit.Below w3.heap.size w3 wr) (fun _ i _ => n - (intOf i).toNat)
      case atStart => exact ⟨0, Nat.zero_le _, rfl, by simp, Below.refl _ _⟩
      case round =>
        obtain ⟨k, hk, rfl, rfl, hB⟩ := hrel
        have hsk := Hst.out k
        have hlk := List.length_take_le k vs
        by_cases hlt : k < n
        · obtain ⟨v, hv⟩ : ∃ v, vs[k]? = some v := ⟨vs[k]'(by rw [Hvl.out]; exact hlt), by simp⟩
          obtain ⟨f, hf⟩ : ∃ f, xs[k]? = some f := ⟨xs[k]'(by rw [Hlen.out]; exact hlt), by simp⟩
          obtain ⟨⟨f1, f2, f3, f4⟩, f5, f6, f7, f8, f9, f10⟩ := H9.out k v f hv hf
          obtain ⟨b1, o1, rfl, hb1, hr1⟩ := HL1.out.at_ k v hv
          obtain ⟨b, off, rfl, hb, hr⟩ := HL.out.at_ k f hf
          have hcv : wr.cell? ⟨b1, o1 + k, none⟩ = some (.int .i64 v) := by
            have := rangeAt_below hB hb1 hr1 0 _ rfl
            rwa [Nat.mul_one, Nat.add_zero] at this
          have hbw3 := hb3.trans (hB.mono hb3.size)
          have hc0 : wr.cell? ⟨b, off + k * 2, none⟩ = some (.int .i64 f.num) := rangeAt_below hbw3 hb hr 0 _ rfl
          have hc1 : wr.cell? ⟨b, off + k * 2 + 1, none⟩ = some (.int .i64 f.den) := rangeAt_below hbw3 hb hr 1 _ rfl
          have hnx : (vs.take (k + 1)).sum = (vs.take k).sum + v := by
            obtain ⟨e1, e2⟩ := List.getElem?_eq_some_iff.1 hv
            rw [List.take_succ_eq_append_getElem e1, e2, List.sum_append]; simp
          have hn2 := Hst.out (k + 1)
          have hlk2 := List.length_take_le (k + 1) vs
          rw [hnx] at hn2
          have m1 : v * f.den ≤ 1000000001 * 1000000 := Int.mul_le_mul f8 f4 (by omega) (by omega)
          have m2 : 0 ≤ v * f.den := Int.mul_nonneg f7 (by omega)
          have m3 : total * f.num ≤ 1000000000 * 1000000 := Int.mul_le_mul p4 (by omega) f5 (by omega)
          have m4 : 0 ≤ total * f.num := Int.mul_nonneg p3 f5
          have w1 : IntKind.i64.wrap (v * f.den) = v * f.den := by rw [IntKind.wrap_i64]; omega
          have w2 : IntKind.i64.wrap (total * f.num) = total * f.num := by rw [IntKind.wrap_i64]; omega
          have w4 : IntKind.i64.wrap (v * f.den - total * f.num) = v * f.den - total * f.num := by rw [IntKind.wrap_i64]; omega
          have w5 : IntKind.i64.wrap (-f.den) = -f.den := by rw [IntKind.wrap_i64]; omega
          have w6 : IntKind.i64.wrap (T - (vs.take k).sum - v) = T - (vs.take k).sum - v := by rw [IntKind.wrap_i64]; omega
          have hlz : (k : Int) < (n : Int) := by omega
          have t1 : decide (v < 0) = false := decide_eq_false (by omega)
          have t2 : decide (v * f.den - total * f.num ≤ -f.den) = false := decide_eq_false (by omega)
          have t3 : decide (f.den ≤ v * f.den - total * f.num) = false := decide_eq_false (by omega)
          have Hnx := Lib.hid hnx
          have hk41 : k < n := hlt
          clear hv hf hr1 hr hnx hn2 m1 m2 m3 m4 f5 f6 f9 f10 hsk
          go_wp2_with (fail)
          go_quiet (fail)
          go_wp2_with (fail)
          go_roundw
          case rel => exact ⟨k + 1, by omega, by go_num, by rw [Hnx.out]; congr 1; omega, by exact ⟨hB.os, hB.tape, hB.output, hB.size, hB.block⟩⟩
          case measure => simp [intOf]; omega
        · obtain rfl : k = n := by omega
          have hend : T - (vs.take k).sum = 0 := by rw [List.take_of_length_le (by rw [Hvl.out]; exact Nat.le_refl _), HTs.out]; omega
          rw [hend]
          have hbw3 := hb3.trans (hB.mono hb3.size)
          have hal := alive_any wr (HV.out.below hbw3)
          go_wp2_with (fail)
          refine hal.mono ?_
          clear hal
          rintro e w5 ⟨rfl, hB5⟩
          go_wp2_with (fail)
          go_ret
          exact ⟨rfl, hbw3.trans (hB5.mono hbw3.size)⟩
    · rw [split_err h0] at hS
      have g0 : ((splitOf total xs).2 != 0) = true := by simpa using h0
      generalize (splitOf total xs).2 = er at *
      clear hL hV h1
      go_enter Tryz.func6, Tryz.ntmps6
      go_wp2_with (fail)
      refine hS.mono ?_
      clear hS
      rintro e w1 ⟨v1, rfl, ho1, hB1⟩
      obtain ⟨a1, c1, rfl, _, hL1⟩ := Lst.of_owns (k := 1) (enc := cI) (fun _ => rfl) (by omega) ho1 rfl
      have hal := alive_any _ (HV.out.below hB1)
      clear ho1 hL1
      go_wp2_with (fail)
      refine hal.mono ?_
      clear hal
      rintro e w4 ⟨rfl, hB4⟩
      go_wp2_with (fail)
      go_ret
      exact ⟨by first | rfl | simp, hB1.trans (hB4.mono hB1.size)⟩

end Go.Proofs.YtmeomhojbobpbaaGreatDoor
