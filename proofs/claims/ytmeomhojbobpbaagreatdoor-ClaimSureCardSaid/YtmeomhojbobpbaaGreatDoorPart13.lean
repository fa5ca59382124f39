import Derived.Test.YtmeomhojbobpbaaGreatDoorPart11
import Derived.Test.YtmeomhojbobpbaaGreatDoorPart12
import Derived.Test.YtmeomhojbobpbaaGreatDoorPart05
import Derived.Laws.OwnMore
import Derived.Laws.EntriesVeiled
/-
  Walk: claim.Split.
-/
namespace Go.Proofs.YtmeomhojbobpbaaGreatDoor
open Go.RowKit Lg Go.Sort Go.Shelf

theorem splitFine_snoc (total : Int) (l : List Frac) (f : Frac) : splitFine total (l ++ [f]) = (splitFine total l && (validF f && decide (0 ≤ f.num) && decide (f.num ≤ f.den))) := by
  unfold splitFine
  rw [List.all_append]
  simp [Bool.and_assoc]

theorem Lst.one {w : World} {B : Nat} {x : Frac} (h : Blk w B #[.int .i64 x.num, .int .i64 x.den] 25) : Lst w 2 cF (some ⟨B, 0, none⟩) 1 1 [x] :=
  ⟨rfl, Nat.le_refl _, by unfold maxLen; omega, fun i y hy => by
    have hi : i = 0 := by have := (List.getElem?_eq_some_iff.1 hy).1; simp at this; exact this
    subst hi
    cases hy
    refine ⟨B, 0, rfl, h.lt, fun j v hv => ?_⟩
    have := h.cell j
    simp only [Nat.zero_mul, Nat.add_zero, Nat.zero_add]
    rw [this]
    have hj : j < 2 := by have := (List.getElem?_eq_some_iff.1 hv).1; simpa using this
    have : j = 0 ∨ j = 1 := by omega
    rcases this with rfl | rfl <;> simpa using hv⟩

/-- The cells behind k rounds of a filling loop. -/
def fillC (f : Nat → Int) (n k : Nat) : List Value := (List.range n).map fun i => .int .i64 (if i < k then f i else 0)

theorem fillC_zero (f : Nat → Int) (n : Nat) : (madeCells (Value.int .i64 0).cells (n * 1)).toList = fillC f n 0 := by
  unfold madeCells fillC
  rw [Nat.mul_one, Array.toList_map, Array.toList_range]
  apply List.map_congr_left
  intro i _
  simp [Value.cells, Nat.mod_one]

theorem fillC_get (f : Nat → Int) (n k : Nat) (hk : k < n) : (fillC f n k)[k]? = some (.int .i64 0) := by
  unfold fillC; simp [hk]

theorem fillC_set (f : Nat → Int) (n k : Nat) : (fillC f n k).set k (.int .i64 (f k)) = fillC f n (k + 1) := by
  apply List.ext_getElem?
  intro j
  rw [List.getElem?_set]
  unfold fillC
  by_cases hj : k = j
  · subst hj
    by_cases hk : k < n <;> simp [hk]
  · rw [if_neg hj]
    by_cases hn : j < n
    · simp only [List.getElem?_map, List.getElem?_range hn, Option.map_some]
      by_cases h1 : j < k
      · rw [if_pos h1, if_pos (by omega)]
      · rw [if_neg h1, if_neg (by omega)]
    · simp [hn]

theorem fillC_all (total : Int) (xs : List Frac) : fillC (fun i => baseF total (xs.getD i ⟨0, 1⟩)) xs.length xs.length = (xs.map (baseF total)).map (Value.int .i64) := by
  unfold fillC
  apply List.ext_getElem?
  intro j
  by_cases hj : j < xs.length
  · simp [hj, List.getD]
  · simp [hj]

theorem PlsD.other {w : World} {B g : Nat} {d : Array Nat} (h : PlsD w B d) (hne : B ≠ g) (o : Nat) (v : Value) : PlsD (w.setCell ⟨g, o, none⟩ v) B d := by
  obtain ⟨cs, h1, h2, h3⟩ := h
  exact ⟨cs, h1.setCell_other hne o v, h2, h3⟩

theorem ints_set (l : List Int) (d : Nat) (v : Int) : (l.map (Value.int .i64)).set d (.int .i64 v) = (l.set d v).map (Value.int .i64) := by
  rw [List.map_set]

set_option maxRecDepth 100000 in
set_option maxHeartbeats 6400000 in
theorem split_any (total : Int) (a : Option Addr) (n cap : Nat) (xs : List Frac) (w : World) (hL : Lst w 2 cF a n cap xs) :
    Calls Tryz.prog 17 #[.int .i64 total, .slice a n cap] w (GivesL w 3 1 cI (splitOf total xs).1 (splitOf total xs).2) := by
  obtain ⟨r, hr⟩ : ∃ r, r = splitOf total xs := ⟨_, rfl⟩
  rw [← hr]
  unfold splitOf at hr
  have hlen := hL.len
  rw [hlen] at hr
  have Hlen := Lib.hid hlen; clear hlen
  have hm : cap ≤ 9223372036854775807 := by have := hL.max; unfold maxLen at this; omega
  have hle := hL.le
  by_cases h1 : 41 < n
  · rw [if_pos h1] at hr
    have h1z : (41 : Int) < (n : Int) := by omega
    have Hr := Lib.hid hr; clear hr hL
    go_enter Tryz.func17, Tryz.ntmps17
    go_wp2_with (fail)
    go_ret2
    rw [Hr.out]
    exact GivesL.nil (((Below.refl _ w).alloc (Nat.le_refl _) _).alloc (by simp) _)
  rw [if_neg h1] at hr
  have h1z : ¬ (41 : Int) < (n : Int) := by omega
  have hn41 : n ≤ 41 := by omega
  have Hr := Lib.hid hr; clear hr h1
  have hin := fun W => within5_any total 0 1000000000 W
  obtain ⟨w1, hw1⟩ : ∃ w1, w1 = (w.alloc (.cells #[.int .i64 total] 3)).alloc (.cells #[.slice a n cap] 22) := ⟨_, rfl⟩
  have kT : Blk w1 w.heap.size #[.int .i64 total] 3 := hw1 ▸ (Blk.new w _ _).alloc _
  have kP : Blk w1 (w.heap.size + 1) #[.slice a n cap] 22 := by
    have := Blk.new (w.alloc (.cells #[.int .i64 total] 3)) 22 #[.slice a n cap]
    rw [hw1]; simpa using this
  have hb1 : RowKit.Below w.heap.size w w1 := hw1 ▸ ((Below.refl _ w).alloc (Nat.le_refl _) _).alloc (by simp) _
  go_enter Tryz.func17, Tryz.ntmps17
  go_wp2_with (fail)
  rw [← hw1]
  refine (hin _).mono ?_
  clear hin hw1
  rintro e w2 ⟨rfl, rfl⟩
  have cT := kT.cell
  have cP := kP.cell
  have hf0 : inn total 0 1000000000 = splitFine total (xs.take 0) := by unfold splitFine; simp
  rw [hf0]
  clear hf0
  go_wp2_with (fail)
  clear cT cP
  go_loopw [6, 26] (fun f i wr => ∃ k : Nat, k ≤ n ∧ f = .bool (splitFine total (xs.take k)) ∧ i = .int .i64 k ∧ Blk wr w.heap.size #[.int .i64 total] 3 ∧ Blk wr (w.heap.size + 1) #[.slice a n cap] 22 ∧ RowKit.Below w.heap.size w wr) (fun _ i _ => n - (intOf i).toNat)
  case atStart => exact ⟨0, Nat.zero_le _, rfl, rfl, kT, kP, hb1⟩
  case round =>
    obtain ⟨k, hk, rfl, rfl, kTr, kPr, hbr⟩ := hrel
    clear kT kP hb1
    by_cases hlt : k < n
    · obtain ⟨x, hx⟩ : ∃ x, xs[k]? = some x := ⟨xs[k]'(by rw [Hlen.out]; exact hlt), by simp⟩
      obtain ⟨b, off, rfl, hb, hrg⟩ := (hL.below hbr).at_ k x hx
      have htk : splitFine total (xs.take (k + 1)) = (splitFine total (xs.take k) && (validF x && decide (0 ≤ x.num) && decide (x.num ≤ x.den))) := by
        obtain ⟨h1, h2⟩ := List.getElem?_eq_some_iff.1 hx
        rw [List.take_succ_eq_append_getElem h1, h2, splitFine_snoc]
      have Htk := Lib.hid htk
      have Hx := Lib.hid hx
      clear htk hx
      obtain ⟨w4, hw4⟩ : ∃ w4, w4 = wr.alloc (.cells #[.int .i64 x.num, .int .i64 x.den] 25) := ⟨_, rfl⟩
      have k4 : Blk w4 wr.heap.size #[.int .i64 x.num, .int .i64 x.den] 25 := hw4 ▸ Blk.new _ _ _
      have kT4 : Blk w4 w.heap.size #[.int .i64 total] 3 := hw4 ▸ kTr.alloc _
      have kP4 : Blk w4 (w.heap.size + 1) #[.slice (some ⟨b, off, none⟩) n cap] 22 := hw4 ▸ kPr.alloc _
      have hb4 : RowKit.Below w.heap.size w w4 := hw4 ▸ hbr.alloc hbr.size _
      generalize splitFine total (xs.take k) = fk at *
      have c4 := k4.cell
      cases fk with
      | false =>
        go_wp2_with (first
          | (refine wpList_load_mid rfl 25 _ rfl b (off + k * 2) rfl (cF x) _ hrg Tryz.underlying25 rfl (by kernel_rfl) ?_)
          | fail)
        go_roundw
        case rel =>
          rw [← hw4]
          exact ⟨k + 1, by omega, by rw [Htk.out]; rfl, by go_num, kT4, kP4, hb4⟩
        case measure => simp [intOf]; omega
      | true =>
        obtain ⟨w5, hw5⟩ : ∃ w5, w5 = w4.alloc (.cells #[.int .i64 x.num, .int .i64 x.den] 25) := ⟨_, rfl⟩
        have k5 : Blk w5 w4.heap.size #[.int .i64 x.num, .int .i64 x.den] 25 := hw5 ▸ Blk.new _ _ _
        have hb5 : RowKit.Below w4.heap.size w4 w5 := hw5 ▸ (Below.refl _ w4).alloc (Nat.le_refl _) _
        have hz4 : w4.heap.size = wr.heap.size + 1 := by rw [hw4]; simp
        have hva := valid_any (some ⟨w4.heap.size, 0, none⟩) 1 1 [x] w5 (Lst.one k5)
        have hv1 : (![x].any fun f => !validF f) = validF x := by simp
        rw [hv1, hz4] at hva
        clear hv1 hz4
        have hb05 : RowKit.Below w.heap.size w w5 := hb4.trans (hb5.mono hb4.size)
        have kT5 := kT4.below' hb5
        have kP5 := kP4.below' hb5
        have k45 := k4.below' hb5
        clear kT4 kP4 k4 c4 hb4 k5 hb5
        go_wp2_with (first
          | (refine wpList_load_mid rfl 25 _ rfl b (off + k * 2) rfl (cF x) _ hrg Tryz.underlying25 rfl (by kernel_rfl) ?_)
          | fail)
        rw [← hw4, ← hw5]
        clear hw4 hw5
        refine hva.mono ?_
        clear hva
        rintro e w6 ⟨rfl, hB6⟩
        have hb6 : RowKit.Below w.heap.size w w6 := hb05.trans (hB6.mono hb05.size)
        have kT6 := kT5.below' hB6
        have kP6 := kP5.below' hB6
        have k46 := k45.below' hB6
        clear kT5 kP5 k45 hB6 hb05
        have c6 := k46.cell
        obtain ⟨vx, hvx⟩ : ∃ vx, vx = validF x := ⟨_, rfl⟩
        rw [← hvx] at Htk ⊢
        clear hvx
        cases vx with
        | false =>
          go_wp2_with (fail)
          go_roundw
          case rel => exact ⟨k + 1, by omega, by rw [Htk.out]; rfl, by go_num, kT6, kP6, hb6⟩
          case measure => simp [intOf]; omega
        | true =>
          by_cases hnn : 0 ≤ x.num
          · have hnd : decide (0 ≤ x.num) = true := decide_eq_true hnn
            by_cases hnm : x.num ≤ x.den
            · have hmd : decide (x.num ≤ x.den) = true := decide_eq_true hnm
              go_wp2_with (fail)
              go_roundw
              case rel => exact ⟨k + 1, by omega, by rw [Htk.out, decide_eq_true hnn, decide_eq_true hnm]; rfl, by go_num, kT6, kP6, hb6⟩
              case measure => simp [intOf]; omega
            · have hmd : decide (x.num ≤ x.den) = false := decide_eq_false hnm
              go_wp2_with (fail)
              go_roundw
              case rel => exact ⟨k + 1, by omega, by rw [Htk.out, decide_eq_false (by omega : ¬ x.num ≤ x.den), Bool.and_false, Bool.and_false], by go_num, kT6, kP6, hb6⟩
              case measure => simp [intOf]; omega
          · have hnd : decide (0 ≤ x.num) = false := decide_eq_false hnn
            go_wp2_with (fail)
            go_roundw
            case rel => exact ⟨k + 1, by omega, by rw [Htk.out, decide_eq_false (by omega : ¬ 0 ≤ x.num), Bool.and_false, Bool.false_and, Bool.and_false], by go_num, kT6, kP6, hb6⟩
            case measure => simp [intOf]; omega
    · obtain rfl : k = n := by omega
      have htk : xs.take k = xs := List.take_of_length_le (by rw [Hlen.out]; exact Nat.le_refl _)
      rw [htk]
      clear htk hlt hk
      obtain ⟨fb, hfb⟩ : ∃ fb, fb = splitFine total xs := ⟨_, rfl⟩
      rw [← hfb]
      have hr := Hr.out
      rw [← hfb] at hr
      clear Hr
      cases fb with
      | false =>
        rw [if_pos rfl] at hr
        have Hr := Lib.hid hr; clear hr hfb
        go_wp2_with (fail)
        go_ret2
        rw [Hr.out]
        exact GivesL.nil hbr
      | true =>
        rw [if_neg (by simp)] at hr
        have Hr := Lib.hid hr; clear hr
        have hfine := Lib.hid hfb.symm; clear hfb
        have hsum := fun W hW => sum_any a k cap xs W hW
        have cP := kPr.cell
        go_wp2_with (fail)
        refine (hsum wr (hL.below hbr)).mono ?_
        clear hsum cP
        rintro e w3 ⟨rfl, hB3⟩
        have hb3 : RowKit.Below w.heap.size w w3 := hbr.trans (hB3.mono hbr.size)
        have kT3 := kTr.below' hB3
        have kP3 := kPr.below' hB3
        clear hbr hB3 kTr kPr
        obtain ⟨hf0, hf1, hfa⟩ := fine_all hfine.out
        have hsm : sumOf xs = sumGo ⟨0, 1⟩ xs := by
          unfold sumOf
          rw [if_neg (by have := Hlen.out; omega), if_neg]
          rw [Bool.not_eq_true, List.any_eq_false]
          intro f hf
          simp [(hfa f hf).1]
        rcases sumGo_cases xs (fun f hf => (hfa f hf).2.1) with ⟨s1, s2, s3⟩ | ⟨_, _, _, _, _, _, s5⟩
        rotate_left
        · rw [hsm, s5]
          have hr := Hr.out
          rw [hsm, s5, if_pos (by simp)] at hr
          have Hr2 := Lib.hid hr
          clear hr hsm s5 Hr hfa
          go_wp2_with (fail)
          go_ret2
          rw [Hr2.out]
          exact GivesL.nil (hb3.alloc hb3.size _)
        · rw [hsm, s2]
          have hr := Hr.out
          rw [hsm, s2, if_neg (by simp)] at hr
          dsimp only at hr ⊢
          clear Hr hsm s2
          obtain ⟨lb1, lb2, lb3, lb4, lb5⟩ := splitLeft_bd hfine.out s1
          obtain ⟨sm, hsm⟩ : ∃ sm, sm = sumFr xs := ⟨_, rfl⟩
          have hlf : splitLeft total xs = (total * sm.num).tdiv sm.den - baseSum total xs := by rw [hsm]; rfl
          rw [← hsm] at hr lb3 lb4 s3 ⊢
          obtain ⟨sm1, sm2, sm3, sm4⟩ := s3
          clear hsm
          by_cases hpr : sm.den < sm.num
          · rw [if_pos hpr] at hr
            have Hr2 := Lib.hid hr
            clear hr hlf hfa
            go_wp2_with (fail)
            go_ret2
            rw [Hr2.out]
            exact GivesL.nil (hb3.alloc hb3.size _)
          · rw [if_neg hpr] at hr
            have Hr2 := Lib.hid hr; clear hr
            have Hlf := Lib.hid hlf; clear hlf
            have hpr2 : sm.num ≤ sm.den := by omega
            have p1 : 0 ≤ total * sm.num := Int.mul_nonneg hf0 lb4
            have p2 : total * sm.num ≤ 1000000000000000 := by
              calc total * sm.num ≤ 1000000000 * sm.num := Int.mul_le_mul_of_nonneg_right hf1 lb4
                _ ≤ 1000000000000000 := by omega
            have hw1 : IntKind.i64.wrap (total * sm.num) = total * sm.num := by rw [IntKind.wrap_i64]; omega
            obtain ⟨L0, hL0⟩ : ∃ L0, L0 = (total * sm.num).tdiv sm.den := ⟨_, rfl⟩
            have hL0b : 0 ≤ L0 ∧ L0 ≤ 1000000000000000 := by
              rw [hL0, Int.tdiv_eq_ediv_of_nonneg p1]
              exact ⟨Int.ediv_nonneg p1 (by omega), Int.le_trans (Int.ediv_le_self _ p1) p2⟩
            obtain ⟨hL01, hL02⟩ := hL0b
            have hq : (total * sm.num).tdiv sm.den = L0 := hL0.symm
            have hw2 : IntKind.i64.wrap L0 = L0 := by rw [IntKind.wrap_i64]; omega
            have hd0 : (sm.den == 0) = false := by simp; omega
            have hd1 : sm.den ≠ 0 := by omega
            have hlfz : splitLeft total xs = L0 - baseSum total xs := by rw [Hlf.out, hq]
            have Hlfz := Lib.hid hlfz; clear hlfz Hlf hL0
            have hmf : ∀ (fn : Fn) (first cap : Array Value) (w : World), (Instr.makeFunc fn first cap).run Tryz.prog w = .ok (.func fn first cap) w := fun _ _ _ _ => rfl
            obtain ⟨i0, hi0, hz0, hz1, hz2⟩ := info_parts infoI
            obtain ⟨w5, hmk, hown, hgr⟩ := run_makeSlice_full (w3.alloc (.cells #[.int .i64 sm.num, .int .i64 sm.den] 25)) w.heap.size 30 3 i0 (.int .i64 0) 1 Tryz.underlying30 hi0 hz0 hz1 .i64 .i64 k (by omega) (by rw [hz2]; omega) (by unfold maxLen; omega) (by have := hb3.size; simp; omega)
            have hB5 := below_of_grown (hb3.alloc hb3.size (.cells #[.int .i64 sm.num, .int .i64 sm.den] 25)) (Nat.le_refl _) hgr (fun _ h => by cases h)
            have kT5 := (kT3.alloc (.cells #[.int .i64 sm.num, .int .i64 sm.den] 25)).kept hgr (by simp)
            have kP5 := (kP3.alloc (.cells #[.int .i64 sm.num, .int .i64 sm.den] 25)).kept hgr (by simp)
            have cT := (kT3.alloc (.cells #[.int .i64 sm.num, .int .i64 sm.den] 25)).cell
            have cP := (kP3.alloc (.cells #[.int .i64 sm.num, .int .i64 sm.den] 25)).cell
            have hg3 : w.heap.size + 1 < w3.heap.size := kP3.lt
            simp only [World.size_alloc] at hmk hown
            rw [fillC_zero (fun i => baseF total (xs.getD i ⟨0, 1⟩))] at hown
            have cP5 := kP5.cell
            have hg5 : w3.heap.size + 1 < w5.heap.size := (hown.lt _ rfl).2
            have hle3 : w.heap.size + 1 < w3.heap.size := hg3
            go_wp2_with (fail)
            clear cP5 cT cP hmk hgr kT3 kP3 hg3 hw1 hw2 hq hd0 hd1 hi0 hz0 hz1 hz2
            obtain ⟨g, hgg⟩ : ∃ g, g = w3.heap.size + 1 := ⟨_, rfl⟩
            rw [← hgg] at hown hg5 ⊢
            have hg1 : w.heap.size + 2 ≤ w3.heap.size := by omega
            have hg2 : w3.heap.size < g := by omega
            clear hgg hle3
            obtain ⟨fB, hfB⟩ : ∃ fB : Nat → Int, fB = fun i => baseF total (xs.getD i ⟨0, 1⟩) := ⟨_, rfl⟩
            rw [← hfB] at hown
            have HfB := Lib.hid hfB; clear hfB
            have Hfa := Lib.hid hfa; clear hfa
            obtain ⟨i0, hi0, hz0, hz1, hz2⟩ := info_parts infoI
            go_loopw [11, 13, 78] (fun lf ov i wr => ∃ j : Nat, j ≤ k ∧ i = .int .i64 j ∧ lf = .int .i64 (L0 - baseSum total (xs.take j)) ∧ (j = 0 → ov = .slice none 0 0) ∧ wr.ownsRow w3.heap.size 3 1 ov j ((List.range j).map encN) ∧
              wr.ownsRow w.heap.size 3 1 (.slice (some ⟨g, 0, none⟩) k k) k (fillC fB k j) ∧ ov.ownBlock ≠ some g ∧ Blk wr w.heap.size #[.int .i64 total] 3 ∧ Blk wr (w.heap.size + 1) #[.slice a k cap] 22 ∧ RowKit.Below w.heap.size w wr ∧ w3.heap.size ≤ wr.heap.size ∧ g < wr.heap.size) (fun _ _ i _ => k - (intOf i).toNat)
            case atStart => exact ⟨0, Nat.zero_le _, rfl, by simp [baseSum], (fun _ => rfl), ⟨rfl, .inl ⟨rfl, rfl⟩⟩, hown, (by simp [Value.ownBlock]), kT5, kP5, hB5, by omega, hg5⟩
            case round =>
              clear kT5 kP5 hB5 hown hg5
              obtain ⟨j, hj, rfl, rfl, hnil0, hord, hout, hne, kTr, kPr, hbr, hw3r, hgr⟩ := hrel
              have hbt := baseSum_bd hf0 hf1 (xs.take j) (fun f hf => (Hfa.out f (List.mem_of_mem_take hf)).2)
              have hlt41 : ((xs.take j).length : Int) ≤ 41 := by have := List.length_take_le j xs; omega
              obtain ⟨bs, hbs⟩ : ∃ bs, bs = baseSum total (xs.take j) := ⟨_, rfl⟩
              rw [← hbs] at hbt ⊢
              obtain ⟨hbt1, hbt2⟩ := hbt
              have hbt3 : bs ≤ 41000000000 := by omega
              clear hbt2 hlt41
              have Hnil := Lib.hid hnil0; clear hnil0
              by_cases hlt : j < k
              · obtain ⟨x, hx⟩ : ∃ x, xs[j]? = some x := ⟨xs[j]'(by rw [Hlen.out]; exact hlt), by simp⟩
                obtain ⟨b, off, rfl, hb, hrg⟩ := (hL.below hbr).at_ j x hx
                obtain ⟨_, ⟨x1, x2, x3, x4⟩, x5, x6⟩ := Hfa.out x (List.mem_iff_getElem?.2 ⟨j, hx⟩)
                have hbs2 : baseSum total (xs.take (j + 1)) = bs + baseF total x := by
                  obtain ⟨h1, h2⟩ := List.getElem?_eq_some_iff.1 hx
                  rw [List.take_succ_eq_append_getElem h1, h2, baseSum_append, hbs]; simp [baseSum]
                have hfj : fB j = baseF total x := by rw [HfB.out]; simp [List.getD, hx]
                have q1 : 0 ≤ total * x.num := Int.mul_nonneg hf0 x5
                have q2 : total * x.num ≤ 1000000000000000 := by
                  calc total * x.num ≤ 1000000000 * x.num := Int.mul_le_mul_of_nonneg_right hf1 x5
                    _ ≤ 1000000000000000 := by omega
                obtain ⟨bx, hbx⟩ : ∃ bx, bx = baseF total x := ⟨_, rfl⟩
                have hbx2 : (total * x.num).tdiv x.den = bx := by rw [hbx]; rfl
                have hbx1 : 0 ≤ bx ∧ bx ≤ 1000000000 := by
                  rw [hbx]
                  exact ⟨(baseF_bd hf0 ⟨x1, x2, x3, x4⟩ x5).1, Int.le_trans (baseF_le hf0 ⟨x1, x2, x3, x4⟩ x5 x6) hf1⟩
                obtain ⟨hbx10, hbx11⟩ := hbx1
                rw [← hbx] at hbs2 hfj
                have hw1 : IntKind.i64.wrap (total * x.num) = total * x.num := by rw [IntKind.wrap_i64]; omega
                have hw2 : IntKind.i64.wrap bx = bx := by rw [IntKind.wrap_i64]; omega
                have hw3 : IntKind.i64.wrap (L0 - bs - bx) = L0 - bs - bx := by rw [IntKind.wrap_i64]; omega
                have hd0 : (x.den == 0) = false := by simp; omega
                have hd1 : x.den ≠ 0 := by omega
                have Hbs2 := Lib.hid hbs2; clear hbs2
                have Hfj := Lib.hid hfj; clear hfj
                have Hx := Lib.hid hx; clear hx
                have Hbx := Lib.hid hbx; clear hbx
                have Hbs := Lib.hid hbs; clear hbs
                obtain ⟨wa, hwa⟩ : ∃ wa, wa = wr.alloc (.cells #[.int .i64 x.num, .int .i64 x.den] 25) := ⟨_, rfl⟩
                have hco := (hout.alloc (.cells #[.int .i64 x.num, .int .i64 x.den] 25)).cellAt j (by omega)
                rw [fillC_get fB k j hlt] at hco
                have hcf := (hout.alloc (.cells #[.int .i64 x.num, .int .i64 x.den] 25)).frozenAt j
                have hco0 := hout.cellAt j (by omega)
                rw [fillC_get fB k j hlt] at hco0
                have hcf0 := hout.frozenAt j
                have cT := (kTr.alloc (.cells #[.int .i64 x.num, .int .i64 x.den] 25)).cell
                obtain ⟨hst1, hst2⟩ := hout.stored j (.int .i64 bx)
                rw [← Hfj.out, fillC_set fB k j, Hfj.out] at hst1
                have hord2 := hord.kept hst2 (.inr hne)
                have hz : (wr.setCell ⟨g, j, none⟩ (.int .i64 bx)).heap.size = wr.heap.size := by simp
                have hnews : (((wr.setCell ⟨g, j, none⟩ (.int .i64 bx)).alloc (.cells #[.int .i64 x.num, .int .i64 x.den] 25)).alloc (.cells #[.int .i64 j] 3)).heap[wr.heap.size + 1]? = some (.cells #[.int .i64 j] 3 (0, 0)) := by
                  have := heap_alloc2_new (wr.setCell ⟨g, j, none⟩ (.int .i64 bx)) (.cells #[.int .i64 x.num, .int .i64 x.den] 25) (.cells #[.int .i64 j] 3)
                  rw [hz] at this
                  exact this
                have kT2 := kTr.setCell_other (show w.heap.size ≠ g by omega) j (.int .i64 bx)
                have kP2 := kPr.setCell_other (show w.heap.size + 1 ≠ g by omega) j (.int .i64 bx)
                have hb2 := hbr.setCell (p := ⟨g, j, none⟩) (show w.heap.size ≤ g by omega) (.int .i64 bx)
                have hown13 : ∀ q, u13.ownBlock = some q → w3.heap.size ≤ q := fun q e => (hord.lt q e).1
                have Hz := Lib.hid hz; clear hz
                have Hnews := Lib.hid hnews; clear hnews
                have Hord2 := Lib.hid hord2; clear hord2 hord hst2 hout
                have Hst1 := Lib.hid hst1; clear hst1
                clear hwa
                go_wp2_with (first
                  | (refine wpList_load_mid rfl 25 _ rfl b (off + j * 2) rfl (cF x) _ hrg Tryz.underlying25 rfl (by kernel_rfl) ?_)
                  | (at_builtin; refine wpList_append_lies _ rfl _ _ _ rfl w3.heap.size 3 i0 _ 1 8 Tryz.underlying30 hi0 hz0 hz1 hz2 rfl (by omega) _ j ((List.range j).map encN) rfl ((Hord2.out.alloc _).alloc _) ⟨wr.heap.size + 1, 0, none⟩ 1 1 [.int .i64 j] rfl rfl (World.news_of_block Hnews.out) (by simp [Value.oneCell']) (by omega) (by unfold maxLen; omega) (by omega) (by have := Hz.out; simp; omega) _ rfl ?_; intro g1 cap1 wn hown1 hgrow1 hat1 hlt1)
                  | fail)
                go_roundw
                case rel =>
                  have hne1 : g1 ≠ g := by
                    rcases hat1 with h | h
                    · intro e; subst e; exact hne h
                    · rw [World.size_alloc, World.size_alloc, Hz.out] at h; omega
                  refine ⟨j + 1, by omega, by go_num, by rw [Hbs2.out]; congr 1; omega, (fun e => by omega), ?_, ?_, by simp [Value.ownBlock]; exact hne1, ?_, ?_, ?_, ?_, ?_⟩
                  · rw [List.range_succ, List.map_append]; exact hown1
                  · exact ((Hst1.out.alloc _).alloc _).kept hgrow1 (.inr (fun e => hne e.symm))
                  · exact ((kT2.alloc _).alloc _).kept hgrow1 (fun e => by have := hown13 _ e.symm; omega)
                  · exact ((kP2.alloc _).alloc _).kept hgrow1 (fun e => by have := hown13 _ e.symm; omega)
                  · exact below_of_grown ((hb2.alloc hb2.size _).alloc (by have := hb2.size; simp only [World.size_alloc]; omega) _) (Nat.le_refl _) hgrow1 (fun q e => by have := hown13 q e; omega)
                  · have h2 := hgrow1.size
                    rw [World.size_alloc, World.size_alloc, Hz.out] at h2; omega
                  · have h2 := hgrow1.size
                    rw [World.size_alloc, World.size_alloc, Hz.out] at h2; omega
                case measure => simp [intOf]; omega
              · obtain rfl : j = k := by omega
                have htk : xs.take j = xs := List.take_of_length_le (by rw [Hlen.out]; exact Nat.le_refl _)
                rw [htk] at hbs
                obtain ⟨lf, hlf⟩ : ∃ lf : Nat, splitLeft total xs = (lf : Int) := ⟨(splitLeft total xs).toNat, by omega⟩
                have hlfj : lf ≤ j := by have := Hlen.out; omega
                have hleft : L0 - bs = (lf : Int) := by rw [← hlf, Hlfz.out, hbs]
                have hr := Hr2.out
                rw [hlf, Int.toNat_natCast] at hr
                have hbase : fillC fB j j = (xs.map (baseF total)).map (Value.int .i64) := by
                  have := fillC_all total xs
                  rw [Hlen.out] at this
                  rw [HfB.out]; exact this
                rw [hbase] at hout
                have hbb : ∀ v ∈ xs.map (baseF total), 0 ≤ v ∧ v ≤ 1000000000 := fun v hv => by
                  obtain ⟨f, hf, rfl⟩ := List.mem_map.1 hv
                  have h := Hfa.out f hf
                  exact ⟨(baseF_bd hf0 h.2.1 h.2.2.1).1, Int.le_trans (baseF_le hf0 h.2.1 h.2.2.1 h.2.2.2) hf1⟩
                have hbl : (xs.map (baseF total)).length = j := by rw [List.length_map, Hlen.out]
                obtain ⟨bl, hble⟩ : ∃ bl, bl = xs.map (baseF total) := ⟨_, rfl⟩
                rw [← hble] at hr hout hbb hbl
                rw [hleft]
                have eg1 : ∀ args w, (callFunc 72 args).run Tryz.prog w = .ok (.enter 72 args) w := enters_of Tryz.func72 (by kernel_rfl) rfl
                have eg : ∀ args w, (callFunc 74 args).run Tryz.prog w = .ok (.enter 74 args) w := enters_of Tryz.func74 (by kernel_rfl) rfl
                have Hr3 := Lib.hid hr
                have Hbb := Lib.hid hbb
                have Hbl := Lib.hid hbl
                clear hr hbb hbl hble hbase hbs htk hlt hleft hlf lb1 lb2 Hr2 Hlfz
                obtain ⟨wc, hwc⟩ : ∃ wc, wc = wr.alloc (.cells #[.func (.func 72) #[] #[.pointer (some ⟨w.heap.size, 0, none⟩), .pointer (some ⟨w.heap.size + 1, 0, none⟩)]] 88) := ⟨_, rfl⟩
                have kC : Blk wc wr.heap.size #[.func (.func 72) #[] #[.pointer (some ⟨w.heap.size, 0, none⟩), .pointer (some ⟨w.heap.size + 1, 0, none⟩)]] 88 := hwc ▸ Blk.new _ _ _
                have kTc : Blk wc w.heap.size #[.int .i64 total] 3 := hwc ▸ kTr.alloc _
                have kPc : Blk wc (w.heap.size + 1) #[.slice a j cap] 22 := hwc ▸ kPr.alloc _
                have hbc : RowKit.Below w.heap.size w wc := hwc ▸ hbr.alloc hbr.size _
                have hordc : wc.ownsRow w3.heap.size 3 1 u13 j ((List.range j).map encN) := hwc ▸ hord.alloc _
                have houtc : wc.ownsRow w.heap.size 3 1 (.slice (some ⟨g, 0, none⟩) j j) j (bl.map (Value.int .i64)) := hwc ▸ hout.alloc _
                have hgc : g < wc.heap.size := by rw [hwc]; simp; omega
                have hcmp : CmpIs 74 #[.pointer (some ⟨wr.heap.size, 0, none⟩)] wc.heap.size j (cmpP total xs) wc := by
                  intro i1 i2 hi1 hi2 W hW
                  obtain ⟨y1, e1⟩ : ∃ y, xs[i1]? = some y := ⟨xs[i1]'(by rw [Hlen.out]; exact hi1), by simp⟩
                  obtain ⟨y2, e2⟩ : ∃ y, xs[i2]? = some y := ⟨xs[i2]'(by rw [Hlen.out]; exact hi2), by simp⟩
                  have f1 := Hfa.out y1 (List.mem_iff_getElem?.2 ⟨i1, e1⟩)
                  have f2 := Hfa.out y2 (List.mem_iff_getElem?.2 ⟨i2, e2⟩)
                  have hc := cmp_any w.heap.size (w.heap.size + 1) wr.heap.size total a j cap xs i1 i2 y1 y2 W (kTc.below' hW) (kPc.below' hW) (kC.below' hW) (hL.below (hbc.trans (hW.mono hbc.size))) e1 e2 ⟨hf0, hf1⟩ f1.2.2 ⟨f1.2.1.2.2.1, f1.2.1.2.2.2⟩ f2.2.2 ⟨f2.2.1.2.2.1, f2.2.1.2.2.2⟩
                  have e : cmpP total xs i1 i2 = Lib.compareInt (total * y2.num % y2.den * y1.den) (total * y1.num % y1.den * y2.den) := by
                    unfold cmpP cutN; simp [List.getD, e1, e2]
                  rw [e]
                  exact hc
                clear kC kTc kPc kTr kPr hord hout hgr hbr
                by_cases hj0 : j = 0
                · subst hj0
                  obtain rfl := Hnil.out rfl
                  obtain rfl : lf = 0 := by omega
                  have hr := Hr3.out
                  rw [List.take_zero, show incr bl [] = bl from rfl] at hr
                  have Hr4 := Lib.hid hr
                  clear hr Hr3 hcmp
                  go_wp2_with (fail)
                  rw [← hwc]
                  clear hwc
                  refine (sortedBy_nil _ _).mono ?_
                  rintro e w6 ⟨rfl, rfl⟩
                  go_wp2_with (fail)
                  go_loopw [112] (fun i wr => i = .int .i64 0 ∧ wc = wr) (fun _ _ => 0)
                  case atStart => exact ⟨rfl, rfl⟩
                  case round =>
                    obtain ⟨rfl, rfl⟩ := hrel
                    go_wp2
                    go_ret2
                    rw [Hr4.out]
                    refine ⟨_, rfl, ?_, hbc⟩
                    rw [flat_int, Hbl.out]; exact houtc
                · have hj1 : 1 ≤ j := by omega
                  have hsb := sortedBy_any 74 #[.pointer (some ⟨wr.heap.size, 0, none⟩)] (cmpP total xs) u13 (List.range j) w3.heap.size wc eg (by rw [List.length_range]; exact hcmp) (by rw [List.length_range]; exact hordc) (fun i hi => by rw [List.length_range]; exact List.mem_range.1 hi) (by rw [List.length_range]; omega) (by rw [List.length_range]; exact hj1)
                  rw [List.length_range] at hsb
                  have hso : splitOrder total xs = stableS (ltC (cmpP total xs)) (List.range j).toArray := by unfold splitOrder; rw [Hlen.out]
                  have hr := Hr3.out
                  rw [hso] at hr
                  have hDs : (stableS (ltC (cmpP total xs)) (List.range j).toArray).size = j := by rw [stableS_size]; simp
                  obtain ⟨D, hD⟩ : ∃ D, D = stableS (ltC (cmpP total xs)) (List.range j).toArray := ⟨_, rfl⟩
                  rw [← hD] at hsb hr hDs
                  have Hr4 := Lib.hid hr
                  have HDs := Lib.hid hDs
                  clear hr Hr3 hcmp hso hD hDs hordc
                  go_wp2_with (fail)
                  rw [← hwc]
                  clear hwc
                  refine hsb.mono ?_
                  clear hsb
                  rintro e w6 ⟨B, cap2, rfl, hBB, hcap1, hcap2, hPD, hb6⟩
                  have hc2 : cap2 ≤ 9223372036854775807 := by unfold maxLen at hcap2; omega
                  have hlfz : (lf : Int) ≤ (cap2 : Int) := by omega
                  have hBg : B ≠ g := by omega
                  have hb06 : RowKit.Below w.heap.size w w6 := hbc.trans (hb6.mono hbc.size)
                  have hout6 := own_below houtc hb6
                  clear hb6 hbc houtc
                  go_wp2_with (fail)
                  go_loopw [112] (fun i wr => ∃ q : Nat, q ≤ lf ∧ i = .int .i64 q ∧ wr.ownsRow w.heap.size 3 1 (.slice (some ⟨g, 0, none⟩) j j) j ((incr bl (D.toList.take q)).map (Value.int .i64)) ∧ PlsD wr B D ∧ RowKit.Below w.heap.size w wr) (fun i _ => lf - (intOf i).toNat)
                  case atStart => exact ⟨0, Nat.zero_le _, rfl, hout6, hPD, hb06⟩
                  case round =>
                    clear hout6 hPD hb06
                    obtain ⟨q, hq, rfl, hout, hPr, hbr⟩ := hrel
                    by_cases hlt : q < lf
                    · have hltz : (q : Int) < (lf : Int) := by omega
                      have hqD : q < D.size := by rw [HDs.out]; omega
                      obtain ⟨hdn, hcd⟩ := hPr.get q hqD
                      obtain ⟨d, hd⟩ : ∃ d, d = D[q]! := ⟨_, rfl⟩
                      rw [← hd] at hdn hcd
                      rw [HDs.out] at hdn
                      have htk : incr bl (D.toList.take (q + 1)) = (incr bl (D.toList.take q)).set d ((incr bl (D.toList.take q)).getD d 0 + 1) := by
                        have hl : q < D.toList.length := by simpa using hqD
                        rw [List.take_succ_eq_append_getElem hl, incr_snoc]
                        have : D.toList[q] = d := by rw [hd, getElem!_pos D q hqD]; simp
                        rw [this]
                      have hll : (incr bl (D.toList.take q)).length = j := by rw [incr_length, Hbl.out]
                      have hvb := incr_bound bl (D.toList.take q) 1000000000 Hbb.out (by omega)
                      have htl : (D.toList.take q).length ≤ 41 := by have := List.length_take_le q D.toList; omega
                      obtain ⟨l, hl⟩ : ∃ l, l = incr bl (D.toList.take q) := ⟨_, rfl⟩
                      rw [← hl] at htk hll hvb hout
                      clear hl
                      obtain ⟨v, hv⟩ : ∃ v, v = l.getD d 0 := ⟨_, rfl⟩
                      have hlv : l[d]? = some v := by rw [hv]; simp [List.getD, hll, hdn]
                      have hvb2 := hvb v (List.mem_iff_getElem?.2 ⟨d, hlv⟩)
                      have hv1 : 0 ≤ v ∧ v ≤ 1000000041 := by omega
                      obtain ⟨hv10, hv11⟩ := hv1
                      rw [← hv] at htk
                      have hw1 : IntKind.i64.wrap (v + 1) = v + 1 := by rw [IntKind.wrap_i64]; omega
                      have hdz : (d : Int) < (j : Int) := by omega
                      have hcv := hout.cellAt d (by omega)
                      rw [List.getElem?_map, hlv, Option.map_some] at hcv
                      have hcf := hout.frozenAt d
                      have hst := (hout.stored d (.int .i64 (v + 1))).1
                      rw [ints_set, ← htk] at hst
                      have hP2 := hPr.other hBg d (.int .i64 (v + 1))
                      have hb2 := hbr.setCell (p := ⟨g, d, none⟩) (show w.heap.size ≤ g by omega) (.int .i64 (v + 1))
                      have Hst := Lib.hid hst
                      have HP2 := Lib.hid hP2
                      clear hst hP2 htk hll hvb htl hlv hvb2 hv hd hPr hout
                      go_wp2_with (fail)
                      go_roundw
                      case rel => exact ⟨q + 1, by omega, by go_num, Hst.out, HP2.out, hb2⟩
                      case measure => simp [intOf]; omega
                    · obtain rfl : q = lf := by omega
                      go_wp2_with (fail)
                      go_ret2
                      rw [Hr4.out]
                      refine ⟨_, rfl, ?_, hbr⟩
                      have hll : (incr bl (D.toList.take q)).length = j := by rw [incr_length, Hbl.out]
                      rw [flat_int]
                      dsimp only
                      rw [hll]; exact hout

end Go.Proofs.YtmeomhojbobpbaaGreatDoor
