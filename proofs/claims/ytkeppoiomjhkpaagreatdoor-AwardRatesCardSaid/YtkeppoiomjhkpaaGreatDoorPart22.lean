import Derived.Test.YtkeppoiomjhkpaaGreatDoorPart07
import Derived.Test.YtkeppoiomjhkpaaGreatDoorPart03
import Derived.Test.YtkeppoiomjhkpaaGreatDoorPart01
import Derived.Test.YtkeppoiomjhkpaaGreatDoorPart06
import Derived.Test.YtkeppoiomjhkpaaGreatDoorPart10
/-
  Walk: why a record is refused behind others.
-/
namespace Go.Proofs.YtkeppoiomjhkpaaGreatDoor
open Go.RowKit Lg Go.Sort Go.Shelf

theorem followsS_eqW (xs : List Sale) (x : Sale) : followsS xs x = if 200 ≤ xs.length then 2 else if !saleOk x then 1 else if xs.any (fun y => decide (y.id = x.head.id)) then 6
    else if (match xs.getLast? with | some y => decide (x.head.known < y.head.known) | none => false) then 7 else if x.head.of_ = 0 then 0
    else if !(xs.any fun y => decide (y.id = x.head.of_) && decide (y.of_ = 0)) then 5 else if xs.any (fun y => decide (y.of_ = x.head.of_)) then 6 else 0 := by
  unfold followsS follows
  rw [List.length_map, List.any_map, List.any_map, List.any_map, List.getLast?_map]
  cases xs.getLast? <;> rfl

set_option maxRecDepth 100000 in
set_option maxHeartbeats 1600000 in
theorem followsS_any (a : Option Addr) (n cap : Nat) (xs : List Sale) (x : Sale) (w : World) (hL : Lst w 9 cS a n cap xs) :
    Calls Tryz.prog 79 #[.slice a n cap, aS x, .int .i64 200, .func (.func 16) #[] #[]] w (Gives w (.int .i64 (followsS xs x))) := by
  obtain ⟨r, hr⟩ : ∃ r, r = followsS xs x := ⟨_, rfl⟩
  rw [← hr]
  rw [followsS_eqW] at hr
  obtain ⟨q1, hq1⟩ : ∃ q, q = xs.any (fun y : Sale => decide (y.id = x.head.id)) := ⟨_, rfl⟩
  obtain ⟨q2, hq2⟩ : ∃ q, q = xs.any (fun y : Sale => decide (y.id = x.head.of_) && decide (y.of_ = 0)) := ⟨_, rfl⟩
  obtain ⟨q3, hq3⟩ : ∃ q, q = xs.any (fun y : Sale => decide (y.of_ = x.head.of_)) := ⟨_, rfl⟩
  rw [← hq1, ← hq2, ← hq3] at hr
  have hC := fun W => checkSale_any x W
  have Hr := Lib.hid hr; clear hr
  have hm : cap ≤ 9223372036854775807 := by have := hL.max; unfold maxLen at this; omega
  have hle := hL.le
  have hlen := Lib.hid hL.len
  have eg1 : ∀ args w, (callFunc 116 args).run Tryz.prog w = .ok (.enter 116 args) w := enters_of Tryz.func116 (by kernel_rfl) rfl
  have eg2 : ∀ args w, (callFunc 117 args).run Tryz.prog w = .ok (.enter 117 args) w := enters_of Tryz.func117 (by kernel_rfl) rfl
  have eg3 : ∀ args w, (callFunc 118 args).run Tryz.prog w = .ok (.enter 118 args) w := enters_of Tryz.func118 (by kernel_rfl) rfl
  have egC : ∀ args w, (callFunc 16 args).run Tryz.prog w = .ok (.enter 16 args) w := enters_of Tryz.func16 (by kernel_rfl) rfl
  have hmf : ∀ (fn : Fn) (first cap : Array Value) (w : World), (Instr.makeFunc fn first cap).run Tryz.prog w = .ok (.func fn first cap) w := fun _ _ _ _ => rfl
  have fh := fieldH
  go_enter Tryz.func79, Tryz.ntmps79
  go_wp2_with (fail)
  refine (headS_any x _).mono ?_
  rintro e w2 ⟨rfl, hB2⟩
  have k2 : Blk w2 w.heap.size #[.int .i64 x.id, .int .i64 x.known, .int .i64 x.hour, .int .i64 x.parcel, .int .i64 x.price, .int .i64 x.carter, .int .i64 x.keeper, .int .i64 x.since, .int .i64 x.of_] 24 := (Blk.new w _ _).below' hB2
  have hb2 : RowKit.Below w.heap.size w w2 := ((Below.refl _ w).alloc (Nat.le_refl _) _).trans (hB2.mono (by simp))
  have hs2 : w.heap.size < w2.heap.size := k2.lt
  obtain ⟨w3, hw3⟩ : ∃ w3, w3 = w2.alloc (.cells #[.int .i64 x.head.id, .int .i64 x.head.known, .int .i64 x.head.of_] 137) := ⟨_, rfl⟩
  have kE : Blk w3 w2.heap.size #[.int .i64 x.head.id, .int .i64 x.head.known, .int .i64 x.head.of_] 137 := hw3 ▸ Blk.new _ _ _
  have kX : Blk w3 w.heap.size #[.int .i64 x.id, .int .i64 x.known, .int .i64 x.hour, .int .i64 x.parcel, .int .i64 x.price, .int .i64 x.carter, .int .i64 x.keeper, .int .i64 x.since, .int .i64 x.of_] 24 := hw3 ▸ k2.alloc _
  have hb3 : RowKit.Below w.heap.size w w3 := hw3 ▸ hb2.alloc hb2.size _
  have cX0 : ∀ j, (w2.alloc (.cells #[.int .i64 x.head.id, .int .i64 x.head.known, .int .i64 x.head.of_] 137)).cell? ⟨w.heap.size, j, none⟩ = #[.int .i64 x.id, .int .i64 x.known, .int .i64 x.hour, .int .i64 x.parcel, .int .i64 x.price, .int .i64 x.carter, .int .i64 x.keeper, .int .i64 x.since, .int .i64 x.of_][j]? := hw3 ▸ kX.cell
  have Hw3 := Lib.hid hw3; clear hw3
  by_cases h1 : 200 ≤ n
  · go_wp2_with (fail)
    go_ret
    refine ⟨ret_int (by rw [Hr.out, hlen.out, if_pos h1]), ?_⟩
    rw [← Hw3.out]; exact hb3
  · rcases Bool.eq_false_or_eq_true (saleOk x) with hok | hok <;> simp only [hok, if_true, if_false, Bool.false_eq_true] at hC <;> have Hok := Lib.hid hok <;> clear hok
    rotate_left
    · go_wp2_with (fail)
      rw [← Hw3.out]
      clear cX0 Hw3
      refine (hC _).mono ?_
      rintro e w4 ⟨rfl, hB4⟩
      go_wp2_with (fail)
      go_ret
      exact ⟨ret_int (by rw [Hr.out, hlen.out, if_neg h1, Hok.out]; rfl), hb3.trans (hB4.mono hb3.size)⟩
    · go_wp2_with (fail)
      rw [← Hw3.out]
      clear cX0 Hw3
      refine (hC _).mono ?_
      rintro e w4 ⟨rfl, hB4⟩
      have kE4 := kE.below' hB4
      have hb4 := hb3.trans (hB4.mono hb3.size)
      have hs4 : w2.heap.size < w4.heap.size := kE4.lt
      go_wp2_with (fail)
      have hc1 := contS_any (fun y => decide (y.id = x.head.id)) 116 #[.pointer (some ⟨w2.heap.size, 0, none⟩)] eg1 a n cap xs w4 (hL.below hb4) (fun W y hW => folS1_any y x.head w2.heap.size W ((hW.cell (p := ⟨w2.heap.size, 0, none⟩) hs4).trans (kE4.cell 0)))
      rw [← hq1] at hc1
      have Hq1 := Lib.hid hq1; clear hq1
      refine hc1.mono ?_
      clear hc1
      rintro e w5 ⟨rfl, hB5⟩
      have kE5 := kE4.below' hB5
      have hb5 := hb4.trans (hB5.mono hb4.size)
      have hs5 : w2.heap.size < w5.heap.size := kE5.lt
      cases q1 with
      | true =>
        go_wp2_with (fail)
        go_ret
        exact ⟨ret_int (by rw [Hr.out, hlen.out, if_neg h1, Hok.out]; rfl), hb5⟩
      | false =>
        have g5 := cell_regrown (kE5.cell 1)
        rcases Nat.eq_zero_or_pos n with h0 | h0
        · subst h0
          have hx0 : xs = [] := List.eq_nil_of_length_eq_zero hlen.out
          have Hx0 := Lib.hid hx0; clear hx0
          go_wp2_with (fail)
          refine wp_region_quiet_below (by kernel_rfl) (by kernel_rfl) ?_
          repeat (go_big_quiet_step (fail))
          refine wpQuiet_nil ?_
          intro _ hw'
          obtain ⟨⟨dq, osq⟩, hw''⟩ := hw'
          subst hw''
          have hb6 := hb5.trans ((below_regrown w5 dq osq).mono hb5.size)
          have kE6 := kE5.below' (below_regrown w5 dq osq)
          have e4 : (match xs.getLast? with | some y => decide (x.head.known < y.head.known) | none => false) = false := by rw [Hx0.out]; rfl
          have Ht : Hid (r = if x.head.of_ = 0 then 0 else if (!q2) = true then 5 else if q3 = true then 6 else 0) := Lib.hid (by rw [Hr.out, hlen.out, if_neg h1, Hok.out, e4]; rfl)
          clear e4 g5
          change Exit.then _ _ _ _ (grow (redrawn w5 dq) osq)
          generalize grow (redrawn w5 dq) osq = w6 at *
          have hs6 : w2.heap.size < w6.heap.size := kE6.lt
          have c6 := kE6.cell
          by_cases h8 : x.head.of_ = 0
          · have g8 : (x.head.of_ == 0) = true := by simpa using h8
            have H8 := Lib.hid h8; clear h8
            go_wp2_with (fail)
            go_ret
            exact ⟨ret_int (by rw [Ht.out, if_pos H8.out]), hb6⟩
          · have g8 : (x.head.of_ == 0) = false := by simpa using h8
            have H8 := Lib.hid h8; clear h8
            go_wp2_with (fail)
            have hc2 := contS_any (fun y => decide (y.id = x.head.of_) && decide (y.of_ = 0)) 117 #[.pointer (some ⟨w2.heap.size, 0, none⟩)] eg2 _ _ cap xs w6 (hL.below hb6) (fun W y hW => folS2_any y x.head w2.heap.size W ((hW.cell (p := ⟨w2.heap.size, 2, none⟩) hs6).trans (kE6.cell 2)))
            rw [← hq2] at hc2
            have Hq2 := Lib.hid hq2; clear hq2
            refine hc2.mono ?_
            clear hc2
            rintro e w7 ⟨rfl, hB7⟩
            have kE7 := kE6.below' hB7
            have hb7 := hb6.trans (hB7.mono hb6.size)
            have hs7 : w2.heap.size < w7.heap.size := kE7.lt
            cases q2 with
            | false =>
              go_wp2_with (fail)
              go_ret
              exact ⟨ret_int (by rw [Ht.out, if_neg H8.out]; rfl), hb7⟩
            | true =>
              go_wp2_with (fail)
              have hc3 := contS_any (fun y => decide (y.of_ = x.head.of_)) 118 #[.pointer (some ⟨w2.heap.size, 0, none⟩)] eg3 _ _ cap xs w7 (hL.below hb7) (fun W y hW => folS3_any y x.head w2.heap.size W ((hW.cell (p := ⟨w2.heap.size, 2, none⟩) hs7).trans (kE7.cell 2)))
              rw [← hq3] at hc3
              have Hq3 := Lib.hid hq3; clear hq3
              refine hc3.mono ?_
              clear hc3
              rintro e w8 ⟨rfl, hB8⟩
              have hb8 := hb7.trans (hB8.mono hb7.size)
              cases q3 with
              | true =>
                go_wp2_with (fail)
                go_ret
                exact ⟨ret_int (by rw [Ht.out, if_neg H8.out]; rfl), hb8⟩
              | false =>
                go_wp2_with (fail)
                go_ret
                exact ⟨ret_int (by rw [Ht.out, if_neg H8.out]; rfl), hb8⟩
        · obtain ⟨m, rfl⟩ : ∃ m, n = m + 1 := ⟨n - 1, by omega⟩
          obtain ⟨y, hy⟩ : ∃ y, xs[m]? = some y := ⟨xs[m]'(by rw [hlen.out]; omega), by simp⟩
          obtain ⟨b, off, rfl, hb, hry⟩ := hL.at_ m y hy
          have hly : xs.getLast? = some y := by rw [List.getLast?_eq_getElem?, hlen.out]; exact hy
          have hry5 := rangeAt_below hb5 hb hry
          have l0 := cell_regrown (show w5.cell? ⟨b, off + m * 9, none⟩ = some (.int .i64 y.id) from hry5 0 _ rfl)
          have l1 := cell_regrown (hry5 1 _ rfl)
          have l2 := cell_regrown (hry5 2 _ rfl)
          have l3 := cell_regrown (hry5 3 _ rfl)
          have l4 := cell_regrown (hry5 4 _ rfl)
          have l5 := cell_regrown (hry5 5 _ rfl)
          have l6 := cell_regrown (hry5 6 _ rfl)
          have l7 := cell_regrown (hry5 7 _ rfl)
          have l8 := cell_regrown (hry5 8 _ rfl)
          have cH := regrown_call (w := w5) (v := .agg #[.int .i64 y.id, .int .i64 y.known, .int .i64 y.of_]) (fun W' _ => headS_any y W')
          have e4 : (match xs.getLast? with | some y => decide (x.head.known < y.head.known) | none => false) = decide (x.head.known < y.known) := by rw [hly]; rfl
          have Hf := Lib.hid (show r = if decide (x.head.known < y.known) = true then 7 else if x.head.of_ = 0 then 0 else if (!q2) = true then 5 else if q3 = true then 6 else 0 by rw [Hr.out, hlen.out, if_neg h1, Hok.out, e4]; rfl)
          clear hry hry5 e4 hly hy
          go_wp2_with (fail)
          refine wp_region_quiet_below (by kernel_rfl) (by kernel_rfl) ?_
          repeat (go_big_quiet_step (exact cH _ _))
          refine wpQuiet_nil ?_
          intro _ hw'
          obtain ⟨⟨dq, osq⟩, hw''⟩ := hw'
          subst hw''
          have hb6 := hb5.trans ((below_regrown w5 dq osq).mono hb5.size)
          have kE6 := kE5.below' (below_regrown w5 dq osq)
          clear l0 l1 l2 l3 l4 l5 l6 l7 l8 cH g5
          change Exit.then _ _ _ _ (grow (redrawn w5 dq) osq)
          generalize grow (redrawn w5 dq) osq = w6 at *
          by_cases h7 : x.head.known < y.known
          · go_wp2_with (fail)
            go_ret
            exact ⟨ret_int (by rw [Hf.out, decide_eq_true h7]; rfl), hb6⟩
          have Ht : Hid (r = if x.head.of_ = 0 then 0 else if (!q2) = true then 5 else if q3 = true then 6 else 0) := Lib.hid (by rw [Hf.out, decide_eq_false h7]; rfl)
          have hs6 : w2.heap.size < w6.heap.size := kE6.lt
          have c6 := kE6.cell
          by_cases h8 : x.head.of_ = 0
          · have g8 : (x.head.of_ == 0) = true := by simpa using h8
            have H8 := Lib.hid h8; clear h8
            go_wp2_with (fail)
            go_ret
            exact ⟨ret_int (by rw [Ht.out, if_pos H8.out]), hb6⟩
          · have g8 : (x.head.of_ == 0) = false := by simpa using h8
            have H8 := Lib.hid h8; clear h8
            go_wp2_with (fail)
            have hc2 := contS_any (fun y => decide (y.id = x.head.of_) && decide (y.of_ = 0)) 117 #[.pointer (some ⟨w2.heap.size, 0, none⟩)] eg2 _ _ cap xs w6 (hL.below hb6) (fun W y hW => folS2_any y x.head w2.heap.size W ((hW.cell (p := ⟨w2.heap.size, 2, none⟩) hs6).trans (kE6.cell 2)))
            rw [← hq2] at hc2
            have Hq2 := Lib.hid hq2; clear hq2
            refine hc2.mono ?_
            clear hc2
            rintro e w7 ⟨rfl, hB7⟩
            have kE7 := kE6.below' hB7
            have hb7 := hb6.trans (hB7.mono hb6.size)
            have hs7 : w2.heap.size < w7.heap.size := kE7.lt
            cases q2 with
            | false =>
              go_wp2_with (fail)
              go_ret
              exact ⟨ret_int (by rw [Ht.out, if_neg H8.out]; rfl), hb7⟩
            | true =>
              go_wp2_with (fail)
              have hc3 := contS_any (fun y => decide (y.of_ = x.head.of_)) 118 #[.pointer (some ⟨w2.heap.size, 0, none⟩)] eg3 _ _ cap xs w7 (hL.below hb7) (fun W y hW => folS3_any y x.head w2.heap.size W ((hW.cell (p := ⟨w2.heap.size, 2, none⟩) hs7).trans (kE7.cell 2)))
              rw [← hq3] at hc3
              have Hq3 := Lib.hid hq3; clear hq3
              refine hc3.mono ?_
              clear hc3
              rintro e w8 ⟨rfl, hB8⟩
              have hb8 := hb7.trans (hB8.mono hb7.size)
              cases q3 with
              | true =>
                go_wp2_with (fail)
                go_ret
                exact ⟨ret_int (by rw [Ht.out, if_neg H8.out]; rfl), hb8⟩
              | false =>
                go_wp2_with (fail)
                go_ret
                exact ⟨ret_int (by rw [Ht.out, if_neg H8.out]; rfl), hb8⟩
end Go.Proofs.YtkeppoiomjhkpaaGreatDoor
