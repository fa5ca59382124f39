import Derived.Test.YtkeppoiomjhkpaaGreatDoorPart04
import Derived.Test.YtkeppoiomjhkpaaGreatDoorPart05
import Derived.Test.YtkeppoiomjhkpaaGreatDoorPart01
import Derived.Test.YtkeppoiomjhkpaaGreatDoorPart09
import Derived.Test.YtkeppoiomjhkpaaGreatDoorPart06
import Derived.Test.YtkeppoiomjhkpaaGreatDoorPart03
import Derived.RangeFuncNested
import Derived.RangeFuncBound
import Derived.RangeFuncCalls
import Derived.RangeFuncLeaves
import Derived.RangeFuncBox
import Derived.Shelf.Abstract
import Derived.Shelf.RegionOpen
import Derived.OwnWalkIn
import Derived.TacticsInMore
import Derived.LoopNIn
import Derived.LoopIn
import Derived.Lib.QuietBelowIn
/-
  Walks: the records that are well-formed.
-/
namespace Go.Proofs.YtkeppoiomjhkpaaGreatDoor
open Go.RowKit Lg Go.Sort

set_option maxRecDepth 100000 in
set_option maxHeartbeats 1600000 in
theorem checkSale_any (x : Sale) (w : World) : Calls Tryz.prog 16 #[aS x] w (Gives w (.int .i64 (if saleOk x then 0 else 1))) := by
  obtain ⟨r, hr⟩ : ∃ r : Int, r = (if saleOk x then 0 else 1) := ⟨_, rfl⟩
  rw [← hr]
  have Hr := Lib.hid hr; clear hr
  have hin := in6_any
  have hnm := isName_any
  have hpt := isPart_any
  have hguard := guardS
  obtain ⟨q, hq⟩ : ∃ q, q = decide (x = ({ zeroSale with id := x.id, known := x.known, of_ := x.of_ } : Sale)) := ⟨_, rfl⟩
  have hq' := fun w => eqS x ({ zeroSale with id := x.id, known := x.known, of_ := x.of_ } : Sale) w
  rw [← hq] at hq'
  dsimp only [zeroSale] at hq'
  by_cases hof : x.of_ = 0
  · have hz : (x.of_ != 0) = false := by simpa using hof
    have Hof := Lib.hid hof; clear hof
    rcases Bool.eq_false_or_eq_true (inn x.id 1 1000000) with t1 | t1
    · rcases Bool.eq_false_or_eq_true (inn x.known 0 1000000) with t2 | t2
      · rcases Bool.eq_false_or_eq_true (inn x.hour 0 x.known) with t3 | t3
        · rcases Bool.eq_false_or_eq_true (inn x.parcel 10 10000007) with t4 | t4
          · rcases Bool.eq_false_or_eq_true (inn x.price 1 1000000000) with t5 | t5
            · rcases Bool.eq_false_or_eq_true (inn x.carter 0 40) with t6 | t6
              · rcases Bool.eq_false_or_eq_true (inn x.keeper 0 40) with t7 | t7
                · rcases Bool.eq_false_or_eq_true (inn x.since 0 x.hour) with t8 | t8
                  · rcases Bool.eq_false_or_eq_true (decide (0 < x.keeper)) with t9 | t9
                    · go_enter Tryz.func16, Tryz.ntmps16
                      go_wp2_with (first | (go_at_call 55; refine (hin _ _ _ _).mono ?_; rintro e w3 ⟨rfl, rfl⟩))
                      go_ret
                      refine ⟨ret_int (by rw [Hr.out]; simp [saleOk, Hof.out, t1, t2, t3, t4, t5, t6, t7, t8, t9]), ?_⟩
                      repeat (first | assumption | exact Below.refl _ _ | refine Below.alloc ?_ (by first | omega | simp <;> omega) _ | refine Below.setCell ?_ (by simp <;> omega) _ | refine Below.drew ?_)
                    · rcases Bool.eq_false_or_eq_true (x.since == 0) with tb | tb
                      · have ta : decide (x.since = 0) = _ := tb
                        go_enter Tryz.func16, Tryz.ntmps16
                        go_wp2_with (first | (go_at_call 55; refine (hin _ _ _ _).mono ?_; rintro e w3 ⟨rfl, rfl⟩))
                        go_ret
                        refine ⟨ret_int (by rw [Hr.out]; simp [saleOk, Hof.out, t1, t2, t3, t4, t5, t6, t7, t8, t9, ta]), ?_⟩
                        repeat (first | assumption | exact Below.refl _ _ | refine Below.alloc ?_ (by first | omega | simp <;> omega) _ | refine Below.setCell ?_ (by simp <;> omega) _ | refine Below.drew ?_)
                      · have ta : decide (x.since = 0) = _ := tb
                        go_enter Tryz.func16, Tryz.ntmps16
                        go_wp2_with (first | (go_at_call 55; refine (hin _ _ _ _).mono ?_; rintro e w3 ⟨rfl, rfl⟩))
                        go_ret
                        refine ⟨ret_int (by rw [Hr.out]; simp [saleOk, Hof.out, t1, t2, t3, t4, t5, t6, t7, t8, t9, ta]), ?_⟩
                        repeat (first | assumption | exact Below.refl _ _ | refine Below.alloc ?_ (by first | omega | simp <;> omega) _ | refine Below.setCell ?_ (by simp <;> omega) _ | refine Below.drew ?_)
                  · go_enter Tryz.func16, Tryz.ntmps16
                    go_wp2_with (first | (go_at_call 55; refine (hin _ _ _ _).mono ?_; rintro e w3 ⟨rfl, rfl⟩))
                    go_ret
                    refine ⟨ret_int (by rw [Hr.out]; simp [saleOk, Hof.out, t1, t2, t3, t4, t5, t6, t7, t8]), ?_⟩
                    repeat (first | assumption | exact Below.refl _ _ | refine Below.alloc ?_ (by first | omega | simp <;> omega) _ | refine Below.setCell ?_ (by simp <;> omega) _ | refine Below.drew ?_)
                · go_enter Tryz.func16, Tryz.ntmps16
                  go_wp2_with (first | (go_at_call 55; refine (hin _ _ _ _).mono ?_; rintro e w3 ⟨rfl, rfl⟩))
                  go_ret
                  refine ⟨ret_int (by rw [Hr.out]; simp [saleOk, Hof.out, t1, t2, t3, t4, t5, t6, t7]), ?_⟩
                  repeat (first | assumption | exact Below.refl _ _ | refine Below.alloc ?_ (by first | omega | simp <;> omega) _ | refine Below.setCell ?_ (by simp <;> omega) _ | refine Below.drew ?_)
              · go_enter Tryz.func16, Tryz.ntmps16
                go_wp2_with (first | (go_at_call 55; refine (hin _ _ _ _).mono ?_; rintro e w3 ⟨rfl, rfl⟩))
                go_ret
                refine ⟨ret_int (by rw [Hr.out]; simp [saleOk, Hof.out, t1, t2, t3, t4, t5, t6]), ?_⟩
                repeat (first | assumption | exact Below.refl _ _ | refine Below.alloc ?_ (by first | omega | simp <;> omega) _ | refine Below.setCell ?_ (by simp <;> omega) _ | refine Below.drew ?_)
            · go_enter Tryz.func16, Tryz.ntmps16
              go_wp2_with (first | (go_at_call 55; refine (hin _ _ _ _).mono ?_; rintro e w3 ⟨rfl, rfl⟩))
              go_ret
              refine ⟨ret_int (by rw [Hr.out]; simp [saleOk, Hof.out, t1, t2, t3, t4, t5]), ?_⟩
              repeat (first | assumption | exact Below.refl _ _ | refine Below.alloc ?_ (by first | omega | simp <;> omega) _ | refine Below.setCell ?_ (by simp <;> omega) _ | refine Below.drew ?_)
          · go_enter Tryz.func16, Tryz.ntmps16
            go_wp2_with (first | (go_at_call 55; refine (hin _ _ _ _).mono ?_; rintro e w3 ⟨rfl, rfl⟩))
            go_ret
            refine ⟨ret_int (by rw [Hr.out]; simp [saleOk, Hof.out, t1, t2, t3, t4]), ?_⟩
            repeat (first | assumption | exact Below.refl _ _ | refine Below.alloc ?_ (by first | omega | simp <;> omega) _ | refine Below.setCell ?_ (by simp <;> omega) _ | refine Below.drew ?_)
        · go_enter Tryz.func16, Tryz.ntmps16
          go_wp2_with (first | (go_at_call 55; refine (hin _ _ _ _).mono ?_; rintro e w3 ⟨rfl, rfl⟩))
          go_ret
          refine ⟨ret_int (by rw [Hr.out]; simp [saleOk, Hof.out, t1, t2, t3]), ?_⟩
          repeat (first | assumption | exact Below.refl _ _ | refine Below.alloc ?_ (by first | omega | simp <;> omega) _ | refine Below.setCell ?_ (by simp <;> omega) _ | refine Below.drew ?_)
      · go_enter Tryz.func16, Tryz.ntmps16
        go_wp2_with (first | (go_at_call 55; refine (hin _ _ _ _).mono ?_; rintro e w3 ⟨rfl, rfl⟩))
        go_ret
        refine ⟨ret_int (by rw [Hr.out]; simp [saleOk, Hof.out, t1, t2]), ?_⟩
        repeat (first | assumption | exact Below.refl _ _ | refine Below.alloc ?_ (by first | omega | simp <;> omega) _ | refine Below.setCell ?_ (by simp <;> omega) _ | refine Below.drew ?_)
    · go_enter Tryz.func16, Tryz.ntmps16
      go_wp2_with (first | (go_at_call 55; refine (hin _ _ _ _).mono ?_; rintro e w3 ⟨rfl, rfl⟩))
      go_ret
      refine ⟨ret_int (by rw [Hr.out]; simp [saleOk, Hof.out, t1]), ?_⟩
      repeat (first | assumption | exact Below.refl _ _ | refine Below.alloc ?_ (by first | omega | simp <;> omega) _ | refine Below.setCell ?_ (by simp <;> omega) _ | refine Below.drew ?_)
  · have hz : (x.of_ != 0) = true := by simpa using hof
    have Hof := Lib.hid hof; clear hof
    rcases Bool.eq_false_or_eq_true (inn x.id 1 1000000) with t1 | t1
    · rcases Bool.eq_false_or_eq_true (inn x.known 0 1000000) with t2 | t2
      · rcases Bool.eq_false_or_eq_true (inn x.of_ 1 1000000) with t3 | t3
        · cases q
          · have Hqd := Lib.hid hq.symm; clear hq
            go_enter Tryz.func16, Tryz.ntmps16
            go_wp2_with (first | (go_at_call 55; refine (hin _ _ _ _).mono ?_; rintro e w3 ⟨rfl, rfl⟩))
            go_ret
            refine ⟨ret_int (by rw [Hr.out]; simp [saleOk, Hof.out, t1, t2, t3, Hqd.out]), ?_⟩
            repeat (first | assumption | exact Below.refl _ _ | refine Below.alloc ?_ (by first | omega | simp <;> omega) _ | refine Below.setCell ?_ (by simp <;> omega) _ | refine Below.drew ?_)
          · have Hqd := Lib.hid hq.symm; clear hq
            go_enter Tryz.func16, Tryz.ntmps16
            go_wp2_with (first | (go_at_call 55; refine (hin _ _ _ _).mono ?_; rintro e w3 ⟨rfl, rfl⟩))
            go_ret
            refine ⟨ret_int (by rw [Hr.out]; simp [saleOk, Hof.out, t1, t2, t3, Hqd.out]), ?_⟩
            repeat (first | assumption | exact Below.refl _ _ | refine Below.alloc ?_ (by first | omega | simp <;> omega) _ | refine Below.setCell ?_ (by simp <;> omega) _ | refine Below.drew ?_)
        · go_enter Tryz.func16, Tryz.ntmps16
          go_wp2_with (first | (go_at_call 55; refine (hin _ _ _ _).mono ?_; rintro e w3 ⟨rfl, rfl⟩))
          go_ret
          refine ⟨ret_int (by rw [Hr.out]; simp [saleOk, Hof.out, t1, t2, t3]), ?_⟩
          repeat (first | assumption | exact Below.refl _ _ | refine Below.alloc ?_ (by first | omega | simp <;> omega) _ | refine Below.setCell ?_ (by simp <;> omega) _ | refine Below.drew ?_)
      · go_enter Tryz.func16, Tryz.ntmps16
        go_wp2_with (first | (go_at_call 55; refine (hin _ _ _ _).mono ?_; rintro e w3 ⟨rfl, rfl⟩))
        go_ret
        refine ⟨ret_int (by rw [Hr.out]; simp [saleOk, Hof.out, t1, t2]), ?_⟩
        repeat (first | assumption | exact Below.refl _ _ | refine Below.alloc ?_ (by first | omega | simp <;> omega) _ | refine Below.setCell ?_ (by simp <;> omega) _ | refine Below.drew ?_)
    · go_enter Tryz.func16, Tryz.ntmps16
      go_wp2_with (first | (go_at_call 55; refine (hin _ _ _ _).mono ?_; rintro e w3 ⟨rfl, rfl⟩))
      go_ret
      refine ⟨ret_int (by rw [Hr.out]; simp [saleOk, Hof.out, t1]), ?_⟩
      repeat (first | assumption | exact Below.refl _ _ | refine Below.alloc ?_ (by first | omega | simp <;> omega) _ | refine Below.setCell ?_ (by simp <;> omega) _ | refine Below.drew ?_)

end Go.Proofs.YtkeppoiomjhkpaaGreatDoor

/-
  Walks: fees, parties.
-/
namespace Go.Proofs.YtkeppoiomjhkpaaGreatDoor
open Go.RowKit Lg Go.Sort Go.Shelf

set_option maxRecDepth 100000 in
set_option maxHeartbeats 1600000 in
theorem fees_any (r : Rate) (s : Sale) (w : World) :
    Calls Tryz.prog 68 #[aR r, aS s] w (Gives w (.tuple #[.int .i64 (feesOf r s).1.1, .int .i64 (feesOf r s).1.2, .int .i64 (feesOf r s).2])) := by
  obtain ⟨v, hv⟩ : ∃ v, v = feesOf r s := ⟨_, rfl⟩
  rw [← hv]
  have Hv := Lib.hid hv; clear hv
  have kR : Blk ((w.alloc (.cells #[.int .i64 r.id, .int .i64 r.known, .int .i64 r.from_, .string r.goods, .int .i64 r.finder.num, .int .i64 r.finder.den, .int .i64 r.cart, .int .i64 r.store, .int .i64 r.of_] 43)).alloc (.cells #[.int .i64 s.id, .int .i64 s.known, .int .i64 s.hour, .int .i64 s.parcel, .int .i64 s.price, .int .i64 s.carter, .int .i64 s.keeper, .int .i64 s.since, .int .i64 s.of_] 24)) w.heap.size #[.int .i64 r.id, .int .i64 r.known, .int .i64 r.from_, .string r.goods, .int .i64 r.finder.num, .int .i64 r.finder.den, .int .i64 r.cart, .int .i64 r.store, .int .i64 r.of_] 43 := (Blk.new w _ _).alloc _
  have kS : Blk ((w.alloc (.cells #[.int .i64 r.id, .int .i64 r.known, .int .i64 r.from_, .string r.goods, .int .i64 r.finder.num, .int .i64 r.finder.den, .int .i64 r.cart, .int .i64 r.store, .int .i64 r.of_] 43)).alloc (.cells #[.int .i64 s.id, .int .i64 s.known, .int .i64 s.hour, .int .i64 s.parcel, .int .i64 s.price, .int .i64 s.carter, .int .i64 s.keeper, .int .i64 s.since, .int .i64 s.of_] 24)) (w.heap.size + 1) #[.int .i64 s.id, .int .i64 s.known, .int .i64 s.hour, .int .i64 s.parcel, .int .i64 s.price, .int .i64 s.carter, .int .i64 s.keeper, .int .i64 s.since, .int .i64 s.of_] 24 := by
    have := Blk.new (w.alloc (.cells #[.int .i64 r.id, .int .i64 r.known, .int .i64 r.from_, .string r.goods, .int .i64 r.finder.num, .int .i64 r.finder.den, .int .i64 r.cart, .int .i64 r.store, .int .i64 r.of_] 43)) 24 #[.int .i64 s.id, .int .i64 s.known, .int .i64 s.hour, .int .i64 s.parcel, .int .i64 s.price, .int .i64 s.carter, .int .i64 s.keeper, .int .i64 s.since, .int .i64 s.of_]
    simpa using this
  have hb1 : RowKit.Below w.heap.size w ((w.alloc (.cells #[.int .i64 r.id, .int .i64 r.known, .int .i64 r.from_, .string r.goods, .int .i64 r.finder.num, .int .i64 r.finder.den, .int .i64 r.cart, .int .i64 r.store, .int .i64 r.of_] 43)).alloc (.cells #[.int .i64 s.id, .int .i64 s.known, .int .i64 s.hour, .int .i64 s.parcel, .int .i64 s.price, .int .i64 s.carter, .int .i64 s.keeper, .int .i64 s.since, .int .i64 s.of_] 24)) := ((Below.refl _ w).alloc (Nat.le_refl _) _).alloc (by simp) _
  have hC := fun W => checkRate_any r W
  have hD := fun W => checkSale_any s W
  rcases Bool.eq_false_or_eq_true (rateOk r) with hr | hr <;> simp only [hr, if_true, if_false, Bool.false_eq_true] at hC <;> have Hr := Lib.hid hr <;> clear hr
  · rcases Bool.eq_false_or_eq_true (saleOk s) with hs | hs <;> simp only [hs, if_true, if_false, Bool.false_eq_true] at hD <;> have Hs := Lib.hid hs <;> clear hs
    · by_cases hro : r.of_ ≤ 0
      · have gro : decide (0 < r.of_) = false := by simpa using hro
        have Hro := Lib.hid hro; clear hro
        by_cases hso : s.of_ ≤ 0
        · have gso : decide (0 < s.of_) = false := by simpa using hso
          have Hso := Lib.hid hso; clear hso
          obtain ⟨-, -, -, hst1, hst2, -⟩ := rateOk_bounds Hr.out Hro.out
          obtain ⟨-, h1, h2, h3, -⟩ := saleOk_bounds Hs.out Hso.out
          have hq := fee_bound h1 h2 h3 hst1 hst2
          by_cases hc : 0 < s.carter
          · have gc : decide (0 < s.carter) = true := by simpa using hc
            have Hc := Lib.hid hc; clear hc
            by_cases hk : 0 < s.keeper
            · have gk : decide (0 < s.keeper) = true := by simpa using hk
              have Hk := Lib.hid hk; clear hk
              go_enter Tryz.func68, Tryz.ntmps68
              go_wp2_with (first
                | (go_at_call 28; refine (hC _).mono ?_; rintro e w2 ⟨rfl, hB2⟩; have kS2 := kS.below' hB2; have kR2 := kR.below' hB2; have cS2 := kS2.cell; have cR2 := kR2.cell; have hb2 := hb1.trans (hB2.mono hb1.size))
                | (go_at_call 16; refine (hD _).mono ?_; rintro e w3 ⟨rfl, hB3⟩; have kS3 := kS2.below' hB3; have kR3 := kR2.below' hB3; clear cS2 cR2; have cS3 := kS3.cell; have cR3 := kR3.cell; have hb3 := hb2.trans (hB3.mono hb2.size)))
              refine bodyPost_ret (results_tmp3 rfl _ _ _) rfl ⟨?_, hb3⟩
              rw [Hv.out]; simp [feesOf, Hr.out, Hs.out, Hro.out, Hso.out, if_pos Hc.out, if_pos Hk.out]
            · have gk : decide (0 < s.keeper) = false := by simpa using hk
              have Hk := Lib.hid hk; clear hk
              go_enter Tryz.func68, Tryz.ntmps68
              go_wp2_with (first
                | (go_at_call 28; refine (hC _).mono ?_; rintro e w2 ⟨rfl, hB2⟩; have kS2 := kS.below' hB2; have kR2 := kR.below' hB2; have cS2 := kS2.cell; have cR2 := kR2.cell; have hb2 := hb1.trans (hB2.mono hb1.size))
                | (go_at_call 16; refine (hD _).mono ?_; rintro e w3 ⟨rfl, hB3⟩; have kS3 := kS2.below' hB3; have kR3 := kR2.below' hB3; clear cS2 cR2; have cS3 := kS3.cell; have cR3 := kR3.cell; have hb3 := hb2.trans (hB3.mono hb2.size)))
              refine bodyPost_ret (results_tmp3 rfl _ _ _) rfl ⟨?_, hb3⟩
              rw [Hv.out]; simp [feesOf, Hr.out, Hs.out, Hro.out, Hso.out, if_pos Hc.out, if_neg (show ¬ 0 < s.keeper by have := Hk.out; omega)]
          · have gc : decide (0 < s.carter) = false := by simpa using hc
            have Hc := Lib.hid hc; clear hc
            by_cases hk : 0 < s.keeper
            · have gk : decide (0 < s.keeper) = true := by simpa using hk
              have Hk := Lib.hid hk; clear hk
              go_enter Tryz.func68, Tryz.ntmps68
              go_wp2_with (first
                | (go_at_call 28; refine (hC _).mono ?_; rintro e w2 ⟨rfl, hB2⟩; have kS2 := kS.below' hB2; have kR2 := kR.below' hB2; have cS2 := kS2.cell; have cR2 := kR2.cell; have hb2 := hb1.trans (hB2.mono hb1.size))
                | (go_at_call 16; refine (hD _).mono ?_; rintro e w3 ⟨rfl, hB3⟩; have kS3 := kS2.below' hB3; have kR3 := kR2.below' hB3; clear cS2 cR2; have cS3 := kS3.cell; have cR3 := kR3.cell; have hb3 := hb2.trans (hB3.mono hb2.size)))
              refine bodyPost_ret (results_tmp3 rfl _ _ _) rfl ⟨?_, hb3⟩
              rw [Hv.out]; simp [feesOf, Hr.out, Hs.out, Hro.out, Hso.out, if_neg (show ¬ 0 < s.carter by have := Hc.out; omega), if_pos Hk.out]
            · have gk : decide (0 < s.keeper) = false := by simpa using hk
              have Hk := Lib.hid hk; clear hk
              go_enter Tryz.func68, Tryz.ntmps68
              go_wp2_with (first
                | (go_at_call 28; refine (hC _).mono ?_; rintro e w2 ⟨rfl, hB2⟩; have kS2 := kS.below' hB2; have kR2 := kR.below' hB2; have cS2 := kS2.cell; have cR2 := kR2.cell; have hb2 := hb1.trans (hB2.mono hb1.size))
                | (go_at_call 16; refine (hD _).mono ?_; rintro e w3 ⟨rfl, hB3⟩; have kS3 := kS2.below' hB3; have kR3 := kR2.below' hB3; clear cS2 cR2; have cS3 := kS3.cell; have cR3 := kR3.cell; have hb3 := hb2.trans (hB3.mono hb2.size)))
              refine bodyPost_ret (results_tmp3 rfl _ _ _) rfl ⟨?_, hb3⟩
              rw [Hv.out]; simp [feesOf, Hr.out, Hs.out, Hro.out, Hso.out, if_neg (show ¬ 0 < s.carter by have := Hc.out; omega), if_neg (show ¬ 0 < s.keeper by have := Hk.out; omega)]
        · have gso : decide (0 < s.of_) = true := by simpa using hso
          have Hso := Lib.hid hso; clear hso
          go_enter Tryz.func68, Tryz.ntmps68
          go_wp2_with (first
            | (go_at_call 28; refine (hC _).mono ?_; rintro e w2 ⟨rfl, hB2⟩; have kS2 := kS.below' hB2; have kR2 := kR.below' hB2; have cS2 := kS2.cell; have cR2 := kR2.cell; have hb2 := hb1.trans (hB2.mono hb1.size))
            | (go_at_call 16; refine (hD _).mono ?_; rintro e w3 ⟨rfl, hB3⟩; have kS3 := kS2.below' hB3; have kR3 := kR2.below' hB3; clear cS2 cR2; have cS3 := kS3.cell; have cR3 := kR3.cell; have hb3 := hb2.trans (hB3.mono hb2.size)))
          refine bodyPost_ret (results_tmp3 rfl _ _ _) rfl ⟨?_, hb3⟩
          rw [Hv.out]; simp [feesOf, Hr.out, Hs.out, Hro.out, show ¬ s.of_ ≤ 0 by have := Hso.out; omega]
      · have gro : decide (0 < r.of_) = true := by simpa using hro
        have Hro := Lib.hid hro; clear hro
        go_enter Tryz.func68, Tryz.ntmps68
        go_wp2_with (first
          | (go_at_call 28; refine (hC _).mono ?_; rintro e w2 ⟨rfl, hB2⟩; have kS2 := kS.below' hB2; have kR2 := kR.below' hB2; have cS2 := kS2.cell; have cR2 := kR2.cell; have hb2 := hb1.trans (hB2.mono hb1.size))
          | (go_at_call 16; refine (hD _).mono ?_; rintro e w3 ⟨rfl, hB3⟩; have kS3 := kS2.below' hB3; have kR3 := kR2.below' hB3; clear cS2 cR2; have cS3 := kS3.cell; have cR3 := kR3.cell; have hb3 := hb2.trans (hB3.mono hb2.size)))
        refine bodyPost_ret (results_tmp3 rfl _ _ _) rfl ⟨?_, hb3⟩
        rw [Hv.out]; simp [feesOf, Hr.out, Hs.out, show ¬ r.of_ ≤ 0 by have := Hro.out; omega]
    · go_enter Tryz.func68, Tryz.ntmps68
      go_wp2_with (first
        | (go_at_call 28; refine (hC _).mono ?_; rintro e w2 ⟨rfl, hB2⟩; have kS2 := kS.below' hB2; have kR2 := kR.below' hB2; have cS2 := kS2.cell; have cR2 := kR2.cell; have hb2 := hb1.trans (hB2.mono hb1.size))
        | (go_at_call 16; refine (hD _).mono ?_; rintro e w3 ⟨rfl, hB3⟩; have kS3 := kS2.below' hB3; have kR3 := kR2.below' hB3; clear cS2 cR2; have cS3 := kS3.cell; have cR3 := kR3.cell; have hb3 := hb2.trans (hB3.mono hb2.size)))
      refine bodyPost_ret (results_tmp3 rfl _ _ _) rfl ⟨?_, hb3⟩
      rw [Hv.out]; simp [feesOf, Hr.out, Hs.out]
  · go_enter Tryz.func68, Tryz.ntmps68
    go_wp2_with (first
      | (go_at_call 28; refine (hC _).mono ?_; rintro e w2 ⟨rfl, hB2⟩; have kS2 := kS.below' hB2; have kR2 := kR.below' hB2; have cS2 := kS2.cell; have cR2 := kR2.cell; have hb2 := hb1.trans (hB2.mono hb1.size))
      | (go_at_call 16; refine (hD _).mono ?_; rintro e w3 ⟨rfl, hB3⟩; have kS3 := kS2.below' hB3; have kR3 := kR2.below' hB3; clear cS2 cR2; have cS3 := kS3.cell; have cR3 := kR3.cell; have hb3 := hb2.trans (hB3.mono hb2.size)))
    refine bodyPost_ret (results_tmp3 rfl _ _ _) rfl ⟨?_, hb2⟩
    rw [Hv.out]; simp [feesOf, Hr.out]

end Go.Proofs.YtkeppoiomjhkpaaGreatDoor

/-
  Walks: the pot: takes, gives.
-/
namespace Go.Proofs.YtkeppoiomjhkpaaGreatDoor
open Go.RowKit Lg Go.Sort Go.Shelf

set_option maxRecDepth 100000 in
set_option maxHeartbeats 1600000 in
theorem takes_any (B : Nat) (price cart store find rest n m : Int) (r : Rate) (s : Sale) (fv lv : Value) (W : World) (hB : Blk W B #[.int .i64 price, .int .i64 cart, .int .i64 store, .int .i64 find, .int .i64 rest, .slice none 0 0, .int .i64 r.id, .int .i64 r.known, .int .i64 r.from_, .string r.goods, .int .i64 r.finder.num, .int .i64 r.finder.den, .int .i64 r.cart, .int .i64 r.store, .int .i64 r.of_, .int .i64 s.id, .int .i64 s.known, .int .i64 s.hour, .int .i64 s.parcel, .int .i64 s.price, .int .i64 s.carter, .int .i64 s.keeper, .int .i64 s.since, .int .i64 s.of_, fv, lv] 112)
    (hn : 0 ≤ n ∧ n ≤ 4000000000000000000) (hr : 0 ≤ rest ∧ rest ≤ 4000000000000000000) (hm : m = min n rest) :
    Calls Tryz.prog 101 #[.pointer (some ⟨B, 0, none⟩), .int .i64 n] W fun e w' => e = .returned (.int .i64 m) ∧ w' = W.setCell ⟨B, 4, none⟩ (.int .i64 (rest - m)) := by
  have c := hB.cell
  have f := hB.frozen
  obtain ⟨hn1, hn2⟩ := hn
  obtain ⟨hr1, hr2⟩ := hr
  have Hm := Lib.hid hm; clear hm
  go_enter Tryz.func101, Tryz.ntmps101
  go_wp2
  go_ret
  rw [Hm.out]
  exact ⟨rfl, rfl⟩

theorem cSh_one (x : Share) : ∀ u ∈ cSh x, u.oneCell' = true := by simp [cSh, Value.oneCell']

set_option maxRecDepth 100000 in
set_option maxHeartbeats 1600000 in
theorem gives_any (B base : Nat) (price cart store find rest party pence : Int) (r : Rate) (s : Sale) (fv lv : Value) (shs : List Share) (W : World) (hB : Blk W B #[.int .i64 price, .int .i64 cart, .int .i64 store, .int .i64 find, .int .i64 rest, .slice none 0 0, .int .i64 r.id, .int .i64 r.known, .int .i64 r.from_, .string r.goods, .int .i64 r.finder.num, .int .i64 r.finder.den, .int .i64 r.cart, .int .i64 r.store, .int .i64 r.of_, .int .i64 s.id, .int .i64 s.known, .int .i64 s.hour, .int .i64 s.parcel, .int .i64 s.price, .int .i64 s.carter, .int .i64 s.keeper, .int .i64 s.since, .int .i64 s.of_, fv, lv] 112)
    (ho : W.ownsRow base 76 2 lv shs.length (shs.flatMap cSh)) (hlt : B < base) (hbs : base ≤ W.heap.size) (hn : shs.length ≤ 1000) :
    Calls Tryz.prog 102 #[.pointer (some ⟨B, 0, none⟩), .int .i64 party, .int .i64 pence] W fun e w' => e = .returned (.tuple #[]) ∧ ∃ lv', Blk w' B #[.int .i64 price, .int .i64 cart, .int .i64 store, .int .i64 find, .int .i64 rest, .slice none 0 0, .int .i64 r.id, .int .i64 r.known, .int .i64 r.from_, .string r.goods, .int .i64 r.finder.num, .int .i64 r.finder.den, .int .i64 r.cart, .int .i64 r.store, .int .i64 r.of_, .int .i64 s.id, .int .i64 s.known, .int .i64 s.hour, .int .i64 s.parcel, .int .i64 s.price, .int .i64 s.carter, .int .i64 s.keeper, .int .i64 s.since, .int .i64 s.of_, fv, lv'] 112 ∧
      w'.ownsRow base 76 2 lv' (shs ++ [Share.mk party pence]).length ((shs ++ [Share.mk party pence]).flatMap cSh) ∧ RowKit.Below B W w' ∧
      (∀ k, k < W.heap.size → k ≠ B → some k ≠ lv.ownBlock → w'.heap[k]? = W.heap[k]?) ∧ (lv'.ownBlock = lv.ownBlock ∨ ∃ g, lv'.ownBlock = some g ∧ W.heap.size ≤ g) := by
  have c := hB.cell
  have f := hB.frozen
  have hl := hB.lt
  obtain ⟨i0, hi0, hz0, hz1, hz2⟩ := info_parts infoSh
  go_enter Tryz.func102, Tryz.ntmps102
  go_wp2_with (at_builtin; refine wpList_append_lies _ rfl _ _ _ rfl base 76 i0 _ 2 16 Tryz.underlying59 hi0 hz0 hz1 hz2 rfl (by omega) lv shs.length (shs.flatMap cSh) rfl (ho.alloc _) ⟨W.heap.size, 0, none⟩ 1 1 [.int .i64 party, .int .i64 pence] rfl rfl (World.news_of_block (cs := #[.int .i64 party, .int .i64 pence]) (t := 76) (fr := (0, 0)) (heap_alloc_new W _)) (by simp [Value.oneCell']) (by omega) (by unfold maxLen; omega) (by omega) (by simp; omega) _ rfl ?_; intro g cap1 w1 hown hgrow hat hlt1; have hk := (hB.alloc _).kept hgrow (fun e => Nat.lt_irrefl _ (Nat.lt_of_lt_of_le hlt (own_ge ho _ e.symm))); have c1 := hk.cell; have f1 := hk.frozen)
  go_end0
  have e25 : (#[.int .i64 price, .int .i64 cart, .int .i64 store, .int .i64 find, .int .i64 rest, .slice none 0 0, .int .i64 r.id, .int .i64 r.known, .int .i64 r.from_, .string r.goods, .int .i64 r.finder.num, .int .i64 r.finder.den, .int .i64 r.cart, .int .i64 r.store, .int .i64 r.of_, .int .i64 s.id, .int .i64 s.known, .int .i64 s.hour, .int .i64 s.parcel, .int .i64 s.price, .int .i64 s.carter, .int .i64 s.keeper, .int .i64 s.since, .int .i64 s.of_, fv, lv]).setIfInBounds 25 (.slice (some ⟨g, 0, none⟩) (shs.length + 1) cap1) = #[.int .i64 price, .int .i64 cart, .int .i64 store, .int .i64 find, .int .i64 rest, .slice none 0 0, .int .i64 r.id, .int .i64 r.known, .int .i64 r.from_, .string r.goods, .int .i64 r.finder.num, .int .i64 r.finder.den, .int .i64 r.cart, .int .i64 r.store, .int .i64 r.of_, .int .i64 s.id, .int .i64 s.known, .int .i64 s.hour, .int .i64 s.parcel, .int .i64 s.price, .int .i64 s.carter, .int .i64 s.keeper, .int .i64 s.since, .int .i64 s.of_, fv, .slice (some ⟨g, 0, none⟩) (shs.length + 1) cap1] := by kernel_rfl
  refine ⟨rfl, .slice (some ⟨g, 0, none⟩) (shs.length + 1) cap1, ?_, ?_, ?_, ?_, ?_⟩
  · rw [← e25]; exact hk.setCell 25 _
  · rw [List.length_append, List.flatMap_append, List.flatMap_singleton]
    refine World.ownsRow.kept hown (grownBy_setCells w1 B 25 [.slice (some ⟨g, 0, none⟩) (shs.length + 1) cap1]) (.inr ?_)
    have := (hown.lt g rfl).1
    simp [Value.ownBlock]; omega
  · exact (below_of_grown ((Below.refl B W).alloc (Nat.le_of_lt hl) _) (Nat.le_of_lt hl) hgrow (fun r e => Nat.le_of_lt (Nat.lt_of_lt_of_le hlt (own_ge ho r e)))).setCell (p := ⟨B, 25, none⟩) (Nat.le_refl _) _
  · intro k hk1 hk2 hk3
    rw [Below.heap_setCell w1 ⟨B, 25, none⟩ _ k hk2, hgrow.block k (by simp; omega) hk3]
    exact Below.heap_alloc _ _ _ hk1
  · rcases hat with h | h
    · exact .inl h.symm
    · exact .inr ⟨g, rfl, by rw [h]; simp⟩

end Go.Proofs.YtkeppoiomjhkpaaGreatDoor

/-
  The iterator over what counts: its contract.
-/
namespace Go.Proofs.YtkeppoiomjhkpaaGreatDoor
open Go.RowKit Lg Go.Sort Go.Shelf

attribute [local go_sem] Oper.semAt_some

theorem any_head (l : List Rate) (h : Head) (known : Int) : l.any (fun v => voids h v.head known) = (l.map Rate.head).any (fun v => voids h v known) := by
  rw [List.any_map]; rfl

theorem grownBy_of_below {w w' : World} (h : Below w.heap.size w w') : w.grownBy w' none :=
  ⟨h.os, h.tape, h.output, h.size, fun k hk _ => h.block k hk⟩

/-- The blocks of S lie as they lay. -/
def KpOn (S : Nat → Prop) (W W' : World) : Prop := W.heap.size ≤ W'.heap.size ∧ ∀ k, S k → W'.heap[k]? = W.heap[k]?
theorem KpOn.refl (S : Nat → Prop) (W : World) : KpOn S W W := ⟨Nat.le_refl _, fun _ _ => rfl⟩
theorem KpOn.trans {S : Nat → Prop} {a b c : World} (h : KpOn S a b) (k : KpOn S b c) : KpOn S a c := ⟨Nat.le_trans h.1 k.1, fun i hi => (k.2 i hi).trans (h.2 i hi)⟩
theorem KpOn.of_below {S : Nat → Prop} {B : Nat} {a b : World} (h : Below B a b) (hS : ∀ k, S k → k < B) : KpOn S a b := ⟨h.size, fun k hk => h.block k (hS k hk)⟩
theorem KpOn.cell {S : Nat → Prop} {W W' : World} (h : KpOn S W W') {p : Addr} (hp : S p.block) : W'.cell? p = W.cell? p := World.cell?_of_block (w := W) (h.2 p.block hp)
theorem rangeAt_kp {S : Nat → Prop} {w w' : World} (h : KpOn S w w') {b o : Nat} {cs : List Value} (hb : S b) (hr : w.rangeAt b o cs) : w'.rangeAt b o cs :=
  fun j v hv => (h.cell (p := ⟨b, o + j, none⟩) hb).trans (hr j v hv)

theorem abides_below {β : Type} {B : Nat} {J : β → World → Prop} (h : AbidesFrom B J) {s : β} {W W' : World} (hJ : J s W) (hb : Below W.heap.size W W') : J s W' :=
  h s W W' none hJ (grownBy_of_below hb) (fun r e => by cases e)

set_option maxRecDepth 100000 in
set_option maxHeartbeats 1000000 in
theorem countingR1 (n : Nat) (hn : 1 ≤ n) (l Bl Bk : Nat) (S : Nat → Prop) (a : Option Addr) (m cap : Nat) (xs : List Rate) (known : Int) (J Jx : List Rate → World → Prop)
    (W : World) (hJ : AbidesFrom W.heap.size J) (hBl : W.cell? ⟨Bl, 0, none⟩ = some (.slice a m cap)) (hBk : W.cell? ⟨Bk, 0, none⟩ = some (.int .i64 known)) (hS1 : S Bl) (hS2 : S Bk) (hSlt : ∀ k, S k → k < W.heap.size)
    (hL : Lst W 9 cR a m cap xs) (hLb : ∀ b off, xs ≠ [] → a = some ⟨b, off, none⟩ → S b)
    (hY : ∀ pre x W1, J pre W1 → pre.length < xs.length → YieldAt Fence.wide (n - 1) Tryz.prog l #[aR x] W1 fun e W' =>
      (e = .returned (.bool true) ∧ J (pre ++ [x]) W' ∧ KpOn S W1 W') ∨ (e = .returned (.bool false) ∧ Jx (pre ++ [x]) W'))
    (h0 : J [] W) :
    CallsIn Fence.wide n Tryz.prog 132 #[.func (.yield l) #[] #[], .pointer (some ⟨Bl, 0, none⟩), .pointer (some ⟨Bk, 0, none⟩)] W fun e W' => (∃ v, e = .returned v) ∧
      ((∃ ys, ys = cntR xs known ∧ J ys W') ∨ (∃ pre, pre <+: cntR xs known ∧ Jx pre W')) := by
  have hm : cap ≤ 9223372036854775807 := by have := hL.max; unfold maxLen at this; omega
  have hle := hL.le
  have hlen := Lib.hid hL.len
  have hw115 : Fence.wide.fn 87 := trivial
  have hw116 : Fence.wide.fn 88 := trivial
  refine callsIn_of_wp Tryz.func132 rfl trivial ?_ rfl
  simp only [Tryz.ntmps132, List.size_toArray, List.length_cons, List.length_nil, Nat.reduceAdd, Nat.reduceSub, Array.replicate_succ, Array.replicate_zero, List.push_toArray, List.append_toArray, List.nil_append, List.cons_append]
  gi_wp2
  gi_loopw [10] (fun i wr => ∃ k : Nat, k ≤ m ∧ i = .int .i64 k ∧ KpOn S W wr ∧ J ((xs.take k).filter fun x => counts (xs.map Rate.head) known x.head) wr) (fun i _ => m - (intOf i).toNat)
  case atStart => exact ⟨0, Nat.zero_le _, rfl, KpOn.refl _ _, h0⟩
  case round =>
    obtain ⟨k, hk, rfl, hB, hJk⟩ := hrel
    have hsz := hB.1
    have hlt1 := hSlt _ hS1
    have hlt2 := hSlt _ hS2
    by_cases hlt : k < m
    · obtain ⟨x, hx⟩ : ∃ x, xs[k]? = some x := ⟨xs[k]'(by rw [hlen.out]; exact hlt), by simp⟩
      obtain ⟨b, off, rfl, hb, hr⟩ := hL.at_ k x hx
      have hne : xs ≠ [] := fun h => by rw [h] at hx; simp at hx
      have hr' := rangeAt_kp hB (hLb b off hne rfl) hr
      have hX := Lib.hid hx; clear hx
      have HJ := Lib.hid hJk; clear hJk
      gi_wp2_with (refine wpListIn_load_mid rfl 43 _ rfl b (off + k * 9) rfl (cR x) _ hr' Tryz.underlying43 rfl (by kernel_rfl) ?_)
      refine (callsIn_wide.2 (headR_any x _)).mono ?_
      rintro e w2 ⟨rfl, hB2⟩
      obtain ⟨A1, hA1⟩ : ∃ A1, A1 = wr.alloc (.cells #[.int .i64 x.id, .int .i64 x.known, .int .i64 x.from_, .string x.goods, .int .i64 x.finder.num, .int .i64 x.finder.den, .int .i64 x.cart, .int .i64 x.store, .int .i64 x.of_] 43) := ⟨_, rfl⟩
      rw [← hA1] at hB2
      have hBA : Below wr.heap.size wr A1 := hA1 ▸ (Below.refl _ wr).alloc (Nat.le_refl _) _
      have hszA : A1.heap.size = wr.heap.size + 1 := by rw [hA1]; simp
      have hb2 : Below wr.heap.size wr w2 := hBA.trans (hB2.mono hBA.size)
      have hsz2 : wr.heap.size + 1 ≤ w2.heap.size := by have := hB2.size; omega
      have hbox : ∀ j, w2.cell? ⟨wr.heap.size, j, none⟩ = #[Value.int .i64 x.id, .int .i64 x.known, .int .i64 x.from_, .string x.goods, .int .i64 x.finder.num, .int .i64 x.finder.den, .int .i64 x.cart, .int .i64 x.store, .int .i64 x.of_][j]? := fun j => by
        rw [hB2.cell (p := ⟨wr.heap.size, j, none⟩) (by rw [hszA]; exact Nat.lt_succ_self _), hA1]
        exact cell_of_row _ _ _ _ _ _ (heap_alloc_new wr _)
      clear hA1
      have hBl2 : w2.cell? ⟨Bl, 0, none⟩ = some (.slice (some ⟨b, off, none⟩) m cap) := ((hb2.cell (p := ⟨Bl, 0, none⟩) (show Bl < wr.heap.size by omega)).trans (hB.cell (p := ⟨Bl, 0, none⟩) hS1)).trans hBl
      have hBk2 : w2.cell? ⟨Bk, 0, none⟩ = some (.int .i64 known) := ((hb2.cell (p := ⟨Bk, 0, none⟩) (show Bk < wr.heap.size by omega)).trans (hB.cell (p := ⟨Bk, 0, none⟩) hS2)).trans hBk
      have hBl3 := cell_allocs hBl2
      have hBk3 := cell_allocs hBk2
      have hmf : ∀ (fn : Fn) (first cap : Array Value) (w : World), (Instr.makeFunc fn first cap).run Tryz.prog w = .ok (.func fn first cap) w := fun _ _ _ _ => rfl
      gi_wp2
      have eg : ∀ args w, (callFunc 133 args).run Tryz.prog w = .ok (.enter 133 args) w := enters_of Tryz.func133 (by kernel_rfl) rfl
      obtain ⟨A3, hA3⟩ : ∃ A3, A3 = w2.alloc (.cells #[.int .i64 x.head.id, .int .i64 x.head.known, .int .i64 x.head.of_] 137) := ⟨_, rfl⟩
      have hBA3 : Below w2.heap.size w2 A3 := hA3 ▸ (Below.refl _ w2).alloc (Nat.le_refl _) _
      have hszA3 : A3.heap.size = w2.heap.size + 1 := by rw [hA3]; simp
      have hent : ∀ j, A3.cell? ⟨w2.heap.size, j, none⟩ = #[Value.int .i64 x.head.id, .int .i64 x.head.known, .int .i64 x.head.of_][j]? := fun j => by
        rw [hA3]; exact cell_of_row _ _ _ _ _ _ (heap_alloc_new w2 _)
      have hB23 : Below wr.heap.size wr A3 := hb2.trans (hBA3.mono hb2.size)
      have hL3 : Lst A3 9 cR (some ⟨b, off, none⟩) m cap xs := ⟨hL.len, hL.le, hL.max, fun i y hy => by
        obtain ⟨b', off', ha, hlt', hr⟩ := hL.at_ i y hy
        cases ha
        exact ⟨b, off, rfl, by have := hB23.size; omega, rangeAt_below hB23 (by omega) (rangeAt_kp hB (hLb _ _ hne rfl) hr)⟩⟩
      rw [← hA3]; clear hA3
      refine (callsIn_wide.2 (contR_any (fun v => voids x.head v.head known) 133 #[.pointer (some ⟨w2.heap.size, 0, none⟩), .pointer (some ⟨Bk, 0, none⟩)] eg (some ⟨b, off, none⟩) m cap xs A3 hL3 (fun W' v hW' => voidR_any v x.head known w2.heap.size Bk W' ?_ ?_))).mono ?_
      · rw [hW'.cell (p := ⟨w2.heap.size, 0, none⟩) (by rw [hszA3]; exact Nat.lt_succ_self _), hent]; rfl
      · rw [hW'.cell (p := ⟨Bk, 0, none⟩) (show Bk < _ by rw [hszA3]; omega), hBA3.cell (p := ⟨Bk, 0, none⟩) (show Bk < _ by omega)]; exact hBk2
      rintro e w4 ⟨rfl, hB4⟩
      have hb4 : Below wr.heap.size wr w4 := hB23.trans (hB4.mono hB23.size)
      have hent4 : ∀ j, w4.cell? ⟨w2.heap.size, j, none⟩ = #[Value.int .i64 x.head.id, .int .i64 x.head.known, .int .i64 x.head.of_][j]? := fun j => by
        rw [hB4.cell (p := ⟨w2.heap.size, j, none⟩) (by rw [hszA3]; exact Nat.lt_succ_self _)]; exact hent j
      have hbox4 : ∀ j, w4.cell? ⟨wr.heap.size, j, none⟩ = #[Value.int .i64 x.id, .int .i64 x.known, .int .i64 x.from_, .string x.goods, .int .i64 x.finder.num, .int .i64 x.finder.den, .int .i64 x.cart, .int .i64 x.store, .int .i64 x.of_][j]? := fun j => by
        rw [hB4.cell (p := ⟨wr.heap.size, j, none⟩) (show wr.heap.size < _ by omega), hBA3.cell (p := ⟨wr.heap.size, j, none⟩) (show wr.heap.size < _ by omega)]; exact hbox j
      have hBk4 : w4.cell? ⟨Bk, 0, none⟩ = some (.int .i64 known) := by
        rw [hB4.cell (p := ⟨Bk, 0, none⟩) (show Bk < _ by omega), hBA3.cell (p := ⟨Bk, 0, none⟩) (show Bk < _ by omega)]; exact hBk2
      have hJ4 := abides_below hJ HJ.out hb4
      have hcnt : counts (xs.map Rate.head) known x.head = (decide (x.head.of_ = 0) && decide (x.head.known ≤ known) && !(xs.any fun v => voids x.head v.head known)) := by
        rw [any_head]; rfl
      have Hcnt := Lib.hid hcnt; clear hcnt
      have hlp : ((xs.take k).filter fun x => counts (xs.map Rate.head) known x.head).length < xs.length := by
        have h1 := List.length_filter_le (fun x => counts (xs.map Rate.head) known x.head) (xs.take k)
        have h2 := List.length_take_le k xs
        rw [hlen.out]; omega
      clear hbox hent hBl hBk hBl2 hBk2 hBl3 hBk3 hB2 hb2 hBA hr hr' hBA3 hL3 eg hmf
      have htake : (xs.take (k + 1)).filter (fun x => counts (xs.map Rate.head) known x.head) = ((xs.take k).filter fun x => counts (xs.map Rate.head) known x.head) ++ (if counts (xs.map Rate.head) known x.head then [x] else []) := by
        obtain ⟨h1, h2⟩ := List.getElem?_eq_some_iff.1 hX.out
        rw [List.take_succ_eq_append_getElem h1, h2, List.filter_append, List.filter_cons, List.filter_nil]
      have Htake := Lib.hid htake; clear htake
      generalize (xs.any fun v => voids x.head v.head known) = vd at *
      have hgo : counts (xs.map Rate.head) known x.head = false → ∀ w5, Below wr.heap.size wr w5 → J ((xs.take (k + 1)).filter fun x => counts (xs.map Rate.head) known x.head) w5 := fun hf w5 hb => by
        rw [Htake.out, hf]; simpa using abides_below hJ HJ.out hb
      have hBn : KpOn S W w4 := hB.trans (KpOn.of_below hb4 (fun k hk => by have := hSlt k hk; omega))
      by_cases g1 : (x.head.of_ == 0) = true
      · by_cases g2 : x.head.known ≤ known
        · cases vd with
          | true =>
            have Hf : Hid (counts (xs.map Rate.head) known x.head = false) := Lib.hid (by rw [Hcnt.out]; simp)
            gi_wp2
            refine ⟨fun _ h => (by cases h), ?_⟩
            gi_wp2
            go_roundw
            case rel => exact ⟨k + 1, by omega, by go_num, hBn, hgo Hf.out _ hb4⟩
            case measure => simp [intOf]; omega
          | false =>
            have Hf : Hid (counts (xs.map Rate.head) known x.head = true) := Lib.hid (by rw [Hcnt.out]; simp at g1; simp [g1, g2])
            obtain ⟨fn, tmps, assign, body, hy, hR⟩ := hY _ x w4 hJ4 hlp
            have htk : (xs.take (k + 1)).filter (fun x => counts (xs.map Rate.head) known x.head) = ((xs.take k).filter fun x => counts (xs.map Rate.head) known x.head) ++ [x] := by rw [Htake.out, Hf.out]; rfl
            have Htk := Lib.hid htk; clear htk
            gi_wp2
            refine hR.mono ?_
            rintro e w5 (⟨rfl, hJ5, hk5⟩ | ⟨rfl, hJx5⟩)
            · gi_wp2
              go_roundw
              case rel => exact ⟨k + 1, by omega, by go_num, hBn.trans hk5, by rw [Htk.out]; exact hJ5⟩
              case measure => simp [intOf]; omega
            · gi_wp2
              refine bodyPost_ret (results_none rfl _ _ _) rfl ?_
              refine ⟨⟨_, rfl⟩, .inr ⟨_, ?_, hJx5⟩⟩
              rw [← Htk.out]
              unfold cntR
              exact ⟨(xs.drop (k + 1)).filter fun x => counts (xs.map Rate.head) known x.head, by rw [← List.filter_append, List.take_append_drop]⟩
        · have Hf : Hid (counts (xs.map Rate.head) known x.head = false) := Lib.hid (by rw [Hcnt.out]; simp [g2])
          gi_wp2
          refine ⟨fun _ h => (by cases h), ?_⟩
          gi_wp2
          go_roundw
          case rel => exact ⟨k + 1, by omega, by go_num, hBn, hgo Hf.out _ hb4⟩
          case measure => simp [intOf]; omega
      · have g1' : (x.head.of_ == 0) = false := by simpa using g1
        clear g1
        have Hf : Hid (counts (xs.map Rate.head) known x.head = false) := Lib.hid (by rw [Hcnt.out]; simp at g1'; simp [g1'])
        gi_wp2
        refine ⟨fun _ h => (by cases h), ?_⟩
        gi_wp2
        go_roundw
        case rel => exact ⟨k + 1, by omega, by go_num, hBn, hgo Hf.out _ hb4⟩
        case measure => simp [intOf]; omega
    · obtain rfl : k = m := by omega
      have HJ := Lib.hid hJk; clear hJk
      gi_wp2
      go_end0
      refine ⟨⟨_, rfl⟩, .inl ⟨_, rfl, ?_⟩⟩
      have := HJ.out
      rw [List.take_of_length_le (by rw [hlen.out]; exact Nat.le_refl _)] at this
      exact this


/-- counting: the list and the hour are boxed; the function value captures the boxes. -/
theorem countingR_any (a : Option Addr) (m cap : Nat) (known : Int) (w : World) :
    Calls Tryz.prog 96 #[.slice a m cap, .int .i64 known] w fun e w' => e = .returned (.func (.func 132) #[] #[.pointer (some ⟨w.heap.size, 0, none⟩), .pointer (some ⟨w.heap.size + 1, 0, none⟩)]) ∧
      (w.alloc (.cells #[.slice a m cap] 39)).alloc (.cells #[.int .i64 known] 3) = w' := by
  have hmf : ∀ (fn : Fn) (first cap : Array Value) (w : World), (Instr.makeFunc fn first cap).run Tryz.prog w = .ok (.func fn first cap) w := fun _ _ _ _ => rfl
  go_enter Tryz.func96, Tryz.ntmps96
  go_wp2
  go_ret
  exact ⟨rfl, rfl⟩

/-- The iterator that counting hands back, in the world behind the call. -/
theorem countingR_stops (n : Nat) (hn : 1 ≤ n) (a : Option Addr) (m cap : Nat) (xs : List Rate) (known : Int) (w w2 : World) (hw : w2 = (w.alloc (.cells #[.slice a m cap] 39)).alloc (.cells #[.int .i64 known] 3)) (hL : Lst w 9 cR a m cap xs) :
    SeqStopsK Fence.wide n Tryz.prog 132 #[.pointer (some ⟨w.heap.size, 0, none⟩), .pointer (some ⟨w.heap.size + 1, 0, none⟩)] (fun x : Rate => #[aR x])
      (KpOn fun k => k = w.heap.size ∨ k = w.heap.size + 1 ∨ (xs ≠ [] ∧ ∃ off, a = some ⟨k, off, none⟩)) (fun ys => ys = cntR xs known) (fun pre => pre <+: cntR xs known) xs.length w2 := by
  intro l J Jx W hW hJ hJx hY h0
  have hsz : w2.heap.size = w.heap.size + 2 := by rw [hw]; simp
  have hB : Below w.heap.size w w2 := hw ▸ ((Below.refl _ w).alloc (Nat.le_refl _) _).alloc (by simp) _
  have hBW : Below w.heap.size w W := hB.trans (hW.mono hB.size)
  have hxs : xs ≠ [] → ∀ b off, a = some ⟨b, off, none⟩ → b < w.heap.size := by
    intro hne
    obtain ⟨x, xs', rfl⟩ := List.exists_cons_of_ne_nil hne
    obtain ⟨b, off, ha, hlt, _⟩ := hL.at_ 0 x rfl
    exact fun b' off' h => by rw [ha] at h; cases h; exact hlt
  have hc1 : W.cell? ⟨w.heap.size, 0, none⟩ = some (.slice a m cap) := by
    rw [hW.cell (p := ⟨w.heap.size, 0, none⟩) (show w.heap.size < _ by omega), hw]
    exact cell_allocs (by exact cell_of_row _ _ _ _ _ _ (heap_alloc_new w _)) _
  have hc2 : W.cell? ⟨w.heap.size + 1, 0, none⟩ = some (.int .i64 known) := by
    rw [hW.cell (p := ⟨w.heap.size + 1, 0, none⟩) (show w.heap.size + 1 < _ by omega), hw]
    exact cell_of_row _ _ _ _ _ _ (heap_alloc2_new w _ _)
  refine countingR1 n hn l w.heap.size (w.heap.size + 1) _ a m cap xs known J Jx W hJ hc1 hc2 (.inl rfl) (.inr (.inl rfl)) ?_ (hL.below hBW) (fun b off hne h => .inr (.inr ⟨hne, off, h⟩)) hY h0
  rintro k (rfl | rfl | ⟨hne, off, h⟩)
  · have := hW.size; omega
  · have := hW.size; omega
  · have := hxs hne k off h; have := hBW.size; omega

end Go.Proofs.YtkeppoiomjhkpaaGreatDoor
