import Derived.Test.YtkeppoiomjhkpaaGreatDoorPart04
import Derived.Test.YtkeppoiomjhkpaaGreatDoorPart02
/-
  Walks: the records that are well-formed.
-/
namespace Go.Proofs.YtkeppoiomjhkpaaGreatDoor
open Go.RowKit Lg Go.Sort

theorem isEmpty_of_goods {x : ByteArray} (h : x = ⟨#[]⟩) : x.toList.isEmpty = true := by rw [h, ByteArray.toList_eq]; rfl
theorem allS_ne : allS ≠ ⟨#[]⟩ := by decide
theorem isEmpty_of_goods_ne {x : ByteArray} (h : x ≠ ⟨#[]⟩) : x.toList.isEmpty = false := by
  have e3 : x.toList ≠ [] := fun k => h (ByteArray.ext (by rw [ByteArray.toList_eq] at k; simpa using k))
  simpa using e3

set_option maxRecDepth 100000 in
set_option maxHeartbeats 1600000 in
theorem checkRate_any (x : Rate) (w : World) : Calls Tryz.prog 28 #[aR x] w (Gives w (.int .i64 (if rateOk x then 0 else 1))) := by
  obtain ⟨r, hr⟩ : ∃ r : Int, r = (if rateOk x then 0 else 1) := ⟨_, rfl⟩
  rw [← hr]
  have Hr := Lib.hid hr; clear hr
  have hin := in6_any
  have hnm := isName_any
  have hpt := isPart_any
  have hguard := guardR
  obtain ⟨q, hq⟩ : ∃ q, q = decide (x = ({ zeroRate with id := x.id, known := x.known, of_ := x.of_ } : Rate)) := ⟨_, rfl⟩
  have hq' := fun w => eqR x ({ zeroRate with id := x.id, known := x.known, of_ := x.of_ } : Rate) w
  rw [← hq] at hq'
  dsimp only [zeroRate] at hq'
  by_cases hof : x.of_ = 0
  · have hz : (x.of_ != 0) = false := by simpa using hof
    have Hof := Lib.hid hof; clear hof
    rcases Bool.eq_false_or_eq_true (inn x.id 1 1000000) with t1 | t1
    · rcases Bool.eq_false_or_eq_true (inn x.known 0 1000000) with t2 | t2
      · rcases Bool.eq_false_or_eq_true (inn x.from_ 0 1000000) with t3 | t3
        · by_cases hg : x.goods = ⟨#[]⟩
          · have hge := isEmpty_of_goods hg
            have Hg := Lib.hid hg; clear hg
            have tg : goodsOk x.goods = true := by simp [goodsOk, Hg.out]
            rcases Bool.eq_false_or_eq_true (partOk x.finder) with t5 | t5
            · rcases Bool.eq_false_or_eq_true (inn x.cart 0 100000) with t6 | t6
              · rcases Bool.eq_false_or_eq_true (inn x.store 0 100000) with t7 | t7
                · go_enter Tryz.func28, Tryz.ntmps28
                  go_wp2_with (first | (go_at_call 55; refine (hin _ _ _ _).mono ?_; rintro e w3 ⟨rfl, rfl⟩) | (go_at_call 62; refine (hnm _ _).mono ?_; rintro e w3 ⟨rfl, hB⟩; have k3 : Blk w3 w.heap.size #[.int .i64 x.id, .int .i64 x.known, .int .i64 x.from_, .string x.goods, .int .i64 x.finder.num, .int .i64 x.finder.den, .int .i64 x.cart, .int .i64 x.store, .int .i64 x.of_] 43 := (by first | exact k3.below' hB | exact (Blk.new w _ _).below' hB); have c3 := k3.cell; have z3 := k3.lt; have hB3 : RowKit.Below w.heap.size w w3 := (by first | exact hB3.trans (hB.mono (by omega)) | exact ((Below.refl _ w).alloc (Nat.le_refl _) _).trans (hB.mono (by simp)))) | (go_at_call 63; refine (hpt _ _).mono ?_; rintro e w3 ⟨rfl, hB⟩; have k3 : Blk w3 w.heap.size #[.int .i64 x.id, .int .i64 x.known, .int .i64 x.from_, .string x.goods, .int .i64 x.finder.num, .int .i64 x.finder.den, .int .i64 x.cart, .int .i64 x.store, .int .i64 x.of_] 43 := (by first | exact k3.below' hB | exact (Blk.new w _ _).below' hB); have c3 := k3.cell; have z3 := k3.lt; have hB3 : RowKit.Below w.heap.size w w3 := (by first | exact hB3.trans (hB.mono (by omega)) | exact ((Below.refl _ w).alloc (Nat.le_refl _) _).trans (hB.mono (by simp)))))
                  go_ret
                  refine ⟨ret_int (by rw [Hr.out]; simp [rateOk, Hof.out, t1, t2, t3, tg, t5, t6, t7]), ?_⟩
                  repeat (first | assumption | exact Below.refl _ _ | refine Below.alloc ?_ (by first | omega | simp <;> omega) _ | refine Below.setCell ?_ (by simp <;> omega) _ | refine Below.drew ?_)
                · go_enter Tryz.func28, Tryz.ntmps28
                  go_wp2_with (first | (go_at_call 55; refine (hin _ _ _ _).mono ?_; rintro e w3 ⟨rfl, rfl⟩) | (go_at_call 62; refine (hnm _ _).mono ?_; rintro e w3 ⟨rfl, hB⟩; have k3 : Blk w3 w.heap.size #[.int .i64 x.id, .int .i64 x.known, .int .i64 x.from_, .string x.goods, .int .i64 x.finder.num, .int .i64 x.finder.den, .int .i64 x.cart, .int .i64 x.store, .int .i64 x.of_] 43 := (by first | exact k3.below' hB | exact (Blk.new w _ _).below' hB); have c3 := k3.cell; have z3 := k3.lt; have hB3 : RowKit.Below w.heap.size w w3 := (by first | exact hB3.trans (hB.mono (by omega)) | exact ((Below.refl _ w).alloc (Nat.le_refl _) _).trans (hB.mono (by simp)))) | (go_at_call 63; refine (hpt _ _).mono ?_; rintro e w3 ⟨rfl, hB⟩; have k3 : Blk w3 w.heap.size #[.int .i64 x.id, .int .i64 x.known, .int .i64 x.from_, .string x.goods, .int .i64 x.finder.num, .int .i64 x.finder.den, .int .i64 x.cart, .int .i64 x.store, .int .i64 x.of_] 43 := (by first | exact k3.below' hB | exact (Blk.new w _ _).below' hB); have c3 := k3.cell; have z3 := k3.lt; have hB3 : RowKit.Below w.heap.size w w3 := (by first | exact hB3.trans (hB.mono (by omega)) | exact ((Below.refl _ w).alloc (Nat.le_refl _) _).trans (hB.mono (by simp)))))
                  go_ret
                  refine ⟨ret_int (by rw [Hr.out]; simp [rateOk, Hof.out, t1, t2, t3, tg, t5, t6, t7]), ?_⟩
                  repeat (first | assumption | exact Below.refl _ _ | refine Below.alloc ?_ (by first | omega | simp <;> omega) _ | refine Below.setCell ?_ (by simp <;> omega) _ | refine Below.drew ?_)
              · go_enter Tryz.func28, Tryz.ntmps28
                go_wp2_with (first | (go_at_call 55; refine (hin _ _ _ _).mono ?_; rintro e w3 ⟨rfl, rfl⟩) | (go_at_call 62; refine (hnm _ _).mono ?_; rintro e w3 ⟨rfl, hB⟩; have k3 : Blk w3 w.heap.size #[.int .i64 x.id, .int .i64 x.known, .int .i64 x.from_, .string x.goods, .int .i64 x.finder.num, .int .i64 x.finder.den, .int .i64 x.cart, .int .i64 x.store, .int .i64 x.of_] 43 := (by first | exact k3.below' hB | exact (Blk.new w _ _).below' hB); have c3 := k3.cell; have z3 := k3.lt; have hB3 : RowKit.Below w.heap.size w w3 := (by first | exact hB3.trans (hB.mono (by omega)) | exact ((Below.refl _ w).alloc (Nat.le_refl _) _).trans (hB.mono (by simp)))) | (go_at_call 63; refine (hpt _ _).mono ?_; rintro e w3 ⟨rfl, hB⟩; have k3 : Blk w3 w.heap.size #[.int .i64 x.id, .int .i64 x.known, .int .i64 x.from_, .string x.goods, .int .i64 x.finder.num, .int .i64 x.finder.den, .int .i64 x.cart, .int .i64 x.store, .int .i64 x.of_] 43 := (by first | exact k3.below' hB | exact (Blk.new w _ _).below' hB); have c3 := k3.cell; have z3 := k3.lt; have hB3 : RowKit.Below w.heap.size w w3 := (by first | exact hB3.trans (hB.mono (by omega)) | exact ((Below.refl _ w).alloc (Nat.le_refl _) _).trans (hB.mono (by simp)))))
                go_ret
                refine ⟨ret_int (by rw [Hr.out]; simp [rateOk, Hof.out, t1, t2, t3, tg, t5, t6]), ?_⟩
                repeat (first | assumption | exact Below.refl _ _ | refine Below.alloc ?_ (by first | omega | simp <;> omega) _ | refine Below.setCell ?_ (by simp <;> omega) _ | refine Below.drew ?_)
            · go_enter Tryz.func28, Tryz.ntmps28
              go_wp2_with (first | (go_at_call 55; refine (hin _ _ _ _).mono ?_; rintro e w3 ⟨rfl, rfl⟩) | (go_at_call 62; refine (hnm _ _).mono ?_; rintro e w3 ⟨rfl, hB⟩; have k3 : Blk w3 w.heap.size #[.int .i64 x.id, .int .i64 x.known, .int .i64 x.from_, .string x.goods, .int .i64 x.finder.num, .int .i64 x.finder.den, .int .i64 x.cart, .int .i64 x.store, .int .i64 x.of_] 43 := (by first | exact k3.below' hB | exact (Blk.new w _ _).below' hB); have c3 := k3.cell; have z3 := k3.lt; have hB3 : RowKit.Below w.heap.size w w3 := (by first | exact hB3.trans (hB.mono (by omega)) | exact ((Below.refl _ w).alloc (Nat.le_refl _) _).trans (hB.mono (by simp)))) | (go_at_call 63; refine (hpt _ _).mono ?_; rintro e w3 ⟨rfl, hB⟩; have k3 : Blk w3 w.heap.size #[.int .i64 x.id, .int .i64 x.known, .int .i64 x.from_, .string x.goods, .int .i64 x.finder.num, .int .i64 x.finder.den, .int .i64 x.cart, .int .i64 x.store, .int .i64 x.of_] 43 := (by first | exact k3.below' hB | exact (Blk.new w _ _).below' hB); have c3 := k3.cell; have z3 := k3.lt; have hB3 : RowKit.Below w.heap.size w w3 := (by first | exact hB3.trans (hB.mono (by omega)) | exact ((Below.refl _ w).alloc (Nat.le_refl _) _).trans (hB.mono (by simp)))))
              go_ret
              refine ⟨ret_int (by rw [Hr.out]; simp [rateOk, Hof.out, t1, t2, t3, tg, t5]), ?_⟩
              repeat (first | assumption | exact Below.refl _ _ | refine Below.alloc ?_ (by first | omega | simp <;> omega) _ | refine Below.setCell ?_ (by simp <;> omega) _ | refine Below.drew ?_)
          · have hge := isEmpty_of_goods_ne hg
            have Hg := Lib.hid hg; clear hg
            rcases Bool.eq_false_or_eq_true (nameOk x.goods) with t4 | t4
            · by_cases ha : x.goods = allS
              · have hae : (x.goods.toList != [97, 108, 108]) = false := by rw [ha, allS, ByteArray.toList_eq]; rfl
                have hal : (x.goods.toList == [97, 108, 108]) = true := by rw [ha, allS, ByteArray.toList_eq]; rfl
                have Ha := Lib.hid ha; clear ha
                have tg : goodsOk x.goods = false := by simp [goodsOk, Ha.out, allS_ne]
                go_enter Tryz.func28, Tryz.ntmps28
                go_wp2_with (first | (go_at_call 55; refine (hin _ _ _ _).mono ?_; rintro e w3 ⟨rfl, rfl⟩) | (go_at_call 62; refine (hnm _ _).mono ?_; rintro e w3 ⟨rfl, hB⟩; have k3 : Blk w3 w.heap.size #[.int .i64 x.id, .int .i64 x.known, .int .i64 x.from_, .string x.goods, .int .i64 x.finder.num, .int .i64 x.finder.den, .int .i64 x.cart, .int .i64 x.store, .int .i64 x.of_] 43 := (by first | exact k3.below' hB | exact (Blk.new w _ _).below' hB); have c3 := k3.cell; have z3 := k3.lt; have hB3 : RowKit.Below w.heap.size w w3 := (by first | exact hB3.trans (hB.mono (by omega)) | exact ((Below.refl _ w).alloc (Nat.le_refl _) _).trans (hB.mono (by simp)))) | (go_at_call 63; refine (hpt _ _).mono ?_; rintro e w3 ⟨rfl, hB⟩; have k3 : Blk w3 w.heap.size #[.int .i64 x.id, .int .i64 x.known, .int .i64 x.from_, .string x.goods, .int .i64 x.finder.num, .int .i64 x.finder.den, .int .i64 x.cart, .int .i64 x.store, .int .i64 x.of_] 43 := (by first | exact k3.below' hB | exact (Blk.new w _ _).below' hB); have c3 := k3.cell; have z3 := k3.lt; have hB3 : RowKit.Below w.heap.size w w3 := (by first | exact hB3.trans (hB.mono (by omega)) | exact ((Below.refl _ w).alloc (Nat.le_refl _) _).trans (hB.mono (by simp)))))
                go_ret
                refine ⟨ret_int (by rw [Hr.out]; simp [rateOk, Hof.out, t1, t2, t3, tg]), ?_⟩
                repeat (first | assumption | exact Below.refl _ _ | refine Below.alloc ?_ (by first | omega | simp <;> omega) _ | refine Below.setCell ?_ (by simp <;> omega) _ | refine Below.drew ?_)
              · have hae : (x.goods.toList != [97, 108, 108]) = true := by have := toList_beq x.goods allS; rw [decide_eq_false ha] at this; simp only [allS, ByteArray.toList_eq] at this; simpa [bne, ByteArray.toList_eq] using this
                have hal : (x.goods.toList == [97, 108, 108]) = false := by simpa [bne] using hae
                have Ha := Lib.hid ha; clear ha
                have tg : goodsOk x.goods = true := by simp [goodsOk, Hg.out, Ha.out, t4]
                rcases Bool.eq_false_or_eq_true (partOk x.finder) with t5 | t5
                · rcases Bool.eq_false_or_eq_true (inn x.cart 0 100000) with t6 | t6
                  · rcases Bool.eq_false_or_eq_true (inn x.store 0 100000) with t7 | t7
                    · go_enter Tryz.func28, Tryz.ntmps28
                      go_wp2_with (first | (go_at_call 55; refine (hin _ _ _ _).mono ?_; rintro e w3 ⟨rfl, rfl⟩) | (go_at_call 62; refine (hnm _ _).mono ?_; rintro e w3 ⟨rfl, hB⟩; have k3 : Blk w3 w.heap.size #[.int .i64 x.id, .int .i64 x.known, .int .i64 x.from_, .string x.goods, .int .i64 x.finder.num, .int .i64 x.finder.den, .int .i64 x.cart, .int .i64 x.store, .int .i64 x.of_] 43 := (by first | exact k3.below' hB | exact (Blk.new w _ _).below' hB); have c3 := k3.cell; have z3 := k3.lt; have hB3 : RowKit.Below w.heap.size w w3 := (by first | exact hB3.trans (hB.mono (by omega)) | exact ((Below.refl _ w).alloc (Nat.le_refl _) _).trans (hB.mono (by simp)))) | (go_at_call 63; refine (hpt _ _).mono ?_; rintro e w3 ⟨rfl, hB⟩; have k3 : Blk w3 w.heap.size #[.int .i64 x.id, .int .i64 x.known, .int .i64 x.from_, .string x.goods, .int .i64 x.finder.num, .int .i64 x.finder.den, .int .i64 x.cart, .int .i64 x.store, .int .i64 x.of_] 43 := (by first | exact k3.below' hB | exact (Blk.new w _ _).below' hB); have c3 := k3.cell; have z3 := k3.lt; have hB3 : RowKit.Below w.heap.size w w3 := (by first | exact hB3.trans (hB.mono (by omega)) | exact ((Below.refl _ w).alloc (Nat.le_refl _) _).trans (hB.mono (by simp)))))
                      go_ret
                      refine ⟨ret_int (by rw [Hr.out]; simp [rateOk, Hof.out, t1, t2, t3, tg, t5, t6, t7]), ?_⟩
                      repeat (first | assumption | exact Below.refl _ _ | refine Below.alloc ?_ (by first | omega | simp <;> omega) _ | refine Below.setCell ?_ (by simp <;> omega) _ | refine Below.drew ?_)
                    · go_enter Tryz.func28, Tryz.ntmps28
                      go_wp2_with (first | (go_at_call 55; refine (hin _ _ _ _).mono ?_; rintro e w3 ⟨rfl, rfl⟩) | (go_at_call 62; refine (hnm _ _).mono ?_; rintro e w3 ⟨rfl, hB⟩; have k3 : Blk w3 w.heap.size #[.int .i64 x.id, .int .i64 x.known, .int .i64 x.from_, .string x.goods, .int .i64 x.finder.num, .int .i64 x.finder.den, .int .i64 x.cart, .int .i64 x.store, .int .i64 x.of_] 43 := (by first | exact k3.below' hB | exact (Blk.new w _ _).below' hB); have c3 := k3.cell; have z3 := k3.lt; have hB3 : RowKit.Below w.heap.size w w3 := (by first | exact hB3.trans (hB.mono (by omega)) | exact ((Below.refl _ w).alloc (Nat.le_refl _) _).trans (hB.mono (by simp)))) | (go_at_call 63; refine (hpt _ _).mono ?_; rintro e w3 ⟨rfl, hB⟩; have k3 : Blk w3 w.heap.size #[.int .i64 x.id, .int .i64 x.known, .int .i64 x.from_, .string x.goods, .int .i64 x.finder.num, .int .i64 x.finder.den, .int .i64 x.cart, .int .i64 x.store, .int .i64 x.of_] 43 := (by first | exact k3.below' hB | exact (Blk.new w _ _).below' hB); have c3 := k3.cell; have z3 := k3.lt; have hB3 : RowKit.Below w.heap.size w w3 := (by first | exact hB3.trans (hB.mono (by omega)) | exact ((Below.refl _ w).alloc (Nat.le_refl _) _).trans (hB.mono (by simp)))))
                      go_ret
                      refine ⟨ret_int (by rw [Hr.out]; simp [rateOk, Hof.out, t1, t2, t3, tg, t5, t6, t7]), ?_⟩
                      repeat (first | assumption | exact Below.refl _ _ | refine Below.alloc ?_ (by first | omega | simp <;> omega) _ | refine Below.setCell ?_ (by simp <;> omega) _ | refine Below.drew ?_)
                  · go_enter Tryz.func28, Tryz.ntmps28
                    go_wp2_with (first | (go_at_call 55; refine (hin _ _ _ _).mono ?_; rintro e w3 ⟨rfl, rfl⟩) | (go_at_call 62; refine (hnm _ _).mono ?_; rintro e w3 ⟨rfl, hB⟩; have k3 : Blk w3 w.heap.size #[.int .i64 x.id, .int .i64 x.known, .int .i64 x.from_, .string x.goods, .int .i64 x.finder.num, .int .i64 x.finder.den, .int .i64 x.cart, .int .i64 x.store, .int .i64 x.of_] 43 := (by first | exact k3.below' hB | exact (Blk.new w _ _).below' hB); have c3 := k3.cell; have z3 := k3.lt; have hB3 : RowKit.Below w.heap.size w w3 := (by first | exact hB3.trans (hB.mono (by omega)) | exact ((Below.refl _ w).alloc (Nat.le_refl _) _).trans (hB.mono (by simp)))) | (go_at_call 63; refine (hpt _ _).mono ?_; rintro e w3 ⟨rfl, hB⟩; have k3 : Blk w3 w.heap.size #[.int .i64 x.id, .int .i64 x.known, .int .i64 x.from_, .string x.goods, .int .i64 x.finder.num, .int .i64 x.finder.den, .int .i64 x.cart, .int .i64 x.store, .int .i64 x.of_] 43 := (by first | exact k3.below' hB | exact (Blk.new w _ _).below' hB); have c3 := k3.cell; have z3 := k3.lt; have hB3 : RowKit.Below w.heap.size w w3 := (by first | exact hB3.trans (hB.mono (by omega)) | exact ((Below.refl _ w).alloc (Nat.le_refl _) _).trans (hB.mono (by simp)))))
                    go_ret
                    refine ⟨ret_int (by rw [Hr.out]; simp [rateOk, Hof.out, t1, t2, t3, tg, t5, t6]), ?_⟩
                    repeat (first | assumption | exact Below.refl _ _ | refine Below.alloc ?_ (by first | omega | simp <;> omega) _ | refine Below.setCell ?_ (by simp <;> omega) _ | refine Below.drew ?_)
                · go_enter Tryz.func28, Tryz.ntmps28
                  go_wp2_with (first | (go_at_call 55; refine (hin _ _ _ _).mono ?_; rintro e w3 ⟨rfl, rfl⟩) | (go_at_call 62; refine (hnm _ _).mono ?_; rintro e w3 ⟨rfl, hB⟩; have k3 : Blk w3 w.heap.size #[.int .i64 x.id, .int .i64 x.known, .int .i64 x.from_, .string x.goods, .int .i64 x.finder.num, .int .i64 x.finder.den, .int .i64 x.cart, .int .i64 x.store, .int .i64 x.of_] 43 := (by first | exact k3.below' hB | exact (Blk.new w _ _).below' hB); have c3 := k3.cell; have z3 := k3.lt; have hB3 : RowKit.Below w.heap.size w w3 := (by first | exact hB3.trans (hB.mono (by omega)) | exact ((Below.refl _ w).alloc (Nat.le_refl _) _).trans (hB.mono (by simp)))) | (go_at_call 63; refine (hpt _ _).mono ?_; rintro e w3 ⟨rfl, hB⟩; have k3 : Blk w3 w.heap.size #[.int .i64 x.id, .int .i64 x.known, .int .i64 x.from_, .string x.goods, .int .i64 x.finder.num, .int .i64 x.finder.den, .int .i64 x.cart, .int .i64 x.store, .int .i64 x.of_] 43 := (by first | exact k3.below' hB | exact (Blk.new w _ _).below' hB); have c3 := k3.cell; have z3 := k3.lt; have hB3 : RowKit.Below w.heap.size w w3 := (by first | exact hB3.trans (hB.mono (by omega)) | exact ((Below.refl _ w).alloc (Nat.le_refl _) _).trans (hB.mono (by simp)))))
                  go_ret
                  refine ⟨ret_int (by rw [Hr.out]; simp [rateOk, Hof.out, t1, t2, t3, tg, t5]), ?_⟩
                  repeat (first | assumption | exact Below.refl _ _ | refine Below.alloc ?_ (by first | omega | simp <;> omega) _ | refine Below.setCell ?_ (by simp <;> omega) _ | refine Below.drew ?_)
            · have tg : goodsOk x.goods = false := by simp [goodsOk, Hg.out, t4]
              go_enter Tryz.func28, Tryz.ntmps28
              go_wp2_with (first | (go_at_call 55; refine (hin _ _ _ _).mono ?_; rintro e w3 ⟨rfl, rfl⟩) | (go_at_call 62; refine (hnm _ _).mono ?_; rintro e w3 ⟨rfl, hB⟩; have k3 : Blk w3 w.heap.size #[.int .i64 x.id, .int .i64 x.known, .int .i64 x.from_, .string x.goods, .int .i64 x.finder.num, .int .i64 x.finder.den, .int .i64 x.cart, .int .i64 x.store, .int .i64 x.of_] 43 := (by first | exact k3.below' hB | exact (Blk.new w _ _).below' hB); have c3 := k3.cell; have z3 := k3.lt; have hB3 : RowKit.Below w.heap.size w w3 := (by first | exact hB3.trans (hB.mono (by omega)) | exact ((Below.refl _ w).alloc (Nat.le_refl _) _).trans (hB.mono (by simp)))) | (go_at_call 63; refine (hpt _ _).mono ?_; rintro e w3 ⟨rfl, hB⟩; have k3 : Blk w3 w.heap.size #[.int .i64 x.id, .int .i64 x.known, .int .i64 x.from_, .string x.goods, .int .i64 x.finder.num, .int .i64 x.finder.den, .int .i64 x.cart, .int .i64 x.store, .int .i64 x.of_] 43 := (by first | exact k3.below' hB | exact (Blk.new w _ _).below' hB); have c3 := k3.cell; have z3 := k3.lt; have hB3 : RowKit.Below w.heap.size w w3 := (by first | exact hB3.trans (hB.mono (by omega)) | exact ((Below.refl _ w).alloc (Nat.le_refl _) _).trans (hB.mono (by simp)))))
              go_ret
              refine ⟨ret_int (by rw [Hr.out]; simp [rateOk, Hof.out, t1, t2, t3, tg]), ?_⟩
              repeat (first | assumption | exact Below.refl _ _ | refine Below.alloc ?_ (by first | omega | simp <;> omega) _ | refine Below.setCell ?_ (by simp <;> omega) _ | refine Below.drew ?_)
        · go_enter Tryz.func28, Tryz.ntmps28
          go_wp2_with (first | (go_at_call 55; refine (hin _ _ _ _).mono ?_; rintro e w3 ⟨rfl, rfl⟩) | (go_at_call 62; refine (hnm _ _).mono ?_; rintro e w3 ⟨rfl, hB⟩; have k3 : Blk w3 w.heap.size #[.int .i64 x.id, .int .i64 x.known, .int .i64 x.from_, .string x.goods, .int .i64 x.finder.num, .int .i64 x.finder.den, .int .i64 x.cart, .int .i64 x.store, .int .i64 x.of_] 43 := (by first | exact k3.below' hB | exact (Blk.new w _ _).below' hB); have c3 := k3.cell; have z3 := k3.lt; have hB3 : RowKit.Below w.heap.size w w3 := (by first | exact hB3.trans (hB.mono (by omega)) | exact ((Below.refl _ w).alloc (Nat.le_refl _) _).trans (hB.mono (by simp)))) | (go_at_call 63; refine (hpt _ _).mono ?_; rintro e w3 ⟨rfl, hB⟩; have k3 : Blk w3 w.heap.size #[.int .i64 x.id, .int .i64 x.known, .int .i64 x.from_, .string x.goods, .int .i64 x.finder.num, .int .i64 x.finder.den, .int .i64 x.cart, .int .i64 x.store, .int .i64 x.of_] 43 := (by first | exact k3.below' hB | exact (Blk.new w _ _).below' hB); have c3 := k3.cell; have z3 := k3.lt; have hB3 : RowKit.Below w.heap.size w w3 := (by first | exact hB3.trans (hB.mono (by omega)) | exact ((Below.refl _ w).alloc (Nat.le_refl _) _).trans (hB.mono (by simp)))))
          go_ret
          refine ⟨ret_int (by rw [Hr.out]; simp [rateOk, Hof.out, t1, t2, t3]), ?_⟩
          repeat (first | assumption | exact Below.refl _ _ | refine Below.alloc ?_ (by first | omega | simp <;> omega) _ | refine Below.setCell ?_ (by simp <;> omega) _ | refine Below.drew ?_)
      · go_enter Tryz.func28, Tryz.ntmps28
        go_wp2_with (first | (go_at_call 55; refine (hin _ _ _ _).mono ?_; rintro e w3 ⟨rfl, rfl⟩) | (go_at_call 62; refine (hnm _ _).mono ?_; rintro e w3 ⟨rfl, hB⟩; have k3 : Blk w3 w.heap.size #[.int .i64 x.id, .int .i64 x.known, .int .i64 x.from_, .string x.goods, .int .i64 x.finder.num, .int .i64 x.finder.den, .int .i64 x.cart, .int .i64 x.store, .int .i64 x.of_] 43 := (by first | exact k3.below' hB | exact (Blk.new w _ _).below' hB); have c3 := k3.cell; have z3 := k3.lt; have hB3 : RowKit.Below w.heap.size w w3 := (by first | exact hB3.trans (hB.mono (by omega)) | exact ((Below.refl _ w).alloc (Nat.le_refl _) _).trans (hB.mono (by simp)))) | (go_at_call 63; refine (hpt _ _).mono ?_; rintro e w3 ⟨rfl, hB⟩; have k3 : Blk w3 w.heap.size #[.int .i64 x.id, .int .i64 x.known, .int .i64 x.from_, .string x.goods, .int .i64 x.finder.num, .int .i64 x.finder.den, .int .i64 x.cart, .int .i64 x.store, .int .i64 x.of_] 43 := (by first | exact k3.below' hB | exact (Blk.new w _ _).below' hB); have c3 := k3.cell; have z3 := k3.lt; have hB3 : RowKit.Below w.heap.size w w3 := (by first | exact hB3.trans (hB.mono (by omega)) | exact ((Below.refl _ w).alloc (Nat.le_refl _) _).trans (hB.mono (by simp)))))
        go_ret
        refine ⟨ret_int (by rw [Hr.out]; simp [rateOk, Hof.out, t1, t2]), ?_⟩
        repeat (first | assumption | exact Below.refl _ _ | refine Below.alloc ?_ (by first | omega | simp <;> omega) _ | refine Below.setCell ?_ (by simp <;> omega) _ | refine Below.drew ?_)
    · go_enter Tryz.func28, Tryz.ntmps28
      go_wp2_with (first | (go_at_call 55; refine (hin _ _ _ _).mono ?_; rintro e w3 ⟨rfl, rfl⟩) | (go_at_call 62; refine (hnm _ _).mono ?_; rintro e w3 ⟨rfl, hB⟩; have k3 : Blk w3 w.heap.size #[.int .i64 x.id, .int .i64 x.known, .int .i64 x.from_, .string x.goods, .int .i64 x.finder.num, .int .i64 x.finder.den, .int .i64 x.cart, .int .i64 x.store, .int .i64 x.of_] 43 := (by first | exact k3.below' hB | exact (Blk.new w _ _).below' hB); have c3 := k3.cell; have z3 := k3.lt; have hB3 : RowKit.Below w.heap.size w w3 := (by first | exact hB3.trans (hB.mono (by omega)) | exact ((Below.refl _ w).alloc (Nat.le_refl _) _).trans (hB.mono (by simp)))) | (go_at_call 63; refine (hpt _ _).mono ?_; rintro e w3 ⟨rfl, hB⟩; have k3 : Blk w3 w.heap.size #[.int .i64 x.id, .int .i64 x.known, .int .i64 x.from_, .string x.goods, .int .i64 x.finder.num, .int .i64 x.finder.den, .int .i64 x.cart, .int .i64 x.store, .int .i64 x.of_] 43 := (by first | exact k3.below' hB | exact (Blk.new w _ _).below' hB); have c3 := k3.cell; have z3 := k3.lt; have hB3 : RowKit.Below w.heap.size w w3 := (by first | exact hB3.trans (hB.mono (by omega)) | exact ((Below.refl _ w).alloc (Nat.le_refl _) _).trans (hB.mono (by simp)))))
      go_ret
      refine ⟨ret_int (by rw [Hr.out]; simp [rateOk, Hof.out, t1]), ?_⟩
      repeat (first | assumption | exact Below.refl _ _ | refine Below.alloc ?_ (by first | omega | simp <;> omega) _ | refine Below.setCell ?_ (by simp <;> omega) _ | refine Below.drew ?_)
  · have hz : (x.of_ != 0) = true := by simpa using hof
    have Hof := Lib.hid hof; clear hof
    rcases Bool.eq_false_or_eq_true (inn x.id 1 1000000) with t1 | t1
    · rcases Bool.eq_false_or_eq_true (inn x.known 0 1000000) with t2 | t2
      · rcases Bool.eq_false_or_eq_true (inn x.of_ 1 1000000) with t3 | t3
        · cases q
          · have Hqd := Lib.hid hq.symm; clear hq
            go_enter Tryz.func28, Tryz.ntmps28
            go_wp2_with (first | (go_at_call 55; refine (hin _ _ _ _).mono ?_; rintro e w3 ⟨rfl, rfl⟩) | (go_at_call 62; refine (hnm _ _).mono ?_; rintro e w3 ⟨rfl, hB⟩; have k3 : Blk w3 w.heap.size #[.int .i64 x.id, .int .i64 x.known, .int .i64 x.from_, .string x.goods, .int .i64 x.finder.num, .int .i64 x.finder.den, .int .i64 x.cart, .int .i64 x.store, .int .i64 x.of_] 43 := (by first | exact k3.below' hB | exact (Blk.new w _ _).below' hB); have c3 := k3.cell; have z3 := k3.lt; have hB3 : RowKit.Below w.heap.size w w3 := (by first | exact hB3.trans (hB.mono (by omega)) | exact ((Below.refl _ w).alloc (Nat.le_refl _) _).trans (hB.mono (by simp)))) | (go_at_call 63; refine (hpt _ _).mono ?_; rintro e w3 ⟨rfl, hB⟩; have k3 : Blk w3 w.heap.size #[.int .i64 x.id, .int .i64 x.known, .int .i64 x.from_, .string x.goods, .int .i64 x.finder.num, .int .i64 x.finder.den, .int .i64 x.cart, .int .i64 x.store, .int .i64 x.of_] 43 := (by first | exact k3.below' hB | exact (Blk.new w _ _).below' hB); have c3 := k3.cell; have z3 := k3.lt; have hB3 : RowKit.Below w.heap.size w w3 := (by first | exact hB3.trans (hB.mono (by omega)) | exact ((Below.refl _ w).alloc (Nat.le_refl _) _).trans (hB.mono (by simp)))))
            go_ret
            refine ⟨ret_int (by rw [Hr.out]; simp [rateOk, Hof.out, t1, t2, t3, Hqd.out]), ?_⟩
            repeat (first | assumption | exact Below.refl _ _ | refine Below.alloc ?_ (by first | omega | simp <;> omega) _ | refine Below.setCell ?_ (by simp <;> omega) _ | refine Below.drew ?_)
          · have Hqd := Lib.hid hq.symm; clear hq
            go_enter Tryz.func28, Tryz.ntmps28
            go_wp2_with (first | (go_at_call 55; refine (hin _ _ _ _).mono ?_; rintro e w3 ⟨rfl, rfl⟩) | (go_at_call 62; refine (hnm _ _).mono ?_; rintro e w3 ⟨rfl, hB⟩; have k3 : Blk w3 w.heap.size #[.int .i64 x.id, .int .i64 x.known, .int .i64 x.from_, .string x.goods, .int .i64 x.finder.num, .int .i64 x.finder.den, .int .i64 x.cart, .int .i64 x.store, .int .i64 x.of_] 43 := (by first | exact k3.below' hB | exact (Blk.new w _ _).below' hB); have c3 := k3.cell; have z3 := k3.lt; have hB3 : RowKit.Below w.heap.size w w3 := (by first | exact hB3.trans (hB.mono (by omega)) | exact ((Below.refl _ w).alloc (Nat.le_refl _) _).trans (hB.mono (by simp)))) | (go_at_call 63; refine (hpt _ _).mono ?_; rintro e w3 ⟨rfl, hB⟩; have k3 : Blk w3 w.heap.size #[.int .i64 x.id, .int .i64 x.known, .int .i64 x.from_, .string x.goods, .int .i64 x.finder.num, .int .i64 x.finder.den, .int .i64 x.cart, .int .i64 x.store, .int .i64 x.of_] 43 := (by first | exact k3.below' hB | exact (Blk.new w _ _).below' hB); have c3 := k3.cell; have z3 := k3.lt; have hB3 : RowKit.Below w.heap.size w w3 := (by first | exact hB3.trans (hB.mono (by omega)) | exact ((Below.refl _ w).alloc (Nat.le_refl _) _).trans (hB.mono (by simp)))))
            go_ret
            refine ⟨ret_int (by rw [Hr.out]; simp [rateOk, Hof.out, t1, t2, t3, Hqd.out]), ?_⟩
            repeat (first | assumption | exact Below.refl _ _ | refine Below.alloc ?_ (by first | omega | simp <;> omega) _ | refine Below.setCell ?_ (by simp <;> omega) _ | refine Below.drew ?_)
        · go_enter Tryz.func28, Tryz.ntmps28
          go_wp2_with (first | (go_at_call 55; refine (hin _ _ _ _).mono ?_; rintro e w3 ⟨rfl, rfl⟩) | (go_at_call 62; refine (hnm _ _).mono ?_; rintro e w3 ⟨rfl, hB⟩; have k3 : Blk w3 w.heap.size #[.int .i64 x.id, .int .i64 x.known, .int .i64 x.from_, .string x.goods, .int .i64 x.finder.num, .int .i64 x.finder.den, .int .i64 x.cart, .int .i64 x.store, .int .i64 x.of_] 43 := (by first | exact k3.below' hB | exact (Blk.new w _ _).below' hB); have c3 := k3.cell; have z3 := k3.lt; have hB3 : RowKit.Below w.heap.size w w3 := (by first | exact hB3.trans (hB.mono (by omega)) | exact ((Below.refl _ w).alloc (Nat.le_refl _) _).trans (hB.mono (by simp)))) | (go_at_call 63; refine (hpt _ _).mono ?_; rintro e w3 ⟨rfl, hB⟩; have k3 : Blk w3 w.heap.size #[.int .i64 x.id, .int .i64 x.known, .int .i64 x.from_, .string x.goods, .int .i64 x.finder.num, .int .i64 x.finder.den, .int .i64 x.cart, .int .i64 x.store, .int .i64 x.of_] 43 := (by first | exact k3.below' hB | exact (Blk.new w _ _).below' hB); have c3 := k3.cell; have z3 := k3.lt; have hB3 : RowKit.Below w.heap.size w w3 := (by first | exact hB3.trans (hB.mono (by omega)) | exact ((Below.refl _ w).alloc (Nat.le_refl _) _).trans (hB.mono (by simp)))))
          go_ret
          refine ⟨ret_int (by rw [Hr.out]; simp [rateOk, Hof.out, t1, t2, t3]), ?_⟩
          repeat (first | assumption | exact Below.refl _ _ | refine Below.alloc ?_ (by first | omega | simp <;> omega) _ | refine Below.setCell ?_ (by simp <;> omega) _ | refine Below.drew ?_)
      · go_enter Tryz.func28, Tryz.ntmps28
        go_wp2_with (first | (go_at_call 55; refine (hin _ _ _ _).mono ?_; rintro e w3 ⟨rfl, rfl⟩) | (go_at_call 62; refine (hnm _ _).mono ?_; rintro e w3 ⟨rfl, hB⟩; have k3 : Blk w3 w.heap.size #[.int .i64 x.id, .int .i64 x.known, .int .i64 x.from_, .string x.goods, .int .i64 x.finder.num, .int .i64 x.finder.den, .int .i64 x.cart, .int .i64 x.store, .int .i64 x.of_] 43 := (by first | exact k3.below' hB | exact (Blk.new w _ _).below' hB); have c3 := k3.cell; have z3 := k3.lt; have hB3 : RowKit.Below w.heap.size w w3 := (by first | exact hB3.trans (hB.mono (by omega)) | exact ((Below.refl _ w).alloc (Nat.le_refl _) _).trans (hB.mono (by simp)))) | (go_at_call 63; refine (hpt _ _).mono ?_; rintro e w3 ⟨rfl, hB⟩; have k3 : Blk w3 w.heap.size #[.int .i64 x.id, .int .i64 x.known, .int .i64 x.from_, .string x.goods, .int .i64 x.finder.num, .int .i64 x.finder.den, .int .i64 x.cart, .int .i64 x.store, .int .i64 x.of_] 43 := (by first | exact k3.below' hB | exact (Blk.new w _ _).below' hB); have c3 := k3.cell; have z3 := k3.lt; have hB3 : RowKit.Below w.heap.size w w3 := (by first | exact hB3.trans (hB.mono (by omega)) | exact ((Below.refl _ w).alloc (Nat.le_refl _) _).trans (hB.mono (by simp)))))
        go_ret
        refine ⟨ret_int (by rw [Hr.out]; simp [rateOk, Hof.out, t1, t2]), ?_⟩
        repeat (first | assumption | exact Below.refl _ _ | refine Below.alloc ?_ (by first | omega | simp <;> omega) _ | refine Below.setCell ?_ (by simp <;> omega) _ | refine Below.drew ?_)
    · go_enter Tryz.func28, Tryz.ntmps28
      go_wp2_with (first | (go_at_call 55; refine (hin _ _ _ _).mono ?_; rintro e w3 ⟨rfl, rfl⟩) | (go_at_call 62; refine (hnm _ _).mono ?_; rintro e w3 ⟨rfl, hB⟩; have k3 : Blk w3 w.heap.size #[.int .i64 x.id, .int .i64 x.known, .int .i64 x.from_, .string x.goods, .int .i64 x.finder.num, .int .i64 x.finder.den, .int .i64 x.cart, .int .i64 x.store, .int .i64 x.of_] 43 := (by first | exact k3.below' hB | exact (Blk.new w _ _).below' hB); have c3 := k3.cell; have z3 := k3.lt; have hB3 : RowKit.Below w.heap.size w w3 := (by first | exact hB3.trans (hB.mono (by omega)) | exact ((Below.refl _ w).alloc (Nat.le_refl _) _).trans (hB.mono (by simp)))) | (go_at_call 63; refine (hpt _ _).mono ?_; rintro e w3 ⟨rfl, hB⟩; have k3 : Blk w3 w.heap.size #[.int .i64 x.id, .int .i64 x.known, .int .i64 x.from_, .string x.goods, .int .i64 x.finder.num, .int .i64 x.finder.den, .int .i64 x.cart, .int .i64 x.store, .int .i64 x.of_] 43 := (by first | exact k3.below' hB | exact (Blk.new w _ _).below' hB); have c3 := k3.cell; have z3 := k3.lt; have hB3 : RowKit.Below w.heap.size w w3 := (by first | exact hB3.trans (hB.mono (by omega)) | exact ((Below.refl _ w).alloc (Nat.le_refl _) _).trans (hB.mono (by simp)))))
      go_ret
      refine ⟨ret_int (by rw [Hr.out]; simp [rateOk, Hof.out, t1]), ?_⟩
      repeat (first | assumption | exact Below.refl _ _ | refine Below.alloc ?_ (by first | omega | simp <;> omega) _ | refine Below.setCell ?_ (by simp <;> omega) _ | refine Below.drew ?_)

end Go.Proofs.YtkeppoiomjhkpaaGreatDoor

/-
  Walks: goods and parts, as the reference has them.
-/
namespace Go.Proofs.YtkeppoiomjhkpaaGreatDoor
open Go.RowKit Lg Go.Sort

theorem chOk_iff (c : UInt8) : chOk c = true ↔ (97 ≤ c.toNat ∧ c.toNat ≤ 122) ∨ (48 ≤ c.toNat ∧ c.toNat ≤ 57) ∨ c.toNat = 45 := by
  simp [chOk, or_assoc]

set_option maxRecDepth 100000 in
set_option maxHeartbeats 1600000 in
theorem goodsR_any (s : ByteArray) (w : World) : Calls Tryz.prog 64 #[.string s] w fun e w' => e = .returned (.bool (goodsOk s)) ∧ w = w' := by
  obtain ⟨q, hq⟩ : ∃ q, q = goodsOk s := ⟨_, rfl⟩
  rw [← hq]
  by_cases h0 : s = ⟨#[]⟩
  · have hge := isEmpty_of_goods h0
    have hq2 : q = true := by rw [hq]; simp [goodsOk, h0]
    clear h0 hq
    subst hq2
    go_enter Tryz.func64, Tryz.ntmps64
    go_wp2
    go_ret
    exact ⟨rfl, rfl⟩
  · have hge := isEmpty_of_goods_ne h0
    by_cases ha : s = allS
    · have hae : (s.toList != [97, 108, 108]) = false := by rw [ha, allS, ByteArray.toList_eq]; rfl
      have hal : (s.toList == [97, 108, 108]) = true := by rw [ha, allS, ByteArray.toList_eq]; rfl
      have hq2 : q = false := by rw [hq]; simp [goodsOk, ha, allS_ne]
      clear ha h0 hq
      subst hq2
      go_enter Tryz.func64, Tryz.ntmps64
      go_wp2
      go_ret
      exact ⟨rfl, rfl⟩
    · have hal : (s.toList == [97, 108, 108]) = false := by have := toList_beq s allS; rw [decide_eq_false ha] at this; simpa only [allS, ByteArray.toList_eq] using this
      have hpos : 0 < s.size := by
        rcases Nat.eq_zero_or_pos s.size with h | h
        · exfalso; apply h0; exact ByteArray.ext (Array.eq_empty_of_size_eq_zero h)
        · exact h
      have hqn : q = nameOk s := by rw [hq]; simp [goodsOk, h0, ha]
      clear ha h0 hq
      by_cases hz : 24 < s.size
      · have hzz : (24 : Int) < (s.size : Int) := by omega
        have hq2 : q = false := by
          rw [hqn]; unfold nameOk
          have : inn s.size 1 24 = false := by unfold inn; simp; omega
          rw [this]; rfl
        clear hqn
        subst hq2
        go_enter Tryz.func64, Tryz.ntmps64
        go_wp2
        go_ret
        exact ⟨rfl, rfl⟩
      · have hzz : ¬ (24 : Int) < (s.size : Int) := by omega
        have hzn : s.size ≤ 24 := by omega
        have hposz : (0 : Int) < (s.size : Int) := by omega
        have hhd : s.data.toList.headD 0 = s[0]'(by omega) := by
          have : 0 < s.data.toList.length := by rw [Array.length_toList]; exact hpos
          rw [List.headD_eq_head?_getD, List.head?_eq_getElem?, List.getElem?_eq_getElem this]; rfl
        have hqr : q = (lowOk (s[0]'(by omega)) && s.data.toList.all chOk) := by
          rw [hqn]; unfold nameOk
          have : inn s.size 1 24 = true := by unfold inn; simp; omega
          rw [this, hhd]; simp
        have Hq := Lib.hid hqr
        have h256 : (s[0]'(by omega)).toNat < 256 := UInt8.toNat_lt _
        clear hqn hhd hqr
        by_cases hl : 97 ≤ (s[0]'(by omega)).toNat ∧ (s[0]'(by omega)).toNat ≤ 122
        · obtain ⟨hl1, hl2⟩ := hl
          have hl3 : ¬ ((s[0]'(by omega)).toNat : Int) < 97 := by omega
          have hl4 : ¬ (122 : Int) < ((s[0]'(by omega)).toNat : Int) := by omega
          have hlow : lowOk (s[0]'(by omega)) = true := by simp only [lowOk, decide_eq_true_eq]; omega
          have Hlow := Lib.hid hlow
          clear hlow
          go_enter Tryz.func64, Tryz.ntmps64
          go_wp2
          go_loop [3] (fun i => ∃ k : Nat, k ≤ s.size ∧ i = .int .i64 k ∧ Hid ((s.data.toList.take k).all chOk = true)) (fun i => s.size - (intOf i).toNat)
          case atStart => exact ⟨0, Nat.zero_le _, rfl, Lib.hid (by simp)⟩
          case round =>
            obtain ⟨k, hk, rfl, Ht⟩ := hrel
            by_cases hlt : k < s.size
            · have hltz : (k : Int) < (s.size : Int) := by omega
              have hk256 : (s[k]'hlt).toNat < 256 := UInt8.toNat_lt _
              have hlt2 : k < s.data.toList.length := by rw [Array.length_toList]; exact hlt
              have hget : s.data.toList[k]'hlt2 = s[k]'hlt := rfl
              have hsn : (s.data.toList.take (k + 1)).all chOk = chOk (s[k]'hlt) := by
                rw [List.take_succ_eq_append_getElem hlt2, List.all_append, Ht.out, hget]; simp
              have hbad : chOk (s[k]'hlt) = false → q = false := fun h => by
                rw [Hq.out, Hlow.out, Bool.true_and, Bool.eq_false_iff]
                intro e
                rw [List.all_eq_true] at e
                have := e (s[k]'hlt) (by rw [← hget]; exact List.getElem_mem _)
                rw [h] at this; cases this
              have Hsn := Lib.hid hsn
              have Hbad := Lib.hid hbad
              clear hsn hbad hget hlt2
              obtain ⟨c, hc⟩ : ∃ c : Nat, c = (s[k]'hlt).toNat := ⟨_, rfl⟩
              rw [← hc] at hk256
              have hcc : 122 < c ∨ (97 ≤ c ∧ c ≤ 122) ∨ (57 < c ∧ c < 97) ∨ (48 ≤ c ∧ c ≤ 57) ∨ (45 < c ∧ c < 48) ∨ c = 45 ∨ c < 45 := by omega
              rcases hcc with hcc | hcc | hcc | hcc | hcc | hcc | hcc
              all_goals
                first | have f1 : ((s[k]'hlt).toNat : Int) < 97 := by omega | have f1 : ¬ ((s[k]'hlt).toNat : Int) < 97 := by omega
                first | have f2 : (122 : Int) < ((s[k]'hlt).toNat : Int) := by omega | have f2 : ¬ (122 : Int) < ((s[k]'hlt).toNat : Int) := by omega
                first | have f3 : ((s[k]'hlt).toNat : Int) < 48 := by omega | have f3 : ¬ ((s[k]'hlt).toNat : Int) < 48 := by omega
                first | have f4 : (57 : Int) < ((s[k]'hlt).toNat : Int) := by omega | have f4 : ¬ (57 : Int) < ((s[k]'hlt).toNat : Int) := by omega
                first | have f5 : (((s[k]'hlt).toNat : Int) != 45) = false := by simp; omega | have f5 : (((s[k]'hlt).toNat : Int) != 45) = true := by simp; omega
                have Hc := Lib.hid hc
                have Hcc := Lib.hid hcc
                clear hc hcc
                go_wp2
                first
                  | (go_round
                     case rel => exact ⟨k + 1, by omega, by go_num, Lib.hid (by rw [Hsn.out, chOk_iff, ← Hc.out]; have := Hcc.out; omega)⟩
                     case measure => simp [intOf]; omega)
                  | (go_ret
                     exact ⟨ret_bool (Hbad.out (by rw [Bool.eq_false_iff, ne_eq, chOk_iff, ← Hc.out]; have := Hcc.out; omega)).symm, rfl⟩)
            · obtain rfl : k = s.size := by omega
              have ht := Ht.out
              rw [List.take_of_length_le (by rw [Array.length_toList]; exact Nat.le_refl _)] at ht
              have Ht2 := Lib.hid ht
              clear ht Ht
              go_wp2
              go_ret
              exact ⟨ret_bool (by rw [Hq.out, Hlow.out, Ht2.out]; rfl), rfl⟩
        · have hlow : lowOk (s[0]'(by omega)) = false := by simp only [lowOk, decide_eq_false_iff_not]; exact hl
          have hq2 : q = false := by rw [Hq.out, hlow]; rfl
          have Hl := Lib.hid hl
          clear hl hlow Hq
          subst hq2
          go_enter Tryz.func64, Tryz.ntmps64
          go_wp2
          all_goals
            first
              | (go_ret
                 exact ⟨rfl, rfl⟩)
              | (exfalso; have := Hl.out; omega)

set_option maxRecDepth 100000 in
set_option maxHeartbeats 400000 in
theorem partR_any (f : Frac) (w : World) : Calls Tryz.prog 65 #[aF f] w fun e w' => e = .returned (.bool (partOk f)) ∧ w.alloc (.cells #[.int .i64 f.num, .int .i64 f.den] 41) = w' := by
  have hin := within6_any
  rcases Bool.eq_false_or_eq_true (inn f.den 1 1000000) with t1 | t1
  · rcases Bool.eq_false_or_eq_true (inn f.num 0 f.den) with t2 | t2
    · have b1 := (inn_iff _ _ _).1 t1
      have b2 := (inn_iff _ _ _).1 t2
      have hc := fun W => common_any f.num f.den W (by omega) (by omega)
      have hp : partOk f = decide (Int.gcd f.num f.den = 1) := by simp [partOk, t1, t2]
      rw [hp]
      clear b1 b2 hp
      generalize Int.gcd f.num f.den = g at *
      by_cases hg : g = 1
      · have hg1 : ((g : Int) == 1) = true := by simp [hg]
        have Hg := Lib.hid hg; clear hg
        go_enter Tryz.func65, Tryz.ntmps65
        go_wp2_with (first | (go_at_call 56; refine (hin _ _ _ _).mono ?_; rintro e w3 ⟨rfl, rfl⟩) | (go_at_call 95; refine (hc _).mono ?_; rintro e w3 ⟨rfl, rfl⟩))
        go_ret
        exact ⟨ret_bool (by simp [Hg.out]), rfl⟩
      · have hg1 : ((g : Int) == 1) = false := by simp; omega
        have Hg := Lib.hid hg; clear hg
        go_enter Tryz.func65, Tryz.ntmps65
        go_wp2_with (first | (go_at_call 56; refine (hin _ _ _ _).mono ?_; rintro e w3 ⟨rfl, rfl⟩) | (go_at_call 95; refine (hc _).mono ?_; rintro e w3 ⟨rfl, rfl⟩))
        go_ret
        exact ⟨ret_bool (by simp [Hg.out]), rfl⟩
    · go_enter Tryz.func65, Tryz.ntmps65
      go_wp2_with (first | (go_at_call 56; refine (hin _ _ _ _).mono ?_; rintro e w3 ⟨rfl, rfl⟩))
      go_ret
      exact ⟨ret_bool (by simp [partOk, t1, t2]), rfl⟩
  · go_enter Tryz.func65, Tryz.ntmps65
    go_wp2_with (first | (go_at_call 56; refine (hin _ _ _ _).mono ?_; rintro e w3 ⟨rfl, rfl⟩))
    go_ret
    exact ⟨ret_bool (by simp [partOk, t1]), rfl⟩

end Go.Proofs.YtkeppoiomjhkpaaGreatDoor
