import Derived.Test.YtkeppoiomjhkpaaGreatDoorPart05
import Derived.Test.YtkeppoiomjhkpaaGreatDoorPart02
import Derived.Test.YtkeppoiomjhkpaaGreatDoorPart01
import Derived.Deep.Quiet
/-
  Walks: the records that the reference takes for well-formed.
-/
namespace Go.Proofs.YtkeppoiomjhkpaaGreatDoor
open Go.RowKit Lg Go.Sort

set_option maxRecDepth 100000 in
set_option maxHeartbeats 3200000 in
theorem checkRateR_any (x : Rate) (w : World) : Calls Tryz.prog 29 #[aR x] w (Gives w (.int .i64 (if rateOk x then 0 else 1))) := by
  obtain ⟨r, hr⟩ : ∃ r : Int, r = (if rateOk x then 0 else 1) := ⟨_, rfl⟩
  rw [← hr]
  have Hr := Lib.hid hr; clear hr
  have hin := within6_any
  have hgd := goodsR_any x.goods
  have hpt := partR_any x.finder
  obtain ⟨q, hq⟩ : ∃ q, q = decide (x = ({ zeroRate with id := x.id, known := x.known, of_ := x.of_ } : Rate)) := ⟨_, rfl⟩
  have hq' := fun w => eqR x ({ zeroRate with id := x.id, known := x.known, of_ := x.of_ } : Rate) w
  rw [← hq] at hq'
  dsimp only [zeroRate] at hq'
  by_cases hof : x.of_ = 0
  · have hz : (x.of_ != 0) = false := by simpa using hof
    have Hof := Lib.hid hof; clear hof
    clear hq hq'
    rcases Bool.eq_false_or_eq_true (inn x.id 1 1000000) with t1 | t1
    · rcases Bool.eq_false_or_eq_true (inn x.known 0 1000000) with t2 | t2
      · rcases Bool.eq_false_or_eq_true (inn x.from_ 0 1000000) with t3 | t3
        · rcases Bool.eq_false_or_eq_true (goodsOk x.goods) with t4 | t4
          · rcases Bool.eq_false_or_eq_true (partOk x.finder) with t5 | t5
            · rcases Bool.eq_false_or_eq_true (inn x.cart 0 100000) with t6 | t6
              · rcases Bool.eq_false_or_eq_true (inn x.store 0 100000) with t7 | t7
                · go_enter Tryz.func29, Tryz.ntmps29
                  go_wp2_with (first | (go_at_call 56; refine (hin _ _ _ _).mono ?_; rintro e w3 ⟨rfl, rfl⟩) | (go_at_call 64; refine (hgd _).mono ?_; rintro e w3 ⟨rfl, rfl⟩) | (go_at_call 65; refine (hpt _).mono ?_; rintro e w3 ⟨rfl, rfl⟩))
                  all_goals
                    go_ret
                    refine ⟨ret_int (by rw [Hr.out]; simp [rateOk, Hof.out, t1, t2, t3, t4, t5, t6, t7]), ?_⟩
                    repeat (first | (with_reducible assumption) | (with_reducible exact Below.refl _ _) | (with_reducible refine Below.alloc ?_ ?_ _) | (with_reducible refine Below.setCell ?_ ?_ _) | (with_reducible refine Below.drew ?_) | omega | (simp <;> omega) | (dsimp only; omega))
                · go_enter Tryz.func29, Tryz.ntmps29
                  go_wp2_with (first | (go_at_call 56; refine (hin _ _ _ _).mono ?_; rintro e w3 ⟨rfl, rfl⟩) | (go_at_call 64; refine (hgd _).mono ?_; rintro e w3 ⟨rfl, rfl⟩) | (go_at_call 65; refine (hpt _).mono ?_; rintro e w3 ⟨rfl, rfl⟩))
                  all_goals
                    go_ret
                    refine ⟨ret_int (by rw [Hr.out]; simp [rateOk, Hof.out, t1, t2, t3, t4, t5, t6, t7]), ?_⟩
                    repeat (first | (with_reducible assumption) | (with_reducible exact Below.refl _ _) | (with_reducible refine Below.alloc ?_ ?_ _) | (with_reducible refine Below.setCell ?_ ?_ _) | (with_reducible refine Below.drew ?_) | omega | (simp <;> omega) | (dsimp only; omega))
              · go_enter Tryz.func29, Tryz.ntmps29
                go_wp2_with (first | (go_at_call 56; refine (hin _ _ _ _).mono ?_; rintro e w3 ⟨rfl, rfl⟩) | (go_at_call 64; refine (hgd _).mono ?_; rintro e w3 ⟨rfl, rfl⟩) | (go_at_call 65; refine (hpt _).mono ?_; rintro e w3 ⟨rfl, rfl⟩))
                all_goals
                  go_ret
                  refine ⟨ret_int (by rw [Hr.out]; simp [rateOk, Hof.out, t1, t2, t3, t4, t5, t6]), ?_⟩
                  repeat (first | (with_reducible assumption) | (with_reducible exact Below.refl _ _) | (with_reducible refine Below.alloc ?_ ?_ _) | (with_reducible refine Below.setCell ?_ ?_ _) | (with_reducible refine Below.drew ?_) | omega | (simp <;> omega) | (dsimp only; omega))
            · go_enter Tryz.func29, Tryz.ntmps29
              go_wp2_with (first | (go_at_call 56; refine (hin _ _ _ _).mono ?_; rintro e w3 ⟨rfl, rfl⟩) | (go_at_call 64; refine (hgd _).mono ?_; rintro e w3 ⟨rfl, rfl⟩) | (go_at_call 65; refine (hpt _).mono ?_; rintro e w3 ⟨rfl, rfl⟩))
              all_goals
                go_ret
                refine ⟨ret_int (by rw [Hr.out]; simp [rateOk, Hof.out, t1, t2, t3, t4, t5]), ?_⟩
                repeat (first | (with_reducible assumption) | (with_reducible exact Below.refl _ _) | (with_reducible refine Below.alloc ?_ ?_ _) | (with_reducible refine Below.setCell ?_ ?_ _) | (with_reducible refine Below.drew ?_) | omega | (simp <;> omega) | (dsimp only; omega))
          · go_enter Tryz.func29, Tryz.ntmps29
            go_wp2_with (first | (go_at_call 56; refine (hin _ _ _ _).mono ?_; rintro e w3 ⟨rfl, rfl⟩) | (go_at_call 64; refine (hgd _).mono ?_; rintro e w3 ⟨rfl, rfl⟩) | (go_at_call 65; refine (hpt _).mono ?_; rintro e w3 ⟨rfl, rfl⟩))
            all_goals
              go_ret
              refine ⟨ret_int (by rw [Hr.out]; simp [rateOk, Hof.out, t1, t2, t3, t4]), ?_⟩
              repeat (first | (with_reducible assumption) | (with_reducible exact Below.refl _ _) | (with_reducible refine Below.alloc ?_ ?_ _) | (with_reducible refine Below.setCell ?_ ?_ _) | (with_reducible refine Below.drew ?_) | omega | (simp <;> omega) | (dsimp only; omega))
        · go_enter Tryz.func29, Tryz.ntmps29
          go_wp2_with (first | (go_at_call 56; refine (hin _ _ _ _).mono ?_; rintro e w3 ⟨rfl, rfl⟩) | (go_at_call 64; refine (hgd _).mono ?_; rintro e w3 ⟨rfl, rfl⟩) | (go_at_call 65; refine (hpt _).mono ?_; rintro e w3 ⟨rfl, rfl⟩))
          all_goals
            go_ret
            refine ⟨ret_int (by rw [Hr.out]; simp [rateOk, Hof.out, t1, t2, t3]), ?_⟩
            repeat (first | (with_reducible assumption) | (with_reducible exact Below.refl _ _) | (with_reducible refine Below.alloc ?_ ?_ _) | (with_reducible refine Below.setCell ?_ ?_ _) | (with_reducible refine Below.drew ?_) | omega | (simp <;> omega) | (dsimp only; omega))
      · go_enter Tryz.func29, Tryz.ntmps29
        go_wp2_with (first | (go_at_call 56; refine (hin _ _ _ _).mono ?_; rintro e w3 ⟨rfl, rfl⟩) | (go_at_call 64; refine (hgd _).mono ?_; rintro e w3 ⟨rfl, rfl⟩) | (go_at_call 65; refine (hpt _).mono ?_; rintro e w3 ⟨rfl, rfl⟩))
        all_goals
          go_ret
          refine ⟨ret_int (by rw [Hr.out]; simp [rateOk, Hof.out, t1, t2]), ?_⟩
          repeat (first | (with_reducible assumption) | (with_reducible exact Below.refl _ _) | (with_reducible refine Below.alloc ?_ ?_ _) | (with_reducible refine Below.setCell ?_ ?_ _) | (with_reducible refine Below.drew ?_) | omega | (simp <;> omega) | (dsimp only; omega))
    · go_enter Tryz.func29, Tryz.ntmps29
      go_wp2_with (first | (go_at_call 56; refine (hin _ _ _ _).mono ?_; rintro e w3 ⟨rfl, rfl⟩) | (go_at_call 64; refine (hgd _).mono ?_; rintro e w3 ⟨rfl, rfl⟩) | (go_at_call 65; refine (hpt _).mono ?_; rintro e w3 ⟨rfl, rfl⟩))
      all_goals
        go_ret
        refine ⟨ret_int (by rw [Hr.out]; simp [rateOk, Hof.out, t1]), ?_⟩
        repeat (first | (with_reducible assumption) | (with_reducible exact Below.refl _ _) | (with_reducible refine Below.alloc ?_ ?_ _) | (with_reducible refine Below.setCell ?_ ?_ _) | (with_reducible refine Below.drew ?_) | omega | (simp <;> omega) | (dsimp only; omega))
  · have hz : (x.of_ != 0) = true := by simpa using hof
    have Hof := Lib.hid hof; clear hof
    have Hq := Lib.hid hq; clear hq
    rcases Bool.eq_false_or_eq_true (inn x.id 1 1000000) with t1 | t1
    · rcases Bool.eq_false_or_eq_true (inn x.known 0 1000000) with t2 | t2
      · rcases Bool.eq_false_or_eq_true (inn x.of_ 1 1000000) with t3 | t3
        · cases q with
          | true =>
            have Hq2 := Hq.out.symm
            have HQ := Lib.hid Hq2; clear Hq2
            go_enter Tryz.func29, Tryz.ntmps29
            go_wp2_with (first | (go_at_call 56; refine (hin _ _ _ _).mono ?_; rintro e w3 ⟨rfl, rfl⟩) | (go_at_call 64; refine (hgd _).mono ?_; rintro e w3 ⟨rfl, rfl⟩) | (go_at_call 65; refine (hpt _).mono ?_; rintro e w3 ⟨rfl, rfl⟩))
            all_goals
              go_ret
              refine ⟨ret_int (by rw [Hr.out]; simp [rateOk, Hof.out, t1, t2, t3, HQ.out]), ?_⟩
              repeat (first | (with_reducible assumption) | (with_reducible exact Below.refl _ _) | (with_reducible refine Below.alloc ?_ ?_ _) | (with_reducible refine Below.setCell ?_ ?_ _) | (with_reducible refine Below.drew ?_) | omega | (simp <;> omega) | (dsimp only; omega))
          | false =>
            have Hq2 := Hq.out.symm
            have HQ := Lib.hid Hq2; clear Hq2
            go_enter Tryz.func29, Tryz.ntmps29
            go_wp2_with (first | (go_at_call 56; refine (hin _ _ _ _).mono ?_; rintro e w3 ⟨rfl, rfl⟩) | (go_at_call 64; refine (hgd _).mono ?_; rintro e w3 ⟨rfl, rfl⟩) | (go_at_call 65; refine (hpt _).mono ?_; rintro e w3 ⟨rfl, rfl⟩))
            all_goals
              go_ret
              refine ⟨ret_int (by rw [Hr.out]; simp [rateOk, Hof.out, t1, t2, t3, HQ.out]), ?_⟩
              repeat (first | (with_reducible assumption) | (with_reducible exact Below.refl _ _) | (with_reducible refine Below.alloc ?_ ?_ _) | (with_reducible refine Below.setCell ?_ ?_ _) | (with_reducible refine Below.drew ?_) | omega | (simp <;> omega) | (dsimp only; omega))
        · go_enter Tryz.func29, Tryz.ntmps29
          go_wp2_with (first | (go_at_call 56; refine (hin _ _ _ _).mono ?_; rintro e w3 ⟨rfl, rfl⟩) | (go_at_call 64; refine (hgd _).mono ?_; rintro e w3 ⟨rfl, rfl⟩) | (go_at_call 65; refine (hpt _).mono ?_; rintro e w3 ⟨rfl, rfl⟩))
          all_goals
            go_ret
            refine ⟨ret_int (by rw [Hr.out]; simp [rateOk, Hof.out, t1, t2, t3]), ?_⟩
            repeat (first | (with_reducible assumption) | (with_reducible exact Below.refl _ _) | (with_reducible refine Below.alloc ?_ ?_ _) | (with_reducible refine Below.setCell ?_ ?_ _) | (with_reducible refine Below.drew ?_) | omega | (simp <;> omega) | (dsimp only; omega))
      · go_enter Tryz.func29, Tryz.ntmps29
        go_wp2_with (first | (go_at_call 56; refine (hin _ _ _ _).mono ?_; rintro e w3 ⟨rfl, rfl⟩) | (go_at_call 64; refine (hgd _).mono ?_; rintro e w3 ⟨rfl, rfl⟩) | (go_at_call 65; refine (hpt _).mono ?_; rintro e w3 ⟨rfl, rfl⟩))
        all_goals
          go_ret
          refine ⟨ret_int (by rw [Hr.out]; simp [rateOk, Hof.out, t1, t2]), ?_⟩
          repeat (first | (with_reducible assumption) | (with_reducible exact Below.refl _ _) | (with_reducible refine Below.alloc ?_ ?_ _) | (with_reducible refine Below.setCell ?_ ?_ _) | (with_reducible refine Below.drew ?_) | omega | (simp <;> omega) | (dsimp only; omega))
    · go_enter Tryz.func29, Tryz.ntmps29
      go_wp2_with (first | (go_at_call 56; refine (hin _ _ _ _).mono ?_; rintro e w3 ⟨rfl, rfl⟩) | (go_at_call 64; refine (hgd _).mono ?_; rintro e w3 ⟨rfl, rfl⟩) | (go_at_call 65; refine (hpt _).mono ?_; rintro e w3 ⟨rfl, rfl⟩))
      all_goals
        go_ret
        refine ⟨ret_int (by rw [Hr.out]; simp [rateOk, Hof.out, t1]), ?_⟩
        repeat (first | (with_reducible assumption) | (with_reducible exact Below.refl _ _) | (with_reducible refine Below.alloc ?_ ?_ _) | (with_reducible refine Below.setCell ?_ ?_ _) | (with_reducible refine Below.drew ?_) | omega | (simp <;> omega) | (dsimp only; omega))

set_option maxRecDepth 100000 in
set_option maxHeartbeats 3200000 in
theorem checkSaleR_any (x : Sale) (w : World) : Calls Tryz.prog 17 #[aS x] w (Gives w (.int .i64 (if saleOk x then 0 else 1))) := by
  obtain ⟨r, hr⟩ : ∃ r : Int, r = (if saleOk x then 0 else 1) := ⟨_, rfl⟩
  rw [← hr]
  have Hr := Lib.hid hr; clear hr
  have hin := within6_any
  obtain ⟨q, hq⟩ : ∃ q, q = decide (x = ({ zeroSale with id := x.id, known := x.known, of_ := x.of_ } : Sale)) := ⟨_, rfl⟩
  have hq' := fun w => eqS x ({ zeroSale with id := x.id, known := x.known, of_ := x.of_ } : Sale) w
  rw [← hq] at hq'
  dsimp only [zeroSale] at hq'
  by_cases hof : x.of_ = 0
  · have hz : (x.of_ != 0) = false := by simpa using hof
    have Hof := Lib.hid hof; clear hof
    clear hq hq'
    rcases Bool.eq_false_or_eq_true (inn x.id 1 1000000) with t1 | t1
    · rcases Bool.eq_false_or_eq_true (inn x.known 0 1000000) with t2 | t2
      · rcases Bool.eq_false_or_eq_true (inn x.hour 0 x.known) with t3 | t3
        · rcases Bool.eq_false_or_eq_true (inn x.parcel 10 10000007) with t4 | t4
          · rcases Bool.eq_false_or_eq_true (inn x.price 1 1000000000) with t5 | t5
            · rcases Bool.eq_false_or_eq_true (inn x.carter 0 40) with t6 | t6
              · rcases Bool.eq_false_or_eq_true (inn x.keeper 0 40) with t7 | t7
                · have b7 := (inn_iff _ _ _).1 t7
                  have b3 := (inn_iff _ _ _).1 t3
                  by_cases hk : x.keeper = 0
                  · have k1 : (x.keeper == 0) = true := by simpa using hk
                    by_cases hs : x.since = 0
                    · have k2 : (x.since == 0) = true := by simpa using hs
                      have HF : Hid (saleOk x = true) := Lib.hid (by have t9 : inn 0 0 x.hour = true := (inn_iff _ _ _).2 (by omega); simp [saleOk, Hof.out, t1, t2, t3, t4, t5, t6, hk, hs, t9, show inn 0 0 40 = true from rfl])
                      clear hk hs b3 b7
                      go_enter Tryz.func17, Tryz.ntmps17
                      go_wp2_with (first | (go_at_call 56; refine (hin _ _ _ _).mono ?_; rintro e w3 ⟨rfl, rfl⟩))
                      all_goals
                        go_ret
                        refine ⟨ret_int (by rw [Hr.out]; simp [HF.out]), ?_⟩
                        repeat (first | (with_reducible assumption) | (with_reducible exact Below.refl _ _) | (with_reducible refine Below.alloc ?_ ?_ _) | (with_reducible refine Below.setCell ?_ ?_ _) | (with_reducible refine Below.drew ?_) | omega | (simp <;> omega) | (dsimp only; omega))
                    · have k2 : (x.since == 0) = false := by simpa using hs
                      have HF : Hid (saleOk x = false) := Lib.hid (by simp [saleOk, Hof.out, t1, t2, t3, t4, t5, t6, hk, hs])
                      have k3 : ¬ 0 < x.keeper := by omega
                      clear hk hs b3 b7
                      go_enter Tryz.func17, Tryz.ntmps17
                      go_wp2_with (first | (go_at_call 56; refine (hin _ _ _ _).mono ?_; rintro e w3 ⟨rfl, rfl⟩))
                      all_goals
                        go_ret
                        refine ⟨ret_int (by rw [Hr.out]; simp [HF.out]), ?_⟩
                        repeat (first | (with_reducible assumption) | (with_reducible exact Below.refl _ _) | (with_reducible refine Below.alloc ?_ ?_ _) | (with_reducible refine Below.setCell ?_ ?_ _) | (with_reducible refine Below.drew ?_) | omega | (simp <;> omega) | (dsimp only; omega))
                  · have k1 : (x.keeper == 0) = false := by simpa using hk
                    have k3 : 0 < x.keeper := by omega
                    rcases Bool.eq_false_or_eq_true (inn x.since 0 x.hour) with t8 | t8
                    · have HF : Hid (saleOk x = true) := Lib.hid (by simp [saleOk, Hof.out, t1, t2, t3, t4, t5, t6, t7, t8, k3])
                      clear hk b3 b7
                      go_enter Tryz.func17, Tryz.ntmps17
                      go_wp2_with (first | (go_at_call 56; refine (hin _ _ _ _).mono ?_; rintro e w3 ⟨rfl, rfl⟩))
                      all_goals
                        go_ret
                        refine ⟨ret_int (by rw [Hr.out]; simp [HF.out]), ?_⟩
                        repeat (first | (with_reducible assumption) | (with_reducible exact Below.refl _ _) | (with_reducible refine Below.alloc ?_ ?_ _) | (with_reducible refine Below.setCell ?_ ?_ _) | (with_reducible refine Below.drew ?_) | omega | (simp <;> omega) | (dsimp only; omega))
                    · have HF : Hid (saleOk x = false) := Lib.hid (by simp [saleOk, Hof.out, t1, t2, t3, t4, t5, t6, t7, t8, k3])
                      clear hk b3 b7
                      go_enter Tryz.func17, Tryz.ntmps17
                      go_wp2_with (first | (go_at_call 56; refine (hin _ _ _ _).mono ?_; rintro e w3 ⟨rfl, rfl⟩))
                      all_goals
                        go_ret
                        refine ⟨ret_int (by rw [Hr.out]; simp [HF.out]), ?_⟩
                        repeat (first | (with_reducible assumption) | (with_reducible exact Below.refl _ _) | (with_reducible refine Below.alloc ?_ ?_ _) | (with_reducible refine Below.setCell ?_ ?_ _) | (with_reducible refine Below.drew ?_) | omega | (simp <;> omega) | (dsimp only; omega))
                · go_enter Tryz.func17, Tryz.ntmps17
                  go_wp2_with (first | (go_at_call 56; refine (hin _ _ _ _).mono ?_; rintro e w3 ⟨rfl, rfl⟩))
                  all_goals
                    go_ret
                    refine ⟨ret_int (by rw [Hr.out]; simp [saleOk, Hof.out, t1, t2, t3, t4, t5, t6, t7]), ?_⟩
                    repeat (first | (with_reducible assumption) | (with_reducible exact Below.refl _ _) | (with_reducible refine Below.alloc ?_ ?_ _) | (with_reducible refine Below.setCell ?_ ?_ _) | (with_reducible refine Below.drew ?_) | omega | (simp <;> omega) | (dsimp only; omega))
              · go_enter Tryz.func17, Tryz.ntmps17
                go_wp2_with (first | (go_at_call 56; refine (hin _ _ _ _).mono ?_; rintro e w3 ⟨rfl, rfl⟩))
                all_goals
                  go_ret
                  refine ⟨ret_int (by rw [Hr.out]; simp [saleOk, Hof.out, t1, t2, t3, t4, t5, t6]), ?_⟩
                  repeat (first | (with_reducible assumption) | (with_reducible exact Below.refl _ _) | (with_reducible refine Below.alloc ?_ ?_ _) | (with_reducible refine Below.setCell ?_ ?_ _) | (with_reducible refine Below.drew ?_) | omega | (simp <;> omega) | (dsimp only; omega))
            · go_enter Tryz.func17, Tryz.ntmps17
              go_wp2_with (first | (go_at_call 56; refine (hin _ _ _ _).mono ?_; rintro e w3 ⟨rfl, rfl⟩))
              all_goals
                go_ret
                refine ⟨ret_int (by rw [Hr.out]; simp [saleOk, Hof.out, t1, t2, t3, t4, t5]), ?_⟩
                repeat (first | (with_reducible assumption) | (with_reducible exact Below.refl _ _) | (with_reducible refine Below.alloc ?_ ?_ _) | (with_reducible refine Below.setCell ?_ ?_ _) | (with_reducible refine Below.drew ?_) | omega | (simp <;> omega) | (dsimp only; omega))
          · go_enter Tryz.func17, Tryz.ntmps17
            go_wp2_with (first | (go_at_call 56; refine (hin _ _ _ _).mono ?_; rintro e w3 ⟨rfl, rfl⟩))
            all_goals
              go_ret
              refine ⟨ret_int (by rw [Hr.out]; simp [saleOk, Hof.out, t1, t2, t3, t4]), ?_⟩
              repeat (first | (with_reducible assumption) | (with_reducible exact Below.refl _ _) | (with_reducible refine Below.alloc ?_ ?_ _) | (with_reducible refine Below.setCell ?_ ?_ _) | (with_reducible refine Below.drew ?_) | omega | (simp <;> omega) | (dsimp only; omega))
        · go_enter Tryz.func17, Tryz.ntmps17
          go_wp2_with (first | (go_at_call 56; refine (hin _ _ _ _).mono ?_; rintro e w3 ⟨rfl, rfl⟩))
          all_goals
            go_ret
            refine ⟨ret_int (by rw [Hr.out]; simp [saleOk, Hof.out, t1, t2, t3]), ?_⟩
            repeat (first | (with_reducible assumption) | (with_reducible exact Below.refl _ _) | (with_reducible refine Below.alloc ?_ ?_ _) | (with_reducible refine Below.setCell ?_ ?_ _) | (with_reducible refine Below.drew ?_) | omega | (simp <;> omega) | (dsimp only; omega))
      · go_enter Tryz.func17, Tryz.ntmps17
        go_wp2_with (first | (go_at_call 56; refine (hin _ _ _ _).mono ?_; rintro e w3 ⟨rfl, rfl⟩))
        all_goals
          go_ret
          refine ⟨ret_int (by rw [Hr.out]; simp [saleOk, Hof.out, t1, t2]), ?_⟩
          repeat (first | (with_reducible assumption) | (with_reducible exact Below.refl _ _) | (with_reducible refine Below.alloc ?_ ?_ _) | (with_reducible refine Below.setCell ?_ ?_ _) | (with_reducible refine Below.drew ?_) | omega | (simp <;> omega) | (dsimp only; omega))
    · go_enter Tryz.func17, Tryz.ntmps17
      go_wp2_with (first | (go_at_call 56; refine (hin _ _ _ _).mono ?_; rintro e w3 ⟨rfl, rfl⟩))
      all_goals
        go_ret
        refine ⟨ret_int (by rw [Hr.out]; simp [saleOk, Hof.out, t1]), ?_⟩
        repeat (first | (with_reducible assumption) | (with_reducible exact Below.refl _ _) | (with_reducible refine Below.alloc ?_ ?_ _) | (with_reducible refine Below.setCell ?_ ?_ _) | (with_reducible refine Below.drew ?_) | omega | (simp <;> omega) | (dsimp only; omega))
  · have hz : (x.of_ != 0) = true := by simpa using hof
    have Hof := Lib.hid hof; clear hof
    have Hq := Lib.hid hq; clear hq
    rcases Bool.eq_false_or_eq_true (inn x.id 1 1000000) with t1 | t1
    · rcases Bool.eq_false_or_eq_true (inn x.known 0 1000000) with t2 | t2
      · rcases Bool.eq_false_or_eq_true (inn x.of_ 1 1000000) with t3 | t3
        · cases q with
          | true =>
            have Hq2 := Hq.out.symm
            have HQ := Lib.hid Hq2; clear Hq2
            go_enter Tryz.func17, Tryz.ntmps17
            go_wp2_with (first | (go_at_call 56; refine (hin _ _ _ _).mono ?_; rintro e w3 ⟨rfl, rfl⟩))
            all_goals
              go_ret
              refine ⟨ret_int (by rw [Hr.out]; simp [saleOk, Hof.out, t1, t2, t3, HQ.out]), ?_⟩
              repeat (first | (with_reducible assumption) | (with_reducible exact Below.refl _ _) | (with_reducible refine Below.alloc ?_ ?_ _) | (with_reducible refine Below.setCell ?_ ?_ _) | (with_reducible refine Below.drew ?_) | omega | (simp <;> omega) | (dsimp only; omega))
          | false =>
            have Hq2 := Hq.out.symm
            have HQ := Lib.hid Hq2; clear Hq2
            go_enter Tryz.func17, Tryz.ntmps17
            go_wp2_with (first | (go_at_call 56; refine (hin _ _ _ _).mono ?_; rintro e w3 ⟨rfl, rfl⟩))
            all_goals
              go_ret
              refine ⟨ret_int (by rw [Hr.out]; simp [saleOk, Hof.out, t1, t2, t3, HQ.out]), ?_⟩
              repeat (first | (with_reducible assumption) | (with_reducible exact Below.refl _ _) | (with_reducible refine Below.alloc ?_ ?_ _) | (with_reducible refine Below.setCell ?_ ?_ _) | (with_reducible refine Below.drew ?_) | omega | (simp <;> omega) | (dsimp only; omega))
        · go_enter Tryz.func17, Tryz.ntmps17
          go_wp2_with (first | (go_at_call 56; refine (hin _ _ _ _).mono ?_; rintro e w3 ⟨rfl, rfl⟩))
          all_goals
            go_ret
            refine ⟨ret_int (by rw [Hr.out]; simp [saleOk, Hof.out, t1, t2, t3]), ?_⟩
            repeat (first | (with_reducible assumption) | (with_reducible exact Below.refl _ _) | (with_reducible refine Below.alloc ?_ ?_ _) | (with_reducible refine Below.setCell ?_ ?_ _) | (with_reducible refine Below.drew ?_) | omega | (simp <;> omega) | (dsimp only; omega))
      · go_enter Tryz.func17, Tryz.ntmps17
        go_wp2_with (first | (go_at_call 56; refine (hin _ _ _ _).mono ?_; rintro e w3 ⟨rfl, rfl⟩))
        all_goals
          go_ret
          refine ⟨ret_int (by rw [Hr.out]; simp [saleOk, Hof.out, t1, t2]), ?_⟩
          repeat (first | (with_reducible assumption) | (with_reducible exact Below.refl _ _) | (with_reducible refine Below.alloc ?_ ?_ _) | (with_reducible refine Below.setCell ?_ ?_ _) | (with_reducible refine Below.drew ?_) | omega | (simp <;> omega) | (dsimp only; omega))
    · go_enter Tryz.func17, Tryz.ntmps17
      go_wp2_with (first | (go_at_call 56; refine (hin _ _ _ _).mono ?_; rintro e w3 ⟨rfl, rfl⟩))
      all_goals
        go_ret
        refine ⟨ret_int (by rw [Hr.out]; simp [saleOk, Hof.out, t1]), ?_⟩
        repeat (first | (with_reducible assumption) | (with_reducible exact Below.refl _ _) | (with_reducible refine Below.alloc ?_ ?_ _) | (with_reducible refine Below.setCell ?_ ?_ _) | (with_reducible refine Below.drew ?_) | omega | (simp <;> omega) | (dsimp only; omega))

end Go.Proofs.YtkeppoiomjhkpaaGreatDoor

/-
  Walks: the predicate inside counting.
-/
namespace Go.Proofs.YtkeppoiomjhkpaaGreatDoor
open Go.RowKit Lg Go.Sort

theorem regrown_call {w : World} {f : FuncId} {args : Array Value} {v : Value} (h : ∀ W, Below w.heap.size w W → Calls Tryz.prog f args W (Gives W v)) :
    ∀ d os, Calls Tryz.prog f args (grow (redrawn w d) os) fun e w'' => e = .returned v ∧ ∃ p : Regrown, w'' = grow (redrawn w p.d) p.os :=
  fun d os => Calls.regrown_of (h _ (below_regrown w d os))

theorem box_regrown {w W : World} {cs : Array Value} {t : TypeId} (hW : W = w.alloc (.cells cs t)) (j d : Nat) (os : Array Obj) : (grow (redrawn W d) os).cell? ⟨w.heap.size, j, none⟩ = cs[j]? := by
  subst hW
  rw [(below_regrown _ d os).cell (by simp)]
  exact cell_of_row _ _ _ _ _ _ (heap_alloc_new w _)

theorem fieldH (a b c : Value) (w : World) : (Instr.field 137 (.agg #[a, b, c]) 0).run Tryz.prog w = .ok a w ∧ (Instr.field 137 (.agg #[a, b, c]) 1).run Tryz.prog w = .ok b w ∧ (Instr.field 137 (.agg #[a, b, c]) 2).run Tryz.prog w = .ok c w :=
  ⟨by kernel_rfl, by kernel_rfl, by kernel_rfl⟩

set_option maxRecDepth 100000 in
set_option maxHeartbeats 400000 in
theorem voidR_any (x : Rate) (h : Head) (known : Int) (B1 B2 : Nat) (w : World) (c1 : w.cell? ⟨B1, 0, none⟩ = some (.int .i64 h.id)) (c2 : w.cell? ⟨B2, 0, none⟩ = some (.int .i64 known)) :
    Calls Tryz.prog 133 #[aR x, .pointer (some ⟨B1, 0, none⟩), .pointer (some ⟨B2, 0, none⟩)] w (Gives w (.bool (voids h x.head known))) := by
  obtain ⟨W, hW⟩ : ∃ W, W = w.alloc (.cells #[.int .i64 x.id, .int .i64 x.known, .int .i64 x.from_, .string x.goods, .int .i64 x.finder.num, .int .i64 x.finder.den, .int .i64 x.cart, .int .i64 x.store, .int .i64 x.of_] 43) := ⟨_, rfl⟩
  have b1 : _ < _ := block_lt_of_cell c1
  have b2 : _ < _ := block_lt_of_cell c2
  have hB : Below w.heap.size w W := hW ▸ (Below.refl _ w).alloc (Nat.le_refl _) _
  have k1 := cell_regrown ((hB.cell (p := ⟨B1, 0, none⟩) b1).trans c1)
  have k2 := cell_regrown ((hB.cell (p := ⟨B2, 0, none⟩) b2).trans c2)
  have k3 := box_regrown hW
  have fh := fieldH
  have cH := regrown_call (w := W) (v := .agg #[.int .i64 x.id, .int .i64 x.known, .int .i64 x.of_]) (fun W' _ => headR_any x W')
  go_enter Tryz.func133, Tryz.ntmps133
  go_wp2
  rw [← hW]; clear hW
  by_cases hid : x.of_ = h.id
  · have g1 : (x.of_ == h.id) = true := by simp [hid]
    have H := Lib.hid hid; clear hid
    refine wp_region_quiet_below (by kernel_rfl) (by kernel_rfl) ?_
    repeat (quiet_step (first | exact cH _ _))
    refine wpQuiet_nil ?_
    intro _ hw'
    obtain ⟨⟨dq, osq⟩, hw''⟩ := hw'
    subst hw''
    go_wp2
    go_ret
    exact ⟨by simp [voids, Rate.head, H.out], hB.trans ((below_regrown W dq osq).mono hB.size)⟩
  · have g1 : (x.of_ == h.id) = false := by simp [hid]
    have H := Lib.hid hid; clear hid
    refine wp_region_quiet_below (by kernel_rfl) (by kernel_rfl) ?_
    repeat (quiet_step (first | exact cH _ _))
    refine wpQuiet_nil ?_
    intro _ hw'
    obtain ⟨⟨dq, osq⟩, hw''⟩ := hw'
    subst hw''
    go_wp2
    go_ret
    exact ⟨by simp [voids, Rate.head, H.out], hB.trans ((below_regrown W dq osq).mono hB.size)⟩

end Go.Proofs.YtkeppoiomjhkpaaGreatDoor

/-
  A load of many cells inside a region that draws its order.
-/
namespace Go.Proofs.YtkeppoiomjhkpaaGreatDoor
open Go.RowKit Lg Go.Sort

theorem wpQuiet_load_mid {P : Program} {ops : Array Oper} {C : World → Prop} {Q : Act → Prop} {rest : List Oper} {op : Oper} {a : Act} (ty : TypeId) (x : Operand) (ho : op.op = .load ty x)
    (b o : Nat) (hx : a.eval x = .pointer (some ⟨b, o, none⟩)) (cs : List Value) (d : TypeDesc) (hc : ∀ w, C w → w.rangeAt b o cs)
    (hu : P.underlying ty = some d) (hd : d.isRow = true) (hi : (P.info? ty).map (·.size) = some cs.length) (hw : Region.wanted op (yielded ops a.tmps) = true)
    (h : wpQuiet P ops C Q rest (a.put op.dst (.agg cs.toArray))) : wpQuiet P ops C Q (op :: rest) a := by
  unfold wpQuiet
  rw [if_pos hw]
  refine ⟨_, fun w hCw => ?_, h⟩
  unfold Oper.quietAt execOp
  simp only [ho, hx, Instr.loadAt, Instr.sureAddr, Sem.run_bind, Sem.run_pure, Result.andThen_ok, run_loadVar_mid w b o ty cs d (hc w hCw) hu hd hi]
  exact ⟨rfl, rfl⟩

theorem rangeAt_regrown {w : World} {b o : Nat} {cs : List Value} (hb : b < w.heap.size) (h : w.rangeAt b o cs) : ∀ w', (∃ p : Regrown, w' = grow (redrawn w p.d) p.os) → w'.rangeAt b o cs := by
  rintro w' ⟨p, rfl⟩
  exact rangeAt_below (below_regrown w p.d p.os) hb h

theorem Lst.take {α : Type} {w : World} {k : Nat} {enc : α → List Value} {a : Option Addr} {n cap : Nat} {xs : List α} (h : Lst w k enc a n cap xs) (m : Nat) (hm : m ≤ n) : Lst w k enc a m m (xs.take m) :=
  ⟨by rw [List.length_take, h.len]; omega, Nat.le_refl _, Nat.le_trans hm (Nat.le_trans h.le h.max), fun i x hx => by
    have hi : i < m := by have := (List.getElem?_eq_some_iff.1 hx).1; rw [List.length_take] at this; omega
    rw [List.getElem?_take_of_lt hi] at hx
    exact h.at_ i x hx⟩

/-- A whole record stored, as the walk shows it. -/
theorem putR (w : World) (B : Nat) (x : Rate) : (((((((((w.setCell ⟨B, 0, none⟩ (.int .i64 x.id)).setCell ⟨B, 1, none⟩ (.int .i64 x.known)).setCell ⟨B, 2, none⟩ (.int .i64 x.from_)).setCell ⟨B, 3, none⟩ (.string x.goods)).setCell ⟨B, 4, none⟩ (.int .i64 x.finder.num)).setCell ⟨B, 5, none⟩ (.int .i64 x.finder.den)).setCell ⟨B, 6, none⟩ (.int .i64 x.cart)).setCell ⟨B, 7, none⟩ (.int .i64 x.store)).setCell ⟨B, 8, none⟩ (.int .i64 x.of_)) = w.setCells B 0 (cR x) := rfl
theorem putR0 (w : World) (B : Nat) : (((((((((w.setCell ⟨B, 0, none⟩ (.int .i64 0)).setCell ⟨B, 1, none⟩ (.int .i64 0)).setCell ⟨B, 2, none⟩ (.int .i64 0)).setCell ⟨B, 3, none⟩ (.string ⟨#[]⟩)).setCell ⟨B, 4, none⟩ (.int .i64 0)).setCell ⟨B, 5, none⟩ (.int .i64 0)).setCell ⟨B, 6, none⟩ (.int .i64 0)).setCell ⟨B, 7, none⟩ (.int .i64 0)).setCell ⟨B, 8, none⟩ (.int .i64 0)) = w.setCells B 0 (cR zeroRate) := rfl
theorem putS (w : World) (B : Nat) (x : Sale) : (((((((((w.setCell ⟨B, 0, none⟩ (.int .i64 x.id)).setCell ⟨B, 1, none⟩ (.int .i64 x.known)).setCell ⟨B, 2, none⟩ (.int .i64 x.hour)).setCell ⟨B, 3, none⟩ (.int .i64 x.parcel)).setCell ⟨B, 4, none⟩ (.int .i64 x.price)).setCell ⟨B, 5, none⟩ (.int .i64 x.carter)).setCell ⟨B, 6, none⟩ (.int .i64 x.keeper)).setCell ⟨B, 7, none⟩ (.int .i64 x.since)).setCell ⟨B, 8, none⟩ (.int .i64 x.of_)) = w.setCells B 0 (cS x) := rfl
theorem putS0 (w : World) (B : Nat) : (((((((((w.setCell ⟨B, 0, none⟩ (.int .i64 0)).setCell ⟨B, 1, none⟩ (.int .i64 0)).setCell ⟨B, 2, none⟩ (.int .i64 0)).setCell ⟨B, 3, none⟩ (.int .i64 0)).setCell ⟨B, 4, none⟩ (.int .i64 0)).setCell ⟨B, 5, none⟩ (.int .i64 0)).setCell ⟨B, 6, none⟩ (.int .i64 0)).setCell ⟨B, 7, none⟩ (.int .i64 0)).setCell ⟨B, 8, none⟩ (.int .i64 0)) = w.setCells B 0 (cS zeroSale) := rfl

end Go.Proofs.YtkeppoiomjhkpaaGreatDoor
