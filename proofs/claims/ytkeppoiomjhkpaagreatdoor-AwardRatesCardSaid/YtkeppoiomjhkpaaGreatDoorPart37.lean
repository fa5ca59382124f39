import Derived.Test.YtkeppoiomjhkpaaGreatDoorPart15
import Derived.Test.YtkeppoiomjhkpaaGreatDoorPart36
import Derived.Test.YtkeppoiomjhkpaaGreatDoorPart05
import Derived.OrdersHeld
import Derived.Deep.RegionHeld
/-
  Walks: award.WriteRate.
-/
namespace Go.Proofs.YtkeppoiomjhkpaaGreatDoor
open Go.RowKit Lg Go.Sort Go.Shelf

theorem dag_start {P : Program} {md : Region.Mode} {ops : Array Oper} {Q : Exit → Act → World → Prop} {S : World → Prop} {fuel : Nat} {listed : Array Bool} {a : Act} {w : World}
    (h : ∀ (F : Nat → Array Bool → Act → World → Prop) (A : Value → Value → Value → Value → Value → Value → Value → Value → Value → Value → Value → Value → Value → Value → Act), F = wpAnyH P md ops Q S → A = (fun v29 v30 v31 v34 v35 v36 v37 v40 v41 v42 v43 v54 v55 v56 => ((((((((((((((a.put (some 29) v29).put (some 30) v30).put (some 31) v31).put (some 34) v34).put (some 35) v35).put (some 36) v36).put (some 37) v37).put (some 40) v40).put (some 41) v41).put (some 42) v42).put (some 43) v43).put (some 54) v54).put (some 55) v55).put (some 56) v56)) → F fuel listed a w) : wpAnyH P md ops Q S fuel listed a w := h _ _ rfl rfl

set_option maxRecDepth 100000 in
set_option maxHeartbeats 6400000 in
theorem writeRate_any (x : Rate) (w : World) (hV : Vs w) : Calls Tryz.prog 23 #[aR x] w (Gives w (.tuple #[.string (writeR x).1, .int .i64 (writeR x).2])) := by
  have hc := fun W => checkRate_any x W
  have hB0 : RowKit.Below w.heap.size w (w.alloc (.cells #[.int .i64 x.id, .int .i64 x.known, .int .i64 x.from_, .string x.goods, .int .i64 x.finder.num, .int .i64 x.finder.den, .int .i64 x.cart, .int .i64 x.store, .int .i64 x.of_] 43)) := (Below.refl _ w).alloc (Nat.le_refl _) _
  have k0 := Blk.new w 43 #[.int .i64 x.id, .int .i64 x.known, .int .i64 x.from_, .string x.goods, .int .i64 x.finder.num, .int .i64 x.finder.den, .int .i64 x.cart, .int .i64 x.store, .int .i64 x.of_]
  cases ho : rateOk x with
  | false =>
    rw [ho] at hc
    have hw : writeR x = (⟨#[]⟩, 1) := by unfold writeR; rw [ho]; rfl
    rw [hw]
    clear hw ho k0 hV
    go_enter Tryz.func23, Tryz.ntmps23
    go_wp2_with (fail)
    refine (hc _).mono ?_
    rintro e w1 ⟨rfl, hB1⟩
    go_wp2_with (fail)
    go_ret2
    exact ⟨rfl, hB0.trans (hB1.mono hB0.size)⟩
  | true =>
    rw [ho] at hc
    have hw : writeR x = (lineR x, 0) := by unfold writeR; rw [ho]; rfl
    rw [hw]
    clear hw
    obtain ⟨⟨a1, b1⟩, ⟨a2, b2⟩, ⟨a3, b3⟩, ⟨a4, b4⟩, ⟨a5, b5⟩, ⟨a6, b6⟩, ⟨a7, b7⟩, ⟨a8, b8⟩, hgo⟩ := rateOk_all ho
    obtain ⟨ln, hln⟩ : ∃ ln, ln = lineR x := ⟨_, rfl⟩
    rw [← hln]
    have l1 := joinB_len [x.id, x.known] (by simp; omega)
    have l2 := joinB_len [x.of_] (by simp; omega)
    have l3 := joinB_len [x.from_] (by simp; omega)
    have l4 := joinB_len [x.finder.num, x.finder.den, x.cart, x.store] (by simp; omega)
    simp only [List.length_cons, List.length_nil] at l1 l2 l3 l4
    obtain ⟨gw, hgw⟩ : ∃ gw, gw = goodsL x.goods := ⟨_, rfl⟩
    have lg : gw.length ≤ 30 := by
      rw [hgw]
      unfold goodsL
      split
      · decide
      · rename_i hg
        by_cases h0 : x.of_ = 0
        · have := hgo h0
          simp only [goodsOk, hg, decide_false, Bool.false_or, Bool.and_eq_true, nameOk, inn_iff] at this
          have h2 := this.1.1.1.2
          have hl : x.goods.data.toList.length = x.goods.size := by rw [Array.length_toList]; rfl
          omega
        · have := congrArg Rate.goods (rateOk_void ho h0)
          exact absurd this hg
    have hgc : (if x.goods = ⟨#[]⟩ then allS else x.goods) = ofL gw := by
      rw [hgw]
      unfold goodsL
      by_cases g : x.goods = ⟨#[]⟩
      · rw [if_pos g, if_pos g]; rfl
      · rw [if_neg g, if_neg g]
    have A1 := add_ok (a := lineL ([x.id, x.known].map nm)) (b := [32, 118, 111, 105, 100, 32]) rfl (by omega) (by decide)
    have A3 := add_ok (a := lineL ([x.id, x.known].map nm)) (b := [32, 114, 97, 116, 101, 32]) rfl (by omega) (by decide)
    have A5 := add_ok (a := lineL ([x.id, x.known].map nm) ++ [32, 114, 97, 116, 101, 32]) (b := lineL ([x.from_].map nm)) rfl (by rw [List.length_append]; simp only [List.length_cons, List.length_nil]; omega) (by omega)
    have A6 := add_ok (a := lineL ([x.id, x.known].map nm) ++ [32, 114, 97, 116, 101, 32] ++ lineL ([x.from_].map nm)) (b := [32]) rfl (by rw [List.length_append, List.length_append]; simp only [List.length_cons, List.length_nil]; omega) (by decide)
    have A7 := add_ok (a := lineL ([x.id, x.known].map nm) ++ [32, 114, 97, 116, 101, 32] ++ lineL ([x.from_].map nm) ++ [32]) (b := gw) rfl (by rw [List.length_append, List.length_append, List.length_append]; simp only [List.length_cons, List.length_nil]; omega) (by omega)
    have A8 := add_ok (a := lineL ([x.id, x.known].map nm) ++ [32, 114, 97, 116, 101, 32] ++ lineL ([x.from_].map nm) ++ [32] ++ gw) (b := [32]) rfl (by rw [List.length_append, List.length_append, List.length_append, List.length_append]; simp only [List.length_cons, List.length_nil]; omega) (by decide)
    have A2 : x.of_ ≠ 0 → ∀ W, (Op.stringOp .add (ofL (lineL ([x.id, x.known].map nm) ++ [32, 118, 111, 105, 100, 32])) (ofL (lineL ([x.of_].map nm)))).run Tryz.prog W = .ok (.string ln) W := fun h0 => by
      have e : ln = ofL (lineL ([x.id, x.known].map nm) ++ [32, 118, 111, 105, 100, 32] ++ lineL ([x.of_].map nm)) := by
        rw [hln, lineR, wordsR, if_pos h0]
        simp [lineL, voidL]
      rw [e]
      exact add_ok rfl (by rw [List.length_append]; simp only [List.length_cons, List.length_nil]; omega) (by omega)
    have A4 : x.of_ = 0 → ∀ W, (Op.stringOp .add (ofL (lineL ([x.id, x.known].map nm) ++ [32, 114, 97, 116, 101, 32] ++ lineL ([x.from_].map nm) ++ [32] ++ gw ++ [32])) (ofL (lineL ([x.finder.num, x.finder.den, x.cart, x.store].map nm)))).run Tryz.prog W = .ok (.string ln) W := fun h0 => by
      have e : ln = ofL (lineL ([x.id, x.known].map nm) ++ [32, 114, 97, 116, 101, 32] ++ lineL ([x.from_].map nm) ++ [32] ++ gw ++ [32] ++ lineL ([x.finder.num, x.finder.den, x.cart, x.store].map nm)) := by
        rw [hln, lineR, wordsR, if_neg (by simpa using h0), ← hgw]
        simp [lineL, rateL]
      rw [e]
      exact add_ok rfl (by rw [List.length_append, List.length_append, List.length_append, List.length_append, List.length_append]; simp only [List.length_cons, List.length_nil]; omega) (by omega)
    clear ho hgo hgw lg
    clear hln l1 l2 l3 l4
    go_enter Tryz.func23, Tryz.ntmps23
    go_wp2_with (fail)
    refine (hc _).mono ?_
    clear hc
    rintro e w1 ⟨rfl, hB1⟩
    have k1 := k0.below' hB1
    clear k0
    have hB1 := hB0.trans (hB1.mono hB0.size)
    clear hB0
    have hV1 := hV.below hB1
    have HJ1 := joinC hV1 [x.id, x.known] (by simp) (by simp) (by simp; omega)
    have HJ2 := joinC hV1 [x.of_] (by simp) (by simp) (by simp; omega)
    have HJ3 := joinC hV1 [x.from_] (by simp) (by simp) (by simp; omega)
    have HJ4 := joinC hV1 [x.finder.num, x.finder.den, x.cart, x.store] (by simp) (by simp) (by simp; omega)
    have HO : ∀ (W : World) (B : Nat), RowKit.Below w1.heap.size w1 W → Blk W B #[.string x.goods, .string allS] 9 →
      Calls Tryz.prog 60 #[.slice (some ⟨B, 0, none⟩) 2 2] W fun e w' => e = .returned (.string (ofL gw)) ∧ W = w' := fun W B _ k => by
        rw [← hgc]; exact or_any B x.goods W k
    clear hgc
    generalize ofL (lineL ([x.id, x.known].map nm) ++ [32, 118, 111, 105, 100, 32]) = s1 at *
    generalize ofL (lineL ([x.id, x.known].map nm) ++ [32, 114, 97, 116, 101, 32] ++ lineL ([x.from_].map nm) ++ [32] ++ gw ++ [32]) = s8 at *
    generalize ofL (lineL ([x.id, x.known].map nm) ++ [32, 114, 97, 116, 101, 32] ++ lineL ([x.from_].map nm) ++ [32] ++ gw) = s7 at *
    generalize ofL (lineL ([x.id, x.known].map nm) ++ [32, 114, 97, 116, 101, 32] ++ lineL ([x.from_].map nm) ++ [32]) = s6 at *
    generalize ofL (lineL ([x.id, x.known].map nm) ++ [32, 114, 97, 116, 101, 32] ++ lineL ([x.from_].map nm)) = s5 at *
    generalize ofL (lineL ([x.id, x.known].map nm) ++ [32, 114, 97, 116, 101, 32]) = s3 at *
    generalize ofL (lineL ([x.id, x.known].map nm)) = j1 at *
    generalize ofL (lineL ([x.of_].map nm)) = j2 at *
    generalize ofL (lineL ([x.from_].map nm)) = j3 at *
    generalize ofL (lineL ([x.finder.num, x.finder.den, x.cart, x.store].map nm)) = j4 at *
    generalize ofL gw = gb at *
    simp only [List.map_cons, List.map_nil, List.length_cons, List.length_nil] at HJ1 HJ2 HJ3 HJ4
    have HJ1 := Lib.hid HJ1
    have HJ2 := Lib.hid HJ2
    have HJ3 := Lib.hid HJ3
    have HJ4 := Lib.hid HJ4
    have HO := Lib.hid HO
    clear a1 b1 a2 b2 a4 b4 a5 b5 a6 b6 a7 b7 a8 b8 hV hV1
    obtain ⟨bx, hbx⟩ : ∃ bx, bx = w.heap.size := ⟨_, rfl⟩
    rw [← hbx] at k1 ⊢
    clear hbx
    have HC := Lib.hid (fun W (h : RowKit.Below w1.heap.size w1 W) => (k1.below' h).cell)
    have c8 : w1.cell? ⟨bx, 8, none⟩ = some (.int .i64 x.of_) := HC.out _ (Below.refl _ _) 8
    clear k1
    by_cases h0 : x.of_ = 0
    · have hz : ¬ (0 : Int) < x.of_ := by omega
      have A4 := A4 h0
      have H0 := Lib.hid h0
      clear h0 A2 A1 HJ2 a3 b3
      go_upto_region 6 with fail
      clear c8
      refine wp_region_held_drew (S := fun W => RowKit.Below w1.heap.size w1 W) (by kernel_rfl) (RowKit.Below.drew (Below.refl _ _)) (fun hS => ?_)
      refine wpAnyH_take (i := 0) (v := .pointer (some ⟨bx, 0, none⟩)) rfl (by kernel_rfl) (by kernel_rfl) (by kernel_rfl) (fun _ _ _ h => h) (Or.inl ⟨by kernel_rfl, fun _ _ => by kernel_rfl⟩) hS ?_
      try dsimp only
      try simp only [List.getElem_toArray, List.getElem_cons_zero, Act.put, List.setIfInBounds_toArray, List.set_cons_zero, List.set_cons_succ]
      refine wpAnyH_take (i := 1) (v := .int .i64 x.id) rfl (by kernel_rfl) (by kernel_rfl) (by kernel_rfl) (fun _ _ _ h => h) (Or.inl ⟨by kernel_rfl, fun w hSw => by have c := HC.out w hSw 0; have c : w.cell? ⟨bx, 0, none⟩ = _ := c; go_simp⟩) hS ?_
      try dsimp only
      try simp only [List.getElem_toArray, List.getElem_cons_succ, List.getElem_cons_zero, Act.put, List.setIfInBounds_toArray, List.set_cons_zero, List.set_cons_succ]
      refine wpAnyH_take (i := 2) (v := .pointer (some ⟨bx, 1, none⟩)) rfl (by kernel_rfl) (by kernel_rfl) (by kernel_rfl) (fun _ _ _ h => h) (Or.inl ⟨by kernel_rfl, fun _ _ => by kernel_rfl⟩) hS ?_
      try dsimp only
      try simp only [List.getElem_toArray, List.getElem_cons_succ, List.getElem_cons_zero, Act.put, List.setIfInBounds_toArray, List.set_cons_zero, List.set_cons_succ]
      refine wpAnyH_take (i := 3) (v := .int .i64 x.known) rfl (by kernel_rfl) (by kernel_rfl) (by kernel_rfl) (fun _ _ _ h => h) (Or.inl ⟨by kernel_rfl, fun w hSw => by have c := HC.out w hSw 1; have c : w.cell? ⟨bx, 1, none⟩ = _ := c; go_simp⟩) hS ?_
      try dsimp only
      try simp only [List.getElem_toArray, List.getElem_cons_succ, List.getElem_cons_zero, Act.put, List.setIfInBounds_toArray, List.set_cons_zero, List.set_cons_succ]
      refine wpAnyH_take (i := 7) (v := .pointer (some ⟨bx, 2, none⟩)) rfl (by kernel_rfl) (by kernel_rfl) (by kernel_rfl) (fun _ _ _ h => h) (Or.inl ⟨by kernel_rfl, fun _ _ => by kernel_rfl⟩) hS ?_
      try dsimp only
      try simp only [List.getElem_toArray, List.getElem_cons_succ, List.getElem_cons_zero, Act.put, List.setIfInBounds_toArray, List.set_cons_zero, List.set_cons_succ]
      refine wpAnyH_take (i := 8) (v := .int .i64 x.from_) rfl (by kernel_rfl) (by kernel_rfl) (by kernel_rfl) (fun _ _ _ h => h) (Or.inl ⟨by kernel_rfl, fun w hSw => by have c := HC.out w hSw 2; have c : w.cell? ⟨bx, 2, none⟩ = _ := c; go_simp⟩) hS ?_
      try dsimp only
      try simp only [List.getElem_toArray, List.getElem_cons_succ, List.getElem_cons_zero, Act.put, List.setIfInBounds_toArray, List.set_cons_zero, List.set_cons_succ]
      refine wpAnyH_take (i := 13) (v := .pointer (some ⟨bx, 3, none⟩)) rfl (by kernel_rfl) (by kernel_rfl) (by kernel_rfl) (fun _ _ _ h => h) (Or.inl ⟨by kernel_rfl, fun _ _ => by kernel_rfl⟩) hS ?_
      try dsimp only
      try simp only [List.getElem_toArray, List.getElem_cons_succ, List.getElem_cons_zero, Act.put, List.setIfInBounds_toArray, List.set_cons_zero, List.set_cons_succ]
      refine wpAnyH_take (i := 14) (v := .string x.goods) rfl (by kernel_rfl) (by kernel_rfl) (by kernel_rfl) (fun _ _ _ h => h) (Or.inl ⟨by kernel_rfl, fun w hSw => by have c := HC.out w hSw 3; have c : w.cell? ⟨bx, 3, none⟩ = _ := c; go_simp⟩) hS ?_
      try dsimp only
      try simp only [List.getElem_toArray, List.getElem_cons_succ, List.getElem_cons_zero, Act.put, List.setIfInBounds_toArray, List.set_cons_zero, List.set_cons_succ]
      refine wpAnyH_take (i := 19) (v := .pointer (some ⟨bx, 4, none⟩)) rfl (by kernel_rfl) (by kernel_rfl) (by kernel_rfl) (fun _ _ _ h => h) (Or.inl ⟨by kernel_rfl, fun _ _ => by kernel_rfl⟩) hS ?_
      try dsimp only
      try simp only [List.getElem_toArray, List.getElem_cons_succ, List.getElem_cons_zero, Act.put, List.setIfInBounds_toArray, List.set_cons_zero, List.set_cons_succ]
      refine wpAnyH_take (i := 20) (v := .pointer (some ⟨bx, 4, none⟩)) rfl (by kernel_rfl) (by kernel_rfl) (by kernel_rfl) (fun _ _ _ h => h) (Or.inl ⟨by kernel_rfl, fun _ _ => by kernel_rfl⟩) hS ?_
      try dsimp only
      try simp only [List.getElem_toArray, List.getElem_cons_succ, List.getElem_cons_zero, Act.put, List.setIfInBounds_toArray, List.set_cons_zero, List.set_cons_succ]
      refine wpAnyH_take (i := 21) (v := .int .i64 x.finder.num) rfl (by kernel_rfl) (by kernel_rfl) (by kernel_rfl) (fun _ _ _ h => h) (Or.inl ⟨by kernel_rfl, fun w hSw => by have c := HC.out w hSw 4; have c : w.cell? ⟨bx, 4, none⟩ = _ := c; go_simp⟩) hS ?_
      try dsimp only
      try simp only [List.getElem_toArray, List.getElem_cons_succ, List.getElem_cons_zero, Act.put, List.setIfInBounds_toArray, List.set_cons_zero, List.set_cons_succ]
      refine wpAnyH_take (i := 22) (v := .pointer (some ⟨bx, 4, none⟩)) rfl (by kernel_rfl) (by kernel_rfl) (by kernel_rfl) (fun _ _ _ h => h) (Or.inl ⟨by kernel_rfl, fun _ _ => by kernel_rfl⟩) hS ?_
      try dsimp only
      try simp only [List.getElem_toArray, List.getElem_cons_succ, List.getElem_cons_zero, Act.put, List.setIfInBounds_toArray, List.set_cons_zero, List.set_cons_succ]
      refine wpAnyH_take (i := 23) (v := .pointer (some ⟨bx, 5, none⟩)) rfl (by kernel_rfl) (by kernel_rfl) (by kernel_rfl) (fun _ _ _ h => h) (Or.inl ⟨by kernel_rfl, fun _ _ => by kernel_rfl⟩) hS ?_
      try dsimp only
      try simp only [List.getElem_toArray, List.getElem_cons_succ, List.getElem_cons_zero, Act.put, List.setIfInBounds_toArray, List.set_cons_zero, List.set_cons_succ]
      refine wpAnyH_take (i := 24) (v := .int .i64 x.finder.den) rfl (by kernel_rfl) (by kernel_rfl) (by kernel_rfl) (fun _ _ _ h => h) (Or.inl ⟨by kernel_rfl, fun w hSw => by have c := HC.out w hSw 5; have c : w.cell? ⟨bx, 5, none⟩ = _ := c; go_simp⟩) hS ?_
      try dsimp only
      try simp only [List.getElem_toArray, List.getElem_cons_succ, List.getElem_cons_zero, Act.put, List.setIfInBounds_toArray, List.set_cons_zero, List.set_cons_succ]
      refine wpAnyH_take (i := 25) (v := .pointer (some ⟨bx, 6, none⟩)) rfl (by kernel_rfl) (by kernel_rfl) (by kernel_rfl) (fun _ _ _ h => h) (Or.inl ⟨by kernel_rfl, fun _ _ => by kernel_rfl⟩) hS ?_
      try dsimp only
      try simp only [List.getElem_toArray, List.getElem_cons_succ, List.getElem_cons_zero, Act.put, List.setIfInBounds_toArray, List.set_cons_zero, List.set_cons_succ]
      refine wpAnyH_take (i := 26) (v := .int .i64 x.cart) rfl (by kernel_rfl) (by kernel_rfl) (by kernel_rfl) (fun _ _ _ h => h) (Or.inl ⟨by kernel_rfl, fun w hSw => by have c := HC.out w hSw 6; have c : w.cell? ⟨bx, 6, none⟩ = _ := c; go_simp⟩) hS ?_
      try dsimp only
      try simp only [List.getElem_toArray, List.getElem_cons_succ, List.getElem_cons_zero, Act.put, List.setIfInBounds_toArray, List.set_cons_zero, List.set_cons_succ]
      refine wpAnyH_take (i := 27) (v := .pointer (some ⟨bx, 7, none⟩)) rfl (by kernel_rfl) (by kernel_rfl) (by kernel_rfl) (fun _ _ _ h => h) (Or.inl ⟨by kernel_rfl, fun _ _ => by kernel_rfl⟩) hS ?_
      try dsimp only
      try simp only [List.getElem_toArray, List.getElem_cons_succ, List.getElem_cons_zero, Act.put, List.setIfInBounds_toArray, List.set_cons_zero, List.set_cons_succ]
      refine wpAnyH_take (i := 28) (v := .int .i64 x.store) rfl (by kernel_rfl) (by kernel_rfl) (by kernel_rfl) (fun _ _ _ h => h) (Or.inl ⟨by kernel_rfl, fun w hSw => by have c := HC.out w hSw 7; have c : w.cell? ⟨bx, 7, none⟩ = _ := c; go_simp⟩) hS ?_
      try dsimp only
      try simp only [List.getElem_toArray, List.getElem_cons_succ, List.getElem_cons_zero, Act.put, List.setIfInBounds_toArray, List.set_cons_zero, List.set_cons_succ]
      refine dag_start (fun F A hF hA => ?_)
      simp only [Act.put, List.setIfInBounds_toArray, List.set_cons_zero, List.set_cons_succ] at hA
      have HF := Lib.hid hF
      have HA := Lib.hid hA
      clear hF hA
      have K3_1234 : ∀ (W : World) (B1 B2 B3 B4 : Nat), RowKit.Below w1.heap.size w1 W → Blk W B4 #[.int .i64 x.finder.num, .int .i64 x.finder.den, .int .i64 x.cart, .int .i64 x.store] 3 → F 4 #[true, true, true, true, true, true, true, true, true, true, true, true, true, true, true, true, true, true, true, true, true, true, true, true, true, true, true, true, true, true, false, false, false, false] (A (.slice (some ⟨B1, 0, none⟩) 2 2) (.string j1) (.string s3) (.slice (some ⟨B2, 0, none⟩) 1 1) (.string j3) (.string s5) (.string s6) (.slice (some ⟨B3, 0, none⟩) 2 2) (.string gb) (.string s7) (.string s8) (.slice (some ⟨B4, 0, none⟩) 4 4) undef undef) W := by
        intro W B1 B2 B3 B4 hW k4
        rw [HF.out, HA.out]
        dsimp only
        refine wpAnyH_ready (rs := [30]) (by kernel_rfl) (by simp) ?_
        refine AllReadyH.cons rfl (fun K hK => ?_) AllReadyH.nil
        · go_simp
          refine (HJ4.out W B4 hW k4).mono ?_
          rintro e w3 ⟨rfl, hb, hB⟩
          refine hK.out _ _ hB (fun _ => ?_)
          try dsimp only
          try simp only [List.setIfInBounds_toArray, List.set_cons_zero, List.set_cons_succ]
          refine wpAnyH_take (i := 31) (v := .string ln) rfl (by kernel_rfl) (by kernel_rfl) (by kernel_rfl) (fun _ _ _ h => h) (Or.inl ⟨by kernel_rfl, fun w hSw => by go_simp⟩) hB ?_
          try dsimp only
          try simp only [List.getElem_toArray, List.getElem_cons_succ, List.getElem_cons_zero, Act.put, List.setIfInBounds_toArray, List.set_cons_zero, List.set_cons_succ]
          refine wpAnyH_take (i := 32) (v := .string ln) rfl (by kernel_rfl) (by kernel_rfl) (by kernel_rfl) (fun _ _ _ h => h) (Or.inl ⟨by kernel_rfl, fun w hSw => by go_simp⟩) hB ?_
          try dsimp only
          try simp only [List.getElem_toArray, List.getElem_cons_succ, List.getElem_cons_zero, Act.put, List.setIfInBounds_toArray, List.set_cons_zero, List.set_cons_succ]
          refine wpAnyH_take (i := 33) (v := .int .i64 0) rfl (by kernel_rfl) (by kernel_rfl) (by kernel_rfl) (fun _ _ _ h => h) (Or.inl ⟨by kernel_rfl, fun w hSw => by go_simp⟩) hB ?_
          try dsimp only
          try simp only [List.getElem_toArray, List.getElem_cons_succ, List.getElem_cons_zero, Act.put, List.setIfInBounds_toArray, List.set_cons_zero, List.set_cons_succ]
          refine wpAnyH_done (by kernel_rfl) ?_ _
          try dsimp only
          try simp only [List.getElem_toArray, List.getElem_cons_succ, List.getElem_cons_zero, Act.put, List.setIfInBounds_toArray, List.set_cons_zero, List.set_cons_succ]
          go_wp2_with fail
          go_ret2
          exact ⟨rfl, hB1.trans (hB.mono hB1.size)⟩
      have HK3_1234 := Lib.hid K3_1234
      clear K3_1234
      have K3_123 : ∀ (W : World) (B1 B2 B3 : Nat), RowKit.Below w1.heap.size w1 W → F 5 #[true, true, true, true, true, true, true, true, true, true, true, true, true, true, true, true, true, true, true, true, true, true, true, true, true, true, true, true, true, false, false, false, false, false] (A (.slice (some ⟨B1, 0, none⟩) 2 2) (.string j1) (.string s3) (.slice (some ⟨B2, 0, none⟩) 1 1) (.string j3) (.string s5) (.string s6) (.slice (some ⟨B3, 0, none⟩) 2 2) (.string gb) (.string s7) (.string s8) undef undef undef) W := by
        intro W B1 B2 B3 hW
        rw [HF.out, HA.out]
        dsimp only
        refine wpAnyH_ready (rs := [29]) (by kernel_rfl) (by simp) ?_
        refine AllReadyH.cons rfl (fun K hK => ?_) AllReadyH.nil
        · go_simp
          have k4 := Blk.new W 3 #[.int .i64 x.finder.num, .int .i64 x.finder.den, .int .i64 x.cart, .int .i64 x.store]
          have hz : RowKit.Below W.heap.size W (W.alloc (.cells #[.int .i64 x.finder.num, .int .i64 x.finder.den, .int .i64 x.cart, .int .i64 x.store] 3)) := (Below.refl _ W).alloc (Nat.le_refl _) _
          refine hK.out _ _ (hW.trans (hz.mono hW.size)) (fun _ => ?_)
          have h := HK3_1234.out _ B1 B2 B3 W.heap.size (hW.trans (hz.mono hW.size)) k4
          rw [HF.out, HA.out] at h
          exact h
      have HK3_123 := Lib.hid K3_123
      clear K3_123
      have K2_1234 : ∀ (W : World) (B1 B2 B3 B4 : Nat), RowKit.Below w1.heap.size w1 W → Blk W B3 #[.string x.goods, .string allS] 9 → Blk W B4 #[.int .i64 x.finder.num, .int .i64 x.finder.den, .int .i64 x.cart, .int .i64 x.store] 3 → F 7 #[true, true, true, true, true, true, true, true, true, true, true, true, true, true, true, true, false, false, false, true, true, true, true, true, true, true, true, true, true, true, false, false, false, false] (A (.slice (some ⟨B1, 0, none⟩) 2 2) (.string j1) (.string s3) (.slice (some ⟨B2, 0, none⟩) 1 1) (.string j3) (.string s5) (.string s6) (.slice (some ⟨B3, 0, none⟩) 2 2) undef undef undef (.slice (some ⟨B4, 0, none⟩) 4 4) undef undef) W := by
        intro W B1 B2 B3 B4 hW k3 k4
        rw [HF.out, HA.out]
        dsimp only
        refine wpAnyH_ready (rs := [16]) (by kernel_rfl) (by simp) ?_
        refine AllReadyH.cons rfl (fun K hK => ?_) AllReadyH.nil
        · go_simp
          refine (HO.out W B3 hW k3).mono ?_
          rintro e w3 ⟨rfl, rfl⟩
          have hB := hW
          refine hK.out _ _ hB (fun _ => ?_)
          try dsimp only
          try simp only [List.setIfInBounds_toArray, List.set_cons_zero, List.set_cons_succ]
          refine wpAnyH_take (i := 17) (v := .string s7) rfl (by kernel_rfl) (by kernel_rfl) (by kernel_rfl) (fun _ _ _ h => h) (Or.inl ⟨by kernel_rfl, fun w hSw => by go_simp⟩) hB ?_
          try dsimp only
          try simp only [List.getElem_toArray, List.getElem_cons_succ, List.getElem_cons_zero, Act.put, List.setIfInBounds_toArray, List.set_cons_zero, List.set_cons_succ]
          refine wpAnyH_take (i := 18) (v := .string s8) rfl (by kernel_rfl) (by kernel_rfl) (by kernel_rfl) (fun _ _ _ h => h) (Or.inl ⟨by kernel_rfl, fun w hSw => by go_simp⟩) hB ?_
          try dsimp only
          try simp only [List.getElem_toArray, List.getElem_cons_succ, List.getElem_cons_zero, Act.put, List.setIfInBounds_toArray, List.set_cons_zero, List.set_cons_succ]
          have h := HK3_1234.out _ B1 B2 B3 B4 hB k4
          rw [HF.out, HA.out] at h
          exact h
      have HK2_1234 := Lib.hid K2_1234
      clear K2_1234
      have K2_123 : ∀ (W : World) (B1 B2 B3 : Nat), RowKit.Below w1.heap.size w1 W → Blk W B3 #[.string x.goods, .string allS] 9 → F 8 #[true, true, true, true, true, true, true, true, true, true, true, true, true, true, true, true, false, false, false, true, true, true, true, true, true, true, true, true, true, false, false, false, false, false] (A (.slice (some ⟨B1, 0, none⟩) 2 2) (.string j1) (.string s3) (.slice (some ⟨B2, 0, none⟩) 1 1) (.string j3) (.string s5) (.string s6) (.slice (some ⟨B3, 0, none⟩) 2 2) undef undef undef undef undef undef) W := by
        intro W B1 B2 B3 hW k3
        rw [HF.out, HA.out]
        dsimp only
        refine wpAnyH_ready (rs := [16, 29]) (by kernel_rfl) (by simp) ?_
        refine AllReadyH.cons rfl (fun K hK => ?_) (AllReadyH.cons rfl (fun K hK => ?_) AllReadyH.nil)
        · go_simp
          refine (HO.out W B3 hW k3).mono ?_
          rintro e w3 ⟨rfl, rfl⟩
          have hB := hW
          refine hK.out _ _ hB (fun _ => ?_)
          try dsimp only
          try simp only [List.setIfInBounds_toArray, List.set_cons_zero, List.set_cons_succ]
          refine wpAnyH_take (i := 17) (v := .string s7) rfl (by kernel_rfl) (by kernel_rfl) (by kernel_rfl) (fun _ _ _ h => h) (Or.inl ⟨by kernel_rfl, fun w hSw => by go_simp⟩) hB ?_
          try dsimp only
          try simp only [List.getElem_toArray, List.getElem_cons_succ, List.getElem_cons_zero, Act.put, List.setIfInBounds_toArray, List.set_cons_zero, List.set_cons_succ]
          refine wpAnyH_take (i := 18) (v := .string s8) rfl (by kernel_rfl) (by kernel_rfl) (by kernel_rfl) (fun _ _ _ h => h) (Or.inl ⟨by kernel_rfl, fun w hSw => by go_simp⟩) hB ?_
          try dsimp only
          try simp only [List.getElem_toArray, List.getElem_cons_succ, List.getElem_cons_zero, Act.put, List.setIfInBounds_toArray, List.set_cons_zero, List.set_cons_succ]
          have h := HK3_123.out _ B1 B2 B3 hB 
          rw [HF.out, HA.out] at h
          exact h
        · go_simp
          have k4 := Blk.new W 3 #[.int .i64 x.finder.num, .int .i64 x.finder.den, .int .i64 x.cart, .int .i64 x.store]
          have hz : RowKit.Below W.heap.size W (W.alloc (.cells #[.int .i64 x.finder.num, .int .i64 x.finder.den, .int .i64 x.cart, .int .i64 x.store] 3)) := (Below.refl _ W).alloc (Nat.le_refl _) _
          refine hK.out _ _ (hW.trans (hz.mono hW.size)) (fun _ => ?_)
          have h := HK2_1234.out _ B1 B2 B3 W.heap.size (hW.trans (hz.mono hW.size)) (k3.below' hz) k4
          rw [HF.out, HA.out] at h
          exact h
      have HK2_123 := Lib.hid K2_123
      clear K2_123
      have K2_124 : ∀ (W : World) (B1 B2 B4 : Nat), RowKit.Below w1.heap.size w1 W → Blk W B4 #[.int .i64 x.finder.num, .int .i64 x.finder.den, .int .i64 x.cart, .int .i64 x.store] 3 → F 8 #[true, true, true, true, true, true, true, true, true, true, true, true, true, true, true, false, false, false, false, true, true, true, true, true, true, true, true, true, true, true, false, false, false, false] (A (.slice (some ⟨B1, 0, none⟩) 2 2) (.string j1) (.string s3) (.slice (some ⟨B2, 0, none⟩) 1 1) (.string j3) (.string s5) (.string s6) undef undef undef undef (.slice (some ⟨B4, 0, none⟩) 4 4) undef undef) W := by
        intro W B1 B2 B4 hW k4
        rw [HF.out, HA.out]
        dsimp only
        refine wpAnyH_ready (rs := [15]) (by kernel_rfl) (by simp) ?_
        refine AllReadyH.cons rfl (fun K hK => ?_) AllReadyH.nil
        · go_simp
          have k3 := Blk.new W 9 #[.string x.goods, .string allS]
          have hz : RowKit.Below W.heap.size W (W.alloc (.cells #[.string x.goods, .string allS] 9)) := (Below.refl _ W).alloc (Nat.le_refl _) _
          refine hK.out _ _ (hW.trans (hz.mono hW.size)) (fun _ => ?_)
          have h := HK2_1234.out _ B1 B2 W.heap.size B4 (hW.trans (hz.mono hW.size)) k3 (k4.below' hz)
          rw [HF.out, HA.out] at h
          exact h
      have HK2_124 := Lib.hid K2_124
      clear K2_124
      have K2_12 : ∀ (W : World) (B1 B2 : Nat), RowKit.Below w1.heap.size w1 W → F 9 #[true, true, true, true, true, true, true, true, true, true, true, true, true, true, true, false, false, false, false, true, true, true, true, true, true, true, true, true, true, false, false, false, false, false] (A (.slice (some ⟨B1, 0, none⟩) 2 2) (.string j1) (.string s3) (.slice (some ⟨B2, 0, none⟩) 1 1) (.string j3) (.string s5) (.string s6) undef undef undef undef undef undef undef) W := by
        intro W B1 B2 hW
        rw [HF.out, HA.out]
        dsimp only
        refine wpAnyH_ready (rs := [15, 29]) (by kernel_rfl) (by simp) ?_
        refine AllReadyH.cons rfl (fun K hK => ?_) (AllReadyH.cons rfl (fun K hK => ?_) AllReadyH.nil)
        · go_simp
          have k3 := Blk.new W 9 #[.string x.goods, .string allS]
          have hz : RowKit.Below W.heap.size W (W.alloc (.cells #[.string x.goods, .string allS] 9)) := (Below.refl _ W).alloc (Nat.le_refl _) _
          refine hK.out _ _ (hW.trans (hz.mono hW.size)) (fun _ => ?_)
          have h := HK2_123.out _ B1 B2 W.heap.size (hW.trans (hz.mono hW.size)) k3
          rw [HF.out, HA.out] at h
          exact h
        · go_simp
          have k4 := Blk.new W 3 #[.int .i64 x.finder.num, .int .i64 x.finder.den, .int .i64 x.cart, .int .i64 x.store]
          have hz : RowKit.Below W.heap.size W (W.alloc (.cells #[.int .i64 x.finder.num, .int .i64 x.finder.den, .int .i64 x.cart, .int .i64 x.store] 3)) := (Below.refl _ W).alloc (Nat.le_refl _) _
          refine hK.out _ _ (hW.trans (hz.mono hW.size)) (fun _ => ?_)
          have h := HK2_124.out _ B1 B2 W.heap.size (hW.trans (hz.mono hW.size)) k4
          rw [HF.out, HA.out] at h
          exact h
      have HK2_12 := Lib.hid K2_12
      clear K2_12
      have K1_1234 : ∀ (W : World) (B1 B2 B3 B4 : Nat), RowKit.Below w1.heap.size w1 W → Blk W B2 #[.int .i64 x.from_] 3 → Blk W B3 #[.string x.goods, .string allS] 9 → Blk W B4 #[.int .i64 x.finder.num, .int .i64 x.finder.den, .int .i64 x.cart, .int .i64 x.store] 3 → F 10 #[true, true, true, true, true, true, true, true, true, true, false, false, false, true, true, true, false, false, false, true, true, true, true, true, true, true, true, true, true, true, false, false, false, false] (A (.slice (some ⟨B1, 0, none⟩) 2 2) (.string j1) (.string s3) (.slice (some ⟨B2, 0, none⟩) 1 1) undef undef undef (.slice (some ⟨B3, 0, none⟩) 2 2) undef undef undef (.slice (some ⟨B4, 0, none⟩) 4 4) undef undef) W := by
        intro W B1 B2 B3 B4 hW k2 k3 k4
        rw [HF.out, HA.out]
        dsimp only
        refine wpAnyH_ready (rs := [10]) (by kernel_rfl) (by simp) ?_
        refine AllReadyH.cons rfl (fun K hK => ?_) AllReadyH.nil
        · go_simp
          refine (HJ3.out W B2 hW k2).mono ?_
          rintro e w3 ⟨rfl, hb, hB⟩
          refine hK.out _ _ hB (fun _ => ?_)
          try dsimp only
          try simp only [List.setIfInBounds_toArray, List.set_cons_zero, List.set_cons_succ]
          refine wpAnyH_take (i := 11) (v := .string s5) rfl (by kernel_rfl) (by kernel_rfl) (by kernel_rfl) (fun _ _ _ h => h) (Or.inl ⟨by kernel_rfl, fun w hSw => by go_simp⟩) hB ?_
          try dsimp only
          try simp only [List.getElem_toArray, List.getElem_cons_succ, List.getElem_cons_zero, Act.put, List.setIfInBounds_toArray, List.set_cons_zero, List.set_cons_succ]
          refine wpAnyH_take (i := 12) (v := .string s6) rfl (by kernel_rfl) (by kernel_rfl) (by kernel_rfl) (fun _ _ _ h => h) (Or.inl ⟨by kernel_rfl, fun w hSw => by go_simp⟩) hB ?_
          try dsimp only
          try simp only [List.getElem_toArray, List.getElem_cons_succ, List.getElem_cons_zero, Act.put, List.setIfInBounds_toArray, List.set_cons_zero, List.set_cons_succ]
          have h := HK2_1234.out _ B1 B2 B3 B4 hB (k3.below' hb) (k4.below' hb)
          rw [HF.out, HA.out] at h
          exact h
      have HK1_1234 := Lib.hid K1_1234
      clear K1_1234
      have K1_123 : ∀ (W : World) (B1 B2 B3 : Nat), RowKit.Below w1.heap.size w1 W → Blk W B2 #[.int .i64 x.from_] 3 → Blk W B3 #[.string x.goods, .string allS] 9 → F 11 #[true, true, true, true, true, true, true, true, true, true, false, false, false, true, true, true, false, false, false, true, true, true, true, true, true, true, true, true, true, false, false, false, false, false] (A (.slice (some ⟨B1, 0, none⟩) 2 2) (.string j1) (.string s3) (.slice (some ⟨B2, 0, none⟩) 1 1) undef undef undef (.slice (some ⟨B3, 0, none⟩) 2 2) undef undef undef undef undef undef) W := by
        intro W B1 B2 B3 hW k2 k3
        rw [HF.out, HA.out]
        dsimp only
        refine wpAnyH_ready (rs := [10, 29]) (by kernel_rfl) (by simp) ?_
        refine AllReadyH.cons rfl (fun K hK => ?_) (AllReadyH.cons rfl (fun K hK => ?_) AllReadyH.nil)
        · go_simp
          refine (HJ3.out W B2 hW k2).mono ?_
          rintro e w3 ⟨rfl, hb, hB⟩
          refine hK.out _ _ hB (fun _ => ?_)
          try dsimp only
          try simp only [List.setIfInBounds_toArray, List.set_cons_zero, List.set_cons_succ]
          refine wpAnyH_take (i := 11) (v := .string s5) rfl (by kernel_rfl) (by kernel_rfl) (by kernel_rfl) (fun _ _ _ h => h) (Or.inl ⟨by kernel_rfl, fun w hSw => by go_simp⟩) hB ?_
          try dsimp only
          try simp only [List.getElem_toArray, List.getElem_cons_succ, List.getElem_cons_zero, Act.put, List.setIfInBounds_toArray, List.set_cons_zero, List.set_cons_succ]
          refine wpAnyH_take (i := 12) (v := .string s6) rfl (by kernel_rfl) (by kernel_rfl) (by kernel_rfl) (fun _ _ _ h => h) (Or.inl ⟨by kernel_rfl, fun w hSw => by go_simp⟩) hB ?_
          try dsimp only
          try simp only [List.getElem_toArray, List.getElem_cons_succ, List.getElem_cons_zero, Act.put, List.setIfInBounds_toArray, List.set_cons_zero, List.set_cons_succ]
          have h := HK2_123.out _ B1 B2 B3 hB (k3.below' hb)
          rw [HF.out, HA.out] at h
          exact h
        · go_simp
          have k4 := Blk.new W 3 #[.int .i64 x.finder.num, .int .i64 x.finder.den, .int .i64 x.cart, .int .i64 x.store]
          have hz : RowKit.Below W.heap.size W (W.alloc (.cells #[.int .i64 x.finder.num, .int .i64 x.finder.den, .int .i64 x.cart, .int .i64 x.store] 3)) := (Below.refl _ W).alloc (Nat.le_refl _) _
          refine hK.out _ _ (hW.trans (hz.mono hW.size)) (fun _ => ?_)
          have h := HK1_1234.out _ B1 B2 B3 W.heap.size (hW.trans (hz.mono hW.size)) (k2.below' hz) (k3.below' hz) k4
          rw [HF.out, HA.out] at h
          exact h
      have HK1_123 := Lib.hid K1_123
      clear K1_123
      have K1_124 : ∀ (W : World) (B1 B2 B4 : Nat), RowKit.Below w1.heap.size w1 W → Blk W B2 #[.int .i64 x.from_] 3 → Blk W B4 #[.int .i64 x.finder.num, .int .i64 x.finder.den, .int .i64 x.cart, .int .i64 x.store] 3 → F 11 #[true, true, true, true, true, true, true, true, true, true, false, false, false, true, true, false, false, false, false, true, true, true, true, true, true, true, true, true, true, true, false, false, false, false] (A (.slice (some ⟨B1, 0, none⟩) 2 2) (.string j1) (.string s3) (.slice (some ⟨B2, 0, none⟩) 1 1) undef undef undef undef undef undef undef (.slice (some ⟨B4, 0, none⟩) 4 4) undef undef) W := by
        intro W B1 B2 B4 hW k2 k4
        rw [HF.out, HA.out]
        dsimp only
        refine wpAnyH_ready (rs := [10, 15]) (by kernel_rfl) (by simp) ?_
        refine AllReadyH.cons rfl (fun K hK => ?_) (AllReadyH.cons rfl (fun K hK => ?_) AllReadyH.nil)
        · go_simp
          refine (HJ3.out W B2 hW k2).mono ?_
          rintro e w3 ⟨rfl, hb, hB⟩
          refine hK.out _ _ hB (fun _ => ?_)
          try dsimp only
          try simp only [List.setIfInBounds_toArray, List.set_cons_zero, List.set_cons_succ]
          refine wpAnyH_take (i := 11) (v := .string s5) rfl (by kernel_rfl) (by kernel_rfl) (by kernel_rfl) (fun _ _ _ h => h) (Or.inl ⟨by kernel_rfl, fun w hSw => by go_simp⟩) hB ?_
          try dsimp only
          try simp only [List.getElem_toArray, List.getElem_cons_succ, List.getElem_cons_zero, Act.put, List.setIfInBounds_toArray, List.set_cons_zero, List.set_cons_succ]
          refine wpAnyH_take (i := 12) (v := .string s6) rfl (by kernel_rfl) (by kernel_rfl) (by kernel_rfl) (fun _ _ _ h => h) (Or.inl ⟨by kernel_rfl, fun w hSw => by go_simp⟩) hB ?_
          try dsimp only
          try simp only [List.getElem_toArray, List.getElem_cons_succ, List.getElem_cons_zero, Act.put, List.setIfInBounds_toArray, List.set_cons_zero, List.set_cons_succ]
          have h := HK2_124.out _ B1 B2 B4 hB (k4.below' hb)
          rw [HF.out, HA.out] at h
          exact h
        · go_simp
          have k3 := Blk.new W 9 #[.string x.goods, .string allS]
          have hz : RowKit.Below W.heap.size W (W.alloc (.cells #[.string x.goods, .string allS] 9)) := (Below.refl _ W).alloc (Nat.le_refl _) _
          refine hK.out _ _ (hW.trans (hz.mono hW.size)) (fun _ => ?_)
          have h := HK1_1234.out _ B1 B2 W.heap.size B4 (hW.trans (hz.mono hW.size)) (k2.below' hz) k3 (k4.below' hz)
          rw [HF.out, HA.out] at h
          exact h
      have HK1_124 := Lib.hid K1_124
      clear K1_124
      have K1_134 : ∀ (W : World) (B1 B3 B4 : Nat), RowKit.Below w1.heap.size w1 W → Blk W B3 #[.string x.goods, .string allS] 9 → Blk W B4 #[.int .i64 x.finder.num, .int .i64 x.finder.den, .int .i64 x.cart, .int .i64 x.store] 3 → F 11 #[true, true, true, true, true, true, true, true, true, false, false, false, false, true, true, true, false, false, false, true, true, true, true, true, true, true, true, true, true, true, false, false, false, false] (A (.slice (some ⟨B1, 0, none⟩) 2 2) (.string j1) (.string s3) undef undef undef undef (.slice (some ⟨B3, 0, none⟩) 2 2) undef undef undef (.slice (some ⟨B4, 0, none⟩) 4 4) undef undef) W := by
        intro W B1 B3 B4 hW k3 k4
        rw [HF.out, HA.out]
        dsimp only
        refine wpAnyH_ready (rs := [9]) (by kernel_rfl) (by simp) ?_
        refine AllReadyH.cons rfl (fun K hK => ?_) AllReadyH.nil
        · go_simp
          have k2 := Blk.new W 3 #[.int .i64 x.from_]
          have hz : RowKit.Below W.heap.size W (W.alloc (.cells #[.int .i64 x.from_] 3)) := (Below.refl _ W).alloc (Nat.le_refl _) _
          refine hK.out _ _ (hW.trans (hz.mono hW.size)) (fun _ => ?_)
          have h := HK1_1234.out _ B1 W.heap.size B3 B4 (hW.trans (hz.mono hW.size)) k2 (k3.below' hz) (k4.below' hz)
          rw [HF.out, HA.out] at h
          exact h
      have HK1_134 := Lib.hid K1_134
      clear K1_134
      have K1_12 : ∀ (W : World) (B1 B2 : Nat), RowKit.Below w1.heap.size w1 W → Blk W B2 #[.int .i64 x.from_] 3 → F 12 #[true, true, true, true, true, true, true, true, true, true, false, false, false, true, true, false, false, false, false, true, true, true, true, true, true, true, true, true, true, false, false, false, false, false] (A (.slice (some ⟨B1, 0, none⟩) 2 2) (.string j1) (.string s3) (.slice (some ⟨B2, 0, none⟩) 1 1) undef undef undef undef undef undef undef undef undef undef) W := by
        intro W B1 B2 hW k2
        rw [HF.out, HA.out]
        dsimp only
        refine wpAnyH_ready (rs := [10, 15, 29]) (by kernel_rfl) (by simp) ?_
        refine AllReadyH.cons rfl (fun K hK => ?_) (AllReadyH.cons rfl (fun K hK => ?_) (AllReadyH.cons rfl (fun K hK => ?_) AllReadyH.nil))
        · go_simp
          refine (HJ3.out W B2 hW k2).mono ?_
          rintro e w3 ⟨rfl, hb, hB⟩
          refine hK.out _ _ hB (fun _ => ?_)
          try dsimp only
          try simp only [List.setIfInBounds_toArray, List.set_cons_zero, List.set_cons_succ]
          refine wpAnyH_take (i := 11) (v := .string s5) rfl (by kernel_rfl) (by kernel_rfl) (by kernel_rfl) (fun _ _ _ h => h) (Or.inl ⟨by kernel_rfl, fun w hSw => by go_simp⟩) hB ?_
          try dsimp only
          try simp only [List.getElem_toArray, List.getElem_cons_succ, List.getElem_cons_zero, Act.put, List.setIfInBounds_toArray, List.set_cons_zero, List.set_cons_succ]
          refine wpAnyH_take (i := 12) (v := .string s6) rfl (by kernel_rfl) (by kernel_rfl) (by kernel_rfl) (fun _ _ _ h => h) (Or.inl ⟨by kernel_rfl, fun w hSw => by go_simp⟩) hB ?_
          try dsimp only
          try simp only [List.getElem_toArray, List.getElem_cons_succ, List.getElem_cons_zero, Act.put, List.setIfInBounds_toArray, List.set_cons_zero, List.set_cons_succ]
          have h := HK2_12.out _ B1 B2 hB 
          rw [HF.out, HA.out] at h
          exact h
        · go_simp
          have k3 := Blk.new W 9 #[.string x.goods, .string allS]
          have hz : RowKit.Below W.heap.size W (W.alloc (.cells #[.string x.goods, .string allS] 9)) := (Below.refl _ W).alloc (Nat.le_refl _) _
          refine hK.out _ _ (hW.trans (hz.mono hW.size)) (fun _ => ?_)
          have h := HK1_123.out _ B1 B2 W.heap.size (hW.trans (hz.mono hW.size)) (k2.below' hz) k3
          rw [HF.out, HA.out] at h
          exact h
        · go_simp
          have k4 := Blk.new W 3 #[.int .i64 x.finder.num, .int .i64 x.finder.den, .int .i64 x.cart, .int .i64 x.store]
          have hz : RowKit.Below W.heap.size W (W.alloc (.cells #[.int .i64 x.finder.num, .int .i64 x.finder.den, .int .i64 x.cart, .int .i64 x.store] 3)) := (Below.refl _ W).alloc (Nat.le_refl _) _
          refine hK.out _ _ (hW.trans (hz.mono hW.size)) (fun _ => ?_)
          have h := HK1_124.out _ B1 B2 W.heap.size (hW.trans (hz.mono hW.size)) (k2.below' hz) k4
          rw [HF.out, HA.out] at h
          exact h
      have HK1_12 := Lib.hid K1_12
      clear K1_12
      have K1_13 : ∀ (W : World) (B1 B3 : Nat), RowKit.Below w1.heap.size w1 W → Blk W B3 #[.string x.goods, .string allS] 9 → F 12 #[true, true, true, true, true, true, true, true, true, false, false, false, false, true, true, true, false, false, false, true, true, true, true, true, true, true, true, true, true, false, false, false, false, false] (A (.slice (some ⟨B1, 0, none⟩) 2 2) (.string j1) (.string s3) undef undef undef undef (.slice (some ⟨B3, 0, none⟩) 2 2) undef undef undef undef undef undef) W := by
        intro W B1 B3 hW k3
        rw [HF.out, HA.out]
        dsimp only
        refine wpAnyH_ready (rs := [9, 29]) (by kernel_rfl) (by simp) ?_
        refine AllReadyH.cons rfl (fun K hK => ?_) (AllReadyH.cons rfl (fun K hK => ?_) AllReadyH.nil)
        · go_simp
          have k2 := Blk.new W 3 #[.int .i64 x.from_]
          have hz : RowKit.Below W.heap.size W (W.alloc (.cells #[.int .i64 x.from_] 3)) := (Below.refl _ W).alloc (Nat.le_refl _) _
          refine hK.out _ _ (hW.trans (hz.mono hW.size)) (fun _ => ?_)
          have h := HK1_123.out _ B1 W.heap.size B3 (hW.trans (hz.mono hW.size)) k2 (k3.below' hz)
          rw [HF.out, HA.out] at h
          exact h
        · go_simp
          have k4 := Blk.new W 3 #[.int .i64 x.finder.num, .int .i64 x.finder.den, .int .i64 x.cart, .int .i64 x.store]
          have hz : RowKit.Below W.heap.size W (W.alloc (.cells #[.int .i64 x.finder.num, .int .i64 x.finder.den, .int .i64 x.cart, .int .i64 x.store] 3)) := (Below.refl _ W).alloc (Nat.le_refl _) _
          refine hK.out _ _ (hW.trans (hz.mono hW.size)) (fun _ => ?_)
          have h := HK1_134.out _ B1 B3 W.heap.size (hW.trans (hz.mono hW.size)) (k3.below' hz) k4
          rw [HF.out, HA.out] at h
          exact h
      have HK1_13 := Lib.hid K1_13
      clear K1_13
      have K1_14 : ∀ (W : World) (B1 B4 : Nat), RowKit.Below w1.heap.size w1 W → Blk W B4 #[.int .i64 x.finder.num, .int .i64 x.finder.den, .int .i64 x.cart, .int .i64 x.store] 3 → F 12 #[true, true, true, true, true, true, true, true, true, false, false, false, false, true, true, false, false, false, false, true, true, true, true, true, true, true, true, true, true, true, false, false, false, false] (A (.slice (some ⟨B1, 0, none⟩) 2 2) (.string j1) (.string s3) undef undef undef undef undef undef undef undef (.slice (some ⟨B4, 0, none⟩) 4 4) undef undef) W := by
        intro W B1 B4 hW k4
        rw [HF.out, HA.out]
        dsimp only
        refine wpAnyH_ready (rs := [9, 15]) (by kernel_rfl) (by simp) ?_
        refine AllReadyH.cons rfl (fun K hK => ?_) (AllReadyH.cons rfl (fun K hK => ?_) AllReadyH.nil)
        · go_simp
          have k2 := Blk.new W 3 #[.int .i64 x.from_]
          have hz : RowKit.Below W.heap.size W (W.alloc (.cells #[.int .i64 x.from_] 3)) := (Below.refl _ W).alloc (Nat.le_refl _) _
          refine hK.out _ _ (hW.trans (hz.mono hW.size)) (fun _ => ?_)
          have h := HK1_124.out _ B1 W.heap.size B4 (hW.trans (hz.mono hW.size)) k2 (k4.below' hz)
          rw [HF.out, HA.out] at h
          exact h
        · go_simp
          have k3 := Blk.new W 9 #[.string x.goods, .string allS]
          have hz : RowKit.Below W.heap.size W (W.alloc (.cells #[.string x.goods, .string allS] 9)) := (Below.refl _ W).alloc (Nat.le_refl _) _
          refine hK.out _ _ (hW.trans (hz.mono hW.size)) (fun _ => ?_)
          have h := HK1_134.out _ B1 W.heap.size B4 (hW.trans (hz.mono hW.size)) k3 (k4.below' hz)
          rw [HF.out, HA.out] at h
          exact h
      have HK1_14 := Lib.hid K1_14
      clear K1_14
      have K1_1 : ∀ (W : World) (B1 : Nat), RowKit.Below w1.heap.size w1 W → F 13 #[true, true, true, true, true, true, true, true, true, false, false, false, false, true, true, false, false, false, false, true, true, true, true, true, true, true, true, true, true, false, false, false, false, false] (A (.slice (some ⟨B1, 0, none⟩) 2 2) (.string j1) (.string s3) undef undef undef undef undef undef undef undef undef undef undef) W := by
        intro W B1 hW
        rw [HF.out, HA.out]
        dsimp only
        refine wpAnyH_ready (rs := [9, 15, 29]) (by kernel_rfl) (by simp) ?_
        refine AllReadyH.cons rfl (fun K hK => ?_) (AllReadyH.cons rfl (fun K hK => ?_) (AllReadyH.cons rfl (fun K hK => ?_) AllReadyH.nil))
        · go_simp
          have k2 := Blk.new W 3 #[.int .i64 x.from_]
          have hz : RowKit.Below W.heap.size W (W.alloc (.cells #[.int .i64 x.from_] 3)) := (Below.refl _ W).alloc (Nat.le_refl _) _
          refine hK.out _ _ (hW.trans (hz.mono hW.size)) (fun _ => ?_)
          have h := HK1_12.out _ B1 W.heap.size (hW.trans (hz.mono hW.size)) k2
          rw [HF.out, HA.out] at h
          exact h
        · go_simp
          have k3 := Blk.new W 9 #[.string x.goods, .string allS]
          have hz : RowKit.Below W.heap.size W (W.alloc (.cells #[.string x.goods, .string allS] 9)) := (Below.refl _ W).alloc (Nat.le_refl _) _
          refine hK.out _ _ (hW.trans (hz.mono hW.size)) (fun _ => ?_)
          have h := HK1_13.out _ B1 W.heap.size (hW.trans (hz.mono hW.size)) k3
          rw [HF.out, HA.out] at h
          exact h
        · go_simp
          have k4 := Blk.new W 3 #[.int .i64 x.finder.num, .int .i64 x.finder.den, .int .i64 x.cart, .int .i64 x.store]
          have hz : RowKit.Below W.heap.size W (W.alloc (.cells #[.int .i64 x.finder.num, .int .i64 x.finder.den, .int .i64 x.cart, .int .i64 x.store] 3)) := (Below.refl _ W).alloc (Nat.le_refl _) _
          refine hK.out _ _ (hW.trans (hz.mono hW.size)) (fun _ => ?_)
          have h := HK1_14.out _ B1 W.heap.size (hW.trans (hz.mono hW.size)) k4
          rw [HF.out, HA.out] at h
          exact h
      have HK1_1 := Lib.hid K1_1
      clear K1_1
      have K0_1234 : ∀ (W : World) (B1 B2 B3 B4 : Nat), RowKit.Below w1.heap.size w1 W → Blk W B1 #[.int .i64 x.id, .int .i64 x.known] 3 → Blk W B2 #[.int .i64 x.from_] 3 → Blk W B3 #[.string x.goods, .string allS] 9 → Blk W B4 #[.int .i64 x.finder.num, .int .i64 x.finder.den, .int .i64 x.cart, .int .i64 x.store] 3 → F 12 #[true, true, true, true, true, false, false, true, true, true, false, false, false, true, true, true, false, false, false, true, true, true, true, true, true, true, true, true, true, true, false, false, false, false] (A (.slice (some ⟨B1, 0, none⟩) 2 2) undef undef (.slice (some ⟨B2, 0, none⟩) 1 1) undef undef undef (.slice (some ⟨B3, 0, none⟩) 2 2) undef undef undef (.slice (some ⟨B4, 0, none⟩) 4 4) undef undef) W := by
        intro W B1 B2 B3 B4 hW k1 k2 k3 k4
        rw [HF.out, HA.out]
        dsimp only
        refine wpAnyH_ready (rs := [5]) (by kernel_rfl) (by simp) ?_
        refine AllReadyH.cons rfl (fun K hK => ?_) AllReadyH.nil
        · go_simp
          refine (HJ1.out W B1 hW k1).mono ?_
          rintro e w3 ⟨rfl, hb, hB⟩
          refine hK.out _ _ hB (fun _ => ?_)
          try dsimp only
          try simp only [List.setIfInBounds_toArray, List.set_cons_zero, List.set_cons_succ]
          refine wpAnyH_take (i := 6) (v := .string s3) rfl (by kernel_rfl) (by kernel_rfl) (by kernel_rfl) (fun _ _ _ h => h) (Or.inl ⟨by kernel_rfl, fun w hSw => by go_simp⟩) hB ?_
          try dsimp only
          try simp only [List.getElem_toArray, List.getElem_cons_succ, List.getElem_cons_zero, Act.put, List.setIfInBounds_toArray, List.set_cons_zero, List.set_cons_succ]
          have h := HK1_1234.out _ B1 B2 B3 B4 hB (k2.below' hb) (k3.below' hb) (k4.below' hb)
          rw [HF.out, HA.out] at h
          exact h
      have HK0_1234 := Lib.hid K0_1234
      clear K0_1234
      have K0_123 : ∀ (W : World) (B1 B2 B3 : Nat), RowKit.Below w1.heap.size w1 W → Blk W B1 #[.int .i64 x.id, .int .i64 x.known] 3 → Blk W B2 #[.int .i64 x.from_] 3 → Blk W B3 #[.string x.goods, .string allS] 9 → F 13 #[true, true, true, true, true, false, false, true, true, true, false, false, false, true, true, true, false, false, false, true, true, true, true, true, true, true, true, true, true, false, false, false, false, false] (A (.slice (some ⟨B1, 0, none⟩) 2 2) undef undef (.slice (some ⟨B2, 0, none⟩) 1 1) undef undef undef (.slice (some ⟨B3, 0, none⟩) 2 2) undef undef undef undef undef undef) W := by
        intro W B1 B2 B3 hW k1 k2 k3
        rw [HF.out, HA.out]
        dsimp only
        refine wpAnyH_ready (rs := [5, 29]) (by kernel_rfl) (by simp) ?_
        refine AllReadyH.cons rfl (fun K hK => ?_) (AllReadyH.cons rfl (fun K hK => ?_) AllReadyH.nil)
        · go_simp
          refine (HJ1.out W B1 hW k1).mono ?_
          rintro e w3 ⟨rfl, hb, hB⟩
          refine hK.out _ _ hB (fun _ => ?_)
          try dsimp only
          try simp only [List.setIfInBounds_toArray, List.set_cons_zero, List.set_cons_succ]
          refine wpAnyH_take (i := 6) (v := .string s3) rfl (by kernel_rfl) (by kernel_rfl) (by kernel_rfl) (fun _ _ _ h => h) (Or.inl ⟨by kernel_rfl, fun w hSw => by go_simp⟩) hB ?_
          try dsimp only
          try simp only [List.getElem_toArray, List.getElem_cons_succ, List.getElem_cons_zero, Act.put, List.setIfInBounds_toArray, List.set_cons_zero, List.set_cons_succ]
          have h := HK1_123.out _ B1 B2 B3 hB (k2.below' hb) (k3.below' hb)
          rw [HF.out, HA.out] at h
          exact h
        · go_simp
          have k4 := Blk.new W 3 #[.int .i64 x.finder.num, .int .i64 x.finder.den, .int .i64 x.cart, .int .i64 x.store]
          have hz : RowKit.Below W.heap.size W (W.alloc (.cells #[.int .i64 x.finder.num, .int .i64 x.finder.den, .int .i64 x.cart, .int .i64 x.store] 3)) := (Below.refl _ W).alloc (Nat.le_refl _) _
          refine hK.out _ _ (hW.trans (hz.mono hW.size)) (fun _ => ?_)
          have h := HK0_1234.out _ B1 B2 B3 W.heap.size (hW.trans (hz.mono hW.size)) (k1.below' hz) (k2.below' hz) (k3.below' hz) k4
          rw [HF.out, HA.out] at h
          exact h
      have HK0_123 := Lib.hid K0_123
      clear K0_123
      have K0_124 : ∀ (W : World) (B1 B2 B4 : Nat), RowKit.Below w1.heap.size w1 W → Blk W B1 #[.int .i64 x.id, .int .i64 x.known] 3 → Blk W B2 #[.int .i64 x.from_] 3 → Blk W B4 #[.int .i64 x.finder.num, .int .i64 x.finder.den, .int .i64 x.cart, .int .i64 x.store] 3 → F 13 #[true, true, true, true, true, false, false, true, true, true, false, false, false, true, true, false, false, false, false, true, true, true, true, true, true, true, true, true, true, true, false, false, false, false] (A (.slice (some ⟨B1, 0, none⟩) 2 2) undef undef (.slice (some ⟨B2, 0, none⟩) 1 1) undef undef undef undef undef undef undef (.slice (some ⟨B4, 0, none⟩) 4 4) undef undef) W := by
        intro W B1 B2 B4 hW k1 k2 k4
        rw [HF.out, HA.out]
        dsimp only
        refine wpAnyH_ready (rs := [5, 15]) (by kernel_rfl) (by simp) ?_
        refine AllReadyH.cons rfl (fun K hK => ?_) (AllReadyH.cons rfl (fun K hK => ?_) AllReadyH.nil)
        · go_simp
          refine (HJ1.out W B1 hW k1).mono ?_
          rintro e w3 ⟨rfl, hb, hB⟩
          refine hK.out _ _ hB (fun _ => ?_)
          try dsimp only
          try simp only [List.setIfInBounds_toArray, List.set_cons_zero, List.set_cons_succ]
          refine wpAnyH_take (i := 6) (v := .string s3) rfl (by kernel_rfl) (by kernel_rfl) (by kernel_rfl) (fun _ _ _ h => h) (Or.inl ⟨by kernel_rfl, fun w hSw => by go_simp⟩) hB ?_
          try dsimp only
          try simp only [List.getElem_toArray, List.getElem_cons_succ, List.getElem_cons_zero, Act.put, List.setIfInBounds_toArray, List.set_cons_zero, List.set_cons_succ]
          have h := HK1_124.out _ B1 B2 B4 hB (k2.below' hb) (k4.below' hb)
          rw [HF.out, HA.out] at h
          exact h
        · go_simp
          have k3 := Blk.new W 9 #[.string x.goods, .string allS]
          have hz : RowKit.Below W.heap.size W (W.alloc (.cells #[.string x.goods, .string allS] 9)) := (Below.refl _ W).alloc (Nat.le_refl _) _
          refine hK.out _ _ (hW.trans (hz.mono hW.size)) (fun _ => ?_)
          have h := HK0_1234.out _ B1 B2 W.heap.size B4 (hW.trans (hz.mono hW.size)) (k1.below' hz) (k2.below' hz) k3 (k4.below' hz)
          rw [HF.out, HA.out] at h
          exact h
      have HK0_124 := Lib.hid K0_124
      clear K0_124
      have K0_134 : ∀ (W : World) (B1 B3 B4 : Nat), RowKit.Below w1.heap.size w1 W → Blk W B1 #[.int .i64 x.id, .int .i64 x.known] 3 → Blk W B3 #[.string x.goods, .string allS] 9 → Blk W B4 #[.int .i64 x.finder.num, .int .i64 x.finder.den, .int .i64 x.cart, .int .i64 x.store] 3 → F 13 #[true, true, true, true, true, false, false, true, true, false, false, false, false, true, true, true, false, false, false, true, true, true, true, true, true, true, true, true, true, true, false, false, false, false] (A (.slice (some ⟨B1, 0, none⟩) 2 2) undef undef undef undef undef undef (.slice (some ⟨B3, 0, none⟩) 2 2) undef undef undef (.slice (some ⟨B4, 0, none⟩) 4 4) undef undef) W := by
        intro W B1 B3 B4 hW k1 k3 k4
        rw [HF.out, HA.out]
        dsimp only
        refine wpAnyH_ready (rs := [5, 9]) (by kernel_rfl) (by simp) ?_
        refine AllReadyH.cons rfl (fun K hK => ?_) (AllReadyH.cons rfl (fun K hK => ?_) AllReadyH.nil)
        · go_simp
          refine (HJ1.out W B1 hW k1).mono ?_
          rintro e w3 ⟨rfl, hb, hB⟩
          refine hK.out _ _ hB (fun _ => ?_)
          try dsimp only
          try simp only [List.setIfInBounds_toArray, List.set_cons_zero, List.set_cons_succ]
          refine wpAnyH_take (i := 6) (v := .string s3) rfl (by kernel_rfl) (by kernel_rfl) (by kernel_rfl) (fun _ _ _ h => h) (Or.inl ⟨by kernel_rfl, fun w hSw => by go_simp⟩) hB ?_
          try dsimp only
          try simp only [List.getElem_toArray, List.getElem_cons_succ, List.getElem_cons_zero, Act.put, List.setIfInBounds_toArray, List.set_cons_zero, List.set_cons_succ]
          have h := HK1_134.out _ B1 B3 B4 hB (k3.below' hb) (k4.below' hb)
          rw [HF.out, HA.out] at h
          exact h
        · go_simp
          have k2 := Blk.new W 3 #[.int .i64 x.from_]
          have hz : RowKit.Below W.heap.size W (W.alloc (.cells #[.int .i64 x.from_] 3)) := (Below.refl _ W).alloc (Nat.le_refl _) _
          refine hK.out _ _ (hW.trans (hz.mono hW.size)) (fun _ => ?_)
          have h := HK0_1234.out _ B1 W.heap.size B3 B4 (hW.trans (hz.mono hW.size)) (k1.below' hz) k2 (k3.below' hz) (k4.below' hz)
          rw [HF.out, HA.out] at h
          exact h
      have HK0_134 := Lib.hid K0_134
      clear K0_134
      have K0_234 : ∀ (W : World) (B2 B3 B4 : Nat), RowKit.Below w1.heap.size w1 W → Blk W B2 #[.int .i64 x.from_] 3 → Blk W B3 #[.string x.goods, .string allS] 9 → Blk W B4 #[.int .i64 x.finder.num, .int .i64 x.finder.den, .int .i64 x.cart, .int .i64 x.store] 3 → F 13 #[true, true, true, true, false, false, false, true, true, true, false, false, false, true, true, true, false, false, false, true, true, true, true, true, true, true, true, true, true, true, false, false, false, false] (A undef undef undef (.slice (some ⟨B2, 0, none⟩) 1 1) undef undef undef (.slice (some ⟨B3, 0, none⟩) 2 2) undef undef undef (.slice (some ⟨B4, 0, none⟩) 4 4) undef undef) W := by
        intro W B2 B3 B4 hW k2 k3 k4
        rw [HF.out, HA.out]
        dsimp only
        refine wpAnyH_ready (rs := [4]) (by kernel_rfl) (by simp) ?_
        refine AllReadyH.cons rfl (fun K hK => ?_) AllReadyH.nil
        · go_simp
          have k1 := Blk.new W 3 #[.int .i64 x.id, .int .i64 x.known]
          have hz : RowKit.Below W.heap.size W (W.alloc (.cells #[.int .i64 x.id, .int .i64 x.known] 3)) := (Below.refl _ W).alloc (Nat.le_refl _) _
          refine hK.out _ _ (hW.trans (hz.mono hW.size)) (fun _ => ?_)
          have h := HK0_1234.out _ W.heap.size B2 B3 B4 (hW.trans (hz.mono hW.size)) k1 (k2.below' hz) (k3.below' hz) (k4.below' hz)
          rw [HF.out, HA.out] at h
          exact h
      have HK0_234 := Lib.hid K0_234
      clear K0_234
      have K0_12 : ∀ (W : World) (B1 B2 : Nat), RowKit.Below w1.heap.size w1 W → Blk W B1 #[.int .i64 x.id, .int .i64 x.known] 3 → Blk W B2 #[.int .i64 x.from_] 3 → F 14 #[true, true, true, true, true, false, false, true, true, true, false, false, false, true, true, false, false, false, false, true, true, true, true, true, true, true, true, true, true, false, false, false, false, false] (A (.slice (some ⟨B1, 0, none⟩) 2 2) undef undef (.slice (some ⟨B2, 0, none⟩) 1 1) undef undef undef undef undef undef undef undef undef undef) W := by
        intro W B1 B2 hW k1 k2
        rw [HF.out, HA.out]
        dsimp only
        refine wpAnyH_ready (rs := [5, 15, 29]) (by kernel_rfl) (by simp) ?_
        refine AllReadyH.cons rfl (fun K hK => ?_) (AllReadyH.cons rfl (fun K hK => ?_) (AllReadyH.cons rfl (fun K hK => ?_) AllReadyH.nil))
        · go_simp
          refine (HJ1.out W B1 hW k1).mono ?_
          rintro e w3 ⟨rfl, hb, hB⟩
          refine hK.out _ _ hB (fun _ => ?_)
          try dsimp only
          try simp only [List.setIfInBounds_toArray, List.set_cons_zero, List.set_cons_succ]
          refine wpAnyH_take (i := 6) (v := .string s3) rfl (by kernel_rfl) (by kernel_rfl) (by kernel_rfl) (fun _ _ _ h => h) (Or.inl ⟨by kernel_rfl, fun w hSw => by go_simp⟩) hB ?_
          try dsimp only
          try simp only [List.getElem_toArray, List.getElem_cons_succ, List.getElem_cons_zero, Act.put, List.setIfInBounds_toArray, List.set_cons_zero, List.set_cons_succ]
          have h := HK1_12.out _ B1 B2 hB (k2.below' hb)
          rw [HF.out, HA.out] at h
          exact h
        · go_simp
          have k3 := Blk.new W 9 #[.string x.goods, .string allS]
          have hz : RowKit.Below W.heap.size W (W.alloc (.cells #[.string x.goods, .string allS] 9)) := (Below.refl _ W).alloc (Nat.le_refl _) _
          refine hK.out _ _ (hW.trans (hz.mono hW.size)) (fun _ => ?_)
          have h := HK0_123.out _ B1 B2 W.heap.size (hW.trans (hz.mono hW.size)) (k1.below' hz) (k2.below' hz) k3
          rw [HF.out, HA.out] at h
          exact h
        · go_simp
          have k4 := Blk.new W 3 #[.int .i64 x.finder.num, .int .i64 x.finder.den, .int .i64 x.cart, .int .i64 x.store]
          have hz : RowKit.Below W.heap.size W (W.alloc (.cells #[.int .i64 x.finder.num, .int .i64 x.finder.den, .int .i64 x.cart, .int .i64 x.store] 3)) := (Below.refl _ W).alloc (Nat.le_refl _) _
          refine hK.out _ _ (hW.trans (hz.mono hW.size)) (fun _ => ?_)
          have h := HK0_124.out _ B1 B2 W.heap.size (hW.trans (hz.mono hW.size)) (k1.below' hz) (k2.below' hz) k4
          rw [HF.out, HA.out] at h
          exact h
      have HK0_12 := Lib.hid K0_12
      clear K0_12
      have K0_13 : ∀ (W : World) (B1 B3 : Nat), RowKit.Below w1.heap.size w1 W → Blk W B1 #[.int .i64 x.id, .int .i64 x.known] 3 → Blk W B3 #[.string x.goods, .string allS] 9 → F 14 #[true, true, true, true, true, false, false, true, true, false, false, false, false, true, true, true, false, false, false, true, true, true, true, true, true, true, true, true, true, false, false, false, false, false] (A (.slice (some ⟨B1, 0, none⟩) 2 2) undef undef undef undef undef undef (.slice (some ⟨B3, 0, none⟩) 2 2) undef undef undef undef undef undef) W := by
        intro W B1 B3 hW k1 k3
        rw [HF.out, HA.out]
        dsimp only
        refine wpAnyH_ready (rs := [5, 9, 29]) (by kernel_rfl) (by simp) ?_
        refine AllReadyH.cons rfl (fun K hK => ?_) (AllReadyH.cons rfl (fun K hK => ?_) (AllReadyH.cons rfl (fun K hK => ?_) AllReadyH.nil))
        · go_simp
          refine (HJ1.out W B1 hW k1).mono ?_
          rintro e w3 ⟨rfl, hb, hB⟩
          refine hK.out _ _ hB (fun _ => ?_)
          try dsimp only
          try simp only [List.setIfInBounds_toArray, List.set_cons_zero, List.set_cons_succ]
          refine wpAnyH_take (i := 6) (v := .string s3) rfl (by kernel_rfl) (by kernel_rfl) (by kernel_rfl) (fun _ _ _ h => h) (Or.inl ⟨by kernel_rfl, fun w hSw => by go_simp⟩) hB ?_
          try dsimp only
          try simp only [List.getElem_toArray, List.getElem_cons_succ, List.getElem_cons_zero, Act.put, List.setIfInBounds_toArray, List.set_cons_zero, List.set_cons_succ]
          have h := HK1_13.out _ B1 B3 hB (k3.below' hb)
          rw [HF.out, HA.out] at h
          exact h
        · go_simp
          have k2 := Blk.new W 3 #[.int .i64 x.from_]
          have hz : RowKit.Below W.heap.size W (W.alloc (.cells #[.int .i64 x.from_] 3)) := (Below.refl _ W).alloc (Nat.le_refl _) _
          refine hK.out _ _ (hW.trans (hz.mono hW.size)) (fun _ => ?_)
          have h := HK0_123.out _ B1 W.heap.size B3 (hW.trans (hz.mono hW.size)) (k1.below' hz) k2 (k3.below' hz)
          rw [HF.out, HA.out] at h
          exact h
        · go_simp
          have k4 := Blk.new W 3 #[.int .i64 x.finder.num, .int .i64 x.finder.den, .int .i64 x.cart, .int .i64 x.store]
          have hz : RowKit.Below W.heap.size W (W.alloc (.cells #[.int .i64 x.finder.num, .int .i64 x.finder.den, .int .i64 x.cart, .int .i64 x.store] 3)) := (Below.refl _ W).alloc (Nat.le_refl _) _
          refine hK.out _ _ (hW.trans (hz.mono hW.size)) (fun _ => ?_)
          have h := HK0_134.out _ B1 B3 W.heap.size (hW.trans (hz.mono hW.size)) (k1.below' hz) (k3.below' hz) k4
          rw [HF.out, HA.out] at h
          exact h
      have HK0_13 := Lib.hid K0_13
      clear K0_13
      have K0_14 : ∀ (W : World) (B1 B4 : Nat), RowKit.Below w1.heap.size w1 W → Blk W B1 #[.int .i64 x.id, .int .i64 x.known] 3 → Blk W B4 #[.int .i64 x.finder.num, .int .i64 x.finder.den, .int .i64 x.cart, .int .i64 x.store] 3 → F 14 #[true, true, true, true, true, false, false, true, true, false, false, false, false, true, true, false, false, false, false, true, true, true, true, true, true, true, true, true, true, true, false, false, false, false] (A (.slice (some ⟨B1, 0, none⟩) 2 2) undef undef undef undef undef undef undef undef undef undef (.slice (some ⟨B4, 0, none⟩) 4 4) undef undef) W := by
        intro W B1 B4 hW k1 k4
        rw [HF.out, HA.out]
        dsimp only
        refine wpAnyH_ready (rs := [5, 9, 15]) (by kernel_rfl) (by simp) ?_
        refine AllReadyH.cons rfl (fun K hK => ?_) (AllReadyH.cons rfl (fun K hK => ?_) (AllReadyH.cons rfl (fun K hK => ?_) AllReadyH.nil))
        · go_simp
          refine (HJ1.out W B1 hW k1).mono ?_
          rintro e w3 ⟨rfl, hb, hB⟩
          refine hK.out _ _ hB (fun _ => ?_)
          try dsimp only
          try simp only [List.setIfInBounds_toArray, List.set_cons_zero, List.set_cons_succ]
          refine wpAnyH_take (i := 6) (v := .string s3) rfl (by kernel_rfl) (by kernel_rfl) (by kernel_rfl) (fun _ _ _ h => h) (Or.inl ⟨by kernel_rfl, fun w hSw => by go_simp⟩) hB ?_
          try dsimp only
          try simp only [List.getElem_toArray, List.getElem_cons_succ, List.getElem_cons_zero, Act.put, List.setIfInBounds_toArray, List.set_cons_zero, List.set_cons_succ]
          have h := HK1_14.out _ B1 B4 hB (k4.below' hb)
          rw [HF.out, HA.out] at h
          exact h
        · go_simp
          have k2 := Blk.new W 3 #[.int .i64 x.from_]
          have hz : RowKit.Below W.heap.size W (W.alloc (.cells #[.int .i64 x.from_] 3)) := (Below.refl _ W).alloc (Nat.le_refl _) _
          refine hK.out _ _ (hW.trans (hz.mono hW.size)) (fun _ => ?_)
          have h := HK0_124.out _ B1 W.heap.size B4 (hW.trans (hz.mono hW.size)) (k1.below' hz) k2 (k4.below' hz)
          rw [HF.out, HA.out] at h
          exact h
        · go_simp
          have k3 := Blk.new W 9 #[.string x.goods, .string allS]
          have hz : RowKit.Below W.heap.size W (W.alloc (.cells #[.string x.goods, .string allS] 9)) := (Below.refl _ W).alloc (Nat.le_refl _) _
          refine hK.out _ _ (hW.trans (hz.mono hW.size)) (fun _ => ?_)
          have h := HK0_134.out _ B1 W.heap.size B4 (hW.trans (hz.mono hW.size)) (k1.below' hz) k3 (k4.below' hz)
          rw [HF.out, HA.out] at h
          exact h
      have HK0_14 := Lib.hid K0_14
      clear K0_14
      have K0_23 : ∀ (W : World) (B2 B3 : Nat), RowKit.Below w1.heap.size w1 W → Blk W B2 #[.int .i64 x.from_] 3 → Blk W B3 #[.string x.goods, .string allS] 9 → F 14 #[true, true, true, true, false, false, false, true, true, true, false, false, false, true, true, true, false, false, false, true, true, true, true, true, true, true, true, true, true, false, false, false, false, false] (A undef undef undef (.slice (some ⟨B2, 0, none⟩) 1 1) undef undef undef (.slice (some ⟨B3, 0, none⟩) 2 2) undef undef undef undef undef undef) W := by
        intro W B2 B3 hW k2 k3
        rw [HF.out, HA.out]
        dsimp only
        refine wpAnyH_ready (rs := [4, 29]) (by kernel_rfl) (by simp) ?_
        refine AllReadyH.cons rfl (fun K hK => ?_) (AllReadyH.cons rfl (fun K hK => ?_) AllReadyH.nil)
        · go_simp
          have k1 := Blk.new W 3 #[.int .i64 x.id, .int .i64 x.known]
          have hz : RowKit.Below W.heap.size W (W.alloc (.cells #[.int .i64 x.id, .int .i64 x.known] 3)) := (Below.refl _ W).alloc (Nat.le_refl _) _
          refine hK.out _ _ (hW.trans (hz.mono hW.size)) (fun _ => ?_)
          have h := HK0_123.out _ W.heap.size B2 B3 (hW.trans (hz.mono hW.size)) k1 (k2.below' hz) (k3.below' hz)
          rw [HF.out, HA.out] at h
          exact h
        · go_simp
          have k4 := Blk.new W 3 #[.int .i64 x.finder.num, .int .i64 x.finder.den, .int .i64 x.cart, .int .i64 x.store]
          have hz : RowKit.Below W.heap.size W (W.alloc (.cells #[.int .i64 x.finder.num, .int .i64 x.finder.den, .int .i64 x.cart, .int .i64 x.store] 3)) := (Below.refl _ W).alloc (Nat.le_refl _) _
          refine hK.out _ _ (hW.trans (hz.mono hW.size)) (fun _ => ?_)
          have h := HK0_234.out _ B2 B3 W.heap.size (hW.trans (hz.mono hW.size)) (k2.below' hz) (k3.below' hz) k4
          rw [HF.out, HA.out] at h
          exact h
      have HK0_23 := Lib.hid K0_23
      clear K0_23
      have K0_24 : ∀ (W : World) (B2 B4 : Nat), RowKit.Below w1.heap.size w1 W → Blk W B2 #[.int .i64 x.from_] 3 → Blk W B4 #[.int .i64 x.finder.num, .int .i64 x.finder.den, .int .i64 x.cart, .int .i64 x.store] 3 → F 14 #[true, true, true, true, false, false, false, true, true, true, false, false, false, true, true, false, false, false, false, true, true, true, true, true, true, true, true, true, true, true, false, false, false, false] (A undef undef undef (.slice (some ⟨B2, 0, none⟩) 1 1) undef undef undef undef undef undef undef (.slice (some ⟨B4, 0, none⟩) 4 4) undef undef) W := by
        intro W B2 B4 hW k2 k4
        rw [HF.out, HA.out]
        dsimp only
        refine wpAnyH_ready (rs := [4, 15]) (by kernel_rfl) (by simp) ?_
        refine AllReadyH.cons rfl (fun K hK => ?_) (AllReadyH.cons rfl (fun K hK => ?_) AllReadyH.nil)
        · go_simp
          have k1 := Blk.new W 3 #[.int .i64 x.id, .int .i64 x.known]
          have hz : RowKit.Below W.heap.size W (W.alloc (.cells #[.int .i64 x.id, .int .i64 x.known] 3)) := (Below.refl _ W).alloc (Nat.le_refl _) _
          refine hK.out _ _ (hW.trans (hz.mono hW.size)) (fun _ => ?_)
          have h := HK0_124.out _ W.heap.size B2 B4 (hW.trans (hz.mono hW.size)) k1 (k2.below' hz) (k4.below' hz)
          rw [HF.out, HA.out] at h
          exact h
        · go_simp
          have k3 := Blk.new W 9 #[.string x.goods, .string allS]
          have hz : RowKit.Below W.heap.size W (W.alloc (.cells #[.string x.goods, .string allS] 9)) := (Below.refl _ W).alloc (Nat.le_refl _) _
          refine hK.out _ _ (hW.trans (hz.mono hW.size)) (fun _ => ?_)
          have h := HK0_234.out _ B2 W.heap.size B4 (hW.trans (hz.mono hW.size)) (k2.below' hz) k3 (k4.below' hz)
          rw [HF.out, HA.out] at h
          exact h
      have HK0_24 := Lib.hid K0_24
      clear K0_24
      have K0_34 : ∀ (W : World) (B3 B4 : Nat), RowKit.Below w1.heap.size w1 W → Blk W B3 #[.string x.goods, .string allS] 9 → Blk W B4 #[.int .i64 x.finder.num, .int .i64 x.finder.den, .int .i64 x.cart, .int .i64 x.store] 3 → F 14 #[true, true, true, true, false, false, false, true, true, false, false, false, false, true, true, true, false, false, false, true, true, true, true, true, true, true, true, true, true, true, false, false, false, false] (A undef undef undef undef undef undef undef (.slice (some ⟨B3, 0, none⟩) 2 2) undef undef undef (.slice (some ⟨B4, 0, none⟩) 4 4) undef undef) W := by
        intro W B3 B4 hW k3 k4
        rw [HF.out, HA.out]
        dsimp only
        refine wpAnyH_ready (rs := [4, 9]) (by kernel_rfl) (by simp) ?_
        refine AllReadyH.cons rfl (fun K hK => ?_) (AllReadyH.cons rfl (fun K hK => ?_) AllReadyH.nil)
        · go_simp
          have k1 := Blk.new W 3 #[.int .i64 x.id, .int .i64 x.known]
          have hz : RowKit.Below W.heap.size W (W.alloc (.cells #[.int .i64 x.id, .int .i64 x.known] 3)) := (Below.refl _ W).alloc (Nat.le_refl _) _
          refine hK.out _ _ (hW.trans (hz.mono hW.size)) (fun _ => ?_)
          have h := HK0_134.out _ W.heap.size B3 B4 (hW.trans (hz.mono hW.size)) k1 (k3.below' hz) (k4.below' hz)
          rw [HF.out, HA.out] at h
          exact h
        · go_simp
          have k2 := Blk.new W 3 #[.int .i64 x.from_]
          have hz : RowKit.Below W.heap.size W (W.alloc (.cells #[.int .i64 x.from_] 3)) := (Below.refl _ W).alloc (Nat.le_refl _) _
          refine hK.out _ _ (hW.trans (hz.mono hW.size)) (fun _ => ?_)
          have h := HK0_234.out _ W.heap.size B3 B4 (hW.trans (hz.mono hW.size)) k2 (k3.below' hz) (k4.below' hz)
          rw [HF.out, HA.out] at h
          exact h
      have HK0_34 := Lib.hid K0_34
      clear K0_34
      have K0_1 : ∀ (W : World) (B1 : Nat), RowKit.Below w1.heap.size w1 W → Blk W B1 #[.int .i64 x.id, .int .i64 x.known] 3 → F 15 #[true, true, true, true, true, false, false, true, true, false, false, false, false, true, true, false, false, false, false, true, true, true, true, true, true, true, true, true, true, false, false, false, false, false] (A (.slice (some ⟨B1, 0, none⟩) 2 2) undef undef undef undef undef undef undef undef undef undef undef undef undef) W := by
        intro W B1 hW k1
        rw [HF.out, HA.out]
        dsimp only
        refine wpAnyH_ready (rs := [5, 9, 15, 29]) (by kernel_rfl) (by simp) ?_
        refine AllReadyH.cons rfl (fun K hK => ?_) (AllReadyH.cons rfl (fun K hK => ?_) (AllReadyH.cons rfl (fun K hK => ?_) (AllReadyH.cons rfl (fun K hK => ?_) AllReadyH.nil)))
        · go_simp
          refine (HJ1.out W B1 hW k1).mono ?_
          rintro e w3 ⟨rfl, hb, hB⟩
          refine hK.out _ _ hB (fun _ => ?_)
          try dsimp only
          try simp only [List.setIfInBounds_toArray, List.set_cons_zero, List.set_cons_succ]
          refine wpAnyH_take (i := 6) (v := .string s3) rfl (by kernel_rfl) (by kernel_rfl) (by kernel_rfl) (fun _ _ _ h => h) (Or.inl ⟨by kernel_rfl, fun w hSw => by go_simp⟩) hB ?_
          try dsimp only
          try simp only [List.getElem_toArray, List.getElem_cons_succ, List.getElem_cons_zero, Act.put, List.setIfInBounds_toArray, List.set_cons_zero, List.set_cons_succ]
          have h := HK1_1.out _ B1 hB 
          rw [HF.out, HA.out] at h
          exact h
        · go_simp
          have k2 := Blk.new W 3 #[.int .i64 x.from_]
          have hz : RowKit.Below W.heap.size W (W.alloc (.cells #[.int .i64 x.from_] 3)) := (Below.refl _ W).alloc (Nat.le_refl _) _
          refine hK.out _ _ (hW.trans (hz.mono hW.size)) (fun _ => ?_)
          have h := HK0_12.out _ B1 W.heap.size (hW.trans (hz.mono hW.size)) (k1.below' hz) k2
          rw [HF.out, HA.out] at h
          exact h
        · go_simp
          have k3 := Blk.new W 9 #[.string x.goods, .string allS]
          have hz : RowKit.Below W.heap.size W (W.alloc (.cells #[.string x.goods, .string allS] 9)) := (Below.refl _ W).alloc (Nat.le_refl _) _
          refine hK.out _ _ (hW.trans (hz.mono hW.size)) (fun _ => ?_)
          have h := HK0_13.out _ B1 W.heap.size (hW.trans (hz.mono hW.size)) (k1.below' hz) k3
          rw [HF.out, HA.out] at h
          exact h
        · go_simp
          have k4 := Blk.new W 3 #[.int .i64 x.finder.num, .int .i64 x.finder.den, .int .i64 x.cart, .int .i64 x.store]
          have hz : RowKit.Below W.heap.size W (W.alloc (.cells #[.int .i64 x.finder.num, .int .i64 x.finder.den, .int .i64 x.cart, .int .i64 x.store] 3)) := (Below.refl _ W).alloc (Nat.le_refl _) _
          refine hK.out _ _ (hW.trans (hz.mono hW.size)) (fun _ => ?_)
          have h := HK0_14.out _ B1 W.heap.size (hW.trans (hz.mono hW.size)) (k1.below' hz) k4
          rw [HF.out, HA.out] at h
          exact h
      have HK0_1 := Lib.hid K0_1
      clear K0_1
      have K0_2 : ∀ (W : World) (B2 : Nat), RowKit.Below w1.heap.size w1 W → Blk W B2 #[.int .i64 x.from_] 3 → F 15 #[true, true, true, true, false, false, false, true, true, true, false, false, false, true, true, false, false, false, false, true, true, true, true, true, true, true, true, true, true, false, false, false, false, false] (A undef undef undef (.slice (some ⟨B2, 0, none⟩) 1 1) undef undef undef undef undef undef undef undef undef undef) W := by
        intro W B2 hW k2
        rw [HF.out, HA.out]
        dsimp only
        refine wpAnyH_ready (rs := [4, 15, 29]) (by kernel_rfl) (by simp) ?_
        refine AllReadyH.cons rfl (fun K hK => ?_) (AllReadyH.cons rfl (fun K hK => ?_) (AllReadyH.cons rfl (fun K hK => ?_) AllReadyH.nil))
        · go_simp
          have k1 := Blk.new W 3 #[.int .i64 x.id, .int .i64 x.known]
          have hz : RowKit.Below W.heap.size W (W.alloc (.cells #[.int .i64 x.id, .int .i64 x.known] 3)) := (Below.refl _ W).alloc (Nat.le_refl _) _
          refine hK.out _ _ (hW.trans (hz.mono hW.size)) (fun _ => ?_)
          have h := HK0_12.out _ W.heap.size B2 (hW.trans (hz.mono hW.size)) k1 (k2.below' hz)
          rw [HF.out, HA.out] at h
          exact h
        · go_simp
          have k3 := Blk.new W 9 #[.string x.goods, .string allS]
          have hz : RowKit.Below W.heap.size W (W.alloc (.cells #[.string x.goods, .string allS] 9)) := (Below.refl _ W).alloc (Nat.le_refl _) _
          refine hK.out _ _ (hW.trans (hz.mono hW.size)) (fun _ => ?_)
          have h := HK0_23.out _ B2 W.heap.size (hW.trans (hz.mono hW.size)) (k2.below' hz) k3
          rw [HF.out, HA.out] at h
          exact h
        · go_simp
          have k4 := Blk.new W 3 #[.int .i64 x.finder.num, .int .i64 x.finder.den, .int .i64 x.cart, .int .i64 x.store]
          have hz : RowKit.Below W.heap.size W (W.alloc (.cells #[.int .i64 x.finder.num, .int .i64 x.finder.den, .int .i64 x.cart, .int .i64 x.store] 3)) := (Below.refl _ W).alloc (Nat.le_refl _) _
          refine hK.out _ _ (hW.trans (hz.mono hW.size)) (fun _ => ?_)
          have h := HK0_24.out _ B2 W.heap.size (hW.trans (hz.mono hW.size)) (k2.below' hz) k4
          rw [HF.out, HA.out] at h
          exact h
      have HK0_2 := Lib.hid K0_2
      clear K0_2
      have K0_3 : ∀ (W : World) (B3 : Nat), RowKit.Below w1.heap.size w1 W → Blk W B3 #[.string x.goods, .string allS] 9 → F 15 #[true, true, true, true, false, false, false, true, true, false, false, false, false, true, true, true, false, false, false, true, true, true, true, true, true, true, true, true, true, false, false, false, false, false] (A undef undef undef undef undef undef undef (.slice (some ⟨B3, 0, none⟩) 2 2) undef undef undef undef undef undef) W := by
        intro W B3 hW k3
        rw [HF.out, HA.out]
        dsimp only
        refine wpAnyH_ready (rs := [4, 9, 29]) (by kernel_rfl) (by simp) ?_
        refine AllReadyH.cons rfl (fun K hK => ?_) (AllReadyH.cons rfl (fun K hK => ?_) (AllReadyH.cons rfl (fun K hK => ?_) AllReadyH.nil))
        · go_simp
          have k1 := Blk.new W 3 #[.int .i64 x.id, .int .i64 x.known]
          have hz : RowKit.Below W.heap.size W (W.alloc (.cells #[.int .i64 x.id, .int .i64 x.known] 3)) := (Below.refl _ W).alloc (Nat.le_refl _) _
          refine hK.out _ _ (hW.trans (hz.mono hW.size)) (fun _ => ?_)
          have h := HK0_13.out _ W.heap.size B3 (hW.trans (hz.mono hW.size)) k1 (k3.below' hz)
          rw [HF.out, HA.out] at h
          exact h
        · go_simp
          have k2 := Blk.new W 3 #[.int .i64 x.from_]
          have hz : RowKit.Below W.heap.size W (W.alloc (.cells #[.int .i64 x.from_] 3)) := (Below.refl _ W).alloc (Nat.le_refl _) _
          refine hK.out _ _ (hW.trans (hz.mono hW.size)) (fun _ => ?_)
          have h := HK0_23.out _ W.heap.size B3 (hW.trans (hz.mono hW.size)) k2 (k3.below' hz)
          rw [HF.out, HA.out] at h
          exact h
        · go_simp
          have k4 := Blk.new W 3 #[.int .i64 x.finder.num, .int .i64 x.finder.den, .int .i64 x.cart, .int .i64 x.store]
          have hz : RowKit.Below W.heap.size W (W.alloc (.cells #[.int .i64 x.finder.num, .int .i64 x.finder.den, .int .i64 x.cart, .int .i64 x.store] 3)) := (Below.refl _ W).alloc (Nat.le_refl _) _
          refine hK.out _ _ (hW.trans (hz.mono hW.size)) (fun _ => ?_)
          have h := HK0_34.out _ B3 W.heap.size (hW.trans (hz.mono hW.size)) (k3.below' hz) k4
          rw [HF.out, HA.out] at h
          exact h
      have HK0_3 := Lib.hid K0_3
      clear K0_3
      have K0_4 : ∀ (W : World) (B4 : Nat), RowKit.Below w1.heap.size w1 W → Blk W B4 #[.int .i64 x.finder.num, .int .i64 x.finder.den, .int .i64 x.cart, .int .i64 x.store] 3 → F 15 #[true, true, true, true, false, false, false, true, true, false, false, false, false, true, true, false, false, false, false, true, true, true, true, true, true, true, true, true, true, true, false, false, false, false] (A undef undef undef undef undef undef undef undef undef undef undef (.slice (some ⟨B4, 0, none⟩) 4 4) undef undef) W := by
        intro W B4 hW k4
        rw [HF.out, HA.out]
        dsimp only
        refine wpAnyH_ready (rs := [4, 9, 15]) (by kernel_rfl) (by simp) ?_
        refine AllReadyH.cons rfl (fun K hK => ?_) (AllReadyH.cons rfl (fun K hK => ?_) (AllReadyH.cons rfl (fun K hK => ?_) AllReadyH.nil))
        · go_simp
          have k1 := Blk.new W 3 #[.int .i64 x.id, .int .i64 x.known]
          have hz : RowKit.Below W.heap.size W (W.alloc (.cells #[.int .i64 x.id, .int .i64 x.known] 3)) := (Below.refl _ W).alloc (Nat.le_refl _) _
          refine hK.out _ _ (hW.trans (hz.mono hW.size)) (fun _ => ?_)
          have h := HK0_14.out _ W.heap.size B4 (hW.trans (hz.mono hW.size)) k1 (k4.below' hz)
          rw [HF.out, HA.out] at h
          exact h
        · go_simp
          have k2 := Blk.new W 3 #[.int .i64 x.from_]
          have hz : RowKit.Below W.heap.size W (W.alloc (.cells #[.int .i64 x.from_] 3)) := (Below.refl _ W).alloc (Nat.le_refl _) _
          refine hK.out _ _ (hW.trans (hz.mono hW.size)) (fun _ => ?_)
          have h := HK0_24.out _ W.heap.size B4 (hW.trans (hz.mono hW.size)) k2 (k4.below' hz)
          rw [HF.out, HA.out] at h
          exact h
        · go_simp
          have k3 := Blk.new W 9 #[.string x.goods, .string allS]
          have hz : RowKit.Below W.heap.size W (W.alloc (.cells #[.string x.goods, .string allS] 9)) := (Below.refl _ W).alloc (Nat.le_refl _) _
          refine hK.out _ _ (hW.trans (hz.mono hW.size)) (fun _ => ?_)
          have h := HK0_34.out _ W.heap.size B4 (hW.trans (hz.mono hW.size)) k3 (k4.below' hz)
          rw [HF.out, HA.out] at h
          exact h
      have HK0_4 := Lib.hid K0_4
      clear K0_4
      have K0_ : ∀ (W : World), RowKit.Below w1.heap.size w1 W → F 16 #[true, true, true, true, false, false, false, true, true, false, false, false, false, true, true, false, false, false, false, true, true, true, true, true, true, true, true, true, true, false, false, false, false, false] (A undef undef undef undef undef undef undef undef undef undef undef undef undef undef) W := by
        intro W hW
        rw [HF.out, HA.out]
        dsimp only
        refine wpAnyH_ready (rs := [4, 9, 15, 29]) (by kernel_rfl) (by simp) ?_
        refine AllReadyH.cons rfl (fun K hK => ?_) (AllReadyH.cons rfl (fun K hK => ?_) (AllReadyH.cons rfl (fun K hK => ?_) (AllReadyH.cons rfl (fun K hK => ?_) AllReadyH.nil)))
        · go_simp
          have k1 := Blk.new W 3 #[.int .i64 x.id, .int .i64 x.known]
          have hz : RowKit.Below W.heap.size W (W.alloc (.cells #[.int .i64 x.id, .int .i64 x.known] 3)) := (Below.refl _ W).alloc (Nat.le_refl _) _
          refine hK.out _ _ (hW.trans (hz.mono hW.size)) (fun _ => ?_)
          have h := HK0_1.out _ W.heap.size (hW.trans (hz.mono hW.size)) k1
          rw [HF.out, HA.out] at h
          exact h
        · go_simp
          have k2 := Blk.new W 3 #[.int .i64 x.from_]
          have hz : RowKit.Below W.heap.size W (W.alloc (.cells #[.int .i64 x.from_] 3)) := (Below.refl _ W).alloc (Nat.le_refl _) _
          refine hK.out _ _ (hW.trans (hz.mono hW.size)) (fun _ => ?_)
          have h := HK0_2.out _ W.heap.size (hW.trans (hz.mono hW.size)) k2
          rw [HF.out, HA.out] at h
          exact h
        · go_simp
          have k3 := Blk.new W 9 #[.string x.goods, .string allS]
          have hz : RowKit.Below W.heap.size W (W.alloc (.cells #[.string x.goods, .string allS] 9)) := (Below.refl _ W).alloc (Nat.le_refl _) _
          refine hK.out _ _ (hW.trans (hz.mono hW.size)) (fun _ => ?_)
          have h := HK0_3.out _ W.heap.size (hW.trans (hz.mono hW.size)) k3
          rw [HF.out, HA.out] at h
          exact h
        · go_simp
          have k4 := Blk.new W 3 #[.int .i64 x.finder.num, .int .i64 x.finder.den, .int .i64 x.cart, .int .i64 x.store]
          have hz : RowKit.Below W.heap.size W (W.alloc (.cells #[.int .i64 x.finder.num, .int .i64 x.finder.den, .int .i64 x.cart, .int .i64 x.store] 3)) := (Below.refl _ W).alloc (Nat.le_refl _) _
          refine hK.out _ _ (hW.trans (hz.mono hW.size)) (fun _ => ?_)
          have h := HK0_4.out _ W.heap.size (hW.trans (hz.mono hW.size)) k4
          rw [HF.out, HA.out] at h
          exact h
      have HK0_ := Lib.hid K0_
      clear K0_
      have h := HK0_.out _ hS
      rw [HA.out] at h
      exact h
    · have hz : (0 : Int) < x.of_ := by omega
      have A2 := A2 h0
      have H0 := Lib.hid h0
      clear h0 A3 A4 A5 A6 A7 A8 HJ3 HJ4 HO a3 b3
      have HS : ∀ W, RowKit.Below w1.heap.size w1 W → W.cell? ⟨bx, 0, none⟩ = some (.int .i64 x.id) ∧ W.cell? ⟨bx, 1, none⟩ = some (.int .i64 x.known) ∧ W.cell? ⟨bx, 8, none⟩ = some (.int .i64 x.of_) := fun W h => ⟨HC.out W h 0, HC.out W h 1, HC.out W h 8⟩
      have HS := Lib.hid HS
      clear HC
      go_upto_region 5 with fail
      clear c8
      go_region_held3 (fun w' => w'.cell? ⟨bx, 0, none⟩ = some (.int .i64 x.id) ∧ w'.cell? ⟨bx, 1, none⟩ = some (.int .i64 x.known) ∧ w'.cell? ⟨bx, 8, none⟩ = some (.int .i64 x.of_))
        (((with_reducible refine HS.out _ ?_); repeat (first | (with_reducible assumption) | (with_reducible exact Below.refl _ _) | (with_reducible refine Below.alloc ?_ ?_ _) | (with_reducible refine Below.setCell ?_ ?_ _) | (with_reducible refine Below.drew ?_) | omega | (simp <;> omega) | (dsimp only; omega))))
        (first
          | (go_at_call 47; (with_reducible refine (HJ1.out _ _ (by repeat (first | (with_reducible assumption) | (with_reducible exact Below.refl _ _) | (with_reducible refine Below.alloc ?_ ?_ _) | (with_reducible refine Below.setCell ?_ ?_ _) | (with_reducible refine Below.drew ?_) | omega | (simp <;> omega) | (dsimp only; omega))) (by repeat (first | (with_reducible assumption) | (with_reducible exact Blk.new _ _ _) | (with_reducible exact Blk.new1 _ _ _ _) | (with_reducible exact Blk.new2 _ _ _ _ _) | (with_reducible exact Blk.new3 _ _ _ _ _ _) | (with_reducible refine Blk.alloc ?_ _) | (with_reducible refine Blk.drew ?_) | (with_reducible refine Blk.below' ?_ hBd) | (with_reducible refine Blk.below' ?_ hBa) | (with_reducible refine Blk.below' ?_ hBb)))).mono ?_); rintro e w3 ⟨rfl, hBa, hba⟩; have hsa := hba.size)
          | (go_at_call 47; (with_reducible refine (HJ2.out _ _ (by repeat (first | (with_reducible assumption) | (with_reducible exact Below.refl _ _) | (with_reducible refine Below.alloc ?_ ?_ _) | (with_reducible refine Below.setCell ?_ ?_ _) | (with_reducible refine Below.drew ?_) | omega | (simp <;> omega) | (dsimp only; omega))) (by repeat (first | (with_reducible assumption) | (with_reducible exact Blk.new _ _ _) | (with_reducible exact Blk.new1 _ _ _ _) | (with_reducible exact Blk.new2 _ _ _ _ _) | (with_reducible exact Blk.new3 _ _ _ _ _ _) | (with_reducible refine Blk.alloc ?_ _) | (with_reducible refine Blk.drew ?_) | (with_reducible refine Blk.below' ?_ hBd) | (with_reducible refine Blk.below' ?_ hBa) | (with_reducible refine Blk.below' ?_ hBb)))).mono ?_); rintro e w4 ⟨rfl, hBb, hbb⟩; have hsb := hbb.size)
          | fail)
      all_goals
        go_wp2_with fail
        go_ret2
        exact ⟨rfl, hB1.trans (RowKit.Below.mono (by repeat (first | (with_reducible assumption) | (with_reducible exact Below.refl _ _) | (with_reducible refine Below.alloc ?_ ?_ _) | (with_reducible refine Below.setCell ?_ ?_ _) | (with_reducible refine Below.drew ?_) | omega | (simp <;> omega) | (dsimp only; omega))) hB1.size)⟩

end Go.Proofs.YtkeppoiomjhkpaaGreatDoor
