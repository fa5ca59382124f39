import Derived.Test.YtmeomhojbobpbaaGreatDoorPart42
import Derived.Test.YtmeomhojbobpbaaGreatDoorPart44
import Derived.Test.YtmeomhojbobpbaaGreatDoorPart47
import Derived.Test.YtmeomhojbobpbaaGreatDoorPart46
import Derived.Test.YtmeomhojbobpbaaGreatDoorPart03
import Derived.Deep.CutRange
import Derived.Deep.DeepCutAuto
import Derived.Test.YtmeomhojbobpbaaGreatDoorPart43
/-
  Walk: the law ClaimFractions.
-/
namespace Go.Proofs.YtmeomhojbobpbaaGreatDoor
open Go.RowKit Lg Go.Sort Go.Shelf Go.Maps

set_option maxRecDepth 100000 in
set_option maxHeartbeats 12800000 in
theorem lawFractions_any (num den : Int) (a b : Frac) (w : World) (hb : -9223372036854775808 ≤ b.num ∧ b.num ≤ 9223372036854775807) (hV : Vs w) : Calls Tryz.prog 13 #[.int .i64 num, .int .i64 den, aF a, aF b] w (Gives w (.bool true)) := by
  obtain ⟨w0, hw0⟩ : ∃ w0, w0 = (w.alloc (.cells #[.int .i64 a.num, .int .i64 a.den] 25)).alloc (.cells #[.int .i64 b.num, .int .i64 b.den] 25) := ⟨_, rfl⟩
  have k6 : Blk w0 w.heap.size #[.int .i64 a.num, .int .i64 a.den] 25 := hw0 ▸ (Blk.new w _ _).alloc _
  have k7 : Blk w0 (w.heap.size + 1) #[.int .i64 b.num, .int .i64 b.den] 25 := hw0 ▸ Blk.nw1 w _ _ _
  have hB0 : RowKit.Below w.heap.size w w0 := hw0 ▸ ((Below.refl _ w).alloc (Nat.le_refl _) _).alloc (by simp) _
  have HV := Lib.hid hV
  have HB := Lib.hid hB0
  have hn := fun W => Norm_any num den W
  have hrn := fun W => norm5_any num den W
  rw [normR_eq] at hrn
  have hca := fun W => compareD_any a b W
  have hcb := fun W => compare5_any a b W
  have hfa := fun W => floorD_any a W
  have hfb := fun W => floor5D_any a W
  have hea := fun W => ceilD_any a W
  have heb := fun W => ceil5D_any a W
  have ha := fun W => addD_any a b W
  have hra := fun W => add5_any a b W
  rw [addO_eq] at ha
  have hs := fun W => subD_any a b W
  have hrs := fun W => sub5_any a b hb W
  rw [subO_eq] at hs
  have hm := fun W => mulD_any a b W
  have hrm := fun W => mul5_any a b W
  rw [mulO_eq] at hm
  generalize normF num den = rn at *
  generalize addF a b = ra at *
  generalize subF a b = rs at *
  generalize mulF a b = rm at *
  generalize cmpF a b = rc at *
  generalize floorF a = rf at *
  generalize ceilF a = re at *
  obtain ⟨nf, en⟩ := rn
  obtain ⟨s, es⟩ := ra
  obtain ⟨d, ed⟩ := rs
  obtain ⟨p, ep⟩ := rm
  dsimp only at *
  have Hk6 := Lib.hid k6
  have Hk7 := Lib.hid k7
  clear k6 k7 hB0 hV hb
  go_enter Tryz.func13, Tryz.ntmps13
  go_upto_region 1 with fail
  rw [← hw0]
  clear hw0
  obtain ⟨b6, hb6⟩ : ∃ b, b = w.heap.size := ⟨_, rfl⟩
  obtain ⟨b7, hb7⟩ : ∃ b, b = w.heap.size + 1 := ⟨_, rfl⟩
  have ne6_7 := Lib.hid (show b6 ≠ b7 by omega)
  rw [← hb7] at Hk7 ⊢
  rw [← hb6] at Hk6 ⊢
  clear hb6 hb7
  go_wp2_with (fail)
  refine (hn _).mono ?_
  rintro e w1 ⟨rfl, hB1⟩
  replace Hk6 := Lib.hid (Hk6.out.below' hB1)
  replace Hk7 := Lib.hid (Hk7.out.below' hB1)
  replace HB := Lib.hid (HB.out.trans (hB1.mono HB.out.size))
  clear hB1
  obtain ⟨w2, hww2⟩ : ∃ x, x = w1.alloc (.cells #[.int .i64 nf.num, .int .i64 nf.den] 25) := ⟨_, rfl⟩
  have kn : Blk w2 w1.heap.size #[.int .i64 nf.num, .int .i64 nf.den] 25 := hww2 ▸ Blk.new _ _ _
  have hB2 : RowKit.Below w1.heap.size w1 w2 := hww2 ▸ (Below.refl _ _).alloc (Nat.le_refl _) _
  go_upto_region 2 with fail
  rw [← hww2]
  clear hww2
  obtain ⟨b9, hb9⟩ : ∃ b, b = w1.heap.size := ⟨_, rfl⟩
  have hge9 := Lib.hid (show w.heap.size ≤ b9 by have := HB.out.size; omega)
  have ne6_9 := Lib.hid (show b6 ≠ b9 by have := Hk6.out.lt; omega)
  have ne7_9 := Lib.hid (show b7 ≠ b9 by have := Hk7.out.lt; omega)
  rw [← hb9] at kn ⊢
  clear hb9
  have Hk9 := Lib.hid kn
  clear kn
  replace Hk6 := Lib.hid (Hk6.out.below' hB2)
  replace Hk7 := Lib.hid (Hk7.out.below' hB2)
  replace HB := Lib.hid (HB.out.trans (hB2.mono HB.out.size))
  clear hB2
  go_wp2_with (fail)
  refine (hrn _).mono ?_
  rintro e w3 ⟨rfl, hB3⟩
  replace Hk6 := Lib.hid (Hk6.out.below' hB3)
  replace Hk7 := Lib.hid (Hk7.out.below' hB3)
  replace Hk9 := Lib.hid (Hk9.out.below' hB3)
  replace HB := Lib.hid (HB.out.trans (hB3.mono HB.out.size))
  clear hB3
  obtain ⟨w4, hww4⟩ : ∃ x, x = w3.alloc (.cells #[.int .i64 nf.num, .int .i64 nf.den] 25) := ⟨_, rfl⟩
  have kn : Blk w4 w3.heap.size #[.int .i64 nf.num, .int .i64 nf.den] 25 := hww4 ▸ Blk.new _ _ _
  have hB4 : RowKit.Below w3.heap.size w3 w4 := hww4 ▸ (Below.refl _ _).alloc (Nat.le_refl _) _
  go_upto_region 3 with fail
  rw [← hww4]
  clear hww4
  obtain ⟨b11, hb11⟩ : ∃ b, b = w3.heap.size := ⟨_, rfl⟩
  have hge11 := Lib.hid (show w.heap.size ≤ b11 by have := HB.out.size; omega)
  have ne6_11 := Lib.hid (show b6 ≠ b11 by have := Hk6.out.lt; omega)
  have ne7_11 := Lib.hid (show b7 ≠ b11 by have := Hk7.out.lt; omega)
  have ne9_11 := Lib.hid (show b9 ≠ b11 by have := Hk9.out.lt; omega)
  rw [← hb11] at kn ⊢
  clear hb11
  have Hk11 := Lib.hid kn
  clear kn
  replace Hk6 := Lib.hid (Hk6.out.below' hB4)
  replace Hk7 := Lib.hid (Hk7.out.below' hB4)
  replace Hk9 := Lib.hid (Hk9.out.below' hB4)
  replace HB := Lib.hid (HB.out.trans (hB4.mono HB.out.size))
  clear hB4
  have HF9 := Lib.hid (fun W' (h : RowKit.Below w4.heap.size w4 W') => Hk9.out.below' h)
  have HF11 := Lib.hid (fun W' (h : RowKit.Below w4.heap.size w4 W') => Hk11.out.below' h)
  have HF6 := Lib.hid (fun W' (h : RowKit.Below w4.heap.size w4 W') => Hk6.out.below' h)
  have HF7 := Lib.hid (fun W' (h : RowKit.Below w4.heap.size w4 W') => Hk7.out.below' h)
  go_cut [63] from 999 (fun cc W' => cc = .bool false ∧ RowKit.Below w4.heap.size w4 W')
  case first =>
    refine wp_region_T (fun W' => RowKit.Below w4.heap.size w4 W') (fun _ => True) 99 (by kernel_rfl) (Below.refl _ _).drew trivial (fun hS hT => ?_)
    refine wpAnyT_takeS (i := 0) (v := .agg (cF nf).toArray) rfl (by kernel_rfl) (by kernel_rfl) (by kernel_rfl) rfl (fun _ _ _ h => h) (yields_load 25 (.tmp 9) rfl b9 (0) (by kernel_rfl) (cF nf) _ (by kernel_rfl) (fun W hW => ((HF9.out W hW).range 0 _ (fun j v h => by simpa using h))) Tryz.underlying25 rfl (by kernel_rfl)) hS (fun _ => trivial) ?_
    try simp only [List.getElem_toArray, List.getElem_cons_zero]
    try dsimp only
    try simp only [Act.put, List.setIfInBounds_toArray, List.set_cons_zero, List.set_cons_succ]
    refine wpAnyT_takeS (i := 1) (v := .agg (cF nf).toArray) rfl (by kernel_rfl) (by kernel_rfl) (by kernel_rfl) rfl (fun _ _ _ h => h) (yields_load 25 (.tmp 11) rfl b11 (0) (by kernel_rfl) (cF nf) _ (by kernel_rfl) (fun W hW => ((HF11.out W hW).range 0 _ (fun j v h => by simpa using h))) Tryz.underlying25 rfl (by kernel_rfl)) hS (fun _ => trivial) ?_
    try simp only [List.getElem_toArray, List.getElem_cons_succ, List.getElem_cons_zero]
    try dsimp only
    try simp only [Act.put, List.setIfInBounds_toArray, List.set_cons_zero, List.set_cons_succ]
    refine wpAnyT_takeS (i := 2) (v := .bool false) rfl (by kernel_rfl) (by kernel_rfl) (by kernel_rfl) rfl (fun _ _ _ h => h) (Or.inl ⟨by kernel_rfl, fun W hW => by show Sem.run Tryz.prog (execOp _ _) W = _; unfold execOp; have e := neqFf nf W; have g := run_eqGuard_agg W BinOp.neq 25 (.tmp 33) (.tmp 34) (cF nf).toArray (cF nf).toArray guardF; simp only [Act.eval] at *; simp [e, g, Sem.run_bind, Result.andThen]⟩) hS (fun _ => trivial) ?_
    try simp only [List.getElem_toArray, List.getElem_cons_succ, List.getElem_cons_zero]
    try dsimp only
    try simp only [Act.put, List.setIfInBounds_toArray, List.set_cons_zero, List.set_cons_succ]
    refine wpAnyT_takeS (i := 3) (v := .bool false) rfl (by kernel_rfl) (by kernel_rfl) (by kernel_rfl) rfl (fun _ _ _ h => h) (Or.inl ⟨by kernel_rfl, fun _ _ => by kernel_rfl⟩) hS (fun _ => trivial) ?_
    try simp only [List.getElem_toArray, List.getElem_cons_succ, List.getElem_cons_zero]
    try dsimp only
    try simp only [Act.put, List.setIfInBounds_toArray, List.set_cons_zero, List.set_cons_succ]
    refine wpAnyT_takeS (i := 4) (v := .int .i64 en) rfl (by kernel_rfl) (by kernel_rfl) (by kernel_rfl) rfl (fun _ _ _ h => h) (Or.inl ⟨by kernel_rfl, fun _ _ => by kernel_rfl⟩) hS (fun _ => trivial) ?_
    try simp only [List.getElem_toArray, List.getElem_cons_succ, List.getElem_cons_zero]
    try dsimp only
    try simp only [Act.put, List.setIfInBounds_toArray, List.set_cons_zero, List.set_cons_succ]
    refine wpAnyT_takeS (i := 5) (v := .int .i64 en) rfl (by kernel_rfl) (by kernel_rfl) (by kernel_rfl) rfl (fun _ _ _ h => h) (Or.inl ⟨by kernel_rfl, fun _ _ => by kernel_rfl⟩) hS (fun _ => trivial) ?_
    try simp only [List.getElem_toArray, List.getElem_cons_succ, List.getElem_cons_zero]
    try dsimp only
    try simp only [Act.put, List.setIfInBounds_toArray, List.set_cons_zero, List.set_cons_succ]
    refine wpAnyT_takeS (i := 6) (v := .bool false) rfl (by kernel_rfl) (by kernel_rfl) (by kernel_rfl) rfl (fun _ _ _ h => h) (Or.inl ⟨by kernel_rfl, fun W hW => by go_simp⟩) hS (fun _ => trivial) ?_
    try simp only [List.getElem_toArray, List.getElem_cons_succ, List.getElem_cons_zero]
    try dsimp only
    try simp only [Act.put, List.setIfInBounds_toArray, List.set_cons_zero, List.set_cons_succ]
    refine wpAnyT_takeS (i := 7) (v := .bool false) rfl (by kernel_rfl) (by kernel_rfl) (by kernel_rfl) rfl (fun _ _ _ h => h) (Or.inl ⟨by kernel_rfl, fun W hW => by go_simp⟩) hS (fun _ => trivial) ?_
    try simp only [List.getElem_toArray, List.getElem_cons_succ, List.getElem_cons_zero]
    try dsimp only
    try simp only [Act.put, List.setIfInBounds_toArray, List.set_cons_zero, List.set_cons_succ]
    refine wpAnyT_takeS (i := 8) (v := .bool false) rfl (by kernel_rfl) (by kernel_rfl) (by kernel_rfl) rfl (fun _ _ _ h => h) (Or.inl ⟨by kernel_rfl, fun _ _ => by kernel_rfl⟩) hS (fun _ => trivial) ?_
    try simp only [List.getElem_toArray, List.getElem_cons_succ, List.getElem_cons_zero]
    try dsimp only
    try simp only [Act.put, List.setIfInBounds_toArray, List.set_cons_zero, List.set_cons_succ]
    refine wpAnyT_takeS (i := 9) (v := .agg (cF a).toArray) rfl (by kernel_rfl) (by kernel_rfl) (by kernel_rfl) rfl (fun _ _ _ h => h) (yields_load 25 (.tmp 6) rfl b6 (0) (by kernel_rfl) (cF a) _ (by kernel_rfl) (fun W hW => ((HF6.out W hW).range 0 _ (fun j v h => by simpa using h))) Tryz.underlying25 rfl (by kernel_rfl)) hS (fun _ => trivial) ?_
    try simp only [List.getElem_toArray, List.getElem_cons_succ, List.getElem_cons_zero]
    try dsimp only
    try simp only [Act.put, List.setIfInBounds_toArray, List.set_cons_zero, List.set_cons_succ]
    refine wpAnyT_takeS (i := 10) (v := .agg (cF b).toArray) rfl (by kernel_rfl) (by kernel_rfl) (by kernel_rfl) rfl (fun _ _ _ h => h) (yields_load 25 (.tmp 7) rfl b7 (0) (by kernel_rfl) (cF b) _ (by kernel_rfl) (fun W hW => ((HF7.out W hW).range 0 _ (fun j v h => by simpa using h))) Tryz.underlying25 rfl (by kernel_rfl)) hS (fun _ => trivial) ?_
    try simp only [List.getElem_toArray, List.getElem_cons_succ, List.getElem_cons_zero]
    try dsimp only
    try simp only [Act.put, List.setIfInBounds_toArray, List.set_cons_zero, List.set_cons_succ]
    refine wpAnyT_takeS (i := 12) (v := .agg (cF a).toArray) rfl (by kernel_rfl) (by kernel_rfl) (by kernel_rfl) rfl (fun _ _ _ h => h) (yields_load 25 (.tmp 6) rfl b6 (0) (by kernel_rfl) (cF a) _ (by kernel_rfl) (fun W hW => ((HF6.out W hW).range 0 _ (fun j v h => by simpa using h))) Tryz.underlying25 rfl (by kernel_rfl)) hS (fun _ => trivial) ?_
    try simp only [List.getElem_toArray, List.getElem_cons_succ, List.getElem_cons_zero]
    try dsimp only
    try simp only [Act.put, List.setIfInBounds_toArray, List.set_cons_zero, List.set_cons_succ]
    refine wpAnyT_takeS (i := 13) (v := .agg (cF b).toArray) rfl (by kernel_rfl) (by kernel_rfl) (by kernel_rfl) rfl (fun _ _ _ h => h) (yields_load 25 (.tmp 7) rfl b7 (0) (by kernel_rfl) (cF b) _ (by kernel_rfl) (fun W hW => ((HF7.out W hW).range 0 _ (fun j v h => by simpa using h))) Tryz.underlying25 rfl (by kernel_rfl)) hS (fun _ => trivial) ?_
    try simp only [List.getElem_toArray, List.getElem_cons_succ, List.getElem_cons_zero]
    try dsimp only
    try simp only [Act.put, List.setIfInBounds_toArray, List.set_cons_zero, List.set_cons_succ]
    refine wpAnyT_one (j := 11) rfl (by kernel_rfl) (by kernel_rfl) (fun K hK => ?_)
    go_simp
    refine (hca _).mono ?_
    rintro e wqhS2 ⟨rfl, hqhS2⟩
    have hS2 := hS.trans (hqhS2.mono hS.size)
    refine hK.out _ _ hS2 (fun _ => trivial) ?_
    try simp only [List.getElem_toArray, List.getElem_cons_succ, List.getElem_cons_zero]
    try dsimp only
    try simp only [Act.put, List.setIfInBounds_toArray, List.set_cons_zero, List.set_cons_succ]
    refine wpAnyT_one (j := 14) rfl (by kernel_rfl) (by kernel_rfl) (fun K hK => ?_)
    go_simp
    refine (hcb _).mono ?_
    rintro e wqhS3 ⟨rfl, hqhS3⟩
    have hS3 := hS2.trans (hqhS3.mono hS2.size)
    refine hK.out _ _ hS3 (fun _ => trivial) ?_
    try simp only [List.getElem_toArray, List.getElem_cons_succ, List.getElem_cons_zero]
    try dsimp only
    try simp only [Act.put, List.setIfInBounds_toArray, List.set_cons_zero, List.set_cons_succ]
    refine wpAnyT_takeS (i := 15) (v := .bool false) rfl (by kernel_rfl) (by kernel_rfl) (by kernel_rfl) rfl (fun _ _ _ h => h) (Or.inl ⟨by kernel_rfl, fun W hW => by go_simp⟩) hS3 (fun _ => trivial) ?_
    try simp only [List.getElem_toArray, List.getElem_cons_succ, List.getElem_cons_zero]
    try dsimp only
    try simp only [Act.put, List.setIfInBounds_toArray, List.set_cons_zero, List.set_cons_succ]
    refine wpAnyT_takeS (i := 16) (v := .bool false) rfl (by kernel_rfl) (by kernel_rfl) (by kernel_rfl) rfl (fun _ _ _ h => h) (Or.inl ⟨by kernel_rfl, fun W hW => by go_simp⟩) hS3 (fun _ => trivial) ?_
    try simp only [List.getElem_toArray, List.getElem_cons_succ, List.getElem_cons_zero]
    try dsimp only
    try simp only [Act.put, List.setIfInBounds_toArray, List.set_cons_zero, List.set_cons_succ]
    refine wpAnyT_takeS (i := 17) (v := .bool false) rfl (by kernel_rfl) (by kernel_rfl) (by kernel_rfl) rfl (fun _ _ _ h => h) (Or.inl ⟨by kernel_rfl, fun _ _ => by kernel_rfl⟩) hS3 (fun _ => trivial) ?_
    try simp only [List.getElem_toArray, List.getElem_cons_succ, List.getElem_cons_zero]
    try dsimp only
    try simp only [Act.put, List.setIfInBounds_toArray, List.set_cons_zero, List.set_cons_succ]
    refine wpAnyT_takeS (i := 18) (v := .agg (cF a).toArray) rfl (by kernel_rfl) (by kernel_rfl) (by kernel_rfl) rfl (fun _ _ _ h => h) (yields_load 25 (.tmp 6) rfl b6 (0) (by kernel_rfl) (cF a) _ (by kernel_rfl) (fun W hW => ((HF6.out W hW).range 0 _ (fun j v h => by simpa using h))) Tryz.underlying25 rfl (by kernel_rfl)) hS3 (fun _ => trivial) ?_
    try simp only [List.getElem_toArray, List.getElem_cons_succ, List.getElem_cons_zero]
    try dsimp only
    try simp only [Act.put, List.setIfInBounds_toArray, List.set_cons_zero, List.set_cons_succ]
    refine wpAnyT_takeS (i := 20) (v := .agg (cF a).toArray) rfl (by kernel_rfl) (by kernel_rfl) (by kernel_rfl) rfl (fun _ _ _ h => h) (yields_load 25 (.tmp 6) rfl b6 (0) (by kernel_rfl) (cF a) _ (by kernel_rfl) (fun W hW => ((HF6.out W hW).range 0 _ (fun j v h => by simpa using h))) Tryz.underlying25 rfl (by kernel_rfl)) hS3 (fun _ => trivial) ?_
    try simp only [List.getElem_toArray, List.getElem_cons_succ, List.getElem_cons_zero]
    try dsimp only
    try simp only [Act.put, List.setIfInBounds_toArray, List.set_cons_zero, List.set_cons_succ]
    refine wpAnyT_one (j := 19) rfl (by kernel_rfl) (by kernel_rfl) (fun K hK => ?_)
    go_simp
    refine (hfa _).mono ?_
    rintro e wqhS4 ⟨rfl, hqhS4⟩
    have hS4 := hS3.trans (hqhS4.mono hS3.size)
    refine hK.out _ _ hS4 (fun _ => trivial) ?_
    try simp only [List.getElem_toArray, List.getElem_cons_succ, List.getElem_cons_zero]
    try dsimp only
    try simp only [Act.put, List.setIfInBounds_toArray, List.set_cons_zero, List.set_cons_succ]
    refine wpAnyT_one (j := 21) rfl (by kernel_rfl) (by kernel_rfl) (fun K hK => ?_)
    go_simp
    refine (hfb _).mono ?_
    rintro e wqhS5 ⟨rfl, hqhS5⟩
    have hS5 := hS4.trans (hqhS5.mono hS4.size)
    refine hK.out _ _ hS5 (fun _ => trivial) ?_
    try simp only [List.getElem_toArray, List.getElem_cons_succ, List.getElem_cons_zero]
    try dsimp only
    try simp only [Act.put, List.setIfInBounds_toArray, List.set_cons_zero, List.set_cons_succ]
    refine wpAnyT_takeS (i := 22) (v := .bool false) rfl (by kernel_rfl) (by kernel_rfl) (by kernel_rfl) rfl (fun _ _ _ h => h) (Or.inl ⟨by kernel_rfl, fun W hW => by go_simp⟩) hS5 (fun _ => trivial) ?_
    try simp only [List.getElem_toArray, List.getElem_cons_succ, List.getElem_cons_zero]
    try dsimp only
    try simp only [Act.put, List.setIfInBounds_toArray, List.set_cons_zero, List.set_cons_succ]
    refine wpAnyT_takeS (i := 23) (v := .bool false) rfl (by kernel_rfl) (by kernel_rfl) (by kernel_rfl) rfl (fun _ _ _ h => h) (Or.inl ⟨by kernel_rfl, fun W hW => by go_simp⟩) hS5 (fun _ => trivial) ?_
    try simp only [List.getElem_toArray, List.getElem_cons_succ, List.getElem_cons_zero]
    try dsimp only
    try simp only [Act.put, List.setIfInBounds_toArray, List.set_cons_zero, List.set_cons_succ]
    refine wpAnyT_takeS (i := 24) (v := .bool false) rfl (by kernel_rfl) (by kernel_rfl) (by kernel_rfl) rfl (fun _ _ _ h => h) (Or.inl ⟨by kernel_rfl, fun _ _ => by kernel_rfl⟩) hS5 (fun _ => trivial) ?_
    try simp only [List.getElem_toArray, List.getElem_cons_succ, List.getElem_cons_zero]
    try dsimp only
    try simp only [Act.put, List.setIfInBounds_toArray, List.set_cons_zero, List.set_cons_succ]
    refine wpAnyT_takeS (i := 25) (v := .agg (cF a).toArray) rfl (by kernel_rfl) (by kernel_rfl) (by kernel_rfl) rfl (fun _ _ _ h => h) (yields_load 25 (.tmp 6) rfl b6 (0) (by kernel_rfl) (cF a) _ (by kernel_rfl) (fun W hW => ((HF6.out W hW).range 0 _ (fun j v h => by simpa using h))) Tryz.underlying25 rfl (by kernel_rfl)) hS5 (fun _ => trivial) ?_
    try simp only [List.getElem_toArray, List.getElem_cons_succ, List.getElem_cons_zero]
    try dsimp only
    try simp only [Act.put, List.setIfInBounds_toArray, List.set_cons_zero, List.set_cons_succ]
    refine wpAnyT_takeS (i := 27) (v := .agg (cF a).toArray) rfl (by kernel_rfl) (by kernel_rfl) (by kernel_rfl) rfl (fun _ _ _ h => h) (yields_load 25 (.tmp 6) rfl b6 (0) (by kernel_rfl) (cF a) _ (by kernel_rfl) (fun W hW => ((HF6.out W hW).range 0 _ (fun j v h => by simpa using h))) Tryz.underlying25 rfl (by kernel_rfl)) hS5 (fun _ => trivial) ?_
    try simp only [List.getElem_toArray, List.getElem_cons_succ, List.getElem_cons_zero]
    try dsimp only
    try simp only [Act.put, List.setIfInBounds_toArray, List.set_cons_zero, List.set_cons_succ]
    refine wpAnyT_one (j := 26) rfl (by kernel_rfl) (by kernel_rfl) (fun K hK => ?_)
    go_simp
    refine (hea _).mono ?_
    rintro e wqhS6 ⟨rfl, hqhS6⟩
    have hS6 := hS5.trans (hqhS6.mono hS5.size)
    refine hK.out _ _ hS6 (fun _ => trivial) ?_
    try simp only [List.getElem_toArray, List.getElem_cons_succ, List.getElem_cons_zero]
    try dsimp only
    try simp only [Act.put, List.setIfInBounds_toArray, List.set_cons_zero, List.set_cons_succ]
    refine wpAnyT_one (j := 28) rfl (by kernel_rfl) (by kernel_rfl) (fun K hK => ?_)
    go_simp
    refine (heb _).mono ?_
    rintro e wqhS7 ⟨rfl, hqhS7⟩
    have hS7 := hS6.trans (hqhS7.mono hS6.size)
    refine hK.out _ _ hS7 (fun _ => trivial) ?_
    try simp only [List.getElem_toArray, List.getElem_cons_succ, List.getElem_cons_zero]
    try dsimp only
    try simp only [Act.put, List.setIfInBounds_toArray, List.set_cons_zero, List.set_cons_succ]
    refine wpAnyT_takeS (i := 29) (v := .bool false) rfl (by kernel_rfl) (by kernel_rfl) (by kernel_rfl) rfl (fun _ _ _ h => h) (Or.inl ⟨by kernel_rfl, fun W hW => by go_simp⟩) hS7 (fun _ => trivial) ?_
    try simp only [List.getElem_toArray, List.getElem_cons_succ, List.getElem_cons_zero]
    try dsimp only
    try simp only [Act.put, List.setIfInBounds_toArray, List.set_cons_zero, List.set_cons_succ]
    refine wpAnyT_takeS (i := 30) (v := .bool false) rfl (by kernel_rfl) (by kernel_rfl) (by kernel_rfl) rfl (fun _ _ _ h => h) (Or.inl ⟨by kernel_rfl, fun W hW => by go_simp⟩) hS7 (fun _ => trivial) ?_
    try simp only [List.getElem_toArray, List.getElem_cons_succ, List.getElem_cons_zero]
    try dsimp only
    try simp only [Act.put, List.setIfInBounds_toArray, List.set_cons_zero, List.set_cons_succ]
    refine wpAnyT_done (by kernel_rfl) ?_ _
    go_wp2_with fail
    go_meet
    exact ⟨rfl, hS7⟩
  obtain ⟨rfl, hc0⟩ := hcut
  obtain ⟨w5, hw0⟩ : ∃ x, x = wc := ⟨_, rfl⟩
  subst hw0
  have hB5 := hc0
  clear hc0 HF9 HF11 HF6 HF7
  replace Hk6 := Lib.hid (Hk6.out.below' hB5)
  replace Hk7 := Lib.hid (Hk7.out.below' hB5)
  replace Hk9 := Lib.hid (Hk9.out.below' hB5)
  replace Hk11 := Lib.hid (Hk11.out.below' hB5)
  replace HB := Lib.hid (HB.out.trans (hB5.mono HB.out.size))
  clear hB5
  have cx := Hk6.out.cell
  have cy := Hk7.out.cell
  go_wp2_with (fail)
  refine (ha _).mono ?_
  rintro e w6 ⟨rfl, hB6⟩
  clear cx cy
  replace Hk6 := Lib.hid (Hk6.out.below' hB6)
  replace Hk7 := Lib.hid (Hk7.out.below' hB6)
  replace Hk9 := Lib.hid (Hk9.out.below' hB6)
  replace Hk11 := Lib.hid (Hk11.out.below' hB6)
  replace HB := Lib.hid (HB.out.trans (hB6.mono HB.out.size))
  clear hB6
  have c9 := Hk9.out.cell
  have f9 := Hk9.out.frozen
  have l9 := Hk9.out.lt
  go_upto_region 6 with fail
  clear c9 f9 l9
  rw [putF]
  obtain ⟨w7, hww⟩ : ∃ x, x = w6.setCells b9 0 (cF s) := ⟨_, rfl⟩
  rw [← hww]
  have kn : Blk w7 b9 #[.int .i64 s.num, .int .i64 s.den] 25 := hww ▸ Hk9.out.setCells 0 (cF s)
  replace Hk6 := Lib.hid (show Blk w7 _ _ _ from hww ▸ Hk6.out.setCells_other ne6_9.out 0 (cF s))
  replace Hk7 := Lib.hid (show Blk w7 _ _ _ from hww ▸ Hk7.out.setCells_other ne7_9.out 0 (cF s))
  replace Hk11 := Lib.hid (show Blk w7 _ _ _ from hww ▸ Hk11.out.setCells_other (Ne.symm ne9_11.out) 0 (cF s))
  replace HB := Lib.hid (show RowKit.Below w.heap.size w w7 from hww ▸ below_setCells HB.out hge9.out 0 (cF s))
  clear Hk9 hww
  have Hk9 := Lib.hid kn
  clear kn
  have cx := Hk6.out.cell
  have cy := Hk7.out.cell
  go_wp2_with (fail)
  refine (hra _).mono ?_
  rintro e w8 ⟨rfl, hB8⟩
  clear cx cy
  replace Hk6 := Lib.hid (Hk6.out.below' hB8)
  replace Hk7 := Lib.hid (Hk7.out.below' hB8)
  replace Hk9 := Lib.hid (Hk9.out.below' hB8)
  replace Hk11 := Lib.hid (Hk11.out.below' hB8)
  replace HB := Lib.hid (HB.out.trans (hB8.mono HB.out.size))
  clear hB8
  have c9 := Hk11.out.cell
  have f9 := Hk11.out.frozen
  have l9 := Hk11.out.lt
  go_upto_region 7 with fail
  clear c9 f9 l9
  rw [putF]
  obtain ⟨w9, hww⟩ : ∃ x, x = w8.setCells b11 0 (cF s) := ⟨_, rfl⟩
  rw [← hww]
  have kn : Blk w9 b11 #[.int .i64 s.num, .int .i64 s.den] 25 := hww ▸ Hk11.out.setCells 0 (cF s)
  replace Hk6 := Lib.hid (show Blk w9 _ _ _ from hww ▸ Hk6.out.setCells_other ne6_11.out 0 (cF s))
  replace Hk7 := Lib.hid (show Blk w9 _ _ _ from hww ▸ Hk7.out.setCells_other ne7_11.out 0 (cF s))
  replace Hk9 := Lib.hid (show Blk w9 _ _ _ from hww ▸ Hk9.out.setCells_other ne9_11.out 0 (cF s))
  replace HB := Lib.hid (show RowKit.Below w.heap.size w w9 from hww ▸ below_setCells HB.out hge11.out 0 (cF s))
  clear Hk11 hww
  have Hk11 := Lib.hid kn
  clear kn
  have cx := Hk6.out.cell
  have cy := Hk7.out.cell
  go_wp2_with (fail)
  refine (hs _).mono ?_
  rintro e w10 ⟨rfl, hB10⟩
  clear cx cy
  replace Hk6 := Lib.hid (Hk6.out.below' hB10)
  replace Hk7 := Lib.hid (Hk7.out.below' hB10)
  replace Hk9 := Lib.hid (Hk9.out.below' hB10)
  replace Hk11 := Lib.hid (Hk11.out.below' hB10)
  replace HB := Lib.hid (HB.out.trans (hB10.mono HB.out.size))
  clear hB10
  obtain ⟨w11, hww11⟩ : ∃ x, x = w10.alloc (.cells #[.int .i64 d.num, .int .i64 d.den] 25) := ⟨_, rfl⟩
  have kn : Blk w11 w10.heap.size #[.int .i64 d.num, .int .i64 d.den] 25 := hww11 ▸ Blk.new _ _ _
  have hB11 : RowKit.Below w10.heap.size w10 w11 := hww11 ▸ (Below.refl _ _).alloc (Nat.le_refl _) _
  go_upto_region 8 with fail
  rw [← hww11]
  clear hww11
  obtain ⟨b13, hb13⟩ : ∃ b, b = w10.heap.size := ⟨_, rfl⟩
  have hge13 := Lib.hid (show w.heap.size ≤ b13 by have := HB.out.size; omega)
  have ne6_13 := Lib.hid (show b6 ≠ b13 by have := Hk6.out.lt; omega)
  have ne7_13 := Lib.hid (show b7 ≠ b13 by have := Hk7.out.lt; omega)
  have ne9_13 := Lib.hid (show b9 ≠ b13 by have := Hk9.out.lt; omega)
  have ne11_13 := Lib.hid (show b11 ≠ b13 by have := Hk11.out.lt; omega)
  rw [← hb13] at kn ⊢
  clear hb13
  have Hk13 := Lib.hid kn
  clear kn
  replace Hk6 := Lib.hid (Hk6.out.below' hB11)
  replace Hk7 := Lib.hid (Hk7.out.below' hB11)
  replace Hk9 := Lib.hid (Hk9.out.below' hB11)
  replace Hk11 := Lib.hid (Hk11.out.below' hB11)
  replace HB := Lib.hid (HB.out.trans (hB11.mono HB.out.size))
  clear hB11
  have cx := Hk6.out.cell
  have cy := Hk7.out.cell
  go_wp2_with (fail)
  refine (hrs _).mono ?_
  rintro e w12 ⟨rfl, hB12⟩
  clear cx cy
  replace Hk6 := Lib.hid (Hk6.out.below' hB12)
  replace Hk7 := Lib.hid (Hk7.out.below' hB12)
  replace Hk9 := Lib.hid (Hk9.out.below' hB12)
  replace Hk11 := Lib.hid (Hk11.out.below' hB12)
  replace Hk13 := Lib.hid (Hk13.out.below' hB12)
  replace HB := Lib.hid (HB.out.trans (hB12.mono HB.out.size))
  clear hB12
  obtain ⟨w13, hww13⟩ : ∃ x, x = w12.alloc (.cells #[.int .i64 d.num, .int .i64 d.den] 25) := ⟨_, rfl⟩
  have kn : Blk w13 w12.heap.size #[.int .i64 d.num, .int .i64 d.den] 25 := hww13 ▸ Blk.new _ _ _
  have hB13 : RowKit.Below w12.heap.size w12 w13 := hww13 ▸ (Below.refl _ _).alloc (Nat.le_refl _) _
  go_upto_region 9 with fail
  rw [← hww13]
  clear hww13
  obtain ⟨b15, hb15⟩ : ∃ b, b = w12.heap.size := ⟨_, rfl⟩
  have hge15 := Lib.hid (show w.heap.size ≤ b15 by have := HB.out.size; omega)
  have ne6_15 := Lib.hid (show b6 ≠ b15 by have := Hk6.out.lt; omega)
  have ne7_15 := Lib.hid (show b7 ≠ b15 by have := Hk7.out.lt; omega)
  have ne9_15 := Lib.hid (show b9 ≠ b15 by have := Hk9.out.lt; omega)
  have ne11_15 := Lib.hid (show b11 ≠ b15 by have := Hk11.out.lt; omega)
  have ne13_15 := Lib.hid (show b13 ≠ b15 by have := Hk13.out.lt; omega)
  rw [← hb15] at kn ⊢
  clear hb15
  have Hk15 := Lib.hid kn
  clear kn
  replace Hk6 := Lib.hid (Hk6.out.below' hB13)
  replace Hk7 := Lib.hid (Hk7.out.below' hB13)
  replace Hk9 := Lib.hid (Hk9.out.below' hB13)
  replace Hk11 := Lib.hid (Hk11.out.below' hB13)
  replace Hk13 := Lib.hid (Hk13.out.below' hB13)
  replace HB := Lib.hid (HB.out.trans (hB13.mono HB.out.size))
  clear hB13
  have cx := Hk6.out.cell
  have cy := Hk7.out.cell
  go_wp2_with (fail)
  refine (hm _).mono ?_
  rintro e w14 ⟨rfl, hB14⟩
  clear cx cy
  replace Hk6 := Lib.hid (Hk6.out.below' hB14)
  replace Hk7 := Lib.hid (Hk7.out.below' hB14)
  replace Hk9 := Lib.hid (Hk9.out.below' hB14)
  replace Hk11 := Lib.hid (Hk11.out.below' hB14)
  replace Hk13 := Lib.hid (Hk13.out.below' hB14)
  replace Hk15 := Lib.hid (Hk15.out.below' hB14)
  replace HB := Lib.hid (HB.out.trans (hB14.mono HB.out.size))
  clear hB14
  obtain ⟨w15, hww15⟩ : ∃ x, x = w14.alloc (.cells #[.int .i64 p.num, .int .i64 p.den] 25) := ⟨_, rfl⟩
  have kn : Blk w15 w14.heap.size #[.int .i64 p.num, .int .i64 p.den] 25 := hww15 ▸ Blk.new _ _ _
  have hB15 : RowKit.Below w14.heap.size w14 w15 := hww15 ▸ (Below.refl _ _).alloc (Nat.le_refl _) _
  go_upto_region 10 with fail
  rw [← hww15]
  clear hww15
  obtain ⟨b17, hb17⟩ : ∃ b, b = w14.heap.size := ⟨_, rfl⟩
  have hge17 := Lib.hid (show w.heap.size ≤ b17 by have := HB.out.size; omega)
  have ne6_17 := Lib.hid (show b6 ≠ b17 by have := Hk6.out.lt; omega)
  have ne7_17 := Lib.hid (show b7 ≠ b17 by have := Hk7.out.lt; omega)
  have ne9_17 := Lib.hid (show b9 ≠ b17 by have := Hk9.out.lt; omega)
  have ne11_17 := Lib.hid (show b11 ≠ b17 by have := Hk11.out.lt; omega)
  have ne13_17 := Lib.hid (show b13 ≠ b17 by have := Hk13.out.lt; omega)
  have ne15_17 := Lib.hid (show b15 ≠ b17 by have := Hk15.out.lt; omega)
  rw [← hb17] at kn ⊢
  clear hb17
  have Hk17 := Lib.hid kn
  clear kn
  replace Hk6 := Lib.hid (Hk6.out.below' hB15)
  replace Hk7 := Lib.hid (Hk7.out.below' hB15)
  replace Hk9 := Lib.hid (Hk9.out.below' hB15)
  replace Hk11 := Lib.hid (Hk11.out.below' hB15)
  replace Hk13 := Lib.hid (Hk13.out.below' hB15)
  replace Hk15 := Lib.hid (Hk15.out.below' hB15)
  replace HB := Lib.hid (HB.out.trans (hB15.mono HB.out.size))
  clear hB15
  have cx := Hk6.out.cell
  have cy := Hk7.out.cell
  go_wp2_with (fail)
  refine (hrm _).mono ?_
  rintro e w16 ⟨rfl, hB16⟩
  clear cx cy
  replace Hk6 := Lib.hid (Hk6.out.below' hB16)
  replace Hk7 := Lib.hid (Hk7.out.below' hB16)
  replace Hk9 := Lib.hid (Hk9.out.below' hB16)
  replace Hk11 := Lib.hid (Hk11.out.below' hB16)
  replace Hk13 := Lib.hid (Hk13.out.below' hB16)
  replace Hk15 := Lib.hid (Hk15.out.below' hB16)
  replace Hk17 := Lib.hid (Hk17.out.below' hB16)
  replace HB := Lib.hid (HB.out.trans (hB16.mono HB.out.size))
  clear hB16
  obtain ⟨w17, hww17⟩ : ∃ x, x = w16.alloc (.cells #[.int .i64 p.num, .int .i64 p.den] 25) := ⟨_, rfl⟩
  have kn : Blk w17 w16.heap.size #[.int .i64 p.num, .int .i64 p.den] 25 := hww17 ▸ Blk.new _ _ _
  have hB17 : RowKit.Below w16.heap.size w16 w17 := hww17 ▸ (Below.refl _ _).alloc (Nat.le_refl _) _
  go_upto_region 11 with fail
  rw [← hww17]
  clear hww17
  obtain ⟨b19, hb19⟩ : ∃ b, b = w16.heap.size := ⟨_, rfl⟩
  have hge19 := Lib.hid (show w.heap.size ≤ b19 by have := HB.out.size; omega)
  have ne6_19 := Lib.hid (show b6 ≠ b19 by have := Hk6.out.lt; omega)
  have ne7_19 := Lib.hid (show b7 ≠ b19 by have := Hk7.out.lt; omega)
  have ne9_19 := Lib.hid (show b9 ≠ b19 by have := Hk9.out.lt; omega)
  have ne11_19 := Lib.hid (show b11 ≠ b19 by have := Hk11.out.lt; omega)
  have ne13_19 := Lib.hid (show b13 ≠ b19 by have := Hk13.out.lt; omega)
  have ne15_19 := Lib.hid (show b15 ≠ b19 by have := Hk15.out.lt; omega)
  have ne17_19 := Lib.hid (show b17 ≠ b19 by have := Hk17.out.lt; omega)
  rw [← hb19] at kn ⊢
  clear hb19
  have Hk19 := Lib.hid kn
  clear kn
  replace Hk6 := Lib.hid (Hk6.out.below' hB17)
  replace Hk7 := Lib.hid (Hk7.out.below' hB17)
  replace Hk9 := Lib.hid (Hk9.out.below' hB17)
  replace Hk11 := Lib.hid (Hk11.out.below' hB17)
  replace Hk13 := Lib.hid (Hk13.out.below' hB17)
  replace Hk15 := Lib.hid (Hk15.out.below' hB17)
  replace Hk17 := Lib.hid (Hk17.out.below' hB17)
  replace HB := Lib.hid (HB.out.trans (hB17.mono HB.out.size))
  clear hB17
  have hal := alive_any w17 (HV.out.below HB.out)
  go_wp2_with (fail)
  refine hal.mono ?_
  clear hal
  rintro e wz ⟨rfl, hBz⟩
  have c9 := (Hk9.out.below' hBz).cell
  have c11 := (Hk11.out.below' hBz).cell
  have c13 := (Hk13.out.below' hBz).cell
  have c15 := (Hk15.out.below' hBz).cell
  have c17 := (Hk17.out.below' hBz).cell
  have c19 := (Hk19.out.below' hBz).cell
  have hqs := fun W => eqlFf s W
  have hqd := fun W => eqlFf d W
  have hqp := fun W => eqlFf p W
  have hbz := HB.out.trans (hBz.mono HB.out.size)
  clear hBz
  go_wp2_with (fail)
  go_ret
  exact ⟨by first | rfl | simp, hbz⟩

end Go.Proofs.YtmeomhojbobpbaaGreatDoor

/-
  The range of a fraction's numerator that comes in.
-/
namespace Go.Proofs.YtmeomhojbobpbaaGreatDoor
open Go.RowKit Lg Go.ChangeShapes Go.WideShapes Go.Deep

set_option maxRecDepth 100000 in
theorem frac_range {W : World} {base : Nat} {z : Frac} (h : Value.okWide Tryz.prog W .any base 25 (.agg (cF z).toArray)) : -9223372036854775808 ≤ z.num ∧ z.num ≤ 9223372036854775807 := by
  simp only [Value.okWide, Tryz.underlying25] at h
  obtain ⟨cs, h1, _, ts, hts, _, hall⟩ := h
  obtain rfl : (cF z).toArray = cs := by simpa using h1
  have e : Tryz.prog.cellTypes Tryz.prog.depth 25 = some [3, 3] := by kernel_rfl
  rw [e] at hts
  obtain rfl := Option.some.inj hts
  obtain ⟨u, hu, hc⟩ := hall 0 (.int .i64 z.num) rfl
  obtain rfl : 3 = u := by simpa using hu
  simp only [Cell.okWide, Tryz.underlying3, Cell.ok, IntKind.has] at hc
  have m1 : IntKind.i64.min = -9223372036854775808 := by decide
  have m2 : IntKind.i64.max = 9223372036854775807 := by decide
  rw [m1, m2] at hc
  exact hc.2

end Go.Proofs.YtmeomhojbobpbaaGreatDoor
