import Derived.Test.YtmeomhojbobpbaaGreatDoorPart42
import Derived.Test.YtmeomhojbobpbaaGreatDoorPart44
import Derived.Deep.CutRange
import Derived.Deep.DeepCutAuto
/-
  Walk: the law ClaimRules.
-/
namespace Go.Proofs.YtmeomhojbobpbaaGreatDoor
open Go.RowKit Lg Go.Sort Go.Shelf Go.Maps

theorem cmp_small (a b : Frac) : -1 ≤ cmpF a b ∧ cmpF a b ≤ 1 := by
  unfold cmpF
  (repeat' split) <;> omega

set_option maxRecDepth 100000 in
set_option maxHeartbeats 12800000 in
theorem lawRules_any (a b c : Frac) (w : World) (hV : Vs w) : Calls Tryz.prog 8 #[aF a, aF b, aF c] w (Gives w (.bool true)) := by
  obtain ⟨w0, hw0⟩ : ∃ w0, w0 = ((w.alloc (.cells #[.int .i64 a.num, .int .i64 a.den] 25)).alloc (.cells #[.int .i64 b.num, .int .i64 b.den] 25)).alloc (.cells #[.int .i64 c.num, .int .i64 c.den] 25) := ⟨_, rfl⟩
  have k3 : Blk w0 w.heap.size #[.int .i64 a.num, .int .i64 a.den] 25 := hw0 ▸ ((Blk.new w _ _).alloc _).alloc _
  have k4 : Blk w0 (w.heap.size + 1) #[.int .i64 b.num, .int .i64 b.den] 25 := hw0 ▸ (Blk.nw1 w _ _ _).alloc _
  have k5 : Blk w0 (w.heap.size + 1 + 1) #[.int .i64 c.num, .int .i64 c.den] 25 := hw0 ▸ Blk.nw2 w _ _ _ _
  have hB0 : RowKit.Below w.heap.size w w0 := hw0 ▸ (((Below.refl _ w).alloc (Nat.le_refl _) _).alloc (by simp) _).alloc (by simp; omega) _
  have HV := Lib.hid hV
  have HB := Lib.hid hB0
  have hba := fun W => addD_any b a W
  have hbm := fun W => mulD_any b a W
  have hsu : (addO a b).2 = 0 → ∀ W, Calls Tryz.prog 34 #[aF (addO a b).1, aF b] W (Gives W (.tuple #[aF a, .int .i64 0])) := fun h W => by
    have h2 := subD_any (addO a b).1 b W
    rw [subO_eq, addO_eq, sub_add (by rw [← addO_eq]; exact h)] at h2
    rwa [addO_eq]
  rw [show addO b a = addO a b from by rw [addO_eq, addO_eq, addF_comm]] at hba
  rw [show mulO b a = mulO a b from by rw [mulO_eq, mulO_eq, mulF_comm]] at hbm
  have hab := fun W => addD_any a b W
  have ham := fun W => mulD_any a b W
  have hac := fun W => addD_any a c W
  have hbc := fun W => addD_any b c W
  have hcm : (addO a c).2 = 0 → (addO b c).2 = 0 → (cmpF (addO a c).1 (addO b c).1 == cmpF a b) = true := fun h1 h2 => by
    rw [addO_eq] at h1 h2
    rw [addO_eq, addO_eq, cmp_add h1 h2]
    simp
  have hneg : IntKind.i64.wrap (-cmpF b a) = cmpF a b := by
    have h1 := cmp_small b a
    have h2 := cmpF_anti a b
    rw [IntKind.wrap_i64]
    omega
  generalize addO a b = ab at *
  generalize mulO a b = mb at *
  generalize addO a c = ac at *
  generalize addO b c = bc at *
  obtain ⟨s, es⟩ := ab
  obtain ⟨p, ep⟩ := mb
  obtain ⟨u, eu⟩ := ac
  obtain ⟨v, ev⟩ := bc
  dsimp only at *
  have Hcmp := Lib.hid hcm
  have Hsu := Lib.hid hsu
  have Hk3 := Lib.hid k3
  have Hk4 := Lib.hid k4
  have Hk5 := Lib.hid k5
  clear hcm hsu k3 k4 k5 hB0 hV
  go_enter Tryz.func8, Tryz.ntmps8
  go_upto_region 1 with fail
  rw [← hw0]
  clear hw0
  obtain ⟨b3, hb3⟩ : ∃ b, b = w.heap.size := ⟨_, rfl⟩
  obtain ⟨b4, hb4⟩ : ∃ b, b = w.heap.size + 1 := ⟨_, rfl⟩
  obtain ⟨b5, hb5⟩ : ∃ b, b = w.heap.size + 1 + 1 := ⟨_, rfl⟩
  rw [← hb5] at Hk5 ⊢
  rw [← hb4] at Hk4 ⊢
  rw [← hb3] at Hk3 ⊢
  clear hb3 hb4 hb5
  have cx := Hk3.out.cell
  have cy := Hk4.out.cell
  go_wp2_with (fail)
  refine (hab _).mono ?_
  rintro e w1 ⟨rfl, hB1⟩
  clear cx cy
  replace Hk3 := Lib.hid (Hk3.out.below' hB1)
  replace Hk4 := Lib.hid (Hk4.out.below' hB1)
  replace Hk5 := Lib.hid (Hk5.out.below' hB1)
  replace HB := Lib.hid (HB.out.trans (hB1.mono HB.out.size))
  clear hB1
  obtain ⟨w2, hww2⟩ : ∃ x, x = w1.alloc (.cells #[.int .i64 s.num, .int .i64 s.den] 25) := ⟨_, rfl⟩
  have kn : Blk w2 w1.heap.size #[.int .i64 s.num, .int .i64 s.den] 25 := hww2 ▸ Blk.new _ _ _
  have hB2 : RowKit.Below w1.heap.size w1 w2 := hww2 ▸ (Below.refl _ _).alloc (Nat.le_refl _) _
  go_upto_region 2 with fail
  rw [← hww2]
  clear hww2
  obtain ⟨b7, hb7⟩ : ∃ b, b = w1.heap.size := ⟨_, rfl⟩
  rw [← hb7] at kn ⊢
  clear hb7
  have Hk7 := Lib.hid kn
  clear kn
  replace Hk3 := Lib.hid (Hk3.out.below' hB2)
  replace Hk4 := Lib.hid (Hk4.out.below' hB2)
  replace Hk5 := Lib.hid (Hk5.out.below' hB2)
  replace HB := Lib.hid (HB.out.trans (hB2.mono HB.out.size))
  clear hB2
  have cx := Hk4.out.cell
  have cy := Hk3.out.cell
  go_wp2_with (fail)
  refine (hba _).mono ?_
  rintro e w3 ⟨rfl, hB3⟩
  clear cx cy
  replace Hk3 := Lib.hid (Hk3.out.below' hB3)
  replace Hk4 := Lib.hid (Hk4.out.below' hB3)
  replace Hk5 := Lib.hid (Hk5.out.below' hB3)
  replace Hk7 := Lib.hid (Hk7.out.below' hB3)
  replace HB := Lib.hid (HB.out.trans (hB3.mono HB.out.size))
  clear hB3
  obtain ⟨w4, hww4⟩ : ∃ x, x = w3.alloc (.cells #[.int .i64 s.num, .int .i64 s.den] 25) := ⟨_, rfl⟩
  have kn : Blk w4 w3.heap.size #[.int .i64 s.num, .int .i64 s.den] 25 := hww4 ▸ Blk.new _ _ _
  have hB4 : RowKit.Below w3.heap.size w3 w4 := hww4 ▸ (Below.refl _ _).alloc (Nat.le_refl _) _
  go_upto_region 3 with fail
  rw [← hww4]
  clear hww4
  obtain ⟨b9, hb9⟩ : ∃ b, b = w3.heap.size := ⟨_, rfl⟩
  rw [← hb9] at kn ⊢
  clear hb9
  have Hk9 := Lib.hid kn
  clear kn
  replace Hk3 := Lib.hid (Hk3.out.below' hB4)
  replace Hk4 := Lib.hid (Hk4.out.below' hB4)
  replace Hk5 := Lib.hid (Hk5.out.below' hB4)
  replace Hk7 := Lib.hid (Hk7.out.below' hB4)
  replace HB := Lib.hid (HB.out.trans (hB4.mono HB.out.size))
  clear hB4
  have cx := Hk3.out.cell
  have cy := Hk4.out.cell
  go_wp2_with (fail)
  refine (ham _).mono ?_
  rintro e w5 ⟨rfl, hB5⟩
  clear cx cy
  replace Hk3 := Lib.hid (Hk3.out.below' hB5)
  replace Hk4 := Lib.hid (Hk4.out.below' hB5)
  replace Hk5 := Lib.hid (Hk5.out.below' hB5)
  replace Hk7 := Lib.hid (Hk7.out.below' hB5)
  replace Hk9 := Lib.hid (Hk9.out.below' hB5)
  replace HB := Lib.hid (HB.out.trans (hB5.mono HB.out.size))
  clear hB5
  obtain ⟨w6, hww6⟩ : ∃ x, x = w5.alloc (.cells #[.int .i64 p.num, .int .i64 p.den] 25) := ⟨_, rfl⟩
  have kn : Blk w6 w5.heap.size #[.int .i64 p.num, .int .i64 p.den] 25 := hww6 ▸ Blk.new _ _ _
  have hB6 : RowKit.Below w5.heap.size w5 w6 := hww6 ▸ (Below.refl _ _).alloc (Nat.le_refl _) _
  go_upto_region 4 with fail
  rw [← hww6]
  clear hww6
  obtain ⟨b11, hb11⟩ : ∃ b, b = w5.heap.size := ⟨_, rfl⟩
  rw [← hb11] at kn ⊢
  clear hb11
  have Hk11 := Lib.hid kn
  clear kn
  replace Hk3 := Lib.hid (Hk3.out.below' hB6)
  replace Hk4 := Lib.hid (Hk4.out.below' hB6)
  replace Hk5 := Lib.hid (Hk5.out.below' hB6)
  replace Hk7 := Lib.hid (Hk7.out.below' hB6)
  replace Hk9 := Lib.hid (Hk9.out.below' hB6)
  replace HB := Lib.hid (HB.out.trans (hB6.mono HB.out.size))
  clear hB6
  have cx := Hk4.out.cell
  have cy := Hk3.out.cell
  go_wp2_with (fail)
  refine (hbm _).mono ?_
  rintro e w7 ⟨rfl, hB7⟩
  clear cx cy
  replace Hk3 := Lib.hid (Hk3.out.below' hB7)
  replace Hk4 := Lib.hid (Hk4.out.below' hB7)
  replace Hk5 := Lib.hid (Hk5.out.below' hB7)
  replace Hk7 := Lib.hid (Hk7.out.below' hB7)
  replace Hk9 := Lib.hid (Hk9.out.below' hB7)
  replace Hk11 := Lib.hid (Hk11.out.below' hB7)
  replace HB := Lib.hid (HB.out.trans (hB7.mono HB.out.size))
  clear hB7
  obtain ⟨w8, hww8⟩ : ∃ x, x = w7.alloc (.cells #[.int .i64 p.num, .int .i64 p.den] 25) := ⟨_, rfl⟩
  have kn : Blk w8 w7.heap.size #[.int .i64 p.num, .int .i64 p.den] 25 := hww8 ▸ Blk.new _ _ _
  have hB8 : RowKit.Below w7.heap.size w7 w8 := hww8 ▸ (Below.refl _ _).alloc (Nat.le_refl _) _
  go_upto_region 5 with fail
  rw [← hww8]
  clear hww8
  obtain ⟨b13, hb13⟩ : ∃ b, b = w7.heap.size := ⟨_, rfl⟩
  rw [← hb13] at kn ⊢
  clear hb13
  have Hk13 := Lib.hid kn
  clear kn
  replace Hk3 := Lib.hid (Hk3.out.below' hB8)
  replace Hk4 := Lib.hid (Hk4.out.below' hB8)
  replace Hk5 := Lib.hid (Hk5.out.below' hB8)
  replace Hk7 := Lib.hid (Hk7.out.below' hB8)
  replace Hk9 := Lib.hid (Hk9.out.below' hB8)
  replace Hk11 := Lib.hid (Hk11.out.below' hB8)
  replace HB := Lib.hid (HB.out.trans (hB8.mono HB.out.size))
  clear hB8
  have HF7 := Lib.hid (fun W' (h : RowKit.Below w8.heap.size w8 W') => Hk7.out.below' h)
  have HF9 := Lib.hid (fun W' (h : RowKit.Below w8.heap.size w8 W') => Hk9.out.below' h)
  have HF11 := Lib.hid (fun W' (h : RowKit.Below w8.heap.size w8 W') => Hk11.out.below' h)
  have HF13 := Lib.hid (fun W' (h : RowKit.Below w8.heap.size w8 W') => Hk13.out.below' h)
  have HF3 := Lib.hid (fun W' (h : RowKit.Below w8.heap.size w8 W') => Hk3.out.below' h)
  have HF4 := Lib.hid (fun W' (h : RowKit.Below w8.heap.size w8 W') => Hk4.out.below' h)
  go_cut [72] from 999 (fun cc W' => cc = .bool false ∧ RowKit.Below w8.heap.size w8 W')
  case first =>
    refine wp_region_T (fun W' => RowKit.Below w8.heap.size w8 W') (fun _ => True) 99 (by kernel_rfl) (Below.refl _ _).drew trivial (fun hS hT => ?_)
    refine wpAnyT_takeS (i := 0) (v := .agg (cF s).toArray) rfl (by kernel_rfl) (by kernel_rfl) (by kernel_rfl) rfl (fun _ _ _ h => h) (yields_load 25 (.tmp 7) rfl b7 (0) (by kernel_rfl) (cF s) _ (by kernel_rfl) (fun W hW => ((HF7.out W hW).range 0 _ (fun j v h => by simpa using h))) Tryz.underlying25 rfl (by kernel_rfl)) hS (fun _ => trivial) ?_
    try simp only [List.getElem_toArray, List.getElem_cons_zero]
    try dsimp only
    try simp only [Act.put, List.setIfInBounds_toArray, List.set_cons_zero, List.set_cons_succ]
    refine wpAnyT_takeS (i := 1) (v := .agg (cF s).toArray) rfl (by kernel_rfl) (by kernel_rfl) (by kernel_rfl) rfl (fun _ _ _ h => h) (yields_load 25 (.tmp 9) rfl b9 (0) (by kernel_rfl) (cF s) _ (by kernel_rfl) (fun W hW => ((HF9.out W hW).range 0 _ (fun j v h => by simpa using h))) Tryz.underlying25 rfl (by kernel_rfl)) hS (fun _ => trivial) ?_
    try simp only [List.getElem_toArray, List.getElem_cons_succ, List.getElem_cons_zero]
    try dsimp only
    try simp only [Act.put, List.setIfInBounds_toArray, List.set_cons_zero, List.set_cons_succ]
    refine wpAnyT_takeS (i := 2) (v := .bool false) rfl (by kernel_rfl) (by kernel_rfl) (by kernel_rfl) rfl (fun _ _ _ h => h) (Or.inl ⟨by kernel_rfl, fun W hW => by show Sem.run Tryz.prog (execOp _ _) W = _; unfold execOp; have e := neqFf s W; have g := run_eqGuard_agg W BinOp.neq 25 (.tmp 45) (.tmp 46) (cF s).toArray (cF s).toArray guardF; simp only [Act.eval] at *; simp [e, g, Sem.run_bind, Result.andThen]⟩) hS (fun _ => trivial) ?_
    try simp only [List.getElem_toArray, List.getElem_cons_succ, List.getElem_cons_zero]
    try dsimp only
    try simp only [Act.put, List.setIfInBounds_toArray, List.set_cons_zero, List.set_cons_succ]
    refine wpAnyT_takeS (i := 3) (v := .bool false) rfl (by kernel_rfl) (by kernel_rfl) (by kernel_rfl) rfl (fun _ _ _ h => h) (Or.inl ⟨by kernel_rfl, fun _ _ => by kernel_rfl⟩) hS (fun _ => trivial) ?_
    try simp only [List.getElem_toArray, List.getElem_cons_succ, List.getElem_cons_zero]
    try dsimp only
    try simp only [Act.put, List.setIfInBounds_toArray, List.set_cons_zero, List.set_cons_succ]
    refine wpAnyT_takeS (i := 4) (v := .int .i64 es) rfl (by kernel_rfl) (by kernel_rfl) (by kernel_rfl) rfl (fun _ _ _ h => h) (Or.inl ⟨by kernel_rfl, fun _ _ => by kernel_rfl⟩) hS (fun _ => trivial) ?_
    try simp only [List.getElem_toArray, List.getElem_cons_succ, List.getElem_cons_zero]
    try dsimp only
    try simp only [Act.put, List.setIfInBounds_toArray, List.set_cons_zero, List.set_cons_succ]
    refine wpAnyT_takeS (i := 5) (v := .int .i64 es) rfl (by kernel_rfl) (by kernel_rfl) (by kernel_rfl) rfl (fun _ _ _ h => h) (Or.inl ⟨by kernel_rfl, fun _ _ => by kernel_rfl⟩) hS (fun _ => trivial) ?_
    try simp only [List.getElem_toArray, List.getElem_cons_succ, List.getElem_cons_zero]
    try dsimp only
    try simp only [Act.put, List.setIfInBounds_toArray, List.set_cons_zero, List.set_cons_succ]
    refine wpAnyT_takeS (i := 6) (v := .bool false) rfl (by kernel_rfl) (by kernel_rfl) (by kernel_rfl) rfl (fun _ _ _ h => h) (Or.inl ⟨by kernel_rfl, fun W hW => by go_simp⟩) hS (fun _ => trivial) ?_
    try simp only [List.getElem_toArray, List.getElem_cons_succ, List.getElem_cons_zero]
    try dsimp only
    try simp only [Act.put, List.setIfInBounds_toArray, List.set_cons_zero, List.set_cons_succ]
    refine wpAnyT_takeS (i := 7) (v := .bool false) rfl (by kernel_rfl) (by kernel_rfl) (by kernel_rfl) rfl (fun _ _ _ h => h) (Or.inl ⟨by kernel_rfl, fun W hW => by go_simp⟩) hS (fun _ => trivial) ?_
    try simp only [List.getElem_toArray, List.getElem_cons_succ, List.getElem_cons_zero]
    try dsimp only
    try simp only [Act.put, List.setIfInBounds_toArray, List.set_cons_zero, List.set_cons_succ]
    refine wpAnyT_takeS (i := 8) (v := .bool false) rfl (by kernel_rfl) (by kernel_rfl) (by kernel_rfl) rfl (fun _ _ _ h => h) (Or.inl ⟨by kernel_rfl, fun _ _ => by kernel_rfl⟩) hS (fun _ => trivial) ?_
    try simp only [List.getElem_toArray, List.getElem_cons_succ, List.getElem_cons_zero]
    try dsimp only
    try simp only [Act.put, List.setIfInBounds_toArray, List.set_cons_zero, List.set_cons_succ]
    refine wpAnyT_takeS (i := 9) (v := .agg (cF p).toArray) rfl (by kernel_rfl) (by kernel_rfl) (by kernel_rfl) rfl (fun _ _ _ h => h) (yields_load 25 (.tmp 11) rfl b11 (0) (by kernel_rfl) (cF p) _ (by kernel_rfl) (fun W hW => ((HF11.out W hW).range 0 _ (fun j v h => by simpa using h))) Tryz.underlying25 rfl (by kernel_rfl)) hS (fun _ => trivial) ?_
    try simp only [List.getElem_toArray, List.getElem_cons_succ, List.getElem_cons_zero]
    try dsimp only
    try simp only [Act.put, List.setIfInBounds_toArray, List.set_cons_zero, List.set_cons_succ]
    refine wpAnyT_takeS (i := 10) (v := .agg (cF p).toArray) rfl (by kernel_rfl) (by kernel_rfl) (by kernel_rfl) rfl (fun _ _ _ h => h) (yields_load 25 (.tmp 13) rfl b13 (0) (by kernel_rfl) (cF p) _ (by kernel_rfl) (fun W hW => ((HF13.out W hW).range 0 _ (fun j v h => by simpa using h))) Tryz.underlying25 rfl (by kernel_rfl)) hS (fun _ => trivial) ?_
    try simp only [List.getElem_toArray, List.getElem_cons_succ, List.getElem_cons_zero]
    try dsimp only
    try simp only [Act.put, List.setIfInBounds_toArray, List.set_cons_zero, List.set_cons_succ]
    refine wpAnyT_takeS (i := 11) (v := .bool false) rfl (by kernel_rfl) (by kernel_rfl) (by kernel_rfl) rfl (fun _ _ _ h => h) (Or.inl ⟨by kernel_rfl, fun W hW => by show Sem.run Tryz.prog (execOp _ _) W = _; unfold execOp; have e := neqFf p W; have g := run_eqGuard_agg W BinOp.neq 25 (.tmp 54) (.tmp 55) (cF p).toArray (cF p).toArray guardF; simp only [Act.eval] at *; simp [e, g, Sem.run_bind, Result.andThen]⟩) hS (fun _ => trivial) ?_
    try simp only [List.getElem_toArray, List.getElem_cons_succ, List.getElem_cons_zero]
    try dsimp only
    try simp only [Act.put, List.setIfInBounds_toArray, List.set_cons_zero, List.set_cons_succ]
    refine wpAnyT_takeS (i := 12) (v := .bool false) rfl (by kernel_rfl) (by kernel_rfl) (by kernel_rfl) rfl (fun _ _ _ h => h) (Or.inl ⟨by kernel_rfl, fun W hW => by go_simp⟩) hS (fun _ => trivial) ?_
    try simp only [List.getElem_toArray, List.getElem_cons_succ, List.getElem_cons_zero]
    try dsimp only
    try simp only [Act.put, List.setIfInBounds_toArray, List.set_cons_zero, List.set_cons_succ]
    refine wpAnyT_takeS (i := 13) (v := .bool false) rfl (by kernel_rfl) (by kernel_rfl) (by kernel_rfl) rfl (fun _ _ _ h => h) (Or.inl ⟨by kernel_rfl, fun _ _ => by kernel_rfl⟩) hS (fun _ => trivial) ?_
    try simp only [List.getElem_toArray, List.getElem_cons_succ, List.getElem_cons_zero]
    try dsimp only
    try simp only [Act.put, List.setIfInBounds_toArray, List.set_cons_zero, List.set_cons_succ]
    refine wpAnyT_takeS (i := 14) (v := .int .i64 ep) rfl (by kernel_rfl) (by kernel_rfl) (by kernel_rfl) rfl (fun _ _ _ h => h) (Or.inl ⟨by kernel_rfl, fun _ _ => by kernel_rfl⟩) hS (fun _ => trivial) ?_
    try simp only [List.getElem_toArray, List.getElem_cons_succ, List.getElem_cons_zero]
    try dsimp only
    try simp only [Act.put, List.setIfInBounds_toArray, List.set_cons_zero, List.set_cons_succ]
    refine wpAnyT_takeS (i := 15) (v := .int .i64 ep) rfl (by kernel_rfl) (by kernel_rfl) (by kernel_rfl) rfl (fun _ _ _ h => h) (Or.inl ⟨by kernel_rfl, fun _ _ => by kernel_rfl⟩) hS (fun _ => trivial) ?_
    try simp only [List.getElem_toArray, List.getElem_cons_succ, List.getElem_cons_zero]
    try dsimp only
    try simp only [Act.put, List.setIfInBounds_toArray, List.set_cons_zero, List.set_cons_succ]
    refine wpAnyT_takeS (i := 16) (v := .bool false) rfl (by kernel_rfl) (by kernel_rfl) (by kernel_rfl) rfl (fun _ _ _ h => h) (Or.inl ⟨by kernel_rfl, fun W hW => by go_simp⟩) hS (fun _ => trivial) ?_
    try simp only [List.getElem_toArray, List.getElem_cons_succ, List.getElem_cons_zero]
    try dsimp only
    try simp only [Act.put, List.setIfInBounds_toArray, List.set_cons_zero, List.set_cons_succ]
    refine wpAnyT_takeS (i := 17) (v := .bool false) rfl (by kernel_rfl) (by kernel_rfl) (by kernel_rfl) rfl (fun _ _ _ h => h) (Or.inl ⟨by kernel_rfl, fun W hW => by go_simp⟩) hS (fun _ => trivial) ?_
    try simp only [List.getElem_toArray, List.getElem_cons_succ, List.getElem_cons_zero]
    try dsimp only
    try simp only [Act.put, List.setIfInBounds_toArray, List.set_cons_zero, List.set_cons_succ]
    refine wpAnyT_takeS (i := 18) (v := .bool false) rfl (by kernel_rfl) (by kernel_rfl) (by kernel_rfl) rfl (fun _ _ _ h => h) (Or.inl ⟨by kernel_rfl, fun _ _ => by kernel_rfl⟩) hS (fun _ => trivial) ?_
    try simp only [List.getElem_toArray, List.getElem_cons_succ, List.getElem_cons_zero]
    try dsimp only
    try simp only [Act.put, List.setIfInBounds_toArray, List.set_cons_zero, List.set_cons_succ]
    refine wpAnyT_takeS (i := 19) (v := .agg (cF a).toArray) rfl (by kernel_rfl) (by kernel_rfl) (by kernel_rfl) rfl (fun _ _ _ h => h) (yields_load 25 (.tmp 3) rfl b3 (0) (by kernel_rfl) (cF a) _ (by kernel_rfl) (fun W hW => ((HF3.out W hW).range 0 _ (fun j v h => by simpa using h))) Tryz.underlying25 rfl (by kernel_rfl)) hS (fun _ => trivial) ?_
    try simp only [List.getElem_toArray, List.getElem_cons_succ, List.getElem_cons_zero]
    try dsimp only
    try simp only [Act.put, List.setIfInBounds_toArray, List.set_cons_zero, List.set_cons_succ]
    refine wpAnyT_takeS (i := 20) (v := .agg (cF b).toArray) rfl (by kernel_rfl) (by kernel_rfl) (by kernel_rfl) rfl (fun _ _ _ h => h) (yields_load 25 (.tmp 4) rfl b4 (0) (by kernel_rfl) (cF b) _ (by kernel_rfl) (fun W hW => ((HF4.out W hW).range 0 _ (fun j v h => by simpa using h))) Tryz.underlying25 rfl (by kernel_rfl)) hS (fun _ => trivial) ?_
    try simp only [List.getElem_toArray, List.getElem_cons_succ, List.getElem_cons_zero]
    try dsimp only
    try simp only [Act.put, List.setIfInBounds_toArray, List.set_cons_zero, List.set_cons_succ]
    refine wpAnyT_takeS (i := 22) (v := .agg (cF b).toArray) rfl (by kernel_rfl) (by kernel_rfl) (by kernel_rfl) rfl (fun _ _ _ h => h) (yields_load 25 (.tmp 4) rfl b4 (0) (by kernel_rfl) (cF b) _ (by kernel_rfl) (fun W hW => ((HF4.out W hW).range 0 _ (fun j v h => by simpa using h))) Tryz.underlying25 rfl (by kernel_rfl)) hS (fun _ => trivial) ?_
    try simp only [List.getElem_toArray, List.getElem_cons_succ, List.getElem_cons_zero]
    try dsimp only
    try simp only [Act.put, List.setIfInBounds_toArray, List.set_cons_zero, List.set_cons_succ]
    refine wpAnyT_takeS (i := 23) (v := .agg (cF a).toArray) rfl (by kernel_rfl) (by kernel_rfl) (by kernel_rfl) rfl (fun _ _ _ h => h) (yields_load 25 (.tmp 3) rfl b3 (0) (by kernel_rfl) (cF a) _ (by kernel_rfl) (fun W hW => ((HF3.out W hW).range 0 _ (fun j v h => by simpa using h))) Tryz.underlying25 rfl (by kernel_rfl)) hS (fun _ => trivial) ?_
    try simp only [List.getElem_toArray, List.getElem_cons_succ, List.getElem_cons_zero]
    try dsimp only
    try simp only [Act.put, List.setIfInBounds_toArray, List.set_cons_zero, List.set_cons_succ]
    refine wpAnyT_one (j := 21) rfl (by kernel_rfl) (by kernel_rfl) (fun K hK => ?_)
    go_simp
    refine (compareD_any a b _).mono ?_
    rintro e wqhS2 ⟨rfl, hqhS2⟩
    have hS2 := hS.trans (hqhS2.mono hS.size)
    refine hK.out _ _ hS2 (fun _ => trivial) ?_
    try simp only [List.getElem_toArray, List.getElem_cons_succ, List.getElem_cons_zero]
    try dsimp only
    try simp only [Act.put, List.setIfInBounds_toArray, List.set_cons_zero, List.set_cons_succ]
    refine wpAnyT_one (j := 24) rfl (by kernel_rfl) (by kernel_rfl) (fun K hK => ?_)
    go_simp
    refine (compareD_any b a _).mono ?_
    rintro e wqhS3 ⟨rfl, hqhS3⟩
    have hS3 := hS2.trans (hqhS3.mono hS2.size)
    refine hK.out _ _ hS3 (fun _ => trivial) ?_
    try simp only [List.getElem_toArray, List.getElem_cons_succ, List.getElem_cons_zero]
    try dsimp only
    try simp only [Act.put, List.setIfInBounds_toArray, List.set_cons_zero, List.set_cons_succ]
    refine wpAnyT_takeS (i := 25) (v := .int .i64 (cmpF a b)) rfl (by kernel_rfl) (by kernel_rfl) (by kernel_rfl) rfl (fun _ _ _ h => h) (Or.inl ⟨by kernel_rfl, fun W hW => by go_simp⟩) hS3 (fun _ => trivial) ?_
    try simp only [List.getElem_toArray, List.getElem_cons_succ, List.getElem_cons_zero]
    try dsimp only
    try simp only [Act.put, List.setIfInBounds_toArray, List.set_cons_zero, List.set_cons_succ]
    refine wpAnyT_takeS (i := 26) (v := .bool false) rfl (by kernel_rfl) (by kernel_rfl) (by kernel_rfl) rfl (fun _ _ _ h => h) (Or.inl ⟨by kernel_rfl, fun W hW => by go_simp⟩) hS3 (fun _ => trivial) ?_
    try simp only [List.getElem_toArray, List.getElem_cons_succ, List.getElem_cons_zero]
    try dsimp only
    try simp only [Act.put, List.setIfInBounds_toArray, List.set_cons_zero, List.set_cons_succ]
    refine wpAnyT_takeS (i := 27) (v := .bool false) rfl (by kernel_rfl) (by kernel_rfl) (by kernel_rfl) rfl (fun _ _ _ h => h) (Or.inl ⟨by kernel_rfl, fun W hW => by go_simp⟩) hS3 (fun _ => trivial) ?_
    try simp only [List.getElem_toArray, List.getElem_cons_succ, List.getElem_cons_zero]
    try dsimp only
    try simp only [Act.put, List.setIfInBounds_toArray, List.set_cons_zero, List.set_cons_succ]
    refine wpAnyT_done (by kernel_rfl) ?_ _
    go_wp2_with fail
    go_meet
    exact ⟨rfl, hS3⟩
  obtain ⟨rfl, hc0⟩ := hcut
  obtain ⟨w9, hw0⟩ : ∃ x, x = wc := ⟨_, rfl⟩
  subst hw0
  have hB9 := hc0
  clear hc0 HF7 HF9 HF11 HF13 HF3 HF4
  replace Hk3 := Lib.hid (Hk3.out.below' hB9)
  replace Hk4 := Lib.hid (Hk4.out.below' hB9)
  replace Hk5 := Lib.hid (Hk5.out.below' hB9)
  replace Hk7 := Lib.hid (Hk7.out.below' hB9)
  replace Hk9 := Lib.hid (Hk9.out.below' hB9)
  replace Hk11 := Lib.hid (Hk11.out.below' hB9)
  replace Hk13 := Lib.hid (Hk13.out.below' hB9)
  replace HB := Lib.hid (HB.out.trans (hB9.mono HB.out.size))
  clear hB9
  by_cases h0 : es = 0
  · have hsu := Hsu.out h0
    subst h0
    go_upto_region 8 with fail
    have cx := Hk7.out.cell
    have cy := Hk4.out.cell
    go_wp2_with (fail)
    refine (hsu _).mono ?_
    rintro e w10 ⟨rfl, hB10⟩
    clear cx cy
    replace Hk3 := Lib.hid (Hk3.out.below' hB10)
    replace Hk4 := Lib.hid (Hk4.out.below' hB10)
    replace Hk5 := Lib.hid (Hk5.out.below' hB10)
    replace Hk7 := Lib.hid (Hk7.out.below' hB10)
    replace Hk9 := Lib.hid (Hk9.out.below' hB10)
    replace Hk11 := Lib.hid (Hk11.out.below' hB10)
    replace Hk13 := Lib.hid (Hk13.out.below' hB10)
    replace HB := Lib.hid (HB.out.trans (hB10.mono HB.out.size))
    clear hB10
    obtain ⟨w11, hww11⟩ : ∃ x, x = w10.alloc (.cells #[.int .i64 a.num, .int .i64 a.den] 25) := ⟨_, rfl⟩
    have kn : Blk w11 w10.heap.size #[.int .i64 a.num, .int .i64 a.den] 25 := hww11 ▸ Blk.new _ _ _
    have hB11 : RowKit.Below w10.heap.size w10 w11 := hww11 ▸ (Below.refl _ _).alloc (Nat.le_refl _) _
    go_upto_region 9 with fail
    rw [← hww11]
    clear hww11
    obtain ⟨b15, hb15⟩ : ∃ b, b = w10.heap.size := ⟨_, rfl⟩
    rw [← hb15] at kn ⊢
    clear hb15
    have Hk15 := Lib.hid kn
    clear kn
    replace Hk3 := Lib.hid (Hk3.out.below' hB11)
    replace Hk4 := Lib.hid (Hk4.out.below' hB11)
    replace Hk5 := Lib.hid (Hk5.out.below' hB11)
    replace Hk7 := Lib.hid (Hk7.out.below' hB11)
    replace Hk9 := Lib.hid (Hk9.out.below' hB11)
    replace Hk11 := Lib.hid (Hk11.out.below' hB11)
    replace Hk13 := Lib.hid (Hk13.out.below' hB11)
    replace HB := Lib.hid (HB.out.trans (hB11.mono HB.out.size))
    clear hB11
    have cx := Hk15.out.cell
    have cy := Hk3.out.cell
    go_upto_region 11 with fail
    clear cx cy
    have cx := Hk3.out.cell
    have cy := Hk5.out.cell
    go_wp2_with (fail)
    refine (hac _).mono ?_
    rintro e w12 ⟨rfl, hB12⟩
    clear cx cy
    replace Hk3 := Lib.hid (Hk3.out.below' hB12)
    replace Hk4 := Lib.hid (Hk4.out.below' hB12)
    replace Hk5 := Lib.hid (Hk5.out.below' hB12)
    replace Hk7 := Lib.hid (Hk7.out.below' hB12)
    replace Hk9 := Lib.hid (Hk9.out.below' hB12)
    replace Hk11 := Lib.hid (Hk11.out.below' hB12)
    replace Hk13 := Lib.hid (Hk13.out.below' hB12)
    replace Hk15 := Lib.hid (Hk15.out.below' hB12)
    replace HB := Lib.hid (HB.out.trans (hB12.mono HB.out.size))
    clear hB12
    obtain ⟨w13, hww13⟩ : ∃ x, x = w12.alloc (.cells #[.int .i64 u.num, .int .i64 u.den] 25) := ⟨_, rfl⟩
    have kn : Blk w13 w12.heap.size #[.int .i64 u.num, .int .i64 u.den] 25 := hww13 ▸ Blk.new _ _ _
    have hB13 : RowKit.Below w12.heap.size w12 w13 := hww13 ▸ (Below.refl _ _).alloc (Nat.le_refl _) _
    go_upto_region 12 with fail
    rw [← hww13]
    clear hww13
    obtain ⟨b17, hb17⟩ : ∃ b, b = w12.heap.size := ⟨_, rfl⟩
    rw [← hb17] at kn ⊢
    clear hb17
    have Hk17 := Lib.hid kn
    clear kn
    replace Hk3 := Lib.hid (Hk3.out.below' hB13)
    replace Hk4 := Lib.hid (Hk4.out.below' hB13)
    replace Hk5 := Lib.hid (Hk5.out.below' hB13)
    replace Hk7 := Lib.hid (Hk7.out.below' hB13)
    replace Hk9 := Lib.hid (Hk9.out.below' hB13)
    replace Hk11 := Lib.hid (Hk11.out.below' hB13)
    replace Hk13 := Lib.hid (Hk13.out.below' hB13)
    replace Hk15 := Lib.hid (Hk15.out.below' hB13)
    replace HB := Lib.hid (HB.out.trans (hB13.mono HB.out.size))
    clear hB13
    have cx := Hk4.out.cell
    have cy := Hk5.out.cell
    go_wp2_with (fail)
    refine (hbc _).mono ?_
    rintro e w14 ⟨rfl, hB14⟩
    clear cx cy
    replace Hk3 := Lib.hid (Hk3.out.below' hB14)
    replace Hk4 := Lib.hid (Hk4.out.below' hB14)
    replace Hk5 := Lib.hid (Hk5.out.below' hB14)
    replace Hk7 := Lib.hid (Hk7.out.below' hB14)
    replace Hk9 := Lib.hid (Hk9.out.below' hB14)
    replace Hk11 := Lib.hid (Hk11.out.below' hB14)
    replace Hk13 := Lib.hid (Hk13.out.below' hB14)
    replace Hk15 := Lib.hid (Hk15.out.below' hB14)
    replace Hk17 := Lib.hid (Hk17.out.below' hB14)
    replace HB := Lib.hid (HB.out.trans (hB14.mono HB.out.size))
    clear hB14
    obtain ⟨w15, hww15⟩ : ∃ x, x = w14.alloc (.cells #[.int .i64 v.num, .int .i64 v.den] 25) := ⟨_, rfl⟩
    have kn : Blk w15 w14.heap.size #[.int .i64 v.num, .int .i64 v.den] 25 := hww15 ▸ Blk.new _ _ _
    have hB15 : RowKit.Below w14.heap.size w14 w15 := hww15 ▸ (Below.refl _ _).alloc (Nat.le_refl _) _
    go_upto_region 13 with fail
    rw [← hww15]
    clear hww15
    obtain ⟨b19, hb19⟩ : ∃ b, b = w14.heap.size := ⟨_, rfl⟩
    rw [← hb19] at kn ⊢
    clear hb19
    have Hk19 := Lib.hid kn
    clear kn
    replace Hk3 := Lib.hid (Hk3.out.below' hB15)
    replace Hk4 := Lib.hid (Hk4.out.below' hB15)
    replace Hk5 := Lib.hid (Hk5.out.below' hB15)
    replace Hk7 := Lib.hid (Hk7.out.below' hB15)
    replace Hk9 := Lib.hid (Hk9.out.below' hB15)
    replace Hk11 := Lib.hid (Hk11.out.below' hB15)
    replace Hk13 := Lib.hid (Hk13.out.below' hB15)
    replace Hk15 := Lib.hid (Hk15.out.below' hB15)
    replace Hk17 := Lib.hid (Hk17.out.below' hB15)
    replace HB := Lib.hid (HB.out.trans (hB15.mono HB.out.size))
    clear hB15
    have HF17 := Lib.hid (fun W' (h : RowKit.Below w15.heap.size w15 W') => Hk17.out.below' h)
    have HF19 := Lib.hid (fun W' (h : RowKit.Below w15.heap.size w15 W') => Hk19.out.below' h)
    have HF3 := Lib.hid (fun W' (h : RowKit.Below w15.heap.size w15 W') => Hk3.out.below' h)
    have HF4 := Lib.hid (fun W' (h : RowKit.Below w15.heap.size w15 W') => Hk4.out.below' h)
    have hal := fun W' (h : RowKit.Below w15.heap.size w15 W') => alive_any W' (HV.out.below (HB.out.trans (h.mono HB.out.size)))
    by_cases hu : eu = 0
    · by_cases hv : ev = 0
      · have heqc := Hcmp.out hu hv
        subst hu hv
        refine wp_region_T (fun W' => RowKit.Below w15.heap.size w15 W') (fun _ => True) 99 (by kernel_rfl) (Below.refl _ _).drew trivial (fun hS hT => ?_)
        refine wpAnyT_one (j := 0) rfl (by kernel_rfl) (by kernel_rfl) (fun K hK => ?_)
        go_simp
        refine (hal _ hS).mono ?_
        rintro e wal ⟨rfl, hqa⟩
        have hSa := hS.trans (hqa.mono hS.size)
        refine hK.out _ _ hSa (fun _ => trivial) ?_
        try simp only [List.getElem_toArray, List.getElem_cons_succ, List.getElem_cons_zero]
        try dsimp only
        try simp only [Act.put, List.setIfInBounds_toArray, List.set_cons_zero, List.set_cons_succ]
        refine wpAnyT_takeS (i := 1) (v := .bool true) rfl (by kernel_rfl) (by kernel_rfl) (by kernel_rfl) rfl (fun _ _ _ h => h) (Or.inl ⟨by kernel_rfl, fun _ _ => by kernel_rfl⟩) hSa (fun _ => trivial) ?_
        try simp only [List.getElem_toArray, List.getElem_cons_succ, List.getElem_cons_zero]
        try dsimp only
        try simp only [Act.put, List.setIfInBounds_toArray, List.set_cons_zero, List.set_cons_succ]
        refine wpAnyT_takeS (i := 2) (v := .int .i64 0) rfl (by kernel_rfl) (by kernel_rfl) (by kernel_rfl) rfl (fun _ _ _ h => h) (Or.inl ⟨by kernel_rfl, fun _ _ => by kernel_rfl⟩) hSa (fun _ => trivial) ?_
        try simp only [List.getElem_toArray, List.getElem_cons_succ, List.getElem_cons_zero]
        try dsimp only
        try simp only [Act.put, List.setIfInBounds_toArray, List.set_cons_zero, List.set_cons_succ]
        refine wpAnyT_takeS (i := 3) (v := .bool false) rfl (by kernel_rfl) (by kernel_rfl) (by kernel_rfl) rfl (fun _ _ _ h => h) (Or.inl ⟨by kernel_rfl, fun W hW => by go_simp⟩) hSa (fun _ => trivial) ?_
        try simp only [List.getElem_toArray, List.getElem_cons_succ, List.getElem_cons_zero]
        try dsimp only
        try simp only [Act.put, List.setIfInBounds_toArray, List.set_cons_zero, List.set_cons_succ]
        refine wpAnyT_takeS (i := 4) (v := .bool false) rfl (by kernel_rfl) (by kernel_rfl) (by kernel_rfl) rfl (fun _ _ _ h => h) (Or.inl ⟨by kernel_rfl, fun _ _ => by kernel_rfl⟩) hSa (fun _ => trivial) ?_
        try simp only [List.getElem_toArray, List.getElem_cons_succ, List.getElem_cons_zero]
        try dsimp only
        try simp only [Act.put, List.setIfInBounds_toArray, List.set_cons_zero, List.set_cons_succ]
        refine wpAnyT_takeS (i := 5) (v := .int .i64 0) rfl (by kernel_rfl) (by kernel_rfl) (by kernel_rfl) rfl (fun _ _ _ h => h) (Or.inl ⟨by kernel_rfl, fun _ _ => by kernel_rfl⟩) hSa (fun _ => trivial) ?_
        try simp only [List.getElem_toArray, List.getElem_cons_succ, List.getElem_cons_zero]
        try dsimp only
        try simp only [Act.put, List.setIfInBounds_toArray, List.set_cons_zero, List.set_cons_succ]
        refine wpAnyT_takeS (i := 6) (v := .bool false) rfl (by kernel_rfl) (by kernel_rfl) (by kernel_rfl) rfl (fun _ _ _ h => h) (Or.inl ⟨by kernel_rfl, fun W hW => by go_simp⟩) hSa (fun _ => trivial) ?_
        try simp only [List.getElem_toArray, List.getElem_cons_succ, List.getElem_cons_zero]
        try dsimp only
        try simp only [Act.put, List.setIfInBounds_toArray, List.set_cons_zero, List.set_cons_succ]
        refine wpAnyT_takeS (i := 7) (v := .bool false) rfl (by kernel_rfl) (by kernel_rfl) (by kernel_rfl) rfl (fun _ _ _ h => h) (Or.inl ⟨by kernel_rfl, fun W hW => by go_simp⟩) hSa (fun _ => trivial) ?_
        try simp only [List.getElem_toArray, List.getElem_cons_succ, List.getElem_cons_zero]
        try dsimp only
        try simp only [Act.put, List.setIfInBounds_toArray, List.set_cons_zero, List.set_cons_succ]
        refine wpAnyT_takeS (i := 8) (v := .bool false) rfl (by kernel_rfl) (by kernel_rfl) (by kernel_rfl) rfl (fun _ _ _ h => h) (Or.inl ⟨by kernel_rfl, fun _ _ => by kernel_rfl⟩) hSa (fun _ => trivial) ?_
        try simp only [List.getElem_toArray, List.getElem_cons_succ, List.getElem_cons_zero]
        try dsimp only
        try simp only [Act.put, List.setIfInBounds_toArray, List.set_cons_zero, List.set_cons_succ]
        refine wpAnyT_takeS (i := 9) (v := .agg (cF u).toArray) rfl (by kernel_rfl) (by kernel_rfl) (by kernel_rfl) rfl (fun _ _ _ h => h) (yields_load 25 (.tmp 17) rfl b17 (0) (by kernel_rfl) (cF u) _ (by kernel_rfl) (fun W hW => ((HF17.out W hW).range 0 _ (fun j v h => by simpa using h))) Tryz.underlying25 rfl (by kernel_rfl)) hSa (fun _ => trivial) ?_
        try simp only [List.getElem_toArray, List.getElem_cons_succ, List.getElem_cons_zero]
        try dsimp only
        try simp only [Act.put, List.setIfInBounds_toArray, List.set_cons_zero, List.set_cons_succ]
        refine wpAnyT_takeS (i := 10) (v := .agg (cF v).toArray) rfl (by kernel_rfl) (by kernel_rfl) (by kernel_rfl) rfl (fun _ _ _ h => h) (yields_load 25 (.tmp 19) rfl b19 (0) (by kernel_rfl) (cF v) _ (by kernel_rfl) (fun W hW => ((HF19.out W hW).range 0 _ (fun j v h => by simpa using h))) Tryz.underlying25 rfl (by kernel_rfl)) hSa (fun _ => trivial) ?_
        try simp only [List.getElem_toArray, List.getElem_cons_succ, List.getElem_cons_zero]
        try dsimp only
        try simp only [Act.put, List.setIfInBounds_toArray, List.set_cons_zero, List.set_cons_succ]
        refine wpAnyT_takeS (i := 12) (v := .agg (cF a).toArray) rfl (by kernel_rfl) (by kernel_rfl) (by kernel_rfl) rfl (fun _ _ _ h => h) (yields_load 25 (.tmp 3) rfl b3 (0) (by kernel_rfl) (cF a) _ (by kernel_rfl) (fun W hW => ((HF3.out W hW).range 0 _ (fun j v h => by simpa using h))) Tryz.underlying25 rfl (by kernel_rfl)) hSa (fun _ => trivial) ?_
        try simp only [List.getElem_toArray, List.getElem_cons_succ, List.getElem_cons_zero]
        try dsimp only
        try simp only [Act.put, List.setIfInBounds_toArray, List.set_cons_zero, List.set_cons_succ]
        refine wpAnyT_takeS (i := 13) (v := .agg (cF b).toArray) rfl (by kernel_rfl) (by kernel_rfl) (by kernel_rfl) rfl (fun _ _ _ h => h) (yields_load 25 (.tmp 4) rfl b4 (0) (by kernel_rfl) (cF b) _ (by kernel_rfl) (fun W hW => ((HF4.out W hW).range 0 _ (fun j v h => by simpa using h))) Tryz.underlying25 rfl (by kernel_rfl)) hSa (fun _ => trivial) ?_
        try simp only [List.getElem_toArray, List.getElem_cons_succ, List.getElem_cons_zero]
        try dsimp only
        try simp only [Act.put, List.setIfInBounds_toArray, List.set_cons_zero, List.set_cons_succ]
        refine wpAnyT_one (j := 11) rfl (by kernel_rfl) (by kernel_rfl) (fun K hK => ?_)
        go_simp
        refine (compareD_any u v _).mono ?_
        rintro e wqhS2 ⟨rfl, hqhS2⟩
        have hS2 := hSa.trans (hqhS2.mono hSa.size)
        refine hK.out _ _ hS2 (fun _ => trivial) ?_
        try simp only [List.getElem_toArray, List.getElem_cons_succ, List.getElem_cons_zero]
        try dsimp only
        try simp only [Act.put, List.setIfInBounds_toArray, List.set_cons_zero, List.set_cons_succ]
        refine wpAnyT_one (j := 14) rfl (by kernel_rfl) (by kernel_rfl) (fun K hK => ?_)
        go_simp
        refine (compareD_any a b _).mono ?_
        rintro e wqhS3 ⟨rfl, hqhS3⟩
        have hS3 := hS2.trans (hqhS3.mono hS2.size)
        refine hK.out _ _ hS3 (fun _ => trivial) ?_
        try simp only [List.getElem_toArray, List.getElem_cons_succ, List.getElem_cons_zero]
        try dsimp only
        try simp only [Act.put, List.setIfInBounds_toArray, List.set_cons_zero, List.set_cons_succ]
        refine wpAnyT_takeS (i := 15) (v := .bool true) rfl (by kernel_rfl) (by kernel_rfl) (by kernel_rfl) rfl (fun _ _ _ h => h) (Or.inl ⟨by kernel_rfl, fun W hW => by go_simp⟩) hS3 (fun _ => trivial) ?_
        try simp only [List.getElem_toArray, List.getElem_cons_succ, List.getElem_cons_zero]
        try dsimp only
        try simp only [Act.put, List.setIfInBounds_toArray, List.set_cons_zero, List.set_cons_succ]
        refine wpAnyT_takeS (i := 16) (v := .bool true) rfl (by kernel_rfl) (by kernel_rfl) (by kernel_rfl) rfl (fun _ _ _ h => h) (Or.inl ⟨by kernel_rfl, fun W hW => by go_simp⟩) hS3 (fun _ => trivial) ?_
        try simp only [List.getElem_toArray, List.getElem_cons_succ, List.getElem_cons_zero]
        try dsimp only
        try simp only [Act.put, List.setIfInBounds_toArray, List.set_cons_zero, List.set_cons_succ]
        refine wpAnyT_takeS (i := 17) (v := .bool true) rfl (by kernel_rfl) (by kernel_rfl) (by kernel_rfl) rfl (fun _ _ _ h => h) (Or.inl ⟨by kernel_rfl, fun W hW => by go_simp⟩) hS3 (fun _ => trivial) ?_
        try simp only [List.getElem_toArray, List.getElem_cons_succ, List.getElem_cons_zero]
        try dsimp only
        try simp only [Act.put, List.setIfInBounds_toArray, List.set_cons_zero, List.set_cons_succ]
        refine wpAnyT_takeS (i := 18) (v := .bool true) rfl (by kernel_rfl) (by kernel_rfl) (by kernel_rfl) rfl (fun _ _ _ h => h) (Or.inl ⟨by kernel_rfl, fun _ _ => by kernel_rfl⟩) hS3 (fun _ => trivial) ?_
        try simp only [List.getElem_toArray, List.getElem_cons_succ, List.getElem_cons_zero]
        try dsimp only
        try simp only [Act.put, List.setIfInBounds_toArray, List.set_cons_zero, List.set_cons_succ]
        refine wpAnyT_done (by kernel_rfl) ?_ _
        go_wp2_with fail
        go_ret
        exact ⟨rfl, HB.out.trans (hS3.mono HB.out.size)⟩
      · have hvb : (ev != 0) = true := by simpa using hv
        subst hu
        refine wp_region_T (fun W' => RowKit.Below w15.heap.size w15 W') (fun _ => True) 99 (by kernel_rfl) (Below.refl _ _).drew trivial (fun hS hT => ?_)
        refine wpAnyT_one (j := 0) rfl (by kernel_rfl) (by kernel_rfl) (fun K hK => ?_)
        go_simp
        refine (hal _ hS).mono ?_
        rintro e wal ⟨rfl, hqa⟩
        have hSa := hS.trans (hqa.mono hS.size)
        refine hK.out _ _ hSa (fun _ => trivial) ?_
        try simp only [List.getElem_toArray, List.getElem_cons_succ, List.getElem_cons_zero]
        try dsimp only
        try simp only [Act.put, List.setIfInBounds_toArray, List.set_cons_zero, List.set_cons_succ]
        refine wpAnyT_takeS (i := 1) (v := .bool true) rfl (by kernel_rfl) (by kernel_rfl) (by kernel_rfl) rfl (fun _ _ _ h => h) (Or.inl ⟨by kernel_rfl, fun _ _ => by kernel_rfl⟩) hSa (fun _ => trivial) ?_
        try simp only [List.getElem_toArray, List.getElem_cons_succ, List.getElem_cons_zero]
        try dsimp only
        try simp only [Act.put, List.setIfInBounds_toArray, List.set_cons_zero, List.set_cons_succ]
        refine wpAnyT_takeS (i := 2) (v := .int .i64 0) rfl (by kernel_rfl) (by kernel_rfl) (by kernel_rfl) rfl (fun _ _ _ h => h) (Or.inl ⟨by kernel_rfl, fun _ _ => by kernel_rfl⟩) hSa (fun _ => trivial) ?_
        try simp only [List.getElem_toArray, List.getElem_cons_succ, List.getElem_cons_zero]
        try dsimp only
        try simp only [Act.put, List.setIfInBounds_toArray, List.set_cons_zero, List.set_cons_succ]
        refine wpAnyT_takeS (i := 3) (v := .bool false) rfl (by kernel_rfl) (by kernel_rfl) (by kernel_rfl) rfl (fun _ _ _ h => h) (Or.inl ⟨by kernel_rfl, fun W hW => by go_simp⟩) hSa (fun _ => trivial) ?_
        try simp only [List.getElem_toArray, List.getElem_cons_succ, List.getElem_cons_zero]
        try dsimp only
        try simp only [Act.put, List.setIfInBounds_toArray, List.set_cons_zero, List.set_cons_succ]
        refine wpAnyT_takeS (i := 4) (v := .bool false) rfl (by kernel_rfl) (by kernel_rfl) (by kernel_rfl) rfl (fun _ _ _ h => h) (Or.inl ⟨by kernel_rfl, fun _ _ => by kernel_rfl⟩) hSa (fun _ => trivial) ?_
        try simp only [List.getElem_toArray, List.getElem_cons_succ, List.getElem_cons_zero]
        try dsimp only
        try simp only [Act.put, List.setIfInBounds_toArray, List.set_cons_zero, List.set_cons_succ]
        refine wpAnyT_takeS (i := 5) (v := .int .i64 ev) rfl (by kernel_rfl) (by kernel_rfl) (by kernel_rfl) rfl (fun _ _ _ h => h) (Or.inl ⟨by kernel_rfl, fun _ _ => by kernel_rfl⟩) hSa (fun _ => trivial) ?_
        try simp only [List.getElem_toArray, List.getElem_cons_succ, List.getElem_cons_zero]
        try dsimp only
        try simp only [Act.put, List.setIfInBounds_toArray, List.set_cons_zero, List.set_cons_succ]
        refine wpAnyT_takeS (i := 6) (v := .bool true) rfl (by kernel_rfl) (by kernel_rfl) (by kernel_rfl) rfl (fun _ _ _ h => h) (Or.inl ⟨by kernel_rfl, fun W hW => by go_simp⟩) hSa (fun _ => trivial) ?_
        try simp only [List.getElem_toArray, List.getElem_cons_succ, List.getElem_cons_zero]
        try dsimp only
        try simp only [Act.put, List.setIfInBounds_toArray, List.set_cons_zero, List.set_cons_succ]
        refine wpAnyT_takeS (i := 7) (v := .bool true) rfl (by kernel_rfl) (by kernel_rfl) (by kernel_rfl) rfl (fun _ _ _ h => h) (Or.inl ⟨by kernel_rfl, fun W hW => by go_simp⟩) hSa (fun _ => trivial) ?_
        try simp only [List.getElem_toArray, List.getElem_cons_succ, List.getElem_cons_zero]
        try dsimp only
        try simp only [Act.put, List.setIfInBounds_toArray, List.set_cons_zero, List.set_cons_succ]
        refine wpAnyT_takeS (i := 8) (v := .bool true) rfl (by kernel_rfl) (by kernel_rfl) (by kernel_rfl) rfl (fun _ _ _ h => h) (Or.inl ⟨by kernel_rfl, fun _ _ => by kernel_rfl⟩) hSa (fun _ => trivial) ?_
        try simp only [List.getElem_toArray, List.getElem_cons_succ, List.getElem_cons_zero]
        try dsimp only
        try simp only [Act.put, List.setIfInBounds_toArray, List.set_cons_zero, List.set_cons_succ]
        refine wpAnyT_takeS (i := 9) (v := undef) rfl (by kernel_rfl) (by kernel_rfl) (by kernel_rfl) rfl (fun _ _ _ h => h) (Or.inr ⟨by kernel_rfl, rfl⟩) hSa (fun _ => trivial) ?_
        try simp only [List.getElem_toArray, List.getElem_cons_succ, List.getElem_cons_zero]
        try dsimp only
        try simp only [Act.put, List.setIfInBounds_toArray, List.set_cons_zero, List.set_cons_succ]
        refine wpAnyT_takeS (i := 10) (v := undef) rfl (by kernel_rfl) (by kernel_rfl) (by kernel_rfl) rfl (fun _ _ _ h => h) (Or.inr ⟨by kernel_rfl, rfl⟩) hSa (fun _ => trivial) ?_
        try simp only [List.getElem_toArray, List.getElem_cons_succ, List.getElem_cons_zero]
        try dsimp only
        try simp only [Act.put, List.setIfInBounds_toArray, List.set_cons_zero, List.set_cons_succ]
        refine wpAnyT_takeS (i := 11) (v := undef) rfl (by kernel_rfl) (by kernel_rfl) (by kernel_rfl) rfl (fun _ _ _ h => h) (Or.inr ⟨by kernel_rfl, rfl⟩) hSa (fun _ => trivial) ?_
        try simp only [List.getElem_toArray, List.getElem_cons_succ, List.getElem_cons_zero]
        try dsimp only
        try simp only [Act.put, List.setIfInBounds_toArray, List.set_cons_zero, List.set_cons_succ]
        refine wpAnyT_takeS (i := 12) (v := undef) rfl (by kernel_rfl) (by kernel_rfl) (by kernel_rfl) rfl (fun _ _ _ h => h) (Or.inr ⟨by kernel_rfl, rfl⟩) hSa (fun _ => trivial) ?_
        try simp only [List.getElem_toArray, List.getElem_cons_succ, List.getElem_cons_zero]
        try dsimp only
        try simp only [Act.put, List.setIfInBounds_toArray, List.set_cons_zero, List.set_cons_succ]
        refine wpAnyT_takeS (i := 13) (v := undef) rfl (by kernel_rfl) (by kernel_rfl) (by kernel_rfl) rfl (fun _ _ _ h => h) (Or.inr ⟨by kernel_rfl, rfl⟩) hSa (fun _ => trivial) ?_
        try simp only [List.getElem_toArray, List.getElem_cons_succ, List.getElem_cons_zero]
        try dsimp only
        try simp only [Act.put, List.setIfInBounds_toArray, List.set_cons_zero, List.set_cons_succ]
        refine wpAnyT_takeS (i := 14) (v := undef) rfl (by kernel_rfl) (by kernel_rfl) (by kernel_rfl) rfl (fun _ _ _ h => h) (Or.inr ⟨by kernel_rfl, rfl⟩) hSa (fun _ => trivial) ?_
        try simp only [List.getElem_toArray, List.getElem_cons_succ, List.getElem_cons_zero]
        try dsimp only
        try simp only [Act.put, List.setIfInBounds_toArray, List.set_cons_zero, List.set_cons_succ]
        refine wpAnyT_takeS (i := 15) (v := undef) rfl (by kernel_rfl) (by kernel_rfl) (by kernel_rfl) rfl (fun _ _ _ h => h) (Or.inr ⟨by kernel_rfl, rfl⟩) hSa (fun _ => trivial) ?_
        try simp only [List.getElem_toArray, List.getElem_cons_succ, List.getElem_cons_zero]
        try dsimp only
        try simp only [Act.put, List.setIfInBounds_toArray, List.set_cons_zero, List.set_cons_succ]
        refine wpAnyT_takeS (i := 16) (v := .bool true) rfl (by kernel_rfl) (by kernel_rfl) (by kernel_rfl) rfl (fun _ _ _ h => h) (Or.inl ⟨by kernel_rfl, fun W hW => by go_simp⟩) hSa (fun _ => trivial) ?_
        try simp only [List.getElem_toArray, List.getElem_cons_succ, List.getElem_cons_zero]
        try dsimp only
        try simp only [Act.put, List.setIfInBounds_toArray, List.set_cons_zero, List.set_cons_succ]
        refine wpAnyT_takeS (i := 17) (v := .bool true) rfl (by kernel_rfl) (by kernel_rfl) (by kernel_rfl) rfl (fun _ _ _ h => h) (Or.inl ⟨by kernel_rfl, fun W hW => by go_simp⟩) hSa (fun _ => trivial) ?_
        try simp only [List.getElem_toArray, List.getElem_cons_succ, List.getElem_cons_zero]
        try dsimp only
        try simp only [Act.put, List.setIfInBounds_toArray, List.set_cons_zero, List.set_cons_succ]
        refine wpAnyT_takeS (i := 18) (v := .bool true) rfl (by kernel_rfl) (by kernel_rfl) (by kernel_rfl) rfl (fun _ _ _ h => h) (Or.inl ⟨by kernel_rfl, fun _ _ => by kernel_rfl⟩) hSa (fun _ => trivial) ?_
        try simp only [List.getElem_toArray, List.getElem_cons_succ, List.getElem_cons_zero]
        try dsimp only
        try simp only [Act.put, List.setIfInBounds_toArray, List.set_cons_zero, List.set_cons_succ]
        refine wpAnyT_done (by kernel_rfl) ?_ _
        go_wp2_with fail
        go_ret
        exact ⟨rfl, HB.out.trans (hSa.mono HB.out.size)⟩
    · have hub : (eu != 0) = true := by simpa using hu
      refine wp_region_T (fun W' => RowKit.Below w15.heap.size w15 W') (fun _ => True) 99 (by kernel_rfl) (Below.refl _ _).drew trivial (fun hS hT => ?_)
      refine wpAnyT_one (j := 0) rfl (by kernel_rfl) (by kernel_rfl) (fun K hK => ?_)
      go_simp
      refine (hal _ hS).mono ?_
      rintro e wal ⟨rfl, hqa⟩
      have hSa := hS.trans (hqa.mono hS.size)
      refine hK.out _ _ hSa (fun _ => trivial) ?_
      try simp only [List.getElem_toArray, List.getElem_cons_succ, List.getElem_cons_zero]
      try dsimp only
      try simp only [Act.put, List.setIfInBounds_toArray, List.set_cons_zero, List.set_cons_succ]
      refine wpAnyT_takeS (i := 1) (v := .bool true) rfl (by kernel_rfl) (by kernel_rfl) (by kernel_rfl) rfl (fun _ _ _ h => h) (Or.inl ⟨by kernel_rfl, fun _ _ => by kernel_rfl⟩) hSa (fun _ => trivial) ?_
      try simp only [List.getElem_toArray, List.getElem_cons_succ, List.getElem_cons_zero]
      try dsimp only
      try simp only [Act.put, List.setIfInBounds_toArray, List.set_cons_zero, List.set_cons_succ]
      refine wpAnyT_takeS (i := 2) (v := .int .i64 eu) rfl (by kernel_rfl) (by kernel_rfl) (by kernel_rfl) rfl (fun _ _ _ h => h) (Or.inl ⟨by kernel_rfl, fun _ _ => by kernel_rfl⟩) hSa (fun _ => trivial) ?_
      try simp only [List.getElem_toArray, List.getElem_cons_succ, List.getElem_cons_zero]
      try dsimp only
      try simp only [Act.put, List.setIfInBounds_toArray, List.set_cons_zero, List.set_cons_succ]
      refine wpAnyT_takeS (i := 3) (v := .bool true) rfl (by kernel_rfl) (by kernel_rfl) (by kernel_rfl) rfl (fun _ _ _ h => h) (Or.inl ⟨by kernel_rfl, fun W hW => by go_simp⟩) hSa (fun _ => trivial) ?_
      try simp only [List.getElem_toArray, List.getElem_cons_succ, List.getElem_cons_zero]
      try dsimp only
      try simp only [Act.put, List.setIfInBounds_toArray, List.set_cons_zero, List.set_cons_succ]
      refine wpAnyT_takeS (i := 4) (v := .bool true) rfl (by kernel_rfl) (by kernel_rfl) (by kernel_rfl) rfl (fun _ _ _ h => h) (Or.inl ⟨by kernel_rfl, fun _ _ => by kernel_rfl⟩) hSa (fun _ => trivial) ?_
      try simp only [List.getElem_toArray, List.getElem_cons_succ, List.getElem_cons_zero]
      try dsimp only
      try simp only [Act.put, List.setIfInBounds_toArray, List.set_cons_zero, List.set_cons_succ]
      refine wpAnyT_takeS (i := 5) (v := undef) rfl (by kernel_rfl) (by kernel_rfl) (by kernel_rfl) rfl (fun _ _ _ h => h) (Or.inr ⟨by kernel_rfl, rfl⟩) hSa (fun _ => trivial) ?_
      try simp only [List.getElem_toArray, List.getElem_cons_succ, List.getElem_cons_zero]
      try dsimp only
      try simp only [Act.put, List.setIfInBounds_toArray, List.set_cons_zero, List.set_cons_succ]
      refine wpAnyT_takeS (i := 6) (v := undef) rfl (by kernel_rfl) (by kernel_rfl) (by kernel_rfl) rfl (fun _ _ _ h => h) (Or.inr ⟨by kernel_rfl, rfl⟩) hSa (fun _ => trivial) ?_
      try simp only [List.getElem_toArray, List.getElem_cons_succ, List.getElem_cons_zero]
      try dsimp only
      try simp only [Act.put, List.setIfInBounds_toArray, List.set_cons_zero, List.set_cons_succ]
      refine wpAnyT_takeS (i := 7) (v := .bool true) rfl (by kernel_rfl) (by kernel_rfl) (by kernel_rfl) rfl (fun _ _ _ h => h) (Or.inl ⟨by kernel_rfl, fun W hW => by go_simp⟩) hSa (fun _ => trivial) ?_
      try simp only [List.getElem_toArray, List.getElem_cons_succ, List.getElem_cons_zero]
      try dsimp only
      try simp only [Act.put, List.setIfInBounds_toArray, List.set_cons_zero, List.set_cons_succ]
      refine wpAnyT_takeS (i := 8) (v := .bool true) rfl (by kernel_rfl) (by kernel_rfl) (by kernel_rfl) rfl (fun _ _ _ h => h) (Or.inl ⟨by kernel_rfl, fun _ _ => by kernel_rfl⟩) hSa (fun _ => trivial) ?_
      try simp only [List.getElem_toArray, List.getElem_cons_succ, List.getElem_cons_zero]
      try dsimp only
      try simp only [Act.put, List.setIfInBounds_toArray, List.set_cons_zero, List.set_cons_succ]
      refine wpAnyT_takeS (i := 9) (v := undef) rfl (by kernel_rfl) (by kernel_rfl) (by kernel_rfl) rfl (fun _ _ _ h => h) (Or.inr ⟨by kernel_rfl, rfl⟩) hSa (fun _ => trivial) ?_
      try simp only [List.getElem_toArray, List.getElem_cons_succ, List.getElem_cons_zero]
      try dsimp only
      try simp only [Act.put, List.setIfInBounds_toArray, List.set_cons_zero, List.set_cons_succ]
      refine wpAnyT_takeS (i := 10) (v := undef) rfl (by kernel_rfl) (by kernel_rfl) (by kernel_rfl) rfl (fun _ _ _ h => h) (Or.inr ⟨by kernel_rfl, rfl⟩) hSa (fun _ => trivial) ?_
      try simp only [List.getElem_toArray, List.getElem_cons_succ, List.getElem_cons_zero]
      try dsimp only
      try simp only [Act.put, List.setIfInBounds_toArray, List.set_cons_zero, List.set_cons_succ]
      refine wpAnyT_takeS (i := 11) (v := undef) rfl (by kernel_rfl) (by kernel_rfl) (by kernel_rfl) rfl (fun _ _ _ h => h) (Or.inr ⟨by kernel_rfl, rfl⟩) hSa (fun _ => trivial) ?_
      try simp only [List.getElem_toArray, List.getElem_cons_succ, List.getElem_cons_zero]
      try dsimp only
      try simp only [Act.put, List.setIfInBounds_toArray, List.set_cons_zero, List.set_cons_succ]
      refine wpAnyT_takeS (i := 12) (v := undef) rfl (by kernel_rfl) (by kernel_rfl) (by kernel_rfl) rfl (fun _ _ _ h => h) (Or.inr ⟨by kernel_rfl, rfl⟩) hSa (fun _ => trivial) ?_
      try simp only [List.getElem_toArray, List.getElem_cons_succ, List.getElem_cons_zero]
      try dsimp only
      try simp only [Act.put, List.setIfInBounds_toArray, List.set_cons_zero, List.set_cons_succ]
      refine wpAnyT_takeS (i := 13) (v := undef) rfl (by kernel_rfl) (by kernel_rfl) (by kernel_rfl) rfl (fun _ _ _ h => h) (Or.inr ⟨by kernel_rfl, rfl⟩) hSa (fun _ => trivial) ?_
      try simp only [List.getElem_toArray, List.getElem_cons_succ, List.getElem_cons_zero]
      try dsimp only
      try simp only [Act.put, List.setIfInBounds_toArray, List.set_cons_zero, List.set_cons_succ]
      refine wpAnyT_takeS (i := 14) (v := undef) rfl (by kernel_rfl) (by kernel_rfl) (by kernel_rfl) rfl (fun _ _ _ h => h) (Or.inr ⟨by kernel_rfl, rfl⟩) hSa (fun _ => trivial) ?_
      try simp only [List.getElem_toArray, List.getElem_cons_succ, List.getElem_cons_zero]
      try dsimp only
      try simp only [Act.put, List.setIfInBounds_toArray, List.set_cons_zero, List.set_cons_succ]
      refine wpAnyT_takeS (i := 15) (v := undef) rfl (by kernel_rfl) (by kernel_rfl) (by kernel_rfl) rfl (fun _ _ _ h => h) (Or.inr ⟨by kernel_rfl, rfl⟩) hSa (fun _ => trivial) ?_
      try simp only [List.getElem_toArray, List.getElem_cons_succ, List.getElem_cons_zero]
      try dsimp only
      try simp only [Act.put, List.setIfInBounds_toArray, List.set_cons_zero, List.set_cons_succ]
      refine wpAnyT_takeS (i := 16) (v := .bool true) rfl (by kernel_rfl) (by kernel_rfl) (by kernel_rfl) rfl (fun _ _ _ h => h) (Or.inl ⟨by kernel_rfl, fun W hW => by go_simp⟩) hSa (fun _ => trivial) ?_
      try simp only [List.getElem_toArray, List.getElem_cons_succ, List.getElem_cons_zero]
      try dsimp only
      try simp only [Act.put, List.setIfInBounds_toArray, List.set_cons_zero, List.set_cons_succ]
      refine wpAnyT_takeS (i := 17) (v := .bool true) rfl (by kernel_rfl) (by kernel_rfl) (by kernel_rfl) rfl (fun _ _ _ h => h) (Or.inl ⟨by kernel_rfl, fun W hW => by go_simp⟩) hSa (fun _ => trivial) ?_
      try simp only [List.getElem_toArray, List.getElem_cons_succ, List.getElem_cons_zero]
      try dsimp only
      try simp only [Act.put, List.setIfInBounds_toArray, List.set_cons_zero, List.set_cons_succ]
      refine wpAnyT_takeS (i := 18) (v := .bool true) rfl (by kernel_rfl) (by kernel_rfl) (by kernel_rfl) rfl (fun _ _ _ h => h) (Or.inl ⟨by kernel_rfl, fun _ _ => by kernel_rfl⟩) hSa (fun _ => trivial) ?_
      try simp only [List.getElem_toArray, List.getElem_cons_succ, List.getElem_cons_zero]
      try dsimp only
      try simp only [Act.put, List.setIfInBounds_toArray, List.set_cons_zero, List.set_cons_succ]
      refine wpAnyT_done (by kernel_rfl) ?_ _
      go_wp2_with fail
      go_ret
      exact ⟨rfl, HB.out.trans (hSa.mono HB.out.size)⟩
  · have g0 : (es == 0) = false := by simpa using h0
    go_upto_region 11 with fail
    have cx := Hk3.out.cell
    have cy := Hk5.out.cell
    go_wp2_with (fail)
    refine (hac _).mono ?_
    rintro e w10 ⟨rfl, hB10⟩
    clear cx cy
    replace Hk3 := Lib.hid (Hk3.out.below' hB10)
    replace Hk4 := Lib.hid (Hk4.out.below' hB10)
    replace Hk5 := Lib.hid (Hk5.out.below' hB10)
    replace Hk7 := Lib.hid (Hk7.out.below' hB10)
    replace Hk9 := Lib.hid (Hk9.out.below' hB10)
    replace Hk11 := Lib.hid (Hk11.out.below' hB10)
    replace Hk13 := Lib.hid (Hk13.out.below' hB10)
    replace HB := Lib.hid (HB.out.trans (hB10.mono HB.out.size))
    clear hB10
    obtain ⟨w11, hww11⟩ : ∃ x, x = w10.alloc (.cells #[.int .i64 u.num, .int .i64 u.den] 25) := ⟨_, rfl⟩
    have kn : Blk w11 w10.heap.size #[.int .i64 u.num, .int .i64 u.den] 25 := hww11 ▸ Blk.new _ _ _
    have hB11 : RowKit.Below w10.heap.size w10 w11 := hww11 ▸ (Below.refl _ _).alloc (Nat.le_refl _) _
    go_upto_region 12 with fail
    rw [← hww11]
    clear hww11
    obtain ⟨b17, hb17⟩ : ∃ b, b = w10.heap.size := ⟨_, rfl⟩
    rw [← hb17] at kn ⊢
    clear hb17
    have Hk17 := Lib.hid kn
    clear kn
    replace Hk3 := Lib.hid (Hk3.out.below' hB11)
    replace Hk4 := Lib.hid (Hk4.out.below' hB11)
    replace Hk5 := Lib.hid (Hk5.out.below' hB11)
    replace Hk7 := Lib.hid (Hk7.out.below' hB11)
    replace Hk9 := Lib.hid (Hk9.out.below' hB11)
    replace Hk11 := Lib.hid (Hk11.out.below' hB11)
    replace Hk13 := Lib.hid (Hk13.out.below' hB11)
    replace HB := Lib.hid (HB.out.trans (hB11.mono HB.out.size))
    clear hB11
    have cx := Hk4.out.cell
    have cy := Hk5.out.cell
    go_wp2_with (fail)
    refine (hbc _).mono ?_
    rintro e w12 ⟨rfl, hB12⟩
    clear cx cy
    replace Hk3 := Lib.hid (Hk3.out.below' hB12)
    replace Hk4 := Lib.hid (Hk4.out.below' hB12)
    replace Hk5 := Lib.hid (Hk5.out.below' hB12)
    replace Hk7 := Lib.hid (Hk7.out.below' hB12)
    replace Hk9 := Lib.hid (Hk9.out.below' hB12)
    replace Hk11 := Lib.hid (Hk11.out.below' hB12)
    replace Hk13 := Lib.hid (Hk13.out.below' hB12)
    replace Hk17 := Lib.hid (Hk17.out.below' hB12)
    replace HB := Lib.hid (HB.out.trans (hB12.mono HB.out.size))
    clear hB12
    obtain ⟨w13, hww13⟩ : ∃ x, x = w12.alloc (.cells #[.int .i64 v.num, .int .i64 v.den] 25) := ⟨_, rfl⟩
    have kn : Blk w13 w12.heap.size #[.int .i64 v.num, .int .i64 v.den] 25 := hww13 ▸ Blk.new _ _ _
    have hB13 : RowKit.Below w12.heap.size w12 w13 := hww13 ▸ (Below.refl _ _).alloc (Nat.le_refl _) _
    go_upto_region 13 with fail
    rw [← hww13]
    clear hww13
    obtain ⟨b19, hb19⟩ : ∃ b, b = w12.heap.size := ⟨_, rfl⟩
    rw [← hb19] at kn ⊢
    clear hb19
    have Hk19 := Lib.hid kn
    clear kn
    replace Hk3 := Lib.hid (Hk3.out.below' hB13)
    replace Hk4 := Lib.hid (Hk4.out.below' hB13)
    replace Hk5 := Lib.hid (Hk5.out.below' hB13)
    replace Hk7 := Lib.hid (Hk7.out.below' hB13)
    replace Hk9 := Lib.hid (Hk9.out.below' hB13)
    replace Hk11 := Lib.hid (Hk11.out.below' hB13)
    replace Hk13 := Lib.hid (Hk13.out.below' hB13)
    replace Hk17 := Lib.hid (Hk17.out.below' hB13)
    replace HB := Lib.hid (HB.out.trans (hB13.mono HB.out.size))
    clear hB13
    have HF17 := Lib.hid (fun W' (h : RowKit.Below w13.heap.size w13 W') => Hk17.out.below' h)
    have HF19 := Lib.hid (fun W' (h : RowKit.Below w13.heap.size w13 W') => Hk19.out.below' h)
    have HF3 := Lib.hid (fun W' (h : RowKit.Below w13.heap.size w13 W') => Hk3.out.below' h)
    have HF4 := Lib.hid (fun W' (h : RowKit.Below w13.heap.size w13 W') => Hk4.out.below' h)
    have hal := fun W' (h : RowKit.Below w13.heap.size w13 W') => alive_any W' (HV.out.below (HB.out.trans (h.mono HB.out.size)))
    by_cases hu : eu = 0
    · by_cases hv : ev = 0
      · have heqc := Hcmp.out hu hv
        subst hu hv
        refine wp_region_T (fun W' => RowKit.Below w13.heap.size w13 W') (fun _ => True) 99 (by kernel_rfl) (Below.refl _ _).drew trivial (fun hS hT => ?_)
        refine wpAnyT_one (j := 0) rfl (by kernel_rfl) (by kernel_rfl) (fun K hK => ?_)
        go_simp
        refine (hal _ hS).mono ?_
        rintro e wal ⟨rfl, hqa⟩
        have hSa := hS.trans (hqa.mono hS.size)
        refine hK.out _ _ hSa (fun _ => trivial) ?_
        try simp only [List.getElem_toArray, List.getElem_cons_succ, List.getElem_cons_zero]
        try dsimp only
        try simp only [Act.put, List.setIfInBounds_toArray, List.set_cons_zero, List.set_cons_succ]
        refine wpAnyT_takeS (i := 1) (v := .bool true) rfl (by kernel_rfl) (by kernel_rfl) (by kernel_rfl) rfl (fun _ _ _ h => h) (Or.inl ⟨by kernel_rfl, fun _ _ => by kernel_rfl⟩) hSa (fun _ => trivial) ?_
        try simp only [List.getElem_toArray, List.getElem_cons_succ, List.getElem_cons_zero]
        try dsimp only
        try simp only [Act.put, List.setIfInBounds_toArray, List.set_cons_zero, List.set_cons_succ]
        refine wpAnyT_takeS (i := 2) (v := .int .i64 0) rfl (by kernel_rfl) (by kernel_rfl) (by kernel_rfl) rfl (fun _ _ _ h => h) (Or.inl ⟨by kernel_rfl, fun _ _ => by kernel_rfl⟩) hSa (fun _ => trivial) ?_
        try simp only [List.getElem_toArray, List.getElem_cons_succ, List.getElem_cons_zero]
        try dsimp only
        try simp only [Act.put, List.setIfInBounds_toArray, List.set_cons_zero, List.set_cons_succ]
        refine wpAnyT_takeS (i := 3) (v := .bool false) rfl (by kernel_rfl) (by kernel_rfl) (by kernel_rfl) rfl (fun _ _ _ h => h) (Or.inl ⟨by kernel_rfl, fun W hW => by go_simp⟩) hSa (fun _ => trivial) ?_
        try simp only [List.getElem_toArray, List.getElem_cons_succ, List.getElem_cons_zero]
        try dsimp only
        try simp only [Act.put, List.setIfInBounds_toArray, List.set_cons_zero, List.set_cons_succ]
        refine wpAnyT_takeS (i := 4) (v := .bool false) rfl (by kernel_rfl) (by kernel_rfl) (by kernel_rfl) rfl (fun _ _ _ h => h) (Or.inl ⟨by kernel_rfl, fun _ _ => by kernel_rfl⟩) hSa (fun _ => trivial) ?_
        try simp only [List.getElem_toArray, List.getElem_cons_succ, List.getElem_cons_zero]
        try dsimp only
        try simp only [Act.put, List.setIfInBounds_toArray, List.set_cons_zero, List.set_cons_succ]
        refine wpAnyT_takeS (i := 5) (v := .int .i64 0) rfl (by kernel_rfl) (by kernel_rfl) (by kernel_rfl) rfl (fun _ _ _ h => h) (Or.inl ⟨by kernel_rfl, fun _ _ => by kernel_rfl⟩) hSa (fun _ => trivial) ?_
        try simp only [List.getElem_toArray, List.getElem_cons_succ, List.getElem_cons_zero]
        try dsimp only
        try simp only [Act.put, List.setIfInBounds_toArray, List.set_cons_zero, List.set_cons_succ]
        refine wpAnyT_takeS (i := 6) (v := .bool false) rfl (by kernel_rfl) (by kernel_rfl) (by kernel_rfl) rfl (fun _ _ _ h => h) (Or.inl ⟨by kernel_rfl, fun W hW => by go_simp⟩) hSa (fun _ => trivial) ?_
        try simp only [List.getElem_toArray, List.getElem_cons_succ, List.getElem_cons_zero]
        try dsimp only
        try simp only [Act.put, List.setIfInBounds_toArray, List.set_cons_zero, List.set_cons_succ]
        refine wpAnyT_takeS (i := 7) (v := .bool false) rfl (by kernel_rfl) (by kernel_rfl) (by kernel_rfl) rfl (fun _ _ _ h => h) (Or.inl ⟨by kernel_rfl, fun W hW => by go_simp⟩) hSa (fun _ => trivial) ?_
        try simp only [List.getElem_toArray, List.getElem_cons_succ, List.getElem_cons_zero]
        try dsimp only
        try simp only [Act.put, List.setIfInBounds_toArray, List.set_cons_zero, List.set_cons_succ]
        refine wpAnyT_takeS (i := 8) (v := .bool false) rfl (by kernel_rfl) (by kernel_rfl) (by kernel_rfl) rfl (fun _ _ _ h => h) (Or.inl ⟨by kernel_rfl, fun _ _ => by kernel_rfl⟩) hSa (fun _ => trivial) ?_
        try simp only [List.getElem_toArray, List.getElem_cons_succ, List.getElem_cons_zero]
        try dsimp only
        try simp only [Act.put, List.setIfInBounds_toArray, List.set_cons_zero, List.set_cons_succ]
        refine wpAnyT_takeS (i := 9) (v := .agg (cF u).toArray) rfl (by kernel_rfl) (by kernel_rfl) (by kernel_rfl) rfl (fun _ _ _ h => h) (yields_load 25 (.tmp 17) rfl b17 (0) (by kernel_rfl) (cF u) _ (by kernel_rfl) (fun W hW => ((HF17.out W hW).range 0 _ (fun j v h => by simpa using h))) Tryz.underlying25 rfl (by kernel_rfl)) hSa (fun _ => trivial) ?_
        try simp only [List.getElem_toArray, List.getElem_cons_succ, List.getElem_cons_zero]
        try dsimp only
        try simp only [Act.put, List.setIfInBounds_toArray, List.set_cons_zero, List.set_cons_succ]
        refine wpAnyT_takeS (i := 10) (v := .agg (cF v).toArray) rfl (by kernel_rfl) (by kernel_rfl) (by kernel_rfl) rfl (fun _ _ _ h => h) (yields_load 25 (.tmp 19) rfl b19 (0) (by kernel_rfl) (cF v) _ (by kernel_rfl) (fun W hW => ((HF19.out W hW).range 0 _ (fun j v h => by simpa using h))) Tryz.underlying25 rfl (by kernel_rfl)) hSa (fun _ => trivial) ?_
        try simp only [List.getElem_toArray, List.getElem_cons_succ, List.getElem_cons_zero]
        try dsimp only
        try simp only [Act.put, List.setIfInBounds_toArray, List.set_cons_zero, List.set_cons_succ]
        refine wpAnyT_takeS (i := 12) (v := .agg (cF a).toArray) rfl (by kernel_rfl) (by kernel_rfl) (by kernel_rfl) rfl (fun _ _ _ h => h) (yields_load 25 (.tmp 3) rfl b3 (0) (by kernel_rfl) (cF a) _ (by kernel_rfl) (fun W hW => ((HF3.out W hW).range 0 _ (fun j v h => by simpa using h))) Tryz.underlying25 rfl (by kernel_rfl)) hSa (fun _ => trivial) ?_
        try simp only [List.getElem_toArray, List.getElem_cons_succ, List.getElem_cons_zero]
        try dsimp only
        try simp only [Act.put, List.setIfInBounds_toArray, List.set_cons_zero, List.set_cons_succ]
        refine wpAnyT_takeS (i := 13) (v := .agg (cF b).toArray) rfl (by kernel_rfl) (by kernel_rfl) (by kernel_rfl) rfl (fun _ _ _ h => h) (yields_load 25 (.tmp 4) rfl b4 (0) (by kernel_rfl) (cF b) _ (by kernel_rfl) (fun W hW => ((HF4.out W hW).range 0 _ (fun j v h => by simpa using h))) Tryz.underlying25 rfl (by kernel_rfl)) hSa (fun _ => trivial) ?_
        try simp only [List.getElem_toArray, List.getElem_cons_succ, List.getElem_cons_zero]
        try dsimp only
        try simp only [Act.put, List.setIfInBounds_toArray, List.set_cons_zero, List.set_cons_succ]
        refine wpAnyT_one (j := 11) rfl (by kernel_rfl) (by kernel_rfl) (fun K hK => ?_)
        go_simp
        refine (compareD_any u v _).mono ?_
        rintro e wqhS2 ⟨rfl, hqhS2⟩
        have hS2 := hSa.trans (hqhS2.mono hSa.size)
        refine hK.out _ _ hS2 (fun _ => trivial) ?_
        try simp only [List.getElem_toArray, List.getElem_cons_succ, List.getElem_cons_zero]
        try dsimp only
        try simp only [Act.put, List.setIfInBounds_toArray, List.set_cons_zero, List.set_cons_succ]
        refine wpAnyT_one (j := 14) rfl (by kernel_rfl) (by kernel_rfl) (fun K hK => ?_)
        go_simp
        refine (compareD_any a b _).mono ?_
        rintro e wqhS3 ⟨rfl, hqhS3⟩
        have hS3 := hS2.trans (hqhS3.mono hS2.size)
        refine hK.out _ _ hS3 (fun _ => trivial) ?_
        try simp only [List.getElem_toArray, List.getElem_cons_succ, List.getElem_cons_zero]
        try dsimp only
        try simp only [Act.put, List.setIfInBounds_toArray, List.set_cons_zero, List.set_cons_succ]
        refine wpAnyT_takeS (i := 15) (v := .bool true) rfl (by kernel_rfl) (by kernel_rfl) (by kernel_rfl) rfl (fun _ _ _ h => h) (Or.inl ⟨by kernel_rfl, fun W hW => by go_simp⟩) hS3 (fun _ => trivial) ?_
        try simp only [List.getElem_toArray, List.getElem_cons_succ, List.getElem_cons_zero]
        try dsimp only
        try simp only [Act.put, List.setIfInBounds_toArray, List.set_cons_zero, List.set_cons_succ]
        refine wpAnyT_takeS (i := 16) (v := .bool true) rfl (by kernel_rfl) (by kernel_rfl) (by kernel_rfl) rfl (fun _ _ _ h => h) (Or.inl ⟨by kernel_rfl, fun W hW => by go_simp⟩) hS3 (fun _ => trivial) ?_
        try simp only [List.getElem_toArray, List.getElem_cons_succ, List.getElem_cons_zero]
        try dsimp only
        try simp only [Act.put, List.setIfInBounds_toArray, List.set_cons_zero, List.set_cons_succ]
        refine wpAnyT_takeS (i := 17) (v := .bool true) rfl (by kernel_rfl) (by kernel_rfl) (by kernel_rfl) rfl (fun _ _ _ h => h) (Or.inl ⟨by kernel_rfl, fun W hW => by go_simp⟩) hS3 (fun _ => trivial) ?_
        try simp only [List.getElem_toArray, List.getElem_cons_succ, List.getElem_cons_zero]
        try dsimp only
        try simp only [Act.put, List.setIfInBounds_toArray, List.set_cons_zero, List.set_cons_succ]
        refine wpAnyT_takeS (i := 18) (v := .bool true) rfl (by kernel_rfl) (by kernel_rfl) (by kernel_rfl) rfl (fun _ _ _ h => h) (Or.inl ⟨by kernel_rfl, fun _ _ => by kernel_rfl⟩) hS3 (fun _ => trivial) ?_
        try simp only [List.getElem_toArray, List.getElem_cons_succ, List.getElem_cons_zero]
        try dsimp only
        try simp only [Act.put, List.setIfInBounds_toArray, List.set_cons_zero, List.set_cons_succ]
        refine wpAnyT_done (by kernel_rfl) ?_ _
        go_wp2_with fail
        go_ret
        exact ⟨rfl, HB.out.trans (hS3.mono HB.out.size)⟩
      · have hvb : (ev != 0) = true := by simpa using hv
        subst hu
        refine wp_region_T (fun W' => RowKit.Below w13.heap.size w13 W') (fun _ => True) 99 (by kernel_rfl) (Below.refl _ _).drew trivial (fun hS hT => ?_)
        refine wpAnyT_one (j := 0) rfl (by kernel_rfl) (by kernel_rfl) (fun K hK => ?_)
        go_simp
        refine (hal _ hS).mono ?_
        rintro e wal ⟨rfl, hqa⟩
        have hSa := hS.trans (hqa.mono hS.size)
        refine hK.out _ _ hSa (fun _ => trivial) ?_
        try simp only [List.getElem_toArray, List.getElem_cons_succ, List.getElem_cons_zero]
        try dsimp only
        try simp only [Act.put, List.setIfInBounds_toArray, List.set_cons_zero, List.set_cons_succ]
        refine wpAnyT_takeS (i := 1) (v := .bool true) rfl (by kernel_rfl) (by kernel_rfl) (by kernel_rfl) rfl (fun _ _ _ h => h) (Or.inl ⟨by kernel_rfl, fun _ _ => by kernel_rfl⟩) hSa (fun _ => trivial) ?_
        try simp only [List.getElem_toArray, List.getElem_cons_succ, List.getElem_cons_zero]
        try dsimp only
        try simp only [Act.put, List.setIfInBounds_toArray, List.set_cons_zero, List.set_cons_succ]
        refine wpAnyT_takeS (i := 2) (v := .int .i64 0) rfl (by kernel_rfl) (by kernel_rfl) (by kernel_rfl) rfl (fun _ _ _ h => h) (Or.inl ⟨by kernel_rfl, fun _ _ => by kernel_rfl⟩) hSa (fun _ => trivial) ?_
        try simp only [List.getElem_toArray, List.getElem_cons_succ, List.getElem_cons_zero]
        try dsimp only
        try simp only [Act.put, List.setIfInBounds_toArray, List.set_cons_zero, List.set_cons_succ]
        refine wpAnyT_takeS (i := 3) (v := .bool false) rfl (by kernel_rfl) (by kernel_rfl) (by kernel_rfl) rfl (fun _ _ _ h => h) (Or.inl ⟨by kernel_rfl, fun W hW => by go_simp⟩) hSa (fun _ => trivial) ?_
        try simp only [List.getElem_toArray, List.getElem_cons_succ, List.getElem_cons_zero]
        try dsimp only
        try simp only [Act.put, List.setIfInBounds_toArray, List.set_cons_zero, List.set_cons_succ]
        refine wpAnyT_takeS (i := 4) (v := .bool false) rfl (by kernel_rfl) (by kernel_rfl) (by kernel_rfl) rfl (fun _ _ _ h => h) (Or.inl ⟨by kernel_rfl, fun _ _ => by kernel_rfl⟩) hSa (fun _ => trivial) ?_
        try simp only [List.getElem_toArray, List.getElem_cons_succ, List.getElem_cons_zero]
        try dsimp only
        try simp only [Act.put, List.setIfInBounds_toArray, List.set_cons_zero, List.set_cons_succ]
        refine wpAnyT_takeS (i := 5) (v := .int .i64 ev) rfl (by kernel_rfl) (by kernel_rfl) (by kernel_rfl) rfl (fun _ _ _ h => h) (Or.inl ⟨by kernel_rfl, fun _ _ => by kernel_rfl⟩) hSa (fun _ => trivial) ?_
        try simp only [List.getElem_toArray, List.getElem_cons_succ, List.getElem_cons_zero]
        try dsimp only
        try simp only [Act.put, List.setIfInBounds_toArray, List.set_cons_zero, List.set_cons_succ]
        refine wpAnyT_takeS (i := 6) (v := .bool true) rfl (by kernel_rfl) (by kernel_rfl) (by kernel_rfl) rfl (fun _ _ _ h => h) (Or.inl ⟨by kernel_rfl, fun W hW => by go_simp⟩) hSa (fun _ => trivial) ?_
        try simp only [List.getElem_toArray, List.getElem_cons_succ, List.getElem_cons_zero]
        try dsimp only
        try simp only [Act.put, List.setIfInBounds_toArray, List.set_cons_zero, List.set_cons_succ]
        refine wpAnyT_takeS (i := 7) (v := .bool true) rfl (by kernel_rfl) (by kernel_rfl) (by kernel_rfl) rfl (fun _ _ _ h => h) (Or.inl ⟨by kernel_rfl, fun W hW => by go_simp⟩) hSa (fun _ => trivial) ?_
        try simp only [List.getElem_toArray, List.getElem_cons_succ, List.getElem_cons_zero]
        try dsimp only
        try simp only [Act.put, List.setIfInBounds_toArray, List.set_cons_zero, List.set_cons_succ]
        refine wpAnyT_takeS (i := 8) (v := .bool true) rfl (by kernel_rfl) (by kernel_rfl) (by kernel_rfl) rfl (fun _ _ _ h => h) (Or.inl ⟨by kernel_rfl, fun _ _ => by kernel_rfl⟩) hSa (fun _ => trivial) ?_
        try simp only [List.getElem_toArray, List.getElem_cons_succ, List.getElem_cons_zero]
        try dsimp only
        try simp only [Act.put, List.setIfInBounds_toArray, List.set_cons_zero, List.set_cons_succ]
        refine wpAnyT_takeS (i := 9) (v := undef) rfl (by kernel_rfl) (by kernel_rfl) (by kernel_rfl) rfl (fun _ _ _ h => h) (Or.inr ⟨by kernel_rfl, rfl⟩) hSa (fun _ => trivial) ?_
        try simp only [List.getElem_toArray, List.getElem_cons_succ, List.getElem_cons_zero]
        try dsimp only
        try simp only [Act.put, List.setIfInBounds_toArray, List.set_cons_zero, List.set_cons_succ]
        refine wpAnyT_takeS (i := 10) (v := undef) rfl (by kernel_rfl) (by kernel_rfl) (by kernel_rfl) rfl (fun _ _ _ h => h) (Or.inr ⟨by kernel_rfl, rfl⟩) hSa (fun _ => trivial) ?_
        try simp only [List.getElem_toArray, List.getElem_cons_succ, List.getElem_cons_zero]
        try dsimp only
        try simp only [Act.put, List.setIfInBounds_toArray, List.set_cons_zero, List.set_cons_succ]
        refine wpAnyT_takeS (i := 11) (v := undef) rfl (by kernel_rfl) (by kernel_rfl) (by kernel_rfl) rfl (fun _ _ _ h => h) (Or.inr ⟨by kernel_rfl, rfl⟩) hSa (fun _ => trivial) ?_
        try simp only [List.getElem_toArray, List.getElem_cons_succ, List.getElem_cons_zero]
        try dsimp only
        try simp only [Act.put, List.setIfInBounds_toArray, List.set_cons_zero, List.set_cons_succ]
        refine wpAnyT_takeS (i := 12) (v := undef) rfl (by kernel_rfl) (by kernel_rfl) (by kernel_rfl) rfl (fun _ _ _ h => h) (Or.inr ⟨by kernel_rfl, rfl⟩) hSa (fun _ => trivial) ?_
        try simp only [List.getElem_toArray, List.getElem_cons_succ, List.getElem_cons_zero]
        try dsimp only
        try simp only [Act.put, List.setIfInBounds_toArray, List.set_cons_zero, List.set_cons_succ]
        refine wpAnyT_takeS (i := 13) (v := undef) rfl (by kernel_rfl) (by kernel_rfl) (by kernel_rfl) rfl (fun _ _ _ h => h) (Or.inr ⟨by kernel_rfl, rfl⟩) hSa (fun _ => trivial) ?_
        try simp only [List.getElem_toArray, List.getElem_cons_succ, List.getElem_cons_zero]
        try dsimp only
        try simp only [Act.put, List.setIfInBounds_toArray, List.set_cons_zero, List.set_cons_succ]
        refine wpAnyT_takeS (i := 14) (v := undef) rfl (by kernel_rfl) (by kernel_rfl) (by kernel_rfl) rfl (fun _ _ _ h => h) (Or.inr ⟨by kernel_rfl, rfl⟩) hSa (fun _ => trivial) ?_
        try simp only [List.getElem_toArray, List.getElem_cons_succ, List.getElem_cons_zero]
        try dsimp only
        try simp only [Act.put, List.setIfInBounds_toArray, List.set_cons_zero, List.set_cons_succ]
        refine wpAnyT_takeS (i := 15) (v := undef) rfl (by kernel_rfl) (by kernel_rfl) (by kernel_rfl) rfl (fun _ _ _ h => h) (Or.inr ⟨by kernel_rfl, rfl⟩) hSa (fun _ => trivial) ?_
        try simp only [List.getElem_toArray, List.getElem_cons_succ, List.getElem_cons_zero]
        try dsimp only
        try simp only [Act.put, List.setIfInBounds_toArray, List.set_cons_zero, List.set_cons_succ]
        refine wpAnyT_takeS (i := 16) (v := .bool true) rfl (by kernel_rfl) (by kernel_rfl) (by kernel_rfl) rfl (fun _ _ _ h => h) (Or.inl ⟨by kernel_rfl, fun W hW => by go_simp⟩) hSa (fun _ => trivial) ?_
        try simp only [List.getElem_toArray, List.getElem_cons_succ, List.getElem_cons_zero]
        try dsimp only
        try simp only [Act.put, List.setIfInBounds_toArray, List.set_cons_zero, List.set_cons_succ]
        refine wpAnyT_takeS (i := 17) (v := .bool true) rfl (by kernel_rfl) (by kernel_rfl) (by kernel_rfl) rfl (fun _ _ _ h => h) (Or.inl ⟨by kernel_rfl, fun W hW => by go_simp⟩) hSa (fun _ => trivial) ?_
        try simp only [List.getElem_toArray, List.getElem_cons_succ, List.getElem_cons_zero]
        try dsimp only
        try simp only [Act.put, List.setIfInBounds_toArray, List.set_cons_zero, List.set_cons_succ]
        refine wpAnyT_takeS (i := 18) (v := .bool true) rfl (by kernel_rfl) (by kernel_rfl) (by kernel_rfl) rfl (fun _ _ _ h => h) (Or.inl ⟨by kernel_rfl, fun _ _ => by kernel_rfl⟩) hSa (fun _ => trivial) ?_
        try simp only [List.getElem_toArray, List.getElem_cons_succ, List.getElem_cons_zero]
        try dsimp only
        try simp only [Act.put, List.setIfInBounds_toArray, List.set_cons_zero, List.set_cons_succ]
        refine wpAnyT_done (by kernel_rfl) ?_ _
        go_wp2_with fail
        go_ret
        exact ⟨rfl, HB.out.trans (hSa.mono HB.out.size)⟩
    · have hub : (eu != 0) = true := by simpa using hu
      refine wp_region_T (fun W' => RowKit.Below w13.heap.size w13 W') (fun _ => True) 99 (by kernel_rfl) (Below.refl _ _).drew trivial (fun hS hT => ?_)
      refine wpAnyT_one (j := 0) rfl (by kernel_rfl) (by kernel_rfl) (fun K hK => ?_)
      go_simp
      refine (hal _ hS).mono ?_
      rintro e wal ⟨rfl, hqa⟩
      have hSa := hS.trans (hqa.mono hS.size)
      refine hK.out _ _ hSa (fun _ => trivial) ?_
      try simp only [List.getElem_toArray, List.getElem_cons_succ, List.getElem_cons_zero]
      try dsimp only
      try simp only [Act.put, List.setIfInBounds_toArray, List.set_cons_zero, List.set_cons_succ]
      refine wpAnyT_takeS (i := 1) (v := .bool true) rfl (by kernel_rfl) (by kernel_rfl) (by kernel_rfl) rfl (fun _ _ _ h => h) (Or.inl ⟨by kernel_rfl, fun _ _ => by kernel_rfl⟩) hSa (fun _ => trivial) ?_
      try simp only [List.getElem_toArray, List.getElem_cons_succ, List.getElem_cons_zero]
      try dsimp only
      try simp only [Act.put, List.setIfInBounds_toArray, List.set_cons_zero, List.set_cons_succ]
      refine wpAnyT_takeS (i := 2) (v := .int .i64 eu) rfl (by kernel_rfl) (by kernel_rfl) (by kernel_rfl) rfl (fun _ _ _ h => h) (Or.inl ⟨by kernel_rfl, fun _ _ => by kernel_rfl⟩) hSa (fun _ => trivial) ?_
      try simp only [List.getElem_toArray, List.getElem_cons_succ, List.getElem_cons_zero]
      try dsimp only
      try simp only [Act.put, List.setIfInBounds_toArray, List.set_cons_zero, List.set_cons_succ]
      refine wpAnyT_takeS (i := 3) (v := .bool true) rfl (by kernel_rfl) (by kernel_rfl) (by kernel_rfl) rfl (fun _ _ _ h => h) (Or.inl ⟨by kernel_rfl, fun W hW => by go_simp⟩) hSa (fun _ => trivial) ?_
      try simp only [List.getElem_toArray, List.getElem_cons_succ, List.getElem_cons_zero]
      try dsimp only
      try simp only [Act.put, List.setIfInBounds_toArray, List.set_cons_zero, List.set_cons_succ]
      refine wpAnyT_takeS (i := 4) (v := .bool true) rfl (by kernel_rfl) (by kernel_rfl) (by kernel_rfl) rfl (fun _ _ _ h => h) (Or.inl ⟨by kernel_rfl, fun _ _ => by kernel_rfl⟩) hSa (fun _ => trivial) ?_
      try simp only [List.getElem_toArray, List.getElem_cons_succ, List.getElem_cons_zero]
      try dsimp only
      try simp only [Act.put, List.setIfInBounds_toArray, List.set_cons_zero, List.set_cons_succ]
      refine wpAnyT_takeS (i := 5) (v := undef) rfl (by kernel_rfl) (by kernel_rfl) (by kernel_rfl) rfl (fun _ _ _ h => h) (Or.inr ⟨by kernel_rfl, rfl⟩) hSa (fun _ => trivial) ?_
      try simp only [List.getElem_toArray, List.getElem_cons_succ, List.getElem_cons_zero]
      try dsimp only
      try simp only [Act.put, List.setIfInBounds_toArray, List.set_cons_zero, List.set_cons_succ]
      refine wpAnyT_takeS (i := 6) (v := undef) rfl (by kernel_rfl) (by kernel_rfl) (by kernel_rfl) rfl (fun _ _ _ h => h) (Or.inr ⟨by kernel_rfl, rfl⟩) hSa (fun _ => trivial) ?_
      try simp only [List.getElem_toArray, List.getElem_cons_succ, List.getElem_cons_zero]
      try dsimp only
      try simp only [Act.put, List.setIfInBounds_toArray, List.set_cons_zero, List.set_cons_succ]
      refine wpAnyT_takeS (i := 7) (v := .bool true) rfl (by kernel_rfl) (by kernel_rfl) (by kernel_rfl) rfl (fun _ _ _ h => h) (Or.inl ⟨by kernel_rfl, fun W hW => by go_simp⟩) hSa (fun _ => trivial) ?_
      try simp only [List.getElem_toArray, List.getElem_cons_succ, List.getElem_cons_zero]
      try dsimp only
      try simp only [Act.put, List.setIfInBounds_toArray, List.set_cons_zero, List.set_cons_succ]
      refine wpAnyT_takeS (i := 8) (v := .bool true) rfl (by kernel_rfl) (by kernel_rfl) (by kernel_rfl) rfl (fun _ _ _ h => h) (Or.inl ⟨by kernel_rfl, fun _ _ => by kernel_rfl⟩) hSa (fun _ => trivial) ?_
      try simp only [List.getElem_toArray, List.getElem_cons_succ, List.getElem_cons_zero]
      try dsimp only
      try simp only [Act.put, List.setIfInBounds_toArray, List.set_cons_zero, List.set_cons_succ]
      refine wpAnyT_takeS (i := 9) (v := undef) rfl (by kernel_rfl) (by kernel_rfl) (by kernel_rfl) rfl (fun _ _ _ h => h) (Or.inr ⟨by kernel_rfl, rfl⟩) hSa (fun _ => trivial) ?_
      try simp only [List.getElem_toArray, List.getElem_cons_succ, List.getElem_cons_zero]
      try dsimp only
      try simp only [Act.put, List.setIfInBounds_toArray, List.set_cons_zero, List.set_cons_succ]
      refine wpAnyT_takeS (i := 10) (v := undef) rfl (by kernel_rfl) (by kernel_rfl) (by kernel_rfl) rfl (fun _ _ _ h => h) (Or.inr ⟨by kernel_rfl, rfl⟩) hSa (fun _ => trivial) ?_
      try simp only [List.getElem_toArray, List.getElem_cons_succ, List.getElem_cons_zero]
      try dsimp only
      try simp only [Act.put, List.setIfInBounds_toArray, List.set_cons_zero, List.set_cons_succ]
      refine wpAnyT_takeS (i := 11) (v := undef) rfl (by kernel_rfl) (by kernel_rfl) (by kernel_rfl) rfl (fun _ _ _ h => h) (Or.inr ⟨by kernel_rfl, rfl⟩) hSa (fun _ => trivial) ?_
      try simp only [List.getElem_toArray, List.getElem_cons_succ, List.getElem_cons_zero]
      try dsimp only
      try simp only [Act.put, List.setIfInBounds_toArray, List.set_cons_zero, List.set_cons_succ]
      refine wpAnyT_takeS (i := 12) (v := undef) rfl (by kernel_rfl) (by kernel_rfl) (by kernel_rfl) rfl (fun _ _ _ h => h) (Or.inr ⟨by kernel_rfl, rfl⟩) hSa (fun _ => trivial) ?_
      try simp only [List.getElem_toArray, List.getElem_cons_succ, List.getElem_cons_zero]
      try dsimp only
      try simp only [Act.put, List.setIfInBounds_toArray, List.set_cons_zero, List.set_cons_succ]
      refine wpAnyT_takeS (i := 13) (v := undef) rfl (by kernel_rfl) (by kernel_rfl) (by kernel_rfl) rfl (fun _ _ _ h => h) (Or.inr ⟨by kernel_rfl, rfl⟩) hSa (fun _ => trivial) ?_
      try simp only [List.getElem_toArray, List.getElem_cons_succ, List.getElem_cons_zero]
      try dsimp only
      try simp only [Act.put, List.setIfInBounds_toArray, List.set_cons_zero, List.set_cons_succ]
      refine wpAnyT_takeS (i := 14) (v := undef) rfl (by kernel_rfl) (by kernel_rfl) (by kernel_rfl) rfl (fun _ _ _ h => h) (Or.inr ⟨by kernel_rfl, rfl⟩) hSa (fun _ => trivial) ?_
      try simp only [List.getElem_toArray, List.getElem_cons_succ, List.getElem_cons_zero]
      try dsimp only
      try simp only [Act.put, List.setIfInBounds_toArray, List.set_cons_zero, List.set_cons_succ]
      refine wpAnyT_takeS (i := 15) (v := undef) rfl (by kernel_rfl) (by kernel_rfl) (by kernel_rfl) rfl (fun _ _ _ h => h) (Or.inr ⟨by kernel_rfl, rfl⟩) hSa (fun _ => trivial) ?_
      try simp only [List.getElem_toArray, List.getElem_cons_succ, List.getElem_cons_zero]
      try dsimp only
      try simp only [Act.put, List.setIfInBounds_toArray, List.set_cons_zero, List.set_cons_succ]
      refine wpAnyT_takeS (i := 16) (v := .bool true) rfl (by kernel_rfl) (by kernel_rfl) (by kernel_rfl) rfl (fun _ _ _ h => h) (Or.inl ⟨by kernel_rfl, fun W hW => by go_simp⟩) hSa (fun _ => trivial) ?_
      try simp only [List.getElem_toArray, List.getElem_cons_succ, List.getElem_cons_zero]
      try dsimp only
      try simp only [Act.put, List.setIfInBounds_toArray, List.set_cons_zero, List.set_cons_succ]
      refine wpAnyT_takeS (i := 17) (v := .bool true) rfl (by kernel_rfl) (by kernel_rfl) (by kernel_rfl) rfl (fun _ _ _ h => h) (Or.inl ⟨by kernel_rfl, fun W hW => by go_simp⟩) hSa (fun _ => trivial) ?_
      try simp only [List.getElem_toArray, List.getElem_cons_succ, List.getElem_cons_zero]
      try dsimp only
      try simp only [Act.put, List.setIfInBounds_toArray, List.set_cons_zero, List.set_cons_succ]
      refine wpAnyT_takeS (i := 18) (v := .bool true) rfl (by kernel_rfl) (by kernel_rfl) (by kernel_rfl) rfl (fun _ _ _ h => h) (Or.inl ⟨by kernel_rfl, fun _ _ => by kernel_rfl⟩) hSa (fun _ => trivial) ?_
      try simp only [List.getElem_toArray, List.getElem_cons_succ, List.getElem_cons_zero]
      try dsimp only
      try simp only [Act.put, List.setIfInBounds_toArray, List.set_cons_zero, List.set_cons_succ]
      refine wpAnyT_done (by kernel_rfl) ?_ _
      go_wp2_with fail
      go_ret
      exact ⟨rfl, HB.out.trans (hSa.mono HB.out.size)⟩

end Go.Proofs.YtmeomhojbobpbaaGreatDoor
