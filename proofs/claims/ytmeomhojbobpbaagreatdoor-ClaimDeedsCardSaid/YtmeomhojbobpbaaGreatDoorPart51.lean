import Derived.Test.YtmeomhojbobpbaaGreatDoorPart42
import Derived.Test.YtmeomhojbobpbaaGreatDoorPart50
/-
  Walk: the law ClaimDeeds.
-/
namespace Go.Proofs.YtmeomhojbobpbaaGreatDoor
open Go.RowKit Lg Go.Sort Go.Shelf Go.Maps

set_option maxRecDepth 100000 in
set_option maxHeartbeats 6400000 in
theorem lawDeeds_any (a : Option Addr) (n cap : Nat) (xs : List Deed) (x : Deed) (w : World) (hL : Lst w 11 cD a n cap xs) (hV : Vs w) :
    Calls Tryz.prog 7 #[.slice a n cap, aD x] w (Gives w (.bool true)) := by
  obtain ⟨w0, hw0⟩ : ∃ w0, w0 = w.alloc (.cells #[.int .i64 x.id, .int .i64 x.known, .int .i64 x.hour, .int .u8 x.kind, .int .i64 x.loss, .int .i64 x.pack, .int .i64 x.from_, .int .i64 x.to_, .int .i64 x.share.num, .int .i64 x.share.den, .int .i64 x.of_] 36) := ⟨_, rfl⟩
  have kX : Blk w0 w.heap.size #[.int .i64 x.id, .int .i64 x.known, .int .i64 x.hour, .int .u8 x.kind, .int .i64 x.loss, .int .i64 x.pack, .int .i64 x.from_, .int .i64 x.to_, .int .i64 x.share.num, .int .i64 x.share.den, .int .i64 x.of_] 36 := hw0 ▸ Blk.new _ _ _
  have hB0 : RowKit.Below w.heap.size w w0 := hw0 ▸ (Below.refl _ w).alloc (Nat.le_refl _) _
  have HV := Lib.hid hV
  have HL := Lib.hid (fun W (h : RowKit.Below w.heap.size w W) => hL.below h)
  clear hL hV
  go_enter Tryz.func7, Tryz.ntmps7
  go_upto_region 1 with fail
  rw [← hw0]
  clear hw0
  obtain ⟨bx, hbx⟩ : ∃ b, b = w.heap.size := ⟨_, rfl⟩
  rw [← hbx] at kX ⊢
  clear hbx
  by_cases h1 : 305 < n
  · have hz : (305 : Int) < (n : Int) := by omega
    have hal := alive_any _ (HV.out.below hB0)
    go_wp2_with (fail)
    refine hal.mono ?_
    rintro e w2 ⟨rfl, hB2⟩
    go_wp2_with (fail)
    go_ret
    exact ⟨rfl, hB0.trans (hB2.mono hB0.size)⟩
  have hz : ¬ (305 : Int) < (n : Int) := by omega
  clear h1
  have Hc := Lib.hid (fun W (h : RowKit.Below w.heap.size w W) => checkDeeds_any a n cap xs W (HL.out W h))
  have Hr := Lib.hid (fun W (h : RowKit.Below w.heap.size w W) => check5D_any a n cap xs W (HL.out W h))
  have Ha := Lib.hid (fun W (h : RowKit.Below w.heap.size w W) => appendD_any a n cap xs x W (HL.out W h))
  have Hb := Lib.hid (fun W (h : RowKit.Below w.heap.size w W) => append5D_any a n cap xs x W (HL.out W h))
  have hk1 := fun W => checkDeed_any x W
  have hk2 := fun W => check5_any x W
  clear HL
  generalize checkDeeds xs = c at *
  generalize appendDeed xs x = q at *
  generalize (if formedD x = true then (0 : Int) else 1) = kf at *
  obtain ⟨c1, c2⟩ := c
  obtain ⟨l, er⟩ := q
  go_wp2_with (fail)
  refine (Hc.out _ hB0).mono ?_
  rintro e w1 ⟨rfl, hB1⟩
  replace kX := kX.below' hB1
  replace hB1 := hB0.trans (hB1.mono hB0.size)
  clear hB0 Hc
  go_wp2_with (fail)
  refine (Hr.out _ hB1).mono ?_
  rintro e w2 ⟨rfl, hB2⟩
  replace kX := kX.below' hB2
  replace hB2 := hB1.trans (hB2.mono hB1.size)
  clear hB1 Hr
  have cX := kX.cell
  go_wp2_with (fail)
  refine (Ha.out _ hB2).mono ?_
  rintro e w3 ⟨v1, rfl, ho1, hB3⟩
  obtain ⟨a1, p1, rfl, _, hL1⟩ := Lst.of_owns (k := 11) (enc := cD) (fun _ => rfl) (by omega) ho1 rfl
  replace kX := kX.below' hB3
  replace hB3 := hB2.trans (hB3.mono hB2.size)
  clear hB2 Ha cX ho1
  have HL1 := Lib.hid hL1
  clear hL1
  have cX := kX.cell
  go_wp2_with (fail)
  refine (Hb.out _ hB3).mono ?_
  rintro e w5 ⟨v2, rfl, ho2, hB5⟩
  obtain ⟨a2, p2, rfl, _, hL2⟩ := Lst.of_owns (k := 11) (enc := cD) (fun _ => rfl) (by omega) ho2 rfl
  replace kX := kX.below' hB5
  have hL1 := HL1.out.below hB5
  replace hB5 := hB3.trans (hB5.mono hB3.size)
  clear hB3 Hb cX ho2 HL1
  have hsm := fun W (h : RowKit.Below w5.heap.size w5 W) => sameD_any _ _ _ _ _ _ _ _ W (hL1.below h) (hL2.below h)
  rw [decide_eq_true rfl] at hsm
  have hal := fun W (h : RowKit.Below w5.heap.size w5 W) => alive_any W (HV.out.below (hB5.trans (h.mono hB5.size)))
  have HF := Lib.hid (fun W (h : RowKit.Below w5.heap.size w5 W) => kX.below' h)
  have HB := Lib.hid hB5
  clear hL1 hL2 hB5 kX HV
  generalize l.length = ln at *
  go_upto_region 7 with fail
  refine wp_region_T (fun W' => RowKit.Below w5.heap.size w5 W') (fun _ => True) 99 (by kernel_rfl) (Below.refl _ _).drew trivial (fun hS hT => ?_)
  refine wpAnyT_one (j := 0) rfl (by kernel_rfl) (by kernel_rfl) (fun K hK => ?_)
  go_simp
  refine (hal _ hS).mono ?_
  rintro e wqhSa ⟨rfl, hqhSa⟩
  have hSa := hS.trans (hqhSa.mono hS.size)
  refine hK.out _ _ hSa (fun _ => trivial) ?_
  try simp only [List.getElem_toArray, List.getElem_cons_succ, List.getElem_cons_zero]
  try dsimp only
  try simp only [Act.put, List.setIfInBounds_toArray, List.set_cons_zero, List.set_cons_succ]
  refine wpAnyT_takeS (i := 1) (v := .bool true) rfl (by kernel_rfl) (by kernel_rfl) (by kernel_rfl) rfl (fun _ _ _ h => h) (Or.inl ⟨by kernel_rfl, fun _ _ => by kernel_rfl⟩) hSa (fun _ => trivial) ?_
  try simp only [List.getElem_toArray, List.getElem_cons_succ, List.getElem_cons_zero]
  try dsimp only
  try simp only [Act.put, List.setIfInBounds_toArray, List.set_cons_zero, List.set_cons_succ]
  refine wpAnyT_takeS (i := 2) (v := .int .i64 c1) rfl (by kernel_rfl) (by kernel_rfl) (by kernel_rfl) rfl (fun _ _ _ h => h) (Or.inl ⟨by kernel_rfl, fun _ _ => by kernel_rfl⟩) hSa (fun _ => trivial) ?_
  try simp only [List.getElem_toArray, List.getElem_cons_succ, List.getElem_cons_zero]
  try dsimp only
  try simp only [Act.put, List.setIfInBounds_toArray, List.set_cons_zero, List.set_cons_succ]
  refine wpAnyT_takeS (i := 3) (v := .int .i64 c1) rfl (by kernel_rfl) (by kernel_rfl) (by kernel_rfl) rfl (fun _ _ _ h => h) (Or.inl ⟨by kernel_rfl, fun _ _ => by kernel_rfl⟩) hSa (fun _ => trivial) ?_
  try simp only [List.getElem_toArray, List.getElem_cons_succ, List.getElem_cons_zero]
  try dsimp only
  try simp only [Act.put, List.setIfInBounds_toArray, List.set_cons_zero, List.set_cons_succ]
  refine wpAnyT_takeS (i := 4) (v := .bool true) rfl (by kernel_rfl) (by kernel_rfl) (by kernel_rfl) rfl (fun _ _ _ h => h) (Or.inl ⟨by kernel_rfl, fun W hW => by go_simp⟩) hSa (fun _ => trivial) ?_
  try simp only [List.getElem_toArray, List.getElem_cons_succ, List.getElem_cons_zero]
  try dsimp only
  try simp only [Act.put, List.setIfInBounds_toArray, List.set_cons_zero, List.set_cons_succ]
  refine wpAnyT_takeS (i := 5) (v := .bool true) rfl (by kernel_rfl) (by kernel_rfl) (by kernel_rfl) rfl (fun _ _ _ h => h) (Or.inl ⟨by kernel_rfl, fun W hW => by go_simp⟩) hSa (fun _ => trivial) ?_
  try simp only [List.getElem_toArray, List.getElem_cons_succ, List.getElem_cons_zero]
  try dsimp only
  try simp only [Act.put, List.setIfInBounds_toArray, List.set_cons_zero, List.set_cons_succ]
  refine wpAnyT_takeS (i := 6) (v := .bool true) rfl (by kernel_rfl) (by kernel_rfl) (by kernel_rfl) rfl (fun _ _ _ h => h) (Or.inl ⟨by kernel_rfl, fun _ _ => by kernel_rfl⟩) hSa (fun _ => trivial) ?_
  try simp only [List.getElem_toArray, List.getElem_cons_succ, List.getElem_cons_zero]
  try dsimp only
  try simp only [Act.put, List.setIfInBounds_toArray, List.set_cons_zero, List.set_cons_succ]
  refine wpAnyT_takeS (i := 7) (v := .int .i64 c2) rfl (by kernel_rfl) (by kernel_rfl) (by kernel_rfl) rfl (fun _ _ _ h => h) (Or.inl ⟨by kernel_rfl, fun _ _ => by kernel_rfl⟩) hSa (fun _ => trivial) ?_
  try simp only [List.getElem_toArray, List.getElem_cons_succ, List.getElem_cons_zero]
  try dsimp only
  try simp only [Act.put, List.setIfInBounds_toArray, List.set_cons_zero, List.set_cons_succ]
  refine wpAnyT_takeS (i := 8) (v := .int .i64 c2) rfl (by kernel_rfl) (by kernel_rfl) (by kernel_rfl) rfl (fun _ _ _ h => h) (Or.inl ⟨by kernel_rfl, fun _ _ => by kernel_rfl⟩) hSa (fun _ => trivial) ?_
  try simp only [List.getElem_toArray, List.getElem_cons_succ, List.getElem_cons_zero]
  try dsimp only
  try simp only [Act.put, List.setIfInBounds_toArray, List.set_cons_zero, List.set_cons_succ]
  refine wpAnyT_takeS (i := 9) (v := .bool true) rfl (by kernel_rfl) (by kernel_rfl) (by kernel_rfl) rfl (fun _ _ _ h => h) (Or.inl ⟨by kernel_rfl, fun W hW => by go_simp⟩) hSa (fun _ => trivial) ?_
  try simp only [List.getElem_toArray, List.getElem_cons_succ, List.getElem_cons_zero]
  try dsimp only
  try simp only [Act.put, List.setIfInBounds_toArray, List.set_cons_zero, List.set_cons_succ]
  refine wpAnyT_takeS (i := 10) (v := .bool true) rfl (by kernel_rfl) (by kernel_rfl) (by kernel_rfl) rfl (fun _ _ _ h => h) (Or.inl ⟨by kernel_rfl, fun W hW => by go_simp⟩) hSa (fun _ => trivial) ?_
  try simp only [List.getElem_toArray, List.getElem_cons_succ, List.getElem_cons_zero]
  try dsimp only
  try simp only [Act.put, List.setIfInBounds_toArray, List.set_cons_zero, List.set_cons_succ]
  refine wpAnyT_takeS (i := 11) (v := .bool true) rfl (by kernel_rfl) (by kernel_rfl) (by kernel_rfl) rfl (fun _ _ _ h => h) (Or.inl ⟨by kernel_rfl, fun _ _ => by kernel_rfl⟩) hSa (fun _ => trivial) ?_
  try simp only [List.getElem_toArray, List.getElem_cons_succ, List.getElem_cons_zero]
  try dsimp only
  try simp only [Act.put, List.setIfInBounds_toArray, List.set_cons_zero, List.set_cons_succ]
  refine wpAnyT_takeS (i := 12) (v := .int .i64 er) rfl (by kernel_rfl) (by kernel_rfl) (by kernel_rfl) rfl (fun _ _ _ h => h) (Or.inl ⟨by kernel_rfl, fun _ _ => by kernel_rfl⟩) hSa (fun _ => trivial) ?_
  try simp only [List.getElem_toArray, List.getElem_cons_succ, List.getElem_cons_zero]
  try dsimp only
  try simp only [Act.put, List.setIfInBounds_toArray, List.set_cons_zero, List.set_cons_succ]
  refine wpAnyT_takeS (i := 13) (v := .int .i64 er) rfl (by kernel_rfl) (by kernel_rfl) (by kernel_rfl) rfl (fun _ _ _ h => h) (Or.inl ⟨by kernel_rfl, fun _ _ => by kernel_rfl⟩) hSa (fun _ => trivial) ?_
  try simp only [List.getElem_toArray, List.getElem_cons_succ, List.getElem_cons_zero]
  try dsimp only
  try simp only [Act.put, List.setIfInBounds_toArray, List.set_cons_zero, List.set_cons_succ]
  refine wpAnyT_takeS (i := 14) (v := .bool true) rfl (by kernel_rfl) (by kernel_rfl) (by kernel_rfl) rfl (fun _ _ _ h => h) (Or.inl ⟨by kernel_rfl, fun W hW => by go_simp⟩) hSa (fun _ => trivial) ?_
  try simp only [List.getElem_toArray, List.getElem_cons_succ, List.getElem_cons_zero]
  try dsimp only
  try simp only [Act.put, List.setIfInBounds_toArray, List.set_cons_zero, List.set_cons_succ]
  refine wpAnyT_takeS (i := 15) (v := .bool true) rfl (by kernel_rfl) (by kernel_rfl) (by kernel_rfl) rfl (fun _ _ _ h => h) (Or.inl ⟨by kernel_rfl, fun W hW => by go_simp⟩) hSa (fun _ => trivial) ?_
  try simp only [List.getElem_toArray, List.getElem_cons_succ, List.getElem_cons_zero]
  try dsimp only
  try simp only [Act.put, List.setIfInBounds_toArray, List.set_cons_zero, List.set_cons_succ]
  refine wpAnyT_takeS (i := 16) (v := .bool true) rfl (by kernel_rfl) (by kernel_rfl) (by kernel_rfl) rfl (fun _ _ _ h => h) (Or.inl ⟨by kernel_rfl, fun _ _ => by kernel_rfl⟩) hSa (fun _ => trivial) ?_
  try simp only [List.getElem_toArray, List.getElem_cons_succ, List.getElem_cons_zero]
  try dsimp only
  try simp only [Act.put, List.setIfInBounds_toArray, List.set_cons_zero, List.set_cons_succ]
  refine wpAnyT_takeS (i := 17) (v := .slice a1 ln p1) rfl (by kernel_rfl) (by kernel_rfl) (by kernel_rfl) rfl (fun _ _ _ h => h) (Or.inl ⟨by kernel_rfl, fun _ _ => by kernel_rfl⟩) hSa (fun _ => trivial) ?_
  try simp only [List.getElem_toArray, List.getElem_cons_succ, List.getElem_cons_zero]
  try dsimp only
  try simp only [Act.put, List.setIfInBounds_toArray, List.set_cons_zero, List.set_cons_succ]
  refine wpAnyT_takeS (i := 18) (v := .slice a2 ln p2) rfl (by kernel_rfl) (by kernel_rfl) (by kernel_rfl) rfl (fun _ _ _ h => h) (Or.inl ⟨by kernel_rfl, fun _ _ => by kernel_rfl⟩) hSa (fun _ => trivial) ?_
  try simp only [List.getElem_toArray, List.getElem_cons_succ, List.getElem_cons_zero]
  try dsimp only
  try simp only [Act.put, List.setIfInBounds_toArray, List.set_cons_zero, List.set_cons_succ]
  refine wpAnyT_one (j := 19) rfl (by kernel_rfl) (by kernel_rfl) (fun K hK => ?_)
  go_simp
  refine (hsm _ hSa).mono ?_
  rintro e wqhSb ⟨rfl, hqhSb⟩
  have hSb := hSa.trans (hqhSb.mono hSa.size)
  refine hK.out _ _ hSb (fun _ => trivial) ?_
  try simp only [List.getElem_toArray, List.getElem_cons_succ, List.getElem_cons_zero]
  try dsimp only
  try simp only [Act.put, List.setIfInBounds_toArray, List.set_cons_zero, List.set_cons_succ]
  refine wpAnyT_takeS (i := 20) (v := .bool true) rfl (by kernel_rfl) (by kernel_rfl) (by kernel_rfl) rfl (fun _ _ _ h => h) (Or.inl ⟨by kernel_rfl, fun W hW => by go_simp⟩) hSb (fun _ => trivial) ?_
  try simp only [List.getElem_toArray, List.getElem_cons_succ, List.getElem_cons_zero]
  try dsimp only
  try simp only [Act.put, List.setIfInBounds_toArray, List.set_cons_zero, List.set_cons_succ]
  refine wpAnyT_takeS (i := 21) (v := .bool true) rfl (by kernel_rfl) (by kernel_rfl) (by kernel_rfl) rfl (fun _ _ _ h => h) (Or.inl ⟨by kernel_rfl, fun _ _ => by kernel_rfl⟩) hSb (fun _ => trivial) ?_
  try simp only [List.getElem_toArray, List.getElem_cons_succ, List.getElem_cons_zero]
  try dsimp only
  try simp only [Act.put, List.setIfInBounds_toArray, List.set_cons_zero, List.set_cons_succ]
  refine wpAnyT_takeS (i := 22) (v := .agg (cD x).toArray) rfl (by kernel_rfl) (by kernel_rfl) (by kernel_rfl) rfl (fun _ _ _ h => h) (yields_load 36 (.tmp 3) rfl bx (0) (by kernel_rfl) (cD x) _ (by kernel_rfl) (fun W hW => ((HF.out W hW).range 0 _ (fun j v h => by simpa using h))) Tryz.underlying36 rfl (by kernel_rfl)) hSb (fun _ => trivial) ?_
  try simp only [List.getElem_toArray, List.getElem_cons_succ, List.getElem_cons_zero]
  try dsimp only
  try simp only [Act.put, List.setIfInBounds_toArray, List.set_cons_zero, List.set_cons_succ]
  refine wpAnyT_takeS (i := 24) (v := .agg (cD x).toArray) rfl (by kernel_rfl) (by kernel_rfl) (by kernel_rfl) rfl (fun _ _ _ h => h) (yields_load 36 (.tmp 3) rfl bx (0) (by kernel_rfl) (cD x) _ (by kernel_rfl) (fun W hW => ((HF.out W hW).range 0 _ (fun j v h => by simpa using h))) Tryz.underlying36 rfl (by kernel_rfl)) hSb (fun _ => trivial) ?_
  try simp only [List.getElem_toArray, List.getElem_cons_succ, List.getElem_cons_zero]
  try dsimp only
  try simp only [Act.put, List.setIfInBounds_toArray, List.set_cons_zero, List.set_cons_succ]
  refine wpAnyT_one (j := 23) rfl (by kernel_rfl) (by kernel_rfl) (fun K hK => ?_)
  go_simp
  refine (hk1 _).mono ?_
  rintro e wqhSc ⟨rfl, hqhSc⟩
  have hSc := hSb.trans (hqhSc.mono hSb.size)
  refine hK.out _ _ hSc (fun _ => trivial) ?_
  try simp only [List.getElem_toArray, List.getElem_cons_succ, List.getElem_cons_zero]
  try dsimp only
  try simp only [Act.put, List.setIfInBounds_toArray, List.set_cons_zero, List.set_cons_succ]
  refine wpAnyT_one (j := 25) rfl (by kernel_rfl) (by kernel_rfl) (fun K hK => ?_)
  go_simp
  refine (hk2 _).mono ?_
  rintro e wqhSd ⟨rfl, hqhSd⟩
  have hSd := hSc.trans (hqhSd.mono hSc.size)
  refine hK.out _ _ hSd (fun _ => trivial) ?_
  try simp only [List.getElem_toArray, List.getElem_cons_succ, List.getElem_cons_zero]
  try dsimp only
  try simp only [Act.put, List.setIfInBounds_toArray, List.set_cons_zero, List.set_cons_succ]
  refine wpAnyT_takeS (i := 26) (v := .bool true) rfl (by kernel_rfl) (by kernel_rfl) (by kernel_rfl) rfl (fun _ _ _ h => h) (Or.inl ⟨by kernel_rfl, fun W hW => by go_simp⟩) hSd (fun _ => trivial) ?_
  try simp only [List.getElem_toArray, List.getElem_cons_succ, List.getElem_cons_zero]
  try dsimp only
  try simp only [Act.put, List.setIfInBounds_toArray, List.set_cons_zero, List.set_cons_succ]
  refine wpAnyT_takeS (i := 27) (v := .bool true) rfl (by kernel_rfl) (by kernel_rfl) (by kernel_rfl) rfl (fun _ _ _ h => h) (Or.inl ⟨by kernel_rfl, fun W hW => by go_simp⟩) hSd (fun _ => trivial) ?_
  try simp only [List.getElem_toArray, List.getElem_cons_succ, List.getElem_cons_zero]
  try dsimp only
  try simp only [Act.put, List.setIfInBounds_toArray, List.set_cons_zero, List.set_cons_succ]
  refine wpAnyT_takeS (i := 28) (v := .bool true) rfl (by kernel_rfl) (by kernel_rfl) (by kernel_rfl) rfl (fun _ _ _ h => h) (Or.inl ⟨by kernel_rfl, fun _ _ => by kernel_rfl⟩) hSd (fun _ => trivial) ?_
  try simp only [List.getElem_toArray, List.getElem_cons_succ, List.getElem_cons_zero]
  try dsimp only
  try simp only [Act.put, List.setIfInBounds_toArray, List.set_cons_zero, List.set_cons_succ]
  refine wpAnyT_done (by kernel_rfl) ?_ _
  go_wp2_with fail
  go_ret
  exact ⟨rfl, HB.out.trans (hSd.mono HB.out.size)⟩

end Go.Proofs.YtmeomhojbobpbaaGreatDoor
