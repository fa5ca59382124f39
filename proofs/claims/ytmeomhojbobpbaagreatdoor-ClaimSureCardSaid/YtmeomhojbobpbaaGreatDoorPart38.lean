import Derived.Test.YtmeomhojbobpbaaGreatDoorPart37
import Derived.Test.YtmeomhojbobpbaaGreatDoorPart19
import Derived.Test.YtmeomhojbobpbaaGreatDoorPart20
import Derived.Deep.CutRange
import Derived.Deep.DeepCutAuto
/-
  Walks: slices.MinFunc, slices.MaxFunc at fractions compared by claim.Compare.
-/
namespace Go.Proofs.YtmeomhojbobpbaaGreatDoor
open Go.RowKit Lg Go.Sort Go.Shelf Go.Maps

theorem results_cell_one {P : Program} {fn : Func} {p : Tmp} {ty : TypeId} (h : fn.results = #[.cell p ty]) (tmps : Array Value) (w : World) (g : Nat) (T : TypeId) (cs : List Value) (d : TypeDesc)
    (hp : tmps.getD p undef = .pointer (some ⟨g, 0, none⟩)) (hg : Blk w g cs.toArray T) (hu : P.underlying ty = some d) (hd : d.isRow = true) (hi : (P.info? ty).map (·.size) = some cs.length) :
    (results fn tmps).run P w = .ok (.agg cs.toArray) w := by
  have hp' : tmps[p]?.getD undef = .pointer (some ⟨g, 0, none⟩) := by simpa using hp
  simp [results, h, hp', asAddr, run_loadVar_blk w g T ty cs d hg hu hd hi]

theorem take_succ_foldl {α β : Type} (f : β → α → β) (z : β) (ys : List α) (j : Nat) (y : α) (h : ys[j]? = some y) : (ys.take (j + 1)).foldl f z = f ((ys.take j).foldl f z) y := by
  obtain ⟨h1, h2⟩ := List.getElem?_eq_some_iff.1 h
  rw [List.take_succ_eq_append_getElem h1, h2, List.foldl_append]; rfl

/-- What slices.MinFunc gives. -/
def minC (l : List Frac) : Frac := l.tail.foldl (fun m f => if cmpF f m < 0 then f else m) (l.headD ⟨0, 0⟩)

set_option maxRecDepth 100000 in
set_option maxHeartbeats 1600000 in
theorem minC_any (a : Option Addr) (n cap : Nat) (x0 : Frac) (ys : List Frac) (w : World) (hL : Lst w 2 cF a n cap (x0 :: ys)) :
    Calls Tryz.prog 101 #[.slice a n cap, .func (.func 33) #[] #[]] w (Gives w (aF (minC (x0 :: ys)))) := by
  have hm : cap ≤ 9223372036854775807 := by have := hL.max; unfold maxLen at this; omega
  have hle := hL.le
  have hlen := hL.len
  rw [List.length_cons] at hlen
  have eC : Ent 33 := enters_of Tryz.func33 (by kernel_rfl) rfl
  obtain ⟨b, off, rfl, hb, hr0⟩ := hL.at_ 0 x0 rfl
  have HL : ∀ (i : Nat) (x : Frac), (x0 :: ys)[i]? = some x → w.rangeAt b (off + i * 2) (cF x) := fun i x hx => by
    obtain ⟨b', off', ha, _, hr⟩ := hL.at_ i x hx
    cases ha
    exact hr
  have HL := Lib.hid HL
  obtain ⟨w0, hw0⟩ : ∃ w0, w0 = w.alloc (.cells #[.int .i64 0, .int .i64 0] 25) := ⟨_, rfl⟩
  have kZ : Blk w0 w.heap.size #[.int .i64 0, .int .i64 0] 25 := hw0 ▸ Blk.new _ _ _
  have hB0 : RowKit.Below w.heap.size w w0 := hw0 ▸ (Below.refl _ w).alloc (Nat.le_refl _) _
  have hr0' : w0.rangeAt b off (cF x0) := by have := rangeAt_below hB0 hb hr0; simpa using this
  have hn1 : ¬ ((n : Int) < 1) := by omega
  have hn0 : (0 : Int) < (n : Int) := by omega
  have Hlen := Lib.hid hlen
  clear hL hr0 hlen
  go_enter Tryz.func101, Tryz.ntmps101
  go_upto_region 1 with fail
  rw [← hw0]
  clear hw0
  obtain ⟨bz, hbz⟩ : ∃ b, b = w.heap.size := ⟨_, rfl⟩
  rw [← hbz] at kZ ⊢
  have Hbz : w.heap.size ≤ bz := Nat.le_of_eq hbz.symm
  clear hbz
  have hsz := kZ.lt
  obtain ⟨w1, hw1⟩ : ∃ w1, w1 = w0.alloc (.cells (cF x0).toArray 25) := ⟨_, rfl⟩
  have kM : Blk w1 w0.heap.size (cF x0).toArray 25 := hw1 ▸ Blk.new _ _ _
  have kZ1 : Blk w1 bz #[.int .i64 0, .int .i64 0] 25 := hw1 ▸ kZ.alloc _
  have hB1 : RowKit.Below w0.heap.size w0 w1 := hw1 ▸ (Below.refl _ w0).alloc (Nat.le_refl _) _
  go_upto_region 4 with (first
    | (refine wpList_load_mid rfl 25 (.tmp 12) rfl b off rfl (cF x0) _ hr0' Tryz.underlying25 rfl (by kernel_rfl) ?_)
    | fail)
  rw [← hw1]
  clear hw1 hr0'
  obtain ⟨bm, hbm⟩ : ∃ b, b = w0.heap.size := ⟨_, rfl⟩
  rw [← hbm] at kM ⊢
  have hzm : bz < bm := by omega
  clear hbm
  have hbw : RowKit.Below w.heap.size w w1 := hB0.trans (hB1.mono hB0.size)
  clear kZ hB1 hB0 hsz
  go_wp2_with (fail)
  go_loopw [6] (fun i wr => ∃ (k : Nat) (m : Frac), 1 ≤ k ∧ k ≤ n ∧ i = .int .i64 k ∧ Hid (m = (ys.take (k - 1)).foldl (fun m f => if cmpF f m < 0 then f else m) x0) ∧ Blk wr bm (cF m).toArray 25 ∧ Blk wr bz #[.int .i64 0, .int .i64 0] 25 ∧ RowKit.Below w.heap.size w wr) (fun i _ => n - (intOf i).toNat)
  case atStart => exact ⟨1, x0, Nat.le_refl _, by omega, rfl, Lib.hid rfl, kM, kZ1, hbw⟩
  case round =>
    clear kM kZ1 hbw
    obtain ⟨k, m, hk1, hk, rfl, HM, kM, kZ, hB⟩ := hrel
    have hbs := hB.size
    by_cases hlt : k < n
    · obtain ⟨y, hy⟩ : ∃ y, ys[k - 1]? = some y := ⟨ys[k - 1]'(by have := Hlen.out; omega), by simp⟩
      have hy2 : (x0 :: ys)[k]? = some y := by obtain ⟨j, rfl⟩ : ∃ j, k = j + 1 := ⟨k - 1, by omega⟩; simpa using hy
      have hry := rangeAt_below hB hb (HL.out k y hy2)
      have hnx : (ys.take (k + 1 - 1)).foldl (fun m f => if cmpF f m < 0 then f else m) x0 = (fun m f => if cmpF f m < 0 then f else m) m y := by
        obtain ⟨j, rfl⟩ : ∃ j, k = j + 1 := ⟨k - 1, by omega⟩
        rw [HM.out]
        exact take_succ_foldl _ _ _ _ _ (by simpa using hy)
      have Hnx := Lib.hid hnx
      have hlz : (k : Int) < (n : Int) := by omega
      have HS := Lib.hid (fun W' (h : RowKit.Below wr.heap.size wr W') => (⟨rangeAt_below h (by omega) hry, kM.below' h⟩ : W'.rangeAt b (off + k * 2) (cF y) ∧ Blk W' bm (cF m).toArray 25))
      clear hy hy2 hnx hry
      go_upto_region 7 with fail
      go_cut [27] (fun c27 W' => c27 = .bool (decide (cmpF y m < 0)) ∧ RowKit.Below wr.heap.size wr W')
      case first =>
        clear kM kZ HM Hnx HL
        refine wp_region_T (fun W' => RowKit.Below wr.heap.size wr W') (fun _ => True) 99 (by kernel_rfl) (Below.refl _ _).drew trivial (fun hS hT => ?_)
        refine wpAnyT_takeS (i := 0) (v := .func (.func 33) #[] #[]) rfl (by kernel_rfl) (by kernel_rfl) (by kernel_rfl) rfl (fun _ _ _ h => h) (Or.inl ⟨by kernel_rfl, fun _ _ => by kernel_rfl⟩) hS (fun _ => trivial) ?_
        try simp only [List.getElem_toArray, List.getElem_cons_zero]
        try dsimp only
        try simp only [Act.put, List.setIfInBounds_toArray, List.set_cons_zero, List.set_cons_succ]
        refine wpAnyT_takeS (i := 1) (v := .slice (some ⟨b, off, none⟩) n cap) rfl (by kernel_rfl) (by kernel_rfl) (by kernel_rfl) rfl (fun _ _ _ h => h) (Or.inl ⟨by kernel_rfl, fun _ _ => by kernel_rfl⟩) hS (fun _ => trivial) ?_
        try simp only [List.getElem_toArray, List.getElem_cons_succ, List.getElem_cons_zero]
        try dsimp only
        try simp only [Act.put, List.setIfInBounds_toArray, List.set_cons_zero, List.set_cons_succ]
        refine wpAnyT_takeS (i := 2) (v := .int .i64 k) rfl (by kernel_rfl) (by kernel_rfl) (by kernel_rfl) rfl (fun _ _ _ h => h) (Or.inl ⟨by kernel_rfl, fun _ _ => by kernel_rfl⟩) hS (fun _ => trivial) ?_
        try simp only [List.getElem_toArray, List.getElem_cons_succ, List.getElem_cons_zero]
        try dsimp only
        try simp only [Act.put, List.setIfInBounds_toArray, List.set_cons_zero, List.set_cons_succ]
        refine wpAnyT_takeS (i := 3) (v := .pointer (some ⟨b, off + k * 2, none⟩)) rfl (by kernel_rfl) (by kernel_rfl) (by kernel_rfl) rfl (fun _ _ _ h => h) (Or.inl ⟨by kernel_rfl, fun W _ => by go_simp⟩) hS (fun _ => trivial) ?_
        try simp only [List.getElem_toArray, List.getElem_cons_succ, List.getElem_cons_zero]
        try dsimp only
        try simp only [Act.put, List.setIfInBounds_toArray, List.set_cons_zero, List.set_cons_succ]
        refine wpAnyT_takeS (i := 4) (v := .agg (cF y).toArray) rfl (by kernel_rfl) (by kernel_rfl) (by kernel_rfl) rfl (fun _ _ _ h => h) (yields_load 25 (.tmp 23) rfl b (off + k * 2) (by kernel_rfl) (cF y) _ (by kernel_rfl) (fun W hW => (HS.out W hW).1) Tryz.underlying25 rfl (by kernel_rfl)) hS (fun _ => trivial) ?_
        try simp only [List.getElem_toArray, List.getElem_cons_succ, List.getElem_cons_zero]
        try dsimp only
        try simp only [Act.put, List.setIfInBounds_toArray, List.set_cons_zero, List.set_cons_succ]
        refine wpAnyT_takeS (i := 5) (v := .agg (cF m).toArray) rfl (by kernel_rfl) (by kernel_rfl) (by kernel_rfl) rfl (fun _ _ _ h => h) (yields_load 25 (.tmp 5) rfl bm (0) (by kernel_rfl) (cF m) _ (by kernel_rfl) (fun W hW => (HS.out W hW).2.range 0 _ (fun j v h => by simpa using h)) Tryz.underlying25 rfl (by kernel_rfl)) hS (fun _ => trivial) ?_
        try simp only [List.getElem_toArray, List.getElem_cons_succ, List.getElem_cons_zero]
        try dsimp only
        try simp only [Act.put, List.setIfInBounds_toArray, List.set_cons_zero, List.set_cons_succ]
        refine wpAnyT_one (j := 6) rfl (by kernel_rfl) (by kernel_rfl) (fun K hK => ?_)
        go_simp
        refine (compareD_any y m _).mono ?_
        rintro e w3 ⟨rfl, hB3⟩
        have hS3 := hS.trans (hB3.mono hS.size)
        refine hK.out _ _ hS3 (fun _ => trivial) ?_
        try simp only [List.getElem_toArray, List.getElem_cons_succ, List.getElem_cons_zero]
        try dsimp only
        try simp only [Act.put, List.setIfInBounds_toArray, List.set_cons_zero, List.set_cons_succ]
        refine wpAnyT_takeS (i := 7) (v := .bool (decide (cmpF y m < 0))) rfl (by kernel_rfl) (by kernel_rfl) (by kernel_rfl) rfl (fun _ _ _ h => h) (Or.inl ⟨by kernel_rfl, fun W hW => by go_simp⟩) hS3 (fun _ => trivial) ?_
        try simp only [List.getElem_toArray, List.getElem_cons_succ, List.getElem_cons_zero]
        try dsimp only
        try simp only [Act.put, List.setIfInBounds_toArray, List.set_cons_zero, List.set_cons_succ]
        refine wpAnyT_done (by kernel_rfl) ?_ _
        go_wp2_with fail
        go_meet
        exact ⟨rfl, hS3⟩
      obtain ⟨rfl, hBc⟩ := hcut
      have kMc := kM.below' hBc
      have kZc := kZ.below' hBc
      have hBw := hB.trans (hBc.mono hB.size)
      have hryc := (HS.out _ hBc).1
      have cM := kMc.cell
      have fM := kMc.frozen
      have lM := kMc.lt
      clear HS hBc kM kZ
      by_cases hq : cmpF y m < 0
      · rw [decide_eq_true hq]
        have Hq := Lib.hid (Hnx.out.trans (if_pos hq))
        clear hq
        go_wp2_with (first
          | (refine wpList_load_mid rfl 25 (.tmp 30) rfl b (off + k * 2) rfl (cF y) _ hryc Tryz.underlying25 rfl (by kernel_rfl) ?_; clear hryc)
          | fail)
        go_roundw
        case rel =>
          refine ⟨k + 1, y, by omega, by omega, by go_num, Lib.hid Hq.out.symm, ?_, kZc.setCells_other (C := bm) (by omega) 0 (cF y), below_setCells hBw (by omega) 0 (cF y)⟩
          exact kMc.setCells 0 (cF y)
        case measure => simp [intOf]; omega
      · rw [decide_eq_false hq]
        have Hq := Lib.hid (Hnx.out.trans (if_neg hq))
        clear hq
        go_wp2_with (fail)
        go_roundw
        case rel => exact ⟨k + 1, m, by omega, by omega, by go_num, Lib.hid Hq.out.symm, kMc, kZc, hBw⟩
        case measure => simp [intOf]; omega
    · obtain rfl : k = n := by omega
      have hfin : minC (x0 :: ys) = m := by
        rw [HM.out, List.take_of_length_le (by have := Hlen.out; omega)]; rfl
      have Hfin := Lib.hid hfin
      have cZ := kZ.cell
      have fZ := kZ.frozen
      have lZ := kZ.lt
      clear hfin HM
      go_wp2_with (first
        | (refine wpList_load_mid rfl 25 (.tmp 5) rfl bm 0 rfl (cF m) _ (kM.range 0 _ (fun j v h => by simpa using h)) Tryz.underlying25 rfl (by kernel_rfl) ?_; clear kM)
        | fail)
      rw [putF]
      have kF : Blk (wr.setCells bz 0 (cF m)) bz (cF m).toArray 25 := kZ.setCells 0 (cF m)
      (try simp only [Exit.inBlock, Exit.then])
      refine bodyPost_ret (results_cell_one rfl _ _ bz 25 (cF m) _ rfl kF Tryz.underlying25 rfl (by kernel_rfl)) rfl ?_
      exact ⟨by rw [Hfin.out], below_setCells hB Hbz 0 _⟩

/-- What slices.MaxFunc gives. -/
def maxC (l : List Frac) : Frac := l.tail.foldl (fun m f => if 0 < cmpF f m then f else m) (l.headD ⟨0, 0⟩)

set_option maxRecDepth 100000 in
set_option maxHeartbeats 1600000 in
theorem maxC_any (a : Option Addr) (n cap : Nat) (x0 : Frac) (ys : List Frac) (w : World) (hL : Lst w 2 cF a n cap (x0 :: ys)) :
    Calls Tryz.prog 104 #[.slice a n cap, .func (.func 33) #[] #[]] w (Gives w (aF (maxC (x0 :: ys)))) := by
  have hm : cap ≤ 9223372036854775807 := by have := hL.max; unfold maxLen at this; omega
  have hle := hL.le
  have hlen := hL.len
  rw [List.length_cons] at hlen
  have eC : Ent 33 := enters_of Tryz.func33 (by kernel_rfl) rfl
  obtain ⟨b, off, rfl, hb, hr0⟩ := hL.at_ 0 x0 rfl
  have HL : ∀ (i : Nat) (x : Frac), (x0 :: ys)[i]? = some x → w.rangeAt b (off + i * 2) (cF x) := fun i x hx => by
    obtain ⟨b', off', ha, _, hr⟩ := hL.at_ i x hx
    cases ha
    exact hr
  have HL := Lib.hid HL
  obtain ⟨w0, hw0⟩ : ∃ w0, w0 = w.alloc (.cells #[.int .i64 0, .int .i64 0] 25) := ⟨_, rfl⟩
  have kZ : Blk w0 w.heap.size #[.int .i64 0, .int .i64 0] 25 := hw0 ▸ Blk.new _ _ _
  have hB0 : RowKit.Below w.heap.size w w0 := hw0 ▸ (Below.refl _ w).alloc (Nat.le_refl _) _
  have hr0' : w0.rangeAt b off (cF x0) := by have := rangeAt_below hB0 hb hr0; simpa using this
  have hn1 : ¬ ((n : Int) < 1) := by omega
  have hn0 : (0 : Int) < (n : Int) := by omega
  have Hlen := Lib.hid hlen
  clear hL hr0 hlen
  go_enter Tryz.func104, Tryz.ntmps104
  go_upto_region 1 with fail
  rw [← hw0]
  clear hw0
  obtain ⟨bz, hbz⟩ : ∃ b, b = w.heap.size := ⟨_, rfl⟩
  rw [← hbz] at kZ ⊢
  have Hbz : w.heap.size ≤ bz := Nat.le_of_eq hbz.symm
  clear hbz
  have hsz := kZ.lt
  obtain ⟨w1, hw1⟩ : ∃ w1, w1 = w0.alloc (.cells (cF x0).toArray 25) := ⟨_, rfl⟩
  have kM : Blk w1 w0.heap.size (cF x0).toArray 25 := hw1 ▸ Blk.new _ _ _
  have kZ1 : Blk w1 bz #[.int .i64 0, .int .i64 0] 25 := hw1 ▸ kZ.alloc _
  have hB1 : RowKit.Below w0.heap.size w0 w1 := hw1 ▸ (Below.refl _ w0).alloc (Nat.le_refl _) _
  go_upto_region 4 with (first
    | (refine wpList_load_mid rfl 25 (.tmp 12) rfl b off rfl (cF x0) _ hr0' Tryz.underlying25 rfl (by kernel_rfl) ?_)
    | fail)
  rw [← hw1]
  clear hw1 hr0'
  obtain ⟨bm, hbm⟩ : ∃ b, b = w0.heap.size := ⟨_, rfl⟩
  rw [← hbm] at kM ⊢
  have hzm : bz < bm := by omega
  clear hbm
  have hbw : RowKit.Below w.heap.size w w1 := hB0.trans (hB1.mono hB0.size)
  clear kZ hB1 hB0 hsz
  go_wp2_with (fail)
  go_loopw [6] (fun i wr => ∃ (k : Nat) (m : Frac), 1 ≤ k ∧ k ≤ n ∧ i = .int .i64 k ∧ Hid (m = (ys.take (k - 1)).foldl (fun m f => if 0 < cmpF f m then f else m) x0) ∧ Blk wr bm (cF m).toArray 25 ∧ Blk wr bz #[.int .i64 0, .int .i64 0] 25 ∧ RowKit.Below w.heap.size w wr) (fun i _ => n - (intOf i).toNat)
  case atStart => exact ⟨1, x0, Nat.le_refl _, by omega, rfl, Lib.hid rfl, kM, kZ1, hbw⟩
  case round =>
    clear kM kZ1 hbw
    obtain ⟨k, m, hk1, hk, rfl, HM, kM, kZ, hB⟩ := hrel
    have hbs := hB.size
    by_cases hlt : k < n
    · obtain ⟨y, hy⟩ : ∃ y, ys[k - 1]? = some y := ⟨ys[k - 1]'(by have := Hlen.out; omega), by simp⟩
      have hy2 : (x0 :: ys)[k]? = some y := by obtain ⟨j, rfl⟩ : ∃ j, k = j + 1 := ⟨k - 1, by omega⟩; simpa using hy
      have hry := rangeAt_below hB hb (HL.out k y hy2)
      have hnx : (ys.take (k + 1 - 1)).foldl (fun m f => if 0 < cmpF f m then f else m) x0 = (fun m f => if 0 < cmpF f m then f else m) m y := by
        obtain ⟨j, rfl⟩ : ∃ j, k = j + 1 := ⟨k - 1, by omega⟩
        rw [HM.out]
        exact take_succ_foldl _ _ _ _ _ (by simpa using hy)
      have Hnx := Lib.hid hnx
      have hlz : (k : Int) < (n : Int) := by omega
      have HS := Lib.hid (fun W' (h : RowKit.Below wr.heap.size wr W') => (⟨rangeAt_below h (by omega) hry, kM.below' h⟩ : W'.rangeAt b (off + k * 2) (cF y) ∧ Blk W' bm (cF m).toArray 25))
      clear hy hy2 hnx hry
      go_upto_region 7 with fail
      go_cut [27] (fun c27 W' => c27 = .bool (decide (0 < cmpF y m)) ∧ RowKit.Below wr.heap.size wr W')
      case first =>
        clear kM kZ HM Hnx HL
        refine wp_region_T (fun W' => RowKit.Below wr.heap.size wr W') (fun _ => True) 99 (by kernel_rfl) (Below.refl _ _).drew trivial (fun hS hT => ?_)
        refine wpAnyT_takeS (i := 0) (v := .func (.func 33) #[] #[]) rfl (by kernel_rfl) (by kernel_rfl) (by kernel_rfl) rfl (fun _ _ _ h => h) (Or.inl ⟨by kernel_rfl, fun _ _ => by kernel_rfl⟩) hS (fun _ => trivial) ?_
        try simp only [List.getElem_toArray, List.getElem_cons_zero]
        try dsimp only
        try simp only [Act.put, List.setIfInBounds_toArray, List.set_cons_zero, List.set_cons_succ]
        refine wpAnyT_takeS (i := 1) (v := .slice (some ⟨b, off, none⟩) n cap) rfl (by kernel_rfl) (by kernel_rfl) (by kernel_rfl) rfl (fun _ _ _ h => h) (Or.inl ⟨by kernel_rfl, fun _ _ => by kernel_rfl⟩) hS (fun _ => trivial) ?_
        try simp only [List.getElem_toArray, List.getElem_cons_succ, List.getElem_cons_zero]
        try dsimp only
        try simp only [Act.put, List.setIfInBounds_toArray, List.set_cons_zero, List.set_cons_succ]
        refine wpAnyT_takeS (i := 2) (v := .int .i64 k) rfl (by kernel_rfl) (by kernel_rfl) (by kernel_rfl) rfl (fun _ _ _ h => h) (Or.inl ⟨by kernel_rfl, fun _ _ => by kernel_rfl⟩) hS (fun _ => trivial) ?_
        try simp only [List.getElem_toArray, List.getElem_cons_succ, List.getElem_cons_zero]
        try dsimp only
        try simp only [Act.put, List.setIfInBounds_toArray, List.set_cons_zero, List.set_cons_succ]
        refine wpAnyT_takeS (i := 3) (v := .pointer (some ⟨b, off + k * 2, none⟩)) rfl (by kernel_rfl) (by kernel_rfl) (by kernel_rfl) rfl (fun _ _ _ h => h) (Or.inl ⟨by kernel_rfl, fun W _ => by go_simp⟩) hS (fun _ => trivial) ?_
        try simp only [List.getElem_toArray, List.getElem_cons_succ, List.getElem_cons_zero]
        try dsimp only
        try simp only [Act.put, List.setIfInBounds_toArray, List.set_cons_zero, List.set_cons_succ]
        refine wpAnyT_takeS (i := 4) (v := .agg (cF y).toArray) rfl (by kernel_rfl) (by kernel_rfl) (by kernel_rfl) rfl (fun _ _ _ h => h) (yields_load 25 (.tmp 23) rfl b (off + k * 2) (by kernel_rfl) (cF y) _ (by kernel_rfl) (fun W hW => (HS.out W hW).1) Tryz.underlying25 rfl (by kernel_rfl)) hS (fun _ => trivial) ?_
        try simp only [List.getElem_toArray, List.getElem_cons_succ, List.getElem_cons_zero]
        try dsimp only
        try simp only [Act.put, List.setIfInBounds_toArray, List.set_cons_zero, List.set_cons_succ]
        refine wpAnyT_takeS (i := 5) (v := .agg (cF m).toArray) rfl (by kernel_rfl) (by kernel_rfl) (by kernel_rfl) rfl (fun _ _ _ h => h) (yields_load 25 (.tmp 5) rfl bm (0) (by kernel_rfl) (cF m) _ (by kernel_rfl) (fun W hW => (HS.out W hW).2.range 0 _ (fun j v h => by simpa using h)) Tryz.underlying25 rfl (by kernel_rfl)) hS (fun _ => trivial) ?_
        try simp only [List.getElem_toArray, List.getElem_cons_succ, List.getElem_cons_zero]
        try dsimp only
        try simp only [Act.put, List.setIfInBounds_toArray, List.set_cons_zero, List.set_cons_succ]
        refine wpAnyT_one (j := 6) rfl (by kernel_rfl) (by kernel_rfl) (fun K hK => ?_)
        go_simp
        refine (compareD_any y m _).mono ?_
        rintro e w3 ⟨rfl, hB3⟩
        have hS3 := hS.trans (hB3.mono hS.size)
        refine hK.out _ _ hS3 (fun _ => trivial) ?_
        try simp only [List.getElem_toArray, List.getElem_cons_succ, List.getElem_cons_zero]
        try dsimp only
        try simp only [Act.put, List.setIfInBounds_toArray, List.set_cons_zero, List.set_cons_succ]
        refine wpAnyT_takeS (i := 7) (v := .bool (decide (0 < cmpF y m))) rfl (by kernel_rfl) (by kernel_rfl) (by kernel_rfl) rfl (fun _ _ _ h => h) (Or.inl ⟨by kernel_rfl, fun W hW => by go_simp⟩) hS3 (fun _ => trivial) ?_
        try simp only [List.getElem_toArray, List.getElem_cons_succ, List.getElem_cons_zero]
        try dsimp only
        try simp only [Act.put, List.setIfInBounds_toArray, List.set_cons_zero, List.set_cons_succ]
        refine wpAnyT_done (by kernel_rfl) ?_ _
        go_wp2_with fail
        go_meet
        exact ⟨rfl, hS3⟩
      obtain ⟨rfl, hBc⟩ := hcut
      have kMc := kM.below' hBc
      have kZc := kZ.below' hBc
      have hBw := hB.trans (hBc.mono hB.size)
      have hryc := (HS.out _ hBc).1
      have cM := kMc.cell
      have fM := kMc.frozen
      have lM := kMc.lt
      clear HS hBc kM kZ
      by_cases hq : 0 < cmpF y m
      · rw [decide_eq_true hq]
        have Hq := Lib.hid (Hnx.out.trans (if_pos hq))
        clear hq
        go_wp2_with (first
          | (refine wpList_load_mid rfl 25 (.tmp 30) rfl b (off + k * 2) rfl (cF y) _ hryc Tryz.underlying25 rfl (by kernel_rfl) ?_; clear hryc)
          | fail)
        go_roundw
        case rel =>
          refine ⟨k + 1, y, by omega, by omega, by go_num, Lib.hid Hq.out.symm, ?_, kZc.setCells_other (C := bm) (by omega) 0 (cF y), below_setCells hBw (by omega) 0 (cF y)⟩
          exact kMc.setCells 0 (cF y)
        case measure => simp [intOf]; omega
      · rw [decide_eq_false hq]
        have Hq := Lib.hid (Hnx.out.trans (if_neg hq))
        clear hq
        go_wp2_with (fail)
        go_roundw
        case rel => exact ⟨k + 1, m, by omega, by omega, by go_num, Lib.hid Hq.out.symm, kMc, kZc, hBw⟩
        case measure => simp [intOf]; omega
    · obtain rfl : k = n := by omega
      have hfin : maxC (x0 :: ys) = m := by
        rw [HM.out, List.take_of_length_le (by have := Hlen.out; omega)]; rfl
      have Hfin := Lib.hid hfin
      have cZ := kZ.cell
      have fZ := kZ.frozen
      have lZ := kZ.lt
      clear hfin HM
      go_wp2_with (first
        | (refine wpList_load_mid rfl 25 (.tmp 5) rfl bm 0 rfl (cF m) _ (kM.range 0 _ (fun j v h => by simpa using h)) Tryz.underlying25 rfl (by kernel_rfl) ?_; clear kM)
        | fail)
      rw [putF]
      have kF : Blk (wr.setCells bz 0 (cF m)) bz (cF m).toArray 25 := kZ.setCells 0 (cF m)
      (try simp only [Exit.inBlock, Exit.then])
      refine bodyPost_ret (results_cell_one rfl _ _ bz 25 (cF m) _ rfl kF Tryz.underlying25 rfl (by kernel_rfl)) rfl ?_
      exact ⟨by rw [Hfin.out], below_setCells hB Hbz 0 _⟩

end Go.Proofs.YtmeomhojbobpbaaGreatDoor
