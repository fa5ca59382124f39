import Derived.Test.YtmeomhojbobpbaaGreatDoorPart33
import Derived.Test.YtmeomhojbobpbaaGreatDoorPart19
import Derived.Test.YtmeomhojbobpbaaGreatDoorPart08
import Derived.Laws.StructEq
import Derived.Deep.CutRange
import Derived.Deep.DeepCutAuto
import Derived.Test.YtmeomhojbobpbaaGreatDoorPart29
import Derived.Test.YtmeomhojbobpbaaGreatDoorPart24
import Derived.Test.YtmeomhojbobpbaaGreatDoorPart03
import Derived.Test.YtmeomhojbobpbaaGreatDoorPart02
import Derived.Maps.AppendAt
import Derived.Deep.RegionHeld3
/-
  Walks: SameTitles and Same of the reference.
-/
namespace Go.Proofs.YtmeomhojbobpbaaGreatDoor
open Go.RowKit Lg Go.Sort Go.Shelf

theorem guardT : Tryz.prog.eqGuardType Tryz.prog.depth 66 = false := by kernel_rfl

set_option maxHeartbeats 1600000 in
theorem neqT (x y : Title) (w : World) : (binOp .neq 66 (aT x) (aT y)).run Tryz.prog w = .ok (.bool (!decide (x = y))) w := by
  have u3 := Tryz.underlying3
  have a3 := Tryz.isAgg3
  have z3 := Tryz.sizeOf3
  have u24 := Tryz.underlying25
  have a24 := Tryz.isAgg25
  have z24 := Tryz.sizeOf25
  have hS : Tryz.prog.underlying 66 = some (.struct (Tryz.prog.fieldsOf 66)) := by kernel_rfl
  have hp : Tryz.prog.stoodInHeld 66 = false := by kernel_rfl
  obtain ⟨a1, ⟨a9, a10⟩⟩ := x
  obtain ⟨b1, ⟨b9, b10⟩⟩ := y
  rw [run_neq_struct, show (10000 : Nat) = 9999 + 1 from rfl, run_equalIn_agg w 9999 66 _ _ hS hp]
  simp only [Program.fieldsOf, Tryz.underlying66]
  go_simp
  iterate 3 (split; rotate_left; · simp [*])
  simp [*]

theorem neqD (x y : Deed) (w : World) : (binOp .neq 36 (aD x) (aD y)).run Tryz.prog w = .ok (.bool (!decide (x = y))) w := by
  have h := eqD x y w
  rw [run_eql_struct] at h
  rw [run_neq_struct]
  cases hr : (Op.equalIn 10000 36 (aD x) (aD y)).run Tryz.prog w with
  | ok b w' =>
    rw [hr] at h
    simp only [Result.andThen] at h ⊢
    simp only [Result.ok.injEq, Value.bool.injEq] at h
    rw [h.1, h.2]
  | halt e w' => rw [hr] at h; simp [Result.andThen] at h

set_option maxRecDepth 100000 in
set_option maxHeartbeats 1600000 in
theorem sameT_any (a a2 : Option Addr) (n c n2 c2 : Nat) (xs ys : List Title) (w : World) (hL : Lst w 3 cT a n c xs) (hM : Lst w 3 cT a2 n2 c2 ys) :
    Calls Tryz.prog 38 #[.slice a n c, .slice a2 n2 c2] w (Gives w (.bool (decide (xs = ys)))) := by
  have hm : c ≤ 9223372036854775807 := by have := hL.max; unfold maxLen at this; omega
  have hm2 : c2 ≤ 9223372036854775807 := by have := hM.max; unfold maxLen at this; omega
  have hle := hL.le
  have hle2 := hM.le
  have hl1 := hL.len
  have hl2 := hM.len
  by_cases hn : n = n2
  · subst hn
    have Hl1 := Lib.hid hl1
    have Hl2 := Lib.hid hl2
    have HL := Lib.hid hL
    have HM := Lib.hid hM
    clear hl1 hl2 hL hM
    go_enter Tryz.func38, Tryz.ntmps38
    go_wp2
    go_loopw [5] (fun i wr => ∃ k : Nat, k ≤ n ∧ i = .int .i64 k ∧ Hid (xs.take k = ys.take k) ∧ RowKit.Below w.heap.size w wr) (fun i _ => n - (intOf i).toNat)
    case atStart => exact ⟨0, Nat.zero_le _, rfl, Lib.hid rfl, Below.refl _ _⟩
    case round =>
      obtain ⟨k, hk, rfl, HE, hB⟩ := hrel
      by_cases hlt : k < n
      · obtain ⟨x, hx⟩ : ∃ x, xs[k]? = some x := ⟨xs[k]'(by have := Hl1.out; omega), by simp⟩
        obtain ⟨y, hy⟩ : ∃ y, ys[k]? = some y := ⟨ys[k]'(by have := Hl2.out; omega), by simp⟩
        obtain ⟨b, off, rfl, hb, hr⟩ := HL.out.at_ k x hx
        obtain ⟨b2, off2, rfl, hb2, hr2⟩ := HM.out.at_ k y hy
        have hr' := rangeAt_below hB hb hr
        have hr2' := rangeAt_below hB hb2 hr2
        have hsz := hB.size
        have HS := Lib.hid (fun W' (h : RowKit.Below wr.heap.size wr W') => (⟨rangeAt_below h (by omega) hr', rangeAt_below h (by omega) hr2'⟩ : W'.rangeAt b (off + k * 3) (cT x) ∧ W'.rangeAt b2 (off2 + k * 3) (cT y)))
        have Hx := Lib.hid hx
        have Hy := Lib.hid hy
        have hlz : (k : Int) < (n : Int) := by omega
        clear hx hy hr hr2 hr' hr2'
        go_upto_region 6 with fail
        go_cut [25] (fun cc W' => cc = .bool (!decide (x = y)) ∧ RowKit.Below wr.heap.size wr W')
        case first =>
          refine wp_region_T (fun W' => RowKit.Below wr.heap.size wr W') (fun _ => True) 99 (by kernel_rfl) (Below.refl _ _).drew trivial (fun hS hT => ?_)
          refine wpAnyT_takeS (i := 0) (v := .slice (some ⟨b, off, none⟩) n c) rfl (by kernel_rfl) (by kernel_rfl) (by kernel_rfl) rfl (fun _ _ _ h => h) (Or.inl ⟨by kernel_rfl, fun _ _ => by kernel_rfl⟩) hS (fun _ => trivial) ?_
          try simp only [List.getElem_toArray, List.getElem_cons_zero]
          try dsimp only
          try simp only [Act.put, List.setIfInBounds_toArray, List.set_cons_zero, List.set_cons_succ]
          refine wpAnyT_takeS (i := 1) (v := .int .i64 k) rfl (by kernel_rfl) (by kernel_rfl) (by kernel_rfl) rfl (fun _ _ _ h => h) (Or.inl ⟨by kernel_rfl, fun _ _ => by kernel_rfl⟩) hS (fun _ => trivial) ?_
          try simp only [List.getElem_toArray, List.getElem_cons_succ, List.getElem_cons_zero]
          try dsimp only
          try simp only [Act.put, List.setIfInBounds_toArray, List.set_cons_zero, List.set_cons_succ]
          refine wpAnyT_takeS (i := 2) (v := .pointer (some ⟨b, off + k * 3, none⟩)) rfl (by kernel_rfl) (by kernel_rfl) (by kernel_rfl) rfl (fun _ _ _ h => h) (Or.inl ⟨by kernel_rfl, fun W hW => by go_simp⟩) hS (fun _ => trivial) ?_
          try simp only [List.getElem_toArray, List.getElem_cons_succ, List.getElem_cons_zero]
          try dsimp only
          try simp only [Act.put, List.setIfInBounds_toArray, List.set_cons_zero, List.set_cons_succ]
          refine wpAnyT_takeS (i := 3) (v := .agg (cT x).toArray) rfl (by kernel_rfl) (by kernel_rfl) (by kernel_rfl) rfl (fun _ _ _ h => h) (yields_load 66 (.tmp 19) rfl b (off + k * 3) (by kernel_rfl) (cT x) _ (by kernel_rfl) (fun W hW => (HS.out W hW).1) Tryz.underlying66 rfl (by kernel_rfl)) hS (fun _ => trivial) ?_
          try simp only [List.getElem_toArray, List.getElem_cons_succ, List.getElem_cons_zero]
          try dsimp only
          try simp only [Act.put, List.setIfInBounds_toArray, List.set_cons_zero, List.set_cons_succ]
          refine wpAnyT_takeS (i := 4) (v := .slice (some ⟨b2, off2, none⟩) n c2) rfl (by kernel_rfl) (by kernel_rfl) (by kernel_rfl) rfl (fun _ _ _ h => h) (Or.inl ⟨by kernel_rfl, fun _ _ => by kernel_rfl⟩) hS (fun _ => trivial) ?_
          try simp only [List.getElem_toArray, List.getElem_cons_succ, List.getElem_cons_zero]
          try dsimp only
          try simp only [Act.put, List.setIfInBounds_toArray, List.set_cons_zero, List.set_cons_succ]
          refine wpAnyT_takeS (i := 5) (v := .int .i64 k) rfl (by kernel_rfl) (by kernel_rfl) (by kernel_rfl) rfl (fun _ _ _ h => h) (Or.inl ⟨by kernel_rfl, fun _ _ => by kernel_rfl⟩) hS (fun _ => trivial) ?_
          try simp only [List.getElem_toArray, List.getElem_cons_succ, List.getElem_cons_zero]
          try dsimp only
          try simp only [Act.put, List.setIfInBounds_toArray, List.set_cons_zero, List.set_cons_succ]
          refine wpAnyT_takeS (i := 6) (v := .pointer (some ⟨b2, off2 + k * 3, none⟩)) rfl (by kernel_rfl) (by kernel_rfl) (by kernel_rfl) rfl (fun _ _ _ h => h) (Or.inl ⟨by kernel_rfl, fun W hW => by go_simp⟩) hS (fun _ => trivial) ?_
          try simp only [List.getElem_toArray, List.getElem_cons_succ, List.getElem_cons_zero]
          try dsimp only
          try simp only [Act.put, List.setIfInBounds_toArray, List.set_cons_zero, List.set_cons_succ]
          refine wpAnyT_takeS (i := 7) (v := .agg (cT y).toArray) rfl (by kernel_rfl) (by kernel_rfl) (by kernel_rfl) rfl (fun _ _ _ h => h) (yields_load 66 (.tmp 23) rfl b2 (off2 + k * 3) (by kernel_rfl) (cT y) _ (by kernel_rfl) (fun W hW => (HS.out W hW).2) Tryz.underlying66 rfl (by kernel_rfl)) hS (fun _ => trivial) ?_
          try simp only [List.getElem_toArray, List.getElem_cons_succ, List.getElem_cons_zero]
          try dsimp only
          try simp only [Act.put, List.setIfInBounds_toArray, List.set_cons_zero, List.set_cons_succ]
          refine wpAnyT_takeS (i := 8) (v := .bool (!decide (x = y))) rfl (by kernel_rfl) (by kernel_rfl) (by kernel_rfl) rfl (fun _ _ _ h => h) (Or.inl ⟨by kernel_rfl, fun W hW => by show Sem.run Tryz.prog (execOp _ _) W = _; unfold execOp; have e := neqT x y W; have g := run_eqGuard_agg W BinOp.neq 66 (.tmp 20) (.tmp 24) (cT x).toArray (cT y).toArray guardT; simp only [Act.eval] at *; simp [e, g, Sem.run_bind, Result.andThen]⟩) hS (fun _ => trivial) ?_
          try simp only [List.getElem_toArray, List.getElem_cons_succ, List.getElem_cons_zero]
          try dsimp only
          try simp only [Act.put, List.setIfInBounds_toArray, List.set_cons_zero, List.set_cons_succ]
          refine wpAnyT_done (by kernel_rfl) ?_ _
          go_wp2_with fail
          go_meet
          exact ⟨rfl, hS⟩
        obtain ⟨rfl, hBc⟩ := hcut
        have hB2 := hB.trans (hBc.mono hB.size)
        by_cases hxy : x = y
        · have hd : (!decide (x = y)) = false := by simp [hxy]
          rw [hd]
          have Hn : Hid (xs.take (k + 1) = ys.take (k + 1)) := Lib.hid (by
            obtain ⟨h1, h2⟩ := List.getElem?_eq_some_iff.1 Hx.out
            obtain ⟨h3, h4⟩ := List.getElem?_eq_some_iff.1 Hy.out
            rw [List.take_succ_eq_append_getElem h1, List.take_succ_eq_append_getElem h3, h2, h4, HE.out, hxy])
          clear hd hxy
          go_wp2
          go_roundw
          case rel => exact ⟨k + 1, by omega, by go_num, Hn, hB2⟩
          case measure => simp [intOf]; omega
        · have hd : (!decide (x = y)) = true := by simp [hxy]
          rw [hd]
          have Hn : Hid (decide (xs = ys) = false) := Lib.hid (by
            refine decide_eq_false (fun e => hxy ?_)
            have h1 := Hx.out
            rw [e, Hy.out] at h1
            exact (Option.some.inj h1).symm)
          clear hd hxy
          go_wp2
          go_ret
          exact ⟨by rw [Hn.out]; rfl, hB2⟩
      · obtain rfl : k = n := by omega
        have Hn : Hid (decide (xs = ys) = true) := Lib.hid (by
          refine decide_eq_true ?_
          have := HE.out
          rwa [List.take_of_length_le (by have := Hl1.out; omega), List.take_of_length_le (by have := Hl2.out; omega)] at this)
        go_wp2
        go_ret
        exact ⟨by rw [Hn.out]; rfl, hB⟩
  · have Hn : Hid (decide (xs = ys) = false) := Lib.hid (decide_eq_false (fun e => hn (by rw [← hl1, ← hl2, e])))
    have hnz : ((n : Int) != (n2 : Int)) = true := by simp; omega
    clear hl1 hl2 hL hM
    go_enter Tryz.func38, Tryz.ntmps38
    go_wp2
    go_ret
    exact ⟨by rw [Hn.out]; rfl, Below.refl _ _⟩

set_option maxRecDepth 100000 in
set_option maxHeartbeats 1600000 in
theorem sameD_any (a a2 : Option Addr) (n c n2 c2 : Nat) (xs ys : List Deed) (w : World) (hL : Lst w 11 cD a n c xs) (hM : Lst w 11 cD a2 n2 c2 ys) :
    Calls Tryz.prog 28 #[.slice a n c, .slice a2 n2 c2] w (Gives w (.bool (decide (xs = ys)))) := by
  have hm : c ≤ 9223372036854775807 := by have := hL.max; unfold maxLen at this; omega
  have hm2 : c2 ≤ 9223372036854775807 := by have := hM.max; unfold maxLen at this; omega
  have hle := hL.le
  have hle2 := hM.le
  have hl1 := hL.len
  have hl2 := hM.len
  by_cases hn : n = n2
  · subst hn
    have Hl1 := Lib.hid hl1
    have Hl2 := Lib.hid hl2
    have HL := Lib.hid hL
    have HM := Lib.hid hM
    clear hl1 hl2 hL hM
    go_enter Tryz.func28, Tryz.ntmps28
    go_wp2
    go_loopw [5] (fun i wr => ∃ k : Nat, k ≤ n ∧ i = .int .i64 k ∧ Hid (xs.take k = ys.take k) ∧ RowKit.Below w.heap.size w wr) (fun i _ => n - (intOf i).toNat)
    case atStart => exact ⟨0, Nat.zero_le _, rfl, Lib.hid rfl, Below.refl _ _⟩
    case round =>
      obtain ⟨k, hk, rfl, HE, hB⟩ := hrel
      by_cases hlt : k < n
      · obtain ⟨x, hx⟩ : ∃ x, xs[k]? = some x := ⟨xs[k]'(by have := Hl1.out; omega), by simp⟩
        obtain ⟨y, hy⟩ : ∃ y, ys[k]? = some y := ⟨ys[k]'(by have := Hl2.out; omega), by simp⟩
        obtain ⟨b, off, rfl, hb, hr⟩ := HL.out.at_ k x hx
        obtain ⟨b2, off2, rfl, hb2, hr2⟩ := HM.out.at_ k y hy
        have hr' := rangeAt_below hB hb hr
        have hr2' := rangeAt_below hB hb2 hr2
        have hsz := hB.size
        have HS := Lib.hid (fun W' (h : RowKit.Below wr.heap.size wr W') => (⟨rangeAt_below h (by omega) hr', rangeAt_below h (by omega) hr2'⟩ : W'.rangeAt b (off + k * 11) (cD x) ∧ W'.rangeAt b2 (off2 + k * 11) (cD y)))
        have Hx := Lib.hid hx
        have Hy := Lib.hid hy
        have hlz : (k : Int) < (n : Int) := by omega
        clear hx hy hr hr2 hr' hr2'
        go_upto_region 6 with fail
        go_cut [25] (fun cc W' => cc = .bool (!decide (x = y)) ∧ RowKit.Below wr.heap.size wr W')
        case first =>
          refine wp_region_T (fun W' => RowKit.Below wr.heap.size wr W') (fun _ => True) 99 (by kernel_rfl) (Below.refl _ _).drew trivial (fun hS hT => ?_)
          refine wpAnyT_takeS (i := 0) (v := .slice (some ⟨b, off, none⟩) n c) rfl (by kernel_rfl) (by kernel_rfl) (by kernel_rfl) rfl (fun _ _ _ h => h) (Or.inl ⟨by kernel_rfl, fun _ _ => by kernel_rfl⟩) hS (fun _ => trivial) ?_
          try simp only [List.getElem_toArray, List.getElem_cons_zero]
          try dsimp only
          try simp only [Act.put, List.setIfInBounds_toArray, List.set_cons_zero, List.set_cons_succ]
          refine wpAnyT_takeS (i := 1) (v := .int .i64 k) rfl (by kernel_rfl) (by kernel_rfl) (by kernel_rfl) rfl (fun _ _ _ h => h) (Or.inl ⟨by kernel_rfl, fun _ _ => by kernel_rfl⟩) hS (fun _ => trivial) ?_
          try simp only [List.getElem_toArray, List.getElem_cons_succ, List.getElem_cons_zero]
          try dsimp only
          try simp only [Act.put, List.setIfInBounds_toArray, List.set_cons_zero, List.set_cons_succ]
          refine wpAnyT_takeS (i := 2) (v := .pointer (some ⟨b, off + k * 11, none⟩)) rfl (by kernel_rfl) (by kernel_rfl) (by kernel_rfl) rfl (fun _ _ _ h => h) (Or.inl ⟨by kernel_rfl, fun W hW => by go_simp⟩) hS (fun _ => trivial) ?_
          try simp only [List.getElem_toArray, List.getElem_cons_succ, List.getElem_cons_zero]
          try dsimp only
          try simp only [Act.put, List.setIfInBounds_toArray, List.set_cons_zero, List.set_cons_succ]
          refine wpAnyT_takeS (i := 3) (v := .agg (cD x).toArray) rfl (by kernel_rfl) (by kernel_rfl) (by kernel_rfl) rfl (fun _ _ _ h => h) (yields_load 36 (.tmp 19) rfl b (off + k * 11) (by kernel_rfl) (cD x) _ (by kernel_rfl) (fun W hW => (HS.out W hW).1) Tryz.underlying36 rfl (by kernel_rfl)) hS (fun _ => trivial) ?_
          try simp only [List.getElem_toArray, List.getElem_cons_succ, List.getElem_cons_zero]
          try dsimp only
          try simp only [Act.put, List.setIfInBounds_toArray, List.set_cons_zero, List.set_cons_succ]
          refine wpAnyT_takeS (i := 4) (v := .slice (some ⟨b2, off2, none⟩) n c2) rfl (by kernel_rfl) (by kernel_rfl) (by kernel_rfl) rfl (fun _ _ _ h => h) (Or.inl ⟨by kernel_rfl, fun _ _ => by kernel_rfl⟩) hS (fun _ => trivial) ?_
          try simp only [List.getElem_toArray, List.getElem_cons_succ, List.getElem_cons_zero]
          try dsimp only
          try simp only [Act.put, List.setIfInBounds_toArray, List.set_cons_zero, List.set_cons_succ]
          refine wpAnyT_takeS (i := 5) (v := .int .i64 k) rfl (by kernel_rfl) (by kernel_rfl) (by kernel_rfl) rfl (fun _ _ _ h => h) (Or.inl ⟨by kernel_rfl, fun _ _ => by kernel_rfl⟩) hS (fun _ => trivial) ?_
          try simp only [List.getElem_toArray, List.getElem_cons_succ, List.getElem_cons_zero]
          try dsimp only
          try simp only [Act.put, List.setIfInBounds_toArray, List.set_cons_zero, List.set_cons_succ]
          refine wpAnyT_takeS (i := 6) (v := .pointer (some ⟨b2, off2 + k * 11, none⟩)) rfl (by kernel_rfl) (by kernel_rfl) (by kernel_rfl) rfl (fun _ _ _ h => h) (Or.inl ⟨by kernel_rfl, fun W hW => by go_simp⟩) hS (fun _ => trivial) ?_
          try simp only [List.getElem_toArray, List.getElem_cons_succ, List.getElem_cons_zero]
          try dsimp only
          try simp only [Act.put, List.setIfInBounds_toArray, List.set_cons_zero, List.set_cons_succ]
          refine wpAnyT_takeS (i := 7) (v := .agg (cD y).toArray) rfl (by kernel_rfl) (by kernel_rfl) (by kernel_rfl) rfl (fun _ _ _ h => h) (yields_load 36 (.tmp 23) rfl b2 (off2 + k * 11) (by kernel_rfl) (cD y) _ (by kernel_rfl) (fun W hW => (HS.out W hW).2) Tryz.underlying36 rfl (by kernel_rfl)) hS (fun _ => trivial) ?_
          try simp only [List.getElem_toArray, List.getElem_cons_succ, List.getElem_cons_zero]
          try dsimp only
          try simp only [Act.put, List.setIfInBounds_toArray, List.set_cons_zero, List.set_cons_succ]
          refine wpAnyT_takeS (i := 8) (v := .bool (!decide (x = y))) rfl (by kernel_rfl) (by kernel_rfl) (by kernel_rfl) rfl (fun _ _ _ h => h) (Or.inl ⟨by kernel_rfl, fun W hW => by show Sem.run Tryz.prog (execOp _ _) W = _; unfold execOp; have e := neqD x y W; have g := run_eqGuard_agg W BinOp.neq 36 (.tmp 20) (.tmp 24) (cD x).toArray (cD y).toArray guardD; simp only [Act.eval] at *; simp [e, g, Sem.run_bind, Result.andThen]⟩) hS (fun _ => trivial) ?_
          try simp only [List.getElem_toArray, List.getElem_cons_succ, List.getElem_cons_zero]
          try dsimp only
          try simp only [Act.put, List.setIfInBounds_toArray, List.set_cons_zero, List.set_cons_succ]
          refine wpAnyT_done (by kernel_rfl) ?_ _
          go_wp2_with fail
          go_meet
          exact ⟨rfl, hS⟩
        obtain ⟨rfl, hBc⟩ := hcut
        have hB2 := hB.trans (hBc.mono hB.size)
        by_cases hxy : x = y
        · have hd : (!decide (x = y)) = false := by simp [hxy]
          rw [hd]
          have Hn : Hid (xs.take (k + 1) = ys.take (k + 1)) := Lib.hid (by
            obtain ⟨h1, h2⟩ := List.getElem?_eq_some_iff.1 Hx.out
            obtain ⟨h3, h4⟩ := List.getElem?_eq_some_iff.1 Hy.out
            rw [List.take_succ_eq_append_getElem h1, List.take_succ_eq_append_getElem h3, h2, h4, HE.out, hxy])
          clear hd hxy
          go_wp2
          go_roundw
          case rel => exact ⟨k + 1, by omega, by go_num, Hn, hB2⟩
          case measure => simp [intOf]; omega
        · have hd : (!decide (x = y)) = true := by simp [hxy]
          rw [hd]
          have Hn : Hid (decide (xs = ys) = false) := Lib.hid (by
            refine decide_eq_false (fun e => hxy ?_)
            have h1 := Hx.out
            rw [e, Hy.out] at h1
            exact (Option.some.inj h1).symm)
          clear hd hxy
          go_wp2
          go_ret
          exact ⟨by rw [Hn.out]; rfl, hB2⟩
      · obtain rfl : k = n := by omega
        have Hn : Hid (decide (xs = ys) = true) := Lib.hid (by
          refine decide_eq_true ?_
          have := HE.out
          rwa [List.take_of_length_le (by have := Hl1.out; omega), List.take_of_length_le (by have := Hl2.out; omega)] at this)
        go_wp2
        go_ret
        exact ⟨by rw [Hn.out]; rfl, hB⟩
  · have Hn : Hid (decide (xs = ys) = false) := Lib.hid (decide_eq_false (fun e => hn (by rw [← hl1, ← hl2, e])))
    have hnz : ((n : Int) != (n2 : Int)) = true := by simp; omega
    clear hl1 hl2 hL hM
    go_enter Tryz.func28, Tryz.ntmps28
    go_wp2
    go_ret
    exact ⟨by rw [Hn.out]; rfl, Below.refl _ _⟩

end Go.Proofs.YtmeomhojbobpbaaGreatDoor

/-
  Maps of the call's own from numbers to slices: what each number's slice is.
-/
namespace Go.Proofs.YtmeomhojbobpbaaGreatDoor
open Go.RowKit Lg Go.Sort Go.Shelf Go.Maps

/-- An element reads as itself. -/
def heldE (v : Value) : Option (DataW Value × List MemPlace) := some (.held v, [])
/-- D says of each number which value it has. -/
def MapV (D : DataW Value) (z : Value) (f : Int → Value) : Prop := IsMap D ∧ ∀ k : Int, D.atKey (.int .i64 k) (.held z) = .held (f k)
def updV (f : Int → Value) (p : Int) (v : Value) : Int → Value := fun q => if q = p then v else f q

theorem MapV.empty (z : Value) : MapV (.map []) z (fun _ => z) := ⟨⟨[], rfl⟩, fun _ => rfl⟩
theorem MapV.put {D : DataW Value} {z : Value} {f : Int → Value} (h : MapV D z f) (p : Int) (v : Value) : MapV (D.put (.int .i64 p) (.held v)) z (updV f p v) := by
  refine ⟨h.1.put _ _, fun k => ?_⟩
  unfold updV
  by_cases hk : k = p
  · subst hk
    rw [atKey_put_same h.1 (isKeyI _)]; simp
  · have hne : (Lit.int .i64 k) ≠ .int .i64 p := by simpa using hk
    rw [atKey_put_other hne, h.2 k]; simp [hk]

/-- The call's own map of slices of fractions. -/
def OwnV (b n : Nat) (f : Int → Value) (w : World) : Prop := ∃ D : DataW Value, w.ownsMap Tryz.prog 3 heldE b n D ∧ MapV D (.slice none 0 0) f

theorem zeroSl (w : World) : (zeroValue 22).run Tryz.prog w = .ok (.slice none 0 0) w := by kernel_rfl
theorem OwnV.made (w : World) : OwnV w.heap.size 0 (fun _ => .slice none 0 0) (w.alloc (.map #[] 0)) := ⟨_, World.ownsMap_made _ _ _ _, MapV.empty _⟩
theorem OwnV.lt {b n : Nat} {f : Int → Value} {w : World} (h : OwnV b n f w) : b < w.heap.size := by obtain ⟨D, h, _⟩ := h; exact h.lt
theorem OwnV.kept {b n : Nat} {f : Int → Value} {w w' : World} {row : Option Nat} (h : OwnV b n f w) (hg : w.grownBy w' row) (hne : some b ≠ row) : OwnV b n f w' := by
  obtain ⟨D, h1, h2⟩ := h
  exact ⟨D, h1.kept hg hne, h2⟩
theorem OwnV.alloc {b n : Nat} {f : Int → Value} {w : World} (h : OwnV b n f w) (o : Obj) : OwnV b n f (w.alloc o) := h.kept (World.grownBy_alloc w o none) (by simp)
theorem OwnV.below {b n : Nat} {f : Int → Value} {w w' : World} (h : OwnV b n f w) (hb : RowKit.Below w.heap.size w w') : OwnV b n f w' := h.kept (row := none) ⟨hb.os, hb.tape, hb.output, hb.size, fun k hk _ => hb.block k hk⟩ (by simp)

theorem OwnV.look {b n : Nat} {f : Int → Value} {w : World} (h : OwnV b n f w) (p : Int) (hw : (Lit.int .i64 p).wf = true) : (Instr.lookup 166 (.map (some b)) (.int .i64 p) false).run Tryz.prog w = .ok (f p) w := by
  obtain ⟨D, h1, h2⟩ := h
  obtain ⟨v, ps, hrun, hv⟩ := h1.lookup lawI Tryz.underlying166 (zeroSl w) (zd := .held (.slice none 0 0)) (zp := []) rfl (keyOf_int_mk Tryz.underlying3 hw)
  have hz : v = f p := by
    rw [h2.2 p] at hv
    unfold heldE at hv
    simp only [Option.some.injEq, Prod.mk.injEq, DataW.held.injEq] at hv
    exact hv.1
  rw [hrun, hz]

theorem OwnV.add {b n : Nat} {f : Int → Value} {w : World} (h : OwnV b n f w) (p : Int) (v : Value) (hw : (Lit.int .i64 p).wf = true) (hn : n < maxLen) :
    ∃ w', (Instr.mapUpdate 166 (.map (some b)) (.int .i64 p) v).run Tryz.prog w = .ok () w' ∧ OwnV b (n + 1) (updV f p v) w' ∧ w.grownBy w' (some b) := by
  obtain ⟨D, h1, h2⟩ := h
  obtain ⟨w', hrun, r1, r2⟩ := h1.update lawI Tryz.underlying166 hn (keyOf_int_mk Tryz.underlying3 hw) (d := .held v) (ps := []) rfl
  exact ⟨w', hrun, ⟨_, r1, h2.put p v⟩, r2⟩

/-- The titles that are counted, as each party's shares in rows of the call's own, no two of them in one row. -/
structure Grp (base b n : Nat) (F : Int → Value) (ts : List Title) (w : World) : Prop where
  map : OwnV b n F w
  row : ∀ p : Int, w.ownsRow base 25 2 (F p) (ts.filter fun t => decide (t.party = p)).length (((ts.filter fun t => decide (t.party = p)).map Title.share).flatMap cF)
  apart : ∀ p q : Int, p ≠ q → (F p).ownBlock = none ∨ (F p).ownBlock ≠ (F q).ownBlock

theorem Grp.made (base : Nat) (w : World) : Grp base w.heap.size 0 (fun _ => .slice none 0 0) [] (w.alloc (.map #[] 0)) :=
  ⟨OwnV.made w, fun _p => ⟨rfl, .inl ⟨rfl, rfl⟩⟩, fun _p _q _ => .inl rfl⟩

theorem Grp.kept {base b n : Nat} {F : Int → Value} {ts : List Title} {w w' : World} (h : Grp base b n F ts w) (_hb : b < base) (hg : w.grownBy w' none) : Grp base b n F ts w' :=
  ⟨h.map.kept hg (by simp), fun p => World.ownsRow.kept (h.row p) hg (by cases (F p).ownBlock with | none => exact .inl rfl | some _ => exact .inr (by simp)), h.apart⟩
theorem Grp.below {base b n : Nat} {F : Int → Value} {ts : List Title} {w w' : World} (h : Grp base b n F ts w) (hb : b < base) (hB : RowKit.Below w.heap.size w w') : Grp base b n F ts w' :=
  h.kept hb ⟨hB.os, hB.tape, hB.output, hB.size, fun k hk _ => hB.block k hk⟩
theorem Grp.alloc {base b n : Nat} {F : Int → Value} {ts : List Title} {w : World} (h : Grp base b n F ts w) (hb : b < base) (o : Obj) : Grp base b n F ts (w.alloc o) := h.kept hb (World.grownBy_alloc w o none)

/-- One title more. -/
theorem Grp.put {base b n : Nat} {F : Int → Value} {ts : List Title} {w w1 w2 : World} {t : Title} {v : Value} (h : Grp base b n F ts w) (hb : b < base) (hg : w.grownBy w1 (F t.party).ownBlock)
    (ho : w1.ownsRow base 25 2 v ((ts.filter fun x => decide (x.party = t.party)).length + 1) (((ts.filter fun x => decide (x.party = t.party)).map Title.share).flatMap cF ++ cF t.share))
    (hat : v.ownBlock = (F t.party).ownBlock ∨ ∃ k, v.ownBlock = some k ∧ w.heap.size ≤ k) (hm : OwnV b (n + 1) (updV F t.party v) w2) (hg2 : w1.grownBy w2 (some b)) : Grp base b (n + 1) (updV F t.party v) (ts ++ [t]) w2 := by
  have hrow : ∀ p q, (F p).ownBlock = some q → q < w.heap.size ∧ base ≤ q := fun p q e => ⟨((h.row p).lt q e).2, ((h.row p).lt q e).1⟩
  refine ⟨hm, fun p => ?_, fun p q hpq => ?_⟩
  · unfold updV
    have h2 : ∀ (u : Value) (k : Nat) (xs : List Value), w1.ownsRow base 25 2 u k xs → w2.ownsRow base 25 2 u k xs := fun u k xs hu => World.ownsRow.kept hu hg2 (by
      cases hv : u.ownBlock with
      | none => exact .inl rfl
      | some q => exact .inr (fun e => by have := (hu.lt q hv).1; simp at e; omega))
    by_cases hp : p = t.party
    · subst hp
      rw [if_pos rfl]
      have e1 : (ts ++ [t]).filter (fun x => decide (x.party = t.party)) = ts.filter (fun x => decide (x.party = t.party)) ++ [t] := by rw [List.filter_append]; simp
      rw [e1, List.length_append, List.map_append, List.flatMap_append]
      refine h2 _ _ _ ?_
      simpa using ho
    · rw [if_neg hp]
      have e1 : (ts ++ [t]).filter (fun x => decide (x.party = p)) = ts.filter (fun x => decide (x.party = p)) := by rw [List.filter_append]; simp; exact fun e => hp e.symm
      rw [e1]
      refine h2 _ _ _ (World.ownsRow.kept (h.row p) hg ?_)
      rcases h.apart p t.party hp with h3 | h3
      · exact .inl h3
      · exact .inr h3
  · unfold updV
    by_cases hp : p = t.party
    · rw [if_pos hp, if_neg (fun e => hpq (hp.trans e.symm))]
      rcases hat with e | ⟨k, e, hk⟩
      · rw [e, ← hp]; exact h.apart p q hpq
      · exact .inr (fun e2 => by rw [e] at e2; have := (hrow q _ e2.symm).1; omega)
    · rw [if_neg hp]
      by_cases hq : q = t.party
      · rw [if_pos hq]
        rcases hat with e | ⟨k, e, hk⟩
        · rw [e, ← hq]; exact h.apart p q hpq
        · exact .inr (fun e2 => by rw [e] at e2; have := (hrow p _ e2).1; omega)
      · rw [if_neg hq]; exact h.apart p q hpq

theorem own_ne {W : World} {base B : Nat} {e t : TypeId} {k : Nat} {v : Value} {n : Nat} {xs : List Value} {cs : Array Value} (h : W.ownsRow base e k v n xs) (hB : Blk W B cs t) (hne : t ≠ e) : some B ≠ v.ownBlock := by
  obtain ⟨_, ⟨rfl, _⟩ | ⟨g, cap, cur, rfl, _, hg, _⟩⟩ := h
  · simp [Value.ownBlock]
  · intro q
    simp only [Value.ownBlock, Option.some.injEq] at q
    exact hB.other hg hne q

/-- append, where it is one operation of a region that draws its order: where the new slice lies. -/
theorem oper_append_at {P : Program} {w : World} {o : Oper} {a : Act} {K : Act → World → Prop} {Q : Exit → Act → World → Prop} (s x : Operand) (t : TypeId)
    (ho : o.op = .call { callee := .builtin .append, args := #[s, x], argTypes := #[t, t] })
    (base : Nat) (e : TypeId) (i : TypeInfo) (z : Value) (size bytes : Nat) (ht : P.underlying t = some (.slice e)) (hi : P.info? e = some i) (hz : i.zero = some z)
    (hsize : i.size = size) (hby : i.bytes = bytes) (hzs : z.cells.size = size) (hsz : 0 < size)
    (v : Value) (n : Nat) (xs : List Value) (hs : a.eval s = v) (hown : w.ownsRow base e size v n xs)
    (ad : Addr) (m c : Nat) (news : List Value) (hx : a.eval x = .slice (some ad) m c) (hl : news.length = m * size) (hnews : ∀ j u, news[j]? = some u → w.cell? (ad.add j) = some u) (h1 : ∀ u ∈ news, u.oneCell' = true)
    (h63 : n + m ≤ maxLen) (hbytes : (n + m) * bytes ≤ 140737488355328) (hbase : base ≤ w.heap.size)
    (h : ∀ v' w', w'.ownsRow base e size v' (n + m) (xs ++ news) → w.grownBy w' v.ownBlock → (v'.ownBlock = v.ownBlock ∨ v'.ownBlock = some w.heap.size) → K (a.put o.dst v') w') :
    Oper.wp P o a w K Q := by
  obtain ⟨v', w', hr, h2, h3, h4, h5⟩ := run_append_own_at (P := P) w base t o.type e i z size bytes ht hi hz hsize hby hzs hsz v n xs hown ad m c news hl hnews h1 h63 hbytes hbase
  unfold Oper.wp execOp
  simp only [ho, resolve, invoke, builtin, Sem.run_bind, Sem.run_pure, Result.andThen_ok, List.map_toArray, List.map_cons, List.map_nil, hs, hx, hr]
  exact h v' w' h2 h3 h5

/-- A store into a map, where it is one operation of a region. -/
theorem oper_mapUpdate {P : Program} {w w' : World} {o : Oper} {a : Act} {K : Act → World → Prop} {Q : Exit → Act → World → Prop} (t : TypeId) (m x y : Operand) (ho : o.op = .mapUpdate t m x y) (mv kv v : Value) (hm : a.eval m = mv) (hx : a.eval x = kv) (hy : a.eval y = v)
    (hr : (Instr.mapUpdate t mv kv v).run P w = .ok () w') (h : K (a.put o.dst undef) w') : Oper.wp P o a w K Q := by
  unfold Oper.wp execOp
  simp only [ho, hm, hx, hy, Sem.run_bind, Sem.run_pure, hr, Result.andThen_ok]
  exact h

end Go.Proofs.YtmeomhojbobpbaaGreatDoor

/-
  Lists of lists of titles in memory; when they are right.
-/
namespace Go.Proofs.YtmeomhojbobpbaaGreatDoor
open Go.RowKit Lg Go.Sort Go.Shelf

/-- A list of lists of titles in memory. -/
def LstL (W : World) (a : Option Addr) (n cap : Nat) (xss : List (List Title)) : Prop :=
  ∃ vs : List Value, Lst W 1 (fun v => [v]) a n cap vs ∧ vs.length = xss.length ∧ ∀ (i : Nat) (v : Value) (xs : List Title), vs[i]? = some v → xss[i]? = some xs → ∃ ai ni ci, v = .slice ai ni ci ∧ Lst W 3 cT ai ni ci xs

theorem LstL.below {W W' : World} {a : Option Addr} {n cap : Nat} {xss : List (List Title)} (h : LstL W a n cap xss) (hB : RowKit.Below W.heap.size W W') : LstL W' a n cap xss := by
  obtain ⟨vs, h1, h2, h3⟩ := h
  exact ⟨vs, h1.below hB, h2, fun i v xs hv hx => by obtain ⟨ai, ni, ci, e, hl⟩ := h3 i v xs hv hx; exact ⟨ai, ni, ci, e, hl.below hB⟩⟩

theorem LstL.at_ {W : World} {a : Option Addr} {n cap : Nat} {xss : List (List Title)} (h : LstL W a n cap xss) (i : Nat) (xs : List Title) (hx : xss[i]? = some xs) :
    ∃ b off, a = some ⟨b, off, none⟩ ∧ b < W.heap.size ∧ ∃ ai ni ci, W.cell? ⟨b, off + i, none⟩ = some (.slice ai ni ci) ∧ Lst W 3 cT ai ni ci xs := by
  obtain ⟨vs, h1, h2, h3⟩ := h
  have hi := (List.getElem?_eq_some_iff.1 hx).1
  obtain ⟨v, hv⟩ : ∃ v, vs[i]? = some v := ⟨vs[i]'(by omega), by simp⟩
  obtain ⟨b, off, ha, hb, hr⟩ := h1.at_ i v hv
  obtain ⟨ai, ni, ci, rfl, hl⟩ := h3 i v xs hv hx
  refine ⟨b, off, ha, hb, ai, ni, ci, ?_, hl⟩
  have := hr 0 (.slice ai ni ci) rfl
  rwa [Nat.mul_one, Nat.add_zero] at this

theorem LstL.facts {W : World} {a : Option Addr} {n cap : Nat} {xss : List (List Title)} (h : LstL W a n cap xss) : xss.length = n ∧ n ≤ cap ∧ cap ≤ maxLen := by
  obtain ⟨vs, h1, h2, _⟩ := h
  exact ⟨by rw [← h2]; exact h1.len, h1.le, h1.max⟩

/-- Whether a title may stand at a place of a list. -/
def okAt (xs : List Title) (k : Nat) (t : Title) : Bool := titleOk t && (decide (k = 0) || decide ((xs.getD (k - 1) t).party < t.party))

theorem listOk_at : ∀ (xs : List Title), listOk xs = true ↔ ∀ k t, xs[k]? = some t → okAt xs k t = true
  | [] => ⟨fun _ k t h => by simp at h, fun _ => rfl⟩
  | [t] => by
    constructor
    · intro h k u hu
      have hk : k = 0 := by have := (List.getElem?_eq_some_iff.1 hu).1; simp at this; exact this
      subst hk
      obtain rfl : t = u := by simpa using hu
      unfold okAt
      rw [show titleOk t = true from h]; rfl
    · intro h
      have := h 0 t rfl
      unfold okAt at this
      rw [Bool.and_eq_true] at this
      exact this.1
  | t :: u :: r => by
    have ih := listOk_at (u :: r)
    show (titleOk t && decide (t.party < u.party) && listOk (u :: r)) = true ↔ _
    rw [Bool.and_eq_true, Bool.and_eq_true, ih]
    constructor
    · rintro ⟨⟨h1, h2⟩, h3⟩ k x hx
      cases k with
      | zero =>
        obtain rfl : t = x := by simpa using hx
        unfold okAt; rw [h1]; rfl
      | succ k =>
        have h4 := h3 k x (by simpa using hx)
        unfold okAt at h4 ⊢
        rw [Bool.and_eq_true] at h4 ⊢
        refine ⟨h4.1, ?_⟩
        cases k with
        | zero =>
          obtain rfl : u = x := by simpa using hx
          simpa using h2
        | succ k =>
          have h5 := h4.2
          simp only [Nat.add_sub_cancel, List.getD_cons_succ] at h5 ⊢
          simpa using h5
    · intro h
      refine ⟨⟨?_, ?_⟩, fun k x hx => ?_⟩
      · have := h 0 t rfl; unfold okAt at this; rw [Bool.and_eq_true] at this; exact this.1
      · have := h 1 u rfl; unfold okAt at this; rw [Bool.and_eq_true] at this
        simpa using this.2
      · have h4 := h (k + 1) x (by simpa using hx)
        unfold okAt at h4 ⊢
        rw [Bool.and_eq_true] at h4 ⊢
        refine ⟨h4.1, ?_⟩
        cases k with
        | zero => rfl
        | succ k =>
          have h5 := h4.2
          simp only [Nat.add_sub_cancel, List.getD_cons_succ] at h5 ⊢
          simpa using h5

theorem endsE_bad {xss : List (List Title)} {i k : Nat} {xs : List Title} {t : Title} (hl : xss.length ≤ 1000) (hx : xss[i]? = some xs) (ht : xs[k]? = some t) (h : okAt xs k t = false) : endsE xss = 1 := by
  unfold endsE
  rw [if_neg (by omega), if_neg]
  intro hall
  have h1 := List.all_eq_true.1 hall xs (List.mem_of_getElem? hx)
  have h2 := (listOk_at xs).1 h1 k t ht
  rw [h] at h2; cases h2

theorem endsE_good {xss : List (List Title)} (hl : xss.length ≤ 1000) (h : ∀ xs ∈ xss, listOk xs = true) : endsE xss = 0 := by
  unfold endsE
  rw [if_neg (by omega), if_pos (List.all_eq_true.2 h)]

theorem flat_le {xss : List (List Title)} (h : ∀ xs ∈ xss, xs.length ≤ 50) : xss.flatten.length ≤ xss.length * 50 := by
  induction xss with
  | nil => simp
  | cons x r ih =>
    rw [List.flatten_cons, List.length_append, List.length_cons]
    have h1 := h x (by simp)
    have h2 := ih (fun y hy => h y (by simp [hy]))
    omega

end Go.Proofs.YtmeomhojbobpbaaGreatDoor

/-
  Walk: claim.Compare.
-/
namespace Go.Proofs.YtmeomhojbobpbaaGreatDoor
open Go.RowKit Lg Go.Sort Go.Shelf Go.Maps

set_option maxRecDepth 100000 in
set_option maxHeartbeats 1600000 in
theorem compareD_any (a b : Frac) (w : World) : Calls Tryz.prog 33 #[aF a, aF b] w (Gives w (.int .i64 (cmpF a b))) := by
  obtain ⟨w0, hw0⟩ : ∃ w0, w0 = (w.alloc (.cells #[.int .i64 a.num, .int .i64 a.den] 25)).alloc (.cells #[.int .i64 b.num, .int .i64 b.den] 25) := ⟨_, rfl⟩
  have k2 : Blk w0 w.heap.size #[.int .i64 a.num, .int .i64 a.den] 25 := hw0 ▸ (Blk.new w _ _).alloc _
  have k3 : Blk w0 (w.heap.size + 1) #[.int .i64 b.num, .int .i64 b.den] 25 := hw0 ▸ Blk.nw1 w _ _ _
  have hB : RowKit.Below w.heap.size w w0 := hw0 ▸ ((Below.refl _ w).alloc (Nat.le_refl _) _).alloc (by simp) _
  have eF : Ent 149 := enters_of Tryz.func149 (by kernel_rfl) rfl
  obtain ⟨r, hr⟩ : ∃ r, r = cmpF a b := ⟨_, rfl⟩
  rw [← hr]
  unfold cmpF at hr
  have Hr := Lib.hid hr
  clear hr
  go_enter Tryz.func33, Tryz.ntmps33
  go_upto_region 1 with fail
  rw [← hw0]
  clear hw0
  obtain ⟨x2, hx2⟩ : ∃ b, b = w.heap.size := ⟨_, rfl⟩
  obtain ⟨x3, hx3⟩ : ∃ b, b = w.heap.size + 1 := ⟨_, rfl⟩
  rw [← hx3] at k3 ⊢
  rw [← hx2] at k2 ⊢
  clear hx2 hx3
  have c2 := k2.cell
  have c3 := k3.cell
  obtain ⟨w1, hw1⟩ : ∃ w1, w1 = w0.alloc (.cells #[.int .i64 a.num, .int .i64 a.den, .int .i64 b.num, .int .i64 b.den] 25) := ⟨_, rfl⟩
  have hva := valid_any (some ⟨w0.heap.size, 0, none⟩) 2 2 [a, b] w1 (Lst.twoF (hw1 ▸ Blk.new w0 _ _))
  have hb1 : RowKit.Below w0.heap.size w0 w1 := hw1 ▸ (Below.refl _ w0).alloc (Nat.le_refl _) _
  rw [show (!([a, b].any fun f => !validF f)) = (validF a && validF b) from by simp [Bool.not_or]] at hva
  rw [hw1] at hva
  cases hv : (validF a && validF b) with
  | false =>
    rw [hv] at hva Hr
    clear hv
    go_wp2_with (fail)
    refine hva.mono ?_
    clear hva
    rintro e w2 ⟨rfl, hB2⟩
    rw [← hw1] at hB2
    clear hw1 c2 c3
    go_wp2_with (fail)
    go_ret
    exact ⟨ret_int (by rw [Hr.out]; simp), hB.trans ((hb1.trans (hB2.mono hb1.size)).mono hB.size)⟩
  | true =>
    rw [hv] at hva Hr
    have hv' := hv
    rw [Bool.and_eq_true] at hv'
    have ho := fun W => ord1_any a b (validF_ok hv'.1) (validF_ok hv'.2) W
    clear hv hv'
    have Hr2 : Hid (r = Lib.compareInt (a.num * b.den) (b.num * a.den)) := Lib.hid (by rw [Hr.out]; simp [Lib.compareInt])
    rw [← Hr2.out] at ho
    clear Hr Hr2
    go_wp2_with (fail)
    refine hva.mono ?_
    clear hva
    rintro e w2 ⟨rfl, hB2⟩
    rw [← hw1] at hB2
    clear hw1 c2 c3
    have hb2 := hb1.trans (hB2.mono hb1.size)
    have k2 := k2.below' hb2
    have k3 := k3.below' hb2
    have hB := hB.trans (hb2.mono hB.size)
    clear hb1 hB2 hb2
    have HO := Lib.hid (fun W (h : RowKit.Below w2.heap.size w2 W) => (ordersD_any W).mono (R' := fun e w' => ∃ B, e = .returned (.map (some B)) ∧ (Instr.lookup 107 (.map (some B)) (.string ⟨#[118, 97, 108, 117, 101]⟩) false).run Tryz.prog w' = .ok (.func (.func 149) #[] #[]) w' ∧ RowKit.Below W.heap.size W w' ∧ RowKit.Below w2.heap.size w2 w') fun _ _ q => ⟨_, q.1, own_ord q.2.1, q.2.2, h.trans (q.2.2.mono h.size)⟩)
    have Ho := Lib.hid (fun W (h : RowKit.Below w2.heap.size w2 W) => (ho W).mono (R' := fun e w' => e = .returned (.int .i64 r) ∧ RowKit.Below W.heap.size W w' ∧ RowKit.Below w2.heap.size w2 w') fun _ _ q => ⟨q.1, q.2, h.trans (q.2.mono h.size)⟩)
    clear ho
    have HS : ∀ W, RowKit.Below w2.heap.size w2 W → W.cell? ⟨x2, 0, none⟩ = some (.int .i64 a.num) ∧ W.cell? ⟨x2, 1, none⟩ = some (.int .i64 a.den) ∧ W.cell? ⟨x3, 0, none⟩ = some (.int .i64 b.num) ∧ W.cell? ⟨x3, 1, none⟩ = some (.int .i64 b.den) := fun W h => ⟨(k2.below' h).cell 0, (k2.below' h).cell 1, (k3.below' h).cell 0, (k3.below' h).cell 1⟩
    have HS := Lib.hid HS
    clear k2 k3
    go_upto_region 3 with fail
    go_region_held3 (fun w' => w'.cell? ⟨x2, 0, none⟩ = some (.int .i64 a.num) ∧ w'.cell? ⟨x2, 1, none⟩ = some (.int .i64 a.den) ∧ w'.cell? ⟨x3, 0, none⟩ = some (.int .i64 b.num) ∧ w'.cell? ⟨x3, 1, none⟩ = some (.int .i64 b.den))
      (((with_reducible refine HS.out _ ?_); repeat (first | (with_reducible assumption) | (with_reducible exact Below.refl _ _) | (with_reducible refine Below.alloc ?_ ?_ _) | (with_reducible refine Below.setCell ?_ ?_ _) | (with_reducible refine Below.drew ?_) | omega | (simp <;> omega) | (dsimp only; omega))))
      (first
        | (go_at_call 94; (with_reducible refine (HO.out _ (by repeat (first | (with_reducible assumption) | (with_reducible exact Below.refl _ _) | (with_reducible refine Below.alloc ?_ ?_ _) | (with_reducible refine Below.setCell ?_ ?_ _) | (with_reducible refine Below.drew ?_) | omega | (simp <;> omega) | (dsimp only; omega)))).mono ?_); rintro e w3 ⟨Bm, rfl, hlk, hBa, hba⟩; have hsa := hBa.size)
        | (go_at_call 149; (with_reducible refine (Ho.out _ (by repeat (first | (with_reducible assumption) | (with_reducible exact Below.refl _ _) | (with_reducible refine Below.alloc ?_ ?_ _) | (with_reducible refine Below.setCell ?_ ?_ _) | (with_reducible refine Below.drew ?_) | omega | (simp <;> omega) | (dsimp only; omega)))).mono ?_); rintro e w4 ⟨rfl, hBb, hbb⟩; have hsb := hBb.size)
        | fail)
    all_goals
      go_wp2_with fail
      go_ret
      exact ⟨rfl, hB.trans (RowKit.Below.mono (by repeat (first | (with_reducible assumption) | (with_reducible exact Below.refl _ _) | (with_reducible refine Below.alloc ?_ ?_ _) | (with_reducible refine Below.setCell ?_ ?_ _) | (with_reducible refine Below.drew ?_) | omega | (simp <;> omega) | (dsimp only; omega))) hB.size)⟩

end Go.Proofs.YtmeomhojbobpbaaGreatDoor
