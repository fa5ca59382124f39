import Derived.Test.YtmeomhojbobpbaaGreatDoorPart26
import Derived.Test.YtmeomhojbobpbaaGreatDoorPart07
import Derived.Test.YtmeomhojbobpbaaGreatDoorPart05
import Derived.Test.YtmeomhojbobpbaaGreatDoorPart03
import Derived.Deep.AppendLies
import Derived.Deep.RegionHeld3
import Derived.Test.YtmeomhojbobpbaaGreatDoorPart17
import Derived.Test.YtmeomhojbobpbaaGreatDoorPart15
import Derived.Shelf.SlSortCmp.InsertionK
import Derived.Lib.OwnBridge
import Derived.Test.YtmeomhojbobpbaaGreatDoorPart14
/-
  Walks: a register of deeds is right.
-/
namespace Go.Proofs.YtmeomhojbobpbaaGreatDoor
open Go.RowKit Lg Go.Sort Go.Shelf

set_option maxRecDepth 100000 in
set_option maxHeartbeats 1600000 in
theorem checkDeeds_any (a : Option Addr) (n cap : Nat) (xs : List Deed) (w : World) (hL : Lst w 11 cD a n cap xs) :
    Calls Tryz.prog 24 #[.slice a n cap] w (Gives w (.tuple #[.int .i64 (checkDeeds xs).1, .int .i64 (checkDeeds xs).2])) := by
  have hm : cap ≤ 9223372036854775807 := by have := hL.max; unfold maxLen at this; omega
  have hle := hL.le
  have hlen := Lib.hid hL.len
  go_enter Tryz.func24, Tryz.ntmps24
  go_wp2
  go_loopw [9] (fun i wr => ∃ k : Nat, k ≤ n ∧ i = .int .i64 k ∧ Below w.heap.size w wr ∧ checkDeeds xs = chkFrom followsD (xs.take k) (xs.drop k)) (fun i _ => n - (intOf i).toNat)
  case atStart => exact ⟨0, Nat.zero_le _, rfl, Below.refl _ _, rfl⟩
  case round =>
    obtain ⟨k, hk, rfl, hB, h0⟩ := hrel
    by_cases hlt : k < n
    · obtain ⟨x, hx⟩ : ∃ x, xs[k]? = some x := ⟨xs[k]'(by rw [hlen.out]; exact hlt), by simp⟩
      obtain ⟨b, off, rfl, hb, hr⟩ := hL.at_ k x hx
      have hr' := rangeAt_below hB hb hr
      have hL2 := (hL.below hB).take k hk
      have hdrop : xs.drop k = x :: xs.drop (k + 1) := by
        obtain ⟨h1, h2⟩ := List.getElem?_eq_some_iff.1 hx
        rw [← h2, List.drop_eq_getElem_cons h1]
      have htake : xs.take (k + 1) = xs.take k ++ [x] := by
        obtain ⟨h1, h2⟩ := List.getElem?_eq_some_iff.1 hx
        rw [List.take_succ_eq_append_getElem h1, h2]
      have hlt2 : (xs.take k).length = k := by rw [List.length_take, hlen.out]; omega
      obtain ⟨v, hv⟩ : ∃ v, v = followsD (xs.take k) x := ⟨_, rfl⟩
      have hf := fun W hW => followsD_any (some ⟨b, off, none⟩) k k (xs.take k) x W hW
      rw [← hv] at hf
      have hstep : checkDeeds xs = if v = 0 then chkFrom followsD (xs.take (k + 1)) (xs.drop (k + 1)) else ((k : Int), v) := by
        rw [h0, hdrop, chkFrom, ← hv, htake, hlt2]
      have Hs := Lib.hid hstep; clear hstep h0 hdrop htake hv hx
      obtain ⟨A, hA⟩ : ∃ A, A = wr.alloc (.cells #[.int .i64 x.id, .int .i64 x.known, .int .i64 x.hour, .int .u8 x.kind, .int .i64 x.loss, .int .i64 x.pack, .int .i64 x.from_, .int .i64 x.to_, .int .i64 x.share.num, .int .i64 x.share.den, .int .i64 x.of_] 36) := ⟨_, rfl⟩
      have kA : Blk A wr.heap.size #[.int .i64 x.id, .int .i64 x.known, .int .i64 x.hour, .int .u8 x.kind, .int .i64 x.loss, .int .i64 x.pack, .int .i64 x.from_, .int .i64 x.to_, .int .i64 x.share.num, .int .i64 x.share.den, .int .i64 x.of_] 36 := hA ▸ Blk.new _ _ _
      have hBA : RowKit.Below w.heap.size w A := hA ▸ hB.alloc hB.size _
      have hLA := hL2.below (hA ▸ (Below.refl _ wr).alloc (Nat.le_refl _) _ : RowKit.Below wr.heap.size wr A)
      have cA := box_regrown hA
      have cF := regrown_call (w := A) (v := .int .i64 v) (fun W' hW' => hf W' (hLA.below hW'))
      go_wp2_with (refine wpList_load_mid rfl 36 _ rfl b (off + k * 11) rfl (cD x) _ hr' Tryz.underlying36 rfl (by kernel_rfl) ?_)
      rw [← hA]; clear hA
      refine wp_region_quiet_below (by kernel_rfl) (by kernel_rfl) ?_
      repeat (go_big_quiet_step (exact cF _ _))
      refine wpQuiet_nil ?_
      intro _ hw'
      obtain ⟨⟨dq, osq⟩, hw''⟩ := hw'
      subst hw''
      have hBn := hBA.trans ((below_regrown A dq osq).mono hBA.size)
      clear cA cF
      by_cases hv0 : v = 0
      · subst hv0
        have hs2 := Hs.out
        rw [if_pos rfl] at hs2
        have Hs2 := Lib.hid hs2; clear hs2
        go_wp2
        go_roundw
        case rel => exact ⟨k + 1, by omega, by go_num, hBn, Hs2.out⟩
        case measure => simp [intOf]; omega
      · have hs2 := Hs.out
        rw [if_neg hv0] at hs2
        have Hs2 := Lib.hid hs2; clear hs2
        have g0 : (v != 0) = true := by simpa using hv0
        go_wp2
        go_ret2
        exact ⟨by rw [Hs2.out]; rfl, hBn⟩
    · obtain rfl : k = n := by omega
      have hs2 : checkDeeds xs = (0, 0) := by rw [h0, List.drop_of_length_le (by rw [hlen.out]; exact Nat.le_refl _)]; rfl
      have Hs2 := Lib.hid hs2; clear hs2 h0
      go_wp2
      go_ret2
      exact ⟨by rw [Hs2.out]; rfl, hB⟩

end Go.Proofs.YtmeomhojbobpbaaGreatDoor

/-
  Walks: a register with one more deed.
-/
namespace Go.Proofs.YtmeomhojbobpbaaGreatDoor
open Go.RowKit Lg Go.Sort Go.Shelf

theorem cD_one (x : Deed) : ∀ u ∈ cD x, u.oneCell' = true := by simp [cD, Value.oneCell']
theorem infoD : (Tryz.prog.info? 36).map (fun i => (i.zero, i.size, i.bytes)) = some (some (aD zeroDeed), 11, 88) := by kernel_rfl

/-- What stays through the last statement of Append. -/
def ApD (w : World) (x : Deed) (w' : World) : Prop := Blk w' w.heap.size #[.int .i64 x.id, .int .i64 x.known, .int .i64 x.hour, .int .u8 x.kind, .int .i64 x.loss, .int .i64 x.pack, .int .i64 x.from_, .int .i64 x.to_, .int .i64 x.share.num, .int .i64 x.share.den, .int .i64 x.of_] 36 ∧ RowKit.Below w.heap.size w w'

theorem ApD.all {w W W' : World} {x : Deed} (h : ApD w x W) (hb : RowKit.Below W.heap.size W W') : (∀ j, W'.cell? ⟨w.heap.size, j, none⟩ = #[.int .i64 x.id, .int .i64 x.known, .int .i64 x.hour, .int .u8 x.kind, .int .i64 x.loss, .int .i64 x.pack, .int .i64 x.from_, .int .i64 x.to_, .int .i64 x.share.num, .int .i64 x.share.den, .int .i64 x.of_][j]?) ∧ ApD w x W' :=
  ⟨(h.1.below' hb).cell, h.1.below' hb, h.2.trans (hb.mono h.2.size)⟩

theorem ApD.grown {w W W' : World} {x : Deed} {row : Option Nat} (h : ApD w x W) (hg : W.grownBy W' row) (hr : ∀ r, row = some r → w.heap.size < r) : (∀ j, W'.cell? ⟨w.heap.size, j, none⟩ = #[.int .i64 x.id, .int .i64 x.known, .int .i64 x.hour, .int .u8 x.kind, .int .i64 x.loss, .int .i64 x.pack, .int .i64 x.from_, .int .i64 x.to_, .int .i64 x.share.num, .int .i64 x.share.den, .int .i64 x.of_][j]?) ∧ ApD w x W' := by
  have h1 := h.1.kept hg (fun e => Nat.lt_irrefl _ (hr _ e.symm))
  exact ⟨h1.cell, h1, h.2.grown hg h.2.size (fun k e => Nat.le_of_lt (hr k e))⟩

set_option maxRecDepth 100000 in
theorem cloneD0_any (a : Option Addr) (n cap : Nat) (xs : List Deed) (w : World) (hn : n ≤ 1000) (hL : Lst w 11 cD a n cap xs) :
    Calls Tryz.prog 91 #[.slice a n cap] w fun e w' => ∃ v', e = .returned v' ∧ w'.ownsRow w.heap.size 36 11 v' n (xs.flatMap cD) ∧ RowKit.Below w.heap.size w w' := by
  obtain ⟨i0, hi0, hz0, hz1, hz2⟩ := info_parts infoD
  cases a with
  | none =>
    have h0 : xs = [] := by
      cases xs with
      | nil => rfl
      | cons x xs => obtain ⟨b, off, ha, _⟩ := hL.at_ 0 x rfl; cases ha
    subst h0
    have hl := hL.len
    simp at hl; subst hl
    have hnil : ∀ w : World, (binOp .eql 42 (.slice none 0 cap) (.slice none 0 0)).run Tryz.prog w = .ok (.bool true) w := fun w => Lib.run_eql_slice_nil w 42 36 none 0 cap 0 0 Tryz.underlying42
    clear hL hn
    go_enter Tryz.func91, Tryz.ntmps91
    go_wp2
    go_ret
    exact ⟨_, rfl, ⟨rfl, .inl ⟨rfl, rfl⟩⟩, Below.refl _ _⟩
  | some ad =>
    have ho : (w.alloc (.cells #[] 36)).ownsRow w.heap.size 36 11 (.slice (some ⟨w.heap.size, 0, none⟩) 0 0) 0 [] := World.ownsRow_made w #[] 0 (Nat.le_refl _) (Nat.zero_le _) rfl
    have hB : RowKit.Below w.heap.size w (w.alloc (.cells #[] 36)) := (Below.refl _ w).alloc (Nat.le_refl _) _
    have hL2 := hL.below hB
    have hnil : ∀ w : World, (binOp .eql 42 (.slice (some ad) n cap) (.slice none 0 0)).run Tryz.prog w = .ok (.bool false) w := fun w => Lib.run_eql_slice_nil w 42 36 (some ad) n cap 0 0 Tryz.underlying42
    go_enter Tryz.func91, Tryz.ntmps91
    go_wp2_with (first
      | (at_builtin; refine wpList_append_list rfl _ _ _ rfl w.heap.size 36 i0 _ 11 88 Tryz.underlying42 hi0 hz0 hz1 hz2 rfl (by omega) _ 0 [] rfl ho cD (fun _ => rfl) cD_one (some ad) n cap xs rfl hL2 (by unfold maxLen; omega) (by omega) (by simp) ?_; intro v1 w1 hown1 hgrow1)
      | fail)
    go_ret
    rw [List.nil_append, Nat.zero_add] at hown1
    exact ⟨_, rfl, hown1, below_of_grown hB (Nat.le_refl _) hgrow1 (fun r h => by cases h; exact Nat.le_refl _)⟩

set_option maxRecDepth 100000 in
set_option maxHeartbeats 1600000 in
theorem appendD_any (a : Option Addr) (n cap : Nat) (xs : List Deed) (x : Deed) (w : World) (hL : Lst w 11 cD a n cap xs) :
    Calls Tryz.prog 26 #[.slice a n cap, aD x] w (GivesL w 36 11 cD (appendDeed xs x).1 (appendDeed xs x).2) := by
  obtain ⟨r, hr⟩ : ∃ r, r = appendDeed xs x := ⟨_, rfl⟩
  rw [← hr]
  obtain ⟨c, hc⟩ : ∃ c, c = checkDeeds xs := ⟨_, rfl⟩
  obtain ⟨f, hf⟩ : ∃ f, f = followsD xs x := ⟨_, rfl⟩
  have hcr := fun W hW => checkDeeds_any a n cap xs W hW
  have hfr := fun W hW => followsD_any a n cap xs x W hW
  have hlim : f = 0 → n ≤ 1000 := by
    intro h0
    have h1 := (followsD_parts (hf.symm.trans h0)).1
    rw [hL.len] at h1; omega
  rw [← hc] at hcr
  rw [← hf] at hfr
  have Hr : Hid (r = if c.2 = 0 then (if f = 0 then (xs ++ [x], 0) else ([], f)) else ([], c.2)) := Lib.hid (by rw [hr, hc, hf]; rfl)
  clear hr hc hf
  obtain ⟨c1, c2⟩ := c
  have hB1 : RowKit.Below w.heap.size w (w.alloc (.cells #[.int .i64 x.id, .int .i64 x.known, .int .i64 x.hour, .int .u8 x.kind, .int .i64 x.loss, .int .i64 x.pack, .int .i64 x.from_, .int .i64 x.to_, .int .i64 x.share.num, .int .i64 x.share.den, .int .i64 x.of_] 36)) := (Below.refl _ w).alloc (Nat.le_refl _) _
  have hcr1 := hcr _ (hL.below hB1)
  clear hcr
  go_enter Tryz.func26, Tryz.ntmps26
  go_wp2_with (fail)
  refine hcr1.mono ?_
  clear hcr1
  rintro e w2 ⟨rfl, hB2⟩
  have k2 : Blk w2 w.heap.size #[.int .i64 x.id, .int .i64 x.known, .int .i64 x.hour, .int .u8 x.kind, .int .i64 x.loss, .int .i64 x.pack, .int .i64 x.from_, .int .i64 x.to_, .int .i64 x.share.num, .int .i64 x.share.den, .int .i64 x.of_] 36 := (Blk.new w _ _).below' hB2
  have hb2 : RowKit.Below w.heap.size w w2 := hB1.trans (hB2.mono hB1.size)
  have e2 := k2.cell
  by_cases hv0 : c2 = 0
  · subst hv0
    go_wp2_with (fail)
    refine (hfr w2 (hL.below hb2)).mono ?_
    clear hfr
    rintro e w3 ⟨rfl, hB3⟩
    have k3 := k2.below' hB3
    have hb3 := hb2.trans (hB3.mono hb2.size)
    clear e2
    have e3 := k3.cell
    by_cases hf0 : f = 0
    · have hn := hlim hf0
      subst hf0
      go_wp2_with (fail)
      have hL3 := hL.below hb3
      obtain ⟨i0, hi0, hz0, hz1, hz2⟩ := info_parts infoD
      have hS3 : ApD w x w3 := ⟨k3, hb3⟩
      have hlt3 := k3.lt
      clear e3
      go_region_held3 (fun w' => (∀ j, w'.cell? ⟨w.heap.size, j, none⟩ = #[.int .i64 x.id, .int .i64 x.known, .int .i64 x.hour, .int .u8 x.kind, .int .i64 x.loss, .int .i64 x.pack, .int .i64 x.from_, .int .i64 x.to_, .int .i64 x.share.num, .int .i64 x.share.den, .int .i64 x.of_][j]?) ∧ ApD w x w')
        (first
          | exact ApD.all hS3 (Below.refl _ _).drew
          | exact ApD.all hS3 ((Below.refl _ w3).drew.trans hBc)
          | exact ApD.all hS3 (((Below.refl _ w3).alloc (Nat.le_refl _) _).drew)
          | exact ApD.all hS3 ((((Below.refl _ w3).alloc (Nat.le_refl _) _).drew).trans (hBc.mono (by simp)))
          | exact ApD.all hS3 (((Below.refl _ w3).drew.trans hBc).alloc hBc.size _)
          | exact ApD.grown ((ApD.all hS3 (((Below.refl _ w3).drew.trans hBc).alloc hBc.size _)).2) hgrow (fun r e => Nat.lt_of_lt_of_le hlt3 (own_ge ho r e))
          | exact ApD.grown ((ApD.all hS3 ((((Below.refl _ w3).alloc (Nat.le_refl _) _).drew).trans (hBc.mono (by simp)))).2) hgrow (fun r e => Nat.lt_of_lt_of_le (ap_lt hlt3 _) (own_ge ho r e))
          | fail)
        (first
          | (go_at_call 91; refine (cloneD0_any a n cap xs _ hn (by first | exact hL3.below (Below.refl _ _).drew | exact hL3.below ((Below.refl _ w3).alloc (Nat.le_refl _) _).drew)).mono ?_; rintro e w4 ⟨v4, rfl, ho, hBc⟩)
          | (refine step_append_lies _ (by rfl) _ _ _ (by rfl) w3.heap.size 36 i0 _ 11 88 Tryz.underlying42 hi0 hz0 hz1 hz2 rfl (by omega) v4 n (xs.flatMap cD) (by rfl) (ho.alloc _)
              ⟨w4.heap.size, 0, none⟩ 1 1 (cD x) (by rfl) (by rfl) (World.news_of_block (cs := (cD x).toArray) (t := 36) (fr := (0, 0)) (heap_alloc_new w4 _)) (cD_one x)
              (by omega) (by unfold maxLen; omega) (by omega) (ap_base1 hBc _) (w4.heap.size + 1) (by simp) ?_; intro gg cap1 w5 hown5 hgrow hat hlt)
          | (refine step_append_lies _ (by rfl) _ _ _ (by rfl) w3.heap.size 36 i0 _ 11 88 Tryz.underlying42 hi0 hz0 hz1 hz2 rfl (by omega) v4 n (xs.flatMap cD) (by rfl) (ownsRow_base_a ho (by simp))
              ⟨w3.heap.size, 0, none⟩ 1 1 (cD x) (by rfl) (by rfl) (World.news_of_block ((Blk.drew (Blk.new w3 36 (cD x).toArray)).below' hBc)) (cD_one x)
              (by omega) (by unfold maxLen; omega) (by omega) (ap_base2 hBc) _ rfl ?_; intro gg cap1 w5 hown5 hgrow hat hlt)
          | fail)
      · have hf := (ApD.grown ((ApD.all hS3 (((Below.refl _ w3).drew.trans hBc).alloc hBc.size _)).2) hgrow (fun r e => Nat.lt_of_lt_of_le hlt3 (own_ge ho r e))).2.2
        go_wp2_with (fail)
        go_ret2
        have e := Hr.out
        simp only [if_true] at e
        rw [e]
        refine ⟨_, rfl, ?_, hf⟩
        rw [List.length_append, hL.len, List.flatMap_append, List.flatMap_singleton]
        exact ownsRow_base_a hown5 (Nat.le_of_lt hlt3)
      · have hf := (ApD.grown ((ApD.all hS3 ((((Below.refl _ w3).alloc (Nat.le_refl _) _).drew).trans (hBc.mono (by simp)))).2) hgrow (fun r e => Nat.lt_of_lt_of_le (ap_lt hlt3 _) (own_ge ho r e))).2.2
        go_wp2_with (fail)
        go_ret2
        have e := Hr.out
        simp only [if_true] at e
        rw [e]
        refine ⟨_, rfl, ?_, hf⟩
        rw [List.length_append, hL.len, List.flatMap_append, List.flatMap_singleton]
        exact ownsRow_base_a hown5 (Nat.le_of_lt hlt3)
    · have g0 : (f != 0) = true := by simpa using hf0
      have Hf0 := Lib.hid hf0; clear hf0
      go_wp2_with (fail)
      go_ret2
      have e := Hr.out
      simp only [if_true, if_neg Hf0.out] at e
      rw [e]
      exact GivesL.nil hb3
  · have g0 : (c2 != 0) = true := by simpa using hv0
    have Hv0 := Lib.hid hv0; clear hv0
    go_wp2_with (fail)
    go_ret2
    have e := Hr.out
    rw [if_neg Hv0.out] at e
    rw [e]
    exact GivesL.nil hb2


end Go.Proofs.YtmeomhojbobpbaaGreatDoor

/-
  Walks: deeds by their hours (claim.byHour): fewer than twenty of them.
-/
namespace Go.Proofs.YtmeomhojbobpbaaGreatDoor
open Go.RowKit Lg Go.Sort Go.Shelf

/-- How hours are compared. -/
def cmpH (x y : Deed) : Int := Lib.compareInt x.hour y.hour

theorem ltOf_cmpH : ltOf cmpH = ltH := by
  funext x y
  unfold ltOf cmpH ltH Lib.compareInt
  by_cases h : x.hour < y.hour
  · simp [h]
  · rw [if_neg h]
    split <;> simp [h]

set_option maxRecDepth 100000 in
set_option maxHeartbeats 800000 in
theorem byHour1_any (x y : Deed) (w : World) : Calls Tryz.prog 156 #[aD x, aD y] w fun e w' => e = .returned (.int .i64 (cmpH x y)) ∧ ∃ q os', w' = grow (w.drewN q) os' := by
  have hcm := fun W => Tryz.cmp_Compare_int x.hour y.hour W
  unfold cmpH
  go_enter Tryz.func156, Tryz.ntmps156
  go_wp2_with (go_at_call 75; refine (hcm _).mono ?_; rintro e w3 ⟨rfl, rfl⟩)
  go_ret
  exact ⟨rfl, 0, #[.cells (cD x).toArray 36 (0, 0), .cells (cD y).toArray 36 (0, 0)], by kernel_rfl⟩

theorem aggE : ∀ w, (isAgg 36).run Tryz.prog w = .ok true w := fun w => by kernel_rfl
theorem sizeE : ∀ w, (Go.sizeOf 36).run Tryz.prog w = .ok 11 w := fun w => by kernel_rfl

theorem flatK_flat {α : Type} [Inhabited α] (enc : α → List Value) (k : Nat) (hk0 : 0 < k) (hk : ∀ x, (enc x).length = k) (xs : List α) : flatK enc k xs.toArray = (xs.flatMap enc).toArray := by
  refine Array.ext (by simp only [size_flatK, List.size_toArray]; rw [flat_len enc k hk]) fun t h1 h2 => ?_
  have ht : t < xs.length * k := by simpa using h1
  have hd : t / k < xs.length := (Nat.div_lt_iff_lt_mul hk0).2 ht
  have hm := Nat.mod_lt t hk0
  have e1 := get_flatK enc k xs.toArray t (by simpa using ht)
  rw [getElem!_pos _ t h1] at e1
  rw [e1]
  have hx : xs[t / k]? = some xs.toArray[t / k]! := by simp [hd]
  have hu : (enc xs.toArray[t / k]!)[t % k]? = some (enc xs.toArray[t / k]!)[t % k]! := by
    rw [List.getElem!_eq_getElem?_getD, List.getElem?_eq_getElem (by rw [hk]; exact hm)]; rfl
  have := flat_put enc k hk xs (t / k) (t % k) _ _ hx hu
  rw [Nat.mul_comm, Nat.div_add_mod] at this
  rw [List.getElem_toArray]
  exact (List.getElem?_eq_some_iff.1 this).2.symm

/-- A row of the call's own, laid anew. -/
theorem ownsRow_laid {w : World} {base g cap n k q : Nat} {e : TypeId} {os : Array Obj} {cur : Array Value} {ts : List Value} (hl : ts.length = n * k) (hbase : base ≤ g) (hb : w.heap[g]? = some (.cells cur e (0, 0)))
    (h1 : n ≤ cap) (h2 : cap ≤ maxLen) (h3 : cur.size = cap * k) :
    (grow (putRow id (Sort.ahead w q) g 0 ts.toArray) os).ownsRow base e k (.slice (some ⟨g, 0, none⟩) n cap) n ts := by
  have hg : g < w.heap.size := (Array.getElem?_eq_some_iff.1 hb).1
  have hle : n * k ≤ cur.size := by rw [h3]; exact Nat.mul_le_mul_right k h1
  refine ⟨hl, .inr ⟨g, cap, putCells id 0 ts.toArray cur, rfl, hbase, ?_, h1, h2, by simp [putCells, h3], ?_⟩⟩
  · rw [heap_grow_old _ _ (by simpa using hg)]
    simp [putRow, mapBlock, Sort.ahead, Array.getElem?_modify, hb, onCells]
  · rw [← hl]
    apply List.ext_getElem?
    intro j
    by_cases hj : j < ts.length
    · rw [List.getElem?_take_of_lt hj, Array.getElem?_toList]
      simp [putCells, hj, show j < cur.size by omega]
    · rw [List.getElem?_take_eq_none (by omega), List.getElem?_eq_none (by omega)]

theorem grownBy_laid {w : World} {g q : Nat} {os : Array Obj} (d : Array Value) : w.grownBy (grow (putRow id (Sort.ahead w q) g 0 d) os) (some g) := by
  refine ⟨rfl, rfl, rfl, by simp, fun k hk hne => ?_⟩
  rw [heap_grow_old _ _ (by simpa using hk)]
  have : g ≠ k := fun e => hne (by rw [e])
  simp [putRow, mapBlock, Sort.ahead, Array.getElem?_modify, this]

theorem holdsK_row {w : World} {g : Nat} {cur : Array Value} {xs : List Deed} (hb : w.heap[g]? = some (.cells cur 36 (0, 0))) (ht : cur.toList.take (xs.length * 11) = xs.flatMap cD) : HoldsK cD 11 w g 0 xs.toArray := by
  unfold HoldsK
  rw [flatK_flat cD 11 (by omega) (fun _ => rfl)]
  intro j hj
  have hj' : j < (xs.flatMap cD).length := by simpa using hj
  refine ⟨?_, by simp [World.frozen?, hb]⟩
  have h1 : (cur.toList.take (xs.length * 11))[j]? = (xs.flatMap cD)[j]? := by rw [ht]
  have hl := flat_len cD 11 (fun _ => rfl) xs
  rw [List.getElem?_take_of_lt (by omega)] at h1
  simp only [World.cell?, hb, Nat.zero_add]
  simp only [Option.isSome_none, Bool.false_eq_true, if_false]
  rw [← Array.getElem?_toList, h1, List.getElem?_eq_getElem hj']
  simp
  rw [List.getElem?_eq_getElem hj']
  rfl

set_option maxRecDepth 100000 in
set_option maxHeartbeats 1600000 in
theorem stableD_some (base g n cap : Nat) (xs : List Deed) (w : World) (hn : n < 20) (ho : w.ownsRow base 36 11 (.slice (some ⟨g, 0, none⟩) n cap) n (xs.flatMap cD)) :
    Calls Tryz.prog 213 #[.slice (some ⟨g, 0, none⟩) n cap, .int .i64 n, .func (.func 156) #[] #[]] w fun e w' => e = .returned (.tuple #[]) ∧ w'.ownsRow base 36 11 (.slice (some ⟨g, 0, none⟩) n cap) n ((byHourD xs).flatMap cD) ∧ w.grownBy w' (some g) := by
  have hxl : xs.length = n := ownsRow_flat (enc := cD) (k := 11) (fun _ => rfl) (by omega) ho
  obtain ⟨h0, ⟨hz, _⟩ | ⟨g', cap', cur, hv, hb, hg, hnc, hcm, hcur, htk⟩⟩ := ho
  · cases hz
  · cases hv
    have eg : ∀ args w, (callFunc 156 args).run Tryz.prog w = .ok (.enter 156 args) w := enters_of Tryz.func156 (by kernel_rfl) rfl
    have hgl : g < w.heap.size := (Array.getElem?_eq_some_iff.1 hg).1
    have hH := holdsK_row hg (by rw [hxl]; exact htk)
    have hs := AnyQ.insertionSortCmpFunc Tryz.insDeed 11 aggE sizeE cD (fun _ => rfl) cD_one cmpH 156 #[] g 0 cap 0 n xs.toArray w eg (fun m os dk _ x y => byHour1_any x y _) hH hgl (Nat.zero_le _) (by simp [hxl]) (by simp only [List.size_toArray]; omega)
    rw [ltOf_cmpH] at hs
    have hs2 : Calls Tryz.prog 233 #[.slice (some ⟨g, 0, none⟩) n cap, .int .i64 0, .int .i64 n, .func (.func 156) #[] #[]] w fun e w' => e = .returned (.tuple #[]) ∧ w'.ownsRow base 36 11 (.slice (some ⟨g, 0, none⟩) n cap) n ((byHourD xs).flatMap cD) ∧ w.grownBy w' (some g) := by
      have e1 : xs.toArray.size = n := by simpa using hxl
      rw [e1] at hs
      refine hs.mono ?_
      rintro e w' ⟨rfl, q, os, rfl⟩
      unfold sortWorldK putRowK
      rw [← hxl, sortH_list, flatK_flat cD 11 (by omega) (fun _ => rfl)]
      refine ⟨rfl, ?_, grownBy_laid _⟩
      exact ownsRow_laid (by rw [flat_len cD 11 (fun _ => rfl), byHourD_len]) hb hg (by omega) hcm hcur
    clear hs hH h0 hcur htk hg hxl
    have hz1 : ¬ (20 : Int) ≤ (n : Int) := by omega
    have hz2 : ¬ (20 : Int) < (n : Int) := by omega
    go_enter Tryz.func213, Tryz.ntmps213
    go_wp2_with (fail)
    go_loopw [7, 8] (fun c7 c8 wr => c7 = .int .i64 0 ∧ c8 = .int .i64 20 ∧ wr = w) (fun _ _ _ => 0)
    case atStart => exact ⟨rfl, rfl, rfl⟩
    case round =>
      obtain ⟨rfl, rfl, rfl⟩ := hrel
      go_wp2_with (fail)
      refine hs2.mono ?_
      clear hs2
      rintro e w2 ⟨rfl, ho2, hg2⟩
      go_wp2_with (fail)
      go_loopw [6] (fun c6 wr => c6 = .int .i64 20 ∧ wr = w2) (fun _ _ => 0)
      case atStart => exact ⟨rfl, rfl⟩
      case round =>
        obtain ⟨rfl, rfl⟩ := hrel
        go_wp2_with (fail)
        go_end0
        exact ⟨rfl, ho2, hg2⟩

set_option maxRecDepth 100000 in
theorem insD_none (w : World) :
    Calls Tryz.prog 233 #[.slice none 0 0, .int .i64 0, .int .i64 0, .func (.func 156) #[] #[]] w fun e w' => e = .returned (.tuple #[]) ∧ w' = w := by
  have hz : ¬ (1 : Int) < 0 := by decide
  go_enter Tryz.func233, Tryz.ntmps233
  go_wp2_with (fail)
  go_loopw [8] (fun c8 wr => c8 = .int .i64 1 ∧ wr = w) (fun _ _ => 0)
  case atStart => exact ⟨by go_num, rfl⟩
  case round =>
    obtain ⟨rfl, rfl⟩ := hrel
    go_wp2_with (fail)
    go_end0
    exact ⟨rfl, rfl⟩

set_option maxRecDepth 100000 in
set_option maxHeartbeats 1600000 in
theorem stableD_none (w : World) :
    Calls Tryz.prog 213 #[.slice none 0 0, .int .i64 0, .func (.func 156) #[] #[]] w fun e w' => e = .returned (.tuple #[]) ∧ w' = w := by
  have hs := insD_none w
  go_enter Tryz.func213, Tryz.ntmps213
  go_wp2_with (fail)
  go_loopw [7, 8] (fun c7 c8 wr => c7 = .int .i64 0 ∧ c8 = .int .i64 20 ∧ wr = w) (fun _ _ _ => 0)
  case atStart => exact ⟨rfl, rfl, rfl⟩
  case round =>
    obtain ⟨rfl, rfl, rfl⟩ := hrel
    have hz1 : ¬ (20 : Int) ≤ 0 := by decide
    have hz2 : ¬ (20 : Int) < 0 := by decide
    go_wp2_with (fail)
    refine hs.mono ?_
    clear hs
    rintro e w2 ⟨rfl, rfl⟩
    go_wp2_with (fail)
    go_loopw [6] (fun c6 wr => c6 = .int .i64 20 ∧ wr = w2) (fun _ _ => 0)
    case atStart => exact ⟨rfl, rfl⟩
    case round =>
      obtain ⟨rfl, rfl⟩ := hrel
      go_wp2_with (fail)
      go_end0
      exact ⟨rfl, rfl⟩

/-- slices.SortStableFunc at a row of the call's own. -/
theorem stableD_own (base n : Nat) (v : Value) (xs : List Deed) (w : World) (hn : n < 20) (ho : w.ownsRow base 36 11 v n (xs.flatMap cD)) :
    Calls Tryz.prog 184 #[v, .func (.func 156) #[] #[]] w fun e w' => e = .returned (.tuple #[]) ∧ w'.ownsRow base 36 11 v n ((byHourD xs).flatMap cD) ∧ w.grownBy w' v.ownBlock := by
  have ho2 := ho
  have hxl : xs.length = n := ownsRow_flat (enc := cD) (k := 11) (fun _ => rfl) (by omega) ho
  obtain ⟨h0, ⟨rfl, rfl⟩ | ⟨g, cap, cur, rfl, hb, hg, hnc, hcm, hcur, htk⟩⟩ := ho
  · have hx : xs = [] := List.eq_nil_of_length_eq_zero hxl
    subst hx
    have hs := stableD_none w
    clear ho2 h0
    go_enter Tryz.func184, Tryz.ntmps184
    go_wp2_with (fail)
    refine hs.mono ?_
    clear hs
    rintro e w2 ⟨rfl, rfl⟩
    go_wp2_with (fail)
    go_end0
    exact ⟨rfl, ⟨by simp [byHourD], .inl ⟨rfl, rfl⟩⟩, grown_refl _ _⟩
  · have hs := stableD_some base g n cap xs w hn ho2
    clear ho2 h0 hcur htk hg hxl
    go_enter Tryz.func184, Tryz.ntmps184
    go_wp2_with (fail)
    refine hs.mono ?_
    clear hs
    rintro e w2 ⟨rfl, ho3, hg3⟩
    go_wp2_with (fail)
    go_end0
    exact ⟨rfl, ho3, hg3⟩

set_option maxRecDepth 100000 in
theorem byHourD_any (a : Option Addr) (n cap : Nat) (xs : List Deed) (w : World) (hn : n < 20) (hL : Lst w 11 cD a n cap xs) :
    Calls Tryz.prog 105 #[.slice a n cap] w fun e w' => ∃ v', e = .returned v' ∧ w'.ownsRow w.heap.size 36 11 v' n ((byHourD xs).flatMap cD) ∧ RowKit.Below w.heap.size w w' := by
  have hcl := cloneD0_any a n cap xs w (by omega) hL
  have hs : Calls Tryz.prog 155 #[.slice a n cap, .func (.func 156) #[] #[]] w fun e w' => ∃ v', e = .returned v' ∧ w'.ownsRow w.heap.size 36 11 v' n ((byHourD xs).flatMap cD) ∧ RowKit.Below w.heap.size w w' := by
    clear hL
    go_enter Tryz.func155, Tryz.ntmps155
    go_wp2_with (fail)
    refine hcl.mono ?_
    clear hcl
    rintro e w2 ⟨v', rfl, ho, hB⟩
    have hst := stableD_own w.heap.size n v' xs w2 hn ho
    go_wp2_with (fail)
    refine hst.mono ?_
    clear hst
    rintro e w3 ⟨rfl, ho3, hg3⟩
    go_wp2_with (fail)
    go_ret
    exact ⟨v', rfl, ho3, below_of_grown hB (Nat.le_refl _) hg3 (own_ge' ho)⟩
  clear hcl hL
  go_enter Tryz.func105, Tryz.ntmps105
  go_wp2_with (fail)
  refine hs.mono ?_
  clear hs
  rintro e w2 ⟨v', rfl, ho, hB⟩
  go_wp2_with (fail)
  go_ret
  exact ⟨v', rfl, ho, hB⟩

end Go.Proofs.YtmeomhojbobpbaaGreatDoor

/-
  Walks: who claims by an hour (claim.claimed).
-/
namespace Go.Proofs.YtmeomhojbobpbaaGreatDoor
open Go.RowKit Lg Go.Sort Go.Shelf

theorem cI_ones (x : Int) : ∀ u ∈ cI x, u.oneCell' = true := by simp [cI, Value.oneCell']

set_option maxRecDepth 100000 in
set_option maxHeartbeats 800000 in
theorem goneD_any (v x : Deed) (hour : Int) (B Bk : Nat) (w : World) (k : Blk w B #[.int .i64 x.id, .int .i64 x.known, .int .i64 x.hour, .int .u8 x.kind, .int .i64 x.loss, .int .i64 x.pack, .int .i64 x.from_, .int .i64 x.to_, .int .i64 x.share.num, .int .i64 x.share.den, .int .i64 x.of_] 36) (hk : w.cell? ⟨Bk, 0, none⟩ = some (.int .i64 hour)) :
    Calls Tryz.prog 169 #[aD v, .pointer (some ⟨B, 0, none⟩), .pointer (some ⟨Bk, 0, none⟩)] w (Gives w (.bool (goneD x hour v))) := by
  obtain ⟨W, hW⟩ : ∃ W, W = w.alloc (.cells (cD v).toArray 36) := ⟨_, rfl⟩
  have hB : RowKit.Below w.heap.size w W := hW ▸ (Below.refl _ w).alloc (Nat.le_refl _) _
  have kX : Blk W B #[.int .i64 x.id, .int .i64 x.known, .int .i64 x.hour, .int .u8 x.kind, .int .i64 x.loss, .int .i64 x.pack, .int .i64 x.from_, .int .i64 x.to_, .int .i64 x.share.num, .int .i64 x.share.den, .int .i64 x.of_] 36 := hW ▸ k.alloc _
  have kV : Blk W w.heap.size (cD v).toArray 36 := hW ▸ Blk.new _ _ _
  have ck : W.cell? ⟨Bk, 0, none⟩ = some (.int .i64 hour) := hW ▸ cell_allocs hk _
  obtain ⟨r, hr⟩ : ∃ r, r = goneD x hour v := ⟨_, rfl⟩
  rw [← hr]
  unfold goneD at hr
  have cX := kX.cell
  have cV := kV.cell
  clear hk
  by_cases h6 : v.kind = 5
  · have g6 : (v.kind == 5) = true := by simp [h6]
    rw [decide_eq_true h6] at hr
    by_cases hi : v.of_ = x.id
    · have gi : (v.of_ == x.id) = true := by simp [hi]
      rw [decide_eq_true hi] at hr
      have Hr := Lib.hid hr
      clear hr h6 hi
      go_enter Tryz.func169, Tryz.ntmps169
      go_upto_region 1 with fail
      rw [← hW]; clear hW
      go_wp2_with (fail)
      go_ret
      exact ⟨ret_bool (by rw [Hr.out]; simp), hB⟩
    · have gi : (v.of_ == x.id) = false := by simp [hi]
      rw [decide_eq_false hi] at hr
      have Hr := Lib.hid hr
      clear hr h6 hi
      go_enter Tryz.func169, Tryz.ntmps169
      go_upto_region 1 with fail
      rw [← hW]; clear hW
      go_wp2_with (fail)
      go_ret
      exact ⟨ret_bool (by rw [Hr.out]; simp), hB⟩
  · have g6 : (v.kind == 5) = false := by simp [h6]
    rw [decide_eq_false h6] at hr
    have Hr := Lib.hid hr
    clear hr h6
    go_enter Tryz.func169, Tryz.ntmps169
    go_upto_region 1 with fail
    rw [← hW]; clear hW
    go_wp2_with (fail)
    go_ret
    exact ⟨ret_bool (by rw [Hr.out]; simp), hB⟩

set_option maxRecDepth 100000 in
set_option maxHeartbeats 3200000 in
theorem claimedD_any (a : Option Addr) (n cap : Nat) (xs : List Deed) (hour : Int) (w : World) (hL : Lst w 11 cD a n cap xs) (hn : n ≤ 1000) :
    Calls Tryz.prog 127 #[.slice a n cap, .int .i64 hour] w (GivesI w (claimedD xs hour)) := by
  have hm : cap ≤ 9223372036854775807 := by have := hL.max; unfold maxLen at this; omega
  have hle := hL.le
  have hlen := Lib.hid hL.len
  obtain ⟨i0, hi0, hz0, hz1, hz2⟩ := info_parts infoI
  obtain ⟨w0, hw0⟩ : ∃ w0, w0 = w.alloc (.cells #[.int .i64 hour] 3) := ⟨_, rfl⟩
  have kH : Blk w0 w.heap.size #[.int .i64 hour] 3 := hw0 ▸ Blk.new _ _ _
  have hB0 : RowKit.Below w.heap.size w w0 := hw0 ▸ (Below.refl _ w).alloc (Nat.le_refl _) _
  have hL0 := hL.below hB0
  have eg : ∀ args w, (callFunc 169 args).run Tryz.prog w = .ok (.enter 169 args) w := enters_of Tryz.func169 (by kernel_rfl) rfl
  have hmf : ∀ (fn : Fn) (first cap : Array Value) (w : World), (Instr.makeFunc fn first cap).run Tryz.prog w = .ok (.func fn first cap) w := fun _ _ _ _ => rfl
  go_enter Tryz.func127, Tryz.ntmps127
  go_upto_region 1 with fail
  rw [← hw0]
  clear hw0 hL
  obtain ⟨bh, hbh⟩ : ∃ b, b = w.heap.size := ⟨_, rfl⟩
  rw [← hbh] at kH ⊢
  clear hbh
  go_wp2_with (fail)
  go_loopw [5, 11] (fun o i wr => ∃ k : Nat, k ≤ n ∧ i = .int .i64 k ∧ wr.ownsRow w0.heap.size 3 1 o ((xs.take k).filter (claimsD xs hour)).length ((((xs.take k).filter (claimsD xs hour)).map Deed.from_).flatMap cI) ∧ RowKit.Below w0.heap.size w0 wr) (fun _ i _ => n - (intOf i).toNat)
  case atStart => exact ⟨0, Nat.zero_le _, rfl, ⟨by simp, .inl ⟨rfl, rfl⟩⟩, Below.refl _ _⟩
  case round =>
    obtain ⟨k, hk, rfl, hor, hB⟩ := hrel
    by_cases hlt : k < n
    · have hltz : (k : Int) < (n : Int) := by omega
      obtain ⟨x, hx⟩ : ∃ x, xs[k]? = some x := ⟨xs[k]'(by rw [hlen.out]; exact hlt), by simp⟩
      obtain ⟨b, off, rfl, hb, hr⟩ := hL0.at_ k x hx
      have hr' := rangeAt_below hB hb hr
      have hX := Lib.hid hx; clear hx hr
      obtain ⟨ys, hys⟩ : ∃ ys, ys = (xs.take k).filter (claimsD xs hour) := ⟨_, rfl⟩
      have hyl : ys.length ≤ 1000 := by
        have h1 := List.length_filter_le (claimsD xs hour) (xs.take k)
        have h2 := List.length_take_le k xs
        rw [← hys] at h1
        omega
      rw [← hys] at hor
      have htake : (xs.take (k + 1)).filter (claimsD xs hour) = ys ++ (if claimsD xs hour x then [x] else []) := by
        obtain ⟨h1, h2⟩ := List.getElem?_eq_some_iff.1 hX.out
        rw [List.take_succ_eq_append_getElem h1, h2, List.filter_append, List.filter_cons, List.filter_nil, ← hys]
      have Htake := Lib.hid htake
      have Hor := Lib.hid hor
      clear htake hor hys
      go_wp2_with (first | (refine wpList_load_mid rfl 36 _ rfl b (off + k * 11) rfl (cD x) _ hr' Tryz.underlying36 rfl (by kernel_rfl) ?_) | fail)
      obtain ⟨A3, hA3⟩ : ∃ A3, A3 = wr.alloc (.cells #[.int .i64 x.id, .int .i64 x.known, .int .i64 x.hour, .int .u8 x.kind, .int .i64 x.loss, .int .i64 x.pack, .int .i64 x.from_, .int .i64 x.to_, .int .i64 x.share.num, .int .i64 x.share.den, .int .i64 x.of_] 36) := ⟨_, rfl⟩
      have hBA3 : RowKit.Below wr.heap.size wr A3 := hA3 ▸ (Below.refl _ wr).alloc (Nat.le_refl _) _
      have kA : Blk A3 wr.heap.size #[.int .i64 x.id, .int .i64 x.known, .int .i64 x.hour, .int .u8 x.kind, .int .i64 x.loss, .int .i64 x.pack, .int .i64 x.from_, .int .i64 x.to_, .int .i64 x.share.num, .int .i64 x.share.den, .int .i64 x.of_] 36 := hA3 ▸ Blk.new _ _ _
      have hB3 : RowKit.Below w0.heap.size w0 A3 := hB.trans (hBA3.mono hB.size)
      have kH3 := kH.below' hB3
      have hL3 := hL0.below hB3
      rw [← hA3]; clear hA3
      refine (someD_any (goneD x hour) 169 #[.pointer (some ⟨wr.heap.size, 0, none⟩), .pointer (some ⟨bh, 0, none⟩)] eg (some ⟨b, off, none⟩) n cap xs A3 hL3 (fun W' v hW' => goneD_any v x hour wr.heap.size bh W' (kA.below' hW') ((kH3.below' hW').cell 0))).mono ?_
      rintro e w4 ⟨rfl, hB4⟩
      have hb4 : RowKit.Below wr.heap.size wr w4 := hBA3.trans (hB4.mono hBA3.size)
      have kA4 := kA.below' hB4
      have cA4 := kA4.cell
      have cH4 : w4.cell? ⟨bh, 0, none⟩ = some (.int .i64 hour) := (kH3.below' hB4).cell 0
      have hBn : RowKit.Below w0.heap.size w0 w4 := hB.trans (hb4.mono hB.size)
      have hor4 := own_below Hor.out hb4
      have Hor4 := Lib.hid hor4
      obtain ⟨vd, hvd⟩ : ∃ vd, vd = xs.any (goneD x hour) := ⟨_, rfl⟩
      rw [← hvd]
      have Hc : Hid (claimsD xs hour x = (decide (x.kind = 4) && decide (x.hour ≤ hour) && !vd)) := Lib.hid (by rw [hvd]; rfl)
      clear hvd hor4 Hor hB4 hBA3 kA kA4 hB3 kH3 hL3 hb4 hr'
      have hgo : Hid (claimsD xs hour x = false → (xs.take (k + 1)).filter (claimsD xs hour) = ys) := Lib.hid (fun hf => by rw [Htake.out, hf]; simp)
      by_cases g1 : x.kind = 4
      · have g1' : (x.kind == 4) = true := by simp [g1]
        rw [decide_eq_true g1] at Hc
        clear g1
        by_cases g2 : x.hour ≤ hour
        · rw [decide_eq_true g2] at Hc
          have d2 : decide (x.hour ≤ hour) = true := decide_eq_true g2
          cases vd with
          | true =>
            have Hf : Hid (claimsD xs hour x = false) := Lib.hid (by rw [Hc.out]; rfl)
            clear Hc
            go_wp2_with (fail)
            go_roundw
            case rel => exact ⟨k + 1, by omega, by go_num, by rw [hgo.out Hf.out]; exact Hor4.out, hBn⟩
            case measure => simp [intOf]; omega
          | false =>
            have Hf : Hid (claimsD xs hour x = true) := Lib.hid (by rw [Hc.out]; rfl)
            clear Hc hgo
            go_wp2_with (first
              | (at_builtin; refine wpList_append_list rfl _ _ _ rfl w0.heap.size 3 i0 _ 1 8 Tryz.underlying30 hi0 hz0 hz1 hz2 rfl (by omega) _ _ _ rfl (Hor4.out.alloc _) cI (fun _ => rfl) cI_ones _ 1 _ [x.from_] rfl (Lst.one1 (Blk.new _ _ _)) (by unfold maxLen; omega) (by omega) (by have := hBn.size; simp; omega) ?_; intro v2 w5 hown2 hgrow2; have hB5 := below_of_grown (hBn.alloc hBn.size _) (Nat.le_refl _) hgrow2 (own_ge' Hor4.out))
              | fail)
            go_roundw
            case rel =>
              refine ⟨k + 1, by omega, by go_num, ?_, hB5⟩
              rw [Htake.out, Hf.out, if_pos rfl, List.length_append, List.map_append, List.flatMap_append]
              exact hown2
            case measure => simp [intOf]; omega
        · have d2 : decide (x.hour ≤ hour) = false := decide_eq_false g2
          rw [d2] at Hc
          have Hf : Hid (claimsD xs hour x = false) := Lib.hid (by rw [Hc.out]; rfl)
          clear Hc
          go_wp2_with (fail)
          go_roundw
          case rel => exact ⟨k + 1, by omega, by go_num, by rw [hgo.out Hf.out]; exact Hor4.out, hBn⟩
          case measure => simp [intOf]; omega
      · have g1' : (x.kind == 4) = false := by simp [g1]
        rw [decide_eq_false g1] at Hc
        have Hf : Hid (claimsD xs hour x = false) := Lib.hid (by rw [Hc.out]; rfl)
        clear Hc g1
        go_wp2_with (fail)
        go_roundw
        case rel => exact ⟨k + 1, by omega, by go_num, by rw [hgo.out Hf.out]; exact Hor4.out, hBn⟩
        case measure => simp [intOf]; omega
    · obtain rfl : k = n := by omega
      rw [List.take_of_length_le (by rw [hlen.out]; exact Nat.le_refl _)] at hor
      obtain ⟨ys, hys⟩ : ∃ ys, ys = xs.filter (claimsD xs hour) := ⟨_, rfl⟩
      have hyl : ys.length ≤ 1000 := by
        have h1 := List.length_filter_le (claimsD xs hour) xs
        rw [← hys] at h1
        have := hlen.out
        omega
      rw [← hys, flat_int] at hor
      have hs := sortOwn w0.heap.size ys.length _ (ys.map Deed.from_) wr (by omega) hor
      have Hys := Lib.hid hys
      clear hys
      go_wp2_with (fail)
      refine hs.mono ?_
      clear hs
      rintro e w2 ⟨rfl, ho2, hg2⟩
      have hc := compactOwn w0.heap.size ys.length _ ((ys.map Deed.from_).mergeSort fun x y => decide (x ≤ y)) w2 (by omega) ho2
      go_wp2_with (fail)
      refine hc.mono ?_
      clear hc
      rintro e w3 ⟨v', rfl, ho3, hg3, hbl⟩
      go_wp2_with (fail)
      go_ret
      have hB2 := below_of_grown hB (Nat.le_refl _) hg2 (own_ge' hor)
      have hB3 := below_of_grown hB2 (Nat.le_refl _) hg3 (own_ge' ho2)
      refine ⟨v', rfl, ?_, hB0.trans (hB3.mono hB0.size)⟩
      have he : claimedD xs hour = Lib.compact ((ys.map Deed.from_).mergeSort fun x y => decide (x ≤ y)) := by
        rw [sortI_merge, Hys.out]; rfl
      rw [he]
      exact ownsRow_base_a ho3 hB0.size

end Go.Proofs.YtmeomhojbobpbaaGreatDoor

/-
  Walk: whether a question's package and party are right ((claim.pack).right).
-/
namespace Go.Proofs.YtmeomhojbobpbaaGreatDoor
open Go.RowKit Lg Go.Sort Go.Shelf

/-- A package as a value. -/
abbrev aPk (lo pa ow dl : Int) : Value := .agg #[.int .i64 lo, .int .i64 pa, .int .i64 ow, .int .i64 dl]

set_option maxRecDepth 100000 in
set_option maxHeartbeats 3200000 in
theorem right_any (lo pa ow dl party : Int) (w : World) : Calls Tryz.prog 126 #[aPk lo pa ow dl, .int .i64 party] w (Gives w (.int .i64 (rightD lo pa ow dl party))) := by
  have hin := fun a b c W => within5_any a b c W
  have hB : RowKit.Below w.heap.size w (w.alloc (.cells #[.int .i64 lo, .int .i64 pa, .int .i64 ow, .int .i64 dl] 110)) := (Below.refl _ w).alloc (Nat.le_refl _) _
  rcases Bool.eq_false_or_eq_true (inn lo 1 20) with p1 | p1
  · rcases Bool.eq_false_or_eq_true (inn pa 1 200) with p2 | p2
    · rcases Bool.eq_false_or_eq_true (inn ow 1 40) with p3 | p3
      · by_cases h4 : -1 ≤ dl
        · have d4 : decide (-1 ≤ dl) = true := decide_eq_true h4
          rcases Bool.eq_false_or_eq_true (inn party 0 40) with p5 | p5
          all_goals
            go_enter Tryz.func126, Tryz.ntmps126
            go_wp2_with (first | (go_at_call 71; refine (hin _ _ _ _).mono ?_; rintro e w3 ⟨rfl, rfl⟩) | fail)
            go_ret
            exact ⟨ret_int (by simp [rightD, p1, p2, p3, p5, h4]), hB⟩
        · have d4 : decide (-1 ≤ dl) = false := decide_eq_false h4
          go_enter Tryz.func126, Tryz.ntmps126
          go_wp2_with (first | (go_at_call 71; refine (hin _ _ _ _).mono ?_; rintro e w3 ⟨rfl, rfl⟩) | fail)
          go_ret
          exact ⟨ret_int (by simp [rightD]; intros; omega), hB⟩
      · go_enter Tryz.func126, Tryz.ntmps126
        go_wp2_with (first | (go_at_call 71; refine (hin _ _ _ _).mono ?_; rintro e w3 ⟨rfl, rfl⟩) | fail)
        go_ret
        exact ⟨ret_int (by simp [rightD, p3]), hB⟩
    · go_enter Tryz.func126, Tryz.ntmps126
      go_wp2_with (first | (go_at_call 71; refine (hin _ _ _ _).mono ?_; rintro e w3 ⟨rfl, rfl⟩) | fail)
      go_ret
      exact ⟨ret_int (by simp [rightD, p2]), hB⟩
  · go_enter Tryz.func126, Tryz.ntmps126
    go_wp2_with (first | (go_at_call 71; refine (hin _ _ _ _).mono ?_; rintro e w3 ⟨rfl, rfl⟩) | fail)
    go_ret
    exact ⟨ret_int (by simp [rightD, p1]), hB⟩

end Go.Proofs.YtmeomhojbobpbaaGreatDoor
