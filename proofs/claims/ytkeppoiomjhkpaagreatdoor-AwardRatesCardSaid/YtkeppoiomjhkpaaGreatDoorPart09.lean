import Derived.Test.YtkeppoiomjhkpaaGreatDoorPart08
import Derived.Test.YtkeppoiomjhkpaaGreatDoorPart07
import Derived.Deep.RegionHeld3
import Derived.Deep.AppendLies
import Derived.Sort.OwnSortedInts
import Derived.Lib.OwnBridge
import Derived.Test.YtkeppoiomjhkpaaGreatDoorPart03
import Derived.Maps.OwnOps
import Derived.Maps.OwnSet
import Derived.Lib.SlKeysI
import Derived.Test.YtkeppoiomjhkpaaGreatDoorPart01
import Derived.Laws.OwnMore
/-
  Walk: the first record that is refused.
-/
namespace Go.Proofs.YtkeppoiomjhkpaaGreatDoor
open Go.RowKit Lg Go.Sort Go.Shelf

set_option maxRecDepth 100000 in
set_option maxHeartbeats 1600000 in
theorem checkRates_any (a : Option Addr) (n cap : Nat) (xs : List Rate) (w : World) (hL : Lst w 9 cR a n cap xs) :
    Calls Tryz.prog 19 #[.slice a n cap] w (Gives w (.tuple #[.int .i64 (checkRates xs).1, .int .i64 (checkRates xs).2])) := by
  have hm : cap ≤ 9223372036854775807 := by have := hL.max; unfold maxLen at this; omega
  have hle := hL.le
  have hlen := Lib.hid hL.len
  go_enter Tryz.func19, Tryz.ntmps19
  go_wp2
  go_loopw [9] (fun i wr => ∃ k : Nat, k ≤ n ∧ i = .int .i64 k ∧ Below w.heap.size w wr ∧ checkRates xs = chkFrom followsR (xs.take k) (xs.drop k)) (fun i _ => n - (intOf i).toNat)
  case atStart => exact ⟨0, Nat.zero_le _, rfl, Below.refl _ _, rfl⟩
  case round =>
    obtain ⟨k, hk, rfl, hB, h0⟩ := hrel
    by_cases hlt : k < n
    · obtain ⟨x, hx⟩ : ∃ x, xs[k]? = some x := ⟨xs[k]'(by rw [hlen.out]; exact hlt), by simp⟩
      obtain ⟨b, off, rfl, hb, hr⟩ := hL.at_ k x hx
      have hr' := rangeAt_below hB hb hr
      have hL2 := (hL.below hB).take k hk
      have hdrop : xs.drop k = x :: xs.drop (k + 1) := by
        obtain ⟨h1, h2⟩ := List.getElem?_eq_some_iff.1 hx
        rw [← h2, List.drop_eq_getElem_cons h1]
      have htake : xs.take (k + 1) = xs.take k ++ [x] := by
        obtain ⟨h1, h2⟩ := List.getElem?_eq_some_iff.1 hx
        rw [List.take_succ_eq_append_getElem h1, h2]
      have hlt2 : (xs.take k).length = k := by rw [List.length_take, hlen.out]; omega
      obtain ⟨v, hv⟩ : ∃ v, v = followsR (xs.take k) x := ⟨_, rfl⟩
      have hf := fun W hW => followsR_any (some ⟨b, off, none⟩) k k (xs.take k) x W hW
      rw [← hv] at hf
      have hstep : checkRates xs = if v = 0 then chkFrom followsR (xs.take (k + 1)) (xs.drop (k + 1)) else ((k : Int), v) := by
        rw [h0, hdrop, chkFrom, ← hv, htake, hlt2]
      have Hs := Lib.hid hstep; clear hstep h0 hdrop htake hv hx
      obtain ⟨A, hA⟩ : ∃ A, A = wr.alloc (.cells #[.int .i64 x.id, .int .i64 x.known, .int .i64 x.from_, .string x.goods, .int .i64 x.finder.num, .int .i64 x.finder.den, .int .i64 x.cart, .int .i64 x.store, .int .i64 x.of_] 43) := ⟨_, rfl⟩
      have kA : Blk A wr.heap.size #[.int .i64 x.id, .int .i64 x.known, .int .i64 x.from_, .string x.goods, .int .i64 x.finder.num, .int .i64 x.finder.den, .int .i64 x.cart, .int .i64 x.store, .int .i64 x.of_] 43 := hA ▸ Blk.new _ _ _
      have hBA : RowKit.Below w.heap.size w A := hA ▸ hB.alloc hB.size _
      have hLA := hL2.below (hA ▸ (Below.refl _ wr).alloc (Nat.le_refl _) _ : RowKit.Below wr.heap.size wr A)
      have cA := box_regrown hA
      have cF := regrown_call (w := A) (v := .int .i64 v) (fun W' hW' => hf W' (hLA.below hW'))
      go_wp2_with (refine wpList_load_mid rfl 43 _ rfl b (off + k * 9) rfl (cR x) _ hr' Tryz.underlying43 rfl (by kernel_rfl) ?_)
      rw [← hA]; clear hA
      refine wp_region_quiet_below (by kernel_rfl) (by kernel_rfl) ?_
      repeat (go_big_quiet_step (exact cF _ _))
      refine wpQuiet_nil ?_
      intro _ hw'
      obtain ⟨⟨dq, osq⟩, hw''⟩ := hw'
      subst hw''
      have hBn := hBA.trans ((below_regrown A dq osq).mono hBA.size)
      clear cA cF
      by_cases hv0 : v = 0
      · subst hv0
        have hs2 := Hs.out
        rw [if_pos rfl] at hs2
        have Hs2 := Lib.hid hs2; clear hs2
        go_wp2
        go_roundw
        case rel => exact ⟨k + 1, by omega, by go_num, hBn, Hs2.out⟩
        case measure => simp [intOf]; omega
      · have hs2 := Hs.out
        rw [if_neg hv0] at hs2
        have Hs2 := Lib.hid hs2; clear hs2
        have g0 : (v != 0) = true := by simpa using hv0
        go_wp2
        go_ret2
        exact ⟨by rw [Hs2.out]; rfl, hBn⟩
    · obtain rfl : k = n := by omega
      have hs2 : checkRates xs = (0, 0) := by rw [h0, List.drop_of_length_le (by rw [hlen.out]; exact Nat.le_refl _)]; rfl
      have Hs2 := Lib.hid hs2; clear hs2 h0
      go_wp2
      go_ret2
      exact ⟨by rw [Hs2.out]; rfl, hB⟩

end Go.Proofs.YtkeppoiomjhkpaaGreatDoor

/-
  Walk: a list with one more record.
-/
namespace Go.Proofs.YtkeppoiomjhkpaaGreatDoor
open Go.RowKit Lg Go.Sort Go.Shelf

/-- A call hands back a new list, and a number. -/
def GivesL {α : Type} (w : World) (e : TypeId) (k : Nat) (enc : α → List Value) (xs : List α) (m : Int) (en : Ending) (w' : World) : Prop :=
  ∃ v, en = .returned (.tuple #[v, .int .i64 m]) ∧ w'.ownsRow w.heap.size e k v xs.length (xs.flatMap enc) ∧ RowKit.Below w.heap.size w w'

theorem GivesL.nil {α : Type} {w w' : World} {e : TypeId} {k : Nat} {enc : α → List Value} {m : Int} (h : RowKit.Below w.heap.size w w') : GivesL w e k enc ([] : List α) m (.returned (.tuple #[.slice none 0 0, .int .i64 m])) w' :=
  ⟨_, rfl, ⟨by simp, .inl ⟨rfl, rfl⟩⟩, h⟩

/-- What stays through the last statement of AppendRate. -/
def ApS (w : World) (x : Rate) (w' : World) : Prop := Blk w' w.heap.size #[.int .i64 x.id, .int .i64 x.known, .int .i64 x.from_, .string x.goods, .int .i64 x.finder.num, .int .i64 x.finder.den, .int .i64 x.cart, .int .i64 x.store, .int .i64 x.of_] 43 ∧ RowKit.Below w.heap.size w w'

theorem ApS.all {w W W' : World} {x : Rate} (h : ApS w x W) (hb : RowKit.Below W.heap.size W W') : (∀ j, W'.cell? ⟨w.heap.size, j, none⟩ = #[.int .i64 x.id, .int .i64 x.known, .int .i64 x.from_, .string x.goods, .int .i64 x.finder.num, .int .i64 x.finder.den, .int .i64 x.cart, .int .i64 x.store, .int .i64 x.of_][j]?) ∧ ApS w x W' :=
  ⟨(h.1.below' hb).cell, h.1.below' hb, h.2.trans (hb.mono h.2.size)⟩

theorem own_ge {W : World} {base : Nat} {e : TypeId} {k : Nat} {v : Value} {n : Nat} {xs : List Value} (h : W.ownsRow base e k v n xs) : ∀ r, v.ownBlock = some r → base ≤ r := by
  rintro r hr
  obtain ⟨_, ⟨rfl, _⟩ | ⟨g, cap, cur, rfl, hb, _⟩⟩ := h
  · cases hr
  · cases hr; exact hb

theorem ApS.grown {w W W' : World} {x : Rate} {row : Option Nat} (h : ApS w x W) (hg : W.grownBy W' row) (hr : ∀ r, row = some r → w.heap.size < r) : (∀ j, W'.cell? ⟨w.heap.size, j, none⟩ = #[.int .i64 x.id, .int .i64 x.known, .int .i64 x.from_, .string x.goods, .int .i64 x.finder.num, .int .i64 x.finder.den, .int .i64 x.cart, .int .i64 x.store, .int .i64 x.of_][j]?) ∧ ApS w x W' := by
  have h1 := h.1.kept hg (fun e => Nat.lt_irrefl _ (hr _ e.symm))
  exact ⟨h1.cell, h1, h.2.grown hg h.2.size (fun k e => Nat.le_of_lt (hr k e))⟩

theorem ap_base1 {w3 w4 : World} (h : RowKit.Below w3.drew.heap.size w3.drew w4) (o : Obj) : w3.heap.size ≤ (w4.alloc o).heap.size := by
  have := h.size; rw [World.size_alloc]; exact Nat.le_succ_of_le this
theorem ap_lt {w w3 : World} (h : w.heap.size < w3.heap.size) (o : Obj) : w.heap.size < (w3.alloc o).drew.heap.size := by
  have e : (w3.alloc o).drew.heap.size = w3.heap.size + 1 := World.size_alloc w3 o
  omega
theorem ap_base2 {w3 w4 : World} {o : Obj} (h : RowKit.Below (w3.alloc o).drew.heap.size (w3.alloc o).drew w4) : w3.heap.size ≤ w4.heap.size := by
  have := h.size
  have e : (w3.alloc o).drew.heap.size = w3.heap.size + 1 := World.size_alloc w3 o
  omega

set_option maxRecDepth 100000 in
set_option maxHeartbeats 1600000 in
theorem appendRate_any (a : Option Addr) (n cap : Nat) (xs : List Rate) (x : Rate) (w : World) (hA : Plain a) (hL : Lst w 9 cR a n cap xs) :
    Calls Tryz.prog 21 #[.slice a n cap, aR x] w (GivesL w 43 9 cR (appendRate xs x).1 (appendRate xs x).2) := by
  obtain ⟨r, hr⟩ : ∃ r, r = appendRate xs x := ⟨_, rfl⟩
  rw [← hr]
  obtain ⟨c, hc⟩ : ∃ c, c = checkRates xs := ⟨_, rfl⟩
  obtain ⟨f, hf⟩ : ∃ f, f = followsR xs x := ⟨_, rfl⟩
  have hcr := fun W hW => checkRates_any a n cap xs W hW
  have hfr := fun W hW => followsR_any a n cap xs x W hW
  have hlim : f = 0 → n ≤ 1000 := by
    intro h0; rw [hf, followsR_eq] at h0
    by_cases h : 100 ≤ xs.length
    · rw [if_pos h] at h0; cases h0
    · rw [hL.len] at h; omega
  rw [← hc] at hcr
  rw [← hf] at hfr
  have Hr : Hid (r = if c.2 = 0 then (if f = 0 then (xs ++ [x], 0) else ([], f)) else ([], c.2)) := Lib.hid (by rw [hr, hc, hf]; rfl)
  clear hr hc hf
  obtain ⟨c1, c2⟩ := c
  have hB1 : RowKit.Below w.heap.size w (w.alloc (.cells #[.int .i64 x.id, .int .i64 x.known, .int .i64 x.from_, .string x.goods, .int .i64 x.finder.num, .int .i64 x.finder.den, .int .i64 x.cart, .int .i64 x.store, .int .i64 x.of_] 43)) := (Below.refl _ w).alloc (Nat.le_refl _) _
  have hcr1 := hcr _ (hL.below hB1)
  clear hcr
  go_enter Tryz.func21, Tryz.ntmps21
  go_wp2_with (fail)
  refine hcr1.mono ?_
  clear hcr1
  rintro e w2 ⟨rfl, hB2⟩
  have k2 : Blk w2 w.heap.size #[.int .i64 x.id, .int .i64 x.known, .int .i64 x.from_, .string x.goods, .int .i64 x.finder.num, .int .i64 x.finder.den, .int .i64 x.cart, .int .i64 x.store, .int .i64 x.of_] 43 := (Blk.new w _ _).below' hB2
  have hb2 : RowKit.Below w.heap.size w w2 := hB1.trans (hB2.mono hB1.size)
  have e2 := k2.cell
  by_cases hv0 : c2 = 0
  · subst hv0
    go_wp2_with (fail)
    refine (hfr w2 (hL.below hb2)).mono ?_
    clear hfr
    rintro e w3 ⟨rfl, hB3⟩
    have k3 := k2.below' hB3
    have hb3 := hb2.trans (hB3.mono hb2.size)
    clear e2
    have e3 := k3.cell
    by_cases hf0 : f = 0
    · have hn := hlim hf0
      subst hf0
      go_wp2_with (fail)
      have hL3 := hL.below hb3
      obtain ⟨i0, hi0, hz0, hz1, hz2⟩ := info_parts infoR
      have hS3 : ApS w x w3 := ⟨k3, hb3⟩
      have hlt3 := k3.lt
      clear e3
      go_region_held3 (fun w' => (∀ j, w'.cell? ⟨w.heap.size, j, none⟩ = #[.int .i64 x.id, .int .i64 x.known, .int .i64 x.from_, .string x.goods, .int .i64 x.finder.num, .int .i64 x.finder.den, .int .i64 x.cart, .int .i64 x.store, .int .i64 x.of_][j]?) ∧ ApS w x w')
        (first
          | exact ApS.all hS3 (Below.refl _ _).drew
          | exact ApS.all hS3 ((Below.refl _ w3).drew.trans hBc)
          | exact ApS.all hS3 (((Below.refl _ w3).alloc (Nat.le_refl _) _).drew)
          | exact ApS.all hS3 ((((Below.refl _ w3).alloc (Nat.le_refl _) _).drew).trans (hBc.mono (by simp)))
          | exact ApS.all hS3 (((Below.refl _ w3).drew.trans hBc).alloc hBc.size _)
          | exact ApS.grown ((ApS.all hS3 (((Below.refl _ w3).drew.trans hBc).alloc hBc.size _)).2) hgrow (fun r e => Nat.lt_of_lt_of_le hlt3 (own_ge ho r e))
          | exact ApS.grown ((ApS.all hS3 ((((Below.refl _ w3).alloc (Nat.le_refl _) _).drew).trans (hBc.mono (by simp)))).2) hgrow (fun r e => Nat.lt_of_lt_of_le (ap_lt hlt3 _) (own_ge ho r e))
          | fail)
        (first
          | (go_at_call 59; refine (cloneR_any a n cap xs _ hA hn (by first | exact hL3.below (Below.refl _ _).drew | exact hL3.below ((Below.refl _ w3).alloc (Nat.le_refl _) _).drew)).mono ?_; rintro e w4 ⟨v4, rfl, ho, hBc⟩)
          | (refine step_append_lies _ (by rfl) _ _ _ (by rfl) w3.heap.size 43 i0 _ 9 80 Tryz.underlying39 hi0 hz0 hz1 hz2 rfl (by omega) v4 n (xs.flatMap cR) (by rfl) (ho.alloc _)
              ⟨w4.heap.size, 0, none⟩ 1 1 (cR x) (by rfl) (by rfl) (World.news_of_block (cs := (cR x).toArray) (t := 43) (fr := (0, 0)) (heap_alloc_new w4 _)) (cR_one x)
              (by omega) (by unfold maxLen; omega) (by omega) (ap_base1 hBc _) (w4.heap.size + 1) (by simp) ?_; intro gg cap1 w5 hown5 hgrow hat hlt)
          | (refine step_append_lies _ (by rfl) _ _ _ (by rfl) w3.heap.size 43 i0 _ 9 80 Tryz.underlying39 hi0 hz0 hz1 hz2 rfl (by omega) v4 n (xs.flatMap cR) (by rfl) (ownsRow_base_a ho (by simp))
              ⟨w3.heap.size, 0, none⟩ 1 1 (cR x) (by rfl) (by rfl) (World.news_of_block ((Blk.drew (Blk.new w3 43 (cR x).toArray)).below' hBc)) (cR_one x)
              (by omega) (by unfold maxLen; omega) (by omega) (ap_base2 hBc) _ rfl ?_; intro gg cap1 w5 hown5 hgrow hat hlt)
          | fail)
      · have hf := (ApS.grown ((ApS.all hS3 (((Below.refl _ w3).drew.trans hBc).alloc hBc.size _)).2) hgrow (fun r e => Nat.lt_of_lt_of_le hlt3 (own_ge ho r e))).2.2
        go_wp2_with (fail)
        go_ret2
        have e := Hr.out
        simp only [if_true] at e
        rw [e]
        refine ⟨_, rfl, ?_, hf⟩
        rw [List.length_append, hL.len, List.flatMap_append, List.flatMap_singleton]
        exact ownsRow_base_a hown5 (Nat.le_of_lt hlt3)
      · have hf := (ApS.grown ((ApS.all hS3 ((((Below.refl _ w3).alloc (Nat.le_refl _) _).drew).trans (hBc.mono (by simp)))).2) hgrow (fun r e => Nat.lt_of_lt_of_le (ap_lt hlt3 _) (own_ge ho r e))).2.2
        go_wp2_with (fail)
        go_ret2
        have e := Hr.out
        simp only [if_true] at e
        rw [e]
        refine ⟨_, rfl, ?_, hf⟩
        rw [List.length_append, hL.len, List.flatMap_append, List.flatMap_singleton]
        exact ownsRow_base_a hown5 (Nat.le_of_lt hlt3)
    · have g0 : (f != 0) = true := by simpa using hf0
      have Hf0 := Lib.hid hf0; clear hf0
      go_wp2_with (fail)
      go_ret2
      have e := Hr.out
      simp only [if_true, if_neg Hf0.out] at e
      rw [e]
      exact GivesL.nil hb3
  · have g0 : (c2 != 0) = true := by simpa using hv0
    have Hv0 := Lib.hid hv0; clear hv0
    go_wp2_with (fail)
    go_ret2
    have e := Hr.out
    rw [if_neg Hv0.out] at e
    rw [e]
    exact GivesL.nil hb2

end Go.Proofs.YtkeppoiomjhkpaaGreatDoor

/-
  Sorting and compacting a row of the call's own.
-/
namespace Go.Proofs.YtkeppoiomjhkpaaGreatDoor
open Go.RowKit Lg Go.Sort Go.Shelf

theorem flat_int (zs : List Int) : zs.flatMap cI = zs.map (Value.int .i64) := by
  induction zs with
  | nil => rfl
  | cons z zs ih => rw [List.flatMap_cons, ih]; rfl

theorem grownBy_putRow {enc : Int → Value} {w : World} {g q : Nat} {d : Array Int} : w.grownBy (putRow enc (Sort.ahead w q) g 0 d) (some g) := by
  refine ⟨rfl, rfl, rfl, by simp, fun k hk hne => ?_⟩
  have : g ≠ k := fun e => hne (by rw [e])
  simp [putRow, mapBlock, Sort.ahead, Array.getElem?_modify, this]

theorem below_of_grown {n : Nat} {w w' W : World} {row : Option Nat} (h : RowKit.Below n W w) (hn : n ≤ W.heap.size) (hg : w.grownBy w' row) (hr : ∀ r, row = some r → n ≤ r) : RowKit.Below n W w' :=
  h.grown hg (Nat.le_trans hn h.size) (fun k e => hr k e)

theorem sortOwn (base n : Nat) (v : Value) (zs : List Int) (w : World) (hn : n ≤ 1000000) (ho : w.ownsRow base 3 1 v n (zs.map (Value.int .i64))) :
    Calls Tryz.prog 97 #[v] w fun e w' => e = .returned (.tuple #[]) ∧ w'.ownsRow base 3 1 v n ((zs.mergeSort fun x y => decide (x ≤ y)).map (Value.int .i64)) ∧ w.grownBy w' v.ownBlock := by
  have hl : zs.length = n := by simpa using ho.1
  obtain ⟨h0, ⟨rfl, rfl⟩ | ⟨g, cap, cur, rfl, hb, hg, hnc, hcm, hcur, htk⟩⟩ := ho
  · have : zs = [] := List.eq_nil_of_length_eq_zero hl
    subst this
    refine (Tryz.slices_Sort_int_none none 0 w).mono ?_
    rintro e w' ⟨rfl, rfl⟩
    exact ⟨rfl, ⟨by simp, .inl ⟨rfl, rfl⟩⟩, ⟨rfl, rfl, rfl, Nat.le_refl _, fun _ _ _ => rfl⟩⟩
  · obtain ⟨g', cap', hv, hb', hgl, _, _, _, hH⟩ := Lib.holds_of_ownsRow (enc := Value.int .i64) ⟨h0, .inr ⟨g, cap, cur, rfl, hb, hg, hnc, hcm, hcur, htk⟩⟩ (by simp)
    cases hv
    have hs := Tryz.slices_Sort_int g 0 cap zs w hH hgl (by omega)
    rw [hl] at hs
    refine hs.mono ?_
    rintro e w' ⟨rfl, nn, os, rfl⟩
    have ht : (zs.mergeSort fun x y => decide (x ≤ y)).length = zs.length := List.length_mergeSort zs
    have := ownsRow_sortedI (n := nn) (os := os) ht hb hg (by omega) hcm hcur
    rw [hl] at this
    exact ⟨rfl, this, grownBy_sortedI _⟩

theorem compactOwn (base n : Nat) (v : Value) (zs : List Int) (w : World) (hn : n ≤ 1000000) (ho : w.ownsRow base 3 1 v n (zs.map (Value.int .i64))) :
    Calls Tryz.prog 98 #[v] w fun e w' => ∃ v', e = .returned v' ∧ w'.ownsRow base 3 1 v' (Lib.compact zs).length ((Lib.compact zs).map (Value.int .i64)) ∧ w.grownBy w' v.ownBlock ∧ v'.ownBlock = v.ownBlock := by
  have hl : zs.length = n := by simpa using ho.1
  have ho' := ho
  obtain ⟨h0, ⟨rfl, rfl⟩ | ⟨g, cap, cur, rfl, hb, hg, hnc, hcm, hcur, htk⟩⟩ := ho
  · have : zs = [] := List.eq_nil_of_length_eq_zero hl
    subst this
    refine (Tryz.slices_Compact_int_empty none 0 w).mono ?_
    rintro e w' ⟨rfl, rfl⟩
    exact ⟨_, rfl, ⟨rfl, .inl ⟨rfl, rfl⟩⟩, ⟨rfl, rfl, rfl, Nat.le_refl _, fun _ _ _ => rfl⟩, rfl⟩
  · obtain ⟨g', cap', hv, hb', hgl, _, _, _, hH⟩ := Lib.holds_of_ownsRow ho' (by simp)
    cases hv
    have hle := Lib.compact_length_le zs
    have hs := Tryz.slices_Compact_int g 0 cap zs w hH (by omega) (by omega)
    rw [hl] at hs
    refine hs.mono ?_
    rintro e w' ⟨rfl, q, rfl⟩
    have hc := Lib.ownsRow_putRow (q := q) (k := (Lib.compact zs).length) (ys := Lib.compact zs ++ List.replicate (n - (Lib.compact zs).length) 0) ho' (by simp; omega) (by omega)
    rw [List.take_left] at hc
    exact ⟨_, rfl, hc, grownBy_putRow, rfl⟩

end Go.Proofs.YtkeppoiomjhkpaaGreatDoor

/-
  Walk: the sums of shares, in a map of the call's own.
-/
namespace Go.Proofs.YtkeppoiomjhkpaaGreatDoor
open Go.RowKit Lg Go.Sort Go.Shelf Go.Maps

/-- The map holds just the numbers of f that are not 0. -/
def MapF (D : DataW Unit) (f : Int → Int) : Prop :=
  IsMap D ∧ ∀ k : Int, D.atKey (.int .i64 k) (.lit (.int .i64 0)) = .lit (.int .i64 (f k)) ∧ has D (.int .i64 k) = decide (f k ≠ 0)

def upd (f : Int → Int) (p v : Int) : Int → Int := fun q => if q = p then v else f q

theorem isKeyI (k : Int) : WideAt.IsKeyLit (.int .i64 k) := trivial
theorem MapF.put {D : DataW Unit} {f : Int → Int} (h : MapF D f) (p v : Int) (hv : v ≠ 0) : MapF (D.put (.int .i64 p) (.lit (.int .i64 v))) (upd f p v) := by
  refine ⟨h.1.put _ _, fun k => ?_⟩
  unfold upd
  by_cases hk : k = p
  · subst hk
    rw [atKey_put_same h.1 (isKeyI _), has_put_same h.1 (isKeyI _), if_pos rfl]
    exact ⟨rfl, by simp [hv]⟩
  · have hne : (Lit.int .i64 k) ≠ .int .i64 p := by simpa using hk
    rw [atKey_put_other hne, has_put_other hne, if_neg hk]
    exact h.2 k

theorem MapF.del {D : DataW Unit} {f : Int → Int} (h : MapF D f) (p : Int) (d : DataW Unit) : MapF ((D.put (.int .i64 p) d).del (.int .i64 p)) (upd f p 0) := by
  refine ⟨?_, fun k => ?_⟩
  · obtain ⟨es, rfl⟩ := h.1; exact ⟨_, rfl⟩
  unfold upd
  by_cases hk : k = p
  · subst hk
    rw [atKey_del_same, has_del_same, if_pos rfl]
    exact ⟨rfl, by simp⟩
  · have hne : (Lit.int .i64 k) ≠ .int .i64 p := by simpa using hk
    rw [atKey_del_other hne, has_del_other hne, atKey_put_other hne, has_put_other hne, if_neg hk]
    exact h.2 k

theorem MapF.congr {D : DataW Unit} {f g : Int → Int} (h : MapF D f) (e : ∀ p, f p = g p) : MapF D g := by
  rw [show g = f from funext fun p => (e p).symm]; exact h

theorem MapF.empty : MapF (.map []) (fun _ => 0) := ⟨⟨[], rfl⟩, fun _k => ⟨rfl, rfl⟩⟩

theorem lawI : Keyed Tryz.prog 3 := int_keyed Tryz.underlying3
theorem zeroI (w : World) : (zeroValue 3).run Tryz.prog w = .ok (.int .i64 0) w := by kernel_rfl

/-- What a map of the call's own holds. -/
def OwnM (b n : Nat) (f : Int → Int) (w : World) : Prop := ∃ D : DataW Unit, w.ownsMap Tryz.prog 3 (plainElem Tryz.prog 3) b n D ∧ MapF D f

theorem key_small (k : Int) (h : 0 ≤ k ∧ k ≤ 40) : keyOf Tryz.prog 3 (.int .i64 k) = some (.int .i64 k) := keyOf_int_mk Tryz.underlying3 (WalkArith.wf_i64 (by omega))

set_option maxRecDepth 100000 in
/-- A look-up whose answer is known. -/
theorem wpList_lookup_known (w : World) {ops : Array Oper} {rest : List Oper} {o : Oper} {a : Act} {Q : Exit → Act → World → Prop} (hg : o.guard = none) (m x : Operand) (hop : o.op = Op.lookup 122 m x false)
    (b n : Nat) (D : DataW Unit) (hm : a.eval m = .map (some b)) (hown : w.ownsMap Tryz.prog 3 (plainElem Tryz.prog 3) b n D) (key : Value) (kl : Lit) (hx : a.eval x = key) (hkey : keyOf Tryz.prog 3 key = some kl)
    (c : Int) (hat : D.atKey kl (.lit (.int .i64 0)) = .lit (.int .i64 c)) (h : wpList Tryz.prog ops Q rest (a.put o.dst (.int .i64 c)) w) : wpList Tryz.prog ops Q (o :: rest) a w :=
  wpList_lookup_own_int w hg m x 122 hop 3 3 .i64 lawI Tryz.underlying122 Tryz.underlying3 (zeroI _) b n D hm hown key kl hx hkey fun c' h' _ => by
    rw [hat] at h'
    have : c = c' := by injection h' with h'; injection h'
    subst this
    exact h

set_option maxRecDepth 100000 in
set_option maxHeartbeats 1600000 in
theorem sums1_any (a : Option Addr) (n cap : Nat) (xs : List Share) (b nn : Nat) (f : Int → Int) (w : World) (hn : n ≤ 1100) (hnn : nn ≤ 1100) (ho : OwnM b nn f w)
    (hL : ∀ W', RowKit.Below b w W' → Lst W' 2 cSh a n cap xs) (hx : ∀ x ∈ xs, 0 ≤ x.party ∧ x.party ≤ 40 ∧ -1000000000 ≤ x.pence ∧ x.pence ≤ 1000000000) (hf : ∀ p, -2000000000000 ≤ f p ∧ f p ≤ 2000000000000) :
    Calls Tryz.prog 78 #[.slice a n cap, .int .i64 1, .map (some b)] w fun e w' => e = .returned (.map (some b)) ∧ OwnM b (nn + n) (fun p => f p + 1 * sumP xs p) w' ∧ RowKit.Below b w w' := by
  have hL0 := hL w (Below.refl _ _)
  have hlen := Lib.hid hL0.len
  have hm : cap ≤ 9223372036854775807 := by have := hL0.max; unfold maxLen at this; omega
  have hle := hL0.le
  clear hL0
  have hbl0 : b < w.heap.size := by obtain ⟨D, h, _⟩ := ho; exact h.lt
  · go_enter Tryz.func78, Tryz.ntmps78
    go_wp2
    go_loopw [11] (fun i wr => ∃ k : Nat, k ≤ n ∧ i = .int .i64 k ∧ OwnM b (nn + k) (fun p => f p + 1 * sumP (xs.take k) p) wr ∧ RowKit.Below b w wr ∧ b < wr.heap.size) (fun i _ => n - (intOf i).toNat)
    case atStart =>
      obtain ⟨D, h1, h2⟩ := ho
      exact ⟨0, Nat.zero_le _, rfl, ⟨D, h1, h2.congr (fun p => by simp [sumP])⟩, Below.refl _ _, h1.lt⟩
    case round =>
      obtain ⟨k, hk, rfl, ⟨D, hown, hMF⟩, hB, hbl⟩ := hrel
      by_cases hlt : k < n
      · obtain ⟨x, hxk⟩ : ∃ x, xs[k]? = some x := ⟨xs[k]'(by rw [hlen.out]; exact hlt), by simp⟩
        obtain ⟨bb, off, rfl, hbb, hr⟩ := (hL wr hB).at_ k x hxk
        obtain ⟨hx1, hx2, hx3, hx4⟩ := hx x (List.mem_of_getElem? hxk)
        have hkey := key_small x.party ⟨hx1, hx2⟩
        have htk : ∀ p, sumP (xs.take (k + 1)) p = sumP (xs.take k) p + (if x.party = p then x.pence else 0) := fun p => by
          obtain ⟨h1, h2⟩ := List.getElem?_eq_some_iff.1 hxk
          rw [List.take_succ_eq_append_getElem h1, h2, sumP_append]
          simp [sumP]
        have hsb := sumP_bound (xs.take k) x.party 1000000000 (by omega) (fun y hy => (hx y (List.mem_of_mem_take hy)).2.2)
        have hlk : (xs.take k).length ≤ 1100 := Nat.le_trans (List.length_take_le _ _) (by omega)
        have hfb := hf x.party
        obtain ⟨c, hc⟩ : ∃ c, c = f x.party + 1 * sumP (xs.take k) x.party := ⟨_, rfl⟩
        have hcb : -4000000000000 ≤ c ∧ c ≤ 4000000000000 := by omega
        obtain ⟨hcb1, hcb2⟩ := hcb
        have hat0 : D.atKey (.int .i64 x.party) (.lit (.int .i64 0)) = .lit (.int .i64 c) := by rw [hc]; exact (hMF.2 x.party).1
        have Hat := Lib.hid hat0
        have HM := Lib.hid hMF
        have Hc := Lib.hid hc
        have Htk := Lib.hid htk
        have Hxk := Lib.hid hxk
        clear hsb hlk hfb hat0 hMF hc htk hxk
        have hown' : (wr.alloc (.cells #[.int .i64 x.party, .int .i64 x.pence] 76)).ownsMap Tryz.prog 3 (plainElem Tryz.prog 3) b (nn + k) D := hown.alloc _
        go_wp2_with (first
          | (refine wpList_load_mid rfl 76 _ rfl bb (off + k * 2) rfl (cSh x) _ hr Tryz.underlying76 rfl (by kernel_rfl) ?_)
          | (at_lookup; refine wpList_lookup_known _ rfl _ _ rfl b (nn + k) D rfl hown' _ _ rfl hkey c Hat.out ?_)
          | (at_mapUpdate; refine wpList_mapUpdate_own _ rfl _ _ _ 122 rfl 3 3 lawI Tryz.underlying122 _ b (nn + k) _ rfl hown' (by unfold maxLen; omega) _ _ _ rfl rfl hkey _ [] (plainElem_int Tryz.underlying3 (WalkArith.wf_i64 (by omega))) ?_; intro w1 hown1 hgrow1; have kx := (Blk.new wr 76 #[.int .i64 x.party, .int .i64 x.pence]).kept hgrow1 (by simp; omega); have cx := kx.cell; have hw1 := hgrow1.size)
          | (at_lookup; refine wpList_lookup_known _ rfl _ _ rfl b (nn + k + 1) _ rfl hown1 _ _ rfl hkey _ (atKey_put_same HM.out.1 (isKeyI _) _ _) ?_)
          | (at_delete; refine wpList_delete_own _ rfl _ _ 122 3 rfl 3 lawI Tryz.underlying122 _ b (nn + k + 1) _ rfl hown1 _ _ rfl hkey ?_; intro w2 hown2 hturn2)
          | fail)
        · rename_i hz
          have hz' : c + 1 * x.pence = 0 := by have h := hz; simp at h; omega
          clear hz
          go_roundw
          case rel =>
            refine ⟨k + 1, by omega, by go_num, ⟨_, hown2, (HM.out.del x.party _).congr (fun q => ?_)⟩, below_of_grown (below_of_grown (hB.alloc (Nat.le_of_lt (Nat.lt_of_lt_of_le hbl0 hB.size)) _) (Nat.le_of_lt hbl0) hgrow1 (fun r e => by cases e; exact Nat.le_refl _)) (Nat.le_of_lt hbl0) hturn2.grown (fun r e => by cases e; exact Nat.le_refl _), by have := hturn2.grown.size; simp at hw1; omega⟩
            have h1 := Htk.out q
            have h2 := Hc.out
            unfold upd
            by_cases hq : q = x.party
            · subst hq
              rw [if_pos rfl] at h1 ⊢
              (try dsimp only)
              omega
            · rw [if_neg (fun h => hq h.symm)] at h1
              rw [if_neg hq]; dsimp only; rw [h1]; omega
          case measure => simp [intOf]; omega
        · rename_i hz
          have hz' : c + 1 * x.pence ≠ 0 := by have h := hz; simp at h; omega
          clear hz
          go_roundw
          case rel =>
            refine ⟨k + 1, by omega, by go_num, ⟨_, hown1, (HM.out.put x.party _ (by omega)).congr (fun q => ?_)⟩, below_of_grown (hB.alloc (Nat.le_of_lt (Nat.lt_of_lt_of_le hbl0 hB.size)) _) (Nat.le_of_lt hbl0) hgrow1 (fun r e => by cases e; exact Nat.le_refl _), by simp at hw1; omega⟩
            have h1 := Htk.out q
            have h2 := Hc.out
            unfold upd
            by_cases hq : q = x.party
            · subst hq
              rw [if_pos rfl] at h1 ⊢
              (try dsimp only)
              omega
            · rw [if_neg (fun h => hq h.symm)] at h1
              rw [if_neg hq]; dsimp only; rw [h1]; omega
          case measure => simp [intOf]; omega
      · obtain rfl : k = n := by omega
        rw [List.take_of_length_le (by rw [hlen.out]; exact Nat.le_refl _)] at hMF
        go_wp2
        go_ret
        exact ⟨rfl, ⟨D, hown, hMF⟩, hB⟩

set_option maxRecDepth 100000 in
set_option maxHeartbeats 1600000 in
theorem sumsN_any (a : Option Addr) (n cap : Nat) (xs : List Share) (b nn : Nat) (f : Int → Int) (w : World) (hn : n ≤ 1100) (hnn : nn ≤ 1100) (ho : OwnM b nn f w)
    (hL : ∀ W', RowKit.Below b w W' → Lst W' 2 cSh a n cap xs) (hx : ∀ x ∈ xs, 0 ≤ x.party ∧ x.party ≤ 40 ∧ -1000000000 ≤ x.pence ∧ x.pence ≤ 1000000000) (hf : ∀ p, -2000000000000 ≤ f p ∧ f p ≤ 2000000000000) :
    Calls Tryz.prog 78 #[.slice a n cap, .int .i64 (-1), .map (some b)] w fun e w' => e = .returned (.map (some b)) ∧ OwnM b (nn + n) (fun p => f p + (-1) * sumP xs p) w' ∧ RowKit.Below b w w' := by
  have hL0 := hL w (Below.refl _ _)
  have hlen := Lib.hid hL0.len
  have hm : cap ≤ 9223372036854775807 := by have := hL0.max; unfold maxLen at this; omega
  have hle := hL0.le
  clear hL0
  have hbl0 : b < w.heap.size := by obtain ⟨D, h, _⟩ := ho; exact h.lt
  · go_enter Tryz.func78, Tryz.ntmps78
    go_wp2
    go_loopw [11] (fun i wr => ∃ k : Nat, k ≤ n ∧ i = .int .i64 k ∧ OwnM b (nn + k) (fun p => f p + (-1) * sumP (xs.take k) p) wr ∧ RowKit.Below b w wr ∧ b < wr.heap.size) (fun i _ => n - (intOf i).toNat)
    case atStart =>
      obtain ⟨D, h1, h2⟩ := ho
      exact ⟨0, Nat.zero_le _, rfl, ⟨D, h1, h2.congr (fun p => by simp [sumP])⟩, Below.refl _ _, h1.lt⟩
    case round =>
      obtain ⟨k, hk, rfl, ⟨D, hown, hMF⟩, hB, hbl⟩ := hrel
      by_cases hlt : k < n
      · obtain ⟨x, hxk⟩ : ∃ x, xs[k]? = some x := ⟨xs[k]'(by rw [hlen.out]; exact hlt), by simp⟩
        obtain ⟨bb, off, rfl, hbb, hr⟩ := (hL wr hB).at_ k x hxk
        obtain ⟨hx1, hx2, hx3, hx4⟩ := hx x (List.mem_of_getElem? hxk)
        have hkey := key_small x.party ⟨hx1, hx2⟩
        have htk : ∀ p, sumP (xs.take (k + 1)) p = sumP (xs.take k) p + (if x.party = p then x.pence else 0) := fun p => by
          obtain ⟨h1, h2⟩ := List.getElem?_eq_some_iff.1 hxk
          rw [List.take_succ_eq_append_getElem h1, h2, sumP_append]
          simp [sumP]
        have hsb := sumP_bound (xs.take k) x.party 1000000000 (by omega) (fun y hy => (hx y (List.mem_of_mem_take hy)).2.2)
        have hlk : (xs.take k).length ≤ 1100 := Nat.le_trans (List.length_take_le _ _) (by omega)
        have hfb := hf x.party
        obtain ⟨c, hc⟩ : ∃ c, c = f x.party + (-1) * sumP (xs.take k) x.party := ⟨_, rfl⟩
        have hcb : -4000000000000 ≤ c ∧ c ≤ 4000000000000 := by omega
        obtain ⟨hcb1, hcb2⟩ := hcb
        have hat0 : D.atKey (.int .i64 x.party) (.lit (.int .i64 0)) = .lit (.int .i64 c) := by rw [hc]; exact (hMF.2 x.party).1
        have Hat := Lib.hid hat0
        have HM := Lib.hid hMF
        have Hc := Lib.hid hc
        have Htk := Lib.hid htk
        have Hxk := Lib.hid hxk
        clear hsb hlk hfb hat0 hMF hc htk hxk
        have hown' : (wr.alloc (.cells #[.int .i64 x.party, .int .i64 x.pence] 76)).ownsMap Tryz.prog 3 (plainElem Tryz.prog 3) b (nn + k) D := hown.alloc _
        go_wp2_with (first
          | (refine wpList_load_mid rfl 76 _ rfl bb (off + k * 2) rfl (cSh x) _ hr Tryz.underlying76 rfl (by kernel_rfl) ?_)
          | (at_lookup; refine wpList_lookup_known _ rfl _ _ rfl b (nn + k) D rfl hown' _ _ rfl hkey c Hat.out ?_)
          | (at_mapUpdate; refine wpList_mapUpdate_own _ rfl _ _ _ 122 rfl 3 3 lawI Tryz.underlying122 _ b (nn + k) _ rfl hown' (by unfold maxLen; omega) _ _ _ rfl rfl hkey _ [] (plainElem_int Tryz.underlying3 (WalkArith.wf_i64 (by omega))) ?_; intro w1 hown1 hgrow1; have kx := (Blk.new wr 76 #[.int .i64 x.party, .int .i64 x.pence]).kept hgrow1 (by simp; omega); have cx := kx.cell; have hw1 := hgrow1.size)
          | (at_lookup; refine wpList_lookup_known _ rfl _ _ rfl b (nn + k + 1) _ rfl hown1 _ _ rfl hkey _ (atKey_put_same HM.out.1 (isKeyI _) _ _) ?_)
          | (at_delete; refine wpList_delete_own _ rfl _ _ 122 3 rfl 3 lawI Tryz.underlying122 _ b (nn + k + 1) _ rfl hown1 _ _ rfl hkey ?_; intro w2 hown2 hturn2)
          | fail)
        · rename_i hz
          have hz' : c + (-1) * x.pence = 0 := by have h := hz; simp at h; omega
          clear hz
          go_roundw
          case rel =>
            refine ⟨k + 1, by omega, by go_num, ⟨_, hown2, (HM.out.del x.party _).congr (fun q => ?_)⟩, below_of_grown (below_of_grown (hB.alloc (Nat.le_of_lt (Nat.lt_of_lt_of_le hbl0 hB.size)) _) (Nat.le_of_lt hbl0) hgrow1 (fun r e => by cases e; exact Nat.le_refl _)) (Nat.le_of_lt hbl0) hturn2.grown (fun r e => by cases e; exact Nat.le_refl _), by have := hturn2.grown.size; simp at hw1; omega⟩
            have h1 := Htk.out q
            have h2 := Hc.out
            unfold upd
            by_cases hq : q = x.party
            · subst hq
              rw [if_pos rfl] at h1 ⊢
              (try dsimp only)
              omega
            · rw [if_neg (fun h => hq h.symm)] at h1
              rw [if_neg hq]; dsimp only; rw [h1]; omega
          case measure => simp [intOf]; omega
        · rename_i hz
          have hz' : c + (-1) * x.pence ≠ 0 := by have h := hz; simp at h; omega
          clear hz
          go_roundw
          case rel =>
            refine ⟨k + 1, by omega, by go_num, ⟨_, hown1, (HM.out.put x.party _ (by omega)).congr (fun q => ?_)⟩, below_of_grown (hB.alloc (Nat.le_of_lt (Nat.lt_of_lt_of_le hbl0 hB.size)) _) (Nat.le_of_lt hbl0) hgrow1 (fun r e => by cases e; exact Nat.le_refl _), by simp at hw1; omega⟩
            have h1 := Htk.out q
            have h2 := Hc.out
            unfold upd
            by_cases hq : q = x.party
            · subst hq
              rw [if_pos rfl] at h1 ⊢
              (try dsimp only)
              omega
            · rw [if_neg (fun h => hq h.symm)] at h1
              rw [if_neg hq]; dsimp only; rw [h1]; omega
          case measure => simp [intOf]; omega
      · obtain rfl : k = n := by omega
        rw [List.take_of_length_le (by rw [hlen.out]; exact Nat.le_refl _)] at hMF
        go_wp2
        go_ret
        exact ⟨rfl, ⟨D, hown, hMF⟩, hB⟩

end Go.Proofs.YtkeppoiomjhkpaaGreatDoor

/-
  Walks: parties, equal parts.
-/
namespace Go.Proofs.YtkeppoiomjhkpaaGreatDoor
open Go.RowKit Lg Go.Sort Go.Shelf

theorem party1_any (p : Int) (w : World) : Calls Tryz.prog 100 #[.int .i64 p] w (Gives w (.bool (!inn p 1 40))) := by
  have hin := in6_any
  cases hq : inn p 1 40 <;>
  · have Hq := Lib.hid hq; clear hq
    have hin' : ∀ w, Calls Tryz.prog 55 #[.int .i64 p, .int .i64 1, .int .i64 40] w fun e w' => e = .returned (.bool _) ∧ w = w' := fun w => by
      have := hin p 1 40 w
      rw [Hq.out] at this
      exact this
    clear hin
    go_enter Tryz.func100, Tryz.ntmps100
    go_wp2_with (go_at_call 55; refine (hin' _).mono ?_; rintro e w3 ⟨rfl, rfl⟩)
    go_ret
    exact ⟨rfl, Below.refl _ _⟩

set_option maxRecDepth 100000 in
set_option maxHeartbeats 400000 in
theorem parties_any (a : Option Addr) (n cap : Nat) (xs : List Int) (w : World) (hL : Lst w 1 cI a n cap xs) :
    Calls Tryz.prog 69 #[.slice a n cap] w (Gives w (.bool (partiesOk xs))) := by
  have eg : ∀ args w, (callFunc 100 args).run Tryz.prog w = .ok (.enter 100 args) w := enters_of Tryz.func100 (by kernel_rfl) rfl
  have hc := contI_any (fun p => !inn p 1 40) 100 #[] eg a n cap xs w hL (fun W p _ => party1_any p W)
  have hin := in6_any (n : Int) 1 40 w
  unfold partiesOk
  rw [hL.len]
  generalize (xs.any fun p => !inn p 1 40) = q at *
  generalize inn (n : Int) 1 40 = r at *
  cases r with
  | false =>
    go_enter Tryz.func69, Tryz.ntmps69
    go_wp2_with (go_at_call 55; refine hin.mono ?_; rintro e w3 ⟨rfl, rfl⟩)
    go_ret
    exact ⟨rfl, Below.refl _ _⟩
  | true =>
    cases q <;>
    · go_enter Tryz.func69, Tryz.ntmps69
      go_wp2_with (first | (go_at_call 55; refine hin.mono ?_; rintro e w3 ⟨rfl, rfl⟩) | (go_at_call 99; refine hc.mono ?_; rintro e w4 ⟨rfl, hB⟩))
      go_ret
      exact ⟨rfl, hB⟩

/-- The cells behind k rounds. -/
def eqCells (pence : Int) (n k : Nat) : List Value := (List.range n).map fun i => .int .i64 (if i < k then eqVal pence n i else 0)

theorem eqCells_zero (pence : Int) (n : Nat) : (madeCells (Value.int .i64 0).cells (n * 1)).toList = eqCells pence n 0 := by
  unfold madeCells eqCells
  rw [Nat.mul_one, Array.toList_map, Array.toList_range]
  apply List.map_congr_left
  intro i _
  simp [Value.cells, Nat.mod_one]

theorem eqCells_get (pence : Int) (n k : Nat) (hk : k < n) : (eqCells pence n k)[k]? = some (.int .i64 0) := by
  unfold eqCells; simp [hk]

theorem eqCells_set (pence : Int) (n k : Nat) : (eqCells pence n k).set k (.int .i64 (eqVal pence n k)) = eqCells pence n (k + 1) := by
  apply List.ext_getElem?
  intro j
  rw [List.getElem?_set]
  unfold eqCells
  by_cases hj : k = j
  · subst hj
    by_cases hk : k < n <;> simp [hk]
  · rw [if_neg hj]
    by_cases hn : j < n
    · simp only [List.getElem?_map, List.getElem?_range hn, Option.map_some]
      by_cases h1 : j < k
      · rw [if_pos h1, if_pos (by omega)]
      · rw [if_neg h1, if_neg (by omega)]
    · simp [hn]

set_option maxRecDepth 100000 in
set_option maxHeartbeats 1600000 in
theorem equal_any (pence : Int) (a : Option Addr) (n cap : Nat) (xs : List Int) (w : World) (hL : Lst w 1 cI a n cap xs) :
    Calls Tryz.prog 37 #[.int .i64 pence, .slice a n cap] w (GivesL w 3 1 cI (equalOf pence xs).1 (equalOf pence xs).2) := by
  obtain ⟨r, hr⟩ : ∃ r, r = equalOf pence xs := ⟨_, rfl⟩
  rw [← hr]
  unfold equalOf at hr
  have hp := parties_any a n cap xs w hL
  have hin := in6_any pence 0 1000000000 w
  rcases Bool.eq_false_or_eq_true (inn pence 0 1000000000) with h1 | h1
  · rw [h1] at hin
    rcases Bool.eq_false_or_eq_true (partiesOk xs) with h2 | h2
    · rw [h2] at hp
      have hb1 := (inn_iff _ _ _).1 h1
      have hb2 : 1 ≤ n ∧ n ≤ 40 := by
        unfold partiesOk at h2
        simp only [Bool.and_eq_true, inn_iff, hL.len] at h2
        omega
      rw [h1, h2, hL.len] at hr
      simp only [Bool.and_self, if_true] at hr
      have Hr := Lib.hid hr; clear hr h1 h2
      obtain ⟨hb10, hb11⟩ := hb1
      obtain ⟨hb20, hb21⟩ := hb2
      have hq : 0 ≤ pence.tdiv n ∧ pence.tdiv n ≤ 1000000000 := by
        rw [Int.tdiv_eq_ediv_of_nonneg hb10]
        exact ⟨Int.ediv_nonneg hb10 (by omega), Int.le_trans (Int.ediv_le_self _ hb10) hb11⟩
      obtain ⟨hq1, hq2⟩ := hq
      obtain ⟨i0, hi0, hz0, hz1, hz2⟩ := info_parts infoI
      go_enter Tryz.func37, Tryz.ntmps37
      go_wp2_with (first | (go_at_call 55; refine hin.mono ?_; rintro e w3 ⟨rfl, rfl⟩) | (go_at_call 69; refine hp.mono ?_; rintro e w4 ⟨rfl, hB⟩; obtain ⟨w5, hmk, hown, hgr⟩ := run_makeSlice_full w4 w.heap.size 64 3 i0 (.int .i64 0) 1 Tryz.underlying64 hi0 hz0 hz1 .i64 .i64 n (by omega) (by rw [hz2]; omega) (by unfold maxLen; omega) hB.size))
      have hB5 := below_of_grown hB (Nat.le_refl _) hgr (fun _ h => by cases h)
      have hown0 : w5.ownsRow w.heap.size 3 1 (.slice (some ⟨w4.heap.size, 0, none⟩) n n) n (eqCells pence n 0) := by
        rw [← eqCells_zero]; exact hown
      have hg4 : w.heap.size ≤ w4.heap.size := hB.size
      generalize w4.heap.size = g at *
      clear hmk hown hgr hB hp hin
      go_loopw [21] (fun i wr => ∃ k : Nat, k ≤ n ∧ i = .int .i64 k ∧ wr.ownsRow w.heap.size 3 1 (.slice (some ⟨g, 0, none⟩) n n) n (eqCells pence n k) ∧ RowKit.Below w.heap.size w wr) (fun i _ => n - (intOf i).toNat)
      case atStart => exact ⟨0, Nat.zero_le _, rfl, hown0, hB5⟩
      case round =>
        obtain ⟨k, hk, rfl, ho, hBr⟩ := hrel
        by_cases hlt : k < n
        · have hc := ho.cellAt k (by omega)
          rw [eqCells_get pence n k hlt] at hc
          have hf := ho.frozenAt k
          have Ho := Lib.hid ho; clear ho
          by_cases hm : (k : Int) < pence % (n : Int)
          · have hv : eqVal pence n k = pence.tdiv n + 1 := by unfold eqVal; rw [if_pos hm]
            have Hv := Lib.hid hv; clear hv
            go_wp2
            go_roundw
            case rel =>
              refine ⟨k + 1, by omega, by go_num, ?_, ?_⟩
              · have h1 := Ho.out.stored k (.int .i64 (pence.tdiv n))
                have h2 := h1.1.stored k (.int .i64 (pence.tdiv n + 1))
                have h3 := h2.1
                rw [List.set_set, ← Hv.out, eqCells_set] at h3
                rw [Hv.out] at h3
                exact h3
              · exact (hBr.setCell (p := ⟨g, k, none⟩) hg4 _).setCell (p := ⟨g, k, none⟩) hg4 _
            case measure => simp [intOf]; omega
          · have hv : eqVal pence n k = pence.tdiv n := by unfold eqVal; rw [if_neg hm, Int.add_zero]
            have Hv := Lib.hid hv; clear hv
            go_wp2
            go_roundw
            case rel =>
              refine ⟨k + 1, by omega, by go_num, ?_, ?_⟩
              · have h1 := (Ho.out.stored k (.int .i64 (eqVal pence n k))).1
                rw [eqCells_set, Hv.out] at h1
                exact h1
              · exact hBr.setCell (p := ⟨g, k, none⟩) hg4 _
            case measure => simp [intOf]; omega
        · obtain rfl : k = n := by omega
          have hfin : eqCells pence k k = (((List.range k).map (eqVal pence k)).flatMap cI) := by
            rw [flat_int]
            unfold eqCells
            rw [List.map_map]
            apply List.map_congr_left
            intro i hi
            simp [List.mem_range.1 hi]
          rw [hfin] at ho
          have Ho := Lib.hid ho; clear ho hfin
          go_wp2
          go_ret2
          rw [Hr.out]
          refine ⟨_, rfl, ?_, hBr⟩
          have h := Ho.out
          rw [List.length_map, List.length_range]
          exact h
    · rw [h2] at hp
      rw [h1, h2] at hr
      have Hr := Lib.hid hr; clear hr h1 h2
      go_enter Tryz.func37, Tryz.ntmps37
      go_wp2_with (first | (go_at_call 55; refine hin.mono ?_; rintro e w3 ⟨rfl, rfl⟩) | (go_at_call 69; refine hp.mono ?_; rintro e w4 ⟨rfl, hB⟩))
      go_ret2
      rw [Hr.out]
      exact GivesL.nil hB
  · rw [h1] at hin
    rw [h1] at hr
    have Hr := Lib.hid hr; clear hr h1
    go_enter Tryz.func37, Tryz.ntmps37
    go_wp2_with (go_at_call 55; refine hin.mono ?_; rintro e w3 ⟨rfl, rfl⟩)
    go_ret2
    rw [Hr.out]
    exact GivesL.nil (Below.refl _ _)

end Go.Proofs.YtkeppoiomjhkpaaGreatDoor
