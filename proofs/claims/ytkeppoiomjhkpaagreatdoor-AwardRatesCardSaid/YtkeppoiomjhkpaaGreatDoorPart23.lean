import Derived.Test.YtkeppoiomjhkpaaGreatDoorPart14
import Derived.Test.YtkeppoiomjhkpaaGreatDoorPart22
import Derived.Test.YtkeppoiomjhkpaaGreatDoorPart13
import Derived.Deep.AppendLies
import Derived.Deep.RegionHeld3
import Derived.Test.YtkeppoiomjhkpaaGreatDoorPart07
import Derived.Test.YtkeppoiomjhkpaaGreatDoorPart09
import Derived.Test.YtkeppoiomjhkpaaGreatDoorPart18
import Derived.Test.YtkeppoiomjhkpaaGreatDoorPart20
import Derived.Test.YtkeppoiomjhkpaaGreatDoorPart21
import Derived.Test.YtkeppoiomjhkpaaGreatDoorPart03
import Derived.BigQuiet
/-
  Walk: why a sale is refused behind others.
-/
namespace Go.Proofs.YtkeppoiomjhkpaaGreatDoor
open Go.RowKit Lg Go.Sort Go.Shelf

set_option maxRecDepth 100000 in
set_option maxHeartbeats 1600000 in
theorem sells_any (a : Option Addr) (n cap : Nat) (xs : List Sale) (x : Sale) (w : World) (hL : Lst w 9 cS a n cap xs) :
    Calls Tryz.prog 42 #[.slice a n cap, aS x] w (Gives w (.int .i64 (sellsS xs x))) := by
  obtain ⟨r, hr⟩ : ∃ r, r = sellsS xs x := ⟨_, rfl⟩
  rw [← hr]
  unfold sellsS at hr
  obtain ⟨v, hv⟩ : ∃ v, v = followsS xs x := ⟨_, rfl⟩
  have hf := fun W hW => followsS_any a n cap xs x W hW
  rw [← hv] at hr hf
  have Hv := Lib.hid hv; clear hv
  have Hr := Lib.hid hr; clear hr
  obtain ⟨s, hs⟩ : ∃ s, s = soldIn xs x.parcel x.known := ⟨_, rfl⟩
  have hsd := fun W hW => sold_any a n cap xs x.parcel x.known W hW
  rw [← hs] at hsd
  have Hr2 : Hid (r = if v = 0 then if (s.isSome && decide (x.of_ = 0)) = true then 61 else 0 else v) := Lib.hid (by rw [hs]; exact Hr.out)
  clear Hr hs
  have hB1 : RowKit.Below w.heap.size w (w.alloc (.cells #[.int .i64 x.id, .int .i64 x.known, .int .i64 x.hour, .int .i64 x.parcel, .int .i64 x.price, .int .i64 x.carter, .int .i64 x.keeper, .int .i64 x.since, .int .i64 x.of_] 24)) := (Below.refl _ w).alloc (Nat.le_refl _) _
  have hf1 := hf _ (hL.below hB1)
  go_enter Tryz.func42, Tryz.ntmps42
  go_wp2_with (fail)
  refine hf1.mono ?_
  clear hf1 hf
  rintro e w2 ⟨rfl, hB2⟩
  have k2 : Blk w2 w.heap.size #[.int .i64 x.id, .int .i64 x.known, .int .i64 x.hour, .int .i64 x.parcel, .int .i64 x.price, .int .i64 x.carter, .int .i64 x.keeper, .int .i64 x.since, .int .i64 x.of_] 24 := (Blk.new w _ _).below' hB2
  have hb2 : RowKit.Below w.heap.size w w2 := hB1.trans (hB2.mono hB1.size)
  have c2 := k2.cell
  by_cases hv0 : v = 0
  · subst hv0
    go_wp2_with (fail)
    refine (hsd w2 (hL.below hb2)).mono ?_
    rintro e w3 ⟨rfl, hB3⟩
    have k3 := k2.below' hB3
    have hb3 := hb2.trans (hB3.mono hb2.size)
    have hs3 := k3.lt
    have c3 : ∀ (cs : Array Value) (j : Nat), (w3.alloc (.cells cs 24)).cell? ⟨w.heap.size, j, none⟩ = #[.int .i64 x.id, .int .i64 x.known, .int .i64 x.hour, .int .i64 x.parcel, .int .i64 x.price, .int .i64 x.carter, .int .i64 x.keeper, .int .i64 x.since, .int .i64 x.of_][j]? := fun cs j => (k3.alloc _).cell j
    have hb4 : ∀ o, RowKit.Below w.heap.size w (w3.alloc o) := fun o => hb3.alloc hb3.size o
    clear hsd
    cases s with
    | none =>
      go_wp2_with (fail)
      go_ret
      exact ⟨ret_int (by rw [Hr2.out]; rfl), hb4 _⟩
    | some y =>
      by_cases h0 : x.of_ = 0
      · have g0 : (x.of_ == 0) = true := by simpa using h0
        have H0 := Lib.hid h0; clear h0
        go_wp2_with (fail)
        go_ret
        exact ⟨ret_int (by rw [Hr2.out]; simp [H0.out]), hb4 _⟩
      · have g0 : (x.of_ == 0) = false := by simpa using h0
        have H0 := Lib.hid h0; clear h0
        go_wp2_with (fail)
        go_ret
        exact ⟨ret_int (by rw [Hr2.out]; simp [H0.out]), hb4 _⟩
  · have g0 : (v != 0) = true := by simpa using hv0
    have Hv0 := Lib.hid hv0; clear hv0
    go_wp2_with (fail)
    go_ret
    exact ⟨ret_int (by rw [Hr2.out, if_neg Hv0.out]), hb2⟩

end Go.Proofs.YtkeppoiomjhkpaaGreatDoor

/-
  Walk: the first record that is refused.
-/
namespace Go.Proofs.YtkeppoiomjhkpaaGreatDoor
open Go.RowKit Lg Go.Sort Go.Shelf

set_option maxRecDepth 100000 in
set_option maxHeartbeats 1600000 in
theorem checkSales_any (a : Option Addr) (n cap : Nat) (xs : List Sale) (w : World) (hL : Lst w 9 cS a n cap xs) :
    Calls Tryz.prog 7 #[.slice a n cap] w (Gives w (.tuple #[.int .i64 (checkSales xs).1, .int .i64 (checkSales xs).2])) := by
  have hm : cap ≤ 9223372036854775807 := by have := hL.max; unfold maxLen at this; omega
  have hle := hL.le
  have hlen := Lib.hid hL.len
  go_enter Tryz.func7, Tryz.ntmps7
  go_wp2
  go_loopw [9] (fun i wr => ∃ k : Nat, k ≤ n ∧ i = .int .i64 k ∧ Below w.heap.size w wr ∧ checkSales xs = chkFrom sellsS (xs.take k) (xs.drop k)) (fun i _ => n - (intOf i).toNat)
  case atStart => exact ⟨0, Nat.zero_le _, rfl, Below.refl _ _, rfl⟩
  case round =>
    obtain ⟨k, hk, rfl, hB, h0⟩ := hrel
    by_cases hlt : k < n
    · obtain ⟨x, hx⟩ : ∃ x, xs[k]? = some x := ⟨xs[k]'(by rw [hlen.out]; exact hlt), by simp⟩
      obtain ⟨b, off, rfl, hb, hr⟩ := hL.at_ k x hx
      have hr' := rangeAt_below hB hb hr
      have hL2 := (hL.below hB).take k hk
      have hdrop : xs.drop k = x :: xs.drop (k + 1) := by
        obtain ⟨h1, h2⟩ := List.getElem?_eq_some_iff.1 hx
        rw [← h2, List.drop_eq_getElem_cons h1]
      have htake : xs.take (k + 1) = xs.take k ++ [x] := by
        obtain ⟨h1, h2⟩ := List.getElem?_eq_some_iff.1 hx
        rw [List.take_succ_eq_append_getElem h1, h2]
      have hlt2 : (xs.take k).length = k := by rw [List.length_take, hlen.out]; omega
      obtain ⟨v, hv⟩ : ∃ v, v = sellsS (xs.take k) x := ⟨_, rfl⟩
      have hf := fun W hW => sells_any (some ⟨b, off, none⟩) k k (xs.take k) x W hW
      rw [← hv] at hf
      have hstep : checkSales xs = if v = 0 then chkFrom sellsS (xs.take (k + 1)) (xs.drop (k + 1)) else ((k : Int), v) := by
        rw [h0, hdrop, chkFrom, ← hv, htake, hlt2]
      have Hs := Lib.hid hstep; clear hstep h0 hdrop htake hv hx
      obtain ⟨A, hA⟩ : ∃ A, A = wr.alloc (.cells #[.int .i64 x.id, .int .i64 x.known, .int .i64 x.hour, .int .i64 x.parcel, .int .i64 x.price, .int .i64 x.carter, .int .i64 x.keeper, .int .i64 x.since, .int .i64 x.of_] 24) := ⟨_, rfl⟩
      have kA : Blk A wr.heap.size #[.int .i64 x.id, .int .i64 x.known, .int .i64 x.hour, .int .i64 x.parcel, .int .i64 x.price, .int .i64 x.carter, .int .i64 x.keeper, .int .i64 x.since, .int .i64 x.of_] 24 := hA ▸ Blk.new _ _ _
      have hBA : RowKit.Below w.heap.size w A := hA ▸ hB.alloc hB.size _
      have hLA := hL2.below (hA ▸ (Below.refl _ wr).alloc (Nat.le_refl _) _ : RowKit.Below wr.heap.size wr A)
      have cA := box_regrown hA
      have cF := regrown_call (w := A) (v := .int .i64 v) (fun W' hW' => hf W' (hLA.below hW'))
      go_wp2_with (refine wpList_load_mid rfl 24 _ rfl b (off + k * 9) rfl (cS x) _ hr' Tryz.underlying24 rfl (by kernel_rfl) ?_)
      rw [← hA]; clear hA
      refine wp_region_quiet_below (by kernel_rfl) (by kernel_rfl) ?_
      repeat (go_big_quiet_step (exact cF _ _))
      refine wpQuiet_nil ?_
      intro _ hw'
      obtain ⟨⟨dq, osq⟩, hw''⟩ := hw'
      subst hw''
      have hBn := hBA.trans ((below_regrown A dq osq).mono hBA.size)
      clear cA cF
      by_cases hv0 : v = 0
      · subst hv0
        have hs2 := Hs.out
        rw [if_pos rfl] at hs2
        have Hs2 := Lib.hid hs2; clear hs2
        go_wp2
        go_roundw
        case rel => exact ⟨k + 1, by omega, by go_num, hBn, Hs2.out⟩
        case measure => simp [intOf]; omega
      · have hs2 := Hs.out
        rw [if_neg hv0] at hs2
        have Hs2 := Lib.hid hs2; clear hs2
        have g0 : (v != 0) = true := by simpa using hv0
        go_wp2
        go_ret2
        exact ⟨by rw [Hs2.out]; rfl, hBn⟩
    · obtain rfl : k = n := by omega
      have hs2 : checkSales xs = (0, 0) := by rw [h0, List.drop_of_length_le (by rw [hlen.out]; exact Nat.le_refl _)]; rfl
      have Hs2 := Lib.hid hs2; clear hs2 h0
      go_wp2
      go_ret2
      exact ⟨by rw [Hs2.out]; rfl, hB⟩

end Go.Proofs.YtkeppoiomjhkpaaGreatDoor

/-
  Walk: a copy of a list of sales, wherever it lies.
-/
namespace Go.Proofs.YtkeppoiomjhkpaaGreatDoor
open Go.RowKit Lg Go.Sort Go.Shelf

theorem cS_one (x : Sale) : ∀ u ∈ cS x, u.oneCell' = true := by simp [cS, Value.oneCell']
theorem infoS : (Tryz.prog.info? 24).map (fun i => (i.zero, i.size, i.bytes)) = some (some (aS zeroSale), 9, 72) := by kernel_rfl

def _root_.Lg.appendSale (l : List Sale) (x : Sale) : List Sale × Int :=
  if (checkSales l).2 = 0 then (if sellsS l x = 0 then (l ++ [x], 0) else ([], sellsS l x)) else ([], (checkSales l).2)

theorem sellsS_len {l : List Sale} {x : Sale} (h : sellsS l x = 0) : l.length < 200 := by
  unfold sellsS at h
  by_cases h1 : followsS l x = 0
  · rw [followsS_headed] at h1
    by_cases h2 : 200 ≤ l.length
    · rw [if_pos h2] at h1; cases h1
    · omega
  · rw [if_neg h1] at h; exact absurd h h1

/-- What stays through the last statement of AppendSale. -/
def ApT (w : World) (x : Sale) (w' : World) : Prop := Blk w' w.heap.size #[.int .i64 x.id, .int .i64 x.known, .int .i64 x.hour, .int .i64 x.parcel, .int .i64 x.price, .int .i64 x.carter, .int .i64 x.keeper, .int .i64 x.since, .int .i64 x.of_] 24 ∧ RowKit.Below w.heap.size w w'

theorem ApT.all {w W W' : World} {x : Sale} (h : ApT w x W) (hb : RowKit.Below W.heap.size W W') : (∀ j, W'.cell? ⟨w.heap.size, j, none⟩ = #[.int .i64 x.id, .int .i64 x.known, .int .i64 x.hour, .int .i64 x.parcel, .int .i64 x.price, .int .i64 x.carter, .int .i64 x.keeper, .int .i64 x.since, .int .i64 x.of_][j]?) ∧ ApT w x W' :=
  ⟨(h.1.below' hb).cell, h.1.below' hb, h.2.trans (hb.mono h.2.size)⟩

theorem ApT.grown {w W W' : World} {x : Sale} {row : Option Nat} (h : ApT w x W) (hg : W.grownBy W' row) (hr : ∀ r, row = some r → w.heap.size < r) : (∀ j, W'.cell? ⟨w.heap.size, j, none⟩ = #[.int .i64 x.id, .int .i64 x.known, .int .i64 x.hour, .int .i64 x.parcel, .int .i64 x.price, .int .i64 x.carter, .int .i64 x.keeper, .int .i64 x.since, .int .i64 x.of_][j]?) ∧ ApT w x W' := by
  have h1 := h.1.kept hg (fun e => Nat.lt_irrefl _ (hr _ e.symm))
  exact ⟨h1.cell, h1, h.2.grown hg h.2.size (fun k e => Nat.le_of_lt (hr k e))⟩

set_option maxRecDepth 100000 in
theorem cloneS0_any (a : Option Addr) (n cap : Nat) (xs : List Sale) (w : World) (hn : n ≤ 1000) (hL : Lst w 9 cS a n cap xs) :
    Calls Tryz.prog 46 #[.slice a n cap] w fun e w' => ∃ v', e = .returned v' ∧ w'.ownsRow w.heap.size 24 9 v' n (xs.flatMap cS) ∧ RowKit.Below w.heap.size w w' := by
  obtain ⟨i0, hi0, hz0, hz1, hz2⟩ := info_parts infoS
  cases a with
  | none =>
    have hx : xs = [] := by
      cases xs with
      | nil => rfl
      | cons x r => obtain ⟨b, off, h, _⟩ := hL.at_ 0 x rfl; cases h
    have hn0 : n = 0 := by rw [← hL.len, hx]; rfl
    subst hx hn0
    have hnil : ∀ w : World, (binOp .eql 22 (.slice none 0 cap) (.slice none 0 0)).run Tryz.prog w = .ok (.bool true) w := fun w => Lib.run_eql_slice_nil w 22 24 none 0 cap 0 0 Tryz.underlying22
    clear hL
    go_enter Tryz.func46, Tryz.ntmps46
    go_wp2_with (fail)
    go_ret
    exact ⟨_, rfl, ⟨by simp, .inl ⟨rfl, rfl⟩⟩, Below.refl _ _⟩
  | some ad =>
    have ho : (w.alloc (.cells #[] 24)).ownsRow w.heap.size 24 9 (.slice (some ⟨w.heap.size, 0, none⟩) 0 0) 0 [] := World.ownsRow_made w #[] 0 (Nat.le_refl _) (Nat.zero_le _) rfl
    have hB : RowKit.Below w.heap.size w (w.alloc (.cells #[] 24)) := (Below.refl _ w).alloc (Nat.le_refl _) _
    have hL2 := hL.below hB
    have hnil : ∀ w : World, (binOp .eql 22 (.slice (some ad) n cap) (.slice none 0 0)).run Tryz.prog w = .ok (.bool false) w := fun w => Lib.run_eql_slice_nil w 22 24 (some ad) n cap 0 0 Tryz.underlying22
    go_enter Tryz.func46, Tryz.ntmps46
    go_wp2_with (first
      | (at_builtin; refine wpList_append_list rfl _ _ _ rfl w.heap.size 24 i0 _ 9 72 Tryz.underlying22 hi0 hz0 hz1 hz2 rfl (by omega) _ 0 [] rfl ho cS (fun _ => rfl) cS_one (some ad) n cap xs rfl hL2 (by unfold maxLen; omega) (by omega) (by simp) ?_; intro v1 w1 hown1 hgrow1)
      | fail)
    go_ret
    rw [List.nil_append, Nat.zero_add] at hown1
    exact ⟨_, rfl, hown1, below_of_grown hB (Nat.le_refl _) hgrow1 (fun r h => by cases h; exact Nat.le_refl _)⟩

set_option maxRecDepth 100000 in
set_option maxHeartbeats 1600000 in
theorem appendSale0_any (a : Option Addr) (n cap : Nat) (xs : List Sale) (x : Sale) (w : World) (hL : Lst w 9 cS a n cap xs) :
    Calls Tryz.prog 9 #[.slice a n cap, aS x] w (GivesL w 24 9 cS (appendSale xs x).1 (appendSale xs x).2) := by
  obtain ⟨r, hr⟩ : ∃ r, r = appendSale xs x := ⟨_, rfl⟩
  rw [← hr]
  obtain ⟨c, hc⟩ : ∃ c, c = checkSales xs := ⟨_, rfl⟩
  obtain ⟨f, hf⟩ : ∃ f, f = sellsS xs x := ⟨_, rfl⟩
  have hcr := fun W hW => checkSales_any a n cap xs W hW
  have hfr := fun W hW => sells_any a n cap xs x W hW
  have hlim : f = 0 → n ≤ 1000 := by
    intro h0; have := sellsS_len (hf ▸ h0 : sellsS xs x = 0); rw [hL.len] at this; omega
  rw [← hc] at hcr
  rw [← hf] at hfr
  have Hr : Hid (r = if c.2 = 0 then (if f = 0 then (xs ++ [x], 0) else ([], f)) else ([], c.2)) := Lib.hid (by rw [hr, hc, hf]; rfl)
  clear hr hc hf
  obtain ⟨c1, c2⟩ := c
  have hB1 : RowKit.Below w.heap.size w (w.alloc (.cells #[.int .i64 x.id, .int .i64 x.known, .int .i64 x.hour, .int .i64 x.parcel, .int .i64 x.price, .int .i64 x.carter, .int .i64 x.keeper, .int .i64 x.since, .int .i64 x.of_] 24)) := (Below.refl _ w).alloc (Nat.le_refl _) _
  have hcr1 := hcr _ (hL.below hB1)
  clear hcr
  go_enter Tryz.func9, Tryz.ntmps9
  go_wp2_with (fail)
  refine hcr1.mono ?_
  clear hcr1
  rintro e w2 ⟨rfl, hB2⟩
  have k2 : Blk w2 w.heap.size #[.int .i64 x.id, .int .i64 x.known, .int .i64 x.hour, .int .i64 x.parcel, .int .i64 x.price, .int .i64 x.carter, .int .i64 x.keeper, .int .i64 x.since, .int .i64 x.of_] 24 := (Blk.new w _ _).below' hB2
  have hb2 : RowKit.Below w.heap.size w w2 := hB1.trans (hB2.mono hB1.size)
  have e2 := k2.cell
  by_cases hv0 : c2 = 0
  · subst hv0
    go_wp2_with (fail)
    refine (hfr w2 (hL.below hb2)).mono ?_
    clear hfr
    rintro e w3 ⟨rfl, hB3⟩
    have k3 := k2.below' hB3
    have hb3 := hb2.trans (hB3.mono hb2.size)
    clear e2
    have e3 := k3.cell
    by_cases hf0 : f = 0
    · have hn := hlim hf0
      subst hf0
      go_wp2_with (fail)
      have hL3 := hL.below hb3
      obtain ⟨i0, hi0, hz0, hz1, hz2⟩ := info_parts infoS
      have hS3 : ApT w x w3 := ⟨k3, hb3⟩
      have hlt3 := k3.lt
      clear e3
      go_region_held3 (fun w' => (∀ j, w'.cell? ⟨w.heap.size, j, none⟩ = #[.int .i64 x.id, .int .i64 x.known, .int .i64 x.hour, .int .i64 x.parcel, .int .i64 x.price, .int .i64 x.carter, .int .i64 x.keeper, .int .i64 x.since, .int .i64 x.of_][j]?) ∧ ApT w x w')
        (first
          | exact ApT.all hS3 (Below.refl _ _).drew
          | exact ApT.all hS3 ((Below.refl _ w3).drew.trans hBc)
          | exact ApT.all hS3 (((Below.refl _ w3).alloc (Nat.le_refl _) _).drew)
          | exact ApT.all hS3 ((((Below.refl _ w3).alloc (Nat.le_refl _) _).drew).trans (hBc.mono (by simp)))
          | exact ApT.all hS3 (((Below.refl _ w3).drew.trans hBc).alloc hBc.size _)
          | exact ApT.grown ((ApT.all hS3 (((Below.refl _ w3).drew.trans hBc).alloc hBc.size _)).2) hgrow (fun r e => Nat.lt_of_lt_of_le hlt3 (own_ge ho r e))
          | exact ApT.grown ((ApT.all hS3 ((((Below.refl _ w3).alloc (Nat.le_refl _) _).drew).trans (hBc.mono (by simp)))).2) hgrow (fun r e => Nat.lt_of_lt_of_le (ap_lt hlt3 _) (own_ge ho r e))
          | fail)
        (first
          | (go_at_call 46; refine (cloneS0_any a n cap xs _ hn (by first | exact hL3.below (Below.refl _ _).drew | exact hL3.below ((Below.refl _ w3).alloc (Nat.le_refl _) _).drew)).mono ?_; rintro e w4 ⟨v4, rfl, ho, hBc⟩)
          | (refine step_append_lies _ (by rfl) _ _ _ (by rfl) w3.heap.size 24 i0 _ 9 72 Tryz.underlying22 hi0 hz0 hz1 hz2 rfl (by omega) v4 n (xs.flatMap cS) (by rfl) (ho.alloc _)
              ⟨w4.heap.size, 0, none⟩ 1 1 (cS x) (by rfl) (by rfl) (World.news_of_block (cs := (cS x).toArray) (t := 24) (fr := (0, 0)) (heap_alloc_new w4 _)) (cS_one x)
              (by omega) (by unfold maxLen; omega) (by omega) (ap_base1 hBc _) (w4.heap.size + 1) (by simp) ?_; intro gg cap1 w5 hown5 hgrow hat hlt)
          | (refine step_append_lies _ (by rfl) _ _ _ (by rfl) w3.heap.size 24 i0 _ 9 72 Tryz.underlying22 hi0 hz0 hz1 hz2 rfl (by omega) v4 n (xs.flatMap cS) (by rfl) (ownsRow_base_a ho (by simp))
              ⟨w3.heap.size, 0, none⟩ 1 1 (cS x) (by rfl) (by rfl) (World.news_of_block ((Blk.drew (Blk.new w3 24 (cS x).toArray)).below' hBc)) (cS_one x)
              (by omega) (by unfold maxLen; omega) (by omega) (ap_base2 hBc) _ rfl ?_; intro gg cap1 w5 hown5 hgrow hat hlt)
          | fail)
      · have hf := (ApT.grown ((ApT.all hS3 (((Below.refl _ w3).drew.trans hBc).alloc hBc.size _)).2) hgrow (fun r e => Nat.lt_of_lt_of_le hlt3 (own_ge ho r e))).2.2
        go_wp2_with (fail)
        go_ret2
        have e := Hr.out
        simp only [if_true] at e
        rw [e]
        refine ⟨_, rfl, ?_, hf⟩
        rw [List.length_append, hL.len, List.flatMap_append, List.flatMap_singleton]
        exact ownsRow_base_a hown5 (Nat.le_of_lt hlt3)
      · have hf := (ApT.grown ((ApT.all hS3 ((((Below.refl _ w3).alloc (Nat.le_refl _) _).drew).trans (hBc.mono (by simp)))).2) hgrow (fun r e => Nat.lt_of_lt_of_le (ap_lt hlt3 _) (own_ge ho r e))).2.2
        go_wp2_with (fail)
        go_ret2
        have e := Hr.out
        simp only [if_true] at e
        rw [e]
        refine ⟨_, rfl, ?_, hf⟩
        rw [List.length_append, hL.len, List.flatMap_append, List.flatMap_singleton]
        exact ownsRow_base_a hown5 (Nat.le_of_lt hlt3)
    · have g0 : (f != 0) = true := by simpa using hf0
      have Hf0 := Lib.hid hf0; clear hf0
      go_wp2_with (fail)
      go_ret2
      have e := Hr.out
      simp only [if_true, if_neg Hf0.out] at e
      rw [e]
      exact GivesL.nil hb3
  · have g0 : (c2 != 0) = true := by simpa using hv0
    have Hv0 := Lib.hid hv0; clear hv0
    go_wp2_with (fail)
    go_ret2
    have e := Hr.out
    rw [if_neg Hv0.out] at e
    rw [e]
    exact GivesL.nil hb2


end Go.Proofs.YtkeppoiomjhkpaaGreatDoor

/-
  Walks: the reference's AppendSale.
-/
namespace Go.Proofs.YtkeppoiomjhkpaaGreatDoor
open Go.RowKit Lg Go.Sort Go.Shelf

theorem Lst.oneS {W : World} {B : Nat} {x : Sale} (k : Blk W B (cS x).toArray 24) : Lst W 9 cS (some ⟨B, 0, none⟩) 1 1 [x] :=
  ⟨rfl, Nat.le_refl _, by unfold maxLen; omega, fun i y hx => by
    have hi : i = 0 := by have := (List.getElem?_eq_some_iff.1 hx).1; simp at this; exact this
    subst hi
    obtain rfl : x = y := by simpa using hx
    refine ⟨B, 0, rfl, k.lt, fun j u hu => ?_⟩
    rw [show 0 + 0 * 9 + j = j by omega, k.cell j]
    simpa using hu⟩

set_option maxRecDepth 100000 in
set_option maxHeartbeats 3200000 in
theorem appendSaleR_any (a : Option Addr) (n cap : Nat) (xs : List Sale) (x : Sale) (w : World) (hn : n ≤ 299) (hL : Lst w 9 cS a n cap xs) :
    Calls Tryz.prog 10 #[.slice a n cap, aS x] w (GivesL w 24 9 cS (appendSale xs x).1 (appendSale xs x).2) := by
  have hlen := hL.len
  have hB0 : RowKit.Below w.heap.size w (w.alloc (.cells #[.int .i64 x.id, .int .i64 x.known, .int .i64 x.hour, .int .i64 x.parcel, .int .i64 x.price, .int .i64 x.carter, .int .i64 x.keeper, .int .i64 x.since, .int .i64 x.of_] 24)) := (Below.refl _ w).alloc (Nat.le_refl _) _
  have hc1 := checkSalesR_any a n cap xs _ (by omega) (hL.below hB0)
  obtain ⟨i0, hi0, hz0, hz1, hz2⟩ := info_parts infoS
  by_cases h0 : (checkSales xs).2 = 0
  · rw [h0] at hc1
    generalize (checkSales xs).1 = c1 at hc1
    go_enter Tryz.func10, Tryz.ntmps10
    go_wp2_with (fail)
    refine hc1.mono ?_
    clear hc1
    rintro e w2 ⟨rfl, hB2⟩
    have k2 : Blk w2 w.heap.size #[.int .i64 x.id, .int .i64 x.known, .int .i64 x.hour, .int .i64 x.parcel, .int .i64 x.price, .int .i64 x.carter, .int .i64 x.keeper, .int .i64 x.since, .int .i64 x.of_] 24 := (Blk.new w _ _).below' hB2
    have hB2 := hB0.trans (hB2.mono hB0.size)
    have HS := Lib.hid (fun W (h : RowKit.Below w2.heap.size w2 W) => (k2.below' h).cell)
    have HLw := Lib.hid (fun W (h : RowKit.Below w2.heap.size w2 W) => (hL.below hB2).below h)
    clear hL hB0
    go_wp2_with (fail)
    go_region_held3 (fun w' => ∀ j, w'.cell? ⟨w.heap.size, j, none⟩ = #[.int .i64 x.id, .int .i64 x.known, .int .i64 x.hour, .int .i64 x.parcel, .int .i64 x.price, .int .i64 x.carter, .int .i64 x.keeper, .int .i64 x.since, .int .i64 x.of_][j]?)
      (((with_reducible refine HS.out _ ?_); repeat (first | (with_reducible assumption) | (with_reducible exact Below.refl _ _) | (with_reducible refine Below.alloc ?_ ?_ _) | (with_reducible refine Below.setCell ?_ ?_ _) | (with_reducible refine Below.drew ?_) | omega | (simp <;> omega) | (dsimp only; omega))))
      (first
        | (refine step_append_list _ (by rfl) _ _ _ (by rfl) w2.heap.size 24 i0 _ 9 72 Tryz.underlying22 hi0 hz0 hz1 hz2 rfl (by omega) v4 (0 + n) _ (by rfl) (by first | with_reducible exact (ho4.alloc _).drew | with_reducible exact ho4.alloc _ | with_reducible exact ho4.drew | with_reducible exact ho4) cS (fun _ => rfl) cS_one _ 1 1 [x] (by rfl) (by first | exact Lst.oneS (Blk.new w4 _ _).drew | exact Lst.oneS (blkB hg4 (fun h => absurd (Option.some.inj h : w2.heap.size + 1 = w2.heap.size) (by omega))) | exact Lst.oneS (blkC hg4 (fun h => absurd (Option.some.inj h : w2.heap.size = w2.heap.size + 1) (by omega)))) (by unfold maxLen; omega) (by omega) (by have := hB4.size; (try simp); omega) ?_; intro v5 w5 ho5 hg5; have hB5 : RowKit.Below w2.heap.size w2 w5 := below_of_grown (by repeat (first | (with_reducible assumption) | (with_reducible exact Below.refl _ _) | (with_reducible refine Below.alloc ?_ ?_ _) | (with_reducible refine Below.setCell ?_ ?_ _) | (with_reducible refine Below.drew ?_) | omega | (simp <;> omega) | (dsimp only; omega))) (Nat.le_refl _) hg5 (own_ge' ho4); have hs5 := hB5.size)
        | (refine step_append_list _ (by rfl) _ _ _ (by rfl) w2.heap.size 24 i0 _ 9 72 Tryz.underlying22 hi0 hz0 hz1 hz2 rfl (by omega) _ 0 [] (by rfl) (by first | exact (World.ownsRow_made w2 #[] 0 (Nat.le_refl _) (Nat.zero_le _) rfl).drew | exact ((World.ownsRow_made w2 #[] 0 (Nat.le_refl _) (Nat.zero_le _) rfl).alloc _).drew | exact madeC w2 _ _) cS (fun _ => rfl) cS_one _ n cap xs (by rfl) (HLw.out _ (by repeat (first | (with_reducible assumption) | (with_reducible exact Below.refl _ _) | (with_reducible refine Below.alloc ?_ ?_ _) | (with_reducible refine Below.setCell ?_ ?_ _) | (with_reducible refine Below.drew ?_) | omega | (simp <;> omega) | (dsimp only; omega)))) (by unfold maxLen; omega) (by omega) (by first | exact Nat.le_refl _ | (simp; done) | (simp; omega)) ?_; intro v4 w4 ho4 hg4; have hB4 : RowKit.Below w2.heap.size w2 w4 := below_of_grown (by repeat (first | (with_reducible assumption) | (with_reducible exact Below.refl _ _) | (with_reducible refine Below.alloc ?_ ?_ _) | (with_reducible refine Below.setCell ?_ ?_ _) | (with_reducible refine Below.drew ?_) | omega | (simp <;> omega) | (dsimp only; omega))) (Nat.le_refl _) hg4 (fun r h => by cases h; (first | exact Nat.le_refl _ | simp)); have hs4 := hB4.size)
        | fail)
    all_goals
      rw [List.nil_append, ← List.flatMap_append, Nat.zero_add] at ho5
      obtain ⟨a5, c5, rfl, _, hl5⟩ := Lst.of_owns (k := 9) (enc := cS) (fun _ => rfl) (by omega) ho5 (by rw [List.length_append, hlen]; rfl)
      have hB5 := hB2.trans (hB5.mono hB2.size)
      have ho5 := ho5.mono hB2.size
      have hc2 := checkSalesR_any a5 (n + 1) c5 (xs ++ [x]) w5 (by omega) hl5
      have hsn := chkFrom_snoc sellsS [] xs x h0
      rw [List.nil_append] at hsn
      have hck : checkSales (xs ++ [x]) = if sellsS xs x = 0 then ((0 : Int), (0 : Int)) else ((xs.length : Int), sellsS xs x) := hsn
      have hap : appendSale xs x = if sellsS xs x = 0 then (xs ++ [x], 0) else ([], sellsS xs x) := by unfold appendSale; rw [if_pos h0]
      rw [hck] at hc2
      generalize appendSale xs x = q at *
      have Hap := Lib.hid hap
      clear hap hsn hck hl5 ho4 hg4 hB4 hs4 hg5 hs5
      by_cases hf : sellsS xs x = 0
      · rw [if_pos hf] at hc2
        have hq := Hap.out
        rw [if_pos hf] at hq
        subst hq
        clear hf
        go_wp2_with (fail)
        refine hc2.mono ?_
        clear hc2
        rintro e w6 ⟨rfl, hB6⟩
        go_wp2_with (fail)
        go_ret2
        exact ⟨_, rfl, by rw [List.length_append, hlen]; exact own_below ho5 hB6, hB5.trans (hB6.mono hB5.size)⟩
      · rw [if_neg hf] at hc2
        have hq := Hap.out
        rw [if_neg hf] at hq
        subst hq
        generalize sellsS xs x = f at *
        have g0 : (f != 0) = true := by simpa using hf
        clear hf
        go_wp2_with (fail)
        refine hc2.mono ?_
        clear hc2
        rintro e w6 ⟨rfl, hB6⟩
        go_wp2_with (fail)
        go_ret2
        exact GivesL.nil (hB5.trans (hB6.mono hB5.size))
  · have hap : appendSale xs x = ([], (checkSales xs).2) := by unfold appendSale; rw [if_neg h0]
    rw [hap]
    generalize (checkSales xs).1 = c1 at *
    generalize (checkSales xs).2 = c2 at *
    have g0 : (c2 != 0) = true := by simpa using h0
    clear h0 hap hL
    go_enter Tryz.func10, Tryz.ntmps10
    go_wp2_with (fail)
    refine hc1.mono ?_
    clear hc1
    rintro e w2 ⟨rfl, hB2⟩
    go_wp2_with (fail)
    go_ret2
    exact GivesL.nil (hB0.trans (hB2.mono hB0.size))

end Go.Proofs.YtkeppoiomjhkpaaGreatDoor

/-
  Walks: the comparisons of lists of records.
-/
namespace Go.Proofs.YtkeppoiomjhkpaaGreatDoor
open Go.RowKit Lg Go.Sort Go.Shelf

set_option maxRecDepth 100000 in
theorem neqR (x y : Rate) (w : World) : (binOp .neq 43 (aR x) (aR y)).run Tryz.prog w = .ok (.bool (!decide (x = y))) w := by
  have h := eqR x y w
  rw [run_eql_struct] at h
  rw [run_neq_struct]
  generalize (Op.equalIn 10000 43 (aR x) (aR y)).run Tryz.prog w = r at h ⊢
  cases r with
  | ok v w' =>
    simp only [Result.andThen] at h ⊢
    injection h with h1 h2
    injection h1 with h1
    rw [h1, h2]
  | halt v w' =>
    simp only [Result.andThen] at h
    cases h

set_option maxRecDepth 100000 in
set_option maxHeartbeats 1600000 in
theorem sameRates_any (a : Option Addr) (n cap : Nat) (xs : List Rate) (b : Option Addr) (m capB : Nat) (ys : List Rate) (w : World) (hL : Lst w 9 cR a n cap xs) (hM : Lst w 9 cR b m capB ys) :
    Calls Tryz.prog 27 #[.slice a n cap, .slice b m capB] w (Gives w (.bool (decide (xs = ys)))) := by
  have hma : cap ≤ 9223372036854775807 := by have := hL.max; unfold maxLen at this; omega
  have hmb : capB ≤ 9223372036854775807 := by have := hM.max; unfold maxLen at this; omega
  have hlea := hL.le
  have hleb := hM.le
  obtain ⟨q, hq⟩ : ∃ q, q = decide (xs = ys) := ⟨_, rfl⟩
  rw [← hq]
  have Hq := Lib.hid hq; clear hq
  by_cases hnm : n = m
  · subst hnm
    go_enter Tryz.func27, Tryz.ntmps27
    go_wp2
    go_loopw [5] (fun i wr => ∃ k : Nat, k ≤ n ∧ i = .int .i64 k ∧ RowKit.Below w.heap.size w wr ∧ xs.take k = ys.take k) (fun i _ => n - (intOf i).toNat)
    case atStart => exact ⟨0, Nat.zero_le _, rfl, Below.refl _ _, by simp⟩
    case round =>
      obtain ⟨k, hk, rfl, hB, htk⟩ := hrel
      by_cases hlt : k < n
      · obtain ⟨x, hx⟩ : ∃ x, xs[k]? = some x := ⟨xs[k]'(by rw [hL.len]; exact hlt), by simp⟩
        obtain ⟨y, hy⟩ : ∃ y, ys[k]? = some y := ⟨ys[k]'(by rw [hM.len]; exact hlt), by simp⟩
        obtain ⟨b1, o1, rfl, hb1, hr1⟩ := hL.at_ k x hx
        obtain ⟨b2, o2, rfl, hb2, hr2⟩ := hM.at_ k y hy
        have l1 := show wr.cell? ⟨b1, o1 + k * 9, none⟩ = some (.int .i64 x.id) from rangeAt_below hB hb1 hr1 0 _ rfl
        have l2 := show wr.cell? ⟨b1, o1 + k * 9 + 1, none⟩ = some (.int .i64 x.known) from rangeAt_below hB hb1 hr1 1 _ rfl
        have l3 := show wr.cell? ⟨b1, o1 + k * 9 + 2, none⟩ = some (.int .i64 x.from_) from rangeAt_below hB hb1 hr1 2 _ rfl
        have l4 := show wr.cell? ⟨b1, o1 + k * 9 + 3, none⟩ = some (.string x.goods) from rangeAt_below hB hb1 hr1 3 _ rfl
        have l5 := show wr.cell? ⟨b1, o1 + k * 9 + 4, none⟩ = some (.int .i64 x.finder.num) from rangeAt_below hB hb1 hr1 4 _ rfl
        have l6 := show wr.cell? ⟨b1, o1 + k * 9 + 5, none⟩ = some (.int .i64 x.finder.den) from rangeAt_below hB hb1 hr1 5 _ rfl
        have l7 := show wr.cell? ⟨b1, o1 + k * 9 + 6, none⟩ = some (.int .i64 x.cart) from rangeAt_below hB hb1 hr1 6 _ rfl
        have l8 := show wr.cell? ⟨b1, o1 + k * 9 + 7, none⟩ = some (.int .i64 x.store) from rangeAt_below hB hb1 hr1 7 _ rfl
        have l9 := show wr.cell? ⟨b1, o1 + k * 9 + 8, none⟩ = some (.int .i64 x.of_) from rangeAt_below hB hb1 hr1 8 _ rfl
        have l10 := show wr.cell? ⟨b2, o2 + k * 9, none⟩ = some (.int .i64 y.id) from rangeAt_below hB hb2 hr2 0 _ rfl
        have l11 := show wr.cell? ⟨b2, o2 + k * 9 + 1, none⟩ = some (.int .i64 y.known) from rangeAt_below hB hb2 hr2 1 _ rfl
        have l12 := show wr.cell? ⟨b2, o2 + k * 9 + 2, none⟩ = some (.int .i64 y.from_) from rangeAt_below hB hb2 hr2 2 _ rfl
        have l13 := show wr.cell? ⟨b2, o2 + k * 9 + 3, none⟩ = some (.string y.goods) from rangeAt_below hB hb2 hr2 3 _ rfl
        have l14 := show wr.cell? ⟨b2, o2 + k * 9 + 4, none⟩ = some (.int .i64 y.finder.num) from rangeAt_below hB hb2 hr2 4 _ rfl
        have l15 := show wr.cell? ⟨b2, o2 + k * 9 + 5, none⟩ = some (.int .i64 y.finder.den) from rangeAt_below hB hb2 hr2 5 _ rfl
        have l16 := show wr.cell? ⟨b2, o2 + k * 9 + 6, none⟩ = some (.int .i64 y.cart) from rangeAt_below hB hb2 hr2 6 _ rfl
        have l17 := show wr.cell? ⟨b2, o2 + k * 9 + 7, none⟩ = some (.int .i64 y.store) from rangeAt_below hB hb2 hr2 7 _ rfl
        have l18 := show wr.cell? ⟨b2, o2 + k * 9 + 8, none⟩ = some (.int .i64 y.of_) from rangeAt_below hB hb2 hr2 8 _ rfl
        have Hx := Lib.hid hx
        have Hy := Lib.hid hy
        have Htk := Lib.hid htk
        clear hx hy htk hr1 hr2
        by_cases hxy : x = y
        · have g0 : ∀ w, (binOp .neq 43 (aR x) (aR y)).run Tryz.prog w = .ok (.bool false) w := fun w => by rw [neqR, decide_eq_true hxy]; rfl
          have gg := guardR
          have Hxy := Lib.hid hxy; clear hxy
          go_wp2
          go_quiet (fail)
          go_wp2
          go_roundw
          case rel => exact ⟨k + 1, by omega, by go_num, below_drewN' hB _, take_eq_step Htk.out Hx.out Hy.out Hxy.out⟩
          case measure => simp [intOf]; omega
        · have g0 : ∀ w, (binOp .neq 43 (aR x) (aR y)).run Tryz.prog w = .ok (.bool true) w := fun w => by rw [neqR, decide_eq_false hxy]; rfl
          have gg := guardR
          have Hxy := Lib.hid hxy; clear hxy
          go_wp2
          go_quiet (fail)
          go_wp2
          go_ret
          refine ⟨ret_bool ?_, below_drewN' hB _⟩
          rw [Hq.out, decide_eq_false (fun e => Hxy.out ?_)]
          have h1 := Hx.out
          rw [e, Hy.out] at h1
          exact (Option.some.inj h1).symm
      · obtain rfl : k = n := by omega
        have e : xs = ys := by
          rw [List.take_of_length_le (by rw [hL.len]; exact Nat.le_refl _), List.take_of_length_le (by rw [hM.len]; exact Nat.le_refl _)] at htk
          exact htk
        have He := Lib.hid e
        clear e htk
        go_wp2
        go_ret
        exact ⟨ret_bool (by rw [Hq.out, decide_eq_true He.out]), hB⟩
  · have hne : xs ≠ ys := fun e => hnm (by rw [← hL.len, ← hM.len, e])
    have Hne := Lib.hid hne; clear hne
    go_enter Tryz.func27, Tryz.ntmps27
    go_wp2
    go_ret
    exact ⟨ret_bool (by rw [Hq.out, decide_eq_false Hne.out]), Below.refl _ _⟩
set_option maxRecDepth 100000 in
theorem neqS (x y : Sale) (w : World) : (binOp .neq 24 (aS x) (aS y)).run Tryz.prog w = .ok (.bool (!decide (x = y))) w := by
  have h := eqS x y w
  rw [run_eql_struct] at h
  rw [run_neq_struct]
  generalize (Op.equalIn 10000 24 (aS x) (aS y)).run Tryz.prog w = r at h ⊢
  cases r with
  | ok v w' =>
    simp only [Result.andThen] at h ⊢
    injection h with h1 h2
    injection h1 with h1
    rw [h1, h2]
  | halt v w' =>
    simp only [Result.andThen] at h
    cases h

set_option maxRecDepth 100000 in
set_option maxHeartbeats 1600000 in
theorem sameSales_any (a : Option Addr) (n cap : Nat) (xs : List Sale) (b : Option Addr) (m capB : Nat) (ys : List Sale) (w : World) (hL : Lst w 9 cS a n cap xs) (hM : Lst w 9 cS b m capB ys) :
    Calls Tryz.prog 15 #[.slice a n cap, .slice b m capB] w (Gives w (.bool (decide (xs = ys)))) := by
  have hma : cap ≤ 9223372036854775807 := by have := hL.max; unfold maxLen at this; omega
  have hmb : capB ≤ 9223372036854775807 := by have := hM.max; unfold maxLen at this; omega
  have hlea := hL.le
  have hleb := hM.le
  obtain ⟨q, hq⟩ : ∃ q, q = decide (xs = ys) := ⟨_, rfl⟩
  rw [← hq]
  have Hq := Lib.hid hq; clear hq
  by_cases hnm : n = m
  · subst hnm
    go_enter Tryz.func15, Tryz.ntmps15
    go_wp2
    go_loopw [5] (fun i wr => ∃ k : Nat, k ≤ n ∧ i = .int .i64 k ∧ RowKit.Below w.heap.size w wr ∧ xs.take k = ys.take k) (fun i _ => n - (intOf i).toNat)
    case atStart => exact ⟨0, Nat.zero_le _, rfl, Below.refl _ _, by simp⟩
    case round =>
      obtain ⟨k, hk, rfl, hB, htk⟩ := hrel
      by_cases hlt : k < n
      · obtain ⟨x, hx⟩ : ∃ x, xs[k]? = some x := ⟨xs[k]'(by rw [hL.len]; exact hlt), by simp⟩
        obtain ⟨y, hy⟩ : ∃ y, ys[k]? = some y := ⟨ys[k]'(by rw [hM.len]; exact hlt), by simp⟩
        obtain ⟨b1, o1, rfl, hb1, hr1⟩ := hL.at_ k x hx
        obtain ⟨b2, o2, rfl, hb2, hr2⟩ := hM.at_ k y hy
        have l1 := show wr.cell? ⟨b1, o1 + k * 9, none⟩ = some (.int .i64 x.id) from rangeAt_below hB hb1 hr1 0 _ rfl
        have l2 := show wr.cell? ⟨b1, o1 + k * 9 + 1, none⟩ = some (.int .i64 x.known) from rangeAt_below hB hb1 hr1 1 _ rfl
        have l3 := show wr.cell? ⟨b1, o1 + k * 9 + 2, none⟩ = some (.int .i64 x.hour) from rangeAt_below hB hb1 hr1 2 _ rfl
        have l4 := show wr.cell? ⟨b1, o1 + k * 9 + 3, none⟩ = some (.int .i64 x.parcel) from rangeAt_below hB hb1 hr1 3 _ rfl
        have l5 := show wr.cell? ⟨b1, o1 + k * 9 + 4, none⟩ = some (.int .i64 x.price) from rangeAt_below hB hb1 hr1 4 _ rfl
        have l6 := show wr.cell? ⟨b1, o1 + k * 9 + 5, none⟩ = some (.int .i64 x.carter) from rangeAt_below hB hb1 hr1 5 _ rfl
        have l7 := show wr.cell? ⟨b1, o1 + k * 9 + 6, none⟩ = some (.int .i64 x.keeper) from rangeAt_below hB hb1 hr1 6 _ rfl
        have l8 := show wr.cell? ⟨b1, o1 + k * 9 + 7, none⟩ = some (.int .i64 x.since) from rangeAt_below hB hb1 hr1 7 _ rfl
        have l9 := show wr.cell? ⟨b1, o1 + k * 9 + 8, none⟩ = some (.int .i64 x.of_) from rangeAt_below hB hb1 hr1 8 _ rfl
        have l10 := show wr.cell? ⟨b2, o2 + k * 9, none⟩ = some (.int .i64 y.id) from rangeAt_below hB hb2 hr2 0 _ rfl
        have l11 := show wr.cell? ⟨b2, o2 + k * 9 + 1, none⟩ = some (.int .i64 y.known) from rangeAt_below hB hb2 hr2 1 _ rfl
        have l12 := show wr.cell? ⟨b2, o2 + k * 9 + 2, none⟩ = some (.int .i64 y.hour) from rangeAt_below hB hb2 hr2 2 _ rfl
        have l13 := show wr.cell? ⟨b2, o2 + k * 9 + 3, none⟩ = some (.int .i64 y.parcel) from rangeAt_below hB hb2 hr2 3 _ rfl
        have l14 := show wr.cell? ⟨b2, o2 + k * 9 + 4, none⟩ = some (.int .i64 y.price) from rangeAt_below hB hb2 hr2 4 _ rfl
        have l15 := show wr.cell? ⟨b2, o2 + k * 9 + 5, none⟩ = some (.int .i64 y.carter) from rangeAt_below hB hb2 hr2 5 _ rfl
        have l16 := show wr.cell? ⟨b2, o2 + k * 9 + 6, none⟩ = some (.int .i64 y.keeper) from rangeAt_below hB hb2 hr2 6 _ rfl
        have l17 := show wr.cell? ⟨b2, o2 + k * 9 + 7, none⟩ = some (.int .i64 y.since) from rangeAt_below hB hb2 hr2 7 _ rfl
        have l18 := show wr.cell? ⟨b2, o2 + k * 9 + 8, none⟩ = some (.int .i64 y.of_) from rangeAt_below hB hb2 hr2 8 _ rfl
        have Hx := Lib.hid hx
        have Hy := Lib.hid hy
        have Htk := Lib.hid htk
        clear hx hy htk hr1 hr2
        by_cases hxy : x = y
        · have g0 : ∀ w, (binOp .neq 24 (aS x) (aS y)).run Tryz.prog w = .ok (.bool false) w := fun w => by rw [neqS, decide_eq_true hxy]; rfl
          have gg := guardS
          have Hxy := Lib.hid hxy; clear hxy
          go_wp2
          go_quiet (fail)
          go_wp2
          go_roundw
          case rel => exact ⟨k + 1, by omega, by go_num, below_drewN' hB _, take_eq_step Htk.out Hx.out Hy.out Hxy.out⟩
          case measure => simp [intOf]; omega
        · have g0 : ∀ w, (binOp .neq 24 (aS x) (aS y)).run Tryz.prog w = .ok (.bool true) w := fun w => by rw [neqS, decide_eq_false hxy]; rfl
          have gg := guardS
          have Hxy := Lib.hid hxy; clear hxy
          go_wp2
          go_quiet (fail)
          go_wp2
          go_ret
          refine ⟨ret_bool ?_, below_drewN' hB _⟩
          rw [Hq.out, decide_eq_false (fun e => Hxy.out ?_)]
          have h1 := Hx.out
          rw [e, Hy.out] at h1
          exact (Option.some.inj h1).symm
      · obtain rfl : k = n := by omega
        have e : xs = ys := by
          rw [List.take_of_length_le (by rw [hL.len]; exact Nat.le_refl _), List.take_of_length_le (by rw [hM.len]; exact Nat.le_refl _)] at htk
          exact htk
        have He := Lib.hid e
        clear e htk
        go_wp2
        go_ret
        exact ⟨ret_bool (by rw [Hq.out, decide_eq_true He.out]), hB⟩
  · have hne : xs ≠ ys := fun e => hnm (by rw [← hL.len, ← hM.len, e])
    have Hne := Lib.hid hne; clear hne
    go_enter Tryz.func15, Tryz.ntmps15
    go_wp2
    go_ret
    exact ⟨ret_bool (by rw [Hq.out, decide_eq_false Hne.out]), Below.refl _ _⟩

end Go.Proofs.YtkeppoiomjhkpaaGreatDoor

/-
  Walks: short lists.
-/
namespace Go.Proofs.YtkeppoiomjhkpaaGreatDoor
open Go.RowKit Lg Go.Sort

def fewOf (xs : List Rate) : Bool := (xs.take 110).all (fun x => decide (x.goods.size ≤ 100)) && (decide (xs.length ≤ 30) || (decide (100 < xs.length) && decide (xs.length ≤ 103)))
def someOf (n : Nat) : Bool := decide (n ≤ 30) || (decide (200 < n) && decide (n ≤ 203))

theorem take_all_snoc {α : Type} (p : α → Bool) (l : List α) (k : Nat) (x : α) (h : l[k]? = some x) : (l.take (k + 1)).all p = ((l.take k).all p && p x) := by
  obtain ⟨h1, h2⟩ := List.getElem?_eq_some_iff.1 h
  rw [List.take_succ_eq_append_getElem h1, h2, List.all_append]
  simp

theorem all_take_false {α : Type} (p : α → Bool) (l : List α) (k m : Nat) (hkm : k < m) (x : α) (h : l[k]? = some x) (hx : p x = false) : (l.take m).all p = false := by
  rw [Bool.eq_false_iff]
  intro e
  rw [List.all_eq_true] at e
  have : x ∈ l.take m := List.mem_of_getElem? (i := k) (by rw [List.getElem?_take_of_lt hkm]; exact h)
  rw [e x this] at hx; cases hx

set_option maxRecDepth 100000 in
set_option maxHeartbeats 800000 in
theorem few_any (a : Option Addr) (n cap : Nat) (xs : List Rate) (w : World) (hL : Lst w 9 cR a n cap xs) :
    Calls Tryz.prog 18 #[.slice a n cap] w fun e w' => e = .returned (.bool (fewOf xs)) ∧ w = w' := by
  have hm : cap ≤ 9223372036854775807 := by have := hL.max; unfold maxLen at this; omega
  have hle := hL.le
  obtain ⟨q, hq⟩ : ∃ q, q = fewOf xs := ⟨_, rfl⟩
  rw [← hq]
  unfold fewOf at hq
  rw [hL.len] at hq
  have Hq := Lib.hid hq; clear hq
  have Hlen := Lib.hid hL.len
  go_enter Tryz.func18, Tryz.ntmps18
  go_wp2
  go_loop [3] (fun i => ∃ k : Nat, k ≤ n ∧ k ≤ 110 ∧ i = .int .i64 k ∧ Hid ((xs.take k).all (fun x => decide (x.goods.size ≤ 100)) = true)) (fun i => n - (intOf i).toNat)
  case atStart => exact ⟨0, Nat.zero_le _, by omega, rfl, rfl⟩
  case round =>
    obtain ⟨k, hk, hk2, rfl, Ht⟩ := hrel
    by_cases hlt : k < n
    · have hltz : (k : Int) < (n : Int) := by omega
      by_cases hlt2 : k < 110
      · have hltz2 : (k : Int) < 110 := by omega
        obtain ⟨x, hx⟩ : ∃ x, xs[k]? = some x := ⟨xs[k]'(by rw [Hlen.out]; exact hlt), by simp⟩
        obtain ⟨b, off, rfl, hb, hr⟩ := hL.at_ k x hx
        have c3 := hr 3 _ rfl
        have Hx := Lib.hid hx
        clear hr hx
        by_cases hs : x.goods.size ≤ 100
        · have t : ¬ (100 : Int) < (x.goods.size : Int) := by omega
          go_wp2
          go_round
          case rel => exact ⟨k + 1, by omega, by omega, by go_num, Lib.hid (by rw [take_all_snoc _ _ _ _ Hx.out, Ht.out]; simpa using hs)⟩
          case measure => simp [intOf]; omega
        · have t : (100 : Int) < (x.goods.size : Int) := by omega
          go_wp2
          go_ret
          exact ⟨ret_bool (by rw [Hq.out, all_take_false _ xs k 110 hlt2 x Hx.out (by simpa using hs)]; rfl), rfl⟩
      · obtain rfl : k = 110 := by omega
        have hq := Hq.out
        rw [Ht.out, Bool.true_and] at hq
        have Hq2 := Lib.hid hq; clear hq Hq
        have h30 : ¬ (n : Int) ≤ 30 := by omega
        have h100 : (100 : Int) < (n : Int) := by omega
        by_cases h103 : n ≤ 103
        · omega
        · have h103z : ¬ (n : Int) ≤ 103 := by omega
          go_wp2
          go_ret
          exact ⟨ret_bool (by rw [Hq2.out]; simp <;> omega), rfl⟩
    · obtain rfl : k = n := by omega
      have hq := Hq.out
      have e : xs.take 110 = xs.take k := by rw [List.take_of_length_le (by rw [Hlen.out]; omega), List.take_of_length_le (by rw [Hlen.out]; omega)]
      rw [e, Ht.out, Bool.true_and] at hq
      have Hq2 := Lib.hid hq; clear hq Hq e
      by_cases h30 : k ≤ 30
      · have h30z : (k : Int) ≤ 30 := by omega
        go_wp2
        go_ret
        exact ⟨ret_bool (by rw [Hq2.out]; simp <;> omega), rfl⟩
      · have h30z : ¬ (k : Int) ≤ 30 := by omega
        by_cases h100 : 100 < k
        · have h100z : (100 : Int) < (k : Int) := by omega
          by_cases h103 : k ≤ 103
          · have h103z : (k : Int) ≤ 103 := by omega
            go_wp2
            go_ret
            exact ⟨ret_bool (by rw [Hq2.out]; simp <;> omega), rfl⟩
          · have h103z : ¬ (k : Int) ≤ 103 := by omega
            go_wp2
            go_ret
            exact ⟨ret_bool (by rw [Hq2.out]; simp <;> omega), rfl⟩
        · have h100z : ¬ (100 : Int) < (k : Int) := by omega
          go_wp2
          go_ret
          exact ⟨ret_bool (by rw [Hq2.out]; simp <;> omega), rfl⟩

set_option maxRecDepth 100000 in
theorem some_any (a : Option Addr) (n cap : Nat) (w : World) (hn : n ≤ 9223372036854775807) :
    Calls Tryz.prog 5 #[.slice a n cap] w fun e w' => e = .returned (.bool (someOf n)) ∧ w = w' := by
  unfold someOf
  by_cases h30 : n ≤ 30
  · have h30z : (n : Int) ≤ 30 := by omega
    go_enter Tryz.func5, Tryz.ntmps5
    go_wp2
    go_ret
    exact ⟨ret_bool (by simp <;> omega), rfl⟩
  · have h30z : ¬ (n : Int) ≤ 30 := by omega
    by_cases h200 : 200 < n
    · have h200z : (200 : Int) < (n : Int) := by omega
      by_cases h203 : n ≤ 203
      · have h203z : (n : Int) ≤ 203 := by omega
        go_enter Tryz.func5, Tryz.ntmps5
        go_wp2
        go_ret
        exact ⟨ret_bool (by simp <;> omega), rfl⟩
      · have h203z : ¬ (n : Int) ≤ 203 := by omega
        go_enter Tryz.func5, Tryz.ntmps5
        go_wp2
        go_ret
        exact ⟨ret_bool (by simp <;> omega), rfl⟩
    · have h200z : ¬ (200 : Int) < (n : Int) := by omega
      go_enter Tryz.func5, Tryz.ntmps5
      go_wp2
      go_ret
      exact ⟨ret_bool (by simp <;> omega), rfl⟩

end Go.Proofs.YtkeppoiomjhkpaaGreatDoor
