import Derived.Test.YtollegoajlfdiaaGreatPart09
import Derived.Test.YtollegoajlfdiaaGreatPart04
import Derived.Deep.RegionHeld3
import Derived.Deep.AppendLies
import Derived.Test.YtollegoajlfdiaaGreatPart06
import Derived.Test.YtollegoajlfdiaaGreatPart01
import Derived.Laws.OwnMore
import Derived.Test.YtollegoajlfdiaaGreatPart07
import Derived.Test.YtollegoajlfdiaaGreatPart08
/-
  Walk: the first record that is refused.
-/
namespace Go.Proofs.YtollegoajlfdiaaGreat
open Go.RowKit Lg Go.Sort Go.Shelf

set_option maxRecDepth 100000 in
set_option maxHeartbeats 1600000 in
theorem checkRates_any (a : Option Addr) (n cap : Nat) (xs : List Rate) (w : World) (hL : Lst w 9 cR a n cap xs) :
    Calls Tryz.prog 32 #[.slice a n cap] w (Gives w (.tuple #[.int .i64 (checkRates xs).1, .int .i64 (checkRates xs).2])) := by
  have hm : cap ≤ 9223372036854775807 := by have := hL.max; unfold maxLen at this; omega
  have hle := hL.le
  have hlen := Lib.hid hL.len
  go_enter Tryz.func32, Tryz.ntmps32
  go_wp2
  go_loopw [9] (fun i wr => ∃ k : Nat, k ≤ n ∧ i = .int .i64 k ∧ Below w.heap.size w wr ∧ checkRates xs = chkFrom followsR (xs.take k) (xs.drop k)) (fun i _ => n - (intOf i).toNat)
  case atStart => exact ⟨0, Nat.zero_le _, rfl, Below.refl _ _, rfl⟩
  case round =>
    obtain ⟨k, hk, rfl, hB, h0⟩ := hrel
    by_cases hlt : k < n
    · obtain ⟨x, hx⟩ : ∃ x, xs[k]? = some x := ⟨xs[k]'(by rw [hlen.out]; exact hlt), by simp⟩
      obtain ⟨b, off, rfl, hb, hr⟩ := hL.at_ k x hx
      have hr' := rangeAt_below hB hb hr
      have hL2 := (hL.below hB).take k hk
      have hdrop : xs.drop k = x :: xs.drop (k + 1) := by
        obtain ⟨h1, h2⟩ := List.getElem?_eq_some_iff.1 hx
        rw [← h2, List.drop_eq_getElem_cons h1]
      have htake : xs.take (k + 1) = xs.take k ++ [x] := by
        obtain ⟨h1, h2⟩ := List.getElem?_eq_some_iff.1 hx
        rw [List.take_succ_eq_append_getElem h1, h2]
      have hlt2 : (xs.take k).length = k := by rw [List.length_take, hlen.out]; omega
      obtain ⟨v, hv⟩ : ∃ v, v = followsR (xs.take k) x := ⟨_, rfl⟩
      have hf := fun W hW => followsR_any (some ⟨b, off, none⟩) k k (xs.take k) x W hW
      rw [← hv] at hf
      have hstep : checkRates xs = if v = 0 then chkFrom followsR (xs.take (k + 1)) (xs.drop (k + 1)) else ((k : Int), v) := by
        rw [h0, hdrop, chkFrom, ← hv, htake, hlt2]
      have Hs := Lib.hid hstep; clear hstep h0 hdrop htake hv hx
      obtain ⟨A, hA⟩ : ∃ A, A = wr.alloc (.cells #[.int .i64 x.id, .int .i64 x.known, .int .i64 x.from_, .string x.goods, .int .i64 x.finder.num, .int .i64 x.finder.den, .int .i64 x.cart, .int .i64 x.store, .int .i64 x.of_] 26) := ⟨_, rfl⟩
      have kA : Blk A wr.heap.size #[.int .i64 x.id, .int .i64 x.known, .int .i64 x.from_, .string x.goods, .int .i64 x.finder.num, .int .i64 x.finder.den, .int .i64 x.cart, .int .i64 x.store, .int .i64 x.of_] 26 := hA ▸ Blk.new _ _ _
      have hBA : RowKit.Below w.heap.size w A := hA ▸ hB.alloc hB.size _
      have hLA := hL2.below (hA ▸ (Below.refl _ wr).alloc (Nat.le_refl _) _ : RowKit.Below wr.heap.size wr A)
      have cA := box_regrown hA
      have cF := regrown_call (w := A) (v := .int .i64 v) (fun W' hW' => hf W' (hLA.below hW'))
      go_wp2_with (refine wpList_load_mid rfl 26 _ rfl b (off + k * 9) rfl (cR x) _ hr' Tryz.underlying26 rfl (by kernel_rfl) ?_)
      rw [← hA]; clear hA
      refine wp_region_quiet_below (by kernel_rfl) (by kernel_rfl) ?_
      repeat (go_big_quiet_step (exact cF _ _))
      refine wpQuiet_nil ?_
      intro _ hw'
      obtain ⟨⟨dq, osq⟩, hw''⟩ := hw'
      subst hw''
      have hBn := hBA.trans ((below_regrown A dq osq).mono hBA.size)
      clear cA cF
      by_cases hv0 : v = 0
      · subst hv0
        have hs2 := Hs.out
        rw [if_pos rfl] at hs2
        have Hs2 := Lib.hid hs2; clear hs2
        go_wp2
        go_roundw
        case rel => exact ⟨k + 1, by omega, by go_num, hBn, Hs2.out⟩
        case measure => simp [intOf]; omega
      · have hs2 := Hs.out
        rw [if_neg hv0] at hs2
        have Hs2 := Lib.hid hs2; clear hs2
        have g0 : (v != 0) = true := by simpa using hv0
        go_wp2
        go_ret2
        exact ⟨by rw [Hs2.out]; rfl, hBn⟩
    · obtain rfl : k = n := by omega
      have hs2 : checkRates xs = (0, 0) := by rw [h0, List.drop_of_length_le (by rw [hlen.out]; exact Nat.le_refl _)]; rfl
      have Hs2 := Lib.hid hs2; clear hs2 h0
      go_wp2
      go_ret2
      exact ⟨by rw [Hs2.out]; rfl, hB⟩

end Go.Proofs.YtollegoajlfdiaaGreat

/-
  Walk: a list with one more record.
-/
namespace Go.Proofs.YtollegoajlfdiaaGreat
open Go.RowKit Lg Go.Sort Go.Shelf

/-- A call hands back a new list, and a number. -/
def GivesL {α : Type} (w : World) (e : TypeId) (k : Nat) (enc : α → List Value) (xs : List α) (m : Int) (en : Ending) (w' : World) : Prop :=
  ∃ v, en = .returned (.tuple #[v, .int .i64 m]) ∧ w'.ownsRow w.heap.size e k v xs.length (xs.flatMap enc) ∧ RowKit.Below w.heap.size w w'

theorem GivesL.nil {α : Type} {w w' : World} {e : TypeId} {k : Nat} {enc : α → List Value} {m : Int} (h : RowKit.Below w.heap.size w w') : GivesL w e k enc ([] : List α) m (.returned (.tuple #[.slice none 0 0, .int .i64 m])) w' :=
  ⟨_, rfl, ⟨by simp, .inl ⟨rfl, rfl⟩⟩, h⟩

/-- What stays through the last statement of AppendRate. -/
def ApS (w : World) (x : Rate) (w' : World) : Prop := Blk w' w.heap.size #[.int .i64 x.id, .int .i64 x.known, .int .i64 x.from_, .string x.goods, .int .i64 x.finder.num, .int .i64 x.finder.den, .int .i64 x.cart, .int .i64 x.store, .int .i64 x.of_] 26 ∧ RowKit.Below w.heap.size w w'

theorem ApS.all {w W W' : World} {x : Rate} (h : ApS w x W) (hb : RowKit.Below W.heap.size W W') : (∀ j, W'.cell? ⟨w.heap.size, j, none⟩ = #[.int .i64 x.id, .int .i64 x.known, .int .i64 x.from_, .string x.goods, .int .i64 x.finder.num, .int .i64 x.finder.den, .int .i64 x.cart, .int .i64 x.store, .int .i64 x.of_][j]?) ∧ ApS w x W' :=
  ⟨(h.1.below' hb).cell, h.1.below' hb, h.2.trans (hb.mono h.2.size)⟩

theorem own_ge {W : World} {base : Nat} {e : TypeId} {k : Nat} {v : Value} {n : Nat} {xs : List Value} (h : W.ownsRow base e k v n xs) : ∀ r, v.ownBlock = some r → base ≤ r := by
  rintro r hr
  obtain ⟨_, ⟨rfl, _⟩ | ⟨g, cap, cur, rfl, hb, _⟩⟩ := h
  · cases hr
  · cases hr; exact hb

theorem ApS.grown {w W W' : World} {x : Rate} {row : Option Nat} (h : ApS w x W) (hg : W.grownBy W' row) (hr : ∀ r, row = some r → w.heap.size < r) : (∀ j, W'.cell? ⟨w.heap.size, j, none⟩ = #[.int .i64 x.id, .int .i64 x.known, .int .i64 x.from_, .string x.goods, .int .i64 x.finder.num, .int .i64 x.finder.den, .int .i64 x.cart, .int .i64 x.store, .int .i64 x.of_][j]?) ∧ ApS w x W' := by
  have h1 := h.1.kept hg (fun e => Nat.lt_irrefl _ (hr _ e.symm))
  exact ⟨h1.cell, h1, h.2.grown hg h.2.size (fun k e => Nat.le_of_lt (hr k e))⟩

theorem ap_base1 {w3 w4 : World} (h : RowKit.Below w3.drew.heap.size w3.drew w4) (o : Obj) : w3.heap.size ≤ (w4.alloc o).heap.size := by
  have := h.size; rw [World.size_alloc]; exact Nat.le_succ_of_le this
theorem ap_lt {w w3 : World} (h : w.heap.size < w3.heap.size) (o : Obj) : w.heap.size < (w3.alloc o).drew.heap.size := by
  have e : (w3.alloc o).drew.heap.size = w3.heap.size + 1 := World.size_alloc w3 o
  omega
theorem ap_base2 {w3 w4 : World} {o : Obj} (h : RowKit.Below (w3.alloc o).drew.heap.size (w3.alloc o).drew w4) : w3.heap.size ≤ w4.heap.size := by
  have := h.size
  have e : (w3.alloc o).drew.heap.size = w3.heap.size + 1 := World.size_alloc w3 o
  omega

set_option maxRecDepth 100000 in
set_option maxHeartbeats 1600000 in
theorem appendRate_any (a : Option Addr) (n cap : Nat) (xs : List Rate) (x : Rate) (w : World) (hA : Plain a) (hL : Lst w 9 cR a n cap xs) :
    Calls Tryz.prog 31 #[.slice a n cap, aR x] w (GivesL w 26 9 cR (appendRate xs x).1 (appendRate xs x).2) := by
  obtain ⟨r, hr⟩ : ∃ r, r = appendRate xs x := ⟨_, rfl⟩
  rw [← hr]
  obtain ⟨c, hc⟩ : ∃ c, c = checkRates xs := ⟨_, rfl⟩
  obtain ⟨f, hf⟩ : ∃ f, f = followsR xs x := ⟨_, rfl⟩
  have hcr := fun W hW => checkRates_any a n cap xs W hW
  have hfr := fun W hW => followsR_any a n cap xs x W hW
  have hlim : f = 0 → n ≤ 1000 := by
    intro h0; rw [hf, followsR_eq] at h0
    by_cases h : 100 ≤ xs.length
    · rw [if_pos h] at h0; cases h0
    · rw [hL.len] at h; omega
  rw [← hc] at hcr
  rw [← hf] at hfr
  have Hr : Hid (r = if c.2 = 0 then (if f = 0 then (xs ++ [x], 0) else ([], f)) else ([], c.2)) := Lib.hid (by rw [hr, hc, hf]; rfl)
  clear hr hc hf
  obtain ⟨c1, c2⟩ := c
  have hB1 : RowKit.Below w.heap.size w (w.alloc (.cells #[.int .i64 x.id, .int .i64 x.known, .int .i64 x.from_, .string x.goods, .int .i64 x.finder.num, .int .i64 x.finder.den, .int .i64 x.cart, .int .i64 x.store, .int .i64 x.of_] 26)) := (Below.refl _ w).alloc (Nat.le_refl _) _
  have hcr1 := hcr _ (hL.below hB1)
  clear hcr
  go_enter Tryz.func31, Tryz.ntmps31
  go_wp2_with (fail)
  refine hcr1.mono ?_
  clear hcr1
  rintro e w2 ⟨rfl, hB2⟩
  have k2 : Blk w2 w.heap.size #[.int .i64 x.id, .int .i64 x.known, .int .i64 x.from_, .string x.goods, .int .i64 x.finder.num, .int .i64 x.finder.den, .int .i64 x.cart, .int .i64 x.store, .int .i64 x.of_] 26 := (Blk.new w _ _).below' hB2
  have hb2 : RowKit.Below w.heap.size w w2 := hB1.trans (hB2.mono hB1.size)
  have e2 := k2.cell
  by_cases hv0 : c2 = 0
  · subst hv0
    go_wp2_with (fail)
    refine (hfr w2 (hL.below hb2)).mono ?_
    clear hfr
    rintro e w3 ⟨rfl, hB3⟩
    have k3 := k2.below' hB3
    have hb3 := hb2.trans (hB3.mono hb2.size)
    clear e2
    have e3 := k3.cell
    by_cases hf0 : f = 0
    · have hn := hlim hf0
      subst hf0
      go_wp2_with (fail)
      have hL3 := hL.below hb3
      obtain ⟨i0, hi0, hz0, hz1, hz2⟩ := info_parts infoR
      have hS3 : ApS w x w3 := ⟨k3, hb3⟩
      have hlt3 := k3.lt
      clear e3
      go_region_held3 (fun w' => (∀ j, w'.cell? ⟨w.heap.size, j, none⟩ = #[.int .i64 x.id, .int .i64 x.known, .int .i64 x.from_, .string x.goods, .int .i64 x.finder.num, .int .i64 x.finder.den, .int .i64 x.cart, .int .i64 x.store, .int .i64 x.of_][j]?) ∧ ApS w x w')
        (first
          | exact ApS.all hS3 (Below.refl _ _).drew
          | exact ApS.all hS3 ((Below.refl _ w3).drew.trans hBc)
          | exact ApS.all hS3 (((Below.refl _ w3).alloc (Nat.le_refl _) _).drew)
          | exact ApS.all hS3 ((((Below.refl _ w3).alloc (Nat.le_refl _) _).drew).trans (hBc.mono (by simp)))
          | exact ApS.all hS3 (((Below.refl _ w3).drew.trans hBc).alloc hBc.size _)
          | exact ApS.grown ((ApS.all hS3 (((Below.refl _ w3).drew.trans hBc).alloc hBc.size _)).2) hgrow (fun r e => Nat.lt_of_lt_of_le hlt3 (own_ge ho r e))
          | exact ApS.grown ((ApS.all hS3 ((((Below.refl _ w3).alloc (Nat.le_refl _) _).drew).trans (hBc.mono (by simp)))).2) hgrow (fun r e => Nat.lt_of_lt_of_le (ap_lt hlt3 _) (own_ge ho r e))
          | fail)
        (first
          | (go_at_call 73; refine (cloneR_any a n cap xs _ hA hn (by first | exact hL3.below (Below.refl _ _).drew | exact hL3.below ((Below.refl _ w3).alloc (Nat.le_refl _) _).drew)).mono ?_; rintro e w4 ⟨v4, rfl, ho, hBc⟩)
          | (refine step_append_lies _ (by rfl) _ _ _ (by rfl) w3.heap.size 26 i0 _ 9 80 Tryz.underlying22 hi0 hz0 hz1 hz2 rfl (by omega) v4 n (xs.flatMap cR) (by rfl) (ho.alloc _)
              ⟨w4.heap.size, 0, none⟩ 1 1 (cR x) (by rfl) (by rfl) (World.news_of_block (cs := (cR x).toArray) (t := 26) (fr := (0, 0)) (heap_alloc_new w4 _)) (cR_one x)
              (by omega) (by unfold maxLen; omega) (by omega) (ap_base1 hBc _) (w4.heap.size + 1) (by simp) ?_; intro gg cap1 w5 hown5 hgrow hat hlt)
          | (refine step_append_lies _ (by rfl) _ _ _ (by rfl) w3.heap.size 26 i0 _ 9 80 Tryz.underlying22 hi0 hz0 hz1 hz2 rfl (by omega) v4 n (xs.flatMap cR) (by rfl) (ownsRow_base_a ho (by simp))
              ⟨w3.heap.size, 0, none⟩ 1 1 (cR x) (by rfl) (by rfl) (World.news_of_block ((Blk.drew (Blk.new w3 26 (cR x).toArray)).below' hBc)) (cR_one x)
              (by omega) (by unfold maxLen; omega) (by omega) (ap_base2 hBc) _ rfl ?_; intro gg cap1 w5 hown5 hgrow hat hlt)
          | fail)
      · have hf := (ApS.grown ((ApS.all hS3 (((Below.refl _ w3).drew.trans hBc).alloc hBc.size _)).2) hgrow (fun r e => Nat.lt_of_lt_of_le hlt3 (own_ge ho r e))).2.2
        go_wp2_with (fail)
        go_ret2
        have e := Hr.out
        simp only [if_true] at e
        rw [e]
        refine ⟨_, rfl, ?_, hf⟩
        rw [List.length_append, hL.len, List.flatMap_append, List.flatMap_singleton]
        exact ownsRow_base_a hown5 (Nat.le_of_lt hlt3)
      · have hf := (ApS.grown ((ApS.all hS3 ((((Below.refl _ w3).alloc (Nat.le_refl _) _).drew).trans (hBc.mono (by simp)))).2) hgrow (fun r e => Nat.lt_of_lt_of_le (ap_lt hlt3 _) (own_ge ho r e))).2.2
        go_wp2_with (fail)
        go_ret2
        have e := Hr.out
        simp only [if_true] at e
        rw [e]
        refine ⟨_, rfl, ?_, hf⟩
        rw [List.length_append, hL.len, List.flatMap_append, List.flatMap_singleton]
        exact ownsRow_base_a hown5 (Nat.le_of_lt hlt3)
    · have g0 : (f != 0) = true := by simpa using hf0
      have Hf0 := Lib.hid hf0; clear hf0
      go_wp2_with (fail)
      go_ret2
      have e := Hr.out
      simp only [if_true, if_neg Hf0.out] at e
      rw [e]
      exact GivesL.nil hb3
  · have g0 : (c2 != 0) = true := by simpa using hv0
    have Hv0 := Lib.hid hv0; clear hv0
    go_wp2_with (fail)
    go_ret2
    have e := Hr.out
    rw [if_neg Hv0.out] at e
    rw [e]
    exact GivesL.nil hb2

end Go.Proofs.YtollegoajlfdiaaGreat

/-
  Walks: parties, equal parts.
-/
namespace Go.Proofs.YtollegoajlfdiaaGreat
open Go.RowKit Lg Go.Sort Go.Shelf

theorem party1_any (p : Int) (w : World) : Calls Tryz.prog 101 #[.int .i64 p] w (Gives w (.bool (!inn p 1 40))) := by
  have hin := in6_any
  cases hq : inn p 1 40 <;>
  · have Hq := Lib.hid hq; clear hq
    have hin' : ∀ w, Calls Tryz.prog 66 #[.int .i64 p, .int .i64 1, .int .i64 40] w fun e w' => e = .returned (.bool _) ∧ w = w' := fun w => by
      have := hin p 1 40 w
      rw [Hq.out] at this
      exact this
    clear hin
    go_enter Tryz.func101, Tryz.ntmps101
    go_wp2_with (go_at_call 66; refine (hin' _).mono ?_; rintro e w3 ⟨rfl, rfl⟩)
    go_ret
    exact ⟨rfl, Below.refl _ _⟩

set_option maxRecDepth 100000 in
set_option maxHeartbeats 400000 in
theorem parties_any (a : Option Addr) (n cap : Nat) (xs : List Int) (w : World) (hL : Lst w 1 cI a n cap xs) :
    Calls Tryz.prog 67 #[.slice a n cap] w (Gives w (.bool (partiesOk xs))) := by
  have eg : ∀ args w, (callFunc 101 args).run Tryz.prog w = .ok (.enter 101 args) w := enters_of Tryz.func101 (by kernel_rfl) rfl
  have hc := contI_any (fun p => !inn p 1 40) 101 #[] eg a n cap xs w hL (fun W p _ => party1_any p W)
  have hin := in6_any (n : Int) 1 40 w
  unfold partiesOk
  rw [hL.len]
  generalize (xs.any fun p => !inn p 1 40) = q at *
  generalize inn (n : Int) 1 40 = r at *
  cases r with
  | false =>
    go_enter Tryz.func67, Tryz.ntmps67
    go_wp2_with (go_at_call 66; refine hin.mono ?_; rintro e w3 ⟨rfl, rfl⟩)
    go_ret
    exact ⟨rfl, Below.refl _ _⟩
  | true =>
    cases q <;>
    · go_enter Tryz.func67, Tryz.ntmps67
      go_wp2_with (first | (go_at_call 66; refine hin.mono ?_; rintro e w3 ⟨rfl, rfl⟩) | (go_at_call 100; refine hc.mono ?_; rintro e w4 ⟨rfl, hB⟩))
      go_ret
      exact ⟨rfl, hB⟩

/-- The cells behind k rounds. -/
def eqCells (pence : Int) (n k : Nat) : List Value := (List.range n).map fun i => .int .i64 (if i < k then eqVal pence n i else 0)

theorem eqCells_zero (pence : Int) (n : Nat) : (madeCells (Value.int .i64 0).cells (n * 1)).toList = eqCells pence n 0 := by
  unfold madeCells eqCells
  rw [Nat.mul_one, Array.toList_map, Array.toList_range]
  apply List.map_congr_left
  intro i _
  simp [Value.cells, Nat.mod_one]

theorem eqCells_get (pence : Int) (n k : Nat) (hk : k < n) : (eqCells pence n k)[k]? = some (.int .i64 0) := by
  unfold eqCells; simp [hk]

theorem eqCells_set (pence : Int) (n k : Nat) : (eqCells pence n k).set k (.int .i64 (eqVal pence n k)) = eqCells pence n (k + 1) := by
  apply List.ext_getElem?
  intro j
  rw [List.getElem?_set]
  unfold eqCells
  by_cases hj : k = j
  · subst hj
    by_cases hk : k < n <;> simp [hk]
  · rw [if_neg hj]
    by_cases hn : j < n
    · simp only [List.getElem?_map, List.getElem?_range hn, Option.map_some]
      by_cases h1 : j < k
      · rw [if_pos h1, if_pos (by omega)]
      · rw [if_neg h1, if_neg (by omega)]
    · simp [hn]

set_option maxRecDepth 100000 in
set_option maxHeartbeats 1600000 in
theorem equal_any (pence : Int) (a : Option Addr) (n cap : Nat) (xs : List Int) (w : World) (hL : Lst w 1 cI a n cap xs) :
    Calls Tryz.prog 26 #[.int .i64 pence, .slice a n cap] w (GivesL w 3 1 cI (equalOf pence xs).1 (equalOf pence xs).2) := by
  obtain ⟨r, hr⟩ : ∃ r, r = equalOf pence xs := ⟨_, rfl⟩
  rw [← hr]
  unfold equalOf at hr
  have hp := parties_any a n cap xs w hL
  have hin := in6_any pence 0 1000000000 w
  rcases Bool.eq_false_or_eq_true (inn pence 0 1000000000) with h1 | h1
  · rw [h1] at hin
    rcases Bool.eq_false_or_eq_true (partiesOk xs) with h2 | h2
    · rw [h2] at hp
      have hb1 := (inn_iff _ _ _).1 h1
      have hb2 : 1 ≤ n ∧ n ≤ 40 := by
        unfold partiesOk at h2
        simp only [Bool.and_eq_true, inn_iff, hL.len] at h2
        omega
      rw [h1, h2, hL.len] at hr
      simp only [Bool.and_self, if_true] at hr
      have Hr := Lib.hid hr; clear hr h1 h2
      obtain ⟨hb10, hb11⟩ := hb1
      obtain ⟨hb20, hb21⟩ := hb2
      have hq : 0 ≤ pence.tdiv n ∧ pence.tdiv n ≤ 1000000000 := by
        rw [Int.tdiv_eq_ediv_of_nonneg hb10]
        exact ⟨Int.ediv_nonneg hb10 (by omega), Int.le_trans (Int.ediv_le_self _ hb10) hb11⟩
      obtain ⟨hq1, hq2⟩ := hq
      obtain ⟨i0, hi0, hz0, hz1, hz2⟩ := info_parts infoI
      go_enter Tryz.func26, Tryz.ntmps26
      go_wp2_with (first | (go_at_call 66; refine hin.mono ?_; rintro e w3 ⟨rfl, rfl⟩) | (go_at_call 67; refine hp.mono ?_; rintro e w4 ⟨rfl, hB⟩; obtain ⟨w5, hmk, hown, hgr⟩ := run_makeSlice_full w4 w.heap.size 35 3 i0 (.int .i64 0) 1 Tryz.underlying35 hi0 hz0 hz1 .i64 .i64 n (by omega) (by rw [hz2]; omega) (by unfold maxLen; omega) hB.size))
      have hB5 := below_of_grown hB (Nat.le_refl _) hgr (fun _ h => by cases h)
      have hown0 : w5.ownsRow w.heap.size 3 1 (.slice (some ⟨w4.heap.size, 0, none⟩) n n) n (eqCells pence n 0) := by
        rw [← eqCells_zero]; exact hown
      have hg4 : w.heap.size ≤ w4.heap.size := hB.size
      generalize w4.heap.size = g at *
      clear hmk hown hgr hB hp hin
      go_loopw [21] (fun i wr => ∃ k : Nat, k ≤ n ∧ i = .int .i64 k ∧ wr.ownsRow w.heap.size 3 1 (.slice (some ⟨g, 0, none⟩) n n) n (eqCells pence n k) ∧ RowKit.Below w.heap.size w wr) (fun i _ => n - (intOf i).toNat)
      case atStart => exact ⟨0, Nat.zero_le _, rfl, hown0, hB5⟩
      case round =>
        obtain ⟨k, hk, rfl, ho, hBr⟩ := hrel
        by_cases hlt : k < n
        · have hc := ho.cellAt k (by omega)
          rw [eqCells_get pence n k hlt] at hc
          have hf := ho.frozenAt k
          have Ho := Lib.hid ho; clear ho
          by_cases hm : (k : Int) < pence % (n : Int)
          · have hv : eqVal pence n k = pence.tdiv n + 1 := by unfold eqVal; rw [if_pos hm]
            have Hv := Lib.hid hv; clear hv
            go_wp2
            go_roundw
            case rel =>
              refine ⟨k + 1, by omega, by go_num, ?_, ?_⟩
              · have h1 := Ho.out.stored k (.int .i64 (pence.tdiv n))
                have h2 := h1.1.stored k (.int .i64 (pence.tdiv n + 1))
                have h3 := h2.1
                rw [List.set_set, ← Hv.out, eqCells_set] at h3
                rw [Hv.out] at h3
                exact h3
              · exact (hBr.setCell (p := ⟨g, k, none⟩) hg4 _).setCell (p := ⟨g, k, none⟩) hg4 _
            case measure => simp [intOf]; omega
          · have hv : eqVal pence n k = pence.tdiv n := by unfold eqVal; rw [if_neg hm, Int.add_zero]
            have Hv := Lib.hid hv; clear hv
            go_wp2
            go_roundw
            case rel =>
              refine ⟨k + 1, by omega, by go_num, ?_, ?_⟩
              · have h1 := (Ho.out.stored k (.int .i64 (eqVal pence n k))).1
                rw [eqCells_set, Hv.out] at h1
                exact h1
              · exact hBr.setCell (p := ⟨g, k, none⟩) hg4 _
            case measure => simp [intOf]; omega
        · obtain rfl : k = n := by omega
          have hfin : eqCells pence k k = (((List.range k).map (eqVal pence k)).flatMap cI) := by
            rw [flat_int]
            unfold eqCells
            rw [List.map_map]
            apply List.map_congr_left
            intro i hi
            simp [List.mem_range.1 hi]
          rw [hfin] at ho
          have Ho := Lib.hid ho; clear ho hfin
          go_wp2
          go_ret2
          rw [Hr.out]
          refine ⟨_, rfl, ?_, hBr⟩
          have h := Ho.out
          rw [List.length_map, List.length_range]
          exact h
    · rw [h2] at hp
      rw [h1, h2] at hr
      have Hr := Lib.hid hr; clear hr h1 h2
      go_enter Tryz.func26, Tryz.ntmps26
      go_wp2_with (first | (go_at_call 66; refine hin.mono ?_; rintro e w3 ⟨rfl, rfl⟩) | (go_at_call 67; refine hp.mono ?_; rintro e w4 ⟨rfl, hB⟩))
      go_ret2
      rw [Hr.out]
      exact GivesL.nil hB
  · rw [h1] at hin
    rw [h1] at hr
    have Hr := Lib.hid hr; clear hr h1
    go_enter Tryz.func26, Tryz.ntmps26
    go_wp2_with (go_at_call 66; refine hin.mono ?_; rintro e w3 ⟨rfl, rfl⟩)
    go_ret2
    rw [Hr.out]
    exact GivesL.nil (Below.refl _ _)

end Go.Proofs.YtollegoajlfdiaaGreat

/-
  Walks: the records that are well-formed.
-/
namespace Go.Proofs.YtollegoajlfdiaaGreat
open Go.RowKit Lg Go.Sort

set_option maxRecDepth 100000 in
set_option maxHeartbeats 1600000 in
theorem checkSale_any (x : Sale) (w : World) : Calls Tryz.prog 63 #[aS x] w (Gives w (.int .i64 (if saleOk x then 0 else 1))) := by
  obtain ⟨r, hr⟩ : ∃ r : Int, r = (if saleOk x then 0 else 1) := ⟨_, rfl⟩
  rw [← hr]
  have Hr := Lib.hid hr; clear hr
  have hin := in6_any
  have hnm := isName_any
  have hpt := isPart_any
  have hguard := guardS
  obtain ⟨q, hq⟩ : ∃ q, q = decide (x = ({ zeroSale with id := x.id, known := x.known, of_ := x.of_ } : Sale)) := ⟨_, rfl⟩
  have hq' := fun w => eqS x ({ zeroSale with id := x.id, known := x.known, of_ := x.of_ } : Sale) w
  rw [← hq] at hq'
  dsimp only [zeroSale] at hq'
  by_cases hof : x.of_ = 0
  · have hz : (x.of_ != 0) = false := by simpa using hof
    have Hof := Lib.hid hof; clear hof
    rcases Bool.eq_false_or_eq_true (inn x.id 1 1000000) with t1 | t1
    · rcases Bool.eq_false_or_eq_true (inn x.known 0 1000000) with t2 | t2
      · rcases Bool.eq_false_or_eq_true (inn x.hour 0 x.known) with t3 | t3
        · rcases Bool.eq_false_or_eq_true (inn x.parcel 10 10000007) with t4 | t4
          · rcases Bool.eq_false_or_eq_true (inn x.price 1 1000000000) with t5 | t5
            · rcases Bool.eq_false_or_eq_true (inn x.carter 0 40) with t6 | t6
              · rcases Bool.eq_false_or_eq_true (inn x.keeper 0 40) with t7 | t7
                · rcases Bool.eq_false_or_eq_true (inn x.since 0 x.hour) with t8 | t8
                  · rcases Bool.eq_false_or_eq_true (decide (0 < x.keeper)) with t9 | t9
                    · go_enter Tryz.func63, Tryz.ntmps63
                      go_wp2_with (first | (go_at_call 66; refine (hin _ _ _ _).mono ?_; rintro e w3 ⟨rfl, rfl⟩))
                      go_ret
                      refine ⟨ret_int (by rw [Hr.out]; simp [saleOk, Hof.out, t1, t2, t3, t4, t5, t6, t7, t8, t9]), ?_⟩
                      repeat (first | assumption | exact Below.refl _ _ | refine Below.alloc ?_ (by first | omega | simp <;> omega) _ | refine Below.setCell ?_ (by simp <;> omega) _ | refine Below.drew ?_)
                    · rcases Bool.eq_false_or_eq_true (x.since == 0) with tb | tb
                      · have ta : decide (x.since = 0) = _ := tb
                        go_enter Tryz.func63, Tryz.ntmps63
                        go_wp2_with (first | (go_at_call 66; refine (hin _ _ _ _).mono ?_; rintro e w3 ⟨rfl, rfl⟩))
                        go_ret
                        refine ⟨ret_int (by rw [Hr.out]; simp [saleOk, Hof.out, t1, t2, t3, t4, t5, t6, t7, t8, t9, ta]), ?_⟩
                        repeat (first | assumption | exact Below.refl _ _ | refine Below.alloc ?_ (by first | omega | simp <;> omega) _ | refine Below.setCell ?_ (by simp <;> omega) _ | refine Below.drew ?_)
                      · have ta : decide (x.since = 0) = _ := tb
                        go_enter Tryz.func63, Tryz.ntmps63
                        go_wp2_with (first | (go_at_call 66; refine (hin _ _ _ _).mono ?_; rintro e w3 ⟨rfl, rfl⟩))
                        go_ret
                        refine ⟨ret_int (by rw [Hr.out]; simp [saleOk, Hof.out, t1, t2, t3, t4, t5, t6, t7, t8, t9, ta]), ?_⟩
                        repeat (first | assumption | exact Below.refl _ _ | refine Below.alloc ?_ (by first | omega | simp <;> omega) _ | refine Below.setCell ?_ (by simp <;> omega) _ | refine Below.drew ?_)
                  · go_enter Tryz.func63, Tryz.ntmps63
                    go_wp2_with (first | (go_at_call 66; refine (hin _ _ _ _).mono ?_; rintro e w3 ⟨rfl, rfl⟩))
                    go_ret
                    refine ⟨ret_int (by rw [Hr.out]; simp [saleOk, Hof.out, t1, t2, t3, t4, t5, t6, t7, t8]), ?_⟩
                    repeat (first | assumption | exact Below.refl _ _ | refine Below.alloc ?_ (by first | omega | simp <;> omega) _ | refine Below.setCell ?_ (by simp <;> omega) _ | refine Below.drew ?_)
                · go_enter Tryz.func63, Tryz.ntmps63
                  go_wp2_with (first | (go_at_call 66; refine (hin _ _ _ _).mono ?_; rintro e w3 ⟨rfl, rfl⟩))
                  go_ret
                  refine ⟨ret_int (by rw [Hr.out]; simp [saleOk, Hof.out, t1, t2, t3, t4, t5, t6, t7]), ?_⟩
                  repeat (first | assumption | exact Below.refl _ _ | refine Below.alloc ?_ (by first | omega | simp <;> omega) _ | refine Below.setCell ?_ (by simp <;> omega) _ | refine Below.drew ?_)
              · go_enter Tryz.func63, Tryz.ntmps63
                go_wp2_with (first | (go_at_call 66; refine (hin _ _ _ _).mono ?_; rintro e w3 ⟨rfl, rfl⟩))
                go_ret
                refine ⟨ret_int (by rw [Hr.out]; simp [saleOk, Hof.out, t1, t2, t3, t4, t5, t6]), ?_⟩
                repeat (first | assumption | exact Below.refl _ _ | refine Below.alloc ?_ (by first | omega | simp <;> omega) _ | refine Below.setCell ?_ (by simp <;> omega) _ | refine Below.drew ?_)
            · go_enter Tryz.func63, Tryz.ntmps63
              go_wp2_with (first | (go_at_call 66; refine (hin _ _ _ _).mono ?_; rintro e w3 ⟨rfl, rfl⟩))
              go_ret
              refine ⟨ret_int (by rw [Hr.out]; simp [saleOk, Hof.out, t1, t2, t3, t4, t5]), ?_⟩
              repeat (first | assumption | exact Below.refl _ _ | refine Below.alloc ?_ (by first | omega | simp <;> omega) _ | refine Below.setCell ?_ (by simp <;> omega) _ | refine Below.drew ?_)
          · go_enter Tryz.func63, Tryz.ntmps63
            go_wp2_with (first | (go_at_call 66; refine (hin _ _ _ _).mono ?_; rintro e w3 ⟨rfl, rfl⟩))
            go_ret
            refine ⟨ret_int (by rw [Hr.out]; simp [saleOk, Hof.out, t1, t2, t3, t4]), ?_⟩
            repeat (first | assumption | exact Below.refl _ _ | refine Below.alloc ?_ (by first | omega | simp <;> omega) _ | refine Below.setCell ?_ (by simp <;> omega) _ | refine Below.drew ?_)
        · go_enter Tryz.func63, Tryz.ntmps63
          go_wp2_with (first | (go_at_call 66; refine (hin _ _ _ _).mono ?_; rintro e w3 ⟨rfl, rfl⟩))
          go_ret
          refine ⟨ret_int (by rw [Hr.out]; simp [saleOk, Hof.out, t1, t2, t3]), ?_⟩
          repeat (first | assumption | exact Below.refl _ _ | refine Below.alloc ?_ (by first | omega | simp <;> omega) _ | refine Below.setCell ?_ (by simp <;> omega) _ | refine Below.drew ?_)
      · go_enter Tryz.func63, Tryz.ntmps63
        go_wp2_with (first | (go_at_call 66; refine (hin _ _ _ _).mono ?_; rintro e w3 ⟨rfl, rfl⟩))
        go_ret
        refine ⟨ret_int (by rw [Hr.out]; simp [saleOk, Hof.out, t1, t2]), ?_⟩
        repeat (first | assumption | exact Below.refl _ _ | refine Below.alloc ?_ (by first | omega | simp <;> omega) _ | refine Below.setCell ?_ (by simp <;> omega) _ | refine Below.drew ?_)
    · go_enter Tryz.func63, Tryz.ntmps63
      go_wp2_with (first | (go_at_call 66; refine (hin _ _ _ _).mono ?_; rintro e w3 ⟨rfl, rfl⟩))
      go_ret
      refine ⟨ret_int (by rw [Hr.out]; simp [saleOk, Hof.out, t1]), ?_⟩
      repeat (first | assumption | exact Below.refl _ _ | refine Below.alloc ?_ (by first | omega | simp <;> omega) _ | refine Below.setCell ?_ (by simp <;> omega) _ | refine Below.drew ?_)
  · have hz : (x.of_ != 0) = true := by simpa using hof
    have Hof := Lib.hid hof; clear hof
    rcases Bool.eq_false_or_eq_true (inn x.id 1 1000000) with t1 | t1
    · rcases Bool.eq_false_or_eq_true (inn x.known 0 1000000) with t2 | t2
      · rcases Bool.eq_false_or_eq_true (inn x.of_ 1 1000000) with t3 | t3
        · cases q
          · have Hqd := Lib.hid hq.symm; clear hq
            go_enter Tryz.func63, Tryz.ntmps63
            go_wp2_with (first | (go_at_call 66; refine (hin _ _ _ _).mono ?_; rintro e w3 ⟨rfl, rfl⟩))
            go_ret
            refine ⟨ret_int (by rw [Hr.out]; simp [saleOk, Hof.out, t1, t2, t3, Hqd.out]), ?_⟩
            repeat (first | assumption | exact Below.refl _ _ | refine Below.alloc ?_ (by first | omega | simp <;> omega) _ | refine Below.setCell ?_ (by simp <;> omega) _ | refine Below.drew ?_)
          · have Hqd := Lib.hid hq.symm; clear hq
            go_enter Tryz.func63, Tryz.ntmps63
            go_wp2_with (first | (go_at_call 66; refine (hin _ _ _ _).mono ?_; rintro e w3 ⟨rfl, rfl⟩))
            go_ret
            refine ⟨ret_int (by rw [Hr.out]; simp [saleOk, Hof.out, t1, t2, t3, Hqd.out]), ?_⟩
            repeat (first | assumption | exact Below.refl _ _ | refine Below.alloc ?_ (by first | omega | simp <;> omega) _ | refine Below.setCell ?_ (by simp <;> omega) _ | refine Below.drew ?_)
        · go_enter Tryz.func63, Tryz.ntmps63
          go_wp2_with (first | (go_at_call 66; refine (hin _ _ _ _).mono ?_; rintro e w3 ⟨rfl, rfl⟩))
          go_ret
          refine ⟨ret_int (by rw [Hr.out]; simp [saleOk, Hof.out, t1, t2, t3]), ?_⟩
          repeat (first | assumption | exact Below.refl _ _ | refine Below.alloc ?_ (by first | omega | simp <;> omega) _ | refine Below.setCell ?_ (by simp <;> omega) _ | refine Below.drew ?_)
      · go_enter Tryz.func63, Tryz.ntmps63
        go_wp2_with (first | (go_at_call 66; refine (hin _ _ _ _).mono ?_; rintro e w3 ⟨rfl, rfl⟩))
        go_ret
        refine ⟨ret_int (by rw [Hr.out]; simp [saleOk, Hof.out, t1, t2]), ?_⟩
        repeat (first | assumption | exact Below.refl _ _ | refine Below.alloc ?_ (by first | omega | simp <;> omega) _ | refine Below.setCell ?_ (by simp <;> omega) _ | refine Below.drew ?_)
    · go_enter Tryz.func63, Tryz.ntmps63
      go_wp2_with (first | (go_at_call 66; refine (hin _ _ _ _).mono ?_; rintro e w3 ⟨rfl, rfl⟩))
      go_ret
      refine ⟨ret_int (by rw [Hr.out]; simp [saleOk, Hof.out, t1]), ?_⟩
      repeat (first | assumption | exact Below.refl _ _ | refine Below.alloc ?_ (by first | omega | simp <;> omega) _ | refine Below.setCell ?_ (by simp <;> omega) _ | refine Below.drew ?_)

end Go.Proofs.YtollegoajlfdiaaGreat

/-
  Walks: fees, parties.
-/
namespace Go.Proofs.YtollegoajlfdiaaGreat
open Go.RowKit Lg Go.Sort Go.Shelf

set_option maxRecDepth 100000 in
set_option maxHeartbeats 1600000 in
theorem fees_any (r : Rate) (s : Sale) (w : World) :
    Calls Tryz.prog 24 #[aR r, aS s] w (Gives w (.tuple #[.int .i64 (feesOf r s).1.1, .int .i64 (feesOf r s).1.2, .int .i64 (feesOf r s).2])) := by
  obtain ⟨v, hv⟩ : ∃ v, v = feesOf r s := ⟨_, rfl⟩
  rw [← hv]
  have Hv := Lib.hid hv; clear hv
  have kR : Blk ((w.alloc (.cells #[.int .i64 r.id, .int .i64 r.known, .int .i64 r.from_, .string r.goods, .int .i64 r.finder.num, .int .i64 r.finder.den, .int .i64 r.cart, .int .i64 r.store, .int .i64 r.of_] 26)).alloc (.cells #[.int .i64 s.id, .int .i64 s.known, .int .i64 s.hour, .int .i64 s.parcel, .int .i64 s.price, .int .i64 s.carter, .int .i64 s.keeper, .int .i64 s.since, .int .i64 s.of_] 39)) w.heap.size #[.int .i64 r.id, .int .i64 r.known, .int .i64 r.from_, .string r.goods, .int .i64 r.finder.num, .int .i64 r.finder.den, .int .i64 r.cart, .int .i64 r.store, .int .i64 r.of_] 26 := (Blk.new w _ _).alloc _
  have kS : Blk ((w.alloc (.cells #[.int .i64 r.id, .int .i64 r.known, .int .i64 r.from_, .string r.goods, .int .i64 r.finder.num, .int .i64 r.finder.den, .int .i64 r.cart, .int .i64 r.store, .int .i64 r.of_] 26)).alloc (.cells #[.int .i64 s.id, .int .i64 s.known, .int .i64 s.hour, .int .i64 s.parcel, .int .i64 s.price, .int .i64 s.carter, .int .i64 s.keeper, .int .i64 s.since, .int .i64 s.of_] 39)) (w.heap.size + 1) #[.int .i64 s.id, .int .i64 s.known, .int .i64 s.hour, .int .i64 s.parcel, .int .i64 s.price, .int .i64 s.carter, .int .i64 s.keeper, .int .i64 s.since, .int .i64 s.of_] 39 := by
    have := Blk.new (w.alloc (.cells #[.int .i64 r.id, .int .i64 r.known, .int .i64 r.from_, .string r.goods, .int .i64 r.finder.num, .int .i64 r.finder.den, .int .i64 r.cart, .int .i64 r.store, .int .i64 r.of_] 26)) 39 #[.int .i64 s.id, .int .i64 s.known, .int .i64 s.hour, .int .i64 s.parcel, .int .i64 s.price, .int .i64 s.carter, .int .i64 s.keeper, .int .i64 s.since, .int .i64 s.of_]
    simpa using this
  have hb1 : RowKit.Below w.heap.size w ((w.alloc (.cells #[.int .i64 r.id, .int .i64 r.known, .int .i64 r.from_, .string r.goods, .int .i64 r.finder.num, .int .i64 r.finder.den, .int .i64 r.cart, .int .i64 r.store, .int .i64 r.of_] 26)).alloc (.cells #[.int .i64 s.id, .int .i64 s.known, .int .i64 s.hour, .int .i64 s.parcel, .int .i64 s.price, .int .i64 s.carter, .int .i64 s.keeper, .int .i64 s.since, .int .i64 s.of_] 39)) := ((Below.refl _ w).alloc (Nat.le_refl _) _).alloc (by simp) _
  have hC := fun W => checkRate_any r W
  have hD := fun W => checkSale_any s W
  rcases Bool.eq_false_or_eq_true (rateOk r) with hr | hr <;> simp only [hr, if_true, if_false, Bool.false_eq_true] at hC <;> have Hr := Lib.hid hr <;> clear hr
  · rcases Bool.eq_false_or_eq_true (saleOk s) with hs | hs <;> simp only [hs, if_true, if_false, Bool.false_eq_true] at hD <;> have Hs := Lib.hid hs <;> clear hs
    · by_cases hro : r.of_ ≤ 0
      · have gro : decide (0 < r.of_) = false := by simpa using hro
        have Hro := Lib.hid hro; clear hro
        by_cases hso : s.of_ ≤ 0
        · have gso : decide (0 < s.of_) = false := by simpa using hso
          have Hso := Lib.hid hso; clear hso
          obtain ⟨-, -, -, hst1, hst2, -⟩ := rateOk_bounds Hr.out Hro.out
          obtain ⟨-, h1, h2, h3, -⟩ := saleOk_bounds Hs.out Hso.out
          have hq := fee_bound h1 h2 h3 hst1 hst2
          by_cases hc : 0 < s.carter
          · have gc : decide (0 < s.carter) = true := by simpa using hc
            have Hc := Lib.hid hc; clear hc
            by_cases hk : 0 < s.keeper
            · have gk : decide (0 < s.keeper) = true := by simpa using hk
              have Hk := Lib.hid hk; clear hk
              go_enter Tryz.func24, Tryz.ntmps24
              go_wp2_with (first
                | (go_at_call 62; refine (hC _).mono ?_; rintro e w2 ⟨rfl, hB2⟩; have kS2 := kS.below' hB2; have kR2 := kR.below' hB2; have cS2 := kS2.cell; have cR2 := kR2.cell; have hb2 := hb1.trans (hB2.mono hb1.size))
                | (go_at_call 63; refine (hD _).mono ?_; rintro e w3 ⟨rfl, hB3⟩; have kS3 := kS2.below' hB3; have kR3 := kR2.below' hB3; clear cS2 cR2; have cS3 := kS3.cell; have cR3 := kR3.cell; have hb3 := hb2.trans (hB3.mono hb2.size)))
              refine bodyPost_ret (results_tmp3 rfl _ _ _) rfl ⟨?_, hb3⟩
              rw [Hv.out]; simp [feesOf, Hr.out, Hs.out, Hro.out, Hso.out, if_pos Hc.out, if_pos Hk.out]
            · have gk : decide (0 < s.keeper) = false := by simpa using hk
              have Hk := Lib.hid hk; clear hk
              go_enter Tryz.func24, Tryz.ntmps24
              go_wp2_with (first
                | (go_at_call 62; refine (hC _).mono ?_; rintro e w2 ⟨rfl, hB2⟩; have kS2 := kS.below' hB2; have kR2 := kR.below' hB2; have cS2 := kS2.cell; have cR2 := kR2.cell; have hb2 := hb1.trans (hB2.mono hb1.size))
                | (go_at_call 63; refine (hD _).mono ?_; rintro e w3 ⟨rfl, hB3⟩; have kS3 := kS2.below' hB3; have kR3 := kR2.below' hB3; clear cS2 cR2; have cS3 := kS3.cell; have cR3 := kR3.cell; have hb3 := hb2.trans (hB3.mono hb2.size)))
              refine bodyPost_ret (results_tmp3 rfl _ _ _) rfl ⟨?_, hb3⟩
              rw [Hv.out]; simp [feesOf, Hr.out, Hs.out, Hro.out, Hso.out, if_pos Hc.out, if_neg (show ¬ 0 < s.keeper by have := Hk.out; omega)]
          · have gc : decide (0 < s.carter) = false := by simpa using hc
            have Hc := Lib.hid hc; clear hc
            by_cases hk : 0 < s.keeper
            · have gk : decide (0 < s.keeper) = true := by simpa using hk
              have Hk := Lib.hid hk; clear hk
              go_enter Tryz.func24, Tryz.ntmps24
              go_wp2_with (first
                | (go_at_call 62; refine (hC _).mono ?_; rintro e w2 ⟨rfl, hB2⟩; have kS2 := kS.below' hB2; have kR2 := kR.below' hB2; have cS2 := kS2.cell; have cR2 := kR2.cell; have hb2 := hb1.trans (hB2.mono hb1.size))
                | (go_at_call 63; refine (hD _).mono ?_; rintro e w3 ⟨rfl, hB3⟩; have kS3 := kS2.below' hB3; have kR3 := kR2.below' hB3; clear cS2 cR2; have cS3 := kS3.cell; have cR3 := kR3.cell; have hb3 := hb2.trans (hB3.mono hb2.size)))
              refine bodyPost_ret (results_tmp3 rfl _ _ _) rfl ⟨?_, hb3⟩
              rw [Hv.out]; simp [feesOf, Hr.out, Hs.out, Hro.out, Hso.out, if_neg (show ¬ 0 < s.carter by have := Hc.out; omega), if_pos Hk.out]
            · have gk : decide (0 < s.keeper) = false := by simpa using hk
              have Hk := Lib.hid hk; clear hk
              go_enter Tryz.func24, Tryz.ntmps24
              go_wp2_with (first
                | (go_at_call 62; refine (hC _).mono ?_; rintro e w2 ⟨rfl, hB2⟩; have kS2 := kS.below' hB2; have kR2 := kR.below' hB2; have cS2 := kS2.cell; have cR2 := kR2.cell; have hb2 := hb1.trans (hB2.mono hb1.size))
                | (go_at_call 63; refine (hD _).mono ?_; rintro e w3 ⟨rfl, hB3⟩; have kS3 := kS2.below' hB3; have kR3 := kR2.below' hB3; clear cS2 cR2; have cS3 := kS3.cell; have cR3 := kR3.cell; have hb3 := hb2.trans (hB3.mono hb2.size)))
              refine bodyPost_ret (results_tmp3 rfl _ _ _) rfl ⟨?_, hb3⟩
              rw [Hv.out]; simp [feesOf, Hr.out, Hs.out, Hro.out, Hso.out, if_neg (show ¬ 0 < s.carter by have := Hc.out; omega), if_neg (show ¬ 0 < s.keeper by have := Hk.out; omega)]
        · have gso : decide (0 < s.of_) = true := by simpa using hso
          have Hso := Lib.hid hso; clear hso
          go_enter Tryz.func24, Tryz.ntmps24
          go_wp2_with (first
            | (go_at_call 62; refine (hC _).mono ?_; rintro e w2 ⟨rfl, hB2⟩; have kS2 := kS.below' hB2; have kR2 := kR.below' hB2; have cS2 := kS2.cell; have cR2 := kR2.cell; have hb2 := hb1.trans (hB2.mono hb1.size))
            | (go_at_call 63; refine (hD _).mono ?_; rintro e w3 ⟨rfl, hB3⟩; have kS3 := kS2.below' hB3; have kR3 := kR2.below' hB3; clear cS2 cR2; have cS3 := kS3.cell; have cR3 := kR3.cell; have hb3 := hb2.trans (hB3.mono hb2.size)))
          refine bodyPost_ret (results_tmp3 rfl _ _ _) rfl ⟨?_, hb3⟩
          rw [Hv.out]; simp [feesOf, Hr.out, Hs.out, Hro.out, show ¬ s.of_ ≤ 0 by have := Hso.out; omega]
      · have gro : decide (0 < r.of_) = true := by simpa using hro
        have Hro := Lib.hid hro; clear hro
        go_enter Tryz.func24, Tryz.ntmps24
        go_wp2_with (first
          | (go_at_call 62; refine (hC _).mono ?_; rintro e w2 ⟨rfl, hB2⟩; have kS2 := kS.below' hB2; have kR2 := kR.below' hB2; have cS2 := kS2.cell; have cR2 := kR2.cell; have hb2 := hb1.trans (hB2.mono hb1.size))
          | (go_at_call 63; refine (hD _).mono ?_; rintro e w3 ⟨rfl, hB3⟩; have kS3 := kS2.below' hB3; have kR3 := kR2.below' hB3; clear cS2 cR2; have cS3 := kS3.cell; have cR3 := kR3.cell; have hb3 := hb2.trans (hB3.mono hb2.size)))
        refine bodyPost_ret (results_tmp3 rfl _ _ _) rfl ⟨?_, hb3⟩
        rw [Hv.out]; simp [feesOf, Hr.out, Hs.out, show ¬ r.of_ ≤ 0 by have := Hro.out; omega]
    · go_enter Tryz.func24, Tryz.ntmps24
      go_wp2_with (first
        | (go_at_call 62; refine (hC _).mono ?_; rintro e w2 ⟨rfl, hB2⟩; have kS2 := kS.below' hB2; have kR2 := kR.below' hB2; have cS2 := kS2.cell; have cR2 := kR2.cell; have hb2 := hb1.trans (hB2.mono hb1.size))
        | (go_at_call 63; refine (hD _).mono ?_; rintro e w3 ⟨rfl, hB3⟩; have kS3 := kS2.below' hB3; have kR3 := kR2.below' hB3; clear cS2 cR2; have cS3 := kS3.cell; have cR3 := kR3.cell; have hb3 := hb2.trans (hB3.mono hb2.size)))
      refine bodyPost_ret (results_tmp3 rfl _ _ _) rfl ⟨?_, hb3⟩
      rw [Hv.out]; simp [feesOf, Hr.out, Hs.out]
  · go_enter Tryz.func24, Tryz.ntmps24
    go_wp2_with (first
      | (go_at_call 62; refine (hC _).mono ?_; rintro e w2 ⟨rfl, hB2⟩; have kS2 := kS.below' hB2; have kR2 := kR.below' hB2; have cS2 := kS2.cell; have cR2 := kR2.cell; have hb2 := hb1.trans (hB2.mono hb1.size))
      | (go_at_call 63; refine (hD _).mono ?_; rintro e w3 ⟨rfl, hB3⟩; have kS3 := kS2.below' hB3; have kR3 := kR2.below' hB3; clear cS2 cR2; have cS3 := kS3.cell; have cR3 := kR3.cell; have hb3 := hb2.trans (hB3.mono hb2.size)))
    refine bodyPost_ret (results_tmp3 rfl _ _ _) rfl ⟨?_, hb2⟩
    rw [Hv.out]; simp [feesOf, Hr.out]

end Go.Proofs.YtollegoajlfdiaaGreat
