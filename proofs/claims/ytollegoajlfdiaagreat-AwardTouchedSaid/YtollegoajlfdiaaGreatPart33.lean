import Derived.Test.YtollegoajlfdiaaGreatPart27
import Derived.Test.YtollegoajlfdiaaGreatPart22
import Derived.Deep.RegionHeld3
import Derived.Deep.AppendLies
import Derived.BigQuiet
import Derived.Test.YtollegoajlfdiaaGreatPart01
import Derived.Test.YtollegoajlfdiaaGreatPart32
import Derived.Test.YtollegoajlfdiaaGreatPart17
/-
  Walks: the heads of records, as the reference has them.
-/
namespace Go.Proofs.YtollegoajlfdiaaGreat
open Go.RowKit Lg Go.Sort Go.Shelf

theorem infoH : (Tryz.prog.info? 119).map (fun i => (i.zero, i.size, i.bytes)) = some (some (.agg #[.int .i64 0, .int .i64 0, .int .i64 0]), 3, 24) := by kernel_rfl

/-- A call hands back the heads. -/
def GivesH (w : World) (n : Nat) (hs : List Head) (e : Ending) (w' : World) : Prop :=
  ∃ a c, e = .returned (.slice a n c) ∧ Lst w' 3 cH a n c hs ∧ RowKit.Below w.heap.size w w'

theorem Lst.pre {α : Type} {w : World} {k : Nat} {enc : α → List Value} {a : Option Addr} {n cap : Nat} {xs : List α} (h : Lst w k enc a n cap xs) (j : Nat) (hj : j ≤ n) : Lst w k enc a j cap (xs.take j) :=
  ⟨by rw [List.length_take, h.len]; omega, Nat.le_trans hj h.le, h.max, fun i x hx => by
    have hi : i < j := by have := (List.getElem?_eq_some_iff.1 hx).1; rw [List.length_take] at this; omega
    rw [List.getElem?_take_of_lt hi] at hx
    exact h.at_ i x hx⟩

theorem map_take_snoc {α β : Type} (f : α → β) (l : List α) (k : Nat) (x : α) (h : l[k]? = some x) : (l.take (k + 1)).map f = (l.take k).map f ++ [f x] := by
  obtain ⟨h1, h2⟩ := List.getElem?_eq_some_iff.1 h
  rw [List.take_succ_eq_append_getElem h1, h2, List.map_append]; rfl

set_option maxRecDepth 100000 in
set_option maxHeartbeats 1600000 in
theorem ratesR_any (a : Option Addr) (n cap : Nat) (xs : List Rate) (w : World) (hn : n ≤ 300) (hL : Lst w 9 cR a n cap xs) :
    Calls Tryz.prog 92 #[.slice a n cap] w (GivesH w n (xs.map Rate.head)) := by
  have hm : cap ≤ 9223372036854775807 := by have := hL.max; unfold maxLen at this; omega
  have hle := hL.le
  have hlen := Lib.hid hL.len
  obtain ⟨i0, hi0, hz0, hz1, hz2⟩ := info_parts infoH
  go_enter Tryz.func92, Tryz.ntmps92
  go_wp2
  go_loopw [3, 4] (fun o i wr => ∃ k : Nat, k ≤ n ∧ i = .int .i64 k ∧ wr.ownsRow w.heap.size 119 3 o k (((xs.take k).map Rate.head).flatMap cH) ∧ RowKit.Below w.heap.size w wr) (fun _ i _ => n - (intOf i).toNat)
  case atStart => exact ⟨0, Nat.zero_le _, rfl, ⟨by simp, .inl ⟨rfl, rfl⟩⟩, Below.refl _ _⟩
  case round =>
    obtain ⟨k, hk, rfl, hor, hB⟩ := hrel
    by_cases hlt : k < n
    · have hltz : (k : Int) < (n : Int) := by omega
      obtain ⟨x, hx⟩ : ∃ x, xs[k]? = some x := ⟨xs[k]'(by rw [hlen.out]; exact hlt), by simp⟩
      obtain ⟨bb, off, rfl, hbb, hr⟩ := hL.at_ k x hx
      have m0 := hr 0 _ rfl
      have m1 := hr 1 _ rfl
      have m8 := hr 8 _ rfl
      simp only [Nat.add_zero] at m0
      have hS : ∀ W, RowKit.Below w.heap.size w W → W.cell? ⟨bb, off + k * 9, none⟩ = some (.int .i64 x.id) ∧ W.cell? ⟨bb, off + k * 9 + 1, none⟩ = some (.int .i64 x.known) ∧ W.cell? ⟨bb, off + k * 9 + 8, none⟩ = some (.int .i64 x.of_) :=
        fun W h => ⟨(h.cell (p := ⟨bb, off + k * 9, none⟩) hbb).trans m0, (h.cell (p := ⟨bb, off + k * 9 + 1, none⟩) hbb).trans m1, (h.cell (p := ⟨bb, off + k * 9 + 8, none⟩) hbb).trans m8⟩
      have HS := Lib.hid hS
      have hsn := map_take_snoc Rate.head xs k x hx
      have Hsn := Lib.hid hsn
      have hsw := hB.size
      clear hr hx hsn m0 m1 m8 hS
      generalize (xs.take k).map Rate.head = hs at *
      go_wp2_with (fail)
      go_region_held3 (fun w' => w'.cell? ⟨bb, off + k * 9, none⟩ = some (.int .i64 x.id) ∧ w'.cell? ⟨bb, off + k * 9 + 1, none⟩ = some (.int .i64 x.known) ∧ w'.cell? ⟨bb, off + k * 9 + 8, none⟩ = some (.int .i64 x.of_))
        (((with_reducible refine HS.out _ ?_); repeat (first | (with_reducible assumption) | (with_reducible exact Below.refl _ _) | (with_reducible refine Below.alloc ?_ ?_ _) | (with_reducible refine Below.setCell ?_ ?_ _) | (with_reducible refine Below.drew ?_) | omega | (simp <;> omega) | (dsimp only; omega))))
        (first
          | (refine step_append_lies _ (by rfl) _ _ _ (by rfl) w.heap.size 119 i0 _ 3 24 Tryz.underlying115 hi0 hz0 hz1 hz2 rfl (by omega) _ k (hs.flatMap cH) (by rfl) (hor.alloc _).drew ⟨wr.heap.size, 0, none⟩ 1 1 [.int .i64 x.id, .int .i64 x.known, .int .i64 x.of_] (by rfl) (by rfl) (World.news_of_block (cs := #[.int .i64 x.id, .int .i64 x.known, .int .i64 x.of_]) (t := 119) (fr := (0, 0)) (heap_alloc_new wr _)) (by simp [Value.oneCell']) (by omega) (by unfold maxLen; omega) (by omega) (by simp; omega) _ rfl ?_; intro g cap1 w3 hown3 hgrow hat hlt1; have hBn := below_of_grown ((hB.alloc hB.size _).drew) (Nat.le_refl _) hgrow (own_ge' hor))
          | fail)
      go_wp2_with (fail)
      go_roundw
      case rel =>
        refine ⟨k + 1, by omega, by go_num, ?_, hBn⟩
        rw [Hsn.out, List.flatMap_append, List.flatMap_singleton]
        exact hown3
      case measure => simp [intOf]; omega
    · obtain rfl : k = n := by omega
      rw [List.take_of_length_le (by rw [hlen.out]; exact Nat.le_refl _)] at hor
      obtain ⟨av, cv, rfl, _, hl⟩ := Lst.of_owns (k := 3) (enc := cH) (fun _ => rfl) (by omega) hor (by rw [List.length_map, hlen.out])
      go_wp2
      go_ret
      exact ⟨av, cv, rfl, hl, hB⟩

set_option maxRecDepth 100000 in
set_option maxHeartbeats 1600000 in
theorem salesR_any (a : Option Addr) (n cap : Nat) (xs : List Sale) (w : World) (hn : n ≤ 300) (hL : Lst w 9 cS a n cap xs) :
    Calls Tryz.prog 87 #[.slice a n cap] w (GivesH w n (xs.map Sale.head)) := by
  have hm : cap ≤ 9223372036854775807 := by have := hL.max; unfold maxLen at this; omega
  have hle := hL.le
  have hlen := Lib.hid hL.len
  obtain ⟨i0, hi0, hz0, hz1, hz2⟩ := info_parts infoH
  go_enter Tryz.func87, Tryz.ntmps87
  go_wp2
  go_loopw [3, 4] (fun o i wr => ∃ k : Nat, k ≤ n ∧ i = .int .i64 k ∧ wr.ownsRow w.heap.size 119 3 o k (((xs.take k).map Sale.head).flatMap cH) ∧ RowKit.Below w.heap.size w wr) (fun _ i _ => n - (intOf i).toNat)
  case atStart => exact ⟨0, Nat.zero_le _, rfl, ⟨by simp, .inl ⟨rfl, rfl⟩⟩, Below.refl _ _⟩
  case round =>
    obtain ⟨k, hk, rfl, hor, hB⟩ := hrel
    by_cases hlt : k < n
    · have hltz : (k : Int) < (n : Int) := by omega
      obtain ⟨x, hx⟩ : ∃ x, xs[k]? = some x := ⟨xs[k]'(by rw [hlen.out]; exact hlt), by simp⟩
      obtain ⟨bb, off, rfl, hbb, hr⟩ := hL.at_ k x hx
      have m0 := hr 0 _ rfl
      have m1 := hr 1 _ rfl
      have m8 := hr 8 _ rfl
      simp only [Nat.add_zero] at m0
      have hS : ∀ W, RowKit.Below w.heap.size w W → W.cell? ⟨bb, off + k * 9, none⟩ = some (.int .i64 x.id) ∧ W.cell? ⟨bb, off + k * 9 + 1, none⟩ = some (.int .i64 x.known) ∧ W.cell? ⟨bb, off + k * 9 + 8, none⟩ = some (.int .i64 x.of_) :=
        fun W h => ⟨(h.cell (p := ⟨bb, off + k * 9, none⟩) hbb).trans m0, (h.cell (p := ⟨bb, off + k * 9 + 1, none⟩) hbb).trans m1, (h.cell (p := ⟨bb, off + k * 9 + 8, none⟩) hbb).trans m8⟩
      have HS := Lib.hid hS
      have hsn := map_take_snoc Sale.head xs k x hx
      have Hsn := Lib.hid hsn
      have hsw := hB.size
      clear hr hx hsn m0 m1 m8 hS
      generalize (xs.take k).map Sale.head = hs at *
      go_wp2_with (fail)
      go_region_held3 (fun w' => w'.cell? ⟨bb, off + k * 9, none⟩ = some (.int .i64 x.id) ∧ w'.cell? ⟨bb, off + k * 9 + 1, none⟩ = some (.int .i64 x.known) ∧ w'.cell? ⟨bb, off + k * 9 + 8, none⟩ = some (.int .i64 x.of_))
        (((with_reducible refine HS.out _ ?_); repeat (first | (with_reducible assumption) | (with_reducible exact Below.refl _ _) | (with_reducible refine Below.alloc ?_ ?_ _) | (with_reducible refine Below.setCell ?_ ?_ _) | (with_reducible refine Below.drew ?_) | omega | (simp <;> omega) | (dsimp only; omega))))
        (first
          | (refine step_append_lies _ (by rfl) _ _ _ (by rfl) w.heap.size 119 i0 _ 3 24 Tryz.underlying115 hi0 hz0 hz1 hz2 rfl (by omega) _ k (hs.flatMap cH) (by rfl) (hor.alloc _).drew ⟨wr.heap.size, 0, none⟩ 1 1 [.int .i64 x.id, .int .i64 x.known, .int .i64 x.of_] (by rfl) (by rfl) (World.news_of_block (cs := #[.int .i64 x.id, .int .i64 x.known, .int .i64 x.of_]) (t := 119) (fr := (0, 0)) (heap_alloc_new wr _)) (by simp [Value.oneCell']) (by omega) (by unfold maxLen; omega) (by omega) (by simp; omega) _ rfl ?_; intro g cap1 w3 hown3 hgrow hat hlt1; have hBn := below_of_grown ((hB.alloc hB.size _).drew) (Nat.le_refl _) hgrow (own_ge' hor))
          | fail)
      go_wp2_with (fail)
      go_roundw
      case rel =>
        refine ⟨k + 1, by omega, by go_num, ?_, hBn⟩
        rw [Hsn.out, List.flatMap_append, List.flatMap_singleton]
        exact hown3
      case measure => simp [intOf]; omega
    · obtain rfl : k = n := by omega
      rw [List.take_of_length_le (by rw [hlen.out]; exact Nat.le_refl _)] at hor
      obtain ⟨av, cv, rfl, _, hl⟩ := Lst.of_owns (k := 3) (enc := cH) (fun _ => rfl) (by omega) hor (by rw [List.length_map, hlen.out])
      go_wp2
      go_ret
      exact ⟨av, cv, rfl, hl, hB⟩

set_option maxRecDepth 100000 in
set_option maxHeartbeats 1600000 in
theorem countsR_any (a : Option Addr) (n cap : Nat) (hs : List Head) (h : Head) (known : Int) (w : World) (hL : Lst w 3 cH a n cap hs) :
    Calls Tryz.prog 88 #[.slice a n cap, aH h, .int .i64 known] w (Gives w (.bool (counts hs known h))) := by
  have hm : cap ≤ 9223372036854775807 := by have := hL.max; unfold maxLen at this; omega
  have hle := hL.le
  have hlen := Lib.hid hL.len
  obtain ⟨q, hq⟩ : ∃ q, q = counts hs known h := ⟨_, rfl⟩
  rw [← hq]
  have Hq := Lib.hid hq; clear hq
  obtain ⟨W0, hW0⟩ : ∃ W0, W0 = w.alloc (.cells #[.int .i64 h.id, .int .i64 h.known, .int .i64 h.of_] 119) := ⟨_, rfl⟩
  have k0 : Blk W0 w.heap.size #[.int .i64 h.id, .int .i64 h.known, .int .i64 h.of_] 119 := by rw [hW0]; exact Blk.new w _ _
  have hB0 : RowKit.Below w.heap.size w W0 := hW0 ▸ (Below.refl _ w).alloc (Nat.le_refl _) _
  have hL := hL.below hB0
  go_enter Tryz.func88, Tryz.ntmps88
  go_wp2_with (fail)
  rw [← hW0]
  clear hW0
  go_loopw [7] (fun i wr => ∃ k : Nat, k ≤ n ∧ i = .int .i64 k ∧ RowKit.Below W0.heap.size W0 wr ∧ Hid ((hs.take k).any (fun v => voids h v known) = false)) (fun i _ => n - (intOf i).toNat)
  case atStart => exact ⟨0, Nat.zero_le _, rfl, Below.refl _ _, Lib.hid (by simp)⟩
  case round =>
    obtain ⟨k, hk, rfl, hB, Ht⟩ := hrel
    have k0 := k0.below' hB
    have hBw := hB0.trans (hB.mono hB0.size)
    have c0 := k0.cell
    by_cases hlt : k < n
    · have hltz : (k : Int) < (n : Int) := by omega
      obtain ⟨v, hv⟩ : ∃ v, hs[k]? = some v := ⟨hs[k]'(by rw [hlen.out]; exact hlt), by simp⟩
      obtain ⟨bb, off, rfl, hbb, hr⟩ := hL.at_ k v hv
      have m1 := rangeAt_below hB hbb hr 1 _ rfl
      have m2 := rangeAt_below hB hbb hr 2 _ rfl
      have hsn : (hs.take (k + 1)).any (fun v => voids h v known) = voids h v known := by
        obtain ⟨h1, h2⟩ := List.getElem?_eq_some_iff.1 hv
        rw [List.take_succ_eq_append_getElem h1, h2, List.any_append, Ht.out]; simp
      have hbad : voids h v known = true → q = false := fun e => by
        rw [Hq.out]; unfold counts
        have : (hs.any fun v => voids h v known) = true := List.any_eq_true.2 ⟨v, List.mem_of_getElem? hv, e⟩
        rw [this]; simp
      have Hsn := Lib.hid hsn
      have Hbad := Lib.hid hbad
      clear hv hr hsn hbad
      by_cases e1 : v.of_ = h.id
      · have g1 : (v.of_ == h.id) = true := by simpa using e1
        have E1 := Lib.hid e1; clear e1
        by_cases e2 : v.known ≤ known
        · have hq := Hbad.out (by simp [voids, E1.out, e2])
          subst hq
          have g2 : decide (v.known ≤ known) = true := decide_eq_true e2
          go_wp2
          go_quiet (fail)
          go_wp2
          go_ret
          exact ⟨rfl, below_drewN' hBw _⟩
        · have g2 : decide (v.known ≤ known) = false := decide_eq_false e2
          go_wp2
          go_quiet (fail)
          go_wp2
          go_roundw
          case rel => exact ⟨k + 1, by omega, by go_num, below_drewN' hB _, Lib.hid (by rw [Hsn.out]; simp [voids, e2])⟩
          case measure => simp [intOf]; omega
      · have g1 : (v.of_ == h.id) = false := by simpa using e1
        have E1 := Lib.hid e1; clear e1
        go_wp2
        go_quiet (fail)
        go_wp2
        go_roundw
        case rel => exact ⟨k + 1, by omega, by go_num, below_drewN' hB _, Lib.hid (by rw [Hsn.out]; simp [voids, E1.out])⟩
        case measure => simp [intOf]; omega
    · obtain rfl : k = n := by omega
      have ht := Ht.out
      rw [List.take_of_length_le (by rw [hlen.out]; exact Nat.le_refl _)] at ht
      have hq := Hq.out
      unfold counts at hq
      rw [ht] at hq
      have Hq2 := Lib.hid hq
      clear ht hq Hq
      by_cases e1 : h.of_ = 0
      · have g1 : (h.of_ == 0) = true := by simpa using e1
        have E1 := Lib.hid e1; clear e1
        by_cases e2 : h.known ≤ known
        · have g2 : decide (h.known ≤ known) = true := decide_eq_true e2
          go_wp2
          go_ret
          exact ⟨ret_bool (by rw [Hq2.out]; simp [E1.out, e2]), hBw⟩
        · have g2 : decide (h.known ≤ known) = false := decide_eq_false e2
          go_wp2
          go_ret
          exact ⟨ret_bool (by rw [Hq2.out]; simp [E1.out, e2]), hBw⟩
      · have g1 : (h.of_ == 0) = false := by simpa using e1
        have E1 := Lib.hid e1; clear e1
        go_wp2
        go_ret
        exact ⟨ret_bool (by rw [Hq2.out]; simp [E1.out]), hBw⟩

end Go.Proofs.YtollegoajlfdiaaGreat

/-
  Plain functions: why the reference refuses a record behind others.
-/
namespace Lg
open Go

def headedOf (l : List Head) (h : Head) : Int :=
  if l.any (fun y => decide (y.id = h.id)) then 6
  else if (match l.getLast? with | some y => decide (h.known < y.known) | none => false) then 7
  else if h.of_ = 0 then 0
  else if !(l.any fun y => decide (y.id = h.of_) && decide (y.of_ = 0)) then 5
  else if l.any (fun y => decide (y.of_ = h.of_)) then 6
  else 0

theorem follows_headed (l : List Head) (h : Head) (most : Nat) (ok : Bool) : follows l h most ok = if most ≤ l.length then 2 else if !ok then 1 else headedOf l h := rfl

theorem followsR_headed (l : List Rate) (x : Rate) : followsR l x = if 100 ≤ l.length then 2 else if !rateOk x then 1 else headedOf (l.map Rate.head) x.head := by
  unfold followsR; rw [follows_headed, List.length_map]
theorem followsS_headed (l : List Sale) (x : Sale) : followsS l x = if 200 ≤ l.length then 2 else if !saleOk x then 1 else headedOf (l.map Sale.head) x.head := by
  unfold followsS; rw [follows_headed, List.length_map]

end Lg

/-
  Walk: why the reference refuses a record behind others.
-/
namespace Go.Proofs.YtollegoajlfdiaaGreat
open Go.RowKit Lg Go.Sort Go.Shelf

theorem any_take_snoc {α : Type} (p : α → Bool) (l : List α) (k : Nat) (x : α) (h : l[k]? = some x) : (l.take (k + 1)).any p = ((l.take k).any p || p x) := by
  obtain ⟨h1, h2⟩ := List.getElem?_eq_some_iff.1 h
  rw [List.take_succ_eq_append_getElem h1, h2, List.any_append]
  simp

set_option maxRecDepth 100000 in
set_option maxHeartbeats 6400000 in
theorem headedR_any (a : Option Addr) (n cap : Nat) (hs : List Head) (h : Head) (w : World) (hL : Lst w 3 cH a n cap hs) :
    Calls Tryz.prog 93 #[.slice a n cap, aH h] w (Gives w (.int .i64 (headedOf hs h))) := by
  have hm : cap ≤ 9223372036854775807 := by have := hL.max; unfold maxLen at this; omega
  have hle := hL.le
  have hlen := Lib.hid hL.len
  obtain ⟨q, hq⟩ : ∃ q, q = headedOf hs h := ⟨_, rfl⟩
  rw [← hq]
  unfold headedOf at hq
  have Hq := Lib.hid hq; clear hq
  obtain ⟨W0, hW0⟩ : ∃ W0, W0 = w.alloc (.cells #[.int .i64 h.id, .int .i64 h.known, .int .i64 h.of_] 119) := ⟨_, rfl⟩
  have k0 : Blk W0 w.heap.size #[.int .i64 h.id, .int .i64 h.known, .int .i64 h.of_] 119 := by rw [hW0]; exact Blk.new w _ _
  have hB0 : RowKit.Below w.heap.size w W0 := hW0 ▸ (Below.refl _ w).alloc (Nat.le_refl _) _
  have hL := hL.below hB0
  go_enter Tryz.func93, Tryz.ntmps93
  go_wp2_with (fail)
  rw [← hW0]
  clear hW0
  go_loopw [5, 6, 7] (fun nm tw i wr => ∃ k : Nat, k ≤ n ∧ i = .int .i64 k ∧ nm = .bool ((hs.take k).any fun y => decide (y.id = h.of_) && decide (y.of_ = 0)) ∧ tw = .bool ((hs.take k).any fun y => decide (y.of_ = h.of_)) ∧ RowKit.Below W0.heap.size W0 wr ∧ Hid ((hs.take k).any (fun y => decide (y.id = h.id)) = false)) (fun _ _ i _ => n - (intOf i).toNat)
  case atStart => exact ⟨0, Nat.zero_le _, rfl, by simp, by simp, Below.refl _ _, Lib.hid (by simp)⟩
  case round =>
    obtain ⟨k, hk, rfl, rfl, rfl, hB, Ht⟩ := hrel
    have k0 := k0.below' hB
    have hBw := hB0.trans (hB.mono hB0.size)
    have c0 := k0.cell
    by_cases hlt : k < n
    · have hltz : (k : Int) < (n : Int) := by omega
      obtain ⟨v, hv⟩ : ∃ v, hs[k]? = some v := ⟨hs[k]'(by rw [hlen.out]; exact hlt), by simp⟩
      obtain ⟨bb, off, rfl, hbb, hr⟩ := hL.at_ k v hv
      have m0 := rangeAt_below hB hbb hr 0 _ rfl
      have m2 := rangeAt_below hB hbb hr 2 _ rfl
      simp only [Nat.add_zero] at m0
      have hs1 := any_take_snoc (fun y => decide (y.id = h.id)) hs k v hv
      have hs2 := any_take_snoc (fun y => decide (y.id = h.of_) && decide (y.of_ = 0)) hs k v hv
      have hs3 := any_take_snoc (fun y => decide (y.of_ = h.of_)) hs k v hv
      rw [Ht.out, Bool.false_or] at hs1
      have hbad : v.id = h.id → q = 6 := fun e => by
        rw [Hq.out, if_pos (List.any_eq_true.2 ⟨v, List.mem_of_getElem? hv, by simpa using e⟩)]
      have Hs1 := Lib.hid hs1
      have Hs2 := Lib.hid hs2
      have Hs3 := Lib.hid hs3
      have Hbad := Lib.hid hbad
      have hfin : ∀ d, RowKit.Below W0.heap.size W0 (wr.drewN d) := fun d => below_drewN' hB d
      have Hfin := Lib.hid hfin
      clear hv hr hs1 hs2 hs3 hbad hfin
      by_cases e1 : v.id = h.id
      · have g1 : (v.id == h.id) = true := by simpa using e1
        have hq := Hbad.out e1
        have E1 := Lib.hid e1; clear e1
        subst hq
        go_wp2
        go_quiet (fail)
        go_wp2
        go_ret
        exact ⟨rfl, below_drewN' hBw _⟩
      · have g1 : (v.id == h.id) = false := by simpa using e1
        have E1 := Lib.hid e1; clear e1
        generalize ((hs.take k).any fun y => decide (y.id = h.of_) && decide (y.of_ = 0)) = nb at *
        generalize ((hs.take k).any fun y => decide (y.of_ = h.of_)) = tb at *
        have hA : (v.of_ = 0 ∧ v.id = h.of_) ∨ (v.of_ = 0 ∧ v.id ≠ h.of_) ∨ v.of_ ≠ 0 := by omega
        cases nb <;> cases tb <;> by_cases e3 : v.of_ = h.of_ <;> rcases hA with ⟨e4, e5⟩ | ⟨e4, e5⟩ | e4
        all_goals
          first | have f1 : (v.of_ == 0) = true := by simpa using e4 | have f1 : (v.of_ == 0) = false := by simpa using e4
          first | have f2 : (v.id == h.of_) = true := by simpa using e5 | have f2 : (v.id == h.of_) = false := by simpa using e5 | skip
          first | have f3 : (v.of_ == h.of_) = true := by simpa using e3 | have f3 : (v.of_ == h.of_) = false := by simpa using e3
          have E3 := Lib.hid e3
          have E4 := Lib.hid e4
          first | have E5 := Lib.hid e5 | have E5 := Lib.hid trivial
          clear e3 e4
          try clear e5
          as_aux_lemma =>
            go_wp2
            go_quiet (fail)
            go_wp2
            go_quiet (fail)
            go_wp2
            go_quiet (fail)
            go_wp2
            go_roundw
            case rel =>
              refine ⟨k + 1, by omega, by go_num, ?_, ?_, ?_, Lib.hid (by rw [Hs1.out]; simpa using E1.out)⟩
              · rw [Hs2.out]; simp [E4.out, E5.out]
              · rw [Hs3.out]; simp [E3.out]
              · first | exact Hfin.out _ | exact below_drewN' (below_drewN' (below_drewN' hB _) _) _
            case measure => simp [intOf]; omega
    · obtain rfl : k = n := by omega
      have hz : ¬ (k : Int) < (k : Int) := by omega
      have ht := Ht.out
      rw [List.take_of_length_le (by rw [hlen.out]; exact Nat.le_refl _)] at ht ⊢
      have hq := Hq.out
      rw [ht] at hq
      simp only [Bool.false_eq_true, if_false] at hq
      have Hq2 := Lib.hid hq
      clear ht hq Hq hlt
      generalize (hs.any fun y => decide (y.id = h.of_) && decide (y.of_ = 0)) = nb at *
      generalize (hs.any fun y => decide (y.of_ = h.of_)) = tb at *
      have hlast : (k = 0 ∧ q = (if h.of_ = 0 then 0 else if (!nb) = true then 5 else if tb = true then 6 else 0)) ∨ (0 < k ∧ ∃ y : Head, y.known > h.known ∧ q = 7 ∧ wr.cell? ⟨(a.getD ⟨0, 0, none⟩).block, (a.getD ⟨0, 0, none⟩).off + (k - 1) * 3 + 1, none⟩ = some (.int .i64 y.known) ∧ ∃ b o, a = some ⟨b, o, none⟩) ∨
          (0 < k ∧ ∃ y : Head, ¬ h.known < y.known ∧ q = (if h.of_ = 0 then 0 else if (!nb) = true then 5 else if tb = true then 6 else 0) ∧ wr.cell? ⟨(a.getD ⟨0, 0, none⟩).block, (a.getD ⟨0, 0, none⟩).off + (k - 1) * 3 + 1, none⟩ = some (.int .i64 y.known) ∧ ∃ b o, a = some ⟨b, o, none⟩) := by
        have hq := Hq2.out
        by_cases hk0 : k = 0
        · have hn : hs = [] := List.eq_nil_of_length_eq_zero (by rw [hlen.out]; exact hk0)
          subst hn
          simp only [List.getLast?_nil, Bool.false_eq_true, if_false] at hq
          exact .inl ⟨hk0, hq⟩
        · obtain ⟨y, hy⟩ : ∃ y, hs[k - 1]? = some y := ⟨hs[k - 1]'(by rw [hlen.out]; omega), by simp⟩
          obtain ⟨bb, off, rfl, hbb, hr⟩ := hL.at_ _ y hy
          have m1 := rangeAt_below hB hbb hr 1 _ rfl
          have hg : hs.getLast? = some y := by rw [List.getLast?_eq_getElem?, hlen.out]; exact hy
          rw [hg] at hq
          dsimp only at hq
          by_cases e : h.known < y.known
          · rw [if_pos (by simpa using e)] at hq
            exact .inr (.inl ⟨by omega, y, e, hq, m1, _, _, rfl⟩)
          · rw [if_neg (by simpa using e)] at hq
            exact .inr (.inr ⟨by omega, y, e, hq, m1, _, _, rfl⟩)
      clear hL Hq2 k0
      have hBf := fun d => below_drewN' hBw d
      have HBf := Lib.hid hBf
      clear hBf
      rcases hlast with ⟨hk0, hq⟩ | ⟨hk0, y, e1, hq, m1, bb, off, rfl⟩ | ⟨hk0, y, e1, hq, m1, bb, off, rfl⟩
      · subst hk0
        have HQ := Lib.hid hq
        clear hq
        by_cases e0 : h.of_ = 0
        · have f0 : (h.of_ == 0) = true := by simpa using e0
          have E0 := Lib.hid e0; clear e0
          go_wp2
          go_quiet (fail)
          go_wp2
          go_ret
          exact ⟨by rw [HQ.out, if_pos E0.out]; rfl, HBf.out _⟩
        · have f0 : (h.of_ == 0) = false := by simpa using e0
          have E0 := Lib.hid e0; clear e0
          cases nb <;> cases tb
          all_goals
            go_wp2
            go_quiet (fail)
            go_wp2
            go_ret
            exact ⟨by rw [HQ.out, if_neg E0.out]; rfl, HBf.out _⟩
      · subst hq
        simp only [Option.getD_some] at m1
        have u1 : IntKind.i64.wrap ((k : Int) - 1) = (k : Int) - 1 := by rw [IntKind.wrap_i64]; omega
        have u2 : (0 : Int) ≤ (k : Int) - 1 := by omega
        have u3 : (k : Int) - 1 < (k : Int) := by omega
        have u4 : ((k : Int) - 1).toNat = k - 1 := by omega
        have u5 : (0 : Int) < (k : Int) := by omega
        have u6 : decide (h.known < y.known) = true := decide_eq_true e1
        go_wp2
        go_quiet (fail)
        go_wp2
        go_ret
        exact ⟨rfl, HBf.out _⟩
      · have HQ := Lib.hid hq
        clear hq
        simp only [Option.getD_some] at m1
        have u1 : IntKind.i64.wrap ((k : Int) - 1) = (k : Int) - 1 := by rw [IntKind.wrap_i64]; omega
        have u2 : (0 : Int) ≤ (k : Int) - 1 := by omega
        have u3 : (k : Int) - 1 < (k : Int) := by omega
        have u4 : ((k : Int) - 1).toNat = k - 1 := by omega
        have u5 : (0 : Int) < (k : Int) := by omega
        have u6 : decide (h.known < y.known) = false := decide_eq_false e1
        by_cases e0 : h.of_ = 0
        · have f0 : (h.of_ == 0) = true := by simpa using e0
          have E0 := Lib.hid e0; clear e0
          go_wp2
          go_quiet (fail)
          go_wp2
          go_ret
          exact ⟨by rw [HQ.out, if_pos E0.out]; rfl, HBf.out _⟩
        · have f0 : (h.of_ == 0) = false := by simpa using e0
          have E0 := Lib.hid e0; clear e0
          cases nb <;> cases tb
          all_goals
            go_wp2
            go_quiet (fail)
            go_wp2
            go_ret
            exact ⟨by rw [HQ.out, if_neg E0.out]; rfl, HBf.out _⟩

end Go.Proofs.YtollegoajlfdiaaGreat

/-
  Walks: the first record that the reference refuses.
-/
namespace Go.Proofs.YtollegoajlfdiaaGreat
open Go.RowKit Lg Go.Sort Go.Shelf

set_option maxRecDepth 100000 in
set_option maxHeartbeats 3200000 in
theorem checkRatesR_any (a : Option Addr) (n cap : Nat) (xs : List Rate) (w : World) (hn : n ≤ 300) (hL : Lst w 9 cR a n cap xs) :
    Calls Tryz.prog 56 #[.slice a n cap] w (Gives w (.tuple #[.int .i64 (checkRates xs).1, .int .i64 (checkRates xs).2])) := by
  have hm : cap ≤ 9223372036854775807 := by have := hL.max; unfold maxLen at this; omega
  have hle := hL.le
  have hlen := Lib.hid hL.len
  have hC := fun (x : Rate) W => checkRateR_any x W
  have hRt := fun W (h : RowKit.Below w.heap.size w W) => ratesR_any a n cap xs W hn (hL.below h)
  have HC := Lib.hid hC
  have HRt := Lib.hid hRt
  clear hC hRt
  go_enter Tryz.func56, Tryz.ntmps56
  go_wp2
  go_loopw [4] (fun i wr => ∃ k : Nat, k ≤ n ∧ k ≤ 100 ∧ i = .int .i64 k ∧ RowKit.Below w.heap.size w wr ∧ Hid (checkRates xs = chkFrom followsR (xs.take k) (xs.drop k))) (fun i _ => n - (intOf i).toNat)
  case atStart => exact ⟨0, Nat.zero_le _, by omega, rfl, Below.refl _ _, Lib.hid rfl⟩
  case round =>
    obtain ⟨k, hk, hk100, rfl, hB, H0⟩ := hrel
    by_cases hlt : k < n
    · have hltz : (k : Int) < (n : Int) := by omega
      obtain ⟨x, hx⟩ : ∃ x, xs[k]? = some x := ⟨xs[k]'(by rw [hlen.out]; exact hlt), by simp⟩
      obtain ⟨b, off, rfl, hb, hr⟩ := hL.at_ k x hx
      have hr' := rangeAt_below hB hb hr
      have hdrop : xs.drop k = x :: xs.drop (k + 1) := by
        obtain ⟨h1, h2⟩ := List.getElem?_eq_some_iff.1 hx
        rw [← h2, List.drop_eq_getElem_cons h1]
      have htake : xs.take (k + 1) = xs.take k ++ [x] := by
        obtain ⟨h1, h2⟩ := List.getElem?_eq_some_iff.1 hx
        rw [List.take_succ_eq_append_getElem h1, h2]
      have hlt2 : (xs.take k).length = k := by rw [List.length_take, hlen.out]; omega
      obtain ⟨v, hv⟩ : ∃ v, v = followsR (xs.take k) x := ⟨_, rfl⟩
      have hstep : checkRates xs = if v = 0 then chkFrom followsR (xs.take (k + 1)) (xs.drop (k + 1)) else ((k : Int), v) := by
        rw [H0.out, hdrop, chkFrom, ← hv, htake, hlt2]
      rw [followsR_headed, hlt2] at hv
      have hCx := HC.out x
      have hhx : (xs.map Rate.head)[k]? = some x.head := by rw [List.getElem?_map, hx]; rfl
      have htk : (xs.take k).map Rate.head = (xs.map Rate.head).take k := List.map_take
      rw [htk] at hv
      have Hs := Lib.hid hstep; clear hstep hdrop htake hx H0 htk
      by_cases h100 : k = 100
      · rw [if_pos (by omega)] at hv
        have hs := Hs.out
        rw [if_neg (by omega), hv] at hs
        have Hs2 := Lib.hid hs
        have g0 : ((k : Int) == 100) = true := by simp; omega
        clear hs Hs hv hhx h100 hr hr'
        go_wp2_with (fail)
        go_ret2
        exact ⟨by rw [Hs2.out]; rfl, hB⟩
      · have g0 : ((k : Int) == 100) = false := by simp; omega
        have hk99 : k < 100 := by omega
        rw [if_neg (by omega)] at hv
        cases hok : rateOk x with
        | false =>
          rw [hok] at hv hCx
          simp only [Bool.not_false, if_true] at hv
          simp only [Bool.false_eq_true, if_false] at hCx
          have hs := Hs.out
          rw [hv, if_neg (by omega)] at hs
          have Hs2 := Lib.hid hs
          clear hs Hs hv hhx h100 hr hok
          go_wp2_with (first
            | (refine wpList_load_mid rfl 26 _ rfl b (off + k * 9) rfl (cR x) _ hr' Tryz.underlying26 rfl (by kernel_rfl) ?_)
            | fail)
          refine (hCx wr).mono ?_
          rintro e w3 ⟨rfl, hB3⟩
          go_wp2_with (fail)
          go_ret2
          exact ⟨by rw [Hs2.out]; rfl, hB.trans (hB3.mono hB.size)⟩
        | true =>
          rw [hok] at hv hCx
          simp only [Bool.not_true, Bool.false_eq_true, if_false] at hv
          simp only [if_true] at hCx
          have hhead := fun (a' : Option Addr) (n' cap' : Nat) W (h : Lst W 3 cH a' n' cap' ((xs.map Rate.head).take k)) => headedR_any a' n' cap' ((xs.map Rate.head).take k) x.head W h
          rw [← hv] at hhead
          have Hh := Lib.hid hhead
          have Hhx := Lib.hid hhx
          clear hv hhx hr hok h100 hhead
          go_wp2_with (first
            | (refine wpList_load_mid rfl 26 _ rfl b (off + k * 9) rfl (cR x) _ hr' Tryz.underlying26 rfl (by kernel_rfl) ?_)
            | fail)
          refine (hCx wr).mono ?_
          rintro e w3 ⟨rfl, hB3⟩
          have hB3 := hB.trans (hB3.mono hB.size)
          go_wp2_with (fail)
          refine (HRt.out w3 hB3).mono ?_
          rintro e w4 ⟨ah, ch, rfl, hLh, hB4⟩
          have hB4 := hB3.trans (hB4.mono hB3.size)
          obtain ⟨bh, oh, rfl, hbh, hrh⟩ := hLh.at_ k _ Hhx.out
          have hmh : ch ≤ 9223372036854775807 := by have := hLh.max; unfold maxLen at this; omega
          have hlh := hLh.le
          have c0 := cell_regrown (hrh 0 _ rfl)
          have c1 := cell_regrown (hrh 1 _ rfl)
          have c2 := cell_regrown (hrh 2 _ rfl)
          simp only [Nat.add_zero] at c0
          have cF := regrown_call (w := w4) (v := .int .i64 v) (fun W' h => Hh.out _ k ch W' ((hLh.below h).pre k (by omega)))
          have hkz : (0 : Int) ≤ (k : Int) := by omega
          have hkn : (k : Int) ≤ (n : Int) := by omega
          have hkc : (k : Int) ≤ (ch : Int) := by omega
          clear hrh hLh hr' hCx
          go_wp2_with (fail)
          refine wp_region_quiet_below (by kernel_rfl) (by kernel_rfl) ?_
          repeat (go_big_quiet_step (with_reducible exact cF _ _))
          refine wpQuiet_nil ?_
          intro _ hw'
          obtain ⟨⟨dq, osq⟩, hw''⟩ := hw'
          subst hw''
          have hBn := hB4.trans ((below_regrown w4 dq osq).mono hB4.size)
          clear c0 c1 c2 cF
          by_cases hv0 : v = 0
          · subst hv0
            have hs2 := Hs.out
            rw [if_pos rfl] at hs2
            have Hs2 := Lib.hid hs2; clear hs2
            go_wp2_with (fail)
            go_roundw
            case rel => exact ⟨k + 1, by omega, by omega, by go_num, hBn, Hs2⟩
            case measure => simp [intOf]; omega
          · have hs2 := Hs.out
            rw [if_neg hv0] at hs2
            have Hs2 := Lib.hid hs2; clear hs2
            have g1 : (v != 0) = true := by simpa using hv0
            go_wp2_with (fail)
            go_ret2
            exact ⟨by rw [Hs2.out]; rfl, hBn⟩
    · obtain rfl : k = n := by omega
      have h0 := H0.out
      rw [List.drop_eq_nil_of_le (by rw [hlen.out]; exact Nat.le_refl _)] at h0
      have H1 := Lib.hid h0
      clear h0 H0
      go_wp2_with (fail)
      go_ret2
      exact ⟨by rw [H1.out]; rfl, hB⟩

end Go.Proofs.YtollegoajlfdiaaGreat

/-
  Plain functions: the rate in force, as the reference finds it.
-/
namespace Lg
open Go

def getI (l : List Rate) (i : Int) : Rate := l.getD i.toNat zeroRate

def bestI (l : List Rate) (goods : ByteArray) (hour known : Int) : Nat → Int
  | 0 => -1
  | k + 1 =>
    if counts (l.map Rate.head) known (l.getD k zeroRate).head = true ∧ (l.getD k zeroRate).goods = goods ∧ (l.getD k zeroRate).from_ ≤ hour ∧ (bestI l goods hour known k < 0 ∨ (getI l (bestI l goods hour known k)).from_ ≤ (l.getD k zeroRate).from_)
    then k else bestI l goods hour known k

theorem bestI_bd (l : List Rate) (goods : ByteArray) (hour known : Int) (k : Nat) : -1 ≤ bestI l goods hour known k ∧ bestI l goods hour known k < k := by
  induction k with
  | zero => simp [bestI]
  | succ k ih =>
    rw [bestI]
    split
    · omega
    · omega

def forceI (l : List Rate) (goods : ByteArray) (hour known : Int) : Int :=
  if bestI l goods hour known l.length < 0 then bestI l ⟨#[]⟩ hour known l.length else bestI l goods hour known l.length

def pickR (l : List Rate) (goods : ByteArray) (hour known : Int) (k : Nat) : Rate := if bestI l goods hour known k < 0 then zeroRate else getI l (bestI l goods hour known k)

theorem pickR_id {l : List Rate} (hv : ∀ x ∈ l, 1 ≤ x.id) (goods : ByteArray) (hour known : Int) (k : Nat) (hk : k ≤ l.length) : (pickR l goods hour known k).id = 0 ↔ bestI l goods hour known k < 0 := by
  unfold pickR
  by_cases h : bestI l goods hour known k < 0
  · rw [if_pos h]; exact ⟨fun _ => h, fun _ => rfl⟩
  · rw [if_neg h]
    have hb := bestI_bd l goods hour known k
    constructor
    · intro e
      have hlt : (bestI l goods hour known k).toNat < l.length := by omega
      have hm : getI l (bestI l goods hour known k) ∈ l := by
        unfold getI; rw [List.getD_eq_getElem?_getD, List.getElem?_eq_getElem hlt]; exact List.getElem_mem _
      have := hv _ hm
      omega
    · intro e; exact absurd e h

theorem filter_take_one {α : Type} (p : α → Bool) (l : List α) (k : Nat) (x : α) (h : l[k]? = some x) : (l.take (k + 1)).filter p = (l.take k).filter p ++ (if p x = true then [x] else []) := by
  obtain ⟨h1, h2⟩ := List.getElem?_eq_some_iff.1 h
  rw [List.take_succ_eq_append_getElem h1, h2, List.filter_append]
  congr 1
  by_cases hp : p x = true
  · rw [if_pos hp]; simp [hp]
  · rw [if_neg hp]; simp [hp]

theorem fold_best {l : List Rate} (hv : ∀ x ∈ l, 1 ≤ x.id) (goods : ByteArray) (hour known : Int) (k : Nat) (hk : k ≤ l.length) :
    ((l.take k).filter fun x => counts (l.map Rate.head) known x.head).foldl (bestStep goods hour) (zeroRate, zeroRate) = (pickR l goods hour known k, if goods = ⟨#[]⟩ then zeroRate else pickR l ⟨#[]⟩ hour known k) := by
  induction k with
  | zero => simp [pickR, bestI]
  | succ k ih =>
    have hlt : k < l.length := by omega
    have ih := ih (by omega)
    have hx : l[k]? = some l[k] := List.getElem?_eq_getElem hlt
    have hxd : l.getD k zeroRate = l[k] := by rw [List.getD_eq_getElem?_getD, hx]; rfl
    have hgk : getI l (k : Int) = l[k] := by unfold getI; rw [Int.toNat_natCast]; exact hxd
    have hstep : ∀ g, pickR l g hour known (k + 1) = if counts (l.map Rate.head) known l[k].head = true ∧ l[k].goods = g ∧ l[k].from_ ≤ hour ∧ (bestI l g hour known k < 0 ∨ (getI l (bestI l g hour known k)).from_ ≤ l[k].from_) then l[k] else pickR l g hour known k := by
      intro g
      by_cases hc : counts (l.map Rate.head) known l[k].head = true ∧ l[k].goods = g ∧ l[k].from_ ≤ hour ∧ (bestI l g hour known k < 0 ∨ (getI l (bestI l g hour known k)).from_ ≤ l[k].from_)
      · rw [if_pos hc]
        unfold pickR
        rw [bestI, hxd, if_pos hc, if_neg (by omega), hgk]
      · rw [if_neg hc]
        unfold pickR
        rw [bestI, hxd, if_neg hc]
    have hid := fun g => pickR_id hv g hour known k (by omega)
    have hfr : ∀ g, ¬ bestI l g hour known k < 0 → (pickR l g hour known k) = getI l (bestI l g hour known k) := fun g h => by unfold pickR; rw [if_neg h]
    have hs1 := hstep goods
    have hs2 := hstep ⟨#[]⟩
    clear hstep
    rw [filter_take_one _ l k _ hx, List.foldl_append, ih]
    clear ih hgk hxd hx
    generalize pickR l goods hour known (k + 1) = P1 at *
    generalize pickR l ⟨#[]⟩ hour known (k + 1) = P2 at *
    generalize l[k] = x at *
    by_cases hc : counts (l.map Rate.head) known x.head = true
    · rw [if_pos hc, List.foldl_cons, List.foldl_nil]
      have hcond : ∀ g, ((pickR l g hour known k).id = 0 ∨ (pickR l g hour known k).from_ ≤ x.from_) ↔ (bestI l g hour known k < 0 ∨ (getI l (bestI l g hour known k)).from_ ≤ x.from_) := by
        intro g
        rw [hid]
        by_cases h : bestI l g hour known k < 0
        · exact ⟨fun _ => .inl h, fun _ => .inl h⟩
        · rw [hfr g h]
      unfold bestStep
      by_cases hg : x.goods = goods
      · rw [if_pos hg]
        dsimp only
        have p2 : (if goods = ⟨#[]⟩ then zeroRate else P2) = if goods = ⟨#[]⟩ then zeroRate else pickR l ⟨#[]⟩ hour known k := by
          by_cases h0 : goods = ⟨#[]⟩
          · rw [if_pos h0, if_pos h0]
          · rw [if_neg (fun e => h0 (hg ▸ e.2.1))] at hs2
            rw [hs2]
        rw [p2]
        by_cases hq : x.from_ ≤ hour ∧ ((pickR l goods hour known k).id = 0 ∨ (pickR l goods hour known k).from_ ≤ x.from_)
        · rw [if_pos hq]
          rw [if_pos ⟨hc, hg, hq.1, (hcond goods).1 hq.2⟩] at hs1
          rw [hs1]
        · rw [if_neg hq]
          rw [if_neg (fun e => hq ⟨e.2.2.1, (hcond goods).2 e.2.2.2⟩)] at hs1
          rw [hs1]
      · rw [if_neg hg]
        dsimp only
        rw [if_neg (fun e => hg e.2.1)] at hs1
        rw [hs1]
        by_cases h0 : goods = ⟨#[]⟩
        · rw [if_pos h0, if_pos h0]
          rw [if_neg (fun e => hg (by rw [h0]; exact e.1))]
        · rw [if_neg h0, if_neg h0]
          by_cases hq : x.goods = ⟨#[]⟩ ∧ x.from_ ≤ hour ∧ ((pickR l ⟨#[]⟩ hour known k).id = 0 ∨ (pickR l ⟨#[]⟩ hour known k).from_ ≤ x.from_)
          · rw [if_pos hq]
            rw [if_pos ⟨hc, hq.1, hq.2.1, (hcond _).1 hq.2.2⟩] at hs2
            rw [hs2]
          · rw [if_neg hq]
            rw [if_neg (fun e => hq ⟨e.2.1, e.2.2.1, (hcond _).2 e.2.2.2⟩)] at hs2
            rw [hs2]
    · rw [if_neg hc, List.foldl_nil]
      rw [if_neg (fun e => hc e.1)] at hs1 hs2
      rw [hs1, hs2]

theorem inForce_ref {l : List Rate} (hv : ∀ x ∈ l, 1 ≤ x.id) (goods : ByteArray) (hour known : Int) :
    inForce l goods hour known = if forceI l goods hour known < 0 then (zeroRate, false) else (getI l (forceI l goods hour known), true) := by
  have hf := fold_best hv goods hour known l.length (Nat.le_refl _)
  rw [List.take_length] at hf
  have hb : bestOf l goods hour known = (pickR l goods hour known l.length, if goods = ⟨#[]⟩ then zeroRate else pickR l ⟨#[]⟩ hour known l.length) := hf
  have h1 := pickR_id hv goods hour known l.length (Nat.le_refl _)
  have h2 := pickR_id hv ⟨#[]⟩ hour known l.length (Nat.le_refl _)
  have hnn : ∀ g, 0 ≤ (pickR l g hour known l.length).id := fun g => by
    unfold pickR
    by_cases h : bestI l g hour known l.length < 0
    · rw [if_pos h]; exact Int.le_refl 0
    · rw [if_neg h]
      have hbd := bestI_bd l g hour known l.length
      have hlt : (bestI l g hour known l.length).toNat < l.length := by omega
      have hm : getI l (bestI l g hour known l.length) ∈ l := by
        unfold getI; rw [List.getD_eq_getElem?_getD, List.getElem?_eq_getElem hlt]; exact List.getElem_mem _
      have := hv _ hm; omega
  have n1 := hnn goods
  have n2 := hnn ⟨#[]⟩
  unfold inForce
  rw [hb]
  dsimp only
  unfold forceI
  by_cases hA : bestI l goods hour known l.length < 0
  · rw [if_pos hA, if_neg (by have := h1.2 hA; omega)]
    by_cases h0 : goods = ⟨#[]⟩
    · rw [if_pos h0]
      rw [h0] at hA
      rw [if_pos hA]; rfl
    · rw [if_neg h0]
      by_cases hB : bestI l ⟨#[]⟩ hour known l.length < 0
      · rw [if_pos hB]
        have : pickR l ⟨#[]⟩ hour known l.length = zeroRate := by unfold pickR; rw [if_pos hB]
        rw [this]; rfl
      · rw [if_neg hB]
        have e : pickR l ⟨#[]⟩ hour known l.length = getI l (bestI l ⟨#[]⟩ hour known l.length) := by unfold pickR; rw [if_neg hB]
        have : 0 < (pickR l ⟨#[]⟩ hour known l.length).id := by have : ¬ (pickR l ⟨#[]⟩ hour known l.length).id = 0 := fun q => hB (h2.1 q); omega
        rw [decide_eq_true this, e]
  · have : 0 < (pickR l goods hour known l.length).id := by have : ¬ (pickR l goods hour known l.length).id = 0 := fun q => hA (h1.1 q); omega
    rw [if_neg hA, if_pos this, if_neg hA]
    have e : pickR l goods hour known l.length = getI l (bestI l goods hour known l.length) := by unfold pickR; rw [if_neg hA]
    rw [e]

end Lg
