import Derived.Test.YtollegoajlfdiaaGreatPart19
import Derived.Test.YtollegoajlfdiaaGreatPart23
import Derived.Test.YtollegoajlfdiaaGreatPart16
import Derived.Test.YtollegoajlfdiaaGreatPart22
import Derived.Deep.Slices
import Derived.OpenShut
/-
  Walk: what a party gets of an award.
-/
namespace Go.Proofs.YtollegoajlfdiaaGreat
open Go.RowKit Lg Go.Sort Go.Shelf

/-- An award as a value of the program. -/
def aAw (price cart store find rest : Int) (v : Value) : Value := .agg #[.int .i64 price, .int .i64 cart, .int .i64 store, .int .i64 find, .int .i64 rest, v]

set_option maxRecDepth 100000 in
set_option maxHeartbeats 1600000 in
theorem of_any (price cart store find rest party : Int) (a : Option Addr) (n cap : Nat) (xs : List Share) (w : World) (hL : Lst w 2 cSh a n cap xs) (hn : n ≤ 1100) (hx : ∀ x ∈ xs, -1000000000000 ≤ x.pence ∧ x.pence ≤ 1000000000000) :
    Calls Tryz.prog 40 #[.agg #[.int .i64 price, .int .i64 cart, .int .i64 store, .int .i64 find, .int .i64 rest, .slice a n cap], .int .i64 party] w (Gives w (.int .i64 (sumP xs party))) := by
  have hm : cap ≤ 9223372036854775807 := by have := hL.max; unfold maxLen at this; omega
  have hle := hL.le
  have hlen := Lib.hid hL.len
  go_enter Tryz.func40, Tryz.ntmps40
  go_wp2
  go_loopw [5, 11] (fun s i wr => ∃ k : Nat, k ≤ n ∧ i = .int .i64 k ∧ s = .int .i64 (sumP (xs.take k) party) ∧ RowKit.Below w.heap.size w wr) (fun _ i _ => n - (intOf i).toNat)
  case atStart => exact ⟨0, Nat.zero_le _, rfl, rfl, by repeat (first | (with_reducible assumption) | (with_reducible exact Below.refl _ _) | (with_reducible refine Below.alloc ?_ ?_ _) | (with_reducible refine Below.setCell ?_ ?_ _) | (with_reducible refine Below.drew ?_) | omega | (simp <;> omega) | (dsimp only; omega))⟩
  case round =>
    obtain ⟨k, hk, rfl, rfl, hB⟩ := hrel
    have hBs := hB.size
    by_cases hlt : k < n
    · have hltz : (k : Int) < (n : Int) := by omega
      obtain ⟨x, hxk⟩ : ∃ x, xs[k]? = some x := ⟨xs[k]'(by rw [hlen.out]; exact hlt), by simp⟩
      obtain ⟨bb, off, rfl, hbb, hr⟩ := (hL.below hB).at_ k x hxk
      obtain ⟨hx3, hx4⟩ := hx x (List.mem_of_getElem? hxk)
      have htk : sumP (xs.take (k + 1)) party = sumP (xs.take k) party + (if x.party = party then x.pence else 0) := by
        obtain ⟨h1, h2⟩ := List.getElem?_eq_some_iff.1 hxk
        rw [List.take_succ_eq_append_getElem h1, h2, sumP_append]
        simp [sumP]
      have hsb := sumP_bound (xs.take k) party 1000000000000 (by omega) (fun y hy => hx y (List.mem_of_mem_take hy))
      have hlk : (xs.take k).length ≤ 1100 := Nat.le_trans (List.length_take_le _ _) (by omega)
      obtain ⟨c, hc⟩ : ∃ c, c = sumP (xs.take k) party := ⟨_, rfl⟩
      rw [← hc] at hsb htk ⊢
      obtain ⟨hcb1, hcb2⟩ : -2000000000000000 ≤ c ∧ c ≤ 2000000000000000 := by omega
      have Hxk := Lib.hid hxk
      clear hsb hlk hc hxk hlt
      by_cases hp : x.party = party
      · rw [if_pos hp] at htk
        have Htk := Lib.hid htk
        clear htk
        have hpe : (x.party == party) = true := by simpa using hp
        have Hp := Lib.hid hp
        clear hp
        go_wp2_with (first
          | (refine wpList_load_mid rfl 69 _ rfl bb (off + k * 2) rfl (cSh x) _ hr Tryz.underlying69 rfl (by kernel_rfl) ?_)
          | fail)
        all_goals go_roundw
        case rel => exact ⟨k + 1, by omega, by go_num, by rw [Htk.out], by repeat (first | (with_reducible assumption) | (with_reducible exact Below.refl _ _) | (with_reducible refine Below.alloc ?_ ?_ _) | (with_reducible refine Below.setCell ?_ ?_ _) | (with_reducible refine Below.drew ?_) | omega | (simp <;> omega) | (dsimp only; omega))⟩
        case measure => simp [intOf]; omega
      · rw [if_neg hp] at htk
        have Htk := Lib.hid htk
        clear htk
        have hpe : (x.party == party) = false := by simpa using hp
        go_wp2_with (first
          | (refine wpList_load_mid rfl 69 _ rfl bb (off + k * 2) rfl (cSh x) _ hr Tryz.underlying69 rfl (by kernel_rfl) ?_)
          | fail)
        all_goals go_roundw
        case rel => exact ⟨k + 1, by omega, by go_num, by rw [Htk.out, Int.add_zero], by repeat (first | (with_reducible assumption) | (with_reducible exact Below.refl _ _) | (with_reducible refine Below.alloc ?_ ?_ _) | (with_reducible refine Below.setCell ?_ ?_ _) | (with_reducible refine Below.drew ?_) | omega | (simp <;> omega) | (dsimp only; omega))⟩
        case measure => simp [intOf]; omega
    · obtain rfl : k = n := by omega
      have hltz : ¬ (k : Int) < (k : Int) := by omega
      rw [List.take_of_length_le (by rw [hlen.out]; exact Nat.le_refl _)]
      go_wp2
      go_ret
      exact ⟨rfl, hB⟩

end Go.Proofs.YtollegoajlfdiaaGreat

/-
  Walk: the law of changes.
-/
namespace Go.Proofs.YtollegoajlfdiaaGreat
open Go.RowKit Lg Go.Sort Go.Shelf Go.Maps

theorem changeErr_ok {l m : List Share} (h : changeErr l m = 0) : (mergeableOf l = 0) ∧ mergeableOf m = 0 := by
  unfold changeErr at h
  by_cases h1 : mergeableOf l = 0
  · rw [if_pos h1] at h; exact ⟨h1, h⟩
  · rw [if_neg h1] at h; exact absurd h h1

theorem asc_length : ∀ (l : List Int) (lo hi : Int), l.Pairwise (· < ·) → (∀ x ∈ l, lo ≤ x ∧ x ≤ hi) → (l.length : Int) ≤ max 0 (hi - lo + 1)
  | [], lo, hi, _, _ => by simp; omega
  | x :: l, lo, hi, hp, h => by
    rw [List.pairwise_cons] at hp
    have h1 := asc_length l (x + 1) hi hp.2 (fun y hy => ⟨by have := hp.1 y hy; omega, (h y (List.mem_cons_of_mem _ hy)).2⟩)
    have h2 := h x List.mem_cons_self
    rw [List.length_cons]
    omega

theorem changed_bounds {xs zs ys : List Share} (hn : xs.length ≤ 60) (hm : zs.length ≤ 60) (h : changeErr xs zs = 0) (hl : ListOf (fun p => sumP zs p - sumP xs p) ys) :
    ys.length ≤ 41 ∧ (∀ x ∈ ys, -1000000000000 ≤ x.pence ∧ x.pence ≤ 1000000000000) ∧ ∀ x ∈ ys, x.pence ≠ 0 := by
  obtain ⟨h1, h2⟩ := changeErr_ok h
  obtain ⟨_, g1⟩ := mergeable_ok h1
  obtain ⟨_, g2⟩ := mergeable_ok h2
  have b1 := fun p => sumP_bound xs p 1000000000 (by omega) (fun x hx => (g1 x hx).2.2)
  have b2 := fun p => sumP_bound zs p 1000000000 (by omega) (fun x hx => (g2 x hx).2.2)
  refine ⟨?_, fun x hx => ?_, fun x hx => ?_⟩
  · have h3 := asc_length (ys.map Share.party) 0 40 hl.1 (fun p hp => by
      obtain ⟨x, hx, rfl⟩ := List.mem_map.1 hp
      have h4 := (hl.2.1 x hx).2
      dsimp only at h4
      by_cases h5 : sumP zs x.party ≠ 0
      · obtain ⟨y, hy, hy2⟩ := sumP_party h5
        have := g2 y hy; omega
      · have h6 : sumP xs x.party ≠ 0 := by omega
        obtain ⟨y, hy, hy2⟩ := sumP_party h6
        have := g1 y hy; omega)
    rw [List.length_map] at h3
    omega
  · rw [(hl.2.1 x hx).1]
    have := b1 x.party
    have := b2 x.party
    dsimp only
    omega
  · rw [(hl.2.1 x hx).1]; exact (hl.2.1 x hx).2

set_option maxRecDepth 100000 in
set_option maxHeartbeats 3200000 in
theorem lawChange_any (a : Option Addr) (n cap : Nat) (xs : List Share) (b : Option Addr) (m capB : Nat) (zs : List Share) (w : World) (hL : Lst w 2 cSh a n cap xs) (hM : Lst w 2 cSh b m capB zs) :
    Calls Tryz.prog 11 #[.slice a n cap, .slice b m capB] w (Gives w (.bool true)) := by
  have hp := paid_any
  by_cases h60 : 60 < n
  · have hz : (60 : Int) < (n : Int) := by omega
    clear hL hM
    go_enter Tryz.func11, Tryz.ntmps11
    go_wp2_with (go_at_call 16; refine (hp _).mono ?_; rintro e w2 ⟨rfl, hB2⟩)
    go_ret
    exact ⟨rfl, hB2⟩
  have hz : ¬ (60 : Int) < (n : Int) := by omega
  by_cases h61 : 60 < m
  · have hz1 : (60 : Int) < (m : Int) := by omega
    clear hL hM
    go_enter Tryz.func11, Tryz.ntmps11
    go_wp2_with (go_at_call 16; refine (hp _).mono ?_; rintro e w2 ⟨rfl, hB2⟩)
    go_ret
    exact ⟨rfl, hB2⟩
  have hz1 : ¬ (60 : Int) < (m : Int) := by omega
  have hc1 := change_any a n cap xs b m capB zs w hL hM
  by_cases hc : changeErr xs zs = 0
  · have hc' := (changeErr_swap xs zs).1 hc
    have hx1 := (mergeable_ok (changeErr_ok hc).1).2
    have hx2 := (mergeable_ok (changeErr_ok hc).2).2
    have hbd := fun ys (h : ListOf (fun p => sumP zs p - sumP xs p) ys) => changed_bounds (by have := hL.len; omega) (by have := hM.len; omega) hc h
    have hsum := fun (ys : List Share) (h : ListOf (fun p => sumP zs p - sumP xs p) ys) p => listOf_sum h p
    have hneg := fun (ys ys' : List Share) (h : ListOf (fun p => sumP zs p - sumP xs p) ys) (k : ListOf (fun p => sumP xs p - sumP zs p) ys') => change_neg h k
    have hc1 : Calls Tryz.prog 42 #[.slice a n cap, .slice b m capB] w (fun e w' => RowKit.Below w.heap.size w w' ∧ ∃ v ys, e = .returned (.tuple #[v, .int .i64 0]) ∧ ListOf (fun p => sumP zs p - sumP xs p) ys ∧ w'.ownsRow w.heap.size 69 2 v ys.length (ys.flatMap cSh)) :=
      hc1.mono fun e w' h => by unfold GivesC at h; rw [if_pos hc] at h; exact h
    have hc2 : ∀ W, RowKit.Below w.heap.size w W → Calls Tryz.prog 42 #[.slice b m capB, .slice a n cap] W (fun e w' => RowKit.Below W.heap.size W w' ∧ ∃ v ys, e = .returned (.tuple #[v, .int .i64 0]) ∧ ListOf (fun p => sumP xs p - sumP zs p) ys ∧ w'.ownsRow W.heap.size 69 2 v ys.length (ys.flatMap cSh)) :=
      fun W hB => (change_any b m capB zs a n cap xs W (hM.below hB) (hL.below hB)).mono fun e w' h => by unfold GivesC at h; rw [if_pos hc'] at h; exact h
    clear hc hc'
    go_enter Tryz.func11, Tryz.ntmps11
    go_wp2_with (fail)
    refine hc1.mono ?_
    clear hc1
    rintro e w2 ⟨hB2, v, ys, rfl, hl1, ho1⟩
    go_wp2_with (fail)
    refine (hc2 w2 hB2).mono ?_
    clear hc2
    rintro e w3 ⟨hB3, v', ys', rfl, hl2, ho2⟩
    obtain rfl := hneg _ _ hl1 hl2
    have hsum := hsum ys hl1
    obtain ⟨hys, hyp, hy0⟩ := hbd ys hl1
    clear hbd hneg hl2 hl1
    obtain ⟨av, cv, rfl, _, hl⟩ := Lst.of_owns (k := 2) (enc := cSh) (fun _ => rfl) (by omega) ho1 rfl
    obtain ⟨av', cv', rfl, _, hl'⟩ := Lst.of_owns (k := 2) (enc := cSh) (fun _ => rfl) (by omega) ho2 rfl
    clear ho1 ho2
    have hl := hl.below hB3
    have hB3 := hB2.trans (hB3.mono hB2.size)
    have hL := hL.below hB3
    have hM := hM.below hB3
    rw [List.length_map] at hl' ⊢
    generalize hlen : ys.length = l at *
    have Hlen := Lib.hid hlen; clear hlen
    have hlz : (l : Int) ≤ 41 := by omega
    have q0 : ((l : Int) != (l : Int)) = false := by simp
    have hmv : cv ≤ 9223372036854775807 := by have := hl.max; unfold maxLen at this; omega
    have hlv := hl.le
    have hmv' : cv' ≤ 9223372036854775807 := by have := hl'.max; unfold maxLen at this; omega
    have hlv' := hl'.le
    have HS := Lib.hid hsum; clear hsum
    go_wp2_with (fail)
    go_loopw [9] (fun i wr => ∃ k : Nat, k ≤ l ∧ i = .int .i64 k ∧ RowKit.Below w3.heap.size w3 wr) (fun i _ => l - (intOf i).toNat)
    case atStart => exact ⟨0, Nat.zero_le _, rfl, Below.refl _ _⟩
    case round =>
      obtain ⟨k, hk, rfl, hBr⟩ := hrel
      by_cases hlt : k < l
      · have hltz : (k : Int) < (l : Int) := by omega
        obtain ⟨x, hx⟩ : ∃ x, ys[k]? = some x := ⟨ys[k]'(by rw [Hlen.out]; exact hlt), by simp⟩
        have hxm := List.mem_of_getElem? hx
        obtain ⟨p1, p2⟩ := hyp x hxm
        have p3 := hy0 x hxm
        have hx' : (ys.map fun x => Share.mk x.party (-x.pence))[k]? = some (Share.mk x.party (-x.pence)) := by rw [List.getElem?_map, hx]; rfl
        obtain ⟨bb, off, rfl, hb, hr⟩ := hl.at_ k x hx
        obtain ⟨bb', off', rfl, hb', hr'⟩ := hl'.at_ k _ hx'
        have c0 := rangeAt_below hBr hb hr 0 _ rfl
        have c1 := rangeAt_below hBr hb hr 1 _ rfl
        have d0 := rangeAt_below hBr hb' hr' 0 _ rfl
        have d1 := rangeAt_below hBr hb' hr' 1 _ rfl
        simp only [Nat.add_zero] at c0 d0
        have t1 : (x.pence == 0) = false := by simpa using p3
        have t2 : (x.party != x.party) = false := by simp
        have t3 : (-x.pence != -x.pence) = false := by simp
        have hwn : IntKind.i64.wrap (-x.pence) = -x.pence := by rw [IntKind.wrap_i64]; omega
        clear hr hr' hx hx' hxm p3
        go_wp2
        go_quiet (fail)
        go_wp2
        go_roundw
        case rel => exact ⟨k + 1, by omega, by go_num, below_drewN' hBr _⟩
        case measure => simp [intOf]; omega
      · obtain rfl : k = l := by omega
        have hltz : ¬ (k : Int) < (k : Int) := by omega
        clear hlt hltz
        go_wp2_with (fail)
        have hBw := hB3.trans (hBr.mono hB3.size)
        have hL := hL.below hBr
        have hM := hM.below hBr
        have hl := hl.below hBr
        clear hl' hBr
        go_loopw [10] (fun i wq => ∃ q : Nat, q ≤ 41 ∧ i = .int .i64 q ∧ RowKit.Below wr.heap.size wr wq) (fun i _ => 41 - (intOf i).toNat)
        case atStart => exact ⟨0, Nat.zero_le _, rfl, Below.refl _ _⟩
        case round =>
          obtain ⟨q, hq, rfl, hBq⟩ := hrel
          by_cases hlt : q < 41
          · have hltz : (q : Int) ≤ 40 := by omega
            have o1 := fun W (hW : RowKit.Below wr.heap.size wr W) => of_any 0 0 0 0 0 (q : Int) a n cap xs W ((hL.below hBq).below hW) (by omega) (fun x hx => by have := (hx1 x hx).2.2; omega)
            have o2 := fun W (hW : RowKit.Below wr.heap.size wr W) => of_any 0 0 0 0 0 (q : Int) b m capB zs W ((hM.below hBq).below hW) (by omega) (fun x hx => by have := (hx2 x hx).2.2; omega)
            have o3 := fun W (hW : RowKit.Below wr.heap.size wr W) => of_any 0 0 0 0 0 (q : Int) av k cv ys W ((hl.below hBq).below hW) (by omega) hyp
            have hs := HS.out (q : Int)
            have s1 := sumP_bound xs q 1000000000 (by omega) (fun x hx => (hx1 x hx).2.2)
            have s2 := sumP_bound zs q 1000000000 (by omega) (fun x hx => (hx2 x hx).2.2)
            have l1 := hL.len
            have l2 := hM.len
            rw [hs] at o3
            generalize sumP xs q = u at *
            generalize sumP zs q = v at *
            have hw : IntKind.i64.wrap (u + (v - u)) = v := by rw [IntKind.wrap_i64]; omega
            have hvv : (v != v) = false := by simp
            have Hs := Lib.hid hs; clear hs
            clear s1 s2 l1 l2
            go_wp2_with (fail)
            refine (o1 _ (Below.refl _ _)).mono ?_
            rintro e w4 ⟨rfl, hB4⟩
            clear o1
            go_wp2_with (fail)
            refine (o3 _ hB4).mono ?_
            rintro e w5 ⟨rfl, hB5⟩
            clear o3
            have hB5 := hB4.trans (hB5.mono hB4.size)
            go_wp2_with (fail)
            refine (o2 _ hB5).mono ?_
            rintro e w6 ⟨rfl, hB6⟩
            clear o2
            have hB6 := hB5.trans (hB6.mono hB5.size)
            go_wp2_with (fail)
            all_goals go_roundw
            case rel => exact ⟨q + 1, by omega, by go_num, hBq.trans (hB6.mono hBq.size)⟩
            case measure => simp [intOf]; omega
          · obtain rfl : q = 41 := by omega
            go_wp2_with (go_at_call 16; refine (hp _).mono ?_; rintro e w4 ⟨rfl, hB4⟩)
            go_ret
            exact ⟨rfl, (hBw.trans (hBq.mono hBw.size)).trans (hB4.mono (hBw.trans (hBq.mono hBw.size)).size)⟩
  · have hc' : changeErr zs xs ≠ 0 := fun h => hc ((changeErr_swap xs zs).2 h)
    have hc1 : Calls Tryz.prog 42 #[.slice a n cap, .slice b m capB] w (fun e w' => RowKit.Below w.heap.size w w' ∧ e = .returned (.tuple #[.slice none 0 0, .int .i64 (changeErr xs zs)])) :=
      hc1.mono fun e w' h => by unfold GivesC at h; rw [if_neg hc] at h; exact h
    have hc2 : ∀ W, RowKit.Below w.heap.size w W → Calls Tryz.prog 42 #[.slice b m capB, .slice a n cap] W (fun e w' => RowKit.Below W.heap.size W w' ∧ e = .returned (.tuple #[.slice none 0 0, .int .i64 (changeErr zs xs)])) :=
      fun W hB => (change_any b m capB zs a n cap xs W (hM.below hB) (hL.below hB)).mono fun e w' h => by unfold GivesC at h; rw [if_neg hc'] at h; exact h
    generalize changeErr xs zs = e1 at *
    generalize changeErr zs xs = e2 at *
    have q1 : (e1 == 0) = false := by simpa using hc
    have q2 : (e2 == 0) = false := by simpa using hc'
    have r1 : (e1 != 0) = true := by simpa using hc
    have r2 : (e2 != 0) = true := by simpa using hc'
    clear hL hM h60 h61
    go_enter Tryz.func11, Tryz.ntmps11
    go_wp2_with (fail)
    refine hc1.mono ?_
    clear hc1
    rintro e w2 ⟨hB2, rfl⟩
    go_wp2_with (fail)
    refine (hc2 w2 hB2).mono ?_
    clear hc2
    rintro e w3 ⟨hB3, rfl⟩
    go_wp2_with (go_at_call 16; refine (hp _).mono ?_; rintro e w4 ⟨rfl, hB4⟩)
    go_ret
    exact ⟨by simp, (hB2.trans (hB3.mono hB2.size)).trans (hB4.mono (hB2.trans (hB3.mono hB2.size)).size)⟩

end Go.Proofs.YtollegoajlfdiaaGreat

/-
  What comes in: lists of the program's structs, opened to plain lists.
-/
namespace Go.Proofs.YtollegoajlfdiaaGreat
open Go.RowKit Lg Go.ChangeShapes Go.WideShapes Go.Deep

theorem gather {α : Type} {Q : Nat → α → Prop} : ∀ n : Nat, (∀ i, i < n → ∃ z, Q i z) → ∃ zs : List α, zs.length = n ∧ ∀ i x, zs[i]? = some x → Q i x
  | 0, _ => ⟨[], rfl, fun i x h => by simp at h⟩
  | n + 1, h => by
    obtain ⟨zs, hl, hz⟩ := gather n (fun i hi => h i (by omega))
    obtain ⟨z, hq⟩ := h n (by omega)
    refine ⟨zs ++ [z], by simp [hl], fun i x hx => ?_⟩
    by_cases hi : i < n
    · rw [List.getElem?_append_left (by omega)] at hx
      exact hz i x hx
    · rw [List.getElem?_append_right (by omega)] at hx
      obtain rfl : i = n := by
        have := (List.getElem?_eq_some_iff.1 hx).1
        simp at this; omega
      simp [hl] at hx
      subst hx
      exact hq

section
variable {H : Type} {enc : TypeId × Value → H} {w : World} {spare : Nat → Bool} {held : Bool}

theorem one_cell {t : TypeId} {cs : List Value} {x : DataW H × List MemPlace} {n : Nat} {o : Option (DataW H × List MemPlace)} (hu : Tryz.prog.underlying t = some (.int .i64)) (h : DataW.trod enc Tryz.prog w 0 spare held n t cs = o) (ho : o = some x) : ∃ z : Int, cs = [.int .i64 z] ∧ (Lit.int .i64 z).wf = true := by
  obtain ⟨z, h1, _, h3⟩ := DataW.trod_int hu (h.trans ho)
  exact ⟨z, h1, h3⟩

theorem open_lst {α : Type} (en : α → List Value) (ok : α → Prop) {t e : TypeId} {k fuel : Nat} {a : Option Addr} {l c : Nat} {x : DataW H × List MemPlace} (ht : Tryz.prog.underlying t = some (.slice e)) (hk : Tryz.prog.cellsOf e = k) (hk0 : 0 < k) (hen : ∀ z, (en z).length = k)
    (hd : ∀ n cs y, cs.length = k → DataW.trod enc Tryz.prog w 0 spare held n e cs = some y → ∃ z : α, cs = en z ∧ ok z)
    (h : DataW.trod enc Tryz.prog w 0 spare held fuel t [.slice a l c] = some x) : ∃ zs : List α, Lst w k en a l c zs ∧ ∀ z ∈ zs, ok z := by
  rcases open_slice ht h with ⟨hcs, _⟩ | ⟨ad, len, cap, m, n, D, Pl, hcs, _, hl, hm, hmm, _, hi⟩
  · simp at hcs
    obtain ⟨rfl, rfl, rfl⟩ := hcs
    exact ⟨[], Lst.nil _ _ _, fun z hz => by cases hz⟩
  · simp at hcs
    obtain ⟨rfl, rfl, rfl⟩ := hcs
    have hml : l ≤ m := by rw [hmm]; split <;> omega
    rw [hk] at hi
    have hz : ∀ i, i < l → ∃ z, (∀ j v, (en z)[j]? = some v → w.cell? ((ad.add (i * k)).add j) = some v) ∧ ok z := fun i hil => by
      obtain ⟨cs', hc, ht'⟩ := hi i (by omega)
      obtain ⟨_, hcl, hat⟩ := World.cells?_some hc
      obtain ⟨z, rfl, hok⟩ := hd n cs' _ hcl ht'
      refine ⟨z, fun j v hv => ?_, hok⟩
      rw [hat j (by rw [← hcl]; exact (List.getElem?_eq_some_iff.1 hv).1)]
      exact hv
    obtain ⟨zs, hlen, hq⟩ := gather l hz
    refine ⟨zs, ⟨hlen, hl, hm, fun i x hx => ?_⟩, fun z hz => ?_⟩
    · have hil : i < l := by rw [← hlen]; exact (List.getElem?_eq_some_iff.1 hx).1
      have h0 : ∃ z0, zs[0]? = some z0 := ⟨zs[0]'(by omega), by simp⟩
      obtain ⟨z0, hz0⟩ := h0
      obtain ⟨b, off, sp⟩ := ad
      have hsp : sp = none := by
        have h1 := (hq 0 z0 hz0).1 0 ((en z0)[0]'(by rw [hen]; exact hk0)) (by simp)
        simpa [Addr.add] using World.cell?_spot h1
      subst hsp
      have hr : w.rangeAt b (off + i * k) (en x) := fun j v hv => by
        have h1 := (hq i x hx).1 j v hv
        rw [Addr.add_mid, Addr.add_mid] at h1
        exact h1
      refine ⟨b, off, rfl, ?_, hr⟩
      have h1 := (hq i x hx).1 0 ((en x)[0]'(by rw [hen]; exact hk0)) (by simp)
      rw [Addr.add_mid, Addr.add_mid] at h1
      exact block_lt_of_cell h1
    · obtain ⟨i, hi2⟩ := List.getElem?_of_mem hz
      exact (hq i z hi2).2

set_option maxRecDepth 100000 in
theorem dec_Sh (n : Nat) (cs : List Value) (y : DataW H × List MemPlace) (hl : cs.length = 2) (h : DataW.trod enc Tryz.prog w 0 spare held n 69 cs = some y) : ∃ z : Share, cs = cSh z ∧ True := by
  obtain ⟨ys, m, _, _, _, hy, hf⟩ := DataW.trod_struct Tryz.underlying69 h
  have g0 : DataW.trod enc Tryz.prog w 0 spare held m 3 ((cs.drop 0).take (Tryz.prog.cellsOf 3)) = ys[0]? := hf 0 _ rfl
  have g1 : DataW.trod enc Tryz.prog w 0 spare held m 3 ((cs.drop 1).take (Tryz.prog.cellsOf 3)) = ys[1]? := hf 1 _ rfl
  clear hf h
  have e : Tryz.prog.cellsOf 3 = 1 := by kernel_rfl
  simp only [e] at g0 g1
  obtain ⟨z0, h0, _⟩ := one_cell Tryz.underlying3 g0 (List.getElem?_eq_getElem (by rw [hy]; decide))
  obtain ⟨z1, h1, _⟩ := one_cell Tryz.underlying3 g1 (List.getElem?_eq_getElem (by rw [hy]; decide))
  clear g0 g1
  match cs, hl with
  | [c0, c1], _ =>
    simp at h0 h1
    subst h0 h1
    exact ⟨⟨z0, z1⟩, rfl, trivial⟩

set_option maxRecDepth 100000 in
theorem dec_S (n : Nat) (cs : List Value) (y : DataW H × List MemPlace) (hl : cs.length = 9) (h : DataW.trod enc Tryz.prog w 0 spare held n 39 cs = some y) : ∃ z : Sale, cs = cS z ∧ True := by
  obtain ⟨ys, m, _, _, _, hy, hf⟩ := DataW.trod_struct Tryz.underlying39 h
  have g0 : DataW.trod enc Tryz.prog w 0 spare held m 3 ((cs.drop 0).take (Tryz.prog.cellsOf 3)) = ys[0]? := hf 0 _ rfl
  have g1 : DataW.trod enc Tryz.prog w 0 spare held m 3 ((cs.drop 1).take (Tryz.prog.cellsOf 3)) = ys[1]? := hf 1 _ rfl
  have g2 : DataW.trod enc Tryz.prog w 0 spare held m 3 ((cs.drop 2).take (Tryz.prog.cellsOf 3)) = ys[2]? := hf 2 _ rfl
  have g3 : DataW.trod enc Tryz.prog w 0 spare held m 3 ((cs.drop 3).take (Tryz.prog.cellsOf 3)) = ys[3]? := hf 3 _ rfl
  have g4 : DataW.trod enc Tryz.prog w 0 spare held m 3 ((cs.drop 4).take (Tryz.prog.cellsOf 3)) = ys[4]? := hf 4 _ rfl
  have g5 : DataW.trod enc Tryz.prog w 0 spare held m 3 ((cs.drop 5).take (Tryz.prog.cellsOf 3)) = ys[5]? := hf 5 _ rfl
  have g6 : DataW.trod enc Tryz.prog w 0 spare held m 3 ((cs.drop 6).take (Tryz.prog.cellsOf 3)) = ys[6]? := hf 6 _ rfl
  have g7 : DataW.trod enc Tryz.prog w 0 spare held m 3 ((cs.drop 7).take (Tryz.prog.cellsOf 3)) = ys[7]? := hf 7 _ rfl
  have g8 : DataW.trod enc Tryz.prog w 0 spare held m 3 ((cs.drop 8).take (Tryz.prog.cellsOf 3)) = ys[8]? := hf 8 _ rfl
  clear hf h
  have e : Tryz.prog.cellsOf 3 = 1 := by kernel_rfl
  simp only [e] at g0 g1 g2 g3 g4 g5 g6 g7 g8
  obtain ⟨z0, h0, _⟩ := one_cell Tryz.underlying3 g0 (List.getElem?_eq_getElem (by rw [hy]; decide))
  obtain ⟨z1, h1, _⟩ := one_cell Tryz.underlying3 g1 (List.getElem?_eq_getElem (by rw [hy]; decide))
  obtain ⟨z2, h2, _⟩ := one_cell Tryz.underlying3 g2 (List.getElem?_eq_getElem (by rw [hy]; decide))
  obtain ⟨z3, h3, _⟩ := one_cell Tryz.underlying3 g3 (List.getElem?_eq_getElem (by rw [hy]; decide))
  obtain ⟨z4, h4, _⟩ := one_cell Tryz.underlying3 g4 (List.getElem?_eq_getElem (by rw [hy]; decide))
  obtain ⟨z5, h5, _⟩ := one_cell Tryz.underlying3 g5 (List.getElem?_eq_getElem (by rw [hy]; decide))
  obtain ⟨z6, h6, _⟩ := one_cell Tryz.underlying3 g6 (List.getElem?_eq_getElem (by rw [hy]; decide))
  obtain ⟨z7, h7, _⟩ := one_cell Tryz.underlying3 g7 (List.getElem?_eq_getElem (by rw [hy]; decide))
  obtain ⟨z8, h8, _⟩ := one_cell Tryz.underlying3 g8 (List.getElem?_eq_getElem (by rw [hy]; decide))
  clear g0 g1 g2 g3 g4 g5 g6 g7 g8
  match cs, hl with
  | [c0, c1, c2, c3, c4, c5, c6, c7, c8], _ =>
    simp at h0 h1 h2 h3 h4 h5 h6 h7 h8
    subst h0 h1 h2 h3 h4 h5 h6 h7 h8
    exact ⟨⟨z0, z1, z2, z3, z4, z5, z6, z7, z8⟩, rfl, trivial⟩

set_option maxRecDepth 100000 in
theorem dec_F (n : Nat) (cs : List Value) (y : DataW H × List MemPlace) (hl : cs.length = 2) (h : DataW.trod enc Tryz.prog w 0 spare held n 24 cs = some y) : ∃ z : Frac, cs = cF z := by
  obtain ⟨ys, m, _, _, _, hy, hf⟩ := DataW.trod_struct Tryz.underlying24 h
  have g0 : DataW.trod enc Tryz.prog w 0 spare held m 3 ((cs.drop 0).take (Tryz.prog.cellsOf 3)) = ys[0]? := hf 0 _ rfl
  have g1 : DataW.trod enc Tryz.prog w 0 spare held m 3 ((cs.drop 1).take (Tryz.prog.cellsOf 3)) = ys[1]? := hf 1 _ rfl
  clear hf h
  have e : Tryz.prog.cellsOf 3 = 1 := by kernel_rfl
  simp only [e] at g0 g1
  obtain ⟨z0, h0, _⟩ := one_cell Tryz.underlying3 g0 (List.getElem?_eq_getElem (by rw [hy]; decide))
  obtain ⟨z1, h1, _⟩ := one_cell Tryz.underlying3 g1 (List.getElem?_eq_getElem (by rw [hy]; decide))
  clear g0 g1
  match cs, hl with
  | [c0, c1], _ =>
    simp at h0 h1
    subst h0 h1
    exact ⟨⟨z0, z1⟩, rfl⟩

set_option maxRecDepth 100000 in
theorem dec_R (n : Nat) (cs : List Value) (y : DataW H × List MemPlace) (hl : cs.length = 9) (h : DataW.trod enc Tryz.prog w 0 spare held n 26 cs = some y) : ∃ z : Rate, cs = cR z ∧ True := by
  obtain ⟨ys, m, _, _, _, hy, hf⟩ := DataW.trod_struct Tryz.underlying26 h
  have g0 : DataW.trod enc Tryz.prog w 0 spare held m 3 ((cs.drop 0).take (Tryz.prog.cellsOf 3)) = ys[0]? := hf 0 _ rfl
  have g1 : DataW.trod enc Tryz.prog w 0 spare held m 3 ((cs.drop 1).take (Tryz.prog.cellsOf 3)) = ys[1]? := hf 1 _ rfl
  have g2 : DataW.trod enc Tryz.prog w 0 spare held m 3 ((cs.drop 2).take (Tryz.prog.cellsOf 3)) = ys[2]? := hf 2 _ rfl
  have g3 : DataW.trod enc Tryz.prog w 0 spare held m 9 ((cs.drop 3).take (Tryz.prog.cellsOf 9)) = ys[3]? := hf 3 _ rfl
  have g4 : DataW.trod enc Tryz.prog w 0 spare held m 24 ((cs.drop 4).take (Tryz.prog.cellsOf 24)) = ys[4]? := hf 4 _ rfl
  have g5 : DataW.trod enc Tryz.prog w 0 spare held m 3 ((cs.drop 6).take (Tryz.prog.cellsOf 3)) = ys[5]? := hf 5 _ rfl
  have g6 : DataW.trod enc Tryz.prog w 0 spare held m 3 ((cs.drop 7).take (Tryz.prog.cellsOf 3)) = ys[6]? := hf 6 _ rfl
  have g7 : DataW.trod enc Tryz.prog w 0 spare held m 3 ((cs.drop 8).take (Tryz.prog.cellsOf 3)) = ys[7]? := hf 7 _ rfl
  clear hf h
  have e : Tryz.prog.cellsOf 3 = 1 := by kernel_rfl
  have e2 : Tryz.prog.cellsOf 9 = 1 := by kernel_rfl
  have e3 : Tryz.prog.cellsOf 24 = 2 := by kernel_rfl
  simp only [e, e2, e3] at g0 g1 g2 g3 g4 g5 g6 g7
  obtain ⟨z0, h0, _⟩ := one_cell Tryz.underlying3 g0 (List.getElem?_eq_getElem (by rw [hy]; decide))
  obtain ⟨z1, h1, _⟩ := one_cell Tryz.underlying3 g1 (List.getElem?_eq_getElem (by rw [hy]; decide))
  obtain ⟨z2, h2, _⟩ := one_cell Tryz.underlying3 g2 (List.getElem?_eq_getElem (by rw [hy]; decide))
  obtain ⟨z5, h5, _⟩ := one_cell Tryz.underlying3 g5 (List.getElem?_eq_getElem (by rw [hy]; decide))
  obtain ⟨z6, h6, _⟩ := one_cell Tryz.underlying3 g6 (List.getElem?_eq_getElem (by rw [hy]; decide))
  obtain ⟨z7, h7, _⟩ := one_cell Tryz.underlying3 g7 (List.getElem?_eq_getElem (by rw [hy]; decide))
  obtain ⟨z3, h3, _, _⟩ := DataW.trod_string Tryz.underlying9 (g3.trans (List.getElem?_eq_getElem (by rw [hy]; decide)))
  obtain ⟨z4, h4⟩ := dec_F _ _ _ (by simp [hl]) (g4.trans (List.getElem?_eq_getElem (by rw [hy]; decide)))
  clear g0 g1 g2 g3 g4 g5 g6 g7
  match cs, hl with
  | [c0, c1, c2, c3, c4, c5, c6, c7, c8], _ =>
    simp at h0 h1 h2 h3 h4 h5 h6 h7
    obtain ⟨h41, h42⟩ := h4
    subst h0 h1 h2 h3 h41 h42 h5 h6 h7
    exact ⟨⟨z0, z1, z2, z3, z4, z5, z6, z7⟩, rfl, trivial⟩

set_option maxRecDepth 100000 in
theorem dec_T (n : Nat) (cs : List Value) (y : DataW H × List MemPlace) (hl : cs.length = 3) (h : DataW.trod enc Tryz.prog w 0 spare held n 71 cs = some y) : ∃ z : Title, cs = cT z ∧ True := by
  obtain ⟨ys, m, _, _, _, hy, hf⟩ := DataW.trod_struct Tryz.underlying71 h
  have g0 : DataW.trod enc Tryz.prog w 0 spare held m 3 ((cs.drop 0).take (Tryz.prog.cellsOf 3)) = ys[0]? := hf 0 _ rfl
  have g1 : DataW.trod enc Tryz.prog w 0 spare held m 24 ((cs.drop 1).take (Tryz.prog.cellsOf 24)) = ys[1]? := hf 1 _ rfl
  clear hf h
  have e : Tryz.prog.cellsOf 3 = 1 := by kernel_rfl
  have e3 : Tryz.prog.cellsOf 24 = 2 := by kernel_rfl
  simp only [e, e3] at g0 g1
  obtain ⟨z0, h0, _⟩ := one_cell Tryz.underlying3 g0 (List.getElem?_eq_getElem (by rw [hy]; decide))
  obtain ⟨z1, h1⟩ := dec_F _ _ _ (by simp [hl]) (g1.trans (List.getElem?_eq_getElem (by rw [hy]; decide)))
  clear g0 g1
  match cs, hl with
  | [c0, c1, c2], _ =>
    simp at h0 h1
    obtain ⟨h11, h12⟩ := h1
    subst h0 h11 h12
    exact ⟨⟨z0, z1⟩, rfl, trivial⟩

theorem dec_I (n : Nat) (cs : List Value) (y : DataW H × List MemPlace) (_ : cs.length = 1) (h : DataW.trod enc Tryz.prog w 0 spare held n 3 cs = some y) : ∃ z : Int, cs = cI z ∧ True := by
  obtain ⟨z0, h0, _⟩ := one_cell Tryz.underlying3 h rfl
  exact ⟨z0, h0, trivial⟩
end
end Go.Proofs.YtollegoajlfdiaaGreat
