import Derived.Test.YtkeppoiomjhkpaaGreatDoorPart01
import Derived.Test.YtkeppoiomjhkpaaGreatDoorPart02
import Derived.Recover
namespace Go.Proofs.YtkeppoiomjhkpaaGreatDoor
open Go.RowKit Lg Go.Sort

/-- The first index at which p holds, or -1. -/
def idxP {α : Type} (p : α → Bool) : List α → Int
  | [] => -1
  | x :: xs => if p x then 0 else (if idxP p xs < 0 then -1 else idxP p xs + 1)

theorem idxP_ge {α : Type} (p : α → Bool) (xs : List α) : -1 ≤ idxP p xs := by
  induction xs with
  | nil => simp [idxP]
  | cons x xs ih => unfold idxP; split <;> (try split) <;> omega

theorem idxP_any {α : Type} (p : α → Bool) (xs : List α) : decide (0 ≤ idxP p xs) = xs.any p := by
  induction xs with
  | nil => simp [idxP]
  | cons x xs ih =>
    have := idxP_ge p xs
    rw [List.any_cons, ← ih]
    show decide (0 ≤ if p x = true then (0 : Int) else if idxP p xs < 0 then -1 else idxP p xs + 1) = _
    generalize idxP p xs = r at *
    by_cases h : p x = true
    · simp [h]
    · simp only [h, Bool.false_or, Bool.false_eq_true, if_false]
      split
      · rw [decide_eq_decide]; omega
      · rw [decide_eq_decide]; omega

theorem idxP_hit {α : Type} (p : α → Bool) (xs : List α) (k : Nat) (x : α) (hx : xs[k]? = some x) (h0 : ∀ y ∈ xs.take k, p y = false) (h : p x = true) : idxP p xs = k := by
  induction xs generalizing k with
  | nil => simp at hx
  | cons y ys ih =>
    cases k with
    | zero => simp at hx; subst hx; simp [idxP, h]
    | succ k =>
      have hy : p y = false := h0 y (by simp)
      have := ih k (by simpa using hx) (fun z hz => h0 z (by simp [hz]))
      unfold idxP
      simp only [hy, this]
      split
      · contradiction
      · split <;> omega

theorem idxP_miss {α : Type} (p : α → Bool) (xs : List α) (h0 : ∀ y ∈ xs, p y = false) : idxP p xs = -1 := by
  induction xs with
  | nil => rfl
  | cons y ys ih => unfold idxP; rw [ih (fun z hz => h0 z (by simp [hz]))]; simp [h0 y (by simp)]

set_option maxRecDepth 100000 in
set_option maxHeartbeats 400000 in
theorem indexR_any (p : Rate → Bool) (g : Nat) (lb : Array Value) (eg : ∀ args w, (callFunc g args).run Tryz.prog w = .ok (.enter g args) w) (a : Option Addr) (n cap : Nat) (xs : List Rate) (w : World) (hL : Lst w 9 cR a n cap xs)
    (hp : ∀ W x, Below w.heap.size w W → Calls Tryz.prog g (#[aR x] ++ lb) W (Gives W (.bool (p x)))) :
    Calls Tryz.prog 127 #[.slice a n cap, .func (.func g) #[] lb] w (Gives w (.int .i64 (idxP p xs))) := by
  have hm : cap ≤ 9223372036854775807 := by have := hL.max; unfold maxLen at this; omega
  have hle := hL.le
  have hlen := Lib.hid hL.len
  go_enter Tryz.func127, Tryz.ntmps127
  go_wp2
  go_loopw [8] (fun i wr => ∃ k : Nat, k ≤ n ∧ i = .int .i64 k ∧ Below w.heap.size w wr ∧ ∀ y ∈ xs.take k, p y = false) (fun i _ => n - (intOf i).toNat)
  case atStart => exact ⟨0, Nat.zero_le _, rfl, Below.refl _ _, by simp⟩
  case round =>
    obtain ⟨k, hk, rfl, hB, h0⟩ := hrel
    by_cases hlt : k < n
    · obtain ⟨x, hx⟩ : ∃ x, xs[k]? = some x := ⟨xs[k]'(by rw [hlen.out]; exact hlt), by simp⟩
      obtain ⟨b, off, rfl, hb, hr⟩ := hL.at_ k x hx
      have hr' := rangeAt_below hB hb hr
      have hX := Lib.hid hx; clear hx
      have H0 := Lib.hid h0; clear h0
      go_wp2_with (refine wpList_load_mid rfl 43 _ rfl b (off + k * 9) rfl (cR x) _ hr' Tryz.underlying43 rfl (by kernel_rfl) ?_)
      refine (hp wr x hB).mono ?_
      rintro e w2 ⟨rfl, hB2⟩
      have hB3 : Below w.heap.size w w2 := hB.trans (hB2.mono hB.size)
      cases hq : p x with
      | true =>
        have Hq := Lib.hid hq; clear hq
        go_wp2
        go_ret
        exact ⟨by rw [idxP_hit p xs k x hX.out H0.out Hq.out]; rfl, hB3⟩
      | false =>
        have Hq := Lib.hid hq; clear hq
        go_wp2
        go_roundw
        case rel =>
          refine ⟨k + 1, by omega, by go_num, hB3, fun y hy => ?_⟩
          have := List.getElem?_eq_some_iff.1 hX.out
          obtain ⟨h1, h2⟩ := this
          rw [List.take_succ_eq_append_getElem h1, h2] at hy
          rcases List.mem_append.1 hy with hy | hy
          · exact H0.out y hy
          · simp at hy; subst hy; exact Hq.out
        case measure => simp [intOf]; omega
    · obtain rfl : k = n := by omega
      have H0 := Lib.hid h0; clear h0
      go_wp2
      go_ret
      exact ⟨by rw [idxP_miss p xs (fun y hy => H0.out y (by rw [List.take_of_length_le (by rw [hlen.out]; exact Nat.le_refl _)]; exact hy))]; rfl, hB⟩
set_option maxHeartbeats 400000 in
theorem contR_any (p : Rate → Bool) (g : Nat) (lb : Array Value) (eg : ∀ args w, (callFunc g args).run Tryz.prog w = .ok (.enter g args) w) (a : Option Addr) (n cap : Nat) (xs : List Rate) (w : World) (hL : Lst w 9 cR a n cap xs)
    (hp : ∀ W x, Below w.heap.size w W → Calls Tryz.prog g (#[aR x] ++ lb) W (Gives W (.bool (p x)))) :
    Calls Tryz.prog 88 #[.slice a n cap, .func (.func g) #[] lb] w (Gives w (.bool (xs.any p))) := by
  have hc := indexR_any p g lb eg a n cap xs w hL hp
  rw [← idxP_any]
  clear hp hL
  generalize idxP p xs = r at *
  go_enter Tryz.func88, Tryz.ntmps88
  go_wp2_with (go_at_call 127; refine hc.mono ?_; rintro e w' ⟨rfl, hb'⟩)
  go_ret
  exact ⟨rfl, hb'⟩

set_option maxRecDepth 100000 in
set_option maxHeartbeats 400000 in
theorem indexS_any (p : Sale → Bool) (g : Nat) (lb : Array Value) (eg : ∀ args w, (callFunc g args).run Tryz.prog w = .ok (.enter g args) w) (a : Option Addr) (n cap : Nat) (xs : List Sale) (w : World) (hL : Lst w 9 cS a n cap xs)
    (hp : ∀ W x, Below w.heap.size w W → Calls Tryz.prog g (#[aS x] ++ lb) W (Gives W (.bool (p x)))) :
    Calls Tryz.prog 148 #[.slice a n cap, .func (.func g) #[] lb] w (Gives w (.int .i64 (idxP p xs))) := by
  have hm : cap ≤ 9223372036854775807 := by have := hL.max; unfold maxLen at this; omega
  have hle := hL.le
  have hlen := Lib.hid hL.len
  go_enter Tryz.func148, Tryz.ntmps148
  go_wp2
  go_loopw [8] (fun i wr => ∃ k : Nat, k ≤ n ∧ i = .int .i64 k ∧ Below w.heap.size w wr ∧ ∀ y ∈ xs.take k, p y = false) (fun i _ => n - (intOf i).toNat)
  case atStart => exact ⟨0, Nat.zero_le _, rfl, Below.refl _ _, by simp⟩
  case round =>
    obtain ⟨k, hk, rfl, hB, h0⟩ := hrel
    by_cases hlt : k < n
    · obtain ⟨x, hx⟩ : ∃ x, xs[k]? = some x := ⟨xs[k]'(by rw [hlen.out]; exact hlt), by simp⟩
      obtain ⟨b, off, rfl, hb, hr⟩ := hL.at_ k x hx
      have hr' := rangeAt_below hB hb hr
      have hX := Lib.hid hx; clear hx
      have H0 := Lib.hid h0; clear h0
      go_wp2_with (refine wpList_load_mid rfl 24 _ rfl b (off + k * 9) rfl (cS x) _ hr' Tryz.underlying24 rfl (by kernel_rfl) ?_)
      refine (hp wr x hB).mono ?_
      rintro e w2 ⟨rfl, hB2⟩
      have hB3 : Below w.heap.size w w2 := hB.trans (hB2.mono hB.size)
      cases hq : p x with
      | true =>
        have Hq := Lib.hid hq; clear hq
        go_wp2
        go_ret
        exact ⟨by rw [idxP_hit p xs k x hX.out H0.out Hq.out]; rfl, hB3⟩
      | false =>
        have Hq := Lib.hid hq; clear hq
        go_wp2
        go_roundw
        case rel =>
          refine ⟨k + 1, by omega, by go_num, hB3, fun y hy => ?_⟩
          have := List.getElem?_eq_some_iff.1 hX.out
          obtain ⟨h1, h2⟩ := this
          rw [List.take_succ_eq_append_getElem h1, h2] at hy
          rcases List.mem_append.1 hy with hy | hy
          · exact H0.out y hy
          · simp at hy; subst hy; exact Hq.out
        case measure => simp [intOf]; omega
    · obtain rfl : k = n := by omega
      have H0 := Lib.hid h0; clear h0
      go_wp2
      go_ret
      exact ⟨by rw [idxP_miss p xs (fun y hy => H0.out y (by rw [List.take_of_length_le (by rw [hlen.out]; exact Nat.le_refl _)]; exact hy))]; rfl, hB⟩
set_option maxHeartbeats 400000 in
theorem contS_any (p : Sale → Bool) (g : Nat) (lb : Array Value) (eg : ∀ args w, (callFunc g args).run Tryz.prog w = .ok (.enter g args) w) (a : Option Addr) (n cap : Nat) (xs : List Sale) (w : World) (hL : Lst w 9 cS a n cap xs)
    (hp : ∀ W x, Below w.heap.size w W → Calls Tryz.prog g (#[aS x] ++ lb) W (Gives W (.bool (p x)))) :
    Calls Tryz.prog 115 #[.slice a n cap, .func (.func g) #[] lb] w (Gives w (.bool (xs.any p))) := by
  have hc := indexS_any p g lb eg a n cap xs w hL hp
  rw [← idxP_any]
  clear hp hL
  generalize idxP p xs = r at *
  go_enter Tryz.func115, Tryz.ntmps115
  go_wp2_with (go_at_call 148; refine hc.mono ?_; rintro e w' ⟨rfl, hb'⟩)
  go_ret
  exact ⟨rfl, hb'⟩

set_option maxRecDepth 100000 in
set_option maxHeartbeats 400000 in
theorem indexSh_any (p : Share → Bool) (g : Nat) (lb : Array Value) (eg : ∀ args w, (callFunc g args).run Tryz.prog w = .ok (.enter g args) w) (a : Option Addr) (n cap : Nat) (xs : List Share) (w : World) (hL : Lst w 2 cSh a n cap xs)
    (hp : ∀ W x, Below w.heap.size w W → Calls Tryz.prog g (#[aSh x] ++ lb) W (Gives W (.bool (p x)))) :
    Calls Tryz.prog 145 #[.slice a n cap, .func (.func g) #[] lb] w (Gives w (.int .i64 (idxP p xs))) := by
  have hm : cap ≤ 9223372036854775807 := by have := hL.max; unfold maxLen at this; omega
  have hle := hL.le
  have hlen := Lib.hid hL.len
  go_enter Tryz.func145, Tryz.ntmps145
  go_wp2
  go_loopw [8] (fun i wr => ∃ k : Nat, k ≤ n ∧ i = .int .i64 k ∧ Below w.heap.size w wr ∧ ∀ y ∈ xs.take k, p y = false) (fun i _ => n - (intOf i).toNat)
  case atStart => exact ⟨0, Nat.zero_le _, rfl, Below.refl _ _, by simp⟩
  case round =>
    obtain ⟨k, hk, rfl, hB, h0⟩ := hrel
    by_cases hlt : k < n
    · obtain ⟨x, hx⟩ : ∃ x, xs[k]? = some x := ⟨xs[k]'(by rw [hlen.out]; exact hlt), by simp⟩
      obtain ⟨b, off, rfl, hb, hr⟩ := hL.at_ k x hx
      have hr' := rangeAt_below hB hb hr
      have hX := Lib.hid hx; clear hx
      have H0 := Lib.hid h0; clear h0
      go_wp2_with (refine wpList_load_mid rfl 76 _ rfl b (off + k * 2) rfl (cSh x) _ hr' Tryz.underlying76 rfl (by kernel_rfl) ?_)
      refine (hp wr x hB).mono ?_
      rintro e w2 ⟨rfl, hB2⟩
      have hB3 : Below w.heap.size w w2 := hB.trans (hB2.mono hB.size)
      cases hq : p x with
      | true =>
        have Hq := Lib.hid hq; clear hq
        go_wp2
        go_ret
        exact ⟨by rw [idxP_hit p xs k x hX.out H0.out Hq.out]; rfl, hB3⟩
      | false =>
        have Hq := Lib.hid hq; clear hq
        go_wp2
        go_roundw
        case rel =>
          refine ⟨k + 1, by omega, by go_num, hB3, fun y hy => ?_⟩
          have := List.getElem?_eq_some_iff.1 hX.out
          obtain ⟨h1, h2⟩ := this
          rw [List.take_succ_eq_append_getElem h1, h2] at hy
          rcases List.mem_append.1 hy with hy | hy
          · exact H0.out y hy
          · simp at hy; subst hy; exact Hq.out
        case measure => simp [intOf]; omega
    · obtain rfl : k = n := by omega
      have H0 := Lib.hid h0; clear h0
      go_wp2
      go_ret
      exact ⟨by rw [idxP_miss p xs (fun y hy => H0.out y (by rw [List.take_of_length_le (by rw [hlen.out]; exact Nat.le_refl _)]; exact hy))]; rfl, hB⟩
set_option maxHeartbeats 400000 in
theorem contSh_any (p : Share → Bool) (g : Nat) (lb : Array Value) (eg : ∀ args w, (callFunc g args).run Tryz.prog w = .ok (.enter g args) w) (a : Option Addr) (n cap : Nat) (xs : List Share) (w : World) (hL : Lst w 2 cSh a n cap xs)
    (hp : ∀ W x, Below w.heap.size w W → Calls Tryz.prog g (#[aSh x] ++ lb) W (Gives W (.bool (p x)))) :
    Calls Tryz.prog 110 #[.slice a n cap, .func (.func g) #[] lb] w (Gives w (.bool (xs.any p))) := by
  have hc := indexSh_any p g lb eg a n cap xs w hL hp
  rw [← idxP_any]
  clear hp hL
  generalize idxP p xs = r at *
  go_enter Tryz.func110, Tryz.ntmps110
  go_wp2_with (go_at_call 145; refine hc.mono ?_; rintro e w' ⟨rfl, hb'⟩)
  go_ret
  exact ⟨rfl, hb'⟩

set_option maxRecDepth 100000 in
set_option maxHeartbeats 400000 in
theorem indexF_any (p : Frac → Bool) (g : Nat) (lb : Array Value) (eg : ∀ args w, (callFunc g args).run Tryz.prog w = .ok (.enter g args) w) (a : Option Addr) (n cap : Nat) (xs : List Frac) (w : World) (hL : Lst w 2 cF a n cap xs)
    (hp : ∀ W x, Below w.heap.size w W → Calls Tryz.prog g (#[aF x] ++ lb) W (Gives W (.bool (p x)))) :
    Calls Tryz.prog 174 #[.slice a n cap, .func (.func g) #[] lb] w (Gives w (.int .i64 (idxP p xs))) := by
  have hm : cap ≤ 9223372036854775807 := by have := hL.max; unfold maxLen at this; omega
  have hle := hL.le
  have hlen := Lib.hid hL.len
  go_enter Tryz.func174, Tryz.ntmps174
  go_wp2
  go_loopw [8] (fun i wr => ∃ k : Nat, k ≤ n ∧ i = .int .i64 k ∧ Below w.heap.size w wr ∧ ∀ y ∈ xs.take k, p y = false) (fun i _ => n - (intOf i).toNat)
  case atStart => exact ⟨0, Nat.zero_le _, rfl, Below.refl _ _, by simp⟩
  case round =>
    obtain ⟨k, hk, rfl, hB, h0⟩ := hrel
    by_cases hlt : k < n
    · obtain ⟨x, hx⟩ : ∃ x, xs[k]? = some x := ⟨xs[k]'(by rw [hlen.out]; exact hlt), by simp⟩
      obtain ⟨b, off, rfl, hb, hr⟩ := hL.at_ k x hx
      have hr' := rangeAt_below hB hb hr
      have hX := Lib.hid hx; clear hx
      have H0 := Lib.hid h0; clear h0
      go_wp2_with (refine wpList_load_mid rfl 41 _ rfl b (off + k * 2) rfl (cF x) _ hr' Tryz.underlying41 rfl (by kernel_rfl) ?_)
      refine (hp wr x hB).mono ?_
      rintro e w2 ⟨rfl, hB2⟩
      have hB3 : Below w.heap.size w w2 := hB.trans (hB2.mono hB.size)
      cases hq : p x with
      | true =>
        have Hq := Lib.hid hq; clear hq
        go_wp2
        go_ret
        exact ⟨by rw [idxP_hit p xs k x hX.out H0.out Hq.out]; rfl, hB3⟩
      | false =>
        have Hq := Lib.hid hq; clear hq
        go_wp2
        go_roundw
        case rel =>
          refine ⟨k + 1, by omega, by go_num, hB3, fun y hy => ?_⟩
          have := List.getElem?_eq_some_iff.1 hX.out
          obtain ⟨h1, h2⟩ := this
          rw [List.take_succ_eq_append_getElem h1, h2] at hy
          rcases List.mem_append.1 hy with hy | hy
          · exact H0.out y hy
          · simp at hy; subst hy; exact Hq.out
        case measure => simp [intOf]; omega
    · obtain rfl : k = n := by omega
      have H0 := Lib.hid h0; clear h0
      go_wp2
      go_ret
      exact ⟨by rw [idxP_miss p xs (fun y hy => H0.out y (by rw [List.take_of_length_le (by rw [hlen.out]; exact Nat.le_refl _)]; exact hy))]; rfl, hB⟩
set_option maxHeartbeats 400000 in
theorem contF_any (p : Frac → Bool) (g : Nat) (lb : Array Value) (eg : ∀ args w, (callFunc g args).run Tryz.prog w = .ok (.enter g args) w) (a : Option Addr) (n cap : Nat) (xs : List Frac) (w : World) (hL : Lst w 2 cF a n cap xs)
    (hp : ∀ W x, Below w.heap.size w W → Calls Tryz.prog g (#[aF x] ++ lb) W (Gives W (.bool (p x)))) :
    Calls Tryz.prog 137 #[.slice a n cap, .func (.func g) #[] lb] w (Gives w (.bool (xs.any p))) := by
  have hc := indexF_any p g lb eg a n cap xs w hL hp
  rw [← idxP_any]
  clear hp hL
  generalize idxP p xs = r at *
  go_enter Tryz.func137, Tryz.ntmps137
  go_wp2_with (go_at_call 174; refine hc.mono ?_; rintro e w' ⟨rfl, hb'⟩)
  go_ret
  exact ⟨rfl, hb'⟩

set_option maxRecDepth 100000 in
set_option maxHeartbeats 400000 in
theorem indexI_any (p : Int → Bool) (g : Nat) (lb : Array Value) (eg : ∀ args w, (callFunc g args).run Tryz.prog w = .ok (.enter g args) w) (a : Option Addr) (n cap : Nat) (xs : List Int) (w : World) (hL : Lst w 1 cI a n cap xs)
    (hp : ∀ W x, Below w.heap.size w W → Calls Tryz.prog g (#[vi x] ++ lb) W (Gives W (.bool (p x)))) :
    Calls Tryz.prog 136 #[.slice a n cap, .func (.func g) #[] lb] w (Gives w (.int .i64 (idxP p xs))) := by
  have hm : cap ≤ 9223372036854775807 := by have := hL.max; unfold maxLen at this; omega
  have hle := hL.le
  have hlen := Lib.hid hL.len
  go_enter Tryz.func136, Tryz.ntmps136
  go_wp2
  go_loopw [8] (fun i wr => ∃ k : Nat, k ≤ n ∧ i = .int .i64 k ∧ Below w.heap.size w wr ∧ ∀ y ∈ xs.take k, p y = false) (fun i _ => n - (intOf i).toNat)
  case atStart => exact ⟨0, Nat.zero_le _, rfl, Below.refl _ _, by simp⟩
  case round =>
    obtain ⟨k, hk, rfl, hB, h0⟩ := hrel
    by_cases hlt : k < n
    · obtain ⟨x, hx⟩ : ∃ x, xs[k]? = some x := ⟨xs[k]'(by rw [hlen.out]; exact hlt), by simp⟩
      obtain ⟨b, off, rfl, hb, hr⟩ := hL.at_ k x hx
      have hr' := rangeAt_below hB hb hr
      have hX := Lib.hid hx; clear hx
      have H0 := Lib.hid h0; clear h0
      have hc0 : wr.cell? ⟨b, off + k, none⟩ = some (vi x) := by have := hr' 0 (vi x) rfl; simpa using this
      go_wp2_with fail
      refine (hp wr x hB).mono ?_
      rintro e w2 ⟨rfl, hB2⟩
      have hB3 : Below w.heap.size w w2 := hB.trans (hB2.mono hB.size)
      cases hq : p x with
      | true =>
        have Hq := Lib.hid hq; clear hq
        go_wp2
        go_ret
        exact ⟨by rw [idxP_hit p xs k x hX.out H0.out Hq.out]; rfl, hB3⟩
      | false =>
        have Hq := Lib.hid hq; clear hq
        go_wp2
        go_roundw
        case rel =>
          refine ⟨k + 1, by omega, by go_num, hB3, fun y hy => ?_⟩
          have := List.getElem?_eq_some_iff.1 hX.out
          obtain ⟨h1, h2⟩ := this
          rw [List.take_succ_eq_append_getElem h1, h2] at hy
          rcases List.mem_append.1 hy with hy | hy
          · exact H0.out y hy
          · simp at hy; subst hy; exact Hq.out
        case measure => simp [intOf]; omega
    · obtain rfl : k = n := by omega
      have H0 := Lib.hid h0; clear h0
      go_wp2
      go_ret
      exact ⟨by rw [idxP_miss p xs (fun y hy => H0.out y (by rw [List.take_of_length_le (by rw [hlen.out]; exact Nat.le_refl _)]; exact hy))]; rfl, hB⟩
set_option maxHeartbeats 400000 in
theorem contI_any (p : Int → Bool) (g : Nat) (lb : Array Value) (eg : ∀ args w, (callFunc g args).run Tryz.prog w = .ok (.enter g args) w) (a : Option Addr) (n cap : Nat) (xs : List Int) (w : World) (hL : Lst w 1 cI a n cap xs)
    (hp : ∀ W x, Below w.heap.size w W → Calls Tryz.prog g (#[vi x] ++ lb) W (Gives W (.bool (p x)))) :
    Calls Tryz.prog 99 #[.slice a n cap, .func (.func g) #[] lb] w (Gives w (.bool (xs.any p))) := by
  have hc := indexI_any p g lb eg a n cap xs w hL hp
  rw [← idxP_any]
  clear hp hL
  generalize idxP p xs = r at *
  go_enter Tryz.func99, Tryz.ntmps99
  go_wp2_with (go_at_call 136; refine hc.mono ?_; rintro e w' ⟨rfl, hb'⟩)
  go_ret
  exact ⟨rfl, hb'⟩

set_option maxRecDepth 100000 in
set_option maxHeartbeats 400000 in
theorem indexB_any (p : UInt8 → Bool) (g : Nat) (lb : Array Value) (eg : ∀ args w, (callFunc g args).run Tryz.prog w = .ok (.enter g args) w) (a : Option Addr) (n cap : Nat) (xs : List UInt8) (w : World) (hL : Lst w 1 cB a n cap xs)
    (hp : ∀ W x, Below w.heap.size w W → Calls Tryz.prog g (#[.int .u8 x.toNat] ++ lb) W (Gives W (.bool (p x)))) :
    Calls Tryz.prog 128 #[.slice a n cap, .func (.func g) #[] lb] w (Gives w (.int .i64 (idxP p xs))) := by
  have hm : cap ≤ 9223372036854775807 := by have := hL.max; unfold maxLen at this; omega
  have hle := hL.le
  have hlen := Lib.hid hL.len
  go_enter Tryz.func128, Tryz.ntmps128
  go_wp2
  go_loopw [8] (fun i wr => ∃ k : Nat, k ≤ n ∧ i = .int .i64 k ∧ Below w.heap.size w wr ∧ ∀ y ∈ xs.take k, p y = false) (fun i _ => n - (intOf i).toNat)
  case atStart => exact ⟨0, Nat.zero_le _, rfl, Below.refl _ _, by simp⟩
  case round =>
    obtain ⟨k, hk, rfl, hB, h0⟩ := hrel
    by_cases hlt : k < n
    · obtain ⟨x, hx⟩ : ∃ x, xs[k]? = some x := ⟨xs[k]'(by rw [hlen.out]; exact hlt), by simp⟩
      obtain ⟨b, off, rfl, hb, hr⟩ := hL.at_ k x hx
      have hr' := rangeAt_below hB hb hr
      have hX := Lib.hid hx; clear hx
      have H0 := Lib.hid h0; clear h0
      have hc0 : wr.cell? ⟨b, off + k, none⟩ = some (.int .u8 x.toNat) := by have := hr' 0 (.int .u8 x.toNat) rfl; simpa using this
      go_wp2_with fail
      refine (hp wr x hB).mono ?_
      rintro e w2 ⟨rfl, hB2⟩
      have hB3 : Below w.heap.size w w2 := hB.trans (hB2.mono hB.size)
      cases hq : p x with
      | true =>
        have Hq := Lib.hid hq; clear hq
        go_wp2
        go_ret
        exact ⟨by rw [idxP_hit p xs k x hX.out H0.out Hq.out]; rfl, hB3⟩
      | false =>
        have Hq := Lib.hid hq; clear hq
        go_wp2
        go_roundw
        case rel =>
          refine ⟨k + 1, by omega, by go_num, hB3, fun y hy => ?_⟩
          have := List.getElem?_eq_some_iff.1 hX.out
          obtain ⟨h1, h2⟩ := this
          rw [List.take_succ_eq_append_getElem h1, h2] at hy
          rcases List.mem_append.1 hy with hy | hy
          · exact H0.out y hy
          · simp at hy; subst hy; exact Hq.out
        case measure => simp [intOf]; omega
    · obtain rfl : k = n := by omega
      have H0 := Lib.hid h0; clear h0
      go_wp2
      go_ret
      exact ⟨by rw [idxP_miss p xs (fun y hy => H0.out y (by rw [List.take_of_length_le (by rw [hlen.out]; exact Nat.le_refl _)]; exact hy))]; rfl, hB⟩
set_option maxHeartbeats 400000 in
theorem contB_any (p : UInt8 → Bool) (g : Nat) (lb : Array Value) (eg : ∀ args w, (callFunc g args).run Tryz.prog w = .ok (.enter g args) w) (a : Option Addr) (n cap : Nat) (xs : List UInt8) (w : World) (hL : Lst w 1 cB a n cap xs)
    (hp : ∀ W x, Below w.heap.size w W → Calls Tryz.prog g (#[.int .u8 x.toNat] ++ lb) W (Gives W (.bool (p x)))) :
    Calls Tryz.prog 92 #[.slice a n cap, .func (.func g) #[] lb] w (Gives w (.bool (xs.any p))) := by
  have hc := indexB_any p g lb eg a n cap xs w hL hp
  rw [← idxP_any]
  clear hp hL
  generalize idxP p xs = r at *
  go_enter Tryz.func92, Tryz.ntmps92
  go_wp2_with (go_at_call 128; refine hc.mono ?_; rintro e w' ⟨rfl, hb'⟩)
  go_ret
  exact ⟨rfl, hb'⟩

end Go.Proofs.YtkeppoiomjhkpaaGreatDoor

/-
  Walks: giving up, and what turns it into an error (claim.ranged).
-/
namespace Go.Proofs.YtkeppoiomjhkpaaGreatDoor
open Go.RowKit Lg Go.Sort

/-- The value that gives up. -/
abbrev upV : Value := .iface 200 (.agg #[])

set_option maxRecDepth 100000 in
set_option maxHeartbeats 400000 in
theorem catch_up (B : Nat) (x : Int) (older : List PanicEntry) (w : World) (hb : Blk w B #[.int .i64 x] 27) :
    CallsD Tryz.prog 162 #[.pointer (some ⟨B, 0, none⟩)] (.panicking ({ v := upV, recovered := false } :: older)) w fun e u' w' =>
      e = .returned (.tuple #[]) ∧ u' = .panicking ({ v := upV, recovered := true } :: older) ∧ w' = (w.alloc (.cells #[] 200)).setCell ⟨B, 0, none⟩ (.int .i64 2) := by
  have hta : ∀ (v : Value) (w : World), (Instr.typeAssert (.iface 200 v) 20 200 true).run Tryz.prog w = .ok (.tuple #[v, .bool true]) w := fun _ _ => by kernel_rfl
  have hc := fun o => (hb.alloc o).cell 0
  have hf := fun o => (hb.alloc o).frozen 0
  refine callsD_of_wpS Tryz.func162 rfl fun c₀ cs hu => ?_
  simp only [Tryz.ntmps162, List.size_toArray, List.length_cons, List.length_nil, Nat.reduceAdd, Nat.reduceSub, Array.replicate_succ, Array.replicate_zero, List.push_toArray, List.append_toArray, List.nil_append, List.cons_append]
  apply wpS_seq
  apply wpS_region
  simp [wpOpsS, go_sem, recoverD, hu, Exit.thenS]
  refine wpS_of_wp ?_
  go_wp2
  all_goals (cases c₀; simp_all [bodyPostS, results, Tryz.results162])

theorem catch_none (B : Nat) (w : World) :
    CallsD Tryz.prog 162 #[.pointer (some ⟨B, 0, none⟩)] .returning w fun e u' w' => e = .returned (.tuple #[]) ∧ u' = .returning ∧ w' = w := by
  refine callsD_of_wpS Tryz.func162 rfl fun c₀ cs hu => ?_
  simp only [Tryz.ntmps162, List.size_toArray, List.length_cons, List.length_nil, Nat.reduceAdd, Nat.reduceSub, Array.replicate_succ, Array.replicate_zero, List.push_toArray, List.append_toArray, List.nil_append, List.cons_append]
  apply wpS_seq
  apply wpS_region
  simp [wpOpsS, go_sem, recoverD, hu, Exit.thenS]
  refine wpS_of_wp ?_
  go_wp2
  all_goals (cases c₀; simp_all [bodyPostS, results, Tryz.results162])

set_option maxRecDepth 100000 in
set_option maxHeartbeats 400000 in
/-- What is run returns: ranged returns 0. -/
theorem ranged_ok (g : Nat) (cb : Array Value) (eg : ∀ args w, (callFunc g args).run Tryz.prog w = .ok (.enter g args) w) (w : World) (R : World → Prop)
    (hg : Calls Tryz.prog g cb (w.alloc (.cells #[.int .i64 0] 27)) fun e w' => e = .returned (.tuple #[]) ∧ Blk w' w.heap.size #[.int .i64 0] 27 ∧ R w') :
    Calls Tryz.prog 129 #[.func (.func g) #[] cb] w fun e w' => e = .returned (.int .i64 0) ∧ ∃ w1, R w1 ∧ w' = w1.setCell ⟨w.heap.size, 0, none⟩ (.int .i64 0) := by
  have hmf : ∀ (fn : Fn) (first cap : Array Value) (w : World), (Instr.makeFunc fn first cap).run Tryz.prog w = .ok (.func fn first cap) w := fun _ _ _ _ => rfl
  go_enter_defers Tryz.func129, Tryz.ntmps129
  go_wp2
  refine hg.mono ?_
  rintro e w1 ⟨rfl, hb, hr⟩
  have c1 : w1.cell? ⟨w.heap.size, 0, none⟩ = some (.int .i64 0) := hb.cell 0
  have f1 := hb.frozen 0
  have HR := Lib.hid hr; clear hr
  go_wp2
  refine leaves_cons (f := 162) (args := #[.pointer (some ⟨w.heap.size, 0, none⟩)]) (by simp) (by simp [go_sem]) ?_
  refine (catch_none w.heap.size _).mono ?_
  rintro e u' w'' ⟨rfl, rfl, rfl⟩
  have hb2 := hb.setCell 0 (.int .i64 0)
  have c2 : (w1.setCell ⟨w.heap.size, 0, none⟩ (.int .i64 0)).cell? ⟨w.heap.size, 0, none⟩ = some (.int .i64 0) := hb2.cell 0
  simp only [Leaves, settle]
  refine ⟨.int .i64 0, ?_, rfl, w1, HR.out, rfl⟩
  simp [results, Tryz.results129, go_sem, c2]

set_option maxRecDepth 100000 in
set_option maxHeartbeats 400000 in
/-- What is run gives up: ranged returns ErrLimit. -/
theorem ranged_up (g : Nat) (cb : Array Value) (eg : ∀ args w, (callFunc g args).run Tryz.prog w = .ok (.enter g args) w) (w : World) (R : World → Prop)
    (hg : Calls Tryz.prog g cb (w.alloc (.cells #[.int .i64 0] 27)) fun e w' => e = .panicked [{ v := upV, recovered := false }] ∧ Blk w' w.heap.size #[.int .i64 0] 27 ∧ R w') :
    Calls Tryz.prog 129 #[.func (.func g) #[] cb] w fun e w' => e = .returned (.int .i64 2) ∧ ∃ w1, R w1 ∧ w' = (w1.alloc (.cells #[] 200)).setCell ⟨w.heap.size, 0, none⟩ (.int .i64 2) := by
  have hmf : ∀ (fn : Fn) (first cap : Array Value) (w : World), (Instr.makeFunc fn first cap).run Tryz.prog w = .ok (.func fn first cap) w := fun _ _ _ _ => rfl
  go_enter_defers Tryz.func129, Tryz.ntmps129
  go_wp2
  refine hg.mono ?_
  rintro e w1 ⟨rfl, hb, hr⟩
  have HR := Lib.hid hr; clear hr
  go_wp2
  refine leaves_cons (f := 162) (args := #[.pointer (some ⟨w.heap.size, 0, none⟩)]) (by simp) (by simp [go_sem]) ?_
  refine (catch_up w.heap.size 0 [] _ hb).mono ?_
  rintro e u' w'' ⟨rfl, rfl, rfl⟩
  have hb2 := (hb.alloc (.cells #[] 200)).setCell 0 (.int .i64 2)
  have c2 : ((w1.alloc (.cells #[] 200)).setCell ⟨w.heap.size, 0, none⟩ (.int .i64 2)).cell? ⟨w.heap.size, 0, none⟩ = some (.int .i64 2) := hb2.cell 0
  simp only [settle]
  refine ⟨.int .i64 2, ?_, rfl, w1, HR.out, rfl⟩
  simp [results, Tryz.results129, go_sem, c2]

end Go.Proofs.YtkeppoiomjhkpaaGreatDoor

/-
  Walks: norm and Norm.
-/
namespace Go.Proofs.YtkeppoiomjhkpaaGreatDoor
open Go.RowKit Lg Go.Sort

set_option maxRecDepth 100000 in
set_option maxHeartbeats 400000 in
theorem norm_ok (num den : Int) (w : World) (h0 : den ≠ 0) (hn : -4000000000000000000 ≤ num ∧ num ≤ 4000000000000000000) (hd : -4000000000000000000 ≤ den ∧ den ≤ 4000000000000000000) (hok : normOk num den = true) :
    Calls Tryz.prog 131 #[.int .i64 num, .int .i64 den] w (Gives w (aF (normN num den))) := by
  obtain ⟨g, hg⟩ : ∃ g : Int, g = (Int.gcd num den : Int) := ⟨_, rfl⟩
  obtain ⟨d, hD⟩ : ∃ d, d = normD num den := ⟨_, rfl⟩
  have hgp : 0 < g := by have := Int.gcd_pos_of_ne_zero_right num h0; omega
  have hgl : g ≤ 4000000000000000000 := by
    have h1 : Int.gcd num den ≤ den.natAbs := Nat.le_of_dvd (by omega) (Int.gcd_dvd_natAbs_right num den)
    omega
  have hdd : d = if den < 0 then -g else g := by rw [hD, hg]; rfl
  have hd0 : d ≠ 0 := by rw [hdd]; split <;> omega
  have hdiv : ∀ W, Calls Tryz.prog 139 #[.int .i64 num, .int .i64 den] W fun e w' => e = .returned (.int .i64 g) ∧ Below W.heap.size W w' := fun W => by rw [hg]; exact divisor_any num den W hn hd
  obtain ⟨q, hq⟩ : ∃ q, q = num.tdiv d := ⟨_, rfl⟩
  obtain ⟨r, hr⟩ : ∃ r, r = den.tdiv d := ⟨_, rfl⟩
  have hqb := tdiv_bd num d _ hn
  have hrb := tdiv_bd den d _ hd
  have hN : normN num den = ⟨q, r⟩ := by rw [hq, hr, hD]; rfl
  have hok' : inn q (-1000000000000) 1000000000000 = true ∧ r ≤ 1000000 := by
    unfold normOk at hok; rw [hN] at hok; simpa using hok
  rw [hN]
  clear hok hN hD hg
  have HQ := Lib.hid hq; clear hq
  have HR := Lib.hid hr; clear hr
  obtain ⟨hi, hr1⟩ := hok'
  by_cases hneg : den < 0
  · obtain rfl : d = -g := by rw [hdd, if_pos hneg]
    have hin : ∀ W, Calls Tryz.prog 103 #[.int .i64 q, .int .i64 (-1000000000000), .int .i64 1000000000000] W fun e w' => e = .returned (.bool true) ∧ W = w' := fun W => by rw [← hi]; exact within5_any _ _ _ W
    clear hdd hi
    go_enter Tryz.func131, Tryz.ntmps131
    go_wp2_with (go_at_call 139; refine (hdiv _).mono ?_; rintro e w1 ⟨rfl, hB1⟩)
    have hb1 : Blk w1 w.heap.size #[.int .i64 0, .int .i64 0] 179 := (Blk.new w _ _).below hB1 (by simp)
    have hB2 : Below w.heap.size w w1 := ((Below.refl _ w).alloc (Nat.le_refl _) _).trans (hB1.mono (by simp))
    clear hB1
    go_quiet (fail)
    have e1 : wrap64 (-num.tdiv g) = q := by rw [HQ.out, Int.tdiv_neg] at *; exact IntWalk.wrap64_in _ (by omega)
    have e2 : wrap64 (-den.tdiv g) = r := by rw [HR.out, Int.tdiv_neg] at *; exact IntWalk.wrap64_in _ (by omega)
    rw [e1, e2]; clear e1 e2
    obtain ⟨w2, hw2⟩ : ∃ w2, w2 = w1.drewN nq := ⟨_, rfl⟩
    have hb2 : Blk w2 w.heap.size #[.int .i64 0, .int .i64 0] 179 := hw2 ▸ hb1
    have hB3 : Below w.heap.size w w2 := hw2 ▸ ⟨hB2.os, hB2.tape, hB2.output, hB2.size, hB2.block⟩
    rw [← hw2]; clear hw2 hb1 hB2 HQ HR hqb hrb
    have c2 := hb2.cell
    have f2 := hb2.frozen
    go_wp2_with (go_at_call 103; refine (hin _).mono ?_; rintro e w3 ⟨rfl, rfl⟩)
    refine bodyPost_ret (results_cell_row rfl _ _ w.heap.size 179 _ _ _ rfl ((hb2.setCell 0 _).setCell 1 _) Tryz.underlying179 rfl (by kernel_rfl)) rfl ⟨?_, (hB3.setCell (p := ⟨w.heap.size, 0, none⟩) (Nat.le_refl _) _).setCell (p := ⟨w.heap.size, 1, none⟩) (Nat.le_refl _) _⟩
    rfl
  · obtain rfl : d = g := by rw [hdd, if_neg hneg]
    have hin : ∀ W, Calls Tryz.prog 103 #[.int .i64 q, .int .i64 (-1000000000000), .int .i64 1000000000000] W fun e w' => e = .returned (.bool true) ∧ W = w' := fun W => by rw [← hi]; exact within5_any _ _ _ W
    clear hdd hi
    go_enter Tryz.func131, Tryz.ntmps131
    go_wp2_with (go_at_call 139; refine (hdiv _).mono ?_; rintro e w1 ⟨rfl, hB1⟩)
    have hb1 : Blk w1 w.heap.size #[.int .i64 0, .int .i64 0] 179 := (Blk.new w _ _).below hB1 (by simp)
    have hB2 : Below w.heap.size w w1 := ((Below.refl _ w).alloc (Nat.le_refl _) _).trans (hB1.mono (by simp))
    clear hB1
    go_quiet (fail)
    rw [← HQ.out, ← HR.out]
    obtain ⟨w2, hw2⟩ : ∃ w2, w2 = w1.drewN nq := ⟨_, rfl⟩
    have hb2 : Blk w2 w.heap.size #[.int .i64 0, .int .i64 0] 179 := hw2 ▸ hb1
    have hB3 : Below w.heap.size w w2 := hw2 ▸ ⟨hB2.os, hB2.tape, hB2.output, hB2.size, hB2.block⟩
    rw [← hw2]; clear hw2 hb1 hB2 HQ HR hqb hrb
    have c2 := hb2.cell
    have f2 := hb2.frozen
    go_wp2_with (go_at_call 103; refine (hin _).mono ?_; rintro e w3 ⟨rfl, rfl⟩)
    refine bodyPost_ret (results_cell_row rfl _ _ w.heap.size 179 _ _ _ rfl ((hb2.setCell 0 _).setCell 1 _) Tryz.underlying179 rfl (by kernel_rfl)) rfl ⟨?_, (hB3.setCell (p := ⟨w.heap.size, 0, none⟩) (Nat.le_refl _) _).setCell (p := ⟨w.heap.size, 1, none⟩) (Nat.le_refl _) _⟩
    rfl

set_option maxRecDepth 100000 in
set_option maxHeartbeats 400000 in
theorem norm_up (num den : Int) (w : World) (h0 : den ≠ 0) (hn : -4000000000000000000 ≤ num ∧ num ≤ 4000000000000000000) (hd : -4000000000000000000 ≤ den ∧ den ≤ 4000000000000000000) (hok : normOk num den = false) :
    Calls Tryz.prog 131 #[.int .i64 num, .int .i64 den] w fun e w' => e = .panicked [{ v := upV, recovered := false }] ∧ Below w.heap.size w w' := by
  obtain ⟨g, hg⟩ : ∃ g : Int, g = (Int.gcd num den : Int) := ⟨_, rfl⟩
  obtain ⟨d, hD⟩ : ∃ d, d = normD num den := ⟨_, rfl⟩
  have hgp : 0 < g := by have := Int.gcd_pos_of_ne_zero_right num h0; omega
  have hgl : g ≤ 4000000000000000000 := by
    have h1 : Int.gcd num den ≤ den.natAbs := Nat.le_of_dvd (by omega) (Int.gcd_dvd_natAbs_right num den)
    omega
  have hdd : d = if den < 0 then -g else g := by rw [hD, hg]; rfl
  have hd0 : d ≠ 0 := by rw [hdd]; split <;> omega
  have hdiv : ∀ W, Calls Tryz.prog 139 #[.int .i64 num, .int .i64 den] W fun e w' => e = .returned (.int .i64 g) ∧ Below W.heap.size W w' := fun W => by rw [hg]; exact divisor_any num den W hn hd
  obtain ⟨q, hq⟩ : ∃ q, q = num.tdiv d := ⟨_, rfl⟩
  obtain ⟨r, hr⟩ : ∃ r, r = den.tdiv d := ⟨_, rfl⟩
  have hqb := tdiv_bd num d _ hn
  have hrb := tdiv_bd den d _ hd
  have hN : normN num den = ⟨q, r⟩ := by rw [hq, hr, hD]; rfl
  have hok' : inn q (-1000000000000) 1000000000000 = true → ¬ r ≤ 1000000 := by
    unfold normOk at hok; rw [hN] at hok; simpa using hok
  clear hok hN hD hg
  have HQ := Lib.hid hq; clear hq
  have HR := Lib.hid hr; clear hr
  by_cases hneg : den < 0
  · obtain rfl : d = -g := by rw [hdd, if_pos hneg]
    have hin : ∀ W, Calls Tryz.prog 103 #[.int .i64 q, .int .i64 (-1000000000000), .int .i64 1000000000000] W fun e w' => e = .returned (.bool (inn q (-1000000000000) 1000000000000)) ∧ W = w' := fun W => within5_any _ _ _ W
    clear hdd
    go_enter Tryz.func131, Tryz.ntmps131
    go_wp2_with (go_at_call 139; refine (hdiv _).mono ?_; rintro e w1 ⟨rfl, hB1⟩)
    have hb1 : Blk w1 w.heap.size #[.int .i64 0, .int .i64 0] 179 := (Blk.new w _ _).below hB1 (by simp)
    have hB2 : Below w.heap.size w w1 := ((Below.refl _ w).alloc (Nat.le_refl _) _).trans (hB1.mono (by simp))
    clear hB1
    go_quiet (fail)
    have e1 : wrap64 (-num.tdiv g) = q := by rw [HQ.out, Int.tdiv_neg] at *; exact IntWalk.wrap64_in _ (by omega)
    have e2 : wrap64 (-den.tdiv g) = r := by rw [HR.out, Int.tdiv_neg] at *; exact IntWalk.wrap64_in _ (by omega)
    rw [e1, e2]; clear e1 e2
    obtain ⟨w2, hw2⟩ : ∃ w2, w2 = w1.drewN nq := ⟨_, rfl⟩
    have hb2 : Blk w2 w.heap.size #[.int .i64 0, .int .i64 0] 179 := hw2 ▸ hb1
    have hB3 : Below w.heap.size w w2 := hw2 ▸ ⟨hB2.os, hB2.tape, hB2.output, hB2.size, hB2.block⟩
    rw [← hw2]; clear hw2 hb1 hB2 HQ HR hqb hrb
    have c2 := hb2.cell
    have f2 := hb2.frozen
    cases hi : inn q (-1000000000000) 1000000000000 with
    | true =>
      rw [hi] at hin
      have hr1 := hok' hi
      clear hok' hi
      have hr2 : 1000000 < r := by omega
      go_wp2_with (go_at_call 103; refine (hin _).mono ?_; rintro e w3 ⟨rfl, rfl⟩)
      exact ⟨rfl, rfl, hB3⟩
    | false =>
      rw [hi] at hin
      clear hok' hi
      go_wp2_with (go_at_call 103; refine (hin _).mono ?_; rintro e w3 ⟨rfl, rfl⟩)
      exact ⟨rfl, rfl, hB3⟩
  · obtain rfl : d = g := by rw [hdd, if_neg hneg]
    have hin : ∀ W, Calls Tryz.prog 103 #[.int .i64 q, .int .i64 (-1000000000000), .int .i64 1000000000000] W fun e w' => e = .returned (.bool (inn q (-1000000000000) 1000000000000)) ∧ W = w' := fun W => within5_any _ _ _ W
    clear hdd
    go_enter Tryz.func131, Tryz.ntmps131
    go_wp2_with (go_at_call 139; refine (hdiv _).mono ?_; rintro e w1 ⟨rfl, hB1⟩)
    have hb1 : Blk w1 w.heap.size #[.int .i64 0, .int .i64 0] 179 := (Blk.new w _ _).below hB1 (by simp)
    have hB2 : Below w.heap.size w w1 := ((Below.refl _ w).alloc (Nat.le_refl _) _).trans (hB1.mono (by simp))
    clear hB1
    go_quiet (fail)
    rw [← HQ.out, ← HR.out]
    obtain ⟨w2, hw2⟩ : ∃ w2, w2 = w1.drewN nq := ⟨_, rfl⟩
    have hb2 : Blk w2 w.heap.size #[.int .i64 0, .int .i64 0] 179 := hw2 ▸ hb1
    have hB3 : Below w.heap.size w w2 := hw2 ▸ ⟨hB2.os, hB2.tape, hB2.output, hB2.size, hB2.block⟩
    rw [← hw2]; clear hw2 hb1 hB2 HQ HR hqb hrb
    have c2 := hb2.cell
    have f2 := hb2.frozen
    cases hi : inn q (-1000000000000) 1000000000000 with
    | true =>
      rw [hi] at hin
      have hr1 := hok' hi
      clear hok' hi
      have hr2 : 1000000 < r := by omega
      go_wp2_with (go_at_call 103; refine (hin _).mono ?_; rintro e w3 ⟨rfl, rfl⟩)
      exact ⟨rfl, rfl, hB3⟩
    | false =>
      rw [hi] at hin
      clear hok' hi
      go_wp2_with (go_at_call 103; refine (hin _).mono ?_; rintro e w3 ⟨rfl, rfl⟩)
      exact ⟨rfl, rfl, hB3⟩

end Go.Proofs.YtkeppoiomjhkpaaGreatDoor
