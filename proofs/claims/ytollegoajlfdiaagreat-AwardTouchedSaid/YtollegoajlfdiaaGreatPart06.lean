import Derived.Test.YtollegoajlfdiaaGreatPart01
import Derived.Test.YtollegoajlfdiaaGreatPart05
import Derived.Test.YtollegoajlfdiaaGreatPart04
import Derived.Shelf.Abstract
namespace Go.Proofs.YtollegoajlfdiaaGreat
open Go.RowKit Lg Go.Sort

/-- The first index at which p holds, or -1. -/
def idxP {α : Type} (p : α → Bool) : List α → Int
  | [] => -1
  | x :: xs => if p x then 0 else (if idxP p xs < 0 then -1 else idxP p xs + 1)

theorem idxP_ge {α : Type} (p : α → Bool) (xs : List α) : -1 ≤ idxP p xs := by
  induction xs with
  | nil => simp [idxP]
  | cons x xs ih => unfold idxP; split <;> (try split) <;> omega

theorem idxP_any {α : Type} (p : α → Bool) (xs : List α) : decide (0 ≤ idxP p xs) = xs.any p := by
  induction xs with
  | nil => simp [idxP]
  | cons x xs ih =>
    have := idxP_ge p xs
    rw [List.any_cons, ← ih]
    show decide (0 ≤ if p x = true then (0 : Int) else if idxP p xs < 0 then -1 else idxP p xs + 1) = _
    generalize idxP p xs = r at *
    by_cases h : p x = true
    · simp [h]
    · simp only [h, Bool.false_or, Bool.false_eq_true, if_false]
      split
      · rw [decide_eq_decide]; omega
      · rw [decide_eq_decide]; omega

theorem idxP_hit {α : Type} (p : α → Bool) (xs : List α) (k : Nat) (x : α) (hx : xs[k]? = some x) (h0 : ∀ y ∈ xs.take k, p y = false) (h : p x = true) : idxP p xs = k := by
  induction xs generalizing k with
  | nil => simp at hx
  | cons y ys ih =>
    cases k with
    | zero => simp at hx; subst hx; simp [idxP, h]
    | succ k =>
      have hy : p y = false := h0 y (by simp)
      have := ih k (by simpa using hx) (fun z hz => h0 z (by simp [hz]))
      unfold idxP
      simp only [hy, this]
      split
      · contradiction
      · split <;> omega

theorem idxP_miss {α : Type} (p : α → Bool) (xs : List α) (h0 : ∀ y ∈ xs, p y = false) : idxP p xs = -1 := by
  induction xs with
  | nil => rfl
  | cons y ys ih => unfold idxP; rw [ih (fun z hz => h0 z (by simp [hz]))]; simp [h0 y (by simp)]

set_option maxRecDepth 100000 in
set_option maxHeartbeats 400000 in
theorem indexR_any (p : Rate → Bool) (g : Nat) (lb : Array Value) (eg : ∀ args w, (callFunc g args).run Tryz.prog w = .ok (.enter g args) w) (a : Option Addr) (n cap : Nat) (xs : List Rate) (w : World) (hL : Lst w 9 cR a n cap xs)
    (hp : ∀ W x, Below w.heap.size w W → Calls Tryz.prog g (#[aR x] ++ lb) W (Gives W (.bool (p x)))) :
    Calls Tryz.prog 152 #[.slice a n cap, .func (.func g) #[] lb] w (Gives w (.int .i64 (idxP p xs))) := by
  have hm : cap ≤ 9223372036854775807 := by have := hL.max; unfold maxLen at this; omega
  have hle := hL.le
  have hlen := Lib.hid hL.len
  go_enter Tryz.func152, Tryz.ntmps152
  go_wp2
  go_loopw [8] (fun i wr => ∃ k : Nat, k ≤ n ∧ i = .int .i64 k ∧ Below w.heap.size w wr ∧ ∀ y ∈ xs.take k, p y = false) (fun i _ => n - (intOf i).toNat)
  case atStart => exact ⟨0, Nat.zero_le _, rfl, Below.refl _ _, by simp⟩
  case round =>
    obtain ⟨k, hk, rfl, hB, h0⟩ := hrel
    by_cases hlt : k < n
    · obtain ⟨x, hx⟩ : ∃ x, xs[k]? = some x := ⟨xs[k]'(by rw [hlen.out]; exact hlt), by simp⟩
      obtain ⟨b, off, rfl, hb, hr⟩ := hL.at_ k x hx
      have hr' := rangeAt_below hB hb hr
      have hX := Lib.hid hx; clear hx
      have H0 := Lib.hid h0; clear h0
      go_wp2_with (refine wpList_load_mid rfl 26 _ rfl b (off + k * 9) rfl (cR x) _ hr' Tryz.underlying26 rfl (by kernel_rfl) ?_)
      refine (hp wr x hB).mono ?_
      rintro e w2 ⟨rfl, hB2⟩
      have hB3 : Below w.heap.size w w2 := hB.trans (hB2.mono hB.size)
      cases hq : p x with
      | true =>
        have Hq := Lib.hid hq; clear hq
        go_wp2
        go_ret
        exact ⟨by rw [idxP_hit p xs k x hX.out H0.out Hq.out]; rfl, hB3⟩
      | false =>
        have Hq := Lib.hid hq; clear hq
        go_wp2
        go_roundw
        case rel =>
          refine ⟨k + 1, by omega, by go_num, hB3, fun y hy => ?_⟩
          have := List.getElem?_eq_some_iff.1 hX.out
          obtain ⟨h1, h2⟩ := this
          rw [List.take_succ_eq_append_getElem h1, h2] at hy
          rcases List.mem_append.1 hy with hy | hy
          · exact H0.out y hy
          · simp at hy; subst hy; exact Hq.out
        case measure => simp [intOf]; omega
    · obtain rfl : k = n := by omega
      have H0 := Lib.hid h0; clear h0
      go_wp2
      go_ret
      exact ⟨by rw [idxP_miss p xs (fun y hy => H0.out y (by rw [List.take_of_length_le (by rw [hlen.out]; exact Nat.le_refl _)]; exact hy))]; rfl, hB⟩
set_option maxHeartbeats 400000 in
theorem contR_any (p : Rate → Bool) (g : Nat) (lb : Array Value) (eg : ∀ args w, (callFunc g args).run Tryz.prog w = .ok (.enter g args) w) (a : Option Addr) (n cap : Nat) (xs : List Rate) (w : World) (hL : Lst w 9 cR a n cap xs)
    (hp : ∀ W x, Below w.heap.size w W → Calls Tryz.prog g (#[aR x] ++ lb) W (Gives W (.bool (p x)))) :
    Calls Tryz.prog 116 #[.slice a n cap, .func (.func g) #[] lb] w (Gives w (.bool (xs.any p))) := by
  have hc := indexR_any p g lb eg a n cap xs w hL hp
  rw [← idxP_any]
  clear hp hL
  generalize idxP p xs = r at *
  go_enter Tryz.func116, Tryz.ntmps116
  go_wp2_with (go_at_call 152; refine hc.mono ?_; rintro e w' ⟨rfl, hb'⟩)
  go_ret
  exact ⟨rfl, hb'⟩

set_option maxRecDepth 100000 in
set_option maxHeartbeats 400000 in
theorem indexS_any (p : Sale → Bool) (g : Nat) (lb : Array Value) (eg : ∀ args w, (callFunc g args).run Tryz.prog w = .ok (.enter g args) w) (a : Option Addr) (n cap : Nat) (xs : List Sale) (w : World) (hL : Lst w 9 cS a n cap xs)
    (hp : ∀ W x, Below w.heap.size w W → Calls Tryz.prog g (#[aS x] ++ lb) W (Gives W (.bool (p x)))) :
    Calls Tryz.prog 159 #[.slice a n cap, .func (.func g) #[] lb] w (Gives w (.int .i64 (idxP p xs))) := by
  have hm : cap ≤ 9223372036854775807 := by have := hL.max; unfold maxLen at this; omega
  have hle := hL.le
  have hlen := Lib.hid hL.len
  go_enter Tryz.func159, Tryz.ntmps159
  go_wp2
  go_loopw [8] (fun i wr => ∃ k : Nat, k ≤ n ∧ i = .int .i64 k ∧ Below w.heap.size w wr ∧ ∀ y ∈ xs.take k, p y = false) (fun i _ => n - (intOf i).toNat)
  case atStart => exact ⟨0, Nat.zero_le _, rfl, Below.refl _ _, by simp⟩
  case round =>
    obtain ⟨k, hk, rfl, hB, h0⟩ := hrel
    by_cases hlt : k < n
    · obtain ⟨x, hx⟩ : ∃ x, xs[k]? = some x := ⟨xs[k]'(by rw [hlen.out]; exact hlt), by simp⟩
      obtain ⟨b, off, rfl, hb, hr⟩ := hL.at_ k x hx
      have hr' := rangeAt_below hB hb hr
      have hX := Lib.hid hx; clear hx
      have H0 := Lib.hid h0; clear h0
      go_wp2_with (refine wpList_load_mid rfl 39 _ rfl b (off + k * 9) rfl (cS x) _ hr' Tryz.underlying39 rfl (by kernel_rfl) ?_)
      refine (hp wr x hB).mono ?_
      rintro e w2 ⟨rfl, hB2⟩
      have hB3 : Below w.heap.size w w2 := hB.trans (hB2.mono hB.size)
      cases hq : p x with
      | true =>
        have Hq := Lib.hid hq; clear hq
        go_wp2
        go_ret
        exact ⟨by rw [idxP_hit p xs k x hX.out H0.out Hq.out]; rfl, hB3⟩
      | false =>
        have Hq := Lib.hid hq; clear hq
        go_wp2
        go_roundw
        case rel =>
          refine ⟨k + 1, by omega, by go_num, hB3, fun y hy => ?_⟩
          have := List.getElem?_eq_some_iff.1 hX.out
          obtain ⟨h1, h2⟩ := this
          rw [List.take_succ_eq_append_getElem h1, h2] at hy
          rcases List.mem_append.1 hy with hy | hy
          · exact H0.out y hy
          · simp at hy; subst hy; exact Hq.out
        case measure => simp [intOf]; omega
    · obtain rfl : k = n := by omega
      have H0 := Lib.hid h0; clear h0
      go_wp2
      go_ret
      exact ⟨by rw [idxP_miss p xs (fun y hy => H0.out y (by rw [List.take_of_length_le (by rw [hlen.out]; exact Nat.le_refl _)]; exact hy))]; rfl, hB⟩
set_option maxHeartbeats 400000 in
theorem contS_any (p : Sale → Bool) (g : Nat) (lb : Array Value) (eg : ∀ args w, (callFunc g args).run Tryz.prog w = .ok (.enter g args) w) (a : Option Addr) (n cap : Nat) (xs : List Sale) (w : World) (hL : Lst w 9 cS a n cap xs)
    (hp : ∀ W x, Below w.heap.size w W → Calls Tryz.prog g (#[aS x] ++ lb) W (Gives W (.bool (p x)))) :
    Calls Tryz.prog 129 #[.slice a n cap, .func (.func g) #[] lb] w (Gives w (.bool (xs.any p))) := by
  have hc := indexS_any p g lb eg a n cap xs w hL hp
  rw [← idxP_any]
  clear hp hL
  generalize idxP p xs = r at *
  go_enter Tryz.func129, Tryz.ntmps129
  go_wp2_with (go_at_call 159; refine hc.mono ?_; rintro e w' ⟨rfl, hb'⟩)
  go_ret
  exact ⟨rfl, hb'⟩

set_option maxRecDepth 100000 in
set_option maxHeartbeats 400000 in
theorem indexSh_any (p : Share → Bool) (g : Nat) (lb : Array Value) (eg : ∀ args w, (callFunc g args).run Tryz.prog w = .ok (.enter g args) w) (a : Option Addr) (n cap : Nat) (xs : List Share) (w : World) (hL : Lst w 2 cSh a n cap xs)
    (hp : ∀ W x, Below w.heap.size w W → Calls Tryz.prog g (#[aSh x] ++ lb) W (Gives W (.bool (p x)))) :
    Calls Tryz.prog 156 #[.slice a n cap, .func (.func g) #[] lb] w (Gives w (.int .i64 (idxP p xs))) := by
  have hm : cap ≤ 9223372036854775807 := by have := hL.max; unfold maxLen at this; omega
  have hle := hL.le
  have hlen := Lib.hid hL.len
  go_enter Tryz.func156, Tryz.ntmps156
  go_wp2
  go_loopw [8] (fun i wr => ∃ k : Nat, k ≤ n ∧ i = .int .i64 k ∧ Below w.heap.size w wr ∧ ∀ y ∈ xs.take k, p y = false) (fun i _ => n - (intOf i).toNat)
  case atStart => exact ⟨0, Nat.zero_le _, rfl, Below.refl _ _, by simp⟩
  case round =>
    obtain ⟨k, hk, rfl, hB, h0⟩ := hrel
    by_cases hlt : k < n
    · obtain ⟨x, hx⟩ : ∃ x, xs[k]? = some x := ⟨xs[k]'(by rw [hlen.out]; exact hlt), by simp⟩
      obtain ⟨b, off, rfl, hb, hr⟩ := hL.at_ k x hx
      have hr' := rangeAt_below hB hb hr
      have hX := Lib.hid hx; clear hx
      have H0 := Lib.hid h0; clear h0
      go_wp2_with (refine wpList_load_mid rfl 69 _ rfl b (off + k * 2) rfl (cSh x) _ hr' Tryz.underlying69 rfl (by kernel_rfl) ?_)
      refine (hp wr x hB).mono ?_
      rintro e w2 ⟨rfl, hB2⟩
      have hB3 : Below w.heap.size w w2 := hB.trans (hB2.mono hB.size)
      cases hq : p x with
      | true =>
        have Hq := Lib.hid hq; clear hq
        go_wp2
        go_ret
        exact ⟨by rw [idxP_hit p xs k x hX.out H0.out Hq.out]; rfl, hB3⟩
      | false =>
        have Hq := Lib.hid hq; clear hq
        go_wp2
        go_roundw
        case rel =>
          refine ⟨k + 1, by omega, by go_num, hB3, fun y hy => ?_⟩
          have := List.getElem?_eq_some_iff.1 hX.out
          obtain ⟨h1, h2⟩ := this
          rw [List.take_succ_eq_append_getElem h1, h2] at hy
          rcases List.mem_append.1 hy with hy | hy
          · exact H0.out y hy
          · simp at hy; subst hy; exact Hq.out
        case measure => simp [intOf]; omega
    · obtain rfl : k = n := by omega
      have H0 := Lib.hid h0; clear h0
      go_wp2
      go_ret
      exact ⟨by rw [idxP_miss p xs (fun y hy => H0.out y (by rw [List.take_of_length_le (by rw [hlen.out]; exact Nat.le_refl _)]; exact hy))]; rfl, hB⟩
set_option maxHeartbeats 400000 in
theorem contSh_any (p : Share → Bool) (g : Nat) (lb : Array Value) (eg : ∀ args w, (callFunc g args).run Tryz.prog w = .ok (.enter g args) w) (a : Option Addr) (n cap : Nat) (xs : List Share) (w : World) (hL : Lst w 2 cSh a n cap xs)
    (hp : ∀ W x, Below w.heap.size w W → Calls Tryz.prog g (#[aSh x] ++ lb) W (Gives W (.bool (p x)))) :
    Calls Tryz.prog 123 #[.slice a n cap, .func (.func g) #[] lb] w (Gives w (.bool (xs.any p))) := by
  have hc := indexSh_any p g lb eg a n cap xs w hL hp
  rw [← idxP_any]
  clear hp hL
  generalize idxP p xs = r at *
  go_enter Tryz.func123, Tryz.ntmps123
  go_wp2_with (go_at_call 156; refine hc.mono ?_; rintro e w' ⟨rfl, hb'⟩)
  go_ret
  exact ⟨rfl, hb'⟩

set_option maxRecDepth 100000 in
set_option maxHeartbeats 400000 in
theorem indexF_any (p : Frac → Bool) (g : Nat) (lb : Array Value) (eg : ∀ args w, (callFunc g args).run Tryz.prog w = .ok (.enter g args) w) (a : Option Addr) (n cap : Nat) (xs : List Frac) (w : World) (hL : Lst w 2 cF a n cap xs)
    (hp : ∀ W x, Below w.heap.size w W → Calls Tryz.prog g (#[aF x] ++ lb) W (Gives W (.bool (p x)))) :
    Calls Tryz.prog 174 #[.slice a n cap, .func (.func g) #[] lb] w (Gives w (.int .i64 (idxP p xs))) := by
  have hm : cap ≤ 9223372036854775807 := by have := hL.max; unfold maxLen at this; omega
  have hle := hL.le
  have hlen := Lib.hid hL.len
  go_enter Tryz.func174, Tryz.ntmps174
  go_wp2
  go_loopw [8] (fun i wr => ∃ k : Nat, k ≤ n ∧ i = .int .i64 k ∧ Below w.heap.size w wr ∧ ∀ y ∈ xs.take k, p y = false) (fun i _ => n - (intOf i).toNat)
  case atStart => exact ⟨0, Nat.zero_le _, rfl, Below.refl _ _, by simp⟩
  case round =>
    obtain ⟨k, hk, rfl, hB, h0⟩ := hrel
    by_cases hlt : k < n
    · obtain ⟨x, hx⟩ : ∃ x, xs[k]? = some x := ⟨xs[k]'(by rw [hlen.out]; exact hlt), by simp⟩
      obtain ⟨b, off, rfl, hb, hr⟩ := hL.at_ k x hx
      have hr' := rangeAt_below hB hb hr
      have hX := Lib.hid hx; clear hx
      have H0 := Lib.hid h0; clear h0
      go_wp2_with (refine wpList_load_mid rfl 24 _ rfl b (off + k * 2) rfl (cF x) _ hr' Tryz.underlying24 rfl (by kernel_rfl) ?_)
      refine (hp wr x hB).mono ?_
      rintro e w2 ⟨rfl, hB2⟩
      have hB3 : Below w.heap.size w w2 := hB.trans (hB2.mono hB.size)
      cases hq : p x with
      | true =>
        have Hq := Lib.hid hq; clear hq
        go_wp2
        go_ret
        exact ⟨by rw [idxP_hit p xs k x hX.out H0.out Hq.out]; rfl, hB3⟩
      | false =>
        have Hq := Lib.hid hq; clear hq
        go_wp2
        go_roundw
        case rel =>
          refine ⟨k + 1, by omega, by go_num, hB3, fun y hy => ?_⟩
          have := List.getElem?_eq_some_iff.1 hX.out
          obtain ⟨h1, h2⟩ := this
          rw [List.take_succ_eq_append_getElem h1, h2] at hy
          rcases List.mem_append.1 hy with hy | hy
          · exact H0.out y hy
          · simp at hy; subst hy; exact Hq.out
        case measure => simp [intOf]; omega
    · obtain rfl : k = n := by omega
      have H0 := Lib.hid h0; clear h0
      go_wp2
      go_ret
      exact ⟨by rw [idxP_miss p xs (fun y hy => H0.out y (by rw [List.take_of_length_le (by rw [hlen.out]; exact Nat.le_refl _)]; exact hy))]; rfl, hB⟩
set_option maxHeartbeats 400000 in
theorem contF_any (p : Frac → Bool) (g : Nat) (lb : Array Value) (eg : ∀ args w, (callFunc g args).run Tryz.prog w = .ok (.enter g args) w) (a : Option Addr) (n cap : Nat) (xs : List Frac) (w : World) (hL : Lst w 2 cF a n cap xs)
    (hp : ∀ W x, Below w.heap.size w W → Calls Tryz.prog g (#[aF x] ++ lb) W (Gives W (.bool (p x)))) :
    Calls Tryz.prog 140 #[.slice a n cap, .func (.func g) #[] lb] w (Gives w (.bool (xs.any p))) := by
  have hc := indexF_any p g lb eg a n cap xs w hL hp
  rw [← idxP_any]
  clear hp hL
  generalize idxP p xs = r at *
  go_enter Tryz.func140, Tryz.ntmps140
  go_wp2_with (go_at_call 174; refine hc.mono ?_; rintro e w' ⟨rfl, hb'⟩)
  go_ret
  exact ⟨rfl, hb'⟩

set_option maxRecDepth 100000 in
set_option maxHeartbeats 400000 in
theorem indexI_any (p : Int → Bool) (g : Nat) (lb : Array Value) (eg : ∀ args w, (callFunc g args).run Tryz.prog w = .ok (.enter g args) w) (a : Option Addr) (n cap : Nat) (xs : List Int) (w : World) (hL : Lst w 1 cI a n cap xs)
    (hp : ∀ W x, Below w.heap.size w W → Calls Tryz.prog g (#[vi x] ++ lb) W (Gives W (.bool (p x)))) :
    Calls Tryz.prog 139 #[.slice a n cap, .func (.func g) #[] lb] w (Gives w (.int .i64 (idxP p xs))) := by
  have hm : cap ≤ 9223372036854775807 := by have := hL.max; unfold maxLen at this; omega
  have hle := hL.le
  have hlen := Lib.hid hL.len
  go_enter Tryz.func139, Tryz.ntmps139
  go_wp2
  go_loopw [8] (fun i wr => ∃ k : Nat, k ≤ n ∧ i = .int .i64 k ∧ Below w.heap.size w wr ∧ ∀ y ∈ xs.take k, p y = false) (fun i _ => n - (intOf i).toNat)
  case atStart => exact ⟨0, Nat.zero_le _, rfl, Below.refl _ _, by simp⟩
  case round =>
    obtain ⟨k, hk, rfl, hB, h0⟩ := hrel
    by_cases hlt : k < n
    · obtain ⟨x, hx⟩ : ∃ x, xs[k]? = some x := ⟨xs[k]'(by rw [hlen.out]; exact hlt), by simp⟩
      obtain ⟨b, off, rfl, hb, hr⟩ := hL.at_ k x hx
      have hr' := rangeAt_below hB hb hr
      have hX := Lib.hid hx; clear hx
      have H0 := Lib.hid h0; clear h0
      have hc0 : wr.cell? ⟨b, off + k, none⟩ = some (vi x) := by have := hr' 0 (vi x) rfl; simpa using this
      go_wp2_with fail
      refine (hp wr x hB).mono ?_
      rintro e w2 ⟨rfl, hB2⟩
      have hB3 : Below w.heap.size w w2 := hB.trans (hB2.mono hB.size)
      cases hq : p x with
      | true =>
        have Hq := Lib.hid hq; clear hq
        go_wp2
        go_ret
        exact ⟨by rw [idxP_hit p xs k x hX.out H0.out Hq.out]; rfl, hB3⟩
      | false =>
        have Hq := Lib.hid hq; clear hq
        go_wp2
        go_roundw
        case rel =>
          refine ⟨k + 1, by omega, by go_num, hB3, fun y hy => ?_⟩
          have := List.getElem?_eq_some_iff.1 hX.out
          obtain ⟨h1, h2⟩ := this
          rw [List.take_succ_eq_append_getElem h1, h2] at hy
          rcases List.mem_append.1 hy with hy | hy
          · exact H0.out y hy
          · simp at hy; subst hy; exact Hq.out
        case measure => simp [intOf]; omega
    · obtain rfl : k = n := by omega
      have H0 := Lib.hid h0; clear h0
      go_wp2
      go_ret
      exact ⟨by rw [idxP_miss p xs (fun y hy => H0.out y (by rw [List.take_of_length_le (by rw [hlen.out]; exact Nat.le_refl _)]; exact hy))]; rfl, hB⟩
set_option maxHeartbeats 400000 in
theorem contI_any (p : Int → Bool) (g : Nat) (lb : Array Value) (eg : ∀ args w, (callFunc g args).run Tryz.prog w = .ok (.enter g args) w) (a : Option Addr) (n cap : Nat) (xs : List Int) (w : World) (hL : Lst w 1 cI a n cap xs)
    (hp : ∀ W x, Below w.heap.size w W → Calls Tryz.prog g (#[vi x] ++ lb) W (Gives W (.bool (p x)))) :
    Calls Tryz.prog 100 #[.slice a n cap, .func (.func g) #[] lb] w (Gives w (.bool (xs.any p))) := by
  have hc := indexI_any p g lb eg a n cap xs w hL hp
  rw [← idxP_any]
  clear hp hL
  generalize idxP p xs = r at *
  go_enter Tryz.func100, Tryz.ntmps100
  go_wp2_with (go_at_call 139; refine hc.mono ?_; rintro e w' ⟨rfl, hb'⟩)
  go_ret
  exact ⟨rfl, hb'⟩

set_option maxRecDepth 100000 in
set_option maxHeartbeats 400000 in
theorem indexB_any (p : UInt8 → Bool) (g : Nat) (lb : Array Value) (eg : ∀ args w, (callFunc g args).run Tryz.prog w = .ok (.enter g args) w) (a : Option Addr) (n cap : Nat) (xs : List UInt8) (w : World) (hL : Lst w 1 cB a n cap xs)
    (hp : ∀ W x, Below w.heap.size w W → Calls Tryz.prog g (#[.int .u8 x.toNat] ++ lb) W (Gives W (.bool (p x)))) :
    Calls Tryz.prog 171 #[.slice a n cap, .func (.func g) #[] lb] w (Gives w (.int .i64 (idxP p xs))) := by
  have hm : cap ≤ 9223372036854775807 := by have := hL.max; unfold maxLen at this; omega
  have hle := hL.le
  have hlen := Lib.hid hL.len
  go_enter Tryz.func171, Tryz.ntmps171
  go_wp2
  go_loopw [8] (fun i wr => ∃ k : Nat, k ≤ n ∧ i = .int .i64 k ∧ Below w.heap.size w wr ∧ ∀ y ∈ xs.take k, p y = false) (fun i _ => n - (intOf i).toNat)
  case atStart => exact ⟨0, Nat.zero_le _, rfl, Below.refl _ _, by simp⟩
  case round =>
    obtain ⟨k, hk, rfl, hB, h0⟩ := hrel
    by_cases hlt : k < n
    · obtain ⟨x, hx⟩ : ∃ x, xs[k]? = some x := ⟨xs[k]'(by rw [hlen.out]; exact hlt), by simp⟩
      obtain ⟨b, off, rfl, hb, hr⟩ := hL.at_ k x hx
      have hr' := rangeAt_below hB hb hr
      have hX := Lib.hid hx; clear hx
      have H0 := Lib.hid h0; clear h0
      have hc0 : wr.cell? ⟨b, off + k, none⟩ = some (.int .u8 x.toNat) := by have := hr' 0 (.int .u8 x.toNat) rfl; simpa using this
      go_wp2_with fail
      refine (hp wr x hB).mono ?_
      rintro e w2 ⟨rfl, hB2⟩
      have hB3 : Below w.heap.size w w2 := hB.trans (hB2.mono hB.size)
      cases hq : p x with
      | true =>
        have Hq := Lib.hid hq; clear hq
        go_wp2
        go_ret
        exact ⟨by rw [idxP_hit p xs k x hX.out H0.out Hq.out]; rfl, hB3⟩
      | false =>
        have Hq := Lib.hid hq; clear hq
        go_wp2
        go_roundw
        case rel =>
          refine ⟨k + 1, by omega, by go_num, hB3, fun y hy => ?_⟩
          have := List.getElem?_eq_some_iff.1 hX.out
          obtain ⟨h1, h2⟩ := this
          rw [List.take_succ_eq_append_getElem h1, h2] at hy
          rcases List.mem_append.1 hy with hy | hy
          · exact H0.out y hy
          · simp at hy; subst hy; exact Hq.out
        case measure => simp [intOf]; omega
    · obtain rfl : k = n := by omega
      have H0 := Lib.hid h0; clear h0
      go_wp2
      go_ret
      exact ⟨by rw [idxP_miss p xs (fun y hy => H0.out y (by rw [List.take_of_length_le (by rw [hlen.out]; exact Nat.le_refl _)]; exact hy))]; rfl, hB⟩
set_option maxHeartbeats 400000 in
theorem contB_any (p : UInt8 → Bool) (g : Nat) (lb : Array Value) (eg : ∀ args w, (callFunc g args).run Tryz.prog w = .ok (.enter g args) w) (a : Option Addr) (n cap : Nat) (xs : List UInt8) (w : World) (hL : Lst w 1 cB a n cap xs)
    (hp : ∀ W x, Below w.heap.size w W → Calls Tryz.prog g (#[.int .u8 x.toNat] ++ lb) W (Gives W (.bool (p x)))) :
    Calls Tryz.prog 135 #[.slice a n cap, .func (.func g) #[] lb] w (Gives w (.bool (xs.any p))) := by
  have hc := indexB_any p g lb eg a n cap xs w hL hp
  rw [← idxP_any]
  clear hp hL
  generalize idxP p xs = r at *
  go_enter Tryz.func135, Tryz.ntmps135
  go_wp2_with (go_at_call 171; refine hc.mono ?_; rintro e w' ⟨rfl, hb'⟩)
  go_ret
  exact ⟨rfl, hb'⟩

end Go.Proofs.YtollegoajlfdiaaGreat

/-
  Walks: valid fractions; sums of two of them.
-/
namespace Go.Proofs.YtollegoajlfdiaaGreat
open Go.RowKit Lg Go.Sort Go.Shelf

set_option maxRecDepth 100000 in
set_option maxHeartbeats 800000 in
theorem valid1_any (f : Frac) (w : World) : Calls Tryz.prog 141 #[aF f] w (Gives w (.bool (!validF f))) := by
  have h1 := fun W => within5_any f.den 1 1000000 W
  have h2 := fun W => within5_any f.num (-1000000000000) 1000000000000 W
  have hv : validF f = (inn f.den 1 1000000 && inn f.num (-1000000000000) 1000000000000 && decide (Int.gcd f.num f.den = 1)) := rfl
  rw [hv]
  clear hv
  have hb : RowKit.Below w.heap.size w (w.alloc (.cells #[.int .i64 f.num, .int .i64 f.den] 24)) := (Below.refl _ w).alloc (Nat.le_refl _) _
  rcases Bool.eq_false_or_eq_true (inn f.den 1 1000000) with e1 | e1 <;> rw [e1] at h1 ⊢
  · rcases Bool.eq_false_or_eq_true (inn f.num (-1000000000000) 1000000000000) with e2 | e2 <;> rw [e2] at h2 ⊢
    · have b1 := (inn_iff _ _ _).1 e1
      have b2 := (inn_iff _ _ _).1 e2
      have hd := fun W => divisor_any f.num f.den W (by omega) (by omega)
      have E1 := Lib.hid e1
      have E2 := Lib.hid e2
      clear e1 e2 b1 b2
      by_cases hg : Int.gcd f.num f.den = 1
      · have hg' : ∀ W, Calls Tryz.prog 142 #[.int .i64 f.num, .int .i64 f.den] W fun e w' => e = .returned (.int .i64 1) ∧ Below W.heap.size W w' := fun W => by have := hd W; rw [hg] at this; exact this
        rw [decide_eq_true hg]
        clear hd hg
        go_enter Tryz.func141, Tryz.ntmps141
        go_wp2_with (fail)
        refine (h1 _).mono ?_
        rintro e w2 ⟨rfl, rfl⟩
        go_wp2_with (fail)
        refine (h2 _).mono ?_
        rintro e w2 ⟨rfl, rfl⟩
        go_wp2_with (fail)
        refine (hg' _).mono ?_
        rintro e w2 ⟨rfl, hB⟩
        go_wp2_with (fail)
        go_ret
        exact ⟨rfl, hb.trans (hB.mono hb.size)⟩
      · obtain ⟨g, hgg⟩ : ∃ g : Int, g = (Int.gcd f.num f.den : Int) := ⟨_, rfl⟩
        have hg1 : (g != 1) = true := by simp; omega
        rw [← hgg] at hd
        rw [decide_eq_false hg]
        clear hg hgg
        go_enter Tryz.func141, Tryz.ntmps141
        go_wp2_with (fail)
        refine (h1 _).mono ?_
        rintro e w2 ⟨rfl, rfl⟩
        go_wp2_with (fail)
        refine (h2 _).mono ?_
        rintro e w2 ⟨rfl, rfl⟩
        go_wp2_with (fail)
        refine (hd _).mono ?_
        rintro e w2 ⟨rfl, hB⟩
        go_wp2_with (fail)
        go_ret
        exact ⟨rfl, hb.trans (hB.mono hb.size)⟩
    · clear e1 e2
      go_enter Tryz.func141, Tryz.ntmps141
      go_wp2_with (fail)
      refine (h1 _).mono ?_
      rintro e w2 ⟨rfl, rfl⟩
      go_wp2_with (fail)
      refine (h2 _).mono ?_
      rintro e w2 ⟨rfl, rfl⟩
      go_wp2_with (fail)
      go_ret
      exact ⟨rfl, hb⟩
  · clear e1
    go_enter Tryz.func141, Tryz.ntmps141
    go_wp2_with (fail)
    refine (h1 _).mono ?_
    rintro e w2 ⟨rfl, rfl⟩
    go_wp2_with (fail)
    go_ret
    exact ⟨rfl, hb⟩

set_option maxRecDepth 100000 in
theorem valid_any (a : Option Addr) (n cap : Nat) (xs : List Frac) (w : World) (hL : Lst w 2 cF a n cap xs) :
    Calls Tryz.prog 103 #[.slice a n cap] w (Gives w (.bool (!xs.any fun f => !validF f))) := by
  have eg : ∀ args w, (callFunc 141 args).run Tryz.prog w = .ok (.enter 141 args) w := enters_of Tryz.func141 (by kernel_rfl) rfl
  have hc := contF_any (fun f => !validF f) 141 #[] eg a n cap xs w hL (fun W x _ => valid1_any x W)
  generalize (xs.any fun f => !validF f) = q at *
  go_enter Tryz.func103, Tryz.ntmps103
  go_wp2_with (go_at_call 140; refine hc.mono ?_; rintro e w3 ⟨rfl, hB⟩)
  go_ret
  exact ⟨rfl, hB⟩

set_option maxRecDepth 100000 in
set_option maxHeartbeats 800000 in
theorem plus_ok (a b : Frac) (w : World) (ha : frOk a) (hb : frOk b) (hok : normOk (a.num * b.den + b.num * a.den) (a.den * b.den) = true) :
    Calls Tryz.prog 145 #[aF a, aF b] w (Gives w (aF (normN (a.num * b.den + b.num * a.den) (a.den * b.den)))) := by
  obtain ⟨a1, a2, a3, a4⟩ := ha
  obtain ⟨b1, b2, b3, b4⟩ := hb
  obtain ⟨p1, p2⟩ := mul_bound a1 a2 b3 b4
  obtain ⟨q1, q2⟩ := mul_bound b1 b2 a3 a4
  have d1 : 1 ≤ a.den * b.den := by
    calc (1 : Int) ≤ 1 * b.den := by omega
      _ ≤ a.den * b.den := Int.mul_le_mul_of_nonneg_right a3 (by omega)
  have d2 : a.den * b.den ≤ 1000000000000 := by
    calc a.den * b.den ≤ 1000000 * b.den := Int.mul_le_mul_of_nonneg_right a4 (by omega)
      _ ≤ 1000000000000 := by omega
  have hn := fun W => norm_ok (a.num * b.den + b.num * a.den) (a.den * b.den) W (by omega) (by omega) (by omega) hok
  obtain ⟨r, hr⟩ : ∃ r, r = normN (a.num * b.den + b.num * a.den) (a.den * b.den) := ⟨_, rfl⟩
  rw [← hr] at hn ⊢
  clear hr hok
  go_enter Tryz.func145, Tryz.ntmps145
  go_wp2_with (fail)
  refine (hn _).mono ?_
  clear hn
  rintro e w2 ⟨rfl, hB⟩
  have k4 : Blk w2 (w.heap.size + 1 + 1) #[.int .i64 0, .int .i64 0] 166 := by
    have := Blk.new ((w.alloc (.cells #[.int .i64 a.num, .int .i64 a.den] 166)).alloc (.cells #[.int .i64 b.num, .int .i64 b.den] 166)) 166 #[.int .i64 0, .int .i64 0]
    have := this.below' hB
    simpa using this
  have hb0 : RowKit.Below w.heap.size w w2 := ((((Below.refl _ w).alloc (Nat.le_refl _) _).alloc (by simp) _).alloc (by simp; omega) _).trans (hB.mono (by simp; omega))
  have c4 := k4.cell
  have f4 := k4.frozen
  go_wp2_with (fail)
  refine bodyPost_ret (results_cell_row rfl _ _ (w.heap.size + 1 + 1) 166 _ _ _ rfl ((k4.setCell 0 _).setCell 1 _) Tryz.underlying166 rfl (by kernel_rfl)) rfl ⟨?_, (hb0.setCell (p := ⟨w.heap.size + 1 + 1, 0, none⟩) (by simp; omega) _).setCell (p := ⟨w.heap.size + 1 + 1, 1, none⟩) (by simp; omega) _⟩
  rfl

end Go.Proofs.YtollegoajlfdiaaGreat

/-
  Walks: claim.Norm.
-/
namespace Go.Proofs.YtollegoajlfdiaaGreat
open Go.RowKit Lg Go.Sort Go.Shelf

theorem grownBy_trans_below {w w1 w' : World} {row : Option Nat} (h : Below w.heap.size w w1) (g : w1.grownBy w' row) : w.grownBy w' row :=
  ⟨g.os.trans h.os, g.tape.trans h.tape, g.output.trans h.output, Nat.le_trans h.size g.size, fun k hk hne => (g.block k (Nat.lt_of_lt_of_le hk h.size) hne).trans (h.block k hk)⟩

theorem grownBy_setCells (w : World) (B o : Nat) (vs : List Value) : w.grownBy (w.setCells B o vs) (some B) :=
  have h := below_setCells (Below.refl B w) (Nat.le_refl B) o vs
  ⟨h.os, h.tape, h.output, h.size, fun k _ hne => setCells_heap w B o vs k (fun e => hne (by rw [e]))⟩

theorem setAll_two (a b c d : Value) : setAll #[a, b] 0 [c, d] = #[c, d] := rfl

set_option maxRecDepth 100000 in
set_option maxHeartbeats 400000 in
theorem Norm1_ok (num den : Int) (B1 B2 B3 : Nat) (x y : Value) (w : World) (h0 : den ≠ 0) (hn : -4000000000000000000 ≤ num ∧ num ≤ 4000000000000000000) (hd : -4000000000000000000 ≤ den ∧ den ≤ 4000000000000000000) (hok : normOk num den = true)
    (k1 : Blk w B1 #[.int .i64 num] 3) (k2 : Blk w B2 #[.int .i64 den] 3) (k3 : Blk w B3 #[x, y] 24) :
    Calls Tryz.prog 172 #[.pointer (some ⟨B1, 0, none⟩), .pointer (some ⟨B2, 0, none⟩), .pointer (some ⟨B3, 0, none⟩)] w fun e w' => e = .returned (.tuple #[]) ∧ Blk w' B3 #[.int .i64 (normN num den).num, .int .i64 (normN num den).den] 24 ∧ w.grownBy w' (some B3) := by
  have hN := fun W => norm_ok num den W h0 hn hd hok
  generalize normN num den = q at *
  have c1 : w.cell? ⟨B1, 0, none⟩ = some (.int .i64 num) := k1.cell 0
  have c2 : w.cell? ⟨B2, 0, none⟩ = some (.int .i64 den) := k2.cell 0
  go_enter Tryz.func172, Tryz.ntmps172
  go_wp2_with (go_at_call 173; refine (hN _).mono ?_; rintro e w1 ⟨rfl, hB⟩; have k4 := k3.below' hB; have c4 := k4.cell; have f4 := k4.frozen)
  go_end0
  refine ⟨rfl, ?_, grownBy_trans_below hB (grownBy_setCells w1 B3 0 [.int .i64 q.num, .int .i64 q.den])⟩
  rw [← setAll_two x y]
  exact k4.setCells 0 [.int .i64 q.num, .int .i64 q.den]

set_option maxRecDepth 100000 in
set_option maxHeartbeats 400000 in
theorem Norm1_up (num den : Int) (B1 B2 B3 : Nat) (w : World) (h0 : den ≠ 0) (hn : -4000000000000000000 ≤ num ∧ num ≤ 4000000000000000000) (hd : -4000000000000000000 ≤ den ∧ den ≤ 4000000000000000000) (hok : normOk num den = false)
    (k1 : Blk w B1 #[.int .i64 num] 3) (k2 : Blk w B2 #[.int .i64 den] 3) :
    Calls Tryz.prog 172 #[.pointer (some ⟨B1, 0, none⟩), .pointer (some ⟨B2, 0, none⟩), .pointer (some ⟨B3, 0, none⟩)] w fun e w' => e = .panicked [{ v := upV, recovered := false }] ∧ Below w.heap.size w w' := by
  have hN := fun W => norm_up num den W h0 hn hd hok
  have c1 : w.cell? ⟨B1, 0, none⟩ = some (.int .i64 num) := k1.cell 0
  have c2 : w.cell? ⟨B2, 0, none⟩ = some (.int .i64 den) := k2.cell 0
  go_enter Tryz.func172, Tryz.ntmps172
  go_wp2_with (go_at_call 173; refine (hN _).mono ?_; rintro e w1 ⟨rfl, hB⟩)
  exact ⟨rfl, rfl, hB⟩

set_option maxRecDepth 100000 in
set_option maxHeartbeats 400000 in
theorem Norm_any (num den : Int) (w : World) :
    Calls Tryz.prog 137 #[.int .i64 num, .int .i64 den] w (Gives w (.tuple #[aF (normF num den).1, .int .i64 (normF num den).2])) := by
  have hmf : ∀ (fn : Fn) (first cap : Array Value) (w : World), (Instr.makeFunc fn first cap).run Tryz.prog w = .ok (.func fn first cap) w := fun _ _ _ _ => rfl
  have hw := within5_any
  by_cases hbad : (decide (den = 0) || !inn num (-1000000000000000) 1000000000000000 || !inn den (-1000000000000000) 1000000000000000) = true
  · have hF : normF num den = (⟨0, 0⟩, 1) := by unfold normF; rw [if_pos hbad]
    rw [hF]
    clear hF
    have Hb := Lib.hid hbad; clear hbad
    go_enter Tryz.func137, Tryz.ntmps137
    go_wp2_with (go_at_call 102; refine (hw _ _ _ _).mono ?_; rintro e w3 ⟨rfl, rfl⟩)
    all_goals first
      | (refine bodyPost_ret (v := .tuple #[aF ⟨0, 0⟩, .int .i64 1]) (by simp [results, Tryz.results137, go_sem]) rfl ⟨rfl, ?_⟩
         repeat (first | exact Below.refl _ _ | refine Below.alloc ?_ (by simp <;> omega) _ | refine Below.setCell ?_ (by simp) _ | refine Below.drew ?_))
      | (exfalso; have := Hb.out; simp_all)
  · have hb := hbad
    simp only [Bool.or_eq_true, not_or, Bool.not_eq_true, decide_eq_false_iff_not, Bool.not_eq_false'] at hb
    obtain ⟨⟨h0, h1⟩, h2⟩ := hb
    have b1 : -1000000000000000 ≤ num ∧ num ≤ 1000000000000000 := by unfold inn at h1; simpa using h1
    have b2 : -1000000000000000 ≤ den ∧ den ≤ 1000000000000000 := by unfold inn at h2; simpa using h2
    have e0 : (den == 0) = false := by simpa using h0
    obtain ⟨A, hA⟩ : ∃ A, A = ((w.alloc (.cells #[.int .i64 num] 3)).alloc (.cells #[.int .i64 den] 3)).alloc (.cells #[.int .i64 0, .int .i64 0] 24) := ⟨_, rfl⟩
    have hsz : A.heap.size = w.heap.size + 1 + 1 + 1 := by rw [hA]; simp
    have hBA : Below w.heap.size w A := hA ▸ (((Below.refl _ w).alloc (Nat.le_refl _) _).alloc (by simp) _).alloc (by simp; omega) _
    have j1 := Blk.new w 3 #[.int .i64 num]
    have j2 := Blk.new (w.alloc (.cells #[.int .i64 num] 3)) 3 #[.int .i64 den]
    have j3 := Blk.new ((w.alloc (.cells #[.int .i64 num] 3)).alloc (.cells #[.int .i64 den] 3)) 24 #[.int .i64 0, .int .i64 0]
    simp only [World.size_alloc] at j2 j3
    have k1 : Blk A w.heap.size #[.int .i64 num] 3 := by rw [hA]; exact (j1.alloc _).alloc _
    have k2 : Blk A (w.heap.size + 1) #[.int .i64 den] 3 := by rw [hA]; exact j2.alloc _
    have k3 : Blk A (w.heap.size + 1 + 1) #[.int .i64 0, .int .i64 0] 24 := by rw [hA]; exact j3
    have eg : ∀ args w, (callFunc 172 args).run Tryz.prog w = .ok (.enter 172 args) w := enters_of Tryz.func172 (by kernel_rfl) rfl
    have kE := Blk.new A 29 #[.int .i64 0]
    by_cases hok : normOk num den = true
    · have hF : normF num den = (normN num den, 0) := by unfold normF; rw [if_neg hbad, if_pos hok]
      have hr := ranged_ok 172 #[.pointer (some ⟨w.heap.size, 0, none⟩), .pointer (some ⟨w.heap.size + 1, 0, none⟩), .pointer (some ⟨w.heap.size + 1 + 1, 0, none⟩)] eg A
        (fun w' => Blk w' (w.heap.size + 1 + 1) #[.int .i64 (normN num den).num, .int .i64 (normN num den).den] 24 ∧ Below w.heap.size w w')
        ((Norm1_ok num den _ _ _ _ _ _ h0 (by omega) (by omega) hok (k1.alloc _) (k2.alloc _) (k3.alloc _)).mono fun e w' ⟨he, hb, hg⟩ =>
          ⟨he, kE.kept hg (by simp [hsz]), hb, (hBA.alloc hBA.size _).grown hg (by simp [hsz]; omega) (fun k hk => by cases hk; omega)⟩)
      rw [hF]
      generalize normN num den = q at *
      clear k1 k2 k3 j1 j2 j3 hbad hF kE
      go_enter Tryz.func137, Tryz.ntmps137
      go_wp2_with (first | (go_at_call 102; refine (hw _ _ _ _).mono ?_; rintro e w3 ⟨rfl, rfl⟩))
      rw [← hA]; clear hA
      refine hr.mono ?_
      rintro e w5 ⟨rfl, w4, ⟨hb4, hB4⟩, rfl⟩
      have hb5 := hb4.setCell_other (C := A.heap.size) (by omega) 0 (.int .i64 0)
      have c5 := hb5.cell
      have f5 := hb5.frozen
      have hB5 := hB4.setCell (p := ⟨A.heap.size, 0, none⟩) (show w.heap.size ≤ A.heap.size by omega) (.int .i64 0)
      clear hb4 hB4 hr
      generalize w4.setCell ⟨A.heap.size, 0, none⟩ (.int .i64 0) = w6 at *
      go_wp2
      refine bodyPost_ret (results_cell_tmp rfl _ _ (w.heap.size + 1 + 1) 24 [.int .i64 q.num, .int .i64 q.den] _ rfl ((hb5.setCell 0 (.int .i64 q.num)).setCell 1 (.int .i64 q.den)) Tryz.underlying24 rfl (by kernel_rfl)) rfl ⟨rfl, ?_⟩
      exact (hB5.setCell (p := ⟨w.heap.size + 1 + 1, 0, none⟩) (show w.heap.size ≤ w.heap.size + 1 + 1 by omega) _).setCell (p := ⟨w.heap.size + 1 + 1, 1, none⟩) (show w.heap.size ≤ w.heap.size + 1 + 1 by omega) _
    · have hF : normF num den = (⟨0, 0⟩, 2) := by unfold normF; rw [if_neg hbad, if_neg hok]
      have hr := ranged_up 172 #[.pointer (some ⟨w.heap.size, 0, none⟩), .pointer (some ⟨w.heap.size + 1, 0, none⟩), .pointer (some ⟨w.heap.size + 1 + 1, 0, none⟩)] eg A
        (fun w' => Blk w' (w.heap.size + 1 + 1) #[.int .i64 0, .int .i64 0] 24 ∧ Below w.heap.size w w')
        ((Norm1_up num den _ _ _ _ h0 (by omega) (by omega) (by simpa using hok) (k1.alloc _) (k2.alloc _)).mono fun e w' ⟨he, hb⟩ =>
          ⟨he, kE.below' hb, (k3.alloc _).below' hb, (hBA.alloc hBA.size _).trans (hb.mono (by simp; omega))⟩)
      rw [hF]
      clear k1 k2 k3 j1 j2 j3 hbad hF kE
      go_enter Tryz.func137, Tryz.ntmps137
      go_wp2_with (first | (go_at_call 102; refine (hw _ _ _ _).mono ?_; rintro e w3 ⟨rfl, rfl⟩))
      rw [← hA]; clear hA
      refine hr.mono ?_
      rintro e w5 ⟨rfl, w4, ⟨hb4, hB4⟩, rfl⟩
      have hb5 := (hb4.alloc (.cells #[] 192)).setCell_other (C := A.heap.size) (by omega) 0 (.int .i64 2)
      have c5 := hb5.cell
      have f5 := hb5.frozen
      have hB5 := (hB4.alloc hB4.size (.cells #[] 192)).setCell (p := ⟨A.heap.size, 0, none⟩) (show w.heap.size ≤ A.heap.size by omega) (.int .i64 2)
      clear hb4 hB4 hr
      generalize (w4.alloc (.cells #[] 192)).setCell ⟨A.heap.size, 0, none⟩ (.int .i64 2) = w6 at *
      go_wp2
      refine bodyPost_ret (results_cell_tmp rfl _ _ (w.heap.size + 1 + 1) 24 [.int .i64 0, .int .i64 0] _ rfl ((hb5.setCell 0 (.int .i64 0)).setCell 1 (.int .i64 0)) Tryz.underlying24 rfl (by kernel_rfl)) rfl ⟨rfl, ?_⟩
      exact (hB5.setCell (p := ⟨w.heap.size + 1 + 1, 0, none⟩) (show w.heap.size ≤ w.heap.size + 1 + 1 by omega) _).setCell (p := ⟨w.heap.size + 1 + 1, 1, none⟩) (show w.heap.size ≤ w.heap.size + 1 + 1 by omega) _

end Go.Proofs.YtollegoajlfdiaaGreat
