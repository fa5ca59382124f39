import Derived.Test.YtollegoajlfdiaaGreatPart25
import Derived.Test.YtollegoajlfdiaaGreatPart22
import Derived.Test.YtollegoajlfdiaaGreatPart27
import Derived.Test.YtollegoajlfdiaaGreatPart06
import Derived.BigQuiet
import Derived.Test.YtollegoajlfdiaaGreatPart29
import Derived.Test.YtollegoajlfdiaaGreatPart23
/-
  Walks: the comparison of equal awards; awards in one form.
-/
namespace Go.Proofs.YtollegoajlfdiaaGreat
open Go.RowKit Lg Go.Sort Go.Shelf Go.Maps

set_option maxRecDepth 100000 in
set_option maxHeartbeats 800000 in
theorem sameAward_eq (c0 c1 c2 c3 c4 : Int) (a1 : Option Addr) (n1 p1 : Nat) (a2 : Option Addr) (n2 p2 : Nat) (l : List Share) (w : World) (hL : Lst w 2 cSh a1 n1 p1 l) (hM : Lst w 2 cSh a2 n2 p2 l) :
    Calls Tryz.prog 35 #[.agg #[.int .i64 c0, .int .i64 c1, .int .i64 c2, .int .i64 c3, .int .i64 c4, .slice a1 n1 p1], .agg #[.int .i64 c0, .int .i64 c1, .int .i64 c2, .int .i64 c3, .int .i64 c4, .slice a2 n2 p2]] w (Gives w (.bool true)) := by
  have s1 : ∀ W, RowKit.Below w.heap.size w W → Calls Tryz.prog 30 #[.slice a1 n1 p1, .slice a2 n2 p2] W (Gives W (.bool true)) := fun W h => by
    have := sameShares_any a1 n1 p1 l a2 n2 p2 l W (hL.below h) (hM.below h)
    rw [decide_eq_true rfl] at this
    exact this
  have e0 : (c0 == c0) = true := by simp
  have e1 : (c1 == c1) = true := by simp
  have e2 : (c2 == c2) = true := by simp
  have e3 : (c3 == c3) = true := by simp
  have e4 : (c4 == c4) = true := by simp
  have hB : RowKit.Below w.heap.size w ((w.alloc (.cells #[.int .i64 c0, .int .i64 c1, .int .i64 c2, .int .i64 c3, .int .i64 c4, .slice a1 n1 p1] 59)).alloc (.cells #[.int .i64 c0, .int .i64 c1, .int .i64 c2, .int .i64 c3, .int .i64 c4, .slice a2 n2 p2] 59)) := ((Below.refl _ w).alloc (Nat.le_refl _) _).alloc (by simp) _
  clear hL hM
  go_enter Tryz.func35, Tryz.ntmps35
  go_wp2_with (fail)
  refine (s1 _ hB).mono ?_
  rintro e w3 ⟨rfl, hB3⟩
  go_wp2_with (fail)
  go_ret
  exact ⟨rfl, hB.trans (hB3.mono hB.size)⟩

/-- A call hands back an award and an error. -/
def GivesW (w : World) (c0 c1 c2 c3 c4 : Int) (l : List Share) (er : Int) (e : Ending) (w' : World) : Prop :=
  ∃ av n c, e = .returned (.tuple #[.agg #[.int .i64 c0, .int .i64 c1, .int .i64 c2, .int .i64 c3, .int .i64 c4, .slice av n c], .int .i64 er]) ∧ Lst w' 2 cSh av n c l ∧ RowKit.Below w.heap.size w w'

theorem awRaw_list {r : Rate} {s : Sale} {fs : List Int} (h : awOk r s fs = true) {ys : List Share} (hl : ListOf (sumP (awRaw r s fs)) ys) : ys = mergedR (sumP (awRaw r s fs)) 41 := by
  obtain ⟨h1, h2⟩ := awOk_fees h
  have hs := aw_shares h1 h2 hl
  refine listOf_unique hl (mergedR_list (fun p hp => ?_))
  have hp2 := hl.2.2 p hp
  obtain ⟨x, hx, rfl⟩ := List.mem_map.1 hp2
  have := hs.1 x hx
  omega

/-- An award's five numbers, its shares and the error. -/
def canA (r : Rate) (s : Sale) (fs : List Int) : (Int × Int × Int × Int × Int) × List Share × Int :=
  if awOk r s fs = true then ((s.price, awCart r s, awStore r s, awFind r s, awRest r s), mergedR (sumP (awRaw r s fs)) 41, 0) else ((0, 0, 0, 0, 0), [], 1)
def canO (pk : Int × Rate × Sale) (fs : List Int) : (Int × Int × Int × Int × Int) × List Share × Int :=
  if pk.1 = 0 then canA pk.2.1 pk.2.2 fs else ((0, 0, 0, 0, 0), [], pk.1)

def GivesV (w : World) (r : (Int × Int × Int × Int × Int) × List Share × Int) (e : Ending) (w' : World) : Prop := GivesW w r.1.1 r.1.2.1 r.1.2.2.1 r.1.2.2.2.1 r.1.2.2.2.2 r.2.1 r.2.2 e w'

theorem GivesO.v {w : World} {pk : Int × Rate × Sale} {fs : List Int} {e : Ending} {w' : World} (h : GivesO w pk fs e w') : GivesV w (canO pk fs) e w' := by
  obtain ⟨hB, h⟩ := h
  unfold canO canA
  by_cases h0 : pk.1 = 0
  · rw [if_pos h0] at h ⊢
    by_cases h1 : awOk pk.2.1 pk.2.2 fs = true
    · rw [if_pos h1] at h ⊢
      obtain ⟨v, ys, rfl, hl, ho⟩ := h
      obtain ⟨av, cv, rfl, _, hl'⟩ := Lst.of_owns (k := 2) (enc := cSh) (fun _ => rfl) (by omega) ho rfl
      have hy := awRaw_list h1 hl
      generalize mergedR (sumP (awRaw pk.2.1 pk.2.2 fs)) 41 = ms at *
      subst hy
      exact ⟨av, _, cv, rfl, hl', hB⟩
    · rw [if_neg h1] at h ⊢
      exact ⟨none, 0, 0, h, Lst.nil _ _ _, hB⟩
  · rw [if_neg h0] at h ⊢
    exact ⟨none, 0, 0, h, Lst.nil _ _ _, hB⟩

theorem awarded_v (r : Rate) (s : Sale) (a : Option Addr) (n cap : Nat) (fs : List Int) (w : World) (hL : Lst w 1 cI a n cap fs) :
    Calls Tryz.prog 37 #[aR r, aS s, .slice a n cap] w (GivesV w (canA r s fs)) := by
  refine (awarded_any r s a n cap fs w hL).mono ?_
  rintro e w' ⟨hB, h⟩
  unfold canA
  by_cases h1 : awOk r s fs = true
  · rw [if_pos h1] at h ⊢
    obtain ⟨v, ys, rfl, hl, ho⟩ := h
    obtain ⟨av, cv, rfl, _, hl'⟩ := Lst.of_owns (k := 2) (enc := cSh) (fun _ => rfl) (by omega) ho rfl
    have hy := awRaw_list h1 hl
    generalize mergedR (sumP (awRaw r s fs)) 41 = ms at *
    subst hy
    exact ⟨av, _, cv, rfl, hl', hB⟩
  · rw [if_neg h1] at h ⊢
    exact ⟨none, 0, 0, h, Lst.nil _ _ _, hB⟩

end Go.Proofs.YtollegoajlfdiaaGreat

/-
  Walks: short lists.
-/
namespace Go.Proofs.YtollegoajlfdiaaGreat
open Go.RowKit Lg Go.Sort

def fewOf (xs : List Rate) : Bool := (xs.take 110).all (fun x => decide (x.goods.size ≤ 100)) && (decide (xs.length ≤ 30) || (decide (100 < xs.length) && decide (xs.length ≤ 103)))
def someOf (n : Nat) : Bool := decide (n ≤ 30) || (decide (200 < n) && decide (n ≤ 203))

theorem take_all_snoc {α : Type} (p : α → Bool) (l : List α) (k : Nat) (x : α) (h : l[k]? = some x) : (l.take (k + 1)).all p = ((l.take k).all p && p x) := by
  obtain ⟨h1, h2⟩ := List.getElem?_eq_some_iff.1 h
  rw [List.take_succ_eq_append_getElem h1, h2, List.all_append]
  simp

theorem all_take_false {α : Type} (p : α → Bool) (l : List α) (k m : Nat) (hkm : k < m) (x : α) (h : l[k]? = some x) (hx : p x = false) : (l.take m).all p = false := by
  rw [Bool.eq_false_iff]
  intro e
  rw [List.all_eq_true] at e
  have : x ∈ l.take m := List.mem_of_getElem? (i := k) (by rw [List.getElem?_take_of_lt hkm]; exact h)
  rw [e x this] at hx; cases hx

set_option maxRecDepth 100000 in
set_option maxHeartbeats 800000 in
theorem few_any (a : Option Addr) (n cap : Nat) (xs : List Rate) (w : World) (hL : Lst w 9 cR a n cap xs) :
    Calls Tryz.prog 15 #[.slice a n cap] w fun e w' => e = .returned (.bool (fewOf xs)) ∧ w = w' := by
  have hm : cap ≤ 9223372036854775807 := by have := hL.max; unfold maxLen at this; omega
  have hle := hL.le
  obtain ⟨q, hq⟩ : ∃ q, q = fewOf xs := ⟨_, rfl⟩
  rw [← hq]
  unfold fewOf at hq
  rw [hL.len] at hq
  have Hq := Lib.hid hq; clear hq
  have Hlen := Lib.hid hL.len
  go_enter Tryz.func15, Tryz.ntmps15
  go_wp2
  go_loop [3] (fun i => ∃ k : Nat, k ≤ n ∧ k ≤ 110 ∧ i = .int .i64 k ∧ Hid ((xs.take k).all (fun x => decide (x.goods.size ≤ 100)) = true)) (fun i => n - (intOf i).toNat)
  case atStart => exact ⟨0, Nat.zero_le _, by omega, rfl, rfl⟩
  case round =>
    obtain ⟨k, hk, hk2, rfl, Ht⟩ := hrel
    by_cases hlt : k < n
    · have hltz : (k : Int) < (n : Int) := by omega
      by_cases hlt2 : k < 110
      · have hltz2 : (k : Int) < 110 := by omega
        obtain ⟨x, hx⟩ : ∃ x, xs[k]? = some x := ⟨xs[k]'(by rw [Hlen.out]; exact hlt), by simp⟩
        obtain ⟨b, off, rfl, hb, hr⟩ := hL.at_ k x hx
        have c3 := hr 3 _ rfl
        have Hx := Lib.hid hx
        clear hr hx
        by_cases hs : x.goods.size ≤ 100
        · have t : ¬ (100 : Int) < (x.goods.size : Int) := by omega
          go_wp2
          go_round
          case rel => exact ⟨k + 1, by omega, by omega, by go_num, Lib.hid (by rw [take_all_snoc _ _ _ _ Hx.out, Ht.out]; simpa using hs)⟩
          case measure => simp [intOf]; omega
        · have t : (100 : Int) < (x.goods.size : Int) := by omega
          go_wp2
          go_ret
          exact ⟨ret_bool (by rw [Hq.out, all_take_false _ xs k 110 hlt2 x Hx.out (by simpa using hs)]; rfl), rfl⟩
      · obtain rfl : k = 110 := by omega
        have hq := Hq.out
        rw [Ht.out, Bool.true_and] at hq
        have Hq2 := Lib.hid hq; clear hq Hq
        have h30 : ¬ (n : Int) ≤ 30 := by omega
        have h100 : (100 : Int) < (n : Int) := by omega
        by_cases h103 : n ≤ 103
        · omega
        · have h103z : ¬ (n : Int) ≤ 103 := by omega
          go_wp2
          go_ret
          exact ⟨ret_bool (by rw [Hq2.out]; simp <;> omega), rfl⟩
    · obtain rfl : k = n := by omega
      have hq := Hq.out
      have e : xs.take 110 = xs.take k := by rw [List.take_of_length_le (by rw [Hlen.out]; omega), List.take_of_length_le (by rw [Hlen.out]; omega)]
      rw [e, Ht.out, Bool.true_and] at hq
      have Hq2 := Lib.hid hq; clear hq Hq e
      by_cases h30 : k ≤ 30
      · have h30z : (k : Int) ≤ 30 := by omega
        go_wp2
        go_ret
        exact ⟨ret_bool (by rw [Hq2.out]; simp <;> omega), rfl⟩
      · have h30z : ¬ (k : Int) ≤ 30 := by omega
        by_cases h100 : 100 < k
        · have h100z : (100 : Int) < (k : Int) := by omega
          by_cases h103 : k ≤ 103
          · have h103z : (k : Int) ≤ 103 := by omega
            go_wp2
            go_ret
            exact ⟨ret_bool (by rw [Hq2.out]; simp <;> omega), rfl⟩
          · have h103z : ¬ (k : Int) ≤ 103 := by omega
            go_wp2
            go_ret
            exact ⟨ret_bool (by rw [Hq2.out]; simp <;> omega), rfl⟩
        · have h100z : ¬ (100 : Int) < (k : Int) := by omega
          go_wp2
          go_ret
          exact ⟨ret_bool (by rw [Hq2.out]; simp <;> omega), rfl⟩

set_option maxRecDepth 100000 in
theorem some_any (a : Option Addr) (n cap : Nat) (w : World) (hn : n ≤ 9223372036854775807) :
    Calls Tryz.prog 36 #[.slice a n cap] w fun e w' => e = .returned (.bool (someOf n)) ∧ w = w' := by
  unfold someOf
  by_cases h30 : n ≤ 30
  · have h30z : (n : Int) ≤ 30 := by omega
    go_enter Tryz.func36, Tryz.ntmps36
    go_wp2
    go_ret
    exact ⟨ret_bool (by simp <;> omega), rfl⟩
  · have h30z : ¬ (n : Int) ≤ 30 := by omega
    by_cases h200 : 200 < n
    · have h200z : (200 : Int) < (n : Int) := by omega
      by_cases h203 : n ≤ 203
      · have h203z : (n : Int) ≤ 203 := by omega
        go_enter Tryz.func36, Tryz.ntmps36
        go_wp2
        go_ret
        exact ⟨ret_bool (by simp <;> omega), rfl⟩
      · have h203z : ¬ (n : Int) ≤ 203 := by omega
        go_enter Tryz.func36, Tryz.ntmps36
        go_wp2
        go_ret
        exact ⟨ret_bool (by simp <;> omega), rfl⟩
    · have h200z : ¬ (200 : Int) < (n : Int) := by omega
      go_enter Tryz.func36, Tryz.ntmps36
      go_wp2
      go_ret
      exact ⟨ret_bool (by simp <;> omega), rfl⟩

end Go.Proofs.YtollegoajlfdiaaGreat

/-
  Walk: the law of what is known later.
-/
namespace Go.Proofs.YtollegoajlfdiaaGreat
open Go.RowKit Lg Go.Sort Go.Shelf Go.Maps

theorem infoS : (Tryz.prog.info? 39).map (fun i => (i.zero, i.size, i.bytes)) = some (some (aS zeroSale), 9, 72) := by kernel_rfl
theorem cS_one (x : Sale) : ∀ u ∈ cS x, u.oneCell' = true := by simp [cS, Value.oneCell']

theorem filter_take_snoc {α : Type} (p : α → Bool) (l : List α) (k : Nat) (x : α) (h : l[k]? = some x) : (l.take (k + 1)).filter p = (l.take k).filter p ++ (if p x = true then [x] else []) := by
  obtain ⟨h1, h2⟩ := List.getElem?_eq_some_iff.1 h
  rw [List.take_succ_eq_append_getElem h1, h2, List.filter_append]
  congr 1
  by_cases hp : p x = true
  · rw [if_pos hp]; simp [hp]
  · rw [if_neg hp]; simp [hp]

set_option maxRecDepth 100000 in
set_option maxHeartbeats 3200000 in
theorem lawLater_any (a : Option Addr) (n cap : Nat) (rs : List Rate) (b : Option Addr) (m capS : Nat) (ss : List Sale) (parcel : Int) (goods : ByteArray) (hour known : Int) (c : Option Addr) (q capF : Nat) (fs : List Int) (w : World)
    (hL : Lst w 9 cR a n cap rs) (hS : Lst w 9 cS b m capS ss) (hF : Lst w 1 cI c q capF fs) :
    Calls Tryz.prog 7 #[.slice a n cap, .slice b m capS, .int .i64 parcel, .string goods, .int .i64 hour, .int .i64 known, .slice c q capF] w (Gives w (.bool true)) := by
  have hp := paid_any
  have hf := few_any a n cap rs w hL
  have hc1 := fun W (hB : RowKit.Below w.heap.size w W) => checkRates_any a n cap rs W (hL.below hB)
  have hc2 := fun W (hB : RowKit.Below w.heap.size w W) => checkSales_any b m capS ss W (hS.below hB)
  by_cases h1 : (30 : Int) < (n : Int)
  · clear hL hS hF hc1 hc2 hf
    go_enter Tryz.func7, Tryz.ntmps7
    go_wp2_with (go_at_call 16; refine (hp _).mono ?_; rintro e w5 ⟨rfl, hB5⟩)
    go_ret
    exact ⟨rfl, hB5⟩
  by_cases h2 : (30 : Int) < (m : Int)
  · clear hL hS hF hc1 hc2 hf
    go_enter Tryz.func7, Tryz.ntmps7
    go_wp2_with (go_at_call 16; refine (hp _).mono ?_; rintro e w5 ⟨rfl, hB5⟩)
    go_ret
    exact ⟨rfl, hB5⟩
  cases h3 : fewOf rs
  · rw [h3] at hf
    clear hL hS hF hc1 hc2 h3
    go_enter Tryz.func7, Tryz.ntmps7
    go_wp2_with (first | (go_at_call 15; (with_reducible refine hf.mono ?_); rintro e w5 ⟨rfl, rfl⟩) | (go_at_call 16; refine (hp _).mono ?_; rintro e w5 ⟨rfl, hB5⟩))
    go_ret
    exact ⟨rfl, hB5⟩
  rw [h3] at hf
  by_cases h4 : (100 : Int) < (goods.size : Int)
  · clear hL hS hF hc1 hc2 h3
    go_enter Tryz.func7, Tryz.ntmps7
    go_wp2_with (first | (go_at_call 15; (with_reducible refine hf.mono ?_); rintro e w5 ⟨rfl, rfl⟩) | (go_at_call 16; refine (hp _).mono ?_; rintro e w5 ⟨rfl, hB5⟩))
    go_ret
    exact ⟨rfl, hB5⟩
  by_cases h5 : (60 : Int) < (q : Int)
  · clear hL hS hF hc1 hc2 h3
    go_enter Tryz.func7, Tryz.ntmps7
    go_wp2_with (first | (go_at_call 15; (with_reducible refine hf.mono ?_); rintro e w5 ⟨rfl, rfl⟩) | (go_at_call 16; refine (hp _).mono ?_; rintro e w5 ⟨rfl, hB5⟩))
    go_ret
    exact ⟨rfl, hB5⟩
  clear h3
  by_cases hr0 : (checkRates rs).2 = 0
  · by_cases hs0 : (checkSales ss).2 = 0
    · have hpk := awPick_early hr0 hs0 parcel goods hour known
      have hA := fun W (hB : RowKit.Below w.heap.size w W) => (awardOf_any a n cap rs b m capS ss parcel goods hour known c q capF fs W (hL.below hB) (hS.below hB) (hF.below hB)).mono fun e w' h => GivesO.v h
      have hE := fun (a' : Option Addr) (n' cap' : Nat) (b' : Option Addr) (m' cap2 : Nat) W (hB : RowKit.Below w.heap.size w W) h1 h2 => (awardOf_any a' n' cap' (rs.filter fun x => decide (x.known ≤ known)) b' m' cap2 (ss.filter fun x => decide (x.known ≤ known)) parcel goods hour known c q capF fs W h1 h2 (hF.below hB)).mono fun e w' h => GivesO.v h
      rw [hpk] at hE
      rw [hr0] at hc1
      rw [hs0] at hc2
      generalize (checkRates rs).1 = ci at hc1
      generalize (checkSales ss).1 = cj at hc2
      generalize canO (awPick rs ss parcel goods hour known) fs = cn at *
      obtain ⟨⟨x0, x1, x2, x3, x4⟩, sh, er⟩ := cn
      have HA := Lib.hid hA
      have HE := Lib.hid hE
      have hlen := Lib.hid hL.len
      have hlenS := Lib.hid hS.len
      have hmr : cap ≤ 9223372036854775807 := by have := hL.max; unfold maxLen at this; omega
      have hmr2 := hL.le
      have hms : capS ≤ 9223372036854775807 := by have := hS.max; unfold maxLen at this; omega
      have hms2 := hS.le
      have HF := Lib.hid hF
      clear hA hE hpk hr0 hs0 hF
      obtain ⟨i0, hi0, hz0, hz1, hz2⟩ := info_parts infoR
      obtain ⟨j0, hj0, hy0, hy1, hy2⟩ := info_parts infoS
      go_enter Tryz.func7, Tryz.ntmps7
      go_wp2_with (first | (go_at_call 15; (with_reducible refine hf.mono ?_); rintro e w5 ⟨rfl, rfl⟩) | fail)
      refine (hc1 _ (Below.refl _ _)).mono ?_
      clear hc1
      rintro e w1 ⟨rfl, hB1⟩
      go_wp2_with (fail)
      refine (hc2 _ hB1).mono ?_
      clear hc2
      rintro e w2 ⟨rfl, hB2⟩
      have hB2 := hB1.trans (hB2.mono hB1.size)
      go_wp2_with (fail)
      go_loopw [19, 20] (fun o i wr => ∃ k : Nat, k ≤ n ∧ i = .int .i64 k ∧ wr.ownsRow w2.heap.size 26 9 o ((rs.take k).filter fun x => decide (x.known ≤ known)).length (((rs.take k).filter fun x => decide (x.known ≤ known)).flatMap cR) ∧ RowKit.Below w2.heap.size w2 wr) (fun _ i _ => n - (intOf i).toNat)
      case atStart => exact ⟨0, Nat.zero_le _, rfl, ⟨by simp, .inl ⟨rfl, rfl⟩⟩, Below.refl _ _⟩
      case round =>
        obtain ⟨k, hk, rfl, hor, hBr⟩ := hrel
        have hBw := hB2.trans (hBr.mono hB2.size)
        have hsz := hBr.size
        by_cases hlt : k < n
        · have hltz : (k : Int) < (n : Int) := by omega
          obtain ⟨x, hx⟩ : ∃ x, rs[k]? = some x := ⟨rs[k]'(by rw [hlen.out]; exact hlt), by simp⟩
          obtain ⟨bb, off, rfl, hbb, hr⟩ := (hL.below hBw).at_ k x hx
          have c1 := hr 1 _ rfl
          have hll : ((rs.take k).filter fun x => decide (x.known ≤ known)).length ≤ 30 := Nat.le_trans (List.length_filter_le _ _) (Nat.le_trans (List.length_take_le _ _) (by omega))
          have hsn := filter_take_snoc (fun x : Rate => decide (x.known ≤ known)) rs k x hx
          have Hsn := Lib.hid hsn
          clear hx hsn
          generalize (rs.take k).filter (fun x => decide (x.known ≤ known)) = es at *
          by_cases hkn : x.known ≤ known
          · go_wp2_with (first
              | (refine wpList_load_mid rfl 26 _ rfl bb (off + k * 9) rfl (cR x) _ hr Tryz.underlying26 rfl (by kernel_rfl) ?_)
              | (at_builtin; refine wpList_append_lies _ rfl _ _ _ rfl w2.heap.size 26 i0 _ 9 80 Tryz.underlying22 hi0 hz0 hz1 hz2 rfl (by omega) _ es.length (es.flatMap cR) rfl (hor.alloc _) ⟨wr.heap.size, 0, none⟩ 1 1 (cR x) rfl rfl (World.news_of_block (cs := (cR x).toArray) (t := 26) (fr := (0, 0)) (heap_alloc_new wr _)) (cR_one x) (by omega) (by unfold maxLen; omega) (by omega) (by simp; omega) _ rfl ?_; intro g cap1 w6 hown hgrow hat hlt1)
              | fail)
            go_roundw
            case rel =>
              refine ⟨k + 1, by omega, by go_num, ?_, below_of_grown (hBr.alloc hBr.size _) (Nat.le_refl _) hgrow (own_ge' hor)⟩
              rw [Hsn.out, if_pos (by simpa using hkn), List.length_append, List.flatMap_append, List.flatMap_singleton]
              exact hown
            case measure => simp [intOf]; omega
          · go_wp2_with (fail)
            go_roundw
            case rel =>
              refine ⟨k + 1, by omega, by go_num, ?_, hBr⟩
              rw [Hsn.out, if_neg (by simpa using hkn), List.append_nil]
              exact hor
            case measure => simp [intOf]; omega
        · obtain rfl : k = n := by omega
          rw [List.take_of_length_le (by rw [hlen.out]; exact Nat.le_refl _)] at hor
          obtain ⟨a3, c3, rfl, _, hl3⟩ := Lst.of_owns (k := 9) (enc := cR) (fun _ => rfl) (by omega) hor rfl
          have HE2 := Lib.hid (fun b' m' cap2 W hB h1 h2 => HE.out a3 (rs.filter fun x => decide (x.known ≤ known)).length c3 b' m' cap2 W hB h1 h2)
          generalize rs.filter (fun x => decide (x.known ≤ known)) = es at *
          clear hlt hor HE
          go_wp2_with (fail)
          go_loopw [21, 22] (fun o i wr2 => ∃ j : Nat, j ≤ m ∧ i = .int .i64 j ∧ wr2.ownsRow wr.heap.size 39 9 o ((ss.take j).filter fun x => decide (x.known ≤ known)).length (((ss.take j).filter fun x => decide (x.known ≤ known)).flatMap cS) ∧ RowKit.Below wr.heap.size wr wr2) (fun _ i _ => m - (intOf i).toNat)
          case atStart => exact ⟨0, Nat.zero_le _, rfl, ⟨by simp, .inl ⟨rfl, rfl⟩⟩, Below.refl _ _⟩
          case round =>
            obtain ⟨j, hj, rfl, hor, hBq⟩ := hrel
            have hBv := hBw.trans (hBq.mono hBw.size)
            have hsz2 := hBq.size
            by_cases hlt : j < m
            · have hltz : (j : Int) < (m : Int) := by omega
              obtain ⟨x, hx⟩ : ∃ x, ss[j]? = some x := ⟨ss[j]'(by rw [hlenS.out]; exact hlt), by simp⟩
              obtain ⟨bb, off, rfl, hbb, hr⟩ := (hS.below hBv).at_ j x hx
              have c1 := hr 1 _ rfl
              have hll : ((ss.take j).filter fun x => decide (x.known ≤ known)).length ≤ 30 := Nat.le_trans (List.length_filter_le _ _) (Nat.le_trans (List.length_take_le _ _) (by omega))
              have hsn := filter_take_snoc (fun x : Sale => decide (x.known ≤ known)) ss j x hx
              have Hsn := Lib.hid hsn
              clear hx hsn
              generalize (ss.take j).filter (fun x => decide (x.known ≤ known)) = ts at *
              by_cases hkn : x.known ≤ known
              · go_wp2_with (first
                  | (refine wpList_load_mid rfl 39 _ rfl bb (off + j * 9) rfl (cS x) _ hr Tryz.underlying39 rfl (by kernel_rfl) ?_)
                  | (at_builtin; refine wpList_append_lies _ rfl _ _ _ rfl _ 39 j0 _ 9 72 Tryz.underlying54 hj0 hy0 hy1 hy2 rfl (by omega) _ ts.length (ts.flatMap cS) rfl (hor.alloc _) _ 1 1 (cS x) rfl rfl (World.news_of_block (cs := (cS x).toArray) (t := 39) (fr := (0, 0)) (heap_alloc_new _ _)) (cS_one x) (by omega) (by unfold maxLen; omega) (by omega) (by simp; omega) _ rfl ?_; intro g cap1 w6 hown hgrow hat hlt1)
                  | fail)
                go_roundw
                case rel =>
                  refine ⟨j + 1, by omega, by go_num, ?_, below_of_grown (hBq.alloc hBq.size _) (Nat.le_refl _) hgrow (own_ge' hor)⟩
                  rw [Hsn.out, if_pos (by simpa using hkn), List.length_append, List.flatMap_append, List.flatMap_singleton]
                  exact hown
                case measure => simp [intOf]; omega
              · go_wp2_with (fail)
                go_roundw
                case rel =>
                  refine ⟨j + 1, by omega, by go_num, ?_, hBq⟩
                  rw [Hsn.out, if_neg (by simpa using hkn), List.append_nil]
                  exact hor
                case measure => simp [intOf]; omega
            · obtain rfl : j = m := by omega
              rw [List.take_of_length_le (by rw [hlenS.out]; exact Nat.le_refl _)] at hor
              obtain ⟨a4, c4, rfl, _, hl4⟩ := Lst.of_owns (k := 9) (enc := cS) (fun _ => rfl) (by omega) hor rfl
              have hl3 := hl3.below hBq
              have hE3 := fun W hB h1 h2 => HE2.out a4 (ss.filter fun x => decide (x.known ≤ known)).length c4 W hB h1 h2
              generalize ss.filter (fun x => decide (x.known ≤ known)) = ts at *
              have hA1 := HA.out _ hBv
              have b1 : (er == er) = true := by simp
              clear hlt hor HE2 HA hL hS
              go_wp2_with (fail)
              refine hA1.mono ?_
              clear hA1
              rintro e w6 ⟨a6, n6, c6, rfl, hl6, hB6⟩
              dsimp only at hl6 ⊢
              have k6 := Blk.new w6 59 #[.int .i64 x0, .int .i64 x1, .int .i64 x2, .int .i64 x3, .int .i64 x4, .slice a6 n6 c6]
              have hB7 := hB6.alloc hB6.size (.cells #[.int .i64 x0, .int .i64 x1, .int .i64 x2, .int .i64 x3, .int .i64 x4, .slice a6 n6 c6] 59)
              have hz7 : RowKit.Below w6.heap.size w6 (w6.alloc (.cells #[.int .i64 x0, .int .i64 x1, .int .i64 x2, .int .i64 x3, .int .i64 x4, .slice a6 n6 c6] 59)) := (Below.refl _ w6).alloc (Nat.le_refl _) _
              have hl3 := hl3.below hB7
              have hl4 := hl4.below hB7
              have hl6 := hl6.below hz7
              have hB8 := hBv.trans (hB7.mono hBv.size)
              have hE4 := hE3 _ hB8 hl3 hl4
              clear hE3 hz7 hB6 hB7
              go_wp2_with (fail)
              refine hE4.mono ?_
              clear hE4
              rintro e w8 ⟨a8, n8, c8, rfl, hl8, hB9⟩
              dsimp only at hl8 ⊢
              have k6 := k6.below' hB9
              have hl6 := hl6.below hB9
              have hB9 := hB8.trans (hB9.mono hB8.size)
              have k8 := Blk.new w8 59 #[.int .i64 x0, .int .i64 x1, .int .i64 x2, .int .i64 x3, .int .i64 x4, .slice a8 n8 c8]
              have hz9 : RowKit.Below w8.heap.size w8 (w8.alloc (.cells #[.int .i64 x0, .int .i64 x1, .int .i64 x2, .int .i64 x3, .int .i64 x4, .slice a8 n8 c8] 59)) := (Below.refl _ w8).alloc (Nat.le_refl _) _
              have k6 := k6.below' hz9
              have hl6 := hl6.below hz9
              have hl8 := hl8.below hz9
              have hB10 := hB9.trans (hz9.mono hB9.size)
              have l6 := k6.lt
              go_wp2_with (fail)
              refine (hp _).mono ?_
              rintro e w9 ⟨rfl, hB11⟩
              have k6 := k6.below' hB11
              have k8 := k8.below' hB11
              have hl6 := hl6.below hB11
              have hl8 := hl8.below hB11
              have hB12 := hB10.trans (hB11.mono hB10.size)
              have e6 := k6.cell
              have e8 := k8.cell
              have hsa := sameAward_eq x0 x1 x2 x3 x4 a6 n6 c6 a8 n8 c8 sh w9 hl6 hl8
              clear hz9 hB9 hB10 hB11 hl6 hl8 k6 k8 hB8
              go_wp2_with (first | (go_at_call 35; (with_reducible refine hsa.mono ?_); rintro e w10 ⟨rfl, hB13⟩) | fail)
              go_ret
              exact ⟨rfl, hB12.trans (hB13.mono hB12.size)⟩
    · rw [hr0] at hc1
      generalize (checkSales ss).2 = z at *
      generalize (checkSales ss).1 = cj at hc2
      generalize (checkRates rs).1 = ci at hc1
      have g0 : (z != 0) = true := by simpa using hs0
      clear hs0 hr0 hL hS hF
      go_enter Tryz.func7, Tryz.ntmps7
      go_wp2_with (first | (go_at_call 15; (with_reducible refine hf.mono ?_); rintro e w5 ⟨rfl, rfl⟩) | fail)
      refine (hc1 _ (Below.refl _ _)).mono ?_
      clear hc1
      rintro e w1 ⟨rfl, hB1⟩
      go_wp2_with (fail)
      refine (hc2 _ hB1).mono ?_
      clear hc2
      rintro e w2 ⟨rfl, hB2⟩
      have hB2 := hB1.trans (hB2.mono hB1.size)
      go_wp2_with (fail)
      refine (hp _).mono ?_
      rintro e w5 ⟨rfl, hB6⟩
      go_wp2_with (fail)
      go_ret
      exact ⟨rfl, hB2.trans (hB6.mono hB2.size)⟩
  · generalize (checkRates rs).2 = z at *
    generalize (checkRates rs).1 = ci at hc1
    generalize (checkSales ss).2 = zs at *
    generalize (checkSales ss).1 = cj at hc2
    have g0 : (z != 0) = true := by simpa using hr0
    clear hr0 hL hS hF
    go_enter Tryz.func7, Tryz.ntmps7
    go_wp2_with (first | (go_at_call 15; (with_reducible refine hf.mono ?_); rintro e w5 ⟨rfl, rfl⟩) | fail)
    refine (hc1 _ (Below.refl _ _)).mono ?_
    clear hc1
    rintro e w1 ⟨rfl, hB1⟩
    go_wp2_with (fail)
    refine (hc2 _ hB1).mono ?_
    clear hc2
    rintro e w2 ⟨rfl, hB2⟩
    have hB2 := hB1.trans (hB2.mono hB1.size)
    go_wp2_with (fail)
    refine (hp _).mono ?_
    rintro e w5 ⟨rfl, hB6⟩
    go_wp2_with (fail)
    go_ret
    exact ⟨rfl, hB2.trans (hB6.mono hB2.size)⟩

end Go.Proofs.YtollegoajlfdiaaGreat
