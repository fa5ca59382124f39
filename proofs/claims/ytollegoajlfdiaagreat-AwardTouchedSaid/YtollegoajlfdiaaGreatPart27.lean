import Derived.Test.YtollegoajlfdiaaGreatPart01
import Derived.Test.YtollegoajlfdiaaGreatPart16
import Derived.Test.YtollegoajlfdiaaGreatPart22
import Derived.Deep.Upon
import Derived.Deep.RegionHeld3
import Derived.Deep.AppendLies
/-
  Walks of small functions of the reference.
-/
namespace Go.Proofs.YtollegoajlfdiaaGreat
open Go.RowKit Lg

theorem within6_any (a b c : Int) (w : World) :
    Calls Tryz.prog 68 #[.int .i64 a, .int .i64 b, .int .i64 c] w fun e w' => e = .returned (.bool (inn a b c)) ∧ w = w' := by
  go_enter Tryz.func68, Tryz.ntmps68
  go_wp2
  all_goals (go_ret; exact ⟨by simp [inn, *] <;> omega, rfl⟩)

theorem withinr5_any (a b c : Int) (w : World) :
    Calls Tryz.prog 109 #[.int .i64 a, .int .i64 b, .int .i64 c] w fun e w' => e = .returned (.bool (inn a b c)) ∧ w = w' := by
  go_enter Tryz.func109, Tryz.ntmps109
  go_wp2
  all_goals (go_ret; exact ⟨by simp [inn, *] <;> omega, rfl⟩)

end Go.Proofs.YtollegoajlfdiaaGreat

/-
  Plain functions: the reference's sums of shares.
-/
namespace Lg
open Go

def keysR (f : Int → Int) : Nat → List Int
  | 0 => []
  | n + 1 => keysR f n ++ (if f n = 0 then [] else [(n : Int)])

def mergedR (f : Int → Int) : Nat → List Share
  | 0 => []
  | n + 1 => mergedR f n ++ (if f n = 0 then [] else [Share.mk n (f n)])

theorem mergedR_map (f : Int → Int) (n : Nat) : mergedR f n = (keysR f n).map fun p => Share.mk p (f p) := by
  induction n with
  | zero => rfl
  | succ n ih =>
    rw [mergedR, keysR, List.map_append, ih]
    by_cases h : f n = 0
    · rw [if_pos h, if_pos h]; rfl
    · rw [if_neg h, if_neg h]; rfl

theorem mem_keysR (f : Int → Int) (n : Nat) (p : Int) : p ∈ keysR f n ↔ f p ≠ 0 ∧ 0 ≤ p ∧ p < n := by
  induction n with
  | zero => simp [keysR]
  | succ n ih =>
    rw [keysR, List.mem_append, ih]
    by_cases h : f n = 0
    · rw [if_pos h]
      constructor
      · rintro (⟨a, b, c⟩ | a)
        · exact ⟨a, b, by omega⟩
        · cases a
      · rintro ⟨a, b, c⟩
        refine .inl ⟨a, b, ?_⟩
        have : p ≠ n := fun e => a (e ▸ h)
        omega
    · rw [if_neg h]
      constructor
      · rintro (⟨a, b, c⟩ | a)
        · exact ⟨a, b, by omega⟩
        · rw [List.mem_singleton] at a; subst a; exact ⟨h, by omega, by omega⟩
      · rintro ⟨a, b, c⟩
        by_cases e : p = n
        · right; rw [List.mem_singleton]; exact e
        · exact .inl ⟨a, b, by omega⟩

theorem keysR_sorted (f : Int → Int) (n : Nat) : (keysR f n).Pairwise (· < ·) := by
  induction n with
  | zero => exact List.Pairwise.nil
  | succ n ih =>
    rw [keysR, List.pairwise_append]
    refine ⟨ih, ?_, fun a ha b hb => ?_⟩
    · by_cases h : f n = 0
      · rw [if_pos h]; exact List.Pairwise.nil
      · rw [if_neg h]; exact List.pairwise_singleton _ _
    · have := (mem_keysR f n a).1 ha
      by_cases h : f n = 0
      · rw [if_pos h] at hb; cases hb
      · rw [if_neg h, List.mem_singleton] at hb; omega

theorem mergedR_list {f : Int → Int} {n : Nat} (h : ∀ p, f p ≠ 0 → 0 ≤ p ∧ p < n) : ListOf f (mergedR f n) := by
  rw [mergedR_map]
  exact listOf_keys (keysR_sorted f n) (fun p => by rw [mem_keysR]; exact ⟨fun a => a.1, fun a => ⟨a, h p a⟩⟩)

theorem mergedR_len (f : Int → Int) (n : Nat) : (mergedR f n).length ≤ n := by
  induction n with
  | zero => simp [mergedR]
  | succ n ih =>
    rw [mergedR, List.length_append]
    by_cases h : f n = 0
    · rw [if_pos h]; simp; omega
    · rw [if_neg h]; simp; omega

def negS (l : List Share) : List Share := l.map fun x => Share.mk x.party (-x.pence)

theorem sumP_neg (l : List Share) (p : Int) : sumP (negS l) p = - sumP l p := by
  induction l with
  | nil => rfl
  | cons x r ih =>
    have : sumP (negS (x :: r)) p = (if x.party = p then -x.pence else 0) + sumP (negS r) p := rfl
    rw [this, sumP, ih]
    by_cases h : x.party = p
    · rw [if_pos h, if_pos h]; omega
    · rw [if_neg h, if_neg h]; omega

theorem sumP_change (a b : List Share) (p : Int) : sumP (b ++ negS a) p = sumP b p - sumP a p := by
  rw [sumP_append, sumP_neg]; omega

/-- Sums of shares that can be merged are of the parties 0 to 40. -/
theorem sumP_in {l : List Share} (h : ∀ x ∈ l, 0 ≤ x.party ∧ x.party ≤ 40) (p : Int) (hp : sumP l p ≠ 0) : 0 ≤ p ∧ p < (41 : Nat) := by
  obtain ⟨x, hx, rfl⟩ := sumP_party hp
  have := h x hx
  omega

end Lg

/-
  Walks: the reference's sums of shares; Merge.
-/
namespace Go.Proofs.YtollegoajlfdiaaGreat
open Go.RowKit Lg Go.Sort Go.Shelf Go.Maps

/-! ### A list behind a row of the call's own -/
theorem run_append_list {α : Type} (w : World) (t ty : TypeId) (base : Nat) (e : TypeId) (i : TypeInfo) (z : Value) (size bytes : Nat) (ht : Tryz.prog.underlying t = some (.slice e)) (hi : Tryz.prog.info? e = some i) (hz : i.zero = some z)
    (hsize : i.size = size) (hby : i.bytes = bytes) (hzs : z.cells.size = size) (hsz : 0 < size) (v : Value) (n : Nat) (xs : List Value) (hown : w.ownsRow base e size v n xs)
    (enc : α → List Value) (hen : ∀ x, (enc x).length = size) (hone : ∀ x, ∀ u ∈ enc x, u.oneCell' = true) (a : Option Addr) (m c : Nat) (zs : List α) (hM : Lst w size enc a m c zs)
    (h63 : n + m ≤ maxLen) (hbytes : (n + m) * bytes ≤ 140737488355328) (hbase : base ≤ w.heap.size) :
    ∃ v' w', (Builtin.append_ #[t, t] ty #[v, .slice a m c]).run Tryz.prog w = .ok v' w' ∧ w'.ownsRow base e size v' (n + m) (xs ++ zs.flatMap enc) ∧ w.grownBy w' v.ownBlock := by
  by_cases hm : m = 0
  · subst hm
    have hz0 : zs = [] := List.eq_nil_of_length_eq_zero hM.len
    subst hz0
    have hs : Src Tryz.prog i.size t (.slice a 0 c) 0 [] w := by
      cases a with
      | none => exact Src.ofNil w ht c
      | some ad => exact Src.ofSlice w ht ad 0 c [] (by simp) (fun j u h => by simp at h) (fun u h => by cases h)
    obtain ⟨sa, sn, sc, hv, hle⟩ : ∃ sa sn sc, v = .slice sa sn sc ∧ sn ≤ sc := by
      rcases hown.2 with ⟨hv, _⟩ | ⟨g, cap, cur, hv, _, _, h1, _⟩
      · exact ⟨none, 0, 0, hv, Nat.le_refl _⟩
      · exact ⟨_, n, cap, hv, h1⟩
    subst hv
    exact ⟨_, w, run_append_nothing w t t ty e i ht hi sa sn sc hle _ hs, by simpa using hown, World.grownBy.refl w _⟩
  · have hne : ∃ x, zs[0]? = some x := ⟨zs[0]'(by rw [hM.len]; omega), by simp⟩
    obtain ⟨x0, hx0⟩ := hne
    obtain ⟨b, off, rfl, _, _⟩ := hM.at_ 0 x0 hx0
    obtain ⟨g, cap, w', hr, h2, h3, _, _⟩ := run_append_lies (P := Tryz.prog) w t ty base e i z size bytes ht hi hz hsize hby hzs hsz v n xs hown ⟨b, off, none⟩ m c (zs.flatMap enc) (by rw [flat_len enc size hen, hM.len])
      (fun j u hj => by
        have := hM.cells hen j u hj
        rw [Addr.add_mid]; exact this)
      (flat_one enc hone zs) (by omega) h63 hbytes hbase _ rfl
    exact ⟨_, w', hr, h2, h3⟩

theorem wpList_append_list {α : Type} {ops : Array Oper} {rest : List Oper} {o : Oper} {a : Act} {w : World} {Q : Exit → Act → World → Prop} (hgd : o.guard = none) (s x : Operand) (t : TypeId)
    (ho : o.op = .call { callee := .builtin .append, args := #[s, x], argTypes := #[t, t] })
    (base : Nat) (e : TypeId) (i : TypeInfo) (z : Value) (size bytes : Nat) (ht : Tryz.prog.underlying t = some (.slice e)) (hi : Tryz.prog.info? e = some i) (hz : i.zero = some z)
    (hsize : i.size = size) (hby : i.bytes = bytes) (hzs : z.cells.size = size) (hsz : 0 < size) (v : Value) (n : Nat) (xs : List Value) (hs : a.eval s = v) (hown : w.ownsRow base e size v n xs)
    (enc : α → List Value) (hen : ∀ x, (enc x).length = size) (hone : ∀ x, ∀ u ∈ enc x, u.oneCell' = true) (b : Option Addr) (m c : Nat) (zs : List α) (hx : a.eval x = .slice b m c) (hM : Lst w size enc b m c zs)
    (h63 : n + m ≤ maxLen) (hbytes : (n + m) * bytes ≤ 140737488355328) (hbase : base ≤ w.heap.size)
    (h : ∀ v' w', w'.ownsRow base e size v' (n + m) (xs ++ zs.flatMap enc) → w.grownBy w' v.ownBlock → wpList Tryz.prog ops Q rest (a.put o.dst v') w') : wpList Tryz.prog ops Q (o :: rest) a w :=
  wpList_plain hgd fun _ hK => by
    obtain ⟨v', w', hr, h2, h3⟩ := run_append_list w t o.type base e i z size bytes ht hi hz hsize hby hzs hsz v n xs hown enc hen hone b m c zs hM h63 hbytes hbase
    unfold Oper.wp execOp
    simp only [ho, resolve, invoke, builtin, Sem.run_bind, Sem.run_pure, Result.andThen_ok, List.map_toArray, List.map_cons, List.map_nil, hs, hx, hr]
    exact hK _ _ (h v' w' h2 h3)

/-! ### Sums -/
set_option maxRecDepth 100000 in
set_option maxHeartbeats 1600000 in
theorem sumOfR_any (party : Int) (a : Option Addr) (n cap : Nat) (xs : List Share) (w : World) (hL : Lst w 2 cSh a n cap xs) (hn : n ≤ 2100) (hx : ∀ x ∈ xs, -1000000000000 ≤ x.pence ∧ x.pence ≤ 1000000000000) :
    Calls Tryz.prog 81 #[.slice a n cap, .int .i64 party] w fun e w' => e = .returned (.int .i64 (sumP xs party)) ∧ w = w' := by
  have hm : cap ≤ 9223372036854775807 := by have := hL.max; unfold maxLen at this; omega
  have hle := hL.le
  have hlen := Lib.hid hL.len
  go_enter Tryz.func81, Tryz.ntmps81
  go_wp2
  go_loop [5, 6] (fun s i => ∃ k : Nat, k ≤ n ∧ i = .int .i64 k ∧ s = .int .i64 (sumP (xs.take k) party)) (fun _ i => n - (intOf i).toNat)
  case atStart => exact ⟨0, Nat.zero_le _, rfl, rfl⟩
  case round =>
    obtain ⟨k, hk, rfl, rfl⟩ := hrel
    by_cases hlt : k < n
    · have hltz : (k : Int) < (n : Int) := by omega
      obtain ⟨x, hxk⟩ : ∃ x, xs[k]? = some x := ⟨xs[k]'(by rw [hlen.out]; exact hlt), by simp⟩
      obtain ⟨bb, off, rfl, hbb, hr⟩ := hL.at_ k x hxk
      have l0 := hr 0 _ rfl
      have l1 := hr 1 _ rfl
      simp only [Nat.add_zero] at l0
      obtain ⟨hx3, hx4⟩ := hx x (List.mem_of_getElem? hxk)
      have htk : sumP (xs.take (k + 1)) party = sumP (xs.take k) party + (if x.party = party then x.pence else 0) := by
        obtain ⟨h1, h2⟩ := List.getElem?_eq_some_iff.1 hxk
        rw [List.take_succ_eq_append_getElem h1, h2, sumP_append]
        simp [sumP]
      have hsb := sumP_bound (xs.take k) party 1000000000000 (by omega) (fun y hy => hx y (List.mem_of_mem_take hy))
      have hlk : (xs.take k).length ≤ 2100 := Nat.le_trans (List.length_take_le _ _) (by omega)
      obtain ⟨c, hc⟩ : ∃ c, c = sumP (xs.take k) party := ⟨_, rfl⟩
      rw [← hc] at hsb htk ⊢
      obtain ⟨hcb1, hcb2⟩ : -3000000000000000 ≤ c ∧ c ≤ 3000000000000000 := by omega
      have Hxk := Lib.hid hxk
      clear hsb hlk hc hxk hlt hr
      by_cases hp : x.party = party
      · rw [if_pos hp] at htk
        have Htk := Lib.hid htk
        clear htk
        have hpe : (x.party == party) = true := by simpa using hp
        have Hp := Lib.hid hp
        clear hp
        go_wp2
        go_round
        case rel => exact ⟨k + 1, by omega, by go_num, by rw [Htk.out]⟩
        case measure => simp [intOf]; omega
      · rw [if_neg hp] at htk
        have Htk := Lib.hid htk
        clear htk
        have hpe : (x.party == party) = false := by simpa using hp
        go_wp2
        go_round
        case rel => exact ⟨k + 1, by omega, by go_num, by rw [Htk.out, Int.add_zero]⟩
        case measure => simp [intOf]; omega
    · obtain rfl : k = n := by omega
      have hltz : ¬ (k : Int) < (k : Int) := by omega
      rw [List.take_of_length_le (by rw [hlen.out]; exact Nat.le_refl _)]
      go_wp2
      go_ret
      exact ⟨rfl, rfl⟩

set_option maxRecDepth 100000 in
set_option maxHeartbeats 400000 in
theorem ofR_any (price cart store find rest party : Int) (a : Option Addr) (n cap : Nat) (xs : List Share) (w : World) (hL : Lst w 2 cSh a n cap xs) (hn : n ≤ 2100) (hx : ∀ x ∈ xs, -1000000000000 ≤ x.pence ∧ x.pence ≤ 1000000000000) :
    Calls Tryz.prog 41 #[.agg #[.int .i64 price, .int .i64 cart, .int .i64 store, .int .i64 find, .int .i64 rest, .slice a n cap], .int .i64 party] w (Gives w (.int .i64 (sumP xs party))) := by
  have hc := fun W hW => sumOfR_any party a n cap xs W hW hn hx
  have hB := ((Below.refl w.heap.size w).alloc (Nat.le_refl _) (.cells #[.int .i64 price, .int .i64 cart, .int .i64 store, .int .i64 find, .int .i64 rest, .slice a n cap] 59))
  have hL2 := hL.below hB
  clear hL
  go_enter Tryz.func41, Tryz.ntmps41
  go_wp2_with (go_at_call 81; refine (hc _ hL2).mono ?_; rintro e w3 ⟨rfl, rfl⟩)
  go_ret
  exact ⟨rfl, hB⟩

set_option maxRecDepth 100000 in
set_option maxHeartbeats 800000 in
theorem sharedR_any (a : Option Addr) (n cap : Nat) (xs : List Share) (w : World) (hL : Lst w 2 cSh a n cap xs) :
    Calls Tryz.prog 85 #[.slice a n cap] w fun e w' => e = .returned (.int .i64 (mergeableOf xs)) ∧ w = w' := by
  have hm : cap ≤ 9223372036854775807 := by have := hL.max; unfold maxLen at this; omega
  have hle := hL.le
  obtain ⟨q, hq⟩ : ∃ q, q = mergeableOf xs := ⟨_, rfl⟩
  rw [← hq]
  unfold mergeableOf at hq
  rw [hL.len] at hq
  have hlen := Lib.hid hL.len
  by_cases h1 : 1000 < n
  · rw [if_pos h1] at hq
    subst hq
    have h1z : (1000 : Int) < (n : Int) := by omega
    clear hL
    go_enter Tryz.func85, Tryz.ntmps85
    go_wp2
    go_ret
    exact ⟨rfl, rfl⟩
  · rw [if_neg h1] at hq
    have h1z : ¬ (1000 : Int) < (n : Int) := by omega
    have Hq := Lib.hid hq; clear hq
    go_enter Tryz.func85, Tryz.ntmps85
    go_wp2
    go_loop [3] (fun i => ∃ k : Nat, k ≤ n ∧ i = .int .i64 k ∧ Hid ((xs.take k).any badShare = false)) (fun i => n - (intOf i).toNat)
    case atStart => exact ⟨0, Nat.zero_le _, rfl, rfl⟩
    case round =>
      obtain ⟨k, hk, rfl, Ht⟩ := hrel
      by_cases hlt : k < n
      · have hltz : (k : Int) < (n : Int) := by omega
        obtain ⟨x, hx⟩ : ∃ x, xs[k]? = some x := ⟨xs[k]'(by rw [hlen.out]; exact hlt), by simp⟩
        obtain ⟨bb, off, rfl, hbb, hr⟩ := hL.at_ k x hx
        have l0 := hr 0 _ rfl
        have l1 := hr 1 _ rfl
        simp only [Nat.add_zero] at l0
        have hbx : badShare x = (!inn x.party 0 40 || !inn x.pence (-1000000000) 1000000000) := rfl
        have hw1 := within6_any x.party 0 40 w
        have hw2 := within6_any x.pence (-1000000000) 1000000000 w
        generalize inn x.party 0 40 = q1 at *
        generalize inn x.pence (-1000000000) 1000000000 = q2 at *
        have hsn : (xs.take (k + 1)).any badShare = badShare x := by
          obtain ⟨h1, h2⟩ := List.getElem?_eq_some_iff.1 hx
          rw [List.take_succ_eq_append_getElem h1, h2, List.any_append, Ht.out]
          simp
        have hbad : badShare x = true → q = 1 := fun h => by
          rw [Hq.out, if_pos (List.any_eq_true.2 ⟨x, List.mem_of_getElem? hx, h⟩)]
        have Hbx := Lib.hid hbx
        have Hsn := Lib.hid hsn
        have Hbad := Lib.hid hbad
        clear hr hx hbx hsn hbad
        cases q1 with
        | false =>
          have hq := Hbad.out (by rw [Hbx.out]; rfl)
          subst hq
          go_wp2_with (go_at_call 68; refine hw1.mono ?_; rintro e w3 ⟨rfl, rfl⟩)
          go_ret
          exact ⟨rfl, rfl⟩
        | true =>
          cases q2 with
          | false =>
            have hq := Hbad.out (by rw [Hbx.out]; rfl)
            subst hq
            go_wp2_with (fail)
            refine hw1.mono ?_
            rintro e w3 ⟨rfl, rfl⟩
            go_wp2_with (fail)
            refine hw2.mono ?_
            rintro e w3 ⟨rfl, rfl⟩
            go_wp2_with (fail)
            go_ret
            exact ⟨rfl, rfl⟩
          | true =>
            go_wp2_with (fail)
            refine hw1.mono ?_
            rintro e w3 ⟨rfl, rfl⟩
            go_wp2_with (fail)
            refine hw2.mono ?_
            rintro e w3 ⟨rfl, rfl⟩
            go_wp2_with (fail)
            go_round
            case rel => exact ⟨k + 1, by omega, by go_num, Lib.hid (by rw [Hsn.out, Hbx.out]; rfl)⟩
            case measure => simp [intOf]; omega
      · obtain rfl : k = n := by omega
        have hq := Hq.out
        have ht := Ht.out
        rw [List.take_of_length_le (by rw [hlen.out]; exact Nat.le_refl _)] at ht
        rw [ht] at hq
        have Hq2 := Lib.hid hq
        clear hq ht Hq
        go_wp2
        go_ret
        exact ⟨by rw [Hq2.out]; rfl, rfl⟩

set_option maxRecDepth 100000 in
set_option maxHeartbeats 1600000 in
theorem mergedR_any (a : Option Addr) (n cap : Nat) (xs : List Share) (w : World) (hn : n ≤ 2100) (hL : Lst w 2 cSh a n cap xs) (hx : ∀ x ∈ xs, 0 ≤ x.party ∧ x.party ≤ 40 ∧ -1000000000 ≤ x.pence ∧ x.pence ≤ 1000000000) :
    Calls Tryz.prog 79 #[.slice a n cap] w (GivesF w (sumP xs)) := by
  have hlist : ListOf (sumP xs) (mergedR (sumP xs) 41) := mergedR_list (sumP_in (fun x h => ⟨(hx x h).1, (hx x h).2.1⟩))
  have hc := fun (p : Int) W hW => sumOfR_any p a n cap xs W hW hn (fun x h => by have := hx x h; omega)
  obtain ⟨i0, hi0, hz0, hz1, hz2⟩ := info_parts infoSh
  have Hlist := Lib.hid hlist; clear hlist hx
  generalize sumP xs = f at *
  go_enter Tryz.func79, Tryz.ntmps79
  go_wp2
  go_loopw [3, 4] (fun o i wr => ∃ k : Nat, k ≤ 41 ∧ i = .int .i64 k ∧ wr.ownsRow w.heap.size 69 2 o (mergedR f k).length ((mergedR f k).flatMap cSh) ∧ RowKit.Below w.heap.size w wr) (fun _ i _ => 41 - (intOf i).toNat)
  case atStart => exact ⟨0, Nat.zero_le _, rfl, ⟨by simp [mergedR], .inl ⟨rfl, rfl⟩⟩, Below.refl _ _⟩
  case round =>
    obtain ⟨k, hk, rfl, hor, hB⟩ := hrel
    by_cases hlt : k < 41
    · have hltz : (k : Int) ≤ 40 := by omega
      have hcw := hc k wr (hL.below hB)
      have hsn : mergedR f (k + 1) = mergedR f k ++ (if f k = 0 then [] else [Share.mk k (f k)]) := rfl
      have hll := mergedR_len f k
      have hsw := hB.size
      generalize mergedR f k = zs at *
      generalize f k = fp at *
      have Hsn := Lib.hid hsn; clear hsn
      by_cases h0 : fp = 0
      · subst h0
        go_wp2_with (go_at_call 81; refine hcw.mono ?_; rintro e w3 ⟨rfl, rfl⟩)
        go_roundw
        case rel =>
          refine ⟨k + 1, by omega, by go_num, ?_, hB⟩
          rw [Hsn.out]
          simpa using hor
        case measure => simp [intOf]; omega
      · have g0 : (fp != 0) = true := by simpa using h0
        have H0 := Lib.hid h0; clear h0
        go_wp2_with (first
          | (go_at_call 81; refine hcw.mono ?_; rintro e w3 ⟨rfl, rfl⟩)
          | (at_builtin; refine wpList_append_lies _ rfl _ _ _ rfl w.heap.size 69 i0 _ 2 16 Tryz.underlying45 hi0 hz0 hz1 hz2 rfl (by omega) _ zs.length (zs.flatMap cSh) rfl (hor.alloc _) ⟨wr.heap.size, 0, none⟩ 1 1 [.int .i64 k, .int .i64 fp] rfl rfl (World.news_of_block (cs := #[.int .i64 k, .int .i64 fp]) (t := 69) (fr := (0, 0)) (heap_alloc_new wr _)) (by simp [Value.oneCell']) (by omega) (by unfold maxLen; omega) (by omega) (by simp; omega) _ rfl ?_; intro g cap1 w3 hown3 hgrow hat hlt1)
          | fail)
        go_roundw
        case rel =>
          refine ⟨k + 1, by omega, by go_num, ?_, below_of_grown (hB.alloc hB.size _) (Nat.le_refl _) hgrow (own_ge' hor)⟩
          rw [Hsn.out, if_neg H0.out, List.length_append, List.flatMap_append, List.flatMap_singleton]
          exact hown3
        case measure => simp [intOf]; omega
    · obtain rfl : k = 41 := by omega
      go_wp2
      go_ret
      exact ⟨_, _, rfl, Hlist.out, hor, hB⟩

/-- What Merge hands back. -/
def GivesM (w : World) (l : List Share) (e : Ending) (w' : World) : Prop :=
  RowKit.Below w.heap.size w w' ∧ if mergeableOf l = 0 then
    ∃ v ys, e = .returned (.tuple #[v, .int .i64 0]) ∧ ListOf (sumP l) ys ∧ w'.ownsRow w.heap.size 69 2 v ys.length (ys.flatMap cSh)
  else e = .returned (.tuple #[.slice none 0 0, .int .i64 (mergeableOf l)])

set_option maxRecDepth 100000 in
set_option maxHeartbeats 400000 in
theorem mergeR_any (a : Option Addr) (n cap : Nat) (xs : List Share) (w : World) (hL : Lst w 2 cSh a n cap xs) :
    Calls Tryz.prog 45 #[.slice a n cap] w (GivesM w xs) := by
  have h1 := sharedR_any a n cap xs w hL
  by_cases h0 : mergeableOf xs = 0
  · obtain ⟨m1, m2⟩ := mergeable_ok h0
    rw [hL.len] at m1
    have h2 := mergedR_any a n cap xs w (by omega) hL m2
    rw [h0] at h1
    have H0 := Lib.hid h0
    clear h0 hL
    go_enter Tryz.func45, Tryz.ntmps45
    go_wp2_with (go_at_call 85; refine h1.mono ?_; rintro e w3 ⟨rfl, rfl⟩)
    refine h2.mono ?_
    rintro e w2 ⟨v, ys, rfl, hf, hown, hb2⟩
    go_wp2_with (fail)
    go_ret2
    refine ⟨hb2, ?_⟩
    rw [if_pos H0.out]
    exact ⟨v, ys, rfl, hf, hown⟩
  · obtain ⟨q, hq⟩ : ∃ q, q = mergeableOf xs := ⟨_, rfl⟩
    rw [← hq] at h1
    have g0 : (q != 0) = true := by rw [hq]; simpa using h0
    have Hq := Lib.hid hq
    have H0 := Lib.hid h0
    clear h0 hL hq
    go_enter Tryz.func45, Tryz.ntmps45
    go_wp2_with (go_at_call 85; refine h1.mono ?_; rintro e w3 ⟨rfl, rfl⟩)
    go_ret2
    refine ⟨Below.refl _ _, ?_⟩
    rw [if_neg H0.out, Hq.out]
    rfl

set_option maxRecDepth 100000 in
set_option maxHeartbeats 400000 in
theorem merge_any (a : Option Addr) (n cap : Nat) (xs : List Share) (w : World) (hL : Lst w 2 cSh a n cap xs) :
    Calls Tryz.prog 44 #[.slice a n cap] w (GivesM w xs) := by
  have h1 := mergeable_any a n cap xs w hL
  by_cases h0 : mergeableOf xs = 0
  · obtain ⟨m1, m2⟩ := mergeable_ok h0
    rw [hL.len] at m1
    have h2 := fun W (hB : RowKit.Below w.heap.size w W) => merged_any a n cap xs W (by omega) (hL.below hB) m2
    rw [h0] at h1
    have H0 := Lib.hid h0
    clear h0 hL
    go_enter Tryz.func44, Tryz.ntmps44
    go_wp2_with (fail)
    refine h1.mono ?_
    rintro e w3 ⟨rfl, hB3⟩
    go_wp2_with (fail)
    refine (h2 w3 hB3).mono ?_
    rintro e w2 ⟨v, ys, rfl, hf, hown, hb2⟩
    go_wp2_with (fail)
    go_ret2
    refine ⟨hB3.trans (hb2.mono hB3.size), ?_⟩
    rw [if_pos H0.out]
    exact ⟨v, ys, rfl, hf, ownsRow_base_a hown hB3.size⟩
  · obtain ⟨q, hq⟩ : ∃ q, q = mergeableOf xs := ⟨_, rfl⟩
    rw [← hq] at h1
    have g0 : (q != 0) = true := by rw [hq]; simpa using h0
    have Hq := Lib.hid hq
    have H0 := Lib.hid h0
    clear h0 hL hq
    go_enter Tryz.func44, Tryz.ntmps44
    go_wp2_with (fail)
    refine h1.mono ?_
    rintro e w3 ⟨rfl, hB3⟩
    go_wp2_with (fail)
    go_ret2
    refine ⟨hB3, ?_⟩
    rw [if_neg H0.out, Hq.out]
    rfl

end Go.Proofs.YtollegoajlfdiaaGreat

/-
  Walk: the reference's change between two lists of shares.
-/
namespace Go.Proofs.YtollegoajlfdiaaGreat
open Go.RowKit Lg Go.Sort Go.Shelf Go.Maps

theorem negS_take (l : List Share) (k : Nat) (x : Share) (h : l[k]? = some x) : negS (l.take (k + 1)) = negS (l.take k) ++ [Share.mk x.party (-x.pence)] := by
  obtain ⟨h1, h2⟩ := List.getElem?_eq_some_iff.1 h
  unfold negS
  rw [List.take_succ_eq_append_getElem h1, h2, List.map_append]; rfl

theorem negS_mem {l : List Share} {y : Share} (h : y ∈ negS l) : ∃ x ∈ l, y = ⟨x.party, -x.pence⟩ := by
  obtain ⟨x, hx, rfl⟩ := List.mem_map.1 h
  exact ⟨x, hx, rfl⟩

set_option maxRecDepth 100000 in
set_option maxHeartbeats 1600000 in
theorem changeR_any (a : Option Addr) (n cap : Nat) (xs : List Share) (b : Option Addr) (m capB : Nat) (zs : List Share) (w : World) (hL : Lst w 2 cSh a n cap xs) (hM : Lst w 2 cSh b m capB zs) :
    Calls Tryz.prog 46 #[.slice a n cap, .slice b m capB] w (GivesC w xs zs) := by
  have h1 := sharedR_any a n cap xs w hL
  have h2 := sharedR_any b m capB zs w hM
  have hce : changeErr xs zs = if mergeableOf xs = 0 then mergeableOf zs else mergeableOf xs := rfl
  by_cases h0 : mergeableOf xs = 0
  · obtain ⟨m1, m2⟩ := mergeable_ok h0
    rw [h0] at h1
    rw [if_pos h0] at hce
    by_cases h3 : mergeableOf zs = 0
    · obtain ⟨m3, m4⟩ := mergeable_ok h3
      rw [h3] at h2
      rw [h3] at hce
      have Hce := Lib.hid hce
      clear hce
      rw [hL.len] at m1
      rw [hM.len] at m3
      have hlen := Lib.hid hL.len
      have hm : cap ≤ 9223372036854775807 := by have := hL.max; unfold maxLen at this; omega
      have hle := hL.le
      obtain ⟨i0, hi0, hz0, hz1, hz2⟩ := info_parts infoSh
      have M2 := Lib.hid m2
      have M4 := Lib.hid m4
      clear h0 h3 m2 m4
      go_enter Tryz.func46, Tryz.ntmps46
      go_wp2_with (fail)
      refine h1.mono ?_
      rintro e w3 ⟨rfl, rfl⟩
      go_wp2_with (fail)
      refine h2.mono ?_
      rintro e w3 ⟨rfl, rfl⟩
      go_wp2_with (first
        | (at_builtin; refine wpList_append_list rfl _ _ _ rfl w.heap.size 69 i0 _ 2 16 Tryz.underlying45 hi0 hz0 hz1 hz2 rfl (by omega) (.slice none 0 0) 0 [] rfl ⟨by simp, .inl ⟨rfl, rfl⟩⟩ cSh (fun _ => rfl) cSh_one b m capB zs rfl hM (by unfold maxLen; omega) (by omega) (Nat.le_refl _) ?_; intro v1 w1 hown1 hgrow1)
        | fail)
      have hB1 : RowKit.Below w.heap.size w w1 := below_of_grown (Below.refl _ _) (Nat.le_refl _) hgrow1 (fun r h => by simp [Value.ownBlock] at h)
      rw [List.nil_append, Nat.zero_add] at hown1
      clear hgrow1
      go_loopw [7, 8] (fun o i wr => ∃ k : Nat, k ≤ n ∧ i = .int .i64 k ∧ wr.ownsRow w.heap.size 69 2 o (m + k) ((zs ++ negS (xs.take k)).flatMap cSh) ∧ RowKit.Below w.heap.size w wr) (fun _ i _ => n - (intOf i).toNat)
      case atStart => exact ⟨0, Nat.zero_le _, rfl, by simpa [negS] using hown1, hB1⟩
      case round =>
        obtain ⟨k, hk, rfl, hor, hB⟩ := hrel
        by_cases hlt : k < n
        · have hltz : (k : Int) < (n : Int) := by omega
          obtain ⟨x, hx⟩ : ∃ x, xs[k]? = some x := ⟨xs[k]'(by rw [hlen.out]; exact hlt), by simp⟩
          obtain ⟨bb, off, rfl, hbb, hr⟩ := hL.at_ k x hx
          have m0 := hr 0 _ rfl
          have m1 := hr 1 _ rfl
          simp only [Nat.add_zero] at m0
          obtain ⟨_, _, p1, p2⟩ := M2.out x (List.mem_of_getElem? hx)
          have hsn := negS_take xs k x hx
          have Hsn := Lib.hid hsn
          have hwn : IntKind.i64.wrap (-x.pence) = -x.pence := by rw [IntKind.wrap_i64]; omega
          have hsw := hB.size
          clear hr hx hsn
          generalize negS (xs.take k) = ns at *
          go_wp2_with (fail)
          have hS : ∀ W, RowKit.Below w.heap.size w W → W.cell? ⟨bb, off + k * 2, none⟩ = some (.int .i64 x.party) ∧ W.cell? ⟨bb, off + k * 2 + 1, none⟩ = some (.int .i64 x.pence) := fun W h => ⟨(h.cell (p := ⟨bb, off + k * 2, none⟩) hbb).trans m0, (h.cell (p := ⟨bb, off + k * 2 + 1, none⟩) hbb).trans m1⟩
          clear m0 m1
          go_region_held3 (fun w' => w'.cell? ⟨bb, off + k * 2, none⟩ = some (.int .i64 x.party) ∧ w'.cell? ⟨bb, off + k * 2 + 1, none⟩ = some (.int .i64 x.pence))
            (exact hS _ (by first | assumption | repeat (first | (with_reducible assumption) | (with_reducible exact Below.refl _ _) | (with_reducible refine Below.alloc ?_ ?_ _) | (with_reducible refine Below.setCell ?_ ?_ _) | (with_reducible refine Below.drew ?_) | omega | (simp <;> omega) | (dsimp only; omega))))
            (first
              | (refine step_append_lies _ (by rfl) _ _ _ (by rfl) w.heap.size 69 i0 _ 2 16 Tryz.underlying45 hi0 hz0 hz1 hz2 rfl (by omega) _ (m + k) ((zs ++ ns).flatMap cSh) (by rfl) (hor.alloc _).drew ⟨wr.heap.size, 0, none⟩ 1 1 [.int .i64 x.party, .int .i64 (-x.pence)] (by rfl) (by rfl) (World.news_of_block (cs := #[.int .i64 x.party, .int .i64 (-x.pence)]) (t := 69) (fr := (0, 0)) (heap_alloc_new wr _)) (by simp [Value.oneCell']) (by omega) (by unfold maxLen; omega) (by omega) (by simp; omega) _ rfl ?_; intro g cap1 w3 hown3 hgrow hat hlt1; have hBn := below_of_grown ((hB.alloc hB.size _).drew) (Nat.le_refl _) hgrow (own_ge' hor))
              | fail)
          go_wp2_with (fail)
          go_roundw
          case rel =>
            refine ⟨k + 1, by omega, by go_num, ?_, hBn⟩
            rw [Hsn.out, ← List.append_assoc, List.flatMap_append, List.flatMap_singleton, ← Nat.add_assoc]
            exact hown3
          case measure => simp [intOf]; omega
        · obtain rfl : k = n := by omega
          rw [List.take_of_length_le (by rw [hlen.out]; exact Nat.le_refl _)] at hor
          obtain ⟨av, cv, rfl, _, hLv⟩ := Lst.of_owns (k := 2) (enc := cSh) (fun _ => rfl) (by omega) hor (by simp [negS, hL.len, hM.len])
          have h3 := mergedR_any av (m + k) cv (zs ++ negS xs) wr (by omega) hLv (fun y hy => by
            rcases List.mem_append.1 hy with hy | hy
            · exact M4.out y hy
            · obtain ⟨x, hx, rfl⟩ := negS_mem hy
              have := M2.out x hx
              dsimp only; omega)
          go_wp2_with (fail)
          refine h3.mono ?_
          rintro e w4 ⟨v, ys, rfl, hf, hown, hb4⟩
          go_wp2_with (fail)
          go_ret2
          refine ⟨hB.trans (hb4.mono hB.size), ?_⟩
          rw [if_pos Hce.out]
          refine ⟨v, ys, rfl, ?_, ownsRow_base_a hown hB.size⟩
          have e : (fun p => sumP zs p - sumP xs p) = sumP (zs ++ negS xs) := funext fun p => (sumP_change xs zs p).symm
          rw [e]; exact hf
    · obtain ⟨q, hq⟩ : ∃ q, q = mergeableOf zs := ⟨_, rfl⟩
      rw [← hq] at h2 hce
      have g0 : (q != 0) = true := by rw [hq]; simpa using h3
      have hq0 : q ≠ 0 := by rw [hq]; exact h3
      have Hce := Lib.hid hce
      have H0 := Lib.hid hq0
      clear h3 h0 hL hM hq hq0 hce
      go_enter Tryz.func46, Tryz.ntmps46
      go_wp2_with (fail)
      refine h1.mono ?_
      rintro e w3 ⟨rfl, rfl⟩
      go_wp2_with (fail)
      refine h2.mono ?_
      rintro e w3 ⟨rfl, rfl⟩
      go_wp2_with (fail)
      go_ret2
      refine ⟨Below.refl _ _, ?_⟩; rw [if_neg (by rw [Hce.out]; exact H0.out), Hce.out]; rfl
  · rw [if_neg h0] at hce
    obtain ⟨q, hq⟩ : ∃ q, q = mergeableOf xs := ⟨_, rfl⟩
    rw [← hq] at h1 hce
    have g0 : (q != 0) = true := by rw [hq]; simpa using h0
    have g1 : (q == 0) = false := by rw [hq]; simpa using h0
    have hq0 : q ≠ 0 := by rw [hq]; exact h0
    have Hce := Lib.hid hce
    have H0 := Lib.hid hq0
    clear h0 hL hM hq hq0 hce
    go_enter Tryz.func46, Tryz.ntmps46
    go_wp2_with (fail)
    refine h1.mono ?_
    rintro e w3 ⟨rfl, rfl⟩
    go_wp2_with (fail)
    go_ret2
    refine ⟨Below.refl _ _, ?_⟩; rw [if_neg (by rw [Hce.out]; exact H0.out), Hce.out]; rfl

end Go.Proofs.YtollegoajlfdiaaGreat
