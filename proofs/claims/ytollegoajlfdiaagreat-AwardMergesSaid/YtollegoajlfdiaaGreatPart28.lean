import Derived.Test.YtollegoajlfdiaaGreatPart27
import Derived.Test.YtollegoajlfdiaaGreatPart23
import Derived.Test.YtollegoajlfdiaaGreatPart24
/-
  Walk: the law of merges.
-/
namespace Go.Proofs.YtollegoajlfdiaaGreat
open Go.RowKit Lg Go.Sort Go.Shelf Go.Maps

/-- A call hands back shares and an error. -/
def GivesX (w : World) (l : List Share) (er : Int) (e : Ending) (w' : World) : Prop :=
  ∃ av n c, e = .returned (.tuple #[.slice av n c, .int .i64 er]) ∧ Lst w' 2 cSh av n c l ∧ RowKit.Below w.heap.size w w'

def canonM (xs : List Share) : List Share := if mergeableOf xs = 0 then mergedR (sumP xs) 41 else []
def canonC (xs zs : List Share) : List Share := if changeErr xs zs = 0 then mergedR (fun p => sumP zs p - sumP xs p) 41 else []

theorem GivesM.x {w : World} {xs : List Share} {e : Ending} {w' : World} (h : GivesM w xs e w') : GivesX w (canonM xs) (mergeableOf xs) e w' := by
  obtain ⟨hB, h⟩ := h
  unfold canonM
  by_cases h0 : mergeableOf xs = 0
  · rw [if_pos h0] at h ⊢
    obtain ⟨v, ys, rfl, hf, ho⟩ := h
    obtain ⟨av, cv, rfl, _, hl⟩ := Lst.of_owns (k := 2) (enc := cSh) (fun _ => rfl) (by omega) ho rfl
    have hx := (mergeable_ok h0).2
    have hs := mergedR_list (f := sumP xs) (n := 41) (sumP_in (fun x hx2 => ⟨(hx x hx2).1, (hx x hx2).2.1⟩))
    generalize mergedR (sumP xs) 41 = ms at *
    have e := listOf_unique hf hs
    subst e
    exact ⟨av, _, cv, by rw [h0], hl, hB⟩
  · rw [if_neg h0] at h ⊢
    exact ⟨none, 0, 0, h, Lst.nil _ _ _, hB⟩

theorem GivesC.x {w : World} {xs zs : List Share} {e : Ending} {w' : World} (h : GivesC w xs zs e w') : GivesX w (canonC xs zs) (changeErr xs zs) e w' := by
  obtain ⟨hB, h⟩ := h
  unfold canonC
  by_cases h0 : changeErr xs zs = 0
  · rw [if_pos h0] at h ⊢
    obtain ⟨v, ys, rfl, hf, ho⟩ := h
    obtain ⟨av, cv, rfl, _, hl⟩ := Lst.of_owns (k := 2) (enc := cSh) (fun _ => rfl) (by omega) ho rfl
    have h1 : mergeableOf xs = 0 := by
      unfold changeErr at h0
      by_cases q : mergeableOf xs = 0
      · exact q
      · rw [if_neg q] at h0; exact h0
    have h2 : mergeableOf zs = 0 := by unfold changeErr at h0; rw [if_pos h1] at h0; exact h0
    have hx := (mergeable_ok h1).2
    have hz := (mergeable_ok h2).2
    have hs := mergedR_list (f := fun p => sumP zs p - sumP xs p) (n := 41) (fun p hp => by
      by_cases q : sumP zs p ≠ 0
      · exact sumP_in (fun x hx2 => ⟨(hz x hx2).1, (hz x hx2).2.1⟩) p q
      · have q2 : sumP xs p ≠ 0 := by have hp : ¬ sumP zs p - sumP xs p = 0 := hp; omega
        exact sumP_in (fun x hx2 => ⟨(hx x hx2).1, (hx x hx2).2.1⟩) p q2)
    generalize mergedR (fun p => sumP zs p - sumP xs p) 41 = ms at *
    have e := listOf_unique hf hs
    subst e
    exact ⟨av, _, cv, by rw [h0], hl, hB⟩
  · rw [if_neg h0] at h ⊢
    exact ⟨none, 0, 0, h, Lst.nil _ _ _, hB⟩

theorem mergeable_bad {xs : List Share} {x : Share} (hx : x ∈ xs) (h : 1000000000000 < x.pence ∨ x.pence < -1000000000000) : mergeableOf xs = if 1000 < xs.length then 2 else 1 := by
  unfold mergeableOf
  have hb : xs.any badShare = true := List.any_eq_true.2 ⟨x, hx, by
    have : inn x.pence (-1000000000) 1000000000 = false := by unfold inn; simp; omega
    show (!inn x.party 0 40 || !inn x.pence (-1000000000) 1000000000) = true
    rw [this]; simp⟩
  rw [if_pos hb]

set_option maxRecDepth 100000 in
set_option maxHeartbeats 400000 in
theorem mergeFails_any (a : Option Addr) (n cap : Nat) (xs : List Share) (w : World) (hL : Lst w 2 cSh a n cap xs) (hb : mergeableOf xs = if 1000 < n then 2 else 1) :
    Calls Tryz.prog 43 #[.slice a n cap] w (Gives w (.bool true)) := by
  have h1 := (merge_any a n cap xs w hL).mono fun e w' h => GivesM.x h
  have hc : canonM xs = [] := by unfold canonM; rw [if_neg (by rw [hb]; split <;> omega)]
  rw [hc, hb] at h1
  clear hc hb hL
  by_cases h0 : 1000 < n
  · rw [if_pos h0] at h1
    have hz : (1000 : Int) < (n : Int) := by omega
    go_enter Tryz.func43, Tryz.ntmps43
    go_wp2_with (fail)
    refine h1.mono ?_
    rintro e w2 ⟨av, n1, c1, rfl, hl, hB⟩
    obtain rfl : n1 = 0 := by have := hl.len; simpa using this.symm
    go_wp2_with (fail)
    go_ret
    exact ⟨rfl, hB⟩
  · rw [if_neg h0] at h1
    go_enter Tryz.func43, Tryz.ntmps43
    go_wp2_with (fail)
    refine h1.mono ?_
    rintro e w2 ⟨av, n1, c1, rfl, hl, hB⟩
    obtain rfl : n1 = 0 := by have := hl.len; simpa using this.symm
    go_wp2_with (fail)
    go_ret
    exact ⟨rfl, hB⟩

set_option maxRecDepth 100000 in
set_option maxHeartbeats 6400000 in
theorem lawMerges_any (a : Option Addr) (n cap : Nat) (xs : List Share) (b : Option Addr) (m capB : Nat) (zs : List Share) (party : Int) (w : World) (hL : Lst w 2 cSh a n cap xs) (hM : Lst w 2 cSh b m capB zs) :
    Calls Tryz.prog 12 #[.slice a n cap, .slice b m capB, .int .i64 party] w (Gives w (.bool true)) := by
  have hp := paid_any
  have hcap : cap ≤ 9223372036854775807 := by have := hL.max; unfold maxLen at this; omega
  have hle := hL.le
  have hlen := Lib.hid hL.len
  have hcases : (((60 < n ∧ n ≤ 1000) ∨ 1003 < n) ∨ (n ≤ 60 ∨ 1000 < n ∧ n ≤ 1003) ∧ ((60 < m ∧ m ≤ 1000) ∨ 1003 < m)) ∨ ((n ≤ 60 ∨ 1000 < n ∧ n ≤ 1003) ∧ (m ≤ 60 ∨ 1000 < m ∧ m ≤ 1003)) := by omega
  rcases hcases with hc | hc
  · clear hL hM
    rcases hc with (⟨c1, c2⟩ | c1) | ⟨c1 | ⟨c1, c2⟩, ⟨c3, c4⟩ | c3⟩
    · have d1 : (60 : Int) < (n : Int) := by omega
      have d2 : (n : Int) ≤ 1000 := by omega
      go_enter Tryz.func12, Tryz.ntmps12
      go_wp2_with (go_at_call 16; refine (hp _).mono ?_; rintro e w5 ⟨rfl, hB5⟩)
      go_ret
      exact ⟨rfl, hB5⟩
    · have d1 : (60 : Int) < (n : Int) := by omega
      have d2 : ¬ (n : Int) ≤ 1000 := by omega
      have d3 : (1003 : Int) < (n : Int) := by omega
      go_enter Tryz.func12, Tryz.ntmps12
      go_wp2_with (go_at_call 16; refine (hp _).mono ?_; rintro e w5 ⟨rfl, hB5⟩)
      go_ret
      exact ⟨rfl, hB5⟩
    · have d1 : ¬ (60 : Int) < (n : Int) := by omega
      have d2 : ¬ (1003 : Int) < (n : Int) := by omega
      have d3 : (60 : Int) < (m : Int) := by omega
      have d4 : (m : Int) ≤ 1000 := by omega
      go_enter Tryz.func12, Tryz.ntmps12
      go_wp2_with (go_at_call 16; refine (hp _).mono ?_; rintro e w5 ⟨rfl, hB5⟩)
      go_ret
      exact ⟨rfl, hB5⟩
    · have d1 : ¬ (60 : Int) < (n : Int) := by omega
      have d2 : ¬ (1003 : Int) < (n : Int) := by omega
      have d3 : (60 : Int) < (m : Int) := by omega
      have d4 : ¬ (m : Int) ≤ 1000 := by omega
      have d5 : (1003 : Int) < (m : Int) := by omega
      go_enter Tryz.func12, Tryz.ntmps12
      go_wp2_with (go_at_call 16; refine (hp _).mono ?_; rintro e w5 ⟨rfl, hB5⟩)
      go_ret
      exact ⟨rfl, hB5⟩
    · have d1 : (60 : Int) < (n : Int) := by omega
      have d6 : ¬ (n : Int) ≤ 1000 := by omega
      have d2 : ¬ (1003 : Int) < (n : Int) := by omega
      have d3 : (60 : Int) < (m : Int) := by omega
      have d4 : (m : Int) ≤ 1000 := by omega
      go_enter Tryz.func12, Tryz.ntmps12
      go_wp2_with (go_at_call 16; refine (hp _).mono ?_; rintro e w5 ⟨rfl, hB5⟩)
      go_ret
      exact ⟨rfl, hB5⟩
    · have d1 : (60 : Int) < (n : Int) := by omega
      have d6 : ¬ (n : Int) ≤ 1000 := by omega
      have d2 : ¬ (1003 : Int) < (n : Int) := by omega
      have d3 : (60 : Int) < (m : Int) := by omega
      have d4 : ¬ (m : Int) ≤ 1000 := by omega
      have d5 : (1003 : Int) < (m : Int) := by omega
      go_enter Tryz.func12, Tryz.ntmps12
      go_wp2_with (go_at_call 16; refine (hp _).mono ?_; rintro e w5 ⟨rfl, hB5⟩)
      go_ret
      exact ⟨rfl, hB5⟩
  · have hfail : ∀ (x : Share), x ∈ xs → (1000000000000 < x.pence ∨ x.pence < -1000000000000) → mergeableOf xs = if 1000 < n then 2 else 1 := fun x hx h => by rw [mergeable_bad hx h, hlen.out]
    have Hfail := Lib.hid hfail
    have hn1 : n ≤ 1100 := by omega
    clear hfail
    have q1 := fun W hW => (merge_any a n cap xs W hW).mono fun e w' h => GivesM.x h
    have q2 := fun W hW => (mergeR_any a n cap xs W hW).mono fun e w' h => GivesM.x h
    have q3 := fun W hW hW2 => (change_any a n cap xs b m capB zs W hW hW2).mono fun e w' h => GivesC.x h
    have q4 := fun W hW hW2 => (changeR_any a n cap xs b m capB zs W hW hW2).mono fun e w' h => GivesC.x h
    have hmf := mergeFails_any a n cap xs
    obtain ⟨c1, c2⟩ := hc
    rcases c1 with c1 | ⟨c1, c3⟩ <;> rcases c2 with c2 | ⟨c2, c4⟩
    all_goals
      first | have d1 : ¬ (60 : Int) < (n : Int) := by omega | (have d1 : (60 : Int) < (n : Int) := (by omega); have d6 : ¬ (n : Int) ≤ 1000 := (by omega))
      have d2 : ¬ (1003 : Int) < (n : Int) := by omega
      first | have d3 : ¬ (60 : Int) < (m : Int) := by omega | (have d3 : (60 : Int) < (m : Int) := (by omega); have d5 : ¬ (m : Int) ≤ 1000 := (by omega))
      have d4 : ¬ (1003 : Int) < (m : Int) := by omega
      go_enter Tryz.func12, Tryz.ntmps12
      go_wp2_with (fail)
      go_loop [7] (fun i => ∃ k : Nat, k ≤ n ∧ i = .int .i64 k ∧ Hid (∀ x ∈ xs.take k, -1000000000000 ≤ x.pence ∧ x.pence ≤ 1000000000000)) (fun i => n - (intOf i).toNat)
      case atStart => exact ⟨0, Nat.zero_le _, rfl, Lib.hid (by simp)⟩
      case round =>
        obtain ⟨k, hk, rfl, Ht⟩ := hrel
        by_cases hlt : k < n
        · have hltz : (k : Int) < (n : Int) := by omega
          obtain ⟨x, hx⟩ : ∃ x, xs[k]? = some x := ⟨xs[k]'(by rw [hlen.out]; exact hlt), by simp⟩
          obtain ⟨bb, off, rfl, hbb, hr⟩ := hL.at_ k x hx
          have l1 := hr 1 _ rfl
          have Hx := Lib.hid hx
          clear hr hx
          by_cases e1 : 1000000000000 < x.pence
          · have hmf2 := fun W (hB : RowKit.Below w.heap.size w W) => hmf W (hL.below hB) (Hfail.out x (List.mem_of_getElem? Hx.out) (.inl e1))
            clear q1 q2 q3 q4 hmf
            go_wp2_with (first
              | (go_at_call 16; refine (hp _).mono ?_; rintro e w5 ⟨rfl, hB5⟩)
              | (go_at_call 43; refine (hmf2 _ hB5).mono ?_; rintro e w6 ⟨rfl, hB6⟩))
            go_ret
            exact ⟨rfl, hB5.trans (hB6.mono hB5.size)⟩
          · by_cases e2 : x.pence < -1000000000000
            · have hmf2 := fun W (hB : RowKit.Below w.heap.size w W) => hmf W (hL.below hB) (Hfail.out x (List.mem_of_getElem? Hx.out) (.inr e2))
              clear q1 q2 q3 q4 hmf
              go_wp2_with (first
                | (go_at_call 16; refine (hp _).mono ?_; rintro e w5 ⟨rfl, hB5⟩)
                | (go_at_call 43; refine (hmf2 _ hB5).mono ?_; rintro e w6 ⟨rfl, hB6⟩))
              go_ret
              exact ⟨rfl, hB5.trans (hB6.mono hB5.size)⟩
            · clear q1 q2 q3 q4 hmf
              go_wp2_with (fail)
              go_round
              case rel =>
                refine ⟨k + 1, by omega, by go_num, Lib.hid (fun y hy => ?_)⟩
                obtain ⟨h1, h2⟩ := List.getElem?_eq_some_iff.1 Hx.out
                rw [List.take_succ_eq_append_getElem h1, h2, List.mem_append, List.mem_singleton] at hy
                rcases hy with hy | rfl
                · exact Ht.out y hy
                · exact ⟨by omega, by omega⟩
              case measure => simp [intOf]; omega
        · obtain rfl : k = n := by omega
          have ht := Ht.out
          rw [List.take_of_length_le (by rw [hlen.out]; exact Nat.le_refl _)] at ht
          have Hb := Lib.hid ht
          have s1 : ∀ (av : Option Addr) (n1 c1 : Nat) (bv : Option Addr) (n2 c2 : Nat) (l : List Share) (W : World), Lst W 2 cSh av n1 c1 l → Lst W 2 cSh bv n2 c2 l → Calls Tryz.prog 30 #[.slice av n1 c1, .slice bv n2 c2] W (Gives W (.bool true)) := fun av n1 c1 bv n2 c2 l W h1 h2 => by
            have := sameShares_any av n1 c1 l bv n2 c2 l W h1 h2
            rw [decide_eq_true rfl] at this
            exact this
          obtain ⟨em, hem⟩ : ∃ em, em = mergeableOf xs := ⟨_, rfl⟩
          obtain ⟨ec, hec⟩ : ∃ ec, ec = changeErr xs zs := ⟨_, rfl⟩
          rw [← hem] at q1 q2
          rw [← hec] at q3 q4
          generalize canonM xs = lm at q1 q2
          generalize canonC xs zs = lc at q3 q4
          clear ht Ht hmf Hfail hlt hem hec hcap hle
          go_wp2_with (fail)
          refine (q1 w hL).mono ?_
          rintro e w1 ⟨a1, n1, p1, rfl, hL1, hB1⟩
          go_wp2_with (fail)
          refine (q2 w1 (hL.below hB1)).mono ?_
          rintro e w2 ⟨a2, n2, p2, rfl, hL2, hB2⟩
          have hL1 := hL1.below hB2
          have hB2 := hB1.trans (hB2.mono hB1.size)
          go_wp2_with (fail)
          refine (q3 w2 (hL.below hB2) (hM.below hB2)).mono ?_
          rintro e w3 ⟨a3, n3, p3, rfl, hL3, hB3⟩
          have hL1 := hL1.below hB3
          have hL2 := hL2.below hB3
          have hB3 := hB2.trans (hB3.mono hB2.size)
          go_wp2_with (fail)
          refine (q4 w3 (hL.below hB3) (hM.below hB3)).mono ?_
          rintro e w4 ⟨a4, n4, p4, rfl, hL4, hB4⟩
          have hL1 := hL1.below hB4
          have hL2 := hL2.below hB4
          have hL3 := hL3.below hB4
          have hB4 := hB3.trans (hB4.mono hB3.size)
          clear q1 q2 q3 q4 hB1 hB2 hB3
          go_wp2_with (fail)
          obtain ⟨W5, hW5⟩ : ∃ W5, W5 = w4.alloc (.cells #[.int .i64 0, .int .i64 0, .int .i64 0, .int .i64 0, .int .i64 0, .slice a k cap] 59) := ⟨_, rfl⟩
          rw [← hW5]
          have k5 : Blk W5 w4.heap.size #[.int .i64 0, .int .i64 0, .int .i64 0, .int .i64 0, .int .i64 0, .slice a k cap] 59 := by rw [hW5]; exact Blk.new w4 _ _
          have hz : RowKit.Below w4.heap.size w4 W5 := hW5 ▸ (Below.refl _ w4).alloc (Nat.le_refl _) _
          have hL1 := hL1.below hz
          have hL2 := hL2.below hz
          have hL3 := hL3.below hz
          have hL4 := hL4.below hz
          have hB5 := hB4.trans (hz.mono hB4.size)
          have hL5 := hL.below hB5
          clear hW5 hz hB4
          have c5 := k5.regrown
          have f0 := regrown_call (w := W5) (v := .bool true) (fun W' _ => hp W')
          have f1 := regrown_call (w := W5) (v := .bool true) (fun W' h => s1 a1 n1 p1 a2 n2 p2 lm W' (hL1.below h) (hL2.below h))
          have f2 := regrown_call (w := W5) (v := .bool true) (fun W' h => s1 a3 n3 p3 a4 n4 p4 lc W' (hL3.below h) (hL4.below h))
          have f3 := regrown_call (w := W5) (v := .int .i64 (sumP xs party)) (fun W' h => of_any 0 0 0 0 0 party a k cap xs W' (hL5.below h) hn1 (fun x hx => Hb.out x hx))
          have f4 := regrown_call (w := W5) (v := .int .i64 (sumP xs party)) (fun W' h => ofR_any 0 0 0 0 0 party a k cap xs W' (hL5.below h) (by omega) (fun x hx => Hb.out x hx))
          generalize sumP xs party = sp at f3 f4
          have b1 : (em == em) = true := by simp
          have b2 : (ec == ec) = true := by simp
          have b3 : (sp == sp) = true := by simp
          clear hL1 hL2 hL3 hL4 hL hM hL5 s1 hp k5
          refine wp_region_quiet_below (by kernel_rfl) (by kernel_rfl) ?_
          repeat (go_big_quiet_step (first | with_reducible exact f0 _ _ | with_reducible exact f1 _ _ | with_reducible exact f2 _ _ | with_reducible exact f3 _ _ | with_reducible exact f4 _ _))
          refine wpQuiet_nil ?_
          intro _ hw'
          obtain ⟨⟨dq, osq⟩, hw''⟩ := hw'
          subst hw''
          go_wp2_with (fail)
          go_ret
          exact ⟨rfl, hB5.trans ((below_regrown W5 dq osq).mono hB5.size)⟩

end Go.Proofs.YtollegoajlfdiaaGreat
