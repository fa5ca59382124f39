import Derived.Test.YtkeppoiomjhkpaaGreatDoorPart18
import Derived.Test.YtkeppoiomjhkpaaGreatDoorPart06
import Derived.Test.YtkeppoiomjhkpaaGreatDoorPart13
import Derived.Deep.AppendLies
import Derived.Deep.RegionHeld3
import Derived.Test.YtkeppoiomjhkpaaGreatDoorPart09
import Derived.Test.YtkeppoiomjhkpaaGreatDoorPart07
/-
  Walk: why the reference refuses a record behind others.
-/
namespace Go.Proofs.YtkeppoiomjhkpaaGreatDoor
open Go.RowKit Lg Go.Sort Go.Shelf

theorem any_take_snoc {α : Type} (p : α → Bool) (l : List α) (k : Nat) (x : α) (h : l[k]? = some x) : (l.take (k + 1)).any p = ((l.take k).any p || p x) := by
  obtain ⟨h1, h2⟩ := List.getElem?_eq_some_iff.1 h
  rw [List.take_succ_eq_append_getElem h1, h2, List.any_append]
  simp

set_option maxRecDepth 100000 in
set_option maxHeartbeats 6400000 in
theorem headedR_any (a : Option Addr) (n cap : Nat) (hs : List Head) (h : Head) (w : World) (hL : Lst w 3 cH a n cap hs) :
    Calls Tryz.prog 44 #[.slice a n cap, aH h] w (Gives w (.int .i64 (headedOf hs h))) := by
  have hm : cap ≤ 9223372036854775807 := by have := hL.max; unfold maxLen at this; omega
  have hle := hL.le
  have hlen := Lib.hid hL.len
  obtain ⟨q, hq⟩ : ∃ q, q = headedOf hs h := ⟨_, rfl⟩
  rw [← hq]
  unfold headedOf at hq
  have Hq := Lib.hid hq; clear hq
  obtain ⟨W0, hW0⟩ : ∃ W0, W0 = w.alloc (.cells #[.int .i64 h.id, .int .i64 h.known, .int .i64 h.of_] 85) := ⟨_, rfl⟩
  have k0 : Blk W0 w.heap.size #[.int .i64 h.id, .int .i64 h.known, .int .i64 h.of_] 85 := by rw [hW0]; exact Blk.new w _ _
  have hB0 : RowKit.Below w.heap.size w W0 := hW0 ▸ (Below.refl _ w).alloc (Nat.le_refl _) _
  have hL := hL.below hB0
  go_enter Tryz.func44, Tryz.ntmps44
  go_wp2_with (fail)
  rw [← hW0]
  clear hW0
  go_loopw [5, 6, 7] (fun nm tw i wr => ∃ k : Nat, k ≤ n ∧ i = .int .i64 k ∧ nm = .bool ((hs.take k).any fun y => decide (y.id = h.of_) && decide (y.of_ = 0)) ∧ tw = .bool ((hs.take k).any fun y => decide (y.of_ = h.of_)) ∧ RowKit.Below W0.heap.size W0 wr ∧ Hid ((hs.take k).any (fun y => decide (y.id = h.id)) = false)) (fun _ _ i _ => n - (intOf i).toNat)
  case atStart => exact ⟨0, Nat.zero_le _, rfl, by simp, by simp, Below.refl _ _, Lib.hid (by simp)⟩
  case round =>
    obtain ⟨k, hk, rfl, rfl, rfl, hB, Ht⟩ := hrel
    have k0 := k0.below' hB
    have hBw := hB0.trans (hB.mono hB0.size)
    have c0 := k0.cell
    by_cases hlt : k < n
    · have hltz : (k : Int) < (n : Int) := by omega
      obtain ⟨v, hv⟩ : ∃ v, hs[k]? = some v := ⟨hs[k]'(by rw [hlen.out]; exact hlt), by simp⟩
      obtain ⟨bb, off, rfl, hbb, hr⟩ := hL.at_ k v hv
      have m0 := rangeAt_below hB hbb hr 0 _ rfl
      have m2 := rangeAt_below hB hbb hr 2 _ rfl
      simp only [Nat.add_zero] at m0
      have hs1 := any_take_snoc (fun y => decide (y.id = h.id)) hs k v hv
      have hs2 := any_take_snoc (fun y => decide (y.id = h.of_) && decide (y.of_ = 0)) hs k v hv
      have hs3 := any_take_snoc (fun y => decide (y.of_ = h.of_)) hs k v hv
      rw [Ht.out, Bool.false_or] at hs1
      have hbad : v.id = h.id → q = 6 := fun e => by
        rw [Hq.out, if_pos (List.any_eq_true.2 ⟨v, List.mem_of_getElem? hv, by simpa using e⟩)]
      have Hs1 := Lib.hid hs1
      have Hs2 := Lib.hid hs2
      have Hs3 := Lib.hid hs3
      have Hbad := Lib.hid hbad
      have hfin : ∀ d, RowKit.Below W0.heap.size W0 (wr.drewN d) := fun d => below_drewN' hB d
      have Hfin := Lib.hid hfin
      clear hv hr hs1 hs2 hs3 hbad hfin
      by_cases e1 : v.id = h.id
      · have g1 : (v.id == h.id) = true := by simpa using e1
        have hq := Hbad.out e1
        have E1 := Lib.hid e1; clear e1
        subst hq
        go_wp2
        go_quiet (fail)
        go_wp2
        go_ret
        exact ⟨rfl, below_drewN' hBw _⟩
      · have g1 : (v.id == h.id) = false := by simpa using e1
        have E1 := Lib.hid e1; clear e1
        generalize ((hs.take k).any fun y => decide (y.id = h.of_) && decide (y.of_ = 0)) = nb at *
        generalize ((hs.take k).any fun y => decide (y.of_ = h.of_)) = tb at *
        have hA : (v.of_ = 0 ∧ v.id = h.of_) ∨ (v.of_ = 0 ∧ v.id ≠ h.of_) ∨ v.of_ ≠ 0 := by omega
        cases nb <;> cases tb <;> by_cases e3 : v.of_ = h.of_ <;> rcases hA with ⟨e4, e5⟩ | ⟨e4, e5⟩ | e4
        all_goals
          first | have f1 : (v.of_ == 0) = true := by simpa using e4 | have f1 : (v.of_ == 0) = false := by simpa using e4
          first | have f2 : (v.id == h.of_) = true := by simpa using e5 | have f2 : (v.id == h.of_) = false := by simpa using e5 | skip
          first | have f3 : (v.of_ == h.of_) = true := by simpa using e3 | have f3 : (v.of_ == h.of_) = false := by simpa using e3
          have E3 := Lib.hid e3
          have E4 := Lib.hid e4
          first | have E5 := Lib.hid e5 | have E5 := Lib.hid trivial
          clear e3 e4
          try clear e5
          as_aux_lemma =>
            go_wp2
            go_quiet (fail)
            go_wp2
            go_quiet (fail)
            go_wp2
            go_quiet (fail)
            go_wp2
            go_roundw
            case rel =>
              refine ⟨k + 1, by omega, by go_num, ?_, ?_, ?_, Lib.hid (by rw [Hs1.out]; simpa using E1.out)⟩
              · rw [Hs2.out]; simp [E4.out, E5.out]
              · rw [Hs3.out]; simp [E3.out]
              · first | exact Hfin.out _ | exact below_drewN' (below_drewN' (below_drewN' hB _) _) _
            case measure => simp [intOf]; omega
    · obtain rfl : k = n := by omega
      have hz : ¬ (k : Int) < (k : Int) := by omega
      have ht := Ht.out
      rw [List.take_of_length_le (by rw [hlen.out]; exact Nat.le_refl _)] at ht ⊢
      have hq := Hq.out
      rw [ht] at hq
      simp only [Bool.false_eq_true, if_false] at hq
      have Hq2 := Lib.hid hq
      clear ht hq Hq hlt
      generalize (hs.any fun y => decide (y.id = h.of_) && decide (y.of_ = 0)) = nb at *
      generalize (hs.any fun y => decide (y.of_ = h.of_)) = tb at *
      have hlast : (k = 0 ∧ q = (if h.of_ = 0 then 0 else if (!nb) = true then 5 else if tb = true then 6 else 0)) ∨ (0 < k ∧ ∃ y : Head, y.known > h.known ∧ q = 7 ∧ wr.cell? ⟨(a.getD ⟨0, 0, none⟩).block, (a.getD ⟨0, 0, none⟩).off + (k - 1) * 3 + 1, none⟩ = some (.int .i64 y.known) ∧ ∃ b o, a = some ⟨b, o, none⟩) ∨
          (0 < k ∧ ∃ y : Head, ¬ h.known < y.known ∧ q = (if h.of_ = 0 then 0 else if (!nb) = true then 5 else if tb = true then 6 else 0) ∧ wr.cell? ⟨(a.getD ⟨0, 0, none⟩).block, (a.getD ⟨0, 0, none⟩).off + (k - 1) * 3 + 1, none⟩ = some (.int .i64 y.known) ∧ ∃ b o, a = some ⟨b, o, none⟩) := by
        have hq := Hq2.out
        by_cases hk0 : k = 0
        · have hn : hs = [] := List.eq_nil_of_length_eq_zero (by rw [hlen.out]; exact hk0)
          subst hn
          simp only [List.getLast?_nil, Bool.false_eq_true, if_false] at hq
          exact .inl ⟨hk0, hq⟩
        · obtain ⟨y, hy⟩ : ∃ y, hs[k - 1]? = some y := ⟨hs[k - 1]'(by rw [hlen.out]; omega), by simp⟩
          obtain ⟨bb, off, rfl, hbb, hr⟩ := hL.at_ _ y hy
          have m1 := rangeAt_below hB hbb hr 1 _ rfl
          have hg : hs.getLast? = some y := by rw [List.getLast?_eq_getElem?, hlen.out]; exact hy
          rw [hg] at hq
          dsimp only at hq
          by_cases e : h.known < y.known
          · rw [if_pos (by simpa using e)] at hq
            exact .inr (.inl ⟨by omega, y, e, hq, m1, _, _, rfl⟩)
          · rw [if_neg (by simpa using e)] at hq
            exact .inr (.inr ⟨by omega, y, e, hq, m1, _, _, rfl⟩)
      clear hL Hq2 k0
      have hBf := fun d => below_drewN' hBw d
      have HBf := Lib.hid hBf
      clear hBf
      rcases hlast with ⟨hk0, hq⟩ | ⟨hk0, y, e1, hq, m1, bb, off, rfl⟩ | ⟨hk0, y, e1, hq, m1, bb, off, rfl⟩
      · subst hk0
        have HQ := Lib.hid hq
        clear hq
        by_cases e0 : h.of_ = 0
        · have f0 : (h.of_ == 0) = true := by simpa using e0
          have E0 := Lib.hid e0; clear e0
          go_wp2
          go_quiet (fail)
          go_wp2
          go_ret
          exact ⟨by rw [HQ.out, if_pos E0.out]; rfl, HBf.out _⟩
        · have f0 : (h.of_ == 0) = false := by simpa using e0
          have E0 := Lib.hid e0; clear e0
          cases nb <;> cases tb
          all_goals
            go_wp2
            go_quiet (fail)
            go_wp2
            go_ret
            exact ⟨by rw [HQ.out, if_neg E0.out]; rfl, HBf.out _⟩
      · subst hq
        simp only [Option.getD_some] at m1
        have u1 : IntKind.i64.wrap ((k : Int) - 1) = (k : Int) - 1 := by rw [IntKind.wrap_i64]; omega
        have u2 : (0 : Int) ≤ (k : Int) - 1 := by omega
        have u3 : (k : Int) - 1 < (k : Int) := by omega
        have u4 : ((k : Int) - 1).toNat = k - 1 := by omega
        have u5 : (0 : Int) < (k : Int) := by omega
        have u6 : decide (h.known < y.known) = true := decide_eq_true e1
        go_wp2
        go_quiet (fail)
        go_wp2
        go_ret
        exact ⟨rfl, HBf.out _⟩
      · have HQ := Lib.hid hq
        clear hq
        simp only [Option.getD_some] at m1
        have u1 : IntKind.i64.wrap ((k : Int) - 1) = (k : Int) - 1 := by rw [IntKind.wrap_i64]; omega
        have u2 : (0 : Int) ≤ (k : Int) - 1 := by omega
        have u3 : (k : Int) - 1 < (k : Int) := by omega
        have u4 : ((k : Int) - 1).toNat = k - 1 := by omega
        have u5 : (0 : Int) < (k : Int) := by omega
        have u6 : decide (h.known < y.known) = false := decide_eq_false e1
        by_cases e0 : h.of_ = 0
        · have f0 : (h.of_ == 0) = true := by simpa using e0
          have E0 := Lib.hid e0; clear e0
          go_wp2
          go_quiet (fail)
          go_wp2
          go_ret
          exact ⟨by rw [HQ.out, if_pos E0.out]; rfl, HBf.out _⟩
        · have f0 : (h.of_ == 0) = false := by simpa using e0
          have E0 := Lib.hid e0; clear e0
          cases nb <;> cases tb
          all_goals
            go_wp2
            go_quiet (fail)
            go_wp2
            go_ret
            exact ⟨by rw [HQ.out, if_neg E0.out]; rfl, HBf.out _⟩

end Go.Proofs.YtkeppoiomjhkpaaGreatDoor

/-
  Walks: the first record that the reference refuses.
-/
namespace Go.Proofs.YtkeppoiomjhkpaaGreatDoor
open Go.RowKit Lg Go.Sort Go.Shelf

set_option maxRecDepth 100000 in
set_option maxHeartbeats 3200000 in
theorem checkRatesR_any (a : Option Addr) (n cap : Nat) (xs : List Rate) (w : World) (hn : n ≤ 300) (hL : Lst w 9 cR a n cap xs) :
    Calls Tryz.prog 20 #[.slice a n cap] w (Gives w (.tuple #[.int .i64 (checkRates xs).1, .int .i64 (checkRates xs).2])) := by
  have hm : cap ≤ 9223372036854775807 := by have := hL.max; unfold maxLen at this; omega
  have hle := hL.le
  have hlen := Lib.hid hL.len
  have hC := fun (x : Rate) W => checkRateR_any x W
  have hRt := fun W (h : RowKit.Below w.heap.size w W) => ratesR_any a n cap xs W hn (hL.below h)
  have HC := Lib.hid hC
  have HRt := Lib.hid hRt
  clear hC hRt
  go_enter Tryz.func20, Tryz.ntmps20
  go_wp2
  go_loopw [4] (fun i wr => ∃ k : Nat, k ≤ n ∧ k ≤ 100 ∧ i = .int .i64 k ∧ RowKit.Below w.heap.size w wr ∧ Hid (checkRates xs = chkFrom followsR (xs.take k) (xs.drop k))) (fun i _ => n - (intOf i).toNat)
  case atStart => exact ⟨0, Nat.zero_le _, by omega, rfl, Below.refl _ _, Lib.hid rfl⟩
  case round =>
    obtain ⟨k, hk, hk100, rfl, hB, H0⟩ := hrel
    by_cases hlt : k < n
    · have hltz : (k : Int) < (n : Int) := by omega
      obtain ⟨x, hx⟩ : ∃ x, xs[k]? = some x := ⟨xs[k]'(by rw [hlen.out]; exact hlt), by simp⟩
      obtain ⟨b, off, rfl, hb, hr⟩ := hL.at_ k x hx
      have hr' := rangeAt_below hB hb hr
      have hdrop : xs.drop k = x :: xs.drop (k + 1) := by
        obtain ⟨h1, h2⟩ := List.getElem?_eq_some_iff.1 hx
        rw [← h2, List.drop_eq_getElem_cons h1]
      have htake : xs.take (k + 1) = xs.take k ++ [x] := by
        obtain ⟨h1, h2⟩ := List.getElem?_eq_some_iff.1 hx
        rw [List.take_succ_eq_append_getElem h1, h2]
      have hlt2 : (xs.take k).length = k := by rw [List.length_take, hlen.out]; omega
      obtain ⟨v, hv⟩ : ∃ v, v = followsR (xs.take k) x := ⟨_, rfl⟩
      have hstep : checkRates xs = if v = 0 then chkFrom followsR (xs.take (k + 1)) (xs.drop (k + 1)) else ((k : Int), v) := by
        rw [H0.out, hdrop, chkFrom, ← hv, htake, hlt2]
      rw [followsR_headed, hlt2] at hv
      have hCx := HC.out x
      have hhx : (xs.map Rate.head)[k]? = some x.head := by rw [List.getElem?_map, hx]; rfl
      have htk : (xs.take k).map Rate.head = (xs.map Rate.head).take k := List.map_take
      rw [htk] at hv
      have Hs := Lib.hid hstep; clear hstep hdrop htake hx H0 htk
      by_cases h100 : k = 100
      · rw [if_pos (by omega)] at hv
        have hs := Hs.out
        rw [if_neg (by omega), hv] at hs
        have Hs2 := Lib.hid hs
        have g0 : ((k : Int) == 100) = true := by simp; omega
        clear hs Hs hv hhx h100 hr hr'
        go_wp2_with (fail)
        go_ret2
        exact ⟨by rw [Hs2.out]; rfl, hB⟩
      · have g0 : ((k : Int) == 100) = false := by simp; omega
        have hk99 : k < 100 := by omega
        rw [if_neg (by omega)] at hv
        cases hok : rateOk x with
        | false =>
          rw [hok] at hv hCx
          simp only [Bool.not_false, if_true] at hv
          simp only [Bool.false_eq_true, if_false] at hCx
          have hs := Hs.out
          rw [hv, if_neg (by omega)] at hs
          have Hs2 := Lib.hid hs
          clear hs Hs hv hhx h100 hr hok
          go_wp2_with (first
            | (refine wpList_load_mid rfl 43 _ rfl b (off + k * 9) rfl (cR x) _ hr' Tryz.underlying43 rfl (by kernel_rfl) ?_)
            | fail)
          refine (hCx wr).mono ?_
          rintro e w3 ⟨rfl, hB3⟩
          go_wp2_with (fail)
          go_ret2
          exact ⟨by rw [Hs2.out]; rfl, hB.trans (hB3.mono hB.size)⟩
        | true =>
          rw [hok] at hv hCx
          simp only [Bool.not_true, Bool.false_eq_true, if_false] at hv
          simp only [if_true] at hCx
          have hhead := fun (a' : Option Addr) (n' cap' : Nat) W (h : Lst W 3 cH a' n' cap' ((xs.map Rate.head).take k)) => headedR_any a' n' cap' ((xs.map Rate.head).take k) x.head W h
          rw [← hv] at hhead
          have Hh := Lib.hid hhead
          have Hhx := Lib.hid hhx
          clear hv hhx hr hok h100 hhead
          go_wp2_with (first
            | (refine wpList_load_mid rfl 43 _ rfl b (off + k * 9) rfl (cR x) _ hr' Tryz.underlying43 rfl (by kernel_rfl) ?_)
            | fail)
          refine (hCx wr).mono ?_
          rintro e w3 ⟨rfl, hB3⟩
          have hB3 := hB.trans (hB3.mono hB.size)
          go_wp2_with (fail)
          refine (HRt.out w3 hB3).mono ?_
          rintro e w4 ⟨ah, ch, rfl, hLh, hB4⟩
          have hB4 := hB3.trans (hB4.mono hB3.size)
          obtain ⟨bh, oh, rfl, hbh, hrh⟩ := hLh.at_ k _ Hhx.out
          have hmh : ch ≤ 9223372036854775807 := by have := hLh.max; unfold maxLen at this; omega
          have hlh := hLh.le
          have c0 := cell_regrown (hrh 0 _ rfl)
          have c1 := cell_regrown (hrh 1 _ rfl)
          have c2 := cell_regrown (hrh 2 _ rfl)
          simp only [Nat.add_zero] at c0
          have cF := regrown_call (w := w4) (v := .int .i64 v) (fun W' h => Hh.out _ k ch W' ((hLh.below h).pre k (by omega)))
          have hkz : (0 : Int) ≤ (k : Int) := by omega
          have hkn : (k : Int) ≤ (n : Int) := by omega
          have hkc : (k : Int) ≤ (ch : Int) := by omega
          clear hrh hLh hr' hCx
          go_wp2_with (fail)
          refine wp_region_quiet_below (by kernel_rfl) (by kernel_rfl) ?_
          repeat (go_big_quiet_step (with_reducible exact cF _ _))
          refine wpQuiet_nil ?_
          intro _ hw'
          obtain ⟨⟨dq, osq⟩, hw''⟩ := hw'
          subst hw''
          have hBn := hB4.trans ((below_regrown w4 dq osq).mono hB4.size)
          clear c0 c1 c2 cF
          by_cases hv0 : v = 0
          · subst hv0
            have hs2 := Hs.out
            rw [if_pos rfl] at hs2
            have Hs2 := Lib.hid hs2; clear hs2
            go_wp2_with (fail)
            go_roundw
            case rel => exact ⟨k + 1, by omega, by omega, by go_num, hBn, Hs2⟩
            case measure => simp [intOf]; omega
          · have hs2 := Hs.out
            rw [if_neg hv0] at hs2
            have Hs2 := Lib.hid hs2; clear hs2
            have g1 : (v != 0) = true := by simpa using hv0
            go_wp2_with (fail)
            go_ret2
            exact ⟨by rw [Hs2.out]; rfl, hBn⟩
    · obtain rfl : k = n := by omega
      have h0 := H0.out
      rw [List.drop_eq_nil_of_le (by rw [hlen.out]; exact Nat.le_refl _)] at h0
      have H1 := Lib.hid h0
      clear h0 H0
      go_wp2_with (fail)
      go_ret2
      exact ⟨by rw [H1.out]; rfl, hB⟩

end Go.Proofs.YtkeppoiomjhkpaaGreatDoor

/-
  Walk: a copy of a list of rates, wherever it lies.
-/
namespace Go.Proofs.YtkeppoiomjhkpaaGreatDoor
open Go.RowKit Lg Go.Sort Go.Shelf

set_option maxRecDepth 100000 in
theorem cloneR0_any (a : Option Addr) (n cap : Nat) (xs : List Rate) (w : World) (hn : n ≤ 1000) (hL : Lst w 9 cR a n cap xs) :
    Calls Tryz.prog 59 #[.slice a n cap] w fun e w' => ∃ v', e = .returned v' ∧ w'.ownsRow w.heap.size 43 9 v' n (xs.flatMap cR) ∧ RowKit.Below w.heap.size w w' := by
  obtain ⟨i0, hi0, hz0, hz1, hz2⟩ := info_parts infoR
  cases a with
  | none => exact cloneR_any none n cap xs w (fun ad h => (by cases h)) hn hL
  | some ad =>
    have ho : (w.alloc (.cells #[] 43)).ownsRow w.heap.size 43 9 (.slice (some ⟨w.heap.size, 0, none⟩) 0 0) 0 [] := World.ownsRow_made w #[] 0 (Nat.le_refl _) (Nat.zero_le _) rfl
    have hB : RowKit.Below w.heap.size w (w.alloc (.cells #[] 43)) := (Below.refl _ w).alloc (Nat.le_refl _) _
    have hL2 := hL.below hB
    have hnil : ∀ w : World, (binOp .eql 39 (.slice (some ad) n cap) (.slice none 0 0)).run Tryz.prog w = .ok (.bool false) w := fun w => Lib.run_eql_slice_nil w 39 43 (some ad) n cap 0 0 Tryz.underlying39
    go_enter Tryz.func59, Tryz.ntmps59
    go_wp2_with (first
      | (at_builtin; refine wpList_append_list rfl _ _ _ rfl w.heap.size 43 i0 _ 9 80 Tryz.underlying39 hi0 hz0 hz1 hz2 rfl (by omega) _ 0 [] rfl ho cR (fun _ => rfl) cR_one (some ad) n cap xs rfl hL2 (by unfold maxLen; omega) (by omega) (by simp) ?_; intro v1 w1 hown1 hgrow1)
      | fail)
    go_ret
    rw [List.nil_append, Nat.zero_add] at hown1
    exact ⟨_, rfl, hown1, below_of_grown hB (Nat.le_refl _) hgrow1 (fun r h => by cases h; exact Nat.le_refl _)⟩

set_option maxRecDepth 100000 in
set_option maxHeartbeats 1600000 in
theorem appendRate0_any (a : Option Addr) (n cap : Nat) (xs : List Rate) (x : Rate) (w : World) (hL : Lst w 9 cR a n cap xs) :
    Calls Tryz.prog 21 #[.slice a n cap, aR x] w (GivesL w 43 9 cR (appendRate xs x).1 (appendRate xs x).2) := by
  obtain ⟨r, hr⟩ : ∃ r, r = appendRate xs x := ⟨_, rfl⟩
  rw [← hr]
  obtain ⟨c, hc⟩ : ∃ c, c = checkRates xs := ⟨_, rfl⟩
  obtain ⟨f, hf⟩ : ∃ f, f = followsR xs x := ⟨_, rfl⟩
  have hcr := fun W hW => checkRates_any a n cap xs W hW
  have hfr := fun W hW => followsR_any a n cap xs x W hW
  have hlim : f = 0 → n ≤ 1000 := by
    intro h0; rw [hf, followsR_eq] at h0
    by_cases h : 100 ≤ xs.length
    · rw [if_pos h] at h0; cases h0
    · rw [hL.len] at h; omega
  rw [← hc] at hcr
  rw [← hf] at hfr
  have Hr : Hid (r = if c.2 = 0 then (if f = 0 then (xs ++ [x], 0) else ([], f)) else ([], c.2)) := Lib.hid (by rw [hr, hc, hf]; rfl)
  clear hr hc hf
  obtain ⟨c1, c2⟩ := c
  have hB1 : RowKit.Below w.heap.size w (w.alloc (.cells #[.int .i64 x.id, .int .i64 x.known, .int .i64 x.from_, .string x.goods, .int .i64 x.finder.num, .int .i64 x.finder.den, .int .i64 x.cart, .int .i64 x.store, .int .i64 x.of_] 43)) := (Below.refl _ w).alloc (Nat.le_refl _) _
  have hcr1 := hcr _ (hL.below hB1)
  clear hcr
  go_enter Tryz.func21, Tryz.ntmps21
  go_wp2_with (fail)
  refine hcr1.mono ?_
  clear hcr1
  rintro e w2 ⟨rfl, hB2⟩
  have k2 : Blk w2 w.heap.size #[.int .i64 x.id, .int .i64 x.known, .int .i64 x.from_, .string x.goods, .int .i64 x.finder.num, .int .i64 x.finder.den, .int .i64 x.cart, .int .i64 x.store, .int .i64 x.of_] 43 := (Blk.new w _ _).below' hB2
  have hb2 : RowKit.Below w.heap.size w w2 := hB1.trans (hB2.mono hB1.size)
  have e2 := k2.cell
  by_cases hv0 : c2 = 0
  · subst hv0
    go_wp2_with (fail)
    refine (hfr w2 (hL.below hb2)).mono ?_
    clear hfr
    rintro e w3 ⟨rfl, hB3⟩
    have k3 := k2.below' hB3
    have hb3 := hb2.trans (hB3.mono hb2.size)
    clear e2
    have e3 := k3.cell
    by_cases hf0 : f = 0
    · have hn := hlim hf0
      subst hf0
      go_wp2_with (fail)
      have hL3 := hL.below hb3
      obtain ⟨i0, hi0, hz0, hz1, hz2⟩ := info_parts infoR
      have hS3 : ApS w x w3 := ⟨k3, hb3⟩
      have hlt3 := k3.lt
      clear e3
      go_region_held3 (fun w' => (∀ j, w'.cell? ⟨w.heap.size, j, none⟩ = #[.int .i64 x.id, .int .i64 x.known, .int .i64 x.from_, .string x.goods, .int .i64 x.finder.num, .int .i64 x.finder.den, .int .i64 x.cart, .int .i64 x.store, .int .i64 x.of_][j]?) ∧ ApS w x w')
        (first
          | exact ApS.all hS3 (Below.refl _ _).drew
          | exact ApS.all hS3 ((Below.refl _ w3).drew.trans hBc)
          | exact ApS.all hS3 (((Below.refl _ w3).alloc (Nat.le_refl _) _).drew)
          | exact ApS.all hS3 ((((Below.refl _ w3).alloc (Nat.le_refl _) _).drew).trans (hBc.mono (by simp)))
          | exact ApS.all hS3 (((Below.refl _ w3).drew.trans hBc).alloc hBc.size _)
          | exact ApS.grown ((ApS.all hS3 (((Below.refl _ w3).drew.trans hBc).alloc hBc.size _)).2) hgrow (fun r e => Nat.lt_of_lt_of_le hlt3 (own_ge ho r e))
          | exact ApS.grown ((ApS.all hS3 ((((Below.refl _ w3).alloc (Nat.le_refl _) _).drew).trans (hBc.mono (by simp)))).2) hgrow (fun r e => Nat.lt_of_lt_of_le (ap_lt hlt3 _) (own_ge ho r e))
          | fail)
        (first
          | (go_at_call 59; refine (cloneR0_any a n cap xs _ hn (by first | exact hL3.below (Below.refl _ _).drew | exact hL3.below ((Below.refl _ w3).alloc (Nat.le_refl _) _).drew)).mono ?_; rintro e w4 ⟨v4, rfl, ho, hBc⟩)
          | (refine step_append_lies _ (by rfl) _ _ _ (by rfl) w3.heap.size 43 i0 _ 9 80 Tryz.underlying39 hi0 hz0 hz1 hz2 rfl (by omega) v4 n (xs.flatMap cR) (by rfl) (ho.alloc _)
              ⟨w4.heap.size, 0, none⟩ 1 1 (cR x) (by rfl) (by rfl) (World.news_of_block (cs := (cR x).toArray) (t := 43) (fr := (0, 0)) (heap_alloc_new w4 _)) (cR_one x)
              (by omega) (by unfold maxLen; omega) (by omega) (ap_base1 hBc _) (w4.heap.size + 1) (by simp) ?_; intro gg cap1 w5 hown5 hgrow hat hlt)
          | (refine step_append_lies _ (by rfl) _ _ _ (by rfl) w3.heap.size 43 i0 _ 9 80 Tryz.underlying39 hi0 hz0 hz1 hz2 rfl (by omega) v4 n (xs.flatMap cR) (by rfl) (ownsRow_base_a ho (by simp))
              ⟨w3.heap.size, 0, none⟩ 1 1 (cR x) (by rfl) (by rfl) (World.news_of_block ((Blk.drew (Blk.new w3 43 (cR x).toArray)).below' hBc)) (cR_one x)
              (by omega) (by unfold maxLen; omega) (by omega) (ap_base2 hBc) _ rfl ?_; intro gg cap1 w5 hown5 hgrow hat hlt)
          | fail)
      · have hf := (ApS.grown ((ApS.all hS3 (((Below.refl _ w3).drew.trans hBc).alloc hBc.size _)).2) hgrow (fun r e => Nat.lt_of_lt_of_le hlt3 (own_ge ho r e))).2.2
        go_wp2_with (fail)
        go_ret2
        have e := Hr.out
        simp only [if_true] at e
        rw [e]
        refine ⟨_, rfl, ?_, hf⟩
        rw [List.length_append, hL.len, List.flatMap_append, List.flatMap_singleton]
        exact ownsRow_base_a hown5 (Nat.le_of_lt hlt3)
      · have hf := (ApS.grown ((ApS.all hS3 ((((Below.refl _ w3).alloc (Nat.le_refl _) _).drew).trans (hBc.mono (by simp)))).2) hgrow (fun r e => Nat.lt_of_lt_of_le (ap_lt hlt3 _) (own_ge ho r e))).2.2
        go_wp2_with (fail)
        go_ret2
        have e := Hr.out
        simp only [if_true] at e
        rw [e]
        refine ⟨_, rfl, ?_, hf⟩
        rw [List.length_append, hL.len, List.flatMap_append, List.flatMap_singleton]
        exact ownsRow_base_a hown5 (Nat.le_of_lt hlt3)
    · have g0 : (f != 0) = true := by simpa using hf0
      have Hf0 := Lib.hid hf0; clear hf0
      go_wp2_with (fail)
      go_ret2
      have e := Hr.out
      simp only [if_true, if_neg Hf0.out] at e
      rw [e]
      exact GivesL.nil hb3
  · have g0 : (c2 != 0) = true := by simpa using hv0
    have Hv0 := Lib.hid hv0; clear hv0
    go_wp2_with (fail)
    go_ret2
    have e := Hr.out
    rw [if_neg Hv0.out] at e
    rw [e]
    exact GivesL.nil hb2


end Go.Proofs.YtkeppoiomjhkpaaGreatDoor
