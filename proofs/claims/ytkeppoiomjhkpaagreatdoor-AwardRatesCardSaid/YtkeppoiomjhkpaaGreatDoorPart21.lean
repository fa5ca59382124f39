import Derived.Test.YtkeppoiomjhkpaaGreatDoorPart06
import Derived.Test.YtkeppoiomjhkpaaGreatDoorPart19
/-
  Walks: the first sale that the reference refuses.
-/
namespace Go.Proofs.YtkeppoiomjhkpaaGreatDoor
open Go.RowKit Lg Go.Sort Go.Shelf

theorem soldIn_any (l : List Sale) (p known : Int) : (soldIn l p known).isSome = l.any (fun y => decide (y.parcel = p) && counts (l.map Sale.head) known y.head) := by
  rw [Bool.eq_iff_iff]
  unfold soldIn cntS
  rw [List.find?_isSome, List.any_eq_true]
  constructor
  · rintro ⟨y, hy, hp⟩
    obtain ⟨h1, h2⟩ := List.mem_filter.1 hy
    exact ⟨y, h1, by rw [Bool.and_eq_true]; exact ⟨by simpa using hp, h2⟩⟩
  · rintro ⟨y, hy, hp⟩
    rw [Bool.and_eq_true] at hp
    exact ⟨y, List.mem_filter.2 ⟨hy, hp.2⟩, by simpa using hp.1⟩

set_option maxRecDepth 100000 in
set_option maxHeartbeats 6400000 in
theorem checkSalesR_any (a : Option Addr) (n cap : Nat) (xs : List Sale) (w : World) (hn : n ≤ 300) (hL : Lst w 9 cS a n cap xs) :
    Calls Tryz.prog 8 #[.slice a n cap] w (Gives w (.tuple #[.int .i64 (checkSales xs).1, .int .i64 (checkSales xs).2])) := by
  have hm : cap ≤ 9223372036854775807 := by have := hL.max; unfold maxLen at this; omega
  have hle := hL.le
  have hlen := Lib.hid hL.len
  have HC := Lib.hid (fun (x : Sale) W => checkSaleR_any x W)
  have HSl := Lib.hid (fun (k : Nat) (hk : k ≤ n) W (h : RowKit.Below w.heap.size w W) => salesR_any a k cap (xs.take k) W (by omega) ((hL.below h).pre k hk))
  go_enter Tryz.func8, Tryz.ntmps8
  go_wp2
  go_loopw [4] (fun i wr => ∃ k : Nat, k ≤ n ∧ k ≤ 200 ∧ i = .int .i64 k ∧ RowKit.Below w.heap.size w wr ∧ Hid (checkSales xs = chkFrom sellsS (xs.take k) (xs.drop k))) (fun i _ => n - (intOf i).toNat)
  case atStart => exact ⟨0, Nat.zero_le _, by omega, rfl, Below.refl _ _, Lib.hid rfl⟩
  case round =>
    obtain ⟨k, hk, hk200, rfl, hB, H0⟩ := hrel
    by_cases hlt : k < n
    · have hltz : (k : Int) < (n : Int) := by omega
      obtain ⟨x, hx⟩ : ∃ x, xs[k]? = some x := ⟨xs[k]'(by rw [hlen.out]; exact hlt), by simp⟩
      obtain ⟨b, off, rfl, hb, hr⟩ := hL.at_ k x hx
      have hr0 := hr
      have hr' := rangeAt_below hB hb hr
      have hdrop : xs.drop k = x :: xs.drop (k + 1) := by
        obtain ⟨h1, h2⟩ := List.getElem?_eq_some_iff.1 hx
        rw [← h2, List.drop_eq_getElem_cons h1]
      have htake : xs.take (k + 1) = xs.take k ++ [x] := by
        obtain ⟨h1, h2⟩ := List.getElem?_eq_some_iff.1 hx
        rw [List.take_succ_eq_append_getElem h1, h2]
      have hlt2 : (xs.take k).length = k := by rw [List.length_take, hlen.out]; omega
      obtain ⟨v, hv⟩ : ∃ v, v = followsS (xs.take k) x := ⟨_, rfl⟩
      obtain ⟨sv, hsv⟩ : ∃ sv, sv = sellsS (xs.take k) x := ⟨_, rfl⟩
      have hstep : checkSales xs = if sv = 0 then chkFrom sellsS (xs.take (k + 1)) (xs.drop (k + 1)) else ((k : Int), sv) := by
        rw [H0.out, hdrop, chkFrom, ← hsv, htake, hlt2]
      have hsv2 : sv = if v = 0 then (if ((xs.take k).any (fun y => decide (y.parcel = x.parcel) && counts ((xs.take k).map Sale.head) x.known y.head)) && decide (x.of_ = 0) then 61 else 0) else v := by
        rw [hsv]; unfold sellsS; rw [← hv, soldIn_any]
      rw [followsS_headed, hlt2] at hv
      have hCx := HC.out x
      have hhx : ((xs.take (k + 1)).map Sale.head)[k]? = some x.head := by rw [List.getElem?_map, List.getElem?_take_of_lt (by omega), hx]; rfl
      have hht : ((xs.take (k + 1)).map Sale.head).take k = (xs.take k).map Sale.head := by rw [← List.map_take, List.take_take, Nat.min_eq_left (by omega)]
      have Hs := Lib.hid hstep
      have Hsv := Lib.hid hsv2
      have Hhx := Lib.hid hhx
      have Hht := Lib.hid hht
      clear hstep hsv2 hsv hdrop htake hx H0 hhx hht
      by_cases h200 : k = 200
      · rw [if_pos (by omega)] at hv
        have hs := Hs.out
        rw [Hsv.out, hv, if_neg (by omega), if_neg (by omega)] at hs
        have Hs2 := Lib.hid hs
        have g0 : ((k : Int) == 200) = true := by simp; omega
        clear hs Hs hv h200 hr hr'
        go_wp2_with (fail)
        go_ret2
        exact ⟨by rw [Hs2.out]; rfl, hB⟩
      · have g0 : ((k : Int) == 200) = false := by simp; omega
        have hk199 : k < 200 := by omega
        rw [if_neg (by omega)] at hv
        have w1k : IntKind.i64.wrap ((k : Int) + 1) = (k : Int) + 1 := by rw [IntKind.wrap_i64]; omega
        have u3 : ((k : Int) + 1).toNat = k + 1 := by omega
        have u4 : (0 : Int) ≤ (k : Int) + 1 := by omega
        have u5 : (k : Int) + 1 ≤ (cap : Int) := by omega
        cases hok : saleOk x with
        | false =>
          rw [hok] at hv hCx
          simp only [Bool.not_false, if_true] at hv
          simp only [Bool.false_eq_true, if_false] at hCx
          have hs := Hs.out
          rw [Hsv.out, hv, if_neg (by omega), if_neg (by omega)] at hs
          have Hs2 := Lib.hid hs
          clear hs Hs Hsv hv hr hok h200
          go_wp2_with (first
            | (refine wpList_load_mid rfl 24 _ rfl b (off + k * 9) rfl (cS x) _ hr' Tryz.underlying24 rfl (by kernel_rfl) ?_)
            | fail)
          refine (hCx wr).mono ?_
          rintro e w3 ⟨rfl, hB3⟩
          have hB3 := hB.trans (hB3.mono hB.size)
          go_wp2_with (fail)
          refine (HSl.out (k + 1) (by omega) w3 hB3).mono ?_
          rintro e w4 ⟨ah, ch, rfl, hLh, hB4⟩
          have hB4 := hB3.trans (hB4.mono hB3.size)
          clear hLh hr' hCx
          go_wp2_with (fail)
          go_loopw [5, 7] (fun e j wi => e = .int .i64 1 ∧ j = .int .i64 0 ∧ RowKit.Below w4.heap.size w4 wi) (fun _ j _ => k - (intOf j).toNat)
          case atStart => exact ⟨rfl, rfl, Below.refl _ _⟩
          case round =>
            obtain ⟨rfl, rfl, hBi⟩ := hrel
            have hBw := hB4.trans (hBi.mono hB4.size)
            have hri := rangeAt_below hBw hb hr0
            have x8 := hri 8 _ rfl
            clear hri
            by_cases hk0 : 0 < k
            · have z1 : (0 : Int) < (k : Int) := by omega
              go_wp2_with (fail)
              go_ret2
              exact ⟨by rw [Hs2.out]; rfl, hBw⟩
            · have z1 : decide ((0 : Int) < (k : Int)) = false := decide_eq_false (by omega)
              have z2 : decide (0 < k) = false := decide_eq_false hk0
              have z3 : ¬ (0 : Int) < (k : Int) := by omega
              go_wp2_with (fail)
              go_ret2
              exact ⟨by rw [Hs2.out]; rfl, hBw⟩
        | true =>
          rw [hok] at hv hCx
          simp only [Bool.not_true, Bool.false_eq_true, if_false] at hv
          simp only [if_true] at hCx
          have hhead := fun (a' : Option Addr) (n' cap' : Nat) W (h : Lst W 3 cH a' n' cap' ((xs.take k).map Sale.head)) => headedR_any a' n' cap' ((xs.take k).map Sale.head) x.head W h
          rw [← hv] at hhead
          have Hh := Lib.hid hhead
          clear hv hr hok h200 hhead
          go_wp2_with (first
            | (refine wpList_load_mid rfl 24 _ rfl b (off + k * 9) rfl (cS x) _ hr' Tryz.underlying24 rfl (by kernel_rfl) ?_)
            | fail)
          refine (hCx wr).mono ?_
          rintro e w3 ⟨rfl, hB3⟩
          have hB3 := hB.trans (hB3.mono hB.size)
          go_wp2_with (fail)
          refine (HSl.out (k + 1) (by omega) w3 hB3).mono ?_
          rintro e w4 ⟨ah, ch, rfl, hLh, hB4⟩
          have hB4 := hB3.trans (hB4.mono hB3.size)
          obtain ⟨bh, oh, rfl, hbh, hrh⟩ := hLh.at_ k _ Hhx.out
          have hmh : ch ≤ 9223372036854775807 := by have := hLh.max; unfold maxLen at this; omega
          have hlh := hLh.le
          have c0 := cell_regrown (hrh 0 _ rfl)
          have c1 := cell_regrown (hrh 1 _ rfl)
          have c2 := cell_regrown (hrh 2 _ rfl)
          simp only [Nat.add_zero] at c0
          have hLk : ∀ W, RowKit.Below w4.heap.size w4 W → Lst W 3 cH (some ⟨bh, oh, none⟩) k ch ((xs.take k).map Sale.head) := fun W h => by rw [← Hht.out]; exact (hLh.below h).pre k (by omega)
          have cF := regrown_call (w := w4) (v := .int .i64 v) (fun W' h => Hh.out _ k ch W' (hLk W' h))
          have hkz : (0 : Int) ≤ (k : Int) := by omega
          have hkn : (k : Int) ≤ (n : Int) := by omega
          have hkc : (k : Int) ≤ (ch : Int) := by omega
          have hkl : (k : Int) < (k : Int) + 1 := by omega
          have hkl2 : (k : Int) ≤ (k : Int) + 1 := by omega
          clear hrh hr' hCx
          go_wp2_with (fail)
          refine wp_region_quiet_below (by kernel_rfl) (by kernel_rfl) ?_
          repeat (go_big_quiet_step (with_reducible exact cF _ _))
          refine wpQuiet_nil ?_
          intro _ hw'
          obtain ⟨⟨dq, osq⟩, hw''⟩ := hw'
          subst hw''
          have hBn := hB4.trans ((below_regrown w4 dq osq).mono hB4.size)
          clear c0 c1 c2 cF
          have hB5 := below_regrown w4 dq osq
          generalize grow (redrawn w4 dq) osq = W5 at *
          have hLs := hL.below hBn
          have hLh5 := hLh.below hB5
          have hLk5 := fun W h => hLk W (hB5.trans (Below.mono h hB5.size))
          have HLs := Lib.hid hLs
          have HLh := Lib.hid hLh5
          have HLk := Lib.hid hLk5
          have hr5 := (rangeAt_below hBn hb hr0)
          clear hLs hLh5 hLk5 hLk hLh hB4 hB3 hB5
          by_cases hA : v = 0 ∧ x.of_ = 0
          · obtain ⟨rfl, hof⟩ := hA
            obtain ⟨P, hP⟩ : ∃ P : Sale → Bool, P = fun y => decide (y.parcel = x.parcel) && counts ((xs.take k).map Sale.head) x.known y.head := ⟨_, rfl⟩
            have hsv3 : sv = if (xs.take k).any P = true then 61 else 0 := by
              rw [Hsv.out, if_pos rfl, ← hP, decide_eq_true hof, Bool.and_true]
            have Hsv3 := Lib.hid hsv3
            have HP := Lib.hid hP
            have hbof : (x.of_ == 0) = true := by simpa using hof
            clear hsv3 hP hof Hsv
            go_wp2_with (fail)
            go_loopw [5, 7] (fun e j wi => ∃ q : Nat, q ≤ k ∧ j = .int .i64 q ∧ e = .int .i64 (if ((xs.take k).take q).any P = true then 61 else 0) ∧ RowKit.Below W5.heap.size W5 wi) (fun _ j _ => k - (intOf j).toNat)
            case atStart => exact ⟨0, Nat.zero_le _, rfl, by simp, Below.refl _ _⟩
            case round =>
              obtain ⟨q, hq, rfl, rfl, hBi⟩ := hrel
              have hBw := hBn.trans (hBi.mono hBn.size)
              have hri := rangeAt_below hBw hb hr0
              have x1 := cell_regrown (hri 1 _ rfl)
              have x3 := cell_regrown (hri 3 _ rfl)
              have x8 := hri 8 _ rfl
              by_cases hqk : q < k
              · have hqz : (q : Int) < (k : Int) := by omega
                have hqn : (q : Int) < (n : Int) := by omega
                have hqk1 : (q : Int) < (k : Int) + 1 := by omega
                have hq0 : (0 : Int) ≤ (q : Int) := by omega
                obtain ⟨y, hy⟩ : ∃ y, xs[q]? = some y := ⟨xs[q]'(by rw [hlen.out]; omega), by simp⟩
                have hyk : (xs.take k)[q]? = some y := by rw [List.getElem?_take_of_lt hqk]; exact hy
                have hsn := any_take_snoc P (xs.take k) q y hyk
                obtain ⟨b2, o2, e, _, hry⟩ := (HLs.out.below hBi).at_ q y hy
                obtain ⟨rfl, rfl⟩ : b2 = b ∧ o2 = off := by injection e with e; injection e with e1 e2; exact ⟨e1.symm, e2.symm⟩
                have y3 := cell_regrown (hry 3 _ rfl)
                have hyh : ((xs.take (k + 1)).map Sale.head)[q]? = some y.head := by rw [List.getElem?_map, List.getElem?_take_of_lt (by omega), hy]; rfl
                obtain ⟨b3, o3, e3, _, hrh⟩ := (HLh.out.below hBi).at_ q _ hyh
                obtain ⟨rfl, rfl⟩ : b3 = bh ∧ o3 = oh := by injection e3 with e; injection e with e1 e2; exact ⟨e1.symm, e2.symm⟩
                have c0 := cell_regrown (hrh 0 _ rfl)
                have c1 := cell_regrown (hrh 1 _ rfl)
                have c2 := cell_regrown (hrh 2 _ rfl)
                simp only [Nat.add_zero] at c0
                obtain ⟨cb, hcb⟩ : ∃ cb, cb = counts ((xs.take k).map Sale.head) x.known y.head := ⟨_, rfl⟩
                have cF := regrown_call (w := wr) (v := .bool cb) (fun W' h => hcb ▸ countsR_any _ k ch ((xs.take k).map Sale.head) y.head x.known W' (HLk.out W' (hBi.trans (h.mono hBi.size))))
                have hPy : P y = (decide (y.parcel = x.parcel) && cb) := by rw [HP.out, hcb]
                have hmon : ((xs.take k).take q).any P = true → sv = 61 := fun h => by
                  rw [Hsv3.out, if_pos]
                  obtain ⟨z, hz, hz2⟩ := List.any_eq_true.1 h
                  exact List.any_eq_true.2 ⟨z, List.mem_of_mem_take hz, hz2⟩
                have Hsn := Lib.hid hsn
                have HPy := Lib.hid hPy
                have Hmon := Lib.hid hmon
                have hdr : ∀ d os, RowKit.Below W5.heap.size W5 (grow (redrawn wr d) os) := fun d os => hBi.trans ((below_regrown wr d os).mono hBi.size)
                have Hdr := Lib.hid hdr
                clear hri hry hrh e e3 hy hyk hyh hsn hPy hmon hdr hcb
                generalize ((xs.take k).take q).any P = ta at *
                cases ta with
                | true =>
                  have hs := Hs.out
                  rw [Hmon.out rfl, if_neg (by omega)] at hs
                  have Hs2 := Lib.hid hs
                  clear hs Hs
                  simp only [if_true]
                  go_wp2_with (fail)
                  go_ret2
                  exact ⟨by rw [Hs2.out]; rfl, hBw⟩
                | false =>
                  simp only [Bool.false_eq_true, if_false]
                  by_cases hpar : y.parcel = x.parcel
                  · have d1 : (y.parcel == x.parcel) = true := by simpa using hpar
                    have Hpar := Lib.hid hpar
                    clear hpar
                    cases cb
                    all_goals
                      go_wp2_with (fail)
                      refine wp_region_quiet_below (by kernel_rfl) (by kernel_rfl) ?_
                      repeat (go_big_quiet_step (with_reducible exact cF _ _))
                      refine wpQuiet_nil ?_
                      intro _ hw'
                      obtain ⟨⟨dq2, osq2⟩, hw''⟩ := hw'
                      subst hw''
                      go_wp2_with (fail)
                      go_roundw
                      case rel => exact ⟨q + 1, by omega, by go_num, by rw [Hsn.out, HPy.out, Hpar.out]; simp, Hdr.out _ _⟩
                      case measure => simp [intOf]; omega
                  · have d1 : (y.parcel == x.parcel) = false := by simpa using hpar
                    have Hpar := Lib.hid hpar
                    clear hpar
                    go_wp2_with (fail)
                    refine wp_region_quiet_below (by kernel_rfl) (by kernel_rfl) ?_
                    repeat (go_big_quiet_step (with_reducible exact cF _ _))
                    refine wpQuiet_nil ?_
                    intro _ hw'
                    obtain ⟨⟨dq2, osq2⟩, hw''⟩ := hw'
                    subst hw''
                    go_wp2_with (fail)
                    go_roundw
                    case rel => exact ⟨q + 1, by omega, by go_num, by rw [Hsn.out, HPy.out]; simp [Hpar.out], Hdr.out _ _⟩
                    case measure => simp [intOf]; omega
              · obtain rfl : q = k := by omega
                have hz : ¬ (q : Int) < (q : Int) := by omega
                rw [List.take_take, Nat.min_self]
                have hs := Hs.out
                rw [Hsv3.out] at hs
                generalize (xs.take q).any P = ta at *
                cases ta with
                | true =>
                  simp only [if_true] at hs ⊢
                  rw [if_neg (by omega)] at hs
                  have Hs2 := Lib.hid hs
                  clear hs Hs
                  go_wp2_with (fail)
                  go_ret2
                  exact ⟨by rw [Hs2.out]; rfl, hBw⟩
                | false =>
                  simp only [Bool.false_eq_true, if_false, if_true] at hs ⊢
                  have Hs2 := Lib.hid hs
                  clear hs Hs
                  go_wp2_with (fail)
                  go_roundw
                  case rel => exact ⟨q + 1, by omega, by omega, by go_num, hBw, Hs2⟩
                  case measure => simp [intOf]; omega
          · by_cases hv0 : v = 0
            · subst hv0
              have hof : x.of_ ≠ 0 := fun e => hA ⟨rfl, e⟩
              have hs := Hs.out
              rw [Hsv.out, if_pos rfl, decide_eq_false hof, Bool.and_false] at hs
              simp only [Bool.false_eq_true, if_false, if_true] at hs
              have Hs2 := Lib.hid hs
              have hbof : (x.of_ == 0) = false := by simpa using hof
              clear hs Hs Hsv hof hA
              go_wp2_with (fail)
              go_loopw [5, 7] (fun e j wi => e = .int .i64 0 ∧ j = .int .i64 0 ∧ RowKit.Below W5.heap.size W5 wi) (fun _ j _ => k - (intOf j).toNat)
              case atStart => exact ⟨rfl, rfl, Below.refl _ _⟩
              case round =>
                obtain ⟨rfl, rfl, hBi⟩ := hrel
                have hBw := hBn.trans (hBi.mono hBn.size)
                have hri := rangeAt_below hBw hb hr0
                have x8 := hri 8 _ rfl
                clear hri
                by_cases hk0 : 0 < k
                · have z1 : (0 : Int) < (k : Int) := by omega
                  go_wp2_with (fail)
                  go_roundw
                  case rel => exact ⟨k + 1, by omega, by omega, by go_num, hBw, Hs2⟩
                  case measure => simp [intOf]; omega
                · have z1 : decide ((0 : Int) < (k : Int)) = false := decide_eq_false (by omega)
                  have z2 : decide (0 < k) = false := decide_eq_false hk0
                  have z3 : ¬ (0 : Int) < (k : Int) := by omega
                  go_wp2_with (fail)
                  go_roundw
                  case rel => exact ⟨k + 1, by omega, by omega, by go_num, hBw, Hs2⟩
                  case measure => simp [intOf]; omega
            · have hs := Hs.out
              rw [Hsv.out, if_neg hv0, if_neg hv0] at hs
              have Hs2 := Lib.hid hs
              have hv1 : (v == 0) = false := by simpa using hv0
              have hv2 : (v != 0) = true := by simpa using hv0
              clear hs Hs Hsv hv0 hA
              go_wp2_with (fail)
              go_loopw [5, 7] (fun e j wi => e = .int .i64 v ∧ j = .int .i64 0 ∧ RowKit.Below W5.heap.size W5 wi) (fun _ j _ => k - (intOf j).toNat)
              case atStart => exact ⟨rfl, rfl, Below.refl _ _⟩
              case round =>
                obtain ⟨rfl, rfl, hBi⟩ := hrel
                have hBw := hBn.trans (hBi.mono hBn.size)
                have hri := rangeAt_below hBw hb hr0
                have x8 := hri 8 _ rfl
                clear hri
                by_cases hk0 : 0 < k
                · have z1 : (0 : Int) < (k : Int) := by omega
                  go_wp2_with (fail)
                  go_ret2
                  exact ⟨by rw [Hs2.out]; rfl, hBw⟩
                · have z1 : decide ((0 : Int) < (k : Int)) = false := decide_eq_false (by omega)
                  have z2 : decide (0 < k) = false := decide_eq_false hk0
                  have z3 : ¬ (0 : Int) < (k : Int) := by omega
                  go_wp2_with (fail)
                  go_ret2
                  exact ⟨by rw [Hs2.out]; rfl, hBw⟩
    · obtain rfl : k = n := by omega
      have h0 := H0.out
      rw [List.drop_eq_nil_of_le (by rw [hlen.out]; exact Nat.le_refl _)] at h0
      have H1 := Lib.hid h0
      clear h0 H0
      go_wp2_with (fail)
      go_ret2
      exact ⟨by rw [H1.out]; rfl, hB⟩

end Go.Proofs.YtkeppoiomjhkpaaGreatDoor
