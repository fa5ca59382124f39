import Derived.Test.YtkeppoiomjhkpaaGreatDoorPart34
import Derived.Test.YtkeppoiomjhkpaaGreatDoorPart39
import Derived.Test.YtkeppoiomjhkpaaGreatDoorPart40
import Derived.Test.YtkeppoiomjhkpaaGreatDoorPart20
import Derived.Test.YtkeppoiomjhkpaaGreatDoorPart19
import Derived.Test.YtkeppoiomjhkpaaGreatDoorPart23
import Derived.Test.YtkeppoiomjhkpaaGreatDoorPart33
import Derived.Lib.QuietBelow
/-
  Walk: the law of the records of rates.
-/
namespace Go.Proofs.YtkeppoiomjhkpaaGreatDoor
open Go.RowKit Lg Go.Sort Go.Shelf Go.Maps

theorem givesR_lst {w0 W w' : World} {xs : List Rate} {m : Int} {en : Ending} (hB : RowKit.Below w0.heap.size w0 W) (h : GivesL W 43 9 cR xs m en w') :
    ∃ av c, en = .returned (.tuple #[.slice av xs.length c, .int .i64 m]) ∧ Lst w' 9 cR av xs.length c xs ∧ RowKit.Below W.heap.size W w' ∧ RowKit.Below w0.heap.size w0 w' := by
  obtain ⟨v, rfl, ho, hb⟩ := h
  obtain ⟨av, cv, rfl, _, hl⟩ := Lst.of_owns (k := 9) (enc := cR) (fun _ => rfl) (by omega) ho rfl
  exact ⟨av, cv, rfl, hl, hb, hB.trans (hb.mono hB.size)⟩

theorem fewOf_len {xs : List Rate} (h : fewOf xs = true) : xs.length ≤ 103 := by
  unfold fewOf at h
  simp only [Bool.and_eq_true, Bool.or_eq_true, decide_eq_true_eq] at h
  omega

set_option maxRecDepth 100000 in
set_option maxHeartbeats 25600000 in
theorem lawRates_any (a : Option Addr) (n cap : Nat) (xs : List Rate) (x : Rate) (line : ByteArray) (w : World) (hL : Lst w 9 cR a n cap xs) (hV : Vs w) :
    Calls Tryz.prog 4 #[.slice a n cap, aR x, .string line] w (Gives w (.bool true)) := by
  have hp := paid_any
  have hB0 : RowKit.Below w.heap.size w (w.alloc (.cells #[.int .i64 x.id, .int .i64 x.known, .int .i64 x.from_, .string x.goods, .int .i64 x.finder.num, .int .i64 x.finder.den, .int .i64 x.cart, .int .i64 x.store, .int .i64 x.of_] 43)) := (Below.refl _ w).alloc (Nat.le_refl _) _
  have hcap : n ≤ 9223372036854775807 := by have := hL.le; have := hL.max; unfold maxLen at this; omega
  have hso := few_any a n cap xs _ (hL.below hB0)
  cases h1 : fewOf xs with
  | false =>
    rw [h1] at hso
    clear hL hV h1
    go_enter Tryz.func4, Tryz.ntmps4
    go_wp2_with (first | (go_at_call 18; (with_reducible refine hso.mono ?_); rintro e w3 ⟨rfl, rfl⟩) | (go_at_call 6; refine (hp _).mono ?_; rintro e w5 ⟨rfl, hB5⟩))
    go_ret
    exact ⟨rfl, hB0.trans (hB5.mono hB0.size)⟩
  | true =>
    rw [h1] at hso
    by_cases h3 : (100 : Int) < (x.goods.size : Int)
    · clear hL hV h1
      go_enter Tryz.func4, Tryz.ntmps4
      go_wp2_with (first | (go_at_call 18; (with_reducible refine hso.mono ?_); rintro e w3 ⟨rfl, rfl⟩) | (go_at_call 6; refine (hp _).mono ?_; rintro e w5 ⟨rfl, hB5⟩))
      go_ret
      exact ⟨rfl, hB0.trans (hB5.mono hB0.size)⟩
    by_cases h2 : (200 : Int) < (line.size : Int)
    · clear hL hV h1
      go_enter Tryz.func4, Tryz.ntmps4
      go_wp2_with (first | (go_at_call 18; (with_reducible refine hso.mono ?_); rintro e w3 ⟨rfl, rfl⟩) | (go_at_call 6; refine (hp _).mono ?_; rintro e w5 ⟨rfl, hB5⟩))
      go_ret
      exact ⟨rfl, hB0.trans (hB5.mono hB0.size)⟩
    have hn299 : n ≤ 299 := by have := fewOf_len h1; have := hL.len; omega
    obtain ⟨y, er, hy⟩ := readsR_exists line
    obtain ⟨w0, hw0⟩ : ∃ w0, w0 = w.alloc (.cells #[.int .i64 x.id, .int .i64 x.known, .int .i64 x.from_, .string x.goods, .int .i64 x.finder.num, .int .i64 x.finder.den, .int .i64 x.cart, .int .i64 x.store, .int .i64 x.of_] 43) := ⟨_, rfl⟩
    have kX : Blk w0 w.heap.size (cR x).toArray 43 := hw0 ▸ Blk.new w _ _
    have hB1 : RowKit.Below w.heap.size w w0 := hw0 ▸ hB0
    have HL := fun W (h : RowKit.Below w0.heap.size w0 W) => hL.below (hB1.trans (h.mono hB1.size))
    have HV := fun W (h : RowKit.Below w0.heap.size w0 W) => hV.below (hB1.trans (h.mono hB1.size))
    have C1 := Lib.hid (fun W (h : RowKit.Below w0.heap.size w0 W) => (checkRates_any a n cap xs W (HL W h)).mono fun e w' q => gv h q)
    have C2 := Lib.hid (fun W (h : RowKit.Below w0.heap.size w0 W) => (checkRatesR_any a n cap xs W (by omega) (HL W h)).mono fun e w' q => gv h q)
    have C3 := Lib.hid (fun W (h : RowKit.Below w0.heap.size w0 W) => (appendRate0_any a n cap xs x W (HL W h)).mono fun e w' q => givesR_lst h q)
    have C4 := Lib.hid (fun W (h : RowKit.Below w0.heap.size w0 W) => (appendRateR_any a n cap xs x W hn299 (HL W h)).mono fun e w' q => givesR_lst h q)
    have C5 := Lib.hid (fun W (h : RowKit.Below w0.heap.size w0 W) => (writeRate_any x W (HV W h)).mono fun e w' q => gv h q)
    have C6 := Lib.hid (fun W (h : RowKit.Below w0.heap.size w0 W) => (writeRateR_any x W).mono fun e w' q => gv h q)
    have C7 := Lib.hid (fun W (h : RowKit.Below w0.heap.size w0 W) => (readRate_any line y er hy (by omega) W (HV W h)).mono fun e w' q => gv h q)
    have C8 := Lib.hid (fun W (h : RowKit.Below w0.heap.size w0 W) => (readRateR_any line y er hy (by omega) W).mono fun e w' q => gv h q)
    have CP := Lib.hid (fun W (h : RowKit.Below w0.heap.size w0 W) => (hp W).mono fun e w' q => gv h q)
    have HK := Lib.hid (fun W (h : RowKit.Below w0.heap.size w0 W) => (kX.below' h).cell)
    have hlx : (rateOk x = true) → (lineR x).size ≤ 1000 := fun h => by
      obtain ⟨⟨a1, b1⟩, ⟨a2, b2⟩, ⟨a3, b3⟩, ⟨a4, b4⟩, ⟨a5, b5⟩, ⟨a6, b6⟩, ⟨a7, b7⟩, ⟨a8, b8⟩, hgo⟩ := rateOk_all h
      have l1 := nm_len a1 (by omega)
      have l2 := nm_len a2 (by omega)
      have l3 := nm_len a3 (by omega)
      have l4 := nm_len a4 (by omega)
      have l5 := nm_len a5 (by omega)
      have l6 := nm_len a6 (by omega)
      have l7 := nm_len a7 (by omega)
      have l8 := nm_len a8 (by omega)
      have lg : (goodsL x.goods).length ≤ 100 := by
        unfold goodsL
        split
        · decide
        · have hl : x.goods.data.toList.length = x.goods.size := by rw [Array.length_toList]; rfl
          omega
      rw [lineR, ofL_size, wordsR]
      split <;> simp [lineL, voidL, rateL] <;> omega
    have C9 := Lib.hid (fun W (h : RowKit.Below w0.heap.size w0 W) (ho : rateOk x = true) => (readRate_any (lineR x) x 0 (.inl ⟨rfl, ho, rfl⟩) (hlx ho) W (HV W h)).mono fun e w' q => gv h q)
    have C10 := Lib.hid (fun W (h : RowKit.Below w0.heap.size w0 W) => (writeRate_any y W (HV W h)).mono fun e w' q => gv h q)
    have hy0 : er = 0 → writeR y = (line, 0) := fun e => by
      rcases hy with ⟨_, i1, i2⟩ | ⟨i1, _, _⟩
      · unfold writeR; rw [i1, i2]; rfl
      · omega
    have hx0 : (writeR x).2 = 0 → rateOk x = true ∧ (writeR x).1 = lineR x := fun e => by
      unfold writeR at e ⊢
      cases ho : rateOk x with
      | true => exact ⟨rfl, by simp⟩
      | false => simp [ho] at e
    have Hy0 := Lib.hid hy0
    have Hx0 := Lib.hid hx0
    have CS := Lib.hid (fun W (h : RowKit.Below w0.heap.size w0 W) => (checkRate_any x W).mono fun e w' q => gv h q)
    have CR := Lib.hid (fun W (h : RowKit.Below w0.heap.size w0 W) => (checkRateR_any x W).mono fun e w' q => gv h q)
    obtain ⟨c1, hc1⟩ : ∃ c, c = (checkRates xs).1 := ⟨_, rfl⟩
    rw [← hc1] at C1 C2
    obtain ⟨c2, hc2⟩ : ∃ c, c = (checkRates xs).2 := ⟨_, rfl⟩
    rw [← hc2] at C1 C2
    obtain ⟨zs, hzs⟩ : ∃ c, c = (appendRate xs x).1 := ⟨_, rfl⟩
    rw [← hzs] at C3 C4
    obtain ⟨ze, hze⟩ : ∃ c, c = (appendRate xs x).2 := ⟨_, rfl⟩
    rw [← hze] at C3 C4
    obtain ⟨t1, ht1⟩ : ∃ c, c = (writeR x).1 := ⟨_, rfl⟩
    rw [← ht1] at C5 C6 Hx0
    obtain ⟨te, hte⟩ : ∃ c, c = (writeR x).2 := ⟨_, rfl⟩
    rw [← hte] at C5 C6 Hx0
    obtain ⟨ck, hck⟩ : ∃ c : Int, c = (if rateOk x then 0 else 1) := ⟨_, rfl⟩
    rw [← hck] at CS CR
    have CSm := Lib.hid (fun W av c bv d (h : RowKit.Below w0.heap.size w0 W) (i1 : Lst W 9 cR av zs.length c zs) (i2 : Lst W 9 cR bv zs.length d zs) => (sameRates_any av _ c zs bv _ d zs W i1 i2).mono fun e w' (q : Gives W _ e w') => (⟨q.1.trans (by simp), q.2⟩ : Gives W (.bool true) e w'))
    have hBw := hB1
    clear hc1 hc2 hzs hze ht1 hte hck hy hy0 hx0 hlx HL HV hL hV hp hB0 hB1 h1
    have HkX := Lib.hid kX
    go_enter Tryz.func4, Tryz.ntmps4
    go_wp2_with (go_at_call 18; (with_reducible refine hso.mono ?_); rintro e w3 ⟨rfl, rfl⟩)
    rw [← hw0]
    clear hw0 hso
    refine (C1.out w0 (Below.refl _ _)).mono ?_
    rintro e w1 ⟨rfl, -, hB⟩
    go_wp2_with (fail)
    refine (C2.out w1 hB).mono ?_
    rintro e w2 ⟨rfl, -, hB⟩
    have kx := kX.below' hB
    go_wp2_with (first
      | (refine wpList_load_mid rfl 43 _ rfl w.heap.size 0 rfl (Go.Proofs.YtkeppoiomjhkpaaGreatDoor.cR x) _ (kx.range 0 _ (fun j v h => by simpa using h)) Tryz.underlying43 rfl (by kernel_rfl) ?_)
      | fail)
    refine (C3.out w2 hB).mono ?_
    rintro e w3 ⟨a3, d3, rfl, hl3, -, hB⟩
    have kx := kX.below' hB
    go_wp2_with (first
      | (refine wpList_load_mid rfl 43 _ rfl w.heap.size 0 rfl (Go.Proofs.YtkeppoiomjhkpaaGreatDoor.cR x) _ (kx.range 0 _ (fun j v h => by simpa using h)) Tryz.underlying43 rfl (by kernel_rfl) ?_)
      | fail)
    refine (C4.out w3 hB).mono ?_
    rintro e w4 ⟨a4, d4, rfl, hl4, hb, hB⟩
    have hl3 := hl3.below hb
    have kx := kX.below' hB
    go_wp2_with (first
      | (refine wpList_load_mid rfl 43 _ rfl w.heap.size 0 rfl (Go.Proofs.YtkeppoiomjhkpaaGreatDoor.cR x) _ (kx.range 0 _ (fun j v h => by simpa using h)) Tryz.underlying43 rfl (by kernel_rfl) ?_)
      | fail)
    refine (C5.out w4 hB).mono ?_
    rintro e w5 ⟨rfl, hb, hB⟩
    have hl3 := hl3.below hb
    have hl4 := hl4.below hb
    have kx := kX.below' hB
    go_wp2_with (first
      | (refine wpList_load_mid rfl 43 _ rfl w.heap.size 0 rfl (Go.Proofs.YtkeppoiomjhkpaaGreatDoor.cR x) _ (kx.range 0 _ (fun j v h => by simpa using h)) Tryz.underlying43 rfl (by kernel_rfl) ?_)
      | fail)
    refine (C6.out w5 hB).mono ?_
    rintro e w6 ⟨rfl, hb, hB⟩
    have hl3 := hl3.below hb
    have hl4 := hl4.below hb
    clear kx
    go_wp2_with (fail)
    refine (C7.out w6 hB).mono ?_
    rintro e w7 ⟨rfl, hb, hB⟩
    have hl3 := hl3.below hb
    have hl4 := hl4.below hb
    clear hb C1 C2 C3 C4 C5 C6 C7
    go_wp2_with (fail)
    have kY := Blk.new w7 43 (Go.Proofs.YtkeppoiomjhkpaaGreatDoor.cR y).toArray
    obtain ⟨w8, hw8⟩ : ∃ w8, w8 = w7.alloc (.cells (Go.Proofs.YtkeppoiomjhkpaaGreatDoor.cR y).toArray 43) := ⟨_, rfl⟩
    have hz : RowKit.Below w7.heap.size w7 w8 := hw8 ▸ (Below.refl _ w7).alloc (Nat.le_refl _) _
    rw [← hw8] at kY ⊢
    have hB := hB.trans (hz.mono hB.size)
    have hl3 := hl3.below hz
    have hl4 := hl4.below hz
    obtain ⟨bY, hbY⟩ : ∃ b, b = w7.heap.size := ⟨_, rfl⟩
    rw [← hbY] at kY ⊢
    clear hw8 hz hbY
    refine (C8.out w8 hB).mono ?_
    rintro e w9 ⟨rfl, hb, hB⟩
    have hl3 := hl3.below hb
    have hl4 := hl4.below hb
    have kY := kY.below' hb
    clear hb C8
    go_upto_region 11 with fail
    have kZ := Blk.new w9 43 (Go.Proofs.YtkeppoiomjhkpaaGreatDoor.cR y).toArray
    obtain ⟨wA, hwA⟩ : ∃ wA, wA = w9.alloc (.cells (Go.Proofs.YtkeppoiomjhkpaaGreatDoor.cR y).toArray 43) := ⟨_, rfl⟩
    have hz : RowKit.Below w9.heap.size w9 wA := hwA ▸ (Below.refl _ w9).alloc (Nat.le_refl _) _
    rw [← hwA] at kZ ⊢
    have hB := hB.trans (hz.mono hB.size)
    have hl3 := hl3.below hz
    have hl4 := hl4.below hz
    have kY := kY.below' hz
    have kx := kX.below' hB
    obtain ⟨bZ, hbZ⟩ : ∃ b, b = w9.heap.size := ⟨_, rfl⟩
    rw [← hbZ] at kZ ⊢
    clear hwA hz hbZ
    have cX := blk_regrown kx
    have cY := blk_regrown kY
    have cZ := blk_regrown kZ
    have cF := regrown_call (w := wA) (v := .bool true) (fun W' h => CSm.out W' a3 d3 a4 d4 (hB.trans (h.mono hB.size)) (hl3.below h) (hl4.below h))
    have cG := regrown_call (w := wA) (v := .int .i64 ck) (fun W' h => (CS.out W' (hB.trans (h.mono hB.size))).mono fun e w' q => ⟨q.1, q.2.1⟩)
    have cH := regrown_call (w := wA) (v := .int .i64 ck) (fun W' h => (CR.out W' (hB.trans (h.mono hB.size))).mono fun e w' q => ⟨q.1, q.2.1⟩)
    have hne : ∀ W, (binOp .neq 43 (aR y) (aR y)).run Tryz.prog W = .ok (.bool false) W := fun W => by rw [neqR, decide_eq_true rfl]; rfl
    have gg := guardR
    refine wp_region_quiet_below (by kernel_rfl) (by kernel_rfl) ?_
    repeat (go_big_quiet_step (first | (with_reducible exact cF _ _) | (with_reducible exact cG _ _) | (with_reducible exact cH _ _)))
    refine wpQuiet_nil ?_
    intro _ hw'
    obtain ⟨⟨dq, osq⟩, hw''⟩ := hw'
    subst hw''
    have hbq := below_regrown wA dq osq
    obtain ⟨wB, hwB⟩ : ∃ wB, wB = grow (redrawn wA dq) osq := ⟨_, rfl⟩
    rw [← hwB] at hbq
    have hB := hB.trans (hbq.mono hB.size)
    have kY := kY.below' hbq
    have HkY := Lib.hid kY
    clear cX cY cZ cF cG cH hne gg kx kZ kY hl3 hl4 hbq CSm CS CR
    rw [← hwB]
    clear hwB
    by_cases e0 : te = 0
    · obtain ⟨ho, hl⟩ := Hx0.out e0
      have D9 := C9.out wB hB ho
      rw [← hl] at D9
      have kY := HkY.out
      subst e0
      clear hl ho Hx0
      go_wp2_with (fail)
      refine D9.mono ?_
      clear D9
      rintro e wC ⟨rfl, hb, hB⟩
      have kY := kY.below' hb
      clear hb
      go_upto_region 15 with fail
      have kQ := Blk.new wC 43 (Go.Proofs.YtkeppoiomjhkpaaGreatDoor.cR x).toArray
      obtain ⟨wD, hwD⟩ : ∃ wD, wD = wC.alloc (.cells (Go.Proofs.YtkeppoiomjhkpaaGreatDoor.cR x).toArray 43) := ⟨_, rfl⟩
      have hz : RowKit.Below wC.heap.size wC wD := hwD ▸ (Below.refl _ wC).alloc (Nat.le_refl _) _
      rw [← hwD] at kQ ⊢
      have hB := hB.trans (hz.mono hB.size)
      have kY := kY.below' hz
      have kx := HkX.out.below' hB
      obtain ⟨bQ, hbQ⟩ : ∃ b, b = wC.heap.size := ⟨_, rfl⟩
      rw [← hbQ] at kQ ⊢
      clear hwD hz hbQ
      have cX := kx.cell
      have cQ := kQ.cell
      have hne : ∀ W, (binOp .neq 43 (aR x) (aR x)).run Tryz.prog W = .ok (.bool false) W := fun W => by rw [neqR, decide_eq_true rfl]; rfl
      have gg := guardR
      go_upto_region 17 with (first
        | (refine wpList_load_mid rfl 43 _ rfl bQ 0 rfl (Go.Proofs.YtkeppoiomjhkpaaGreatDoor.cR x) _ (kQ.range 0 _ (fun j v h => by simpa using h)) Tryz.underlying43 rfl (by kernel_rfl) ?_)
        | (refine wpList_load_mid rfl 43 _ rfl w.heap.size 0 rfl (Go.Proofs.YtkeppoiomjhkpaaGreatDoor.cR x) _ (kx.range 0 _ (fun j v h => by simpa using h)) Tryz.underlying43 rfl (by kernel_rfl) ?_)
        | fail)
      clear cX cQ hne gg kx kQ
      by_cases r0 : er = 0
      · subst r0
        have hwy := Hy0.out rfl
        have D10 := C10.out wD hB
        rw [hwy] at D10
        have kY := kY
        clear hwy
        go_wp2_with (first
          | (refine wpList_load_mid rfl 43 _ rfl bY 0 rfl (Go.Proofs.YtkeppoiomjhkpaaGreatDoor.cR y) _ (kY.range 0 _ (fun j v h => by simpa using h)) Tryz.underlying43 rfl (by kernel_rfl) ?_)
          | fail)
        refine D10.mono ?_
        clear D10
        rintro e wF ⟨rfl, hb, hB⟩
        have hq1 : (line.toList != line.toList) = false := by simp
        have hq2 : (line.toList == line.toList) = true := by simp
        clear hb kY
        go_wp2_with (fail)
        refine (CP.out wF hB).mono ?_
        rintro e wG ⟨rfl, hb, hB⟩
        go_wp2_with (fail)
        go_ret
        exact ⟨rfl, hBw.trans (hB.mono hBw.size)⟩
      · have r1 : (er == 0) = false := by simpa using r0
        have R0 := Lib.hid r0
        clear r0 kY
        go_wp2_with (fail)
        refine (CP.out wD hB).mono ?_
        rintro e wG ⟨rfl, hb, hB⟩
        go_wp2_with (fail)
        go_ret
        exact ⟨rfl, hBw.trans (hB.mono hBw.size)⟩
    · have e1 : (te == 0) = false := by simpa using e0
      have E0 := Lib.hid e0
      have kY := HkY.out
      clear e0 Hx0 C9
      by_cases r0 : er = 0
      · subst r0
        have hwy := Hy0.out rfl
        have D10 := C10.out wB hB
        rw [hwy] at D10
        have kY := kY
        clear hwy
        go_wp2_with (first
          | (refine wpList_load_mid rfl 43 _ rfl bY 0 rfl (Go.Proofs.YtkeppoiomjhkpaaGreatDoor.cR y) _ (kY.range 0 _ (fun j v h => by simpa using h)) Tryz.underlying43 rfl (by kernel_rfl) ?_)
          | fail)
        refine D10.mono ?_
        clear D10
        rintro e wF ⟨rfl, hb, hB⟩
        have hq1 : (line.toList != line.toList) = false := by simp
        have hq2 : (line.toList == line.toList) = true := by simp
        clear hb kY
        go_wp2_with (fail)
        refine (CP.out wF hB).mono ?_
        rintro e wG ⟨rfl, hb, hB⟩
        go_wp2_with (fail)
        go_ret
        exact ⟨rfl, hBw.trans (hB.mono hBw.size)⟩
      · have r1 : (er == 0) = false := by simpa using r0
        have R0 := Lib.hid r0
        clear r0 kY
        go_wp2_with (fail)
        refine (CP.out wB hB).mono ?_
        rintro e wG ⟨rfl, hb, hB⟩
        go_wp2_with (fail)
        go_ret
        exact ⟨rfl, hBw.trans (hB.mono hBw.size)⟩

end Go.Proofs.YtkeppoiomjhkpaaGreatDoor

/-
  What the row of AwardRates' list of variables gives.
-/
namespace Go.Proofs.YtkeppoiomjhkpaaGreatDoor
open Go.RowKit Lg

theorem vs_of_laidR {W : World} (h : laidMet Tryz.prog Rows.awardRatesRow.laid W) (hS : W.ShapedOpen Tryz.prog) : Vs W := by
  have h3 := h.tail.tail
  have h5 := h3.tail.tail
  have h6 := h5.tail
  have e3 : laidMet Tryz.prog (("internal/strconv.uint64pow10", Lib.tabData .u64 Lib.pow10Tab) :: [("unicode/utf8.acceptRanges", Rows.laid_unicode_utf8_acceptRanges), ("strconv.ErrRange", Rows.laid_strconv_ErrRange), ("strconv.ErrSyntax", Rows.laid_strconv_ErrSyntax), ("unicode/utf8.first", Rows.laid_unicode_utf8_first)]) W := by
    rw [← pow_data]; exact h3
  obtain ⟨a1, s1, hv1, -, -, -⟩ := laid_sentinel h5 (show Tryz.prog.globalNamed "strconv.ErrRange" = some 1 by kernel_rfl) (show (Tryz.prog.globals[1]?).map (·.type) = some 133 by kernel_rfl) Tryz.underlying133 row_err Tryz.underlying246 Tryz.underlying248 rfl rfl Tryz.underlying9 (by kernel_rfl) (by kernel_rfl)
  obtain ⟨a2, s2, hv2, -, -, -⟩ := laid_sentinel h6 (show Tryz.prog.globalNamed "strconv.ErrSyntax" = some 0 by kernel_rfl) (show (Tryz.prog.globals[0]?).map (·.type) = some 133 by kernel_rfl) Tryz.underlying133 row_err Tryz.underlying246 Tryz.underlying248 rfl rfl Tryz.underlying9 (by kernel_rfl) (by kernel_rfl)
  refine ⟨?_, ?_, ?_, ?_⟩
  · exact Lib.tabIs_of_head tab_named (show (Tryz.prog.globals[2]?).map (·.type) = some 243 by kernel_rfl) Tryz.underlying243 Tryz.underlying214 (by kernel_rfl) (by kernel_rfl) e3
  · have := World.var?_cell (show Tryz.prog.globalNamed "strconv.ErrSyntax" = some 0 by kernel_rfl) hv2 0
    exact ⟨_, by simpa using this, .inr ⟨_, _, rfl⟩⟩
  · have := World.var?_cell (show Tryz.prog.globalNamed "strconv.ErrRange" = some 1 by kernel_rfl) hv1 0
    exact ⟨_, by simpa using this, .inr ⟨_, _, rfl⟩⟩
  · exact Tryz.laysM146.s1_3 W hS

end Go.Proofs.YtkeppoiomjhkpaaGreatDoor
