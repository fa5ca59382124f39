import Derived.Test.YtkeppoiomjhkpaaGreatDoorPart17
import Derived.Test.YtkeppoiomjhkpaaGreatDoorPart18
import Derived.Test.YtkeppoiomjhkpaaGreatDoorPart23
import Derived.Test.YtkeppoiomjhkpaaGreatDoorPart33
import Derived.Lib.QuietBelow
import Derived.Test.YtkeppoiomjhkpaaGreatDoorPart14
import Derived.Test.YtkeppoiomjhkpaaGreatDoorRows
import Derived.Shelf.Vars
import Derived.LaidLaws
import Derived.Stop.LaidErr
import Derived.Lib.LaidTab
import Derived.Test.YtkeppoiomjhkpaaGreatDoorPart11
/-
  Walk: the law of the records of sales.
-/
namespace Go.Proofs.YtkeppoiomjhkpaaGreatDoor
open Go.RowKit Lg Go.Sort Go.Shelf Go.Maps

theorem givesS_lst {w0 W w' : World} {xs : List Sale} {m : Int} {en : Ending} (hB : RowKit.Below w0.heap.size w0 W) (h : GivesL W 24 9 cS xs m en w') :
    ∃ av c, en = .returned (.tuple #[.slice av xs.length c, .int .i64 m]) ∧ Lst w' 9 cS av xs.length c xs ∧ RowKit.Below W.heap.size W w' ∧ RowKit.Below w0.heap.size w0 w' := by
  obtain ⟨v, rfl, ho, hb⟩ := h
  obtain ⟨av, cv, rfl, _, hl⟩ := Lst.of_owns (k := 9) (enc := cS) (fun _ => rfl) (by omega) ho rfl
  exact ⟨av, cv, rfl, hl, hb, hB.trans (hb.mono hB.size)⟩

theorem blk_regrown {W : World} {B : Nat} {cs : Array Value} {t : TypeId} (k : Blk W B cs t) (j d : Nat) (os : Array Obj) : (grow (redrawn W d) os).cell? ⟨B, j, none⟩ = cs[j]? := by
  rw [(below_regrown _ d os).cell k.lt]
  exact k.cell j

theorem gv {q W w' : World} {v : Value} {e : Ending} (hq : RowKit.Below q.heap.size q W) (h : Gives W v e w') : e = .returned v ∧ RowKit.Below W.heap.size W w' ∧ RowKit.Below q.heap.size q w' := ⟨h.1, h.2, hq.trans (h.2.mono hq.size)⟩

set_option maxRecDepth 100000 in
set_option maxHeartbeats 25600000 in
theorem lawSales_any (a : Option Addr) (n cap : Nat) (xs : List Sale) (x : Sale) (line : ByteArray) (w : World) (hL : Lst w 9 cS a n cap xs) (hV : Vs w) :
    Calls Tryz.prog 3 #[.slice a n cap, aS x, .string line] w (Gives w (.bool true)) := by
  have hp := paid_any
  have hB0 : RowKit.Below w.heap.size w (w.alloc (.cells #[.int .i64 x.id, .int .i64 x.known, .int .i64 x.hour, .int .i64 x.parcel, .int .i64 x.price, .int .i64 x.carter, .int .i64 x.keeper, .int .i64 x.since, .int .i64 x.of_] 24)) := (Below.refl _ w).alloc (Nat.le_refl _) _
  have hcap : n ≤ 9223372036854775807 := by have := hL.le; have := hL.max; unfold maxLen at this; omega
  have hso := fun W => some_any a n cap W hcap
  cases h1 : someOf n with
  | false =>
    rw [h1] at hso
    clear hL hV h1
    go_enter Tryz.func3, Tryz.ntmps3
    go_wp2_with (first | (go_at_call 5; refine (hso _).mono ?_; rintro e w3 ⟨rfl, rfl⟩) | (go_at_call 6; refine (hp _).mono ?_; rintro e w5 ⟨rfl, hB5⟩))
    go_ret
    exact ⟨rfl, hB0.trans (hB5.mono hB0.size)⟩
  | true =>
    rw [h1] at hso
    by_cases h2 : (200 : Int) < (line.size : Int)
    · clear hL hV h1
      go_enter Tryz.func3, Tryz.ntmps3
      go_wp2_with (first | (go_at_call 5; refine (hso _).mono ?_; rintro e w3 ⟨rfl, rfl⟩) | (go_at_call 6; refine (hp _).mono ?_; rintro e w5 ⟨rfl, hB5⟩))
      go_ret
      exact ⟨rfl, hB0.trans (hB5.mono hB0.size)⟩
    have hn299 : n ≤ 299 := by unfold someOf at h1; simp at h1; omega
    obtain ⟨y, er, hy⟩ := readsS_exists line
    obtain ⟨w0, hw0⟩ : ∃ w0, w0 = w.alloc (.cells #[.int .i64 x.id, .int .i64 x.known, .int .i64 x.hour, .int .i64 x.parcel, .int .i64 x.price, .int .i64 x.carter, .int .i64 x.keeper, .int .i64 x.since, .int .i64 x.of_] 24) := ⟨_, rfl⟩
    have kX : Blk w0 w.heap.size (cS x).toArray 24 := hw0 ▸ Blk.new w _ _
    have hB1 : RowKit.Below w.heap.size w w0 := hw0 ▸ hB0
    have HL := fun W (h : RowKit.Below w0.heap.size w0 W) => hL.below (hB1.trans (h.mono hB1.size))
    have HV := fun W (h : RowKit.Below w0.heap.size w0 W) => hV.below (hB1.trans (h.mono hB1.size))
    have C1 := Lib.hid (fun W (h : RowKit.Below w0.heap.size w0 W) => (checkSales_any a n cap xs W (HL W h)).mono fun e w' q => gv h q)
    have C2 := Lib.hid (fun W (h : RowKit.Below w0.heap.size w0 W) => (checkSalesR_any a n cap xs W (by omega) (HL W h)).mono fun e w' q => gv h q)
    have C3 := Lib.hid (fun W (h : RowKit.Below w0.heap.size w0 W) => (appendSale0_any a n cap xs x W (HL W h)).mono fun e w' q => givesS_lst h q)
    have C4 := Lib.hid (fun W (h : RowKit.Below w0.heap.size w0 W) => (appendSaleR_any a n cap xs x W hn299 (HL W h)).mono fun e w' q => givesS_lst h q)
    have C5 := Lib.hid (fun W (h : RowKit.Below w0.heap.size w0 W) => (writeSale_any x W (HV W h)).mono fun e w' q => gv h q)
    have C6 := Lib.hid (fun W (h : RowKit.Below w0.heap.size w0 W) => (writeSaleR_any x W).mono fun e w' q => gv h q)
    have C7 := Lib.hid (fun W (h : RowKit.Below w0.heap.size w0 W) => (readSale_any line y er hy (by omega) W (HV W h)).mono fun e w' q => gv h q)
    have C8 := Lib.hid (fun W (h : RowKit.Below w0.heap.size w0 W) => (readSaleR_any line y er hy (by omega) W).mono fun e w' q => gv h q)
    have CP := Lib.hid (fun W (h : RowKit.Below w0.heap.size w0 W) => (hp W).mono fun e w' q => gv h q)
    have HK := Lib.hid (fun W (h : RowKit.Below w0.heap.size w0 W) => (kX.below' h).cell)
    have hlx : (saleOk x = true) → (lineS x).size ≤ 1000 := fun h => by
      obtain ⟨⟨a1, b1⟩, ⟨a2, b2⟩, ⟨a3, b3⟩, ⟨a4, b4⟩, ⟨a5, b5⟩, ⟨a6, b6⟩, ⟨a7, b7⟩, ⟨a8, b8⟩, ⟨a9, b9⟩⟩ := saleOk_all h
      have l1 := nm_len a1 (by omega)
      have l2 := nm_len a2 (by omega)
      have l3 := nm_len a3 (by omega)
      have l4 := nm_len a4 (by omega)
      have l5 := nm_len a5 (by omega)
      have l6 := nm_len a6 (by omega)
      have l7 := nm_len a7 (by omega)
      have l8 := nm_len a8 (by omega)
      have l9 := nm_len a9 (by omega)
      rw [lineS, ofL_size, wordsS]
      split <;> simp [lineL, voidL, saleL] <;> omega
    have C9 := Lib.hid (fun W (h : RowKit.Below w0.heap.size w0 W) (ho : saleOk x = true) => (readSale_any (lineS x) x 0 (.inl ⟨rfl, ho, rfl⟩) (hlx ho) W (HV W h)).mono fun e w' q => gv h q)
    have C10 := Lib.hid (fun W (h : RowKit.Below w0.heap.size w0 W) => (writeSale_any y W (HV W h)).mono fun e w' q => gv h q)
    have hy0 : er = 0 → writeS y = (line, 0) := fun e => by
      rcases hy with ⟨_, i1, i2⟩ | ⟨i1, _, _⟩
      · unfold writeS; rw [i1, i2]; rfl
      · omega
    have hx0 : (writeS x).2 = 0 → saleOk x = true ∧ (writeS x).1 = lineS x := fun e => by
      unfold writeS at e ⊢
      cases ho : saleOk x with
      | true => exact ⟨rfl, by simp⟩
      | false => simp [ho] at e
    have Hy0 := Lib.hid hy0
    have Hx0 := Lib.hid hx0
    have CS := Lib.hid (fun W (h : RowKit.Below w0.heap.size w0 W) => (checkSale_any x W).mono fun e w' q => gv h q)
    have CR := Lib.hid (fun W (h : RowKit.Below w0.heap.size w0 W) => (checkSaleR_any x W).mono fun e w' q => gv h q)
    obtain ⟨c1, hc1⟩ : ∃ c, c = (checkSales xs).1 := ⟨_, rfl⟩
    rw [← hc1] at C1 C2
    obtain ⟨c2, hc2⟩ : ∃ c, c = (checkSales xs).2 := ⟨_, rfl⟩
    rw [← hc2] at C1 C2
    obtain ⟨zs, hzs⟩ : ∃ c, c = (appendSale xs x).1 := ⟨_, rfl⟩
    rw [← hzs] at C3 C4
    obtain ⟨ze, hze⟩ : ∃ c, c = (appendSale xs x).2 := ⟨_, rfl⟩
    rw [← hze] at C3 C4
    obtain ⟨t1, ht1⟩ : ∃ c, c = (writeS x).1 := ⟨_, rfl⟩
    rw [← ht1] at C5 C6 Hx0
    obtain ⟨te, hte⟩ : ∃ c, c = (writeS x).2 := ⟨_, rfl⟩
    rw [← hte] at C5 C6 Hx0
    obtain ⟨ck, hck⟩ : ∃ c : Int, c = (if saleOk x then 0 else 1) := ⟨_, rfl⟩
    rw [← hck] at CS CR
    have CSm := Lib.hid (fun W av c bv d (h : RowKit.Below w0.heap.size w0 W) (i1 : Lst W 9 cS av zs.length c zs) (i2 : Lst W 9 cS bv zs.length d zs) => (sameSales_any av _ c zs bv _ d zs W i1 i2).mono fun e w' (q : Gives W _ e w') => (⟨q.1.trans (by simp), q.2⟩ : Gives W (.bool true) e w'))
    have hBw := hB1
    clear hc1 hc2 hzs hze ht1 hte hck hy hy0 hx0 hlx HL HV hL hV hp hB0 hB1 h1
    have HkX := Lib.hid kX
    go_enter Tryz.func3, Tryz.ntmps3
    go_wp2_with (go_at_call 5; refine (hso _).mono ?_; rintro e w3 ⟨rfl, rfl⟩)
    rw [← hw0]
    clear hw0 hso
    refine (C1.out w0 (Below.refl _ _)).mono ?_
    rintro e w1 ⟨rfl, -, hB⟩
    go_wp2_with (fail)
    refine (C2.out w1 hB).mono ?_
    rintro e w2 ⟨rfl, -, hB⟩
    have kx := kX.below' hB
    go_wp2_with (first
      | (refine wpList_load_mid rfl 24 _ rfl w.heap.size 0 rfl (Go.Proofs.YtkeppoiomjhkpaaGreatDoor.cS x) _ (kx.range 0 _ (fun j v h => by simpa using h)) Tryz.underlying24 rfl (by kernel_rfl) ?_)
      | fail)
    refine (C3.out w2 hB).mono ?_
    rintro e w3 ⟨a3, d3, rfl, hl3, -, hB⟩
    have kx := kX.below' hB
    go_wp2_with (first
      | (refine wpList_load_mid rfl 24 _ rfl w.heap.size 0 rfl (Go.Proofs.YtkeppoiomjhkpaaGreatDoor.cS x) _ (kx.range 0 _ (fun j v h => by simpa using h)) Tryz.underlying24 rfl (by kernel_rfl) ?_)
      | fail)
    refine (C4.out w3 hB).mono ?_
    rintro e w4 ⟨a4, d4, rfl, hl4, hb, hB⟩
    have hl3 := hl3.below hb
    have kx := kX.below' hB
    go_wp2_with (first
      | (refine wpList_load_mid rfl 24 _ rfl w.heap.size 0 rfl (Go.Proofs.YtkeppoiomjhkpaaGreatDoor.cS x) _ (kx.range 0 _ (fun j v h => by simpa using h)) Tryz.underlying24 rfl (by kernel_rfl) ?_)
      | fail)
    refine (C5.out w4 hB).mono ?_
    rintro e w5 ⟨rfl, hb, hB⟩
    have hl3 := hl3.below hb
    have hl4 := hl4.below hb
    have kx := kX.below' hB
    go_wp2_with (first
      | (refine wpList_load_mid rfl 24 _ rfl w.heap.size 0 rfl (Go.Proofs.YtkeppoiomjhkpaaGreatDoor.cS x) _ (kx.range 0 _ (fun j v h => by simpa using h)) Tryz.underlying24 rfl (by kernel_rfl) ?_)
      | fail)
    refine (C6.out w5 hB).mono ?_
    rintro e w6 ⟨rfl, hb, hB⟩
    have hl3 := hl3.below hb
    have hl4 := hl4.below hb
    clear kx
    go_wp2_with (fail)
    refine (C7.out w6 hB).mono ?_
    rintro e w7 ⟨rfl, hb, hB⟩
    have hl3 := hl3.below hb
    have hl4 := hl4.below hb
    clear hb C1 C2 C3 C4 C5 C6 C7
    go_wp2_with (fail)
    have kY := Blk.new w7 24 (Go.Proofs.YtkeppoiomjhkpaaGreatDoor.cS y).toArray
    obtain ⟨w8, hw8⟩ : ∃ w8, w8 = w7.alloc (.cells (Go.Proofs.YtkeppoiomjhkpaaGreatDoor.cS y).toArray 24) := ⟨_, rfl⟩
    have hz : RowKit.Below w7.heap.size w7 w8 := hw8 ▸ (Below.refl _ w7).alloc (Nat.le_refl _) _
    rw [← hw8] at kY ⊢
    have hB := hB.trans (hz.mono hB.size)
    have hl3 := hl3.below hz
    have hl4 := hl4.below hz
    obtain ⟨bY, hbY⟩ : ∃ b, b = w7.heap.size := ⟨_, rfl⟩
    rw [← hbY] at kY ⊢
    clear hw8 hz hbY
    refine (C8.out w8 hB).mono ?_
    rintro e w9 ⟨rfl, hb, hB⟩
    have hl3 := hl3.below hb
    have hl4 := hl4.below hb
    have kY := kY.below' hb
    clear hb C8
    go_upto_region 11 with fail
    have kZ := Blk.new w9 24 (Go.Proofs.YtkeppoiomjhkpaaGreatDoor.cS y).toArray
    obtain ⟨wA, hwA⟩ : ∃ wA, wA = w9.alloc (.cells (Go.Proofs.YtkeppoiomjhkpaaGreatDoor.cS y).toArray 24) := ⟨_, rfl⟩
    have hz : RowKit.Below w9.heap.size w9 wA := hwA ▸ (Below.refl _ w9).alloc (Nat.le_refl _) _
    rw [← hwA] at kZ ⊢
    have hB := hB.trans (hz.mono hB.size)
    have hl3 := hl3.below hz
    have hl4 := hl4.below hz
    have kY := kY.below' hz
    have kx := kX.below' hB
    obtain ⟨bZ, hbZ⟩ : ∃ b, b = w9.heap.size := ⟨_, rfl⟩
    rw [← hbZ] at kZ ⊢
    clear hwA hz hbZ
    have cX := blk_regrown kx
    have cY := blk_regrown kY
    have cZ := blk_regrown kZ
    have cF := regrown_call (w := wA) (v := .bool true) (fun W' h => CSm.out W' a3 d3 a4 d4 (hB.trans (h.mono hB.size)) (hl3.below h) (hl4.below h))
    have cG := regrown_call (w := wA) (v := .int .i64 ck) (fun W' h => (CS.out W' (hB.trans (h.mono hB.size))).mono fun e w' q => ⟨q.1, q.2.1⟩)
    have cH := regrown_call (w := wA) (v := .int .i64 ck) (fun W' h => (CR.out W' (hB.trans (h.mono hB.size))).mono fun e w' q => ⟨q.1, q.2.1⟩)
    have hne : ∀ W, (binOp .neq 24 (aS y) (aS y)).run Tryz.prog W = .ok (.bool false) W := fun W => by rw [neqS, decide_eq_true rfl]; rfl
    have gg := guardS
    refine wp_region_quiet_below (by kernel_rfl) (by kernel_rfl) ?_
    repeat (go_big_quiet_step (first | (with_reducible exact cF _ _) | (with_reducible exact cG _ _) | (with_reducible exact cH _ _)))
    refine wpQuiet_nil ?_
    intro _ hw'
    obtain ⟨⟨dq, osq⟩, hw''⟩ := hw'
    subst hw''
    have hbq := below_regrown wA dq osq
    obtain ⟨wB, hwB⟩ : ∃ wB, wB = grow (redrawn wA dq) osq := ⟨_, rfl⟩
    rw [← hwB] at hbq
    have hB := hB.trans (hbq.mono hB.size)
    have kY := kY.below' hbq
    have HkY := Lib.hid kY
    clear cX cY cZ cF cG cH hne gg kx kZ kY hl3 hl4 hbq CSm CS CR
    rw [← hwB]
    clear hwB
    by_cases e0 : te = 0
    · obtain ⟨ho, hl⟩ := Hx0.out e0
      have D9 := C9.out wB hB ho
      rw [← hl] at D9
      have kY := HkY.out
      subst e0
      clear hl ho Hx0
      go_wp2_with (fail)
      refine D9.mono ?_
      clear D9
      rintro e wC ⟨rfl, hb, hB⟩
      have kY := kY.below' hb
      clear hb
      go_upto_region 15 with fail
      have kQ := Blk.new wC 24 (Go.Proofs.YtkeppoiomjhkpaaGreatDoor.cS x).toArray
      obtain ⟨wD, hwD⟩ : ∃ wD, wD = wC.alloc (.cells (Go.Proofs.YtkeppoiomjhkpaaGreatDoor.cS x).toArray 24) := ⟨_, rfl⟩
      have hz : RowKit.Below wC.heap.size wC wD := hwD ▸ (Below.refl _ wC).alloc (Nat.le_refl _) _
      rw [← hwD] at kQ ⊢
      have hB := hB.trans (hz.mono hB.size)
      have kY := kY.below' hz
      have kx := HkX.out.below' hB
      obtain ⟨bQ, hbQ⟩ : ∃ b, b = wC.heap.size := ⟨_, rfl⟩
      rw [← hbQ] at kQ ⊢
      clear hwD hz hbQ
      have cX := kx.cell
      have cQ := kQ.cell
      have hne : ∀ W, (binOp .neq 24 (aS x) (aS x)).run Tryz.prog W = .ok (.bool false) W := fun W => by rw [neqS, decide_eq_true rfl]; rfl
      have gg := guardS
      go_upto_region 17 with (first
        | (refine wpList_load_mid rfl 24 _ rfl bQ 0 rfl (Go.Proofs.YtkeppoiomjhkpaaGreatDoor.cS x) _ (kQ.range 0 _ (fun j v h => by simpa using h)) Tryz.underlying24 rfl (by kernel_rfl) ?_)
        | (refine wpList_load_mid rfl 24 _ rfl w.heap.size 0 rfl (Go.Proofs.YtkeppoiomjhkpaaGreatDoor.cS x) _ (kx.range 0 _ (fun j v h => by simpa using h)) Tryz.underlying24 rfl (by kernel_rfl) ?_)
        | fail)
      clear cX cQ hne gg kx kQ
      by_cases r0 : er = 0
      · subst r0
        have hwy := Hy0.out rfl
        have D10 := C10.out wD hB
        rw [hwy] at D10
        have kY := kY
        clear hwy
        go_wp2_with (first
          | (refine wpList_load_mid rfl 24 _ rfl bY 0 rfl (Go.Proofs.YtkeppoiomjhkpaaGreatDoor.cS y) _ (kY.range 0 _ (fun j v h => by simpa using h)) Tryz.underlying24 rfl (by kernel_rfl) ?_)
          | fail)
        refine D10.mono ?_
        clear D10
        rintro e wF ⟨rfl, hb, hB⟩
        have hq1 : (line.toList != line.toList) = false := by simp
        have hq2 : (line.toList == line.toList) = true := by simp
        clear hb kY
        go_wp2_with (fail)
        refine (CP.out wF hB).mono ?_
        rintro e wG ⟨rfl, hb, hB⟩
        go_wp2_with (fail)
        go_ret
        exact ⟨rfl, hBw.trans (hB.mono hBw.size)⟩
      · have r1 : (er == 0) = false := by simpa using r0
        have R0 := Lib.hid r0
        clear r0 kY
        go_wp2_with (fail)
        refine (CP.out wD hB).mono ?_
        rintro e wG ⟨rfl, hb, hB⟩
        go_wp2_with (fail)
        go_ret
        exact ⟨rfl, hBw.trans (hB.mono hBw.size)⟩
    · have e1 : (te == 0) = false := by simpa using e0
      have E0 := Lib.hid e0
      have kY := HkY.out
      clear e0 Hx0 C9
      by_cases r0 : er = 0
      · subst r0
        have hwy := Hy0.out rfl
        have D10 := C10.out wB hB
        rw [hwy] at D10
        have kY := kY
        clear hwy
        go_wp2_with (first
          | (refine wpList_load_mid rfl 24 _ rfl bY 0 rfl (Go.Proofs.YtkeppoiomjhkpaaGreatDoor.cS y) _ (kY.range 0 _ (fun j v h => by simpa using h)) Tryz.underlying24 rfl (by kernel_rfl) ?_)
          | fail)
        refine D10.mono ?_
        clear D10
        rintro e wF ⟨rfl, hb, hB⟩
        have hq1 : (line.toList != line.toList) = false := by simp
        have hq2 : (line.toList == line.toList) = true := by simp
        clear hb kY
        go_wp2_with (fail)
        refine (CP.out wF hB).mono ?_
        rintro e wG ⟨rfl, hb, hB⟩
        go_wp2_with (fail)
        go_ret
        exact ⟨rfl, hBw.trans (hB.mono hBw.size)⟩
      · have r1 : (er == 0) = false := by simpa using r0
        have R0 := Lib.hid r0
        clear r0 kY
        go_wp2_with (fail)
        refine (CP.out wB hB).mono ?_
        rintro e wG ⟨rfl, hb, hB⟩
        go_wp2_with (fail)
        go_ret
        exact ⟨rfl, hBw.trans (hB.mono hBw.size)⟩

end Go.Proofs.YtkeppoiomjhkpaaGreatDoor

/-
  What the rows' lists of variables give.
-/
namespace Go.Proofs.YtkeppoiomjhkpaaGreatDoor
open Go.RowKit Lg

theorem row_err : ∀ u, Tryz.prog.typeName? 3 u = some "*errors.errorString" → u = 246 :=
  fun u h => typeName_ptr_named (nm := "errors.errorString") (by kernel_rfl) (by kernel_rfl) (by decide) u h

theorem pow_data : (Rows.laid_internal_strconv_uint64pow10 : DataW Unit) = Lib.tabData .u64 Lib.pow10Tab := by kernel_rfl

theorem vs_of_laid {W : World} (h : laidMet Tryz.prog Rows.awardSalesRow.laid W) (hS : W.ShapedOpen Tryz.prog) : Vs W := by
  have h3 := h.tail.tail
  have h5 := h3.tail.tail
  have h6 := h5.tail
  have e3 : laidMet Tryz.prog (("internal/strconv.uint64pow10", Lib.tabData .u64 Lib.pow10Tab) :: [("unicode/utf8.acceptRanges", Rows.laid_unicode_utf8_acceptRanges), ("strconv.ErrRange", Rows.laid_strconv_ErrRange), ("strconv.ErrSyntax", Rows.laid_strconv_ErrSyntax), ("unicode/utf8.first", Rows.laid_unicode_utf8_first)]) W := by
    rw [← pow_data]; exact h3
  obtain ⟨a1, s1, hv1, -, -, -⟩ := laid_sentinel h5 (show Tryz.prog.globalNamed "strconv.ErrRange" = some 1 by kernel_rfl) (show (Tryz.prog.globals[1]?).map (·.type) = some 133 by kernel_rfl) Tryz.underlying133 row_err Tryz.underlying246 Tryz.underlying248 rfl rfl Tryz.underlying9 (by kernel_rfl) (by kernel_rfl)
  obtain ⟨a2, s2, hv2, -, -, -⟩ := laid_sentinel h6 (show Tryz.prog.globalNamed "strconv.ErrSyntax" = some 0 by kernel_rfl) (show (Tryz.prog.globals[0]?).map (·.type) = some 133 by kernel_rfl) Tryz.underlying133 row_err Tryz.underlying246 Tryz.underlying248 rfl rfl Tryz.underlying9 (by kernel_rfl) (by kernel_rfl)
  refine ⟨?_, ?_, ?_, ?_⟩
  · exact Lib.tabIs_of_head tab_named (show (Tryz.prog.globals[2]?).map (·.type) = some 243 by kernel_rfl) Tryz.underlying243 Tryz.underlying214 (by kernel_rfl) (by kernel_rfl) e3
  · have := World.var?_cell (show Tryz.prog.globalNamed "strconv.ErrSyntax" = some 0 by kernel_rfl) hv2 0
    exact ⟨_, by simpa using this, .inr ⟨_, _, rfl⟩⟩
  · have := World.var?_cell (show Tryz.prog.globalNamed "strconv.ErrRange" = some 1 by kernel_rfl) hv1 0
    exact ⟨_, by simpa using this, .inr ⟨_, _, rfl⟩⟩
  · exact Tryz.laysM146.s1_3 W hS

end Go.Proofs.YtkeppoiomjhkpaaGreatDoor

/-
  What comes in: lists of numbers, each in its range.
-/
namespace Go.Proofs.YtkeppoiomjhkpaaGreatDoor
open Go.RowKit Lg Go.ChangeShapes Go.WideShapes Go.Deep

section
variable {H : Type} {enc : TypeId × Value → H} {w : World} {spare : Nat → Bool} {held : Bool}
theorem dec_Iw (n : Nat) (cs : List Value) (y : DataW H × List MemPlace) (_ : cs.length = 1) (h : DataW.trod enc Tryz.prog w 0 spare held n 3 cs = some y) : ∃ z : Int, cs = cI z ∧ (Lit.int .i64 z).wf = true := by
  obtain ⟨z0, h0, h1⟩ := one_cell Tryz.underlying3 h rfl
  exact ⟨z0, h0, h1⟩
end
end Go.Proofs.YtkeppoiomjhkpaaGreatDoor
