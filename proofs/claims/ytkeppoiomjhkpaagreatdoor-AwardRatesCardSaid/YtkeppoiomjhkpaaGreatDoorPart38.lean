import Derived.Test.YtkeppoiomjhkpaaGreatDoorPart16
import Derived.Test.YtkeppoiomjhkpaaGreatDoorPart37
import Derived.Deep.RegionHeld3
import Derived.Test.YtkeppoiomjhkpaaGreatDoorPart17
import Derived.OrdersHeld
import Derived.Deep.RegionHeld
/-
  Walks: award.ReadRate$1 at the line of a well-formed rate.
-/
namespace Go.Proofs.YtkeppoiomjhkpaaGreatDoor
open Go.RowKit Lg Go.Sort Go.Shelf

theorem grown_setC {w W : World} {b : Nat} (h : w.grownBy W (some b)) (o : Nat) (v : Value) : w.grownBy (W.setCell ⟨b, o, none⟩ v) (some b) := grown_trans h (grown_set W b o v)
theorem grown_drew {w W : World} {r : Option Nat} (h : w.grownBy W r) : w.grownBy W.drew r := ⟨h.os, h.tape, h.output, h.size, h.block⟩

set_option maxRecDepth 100000 in
set_option maxHeartbeats 6400000 in
theorem readRate1_ok (y : Rate) (ho : rateOk y = true) (bX bL bs bw n : Nat) (W : World) (hR : Rdy W bX bL bs bw n (lineR y) (wordsR y)) (kX : Blk W bX #[.int .i64 0, .int .i64 0, .int .i64 0, .string ⟨#[]⟩, .int .i64 0, .int .i64 0, .int .i64 0, .int .i64 0, .int .i64 0] 43) :
    Calls Tryz.prog 61 #[.slice (some ⟨bs, 0, none⟩) n n, .func (.func 85) #[] #[.pointer (some ⟨bw, 0, none⟩)], .pointer (some ⟨bX, 0, none⟩), .pointer (some ⟨bL, 0, none⟩)] W fun e w' => e = .returned (.tuple #[]) ∧ Blk w' bX (cR y).toArray 43 ∧ W.grownBy w' (some bX) := by
  obtain ⟨⟨a1, b1⟩, ⟨a2, b2⟩, ⟨a3, b3⟩, ⟨a4, b4⟩, ⟨a5, b5⟩, ⟨a6, b6⟩, ⟨a7, b7⟩, ⟨a8, b8⟩, hgo⟩ := rateOk_all ho
  have hwr := fun W' (hg : W.grownBy W' (some bX)) => writeRate_any y W' (hR.grown hg).vs
  have hwy : writeR y = (lineR y, 0) := by unfold writeR; rw [ho]; rfl
  rw [hwy] at hwr
  have HWr := Lib.hid hwr
  have HLn := Lib.hid (fun W' (hg : W.grownBy W' (some bX)) => (hR.grown hg).ln)
  have HW2 := Lib.hid (fun W' (hg : W.grownBy W' (some bX)) => (hR.grown hg).wd 2)
  have HW4 := Lib.hid (fun W' (hg : W.grownBy W' (some bX)) => (hR.grown hg).wd 4)
  have hlt := hR.len
  clear hwr hwy
  by_cases h0 : y.of_ = 0
  · have hw : wordsR y = [nm y.id, nm y.known, rateL, nm y.from_, goodsL y.goods, nm y.finder.num, nm y.finder.den, nm y.cart, nm y.store] := by unfold wordsR; rw [if_neg (by simpa using h0)]
    rw [hw] at hR hlt
    rw [hw] at HW2 HW4
    have HN0 := Lib.hid (hR.num 0 y.id rfl (by omega) (by omega))
    have HN1 := Lib.hid (hR.num 1 y.known rfl (by omega) (by omega))
    have HN3 := Lib.hid (hR.num 3 y.from_ rfl (by omega) (by omega))
    have HN5 := Lib.hid (hR.num 5 y.finder.num rfl (by omega) (by omega))
    have HN6 := Lib.hid (hR.num 6 y.finder.den rfl (by omega) (by omega))
    have HN7 := Lib.hid (hR.num 7 y.cart rfl (by omega) (by omega))
    have HN8 := Lib.hid (hR.num 8 y.store rfl (by omega) (by omega))
    have HC2 := Lib.hid (fun W' (hg : W.grownBy W' (some bX)) => HW2.out W' hg _ rfl)
    have HC4 := Lib.hid (fun W' (hg : W.grownBy W' (some bX)) => HW4.out W' hg _ rfl)
    obtain ⟨ln, hln⟩ : ∃ ln, ln = lineR y := ⟨_, rfl⟩
    rw [← hln] at HLn HWr
    clear hln hR hw HW4 HW2
    obtain rfl : n = 9 := by simpa using hlt.symm
    have hv2 : ((ofL rateL).toList == [118, 111, 105, 100]) = false := by rw [ByteArray.toList_eq]; rfl
    have hgc : (y.goods = ⟨#[]⟩ ∧ ofL (goodsL y.goods) = allS) ∨ (y.goods ≠ ⟨#[]⟩ ∧ ofL (goodsL y.goods) = y.goods ∧ y.goods ≠ allS) := by
      have hgo := hgo h0
      unfold goodsL
      by_cases g : y.goods = ⟨#[]⟩
      · rw [if_pos g]; exact .inl ⟨g, rfl⟩
      · rw [if_neg g]
        refine .inr ⟨g, ByteArray.ext (Array.toList_inj.1 rfl), fun e => ?_⟩
        simp only [goodsOk, g, decide_false, Bool.false_or, Bool.and_eq_true, Bool.not_eq_true', decide_eq_false_iff_not] at hgo
        exact hgo.2 e
    have Hgc := Lib.hid hgc
    have H0 := Lib.hid h0
    clear hgc hgo h0 hlt ho a1 b1 a2 b2 a3 b3 a4 b4 a5 b5 a6 b6 a7 b7 a8 b8
    generalize ofL rateL = s2 at *
    generalize ofL (goodsL y.goods) = s4 at *
    go_enter Tryz.func61, Tryz.ntmps61
    have hG := World.grownBy.refl W (some bX)
    go_wp2_with (fail)
    refine (HN0.out _ hG).mono ?_
    rintro e wq0 ⟨rfl, hBq, hG⟩
    have kX := kX.below' hBq
    clear hBq
    go_wp2_with (fail)
    refine (HN1.out _ hG).mono ?_
    rintro e wq1 ⟨rfl, hBq, hG⟩
    have kX := kX.below' hBq
    clear hBq
    have e5 := kX.cell
    have g5 := kX.frozen
    have l5 := kX.lt
    go_upto_region 1 with fail
    obtain ⟨wsa, hwsa⟩ : ∃ ws, ws = ((wq1).setCell ⟨bX, 0, none⟩ (.int .i64 y.id)).setCell ⟨bX, 1, none⟩ (.int .i64 y.known) := ⟨_, rfl⟩
    rw [← hwsa]
    have kX : Blk wsa bX #[.int .i64 y.id, .int .i64 y.known, .int .i64 0, .string ⟨#[]⟩, .int .i64 0, .int .i64 0, .int .i64 0, .int .i64 0, .int .i64 0] 43 := hwsa ▸ ((kX.setCell 0 (.int .i64 y.id)).setCell 1 (.int .i64 y.known))
    have hG : W.grownBy wsa (some bX) := hwsa ▸ (grown_trans (grown_trans hG (grown_set _ bX 0 (.int .i64 y.id))) (grown_set _ bX 1 (.int .i64 y.known)))
    clear hwsa e5 g5 l5
    have d2 := HC2.out _ hG
    go_upto_region 3 with fail
    go_upto_region 4 with (first | (go_at_call 52; refine (unless_ok _).mono ?_; rintro e w4 ⟨rfl, rfl⟩) | fail)
    have HN3p : ∀ W', RowKit.Below wsa.heap.size wsa W' → Calls Tryz.prog 85 #[.int .i64 3, .pointer (some ⟨bw, 0, none⟩)] W' fun e w' => e = .returned (.int .i64 y.from_) ∧ RowKit.Below W'.heap.size W' w' ∧ RowKit.Below wsa.heap.size wsa w' := fun W' hb => (HN3.out W' (grown_trans hG (grown_of_below _ hb))).mono fun e w' h => ⟨h.1, h.2.1, hb.trans (h.2.1.mono hb.size)⟩
    have HN3q := Lib.hid HN3p
    clear HN3p
    have HS := Lib.hid (fun W' (hg : W.grownBy W' (some bX)) => (HC4.out W' hg : W'.cell? ⟨bs, 4, none⟩ = some (.string s4)))
    have HK := Lib.hid (fun W' (hb : RowKit.Below wsa.heap.size wsa W') => kX.below' hb)
    go_cut [26] (fun c26 W' => Blk W' bX #[.int .i64 y.id, .int .i64 y.known, .int .i64 y.from_, .string s4, .int .i64 0, .int .i64 0, .int .i64 0, .int .i64 0, .int .i64 0] 43 ∧ W.grownBy W' (some bX))
    case first =>
      go_region_held3 (fun w' => w'.cell? ⟨bs, 4, none⟩ = some (.string s4))
        (((with_reducible refine HS.out _ ?_); repeat (first | (with_reducible assumption) | (with_reducible refine grown_setC ?_ _ _) | (with_reducible refine grown_drew ?_))))
        (first
          | ((with_reducible refine (HN3q.out _ (by repeat (first | (with_reducible assumption) | (with_reducible exact Below.refl _ _) | (with_reducible refine Below.alloc ?_ ?_ _) | (with_reducible refine Below.setCell ?_ ?_ _) | (with_reducible refine Below.drew ?_) | omega | (simp <;> omega) | (dsimp only; omega)))).mono ?_); rintro e w3 ⟨rfl, hBa, hba⟩; have hsa := hba.size; have hG3 := grown_trans hG (grown_of_below _ hba); have kY := HK.out _ hba; have e5 := kY.cell; have g5 := kY.frozen; have l5 := kY.lt)
          | fail)
      all_goals
        go_wp2_with fail
        go_meet
        exact ⟨(kY.setCell 2 _).setCell 3 _, grown_trans (grown_trans hG3 (grown_set _ bX 2 _)) (grown_set _ bX 3 _)⟩
    case rest =>
      obtain ⟨kX', hG'⟩ := hcut
      obtain ⟨wm, hwm⟩ : ∃ wm, wm = wc := ⟨_, rfl⟩
      rw [← hwm] at kX' hG' ⊢
      have kX := kX'
      have hG := hG'
      clear hwm kX' hG' HN3q HS HK
      have e5 := kX.cell
      have g5 := kX.frozen
      have l5 := kX.lt
      rcases Hgc.out with ⟨g1, g2⟩ | ⟨g1, g2, g3⟩
      · have hqa : (s4.toList == [97, 108, 108]) = true := by rw [g2, ByteArray.toList_eq]; rfl
        have G1 := Lib.hid g1
        clear g1 g2 Hgc
        go_upto_region 7 with fail
        obtain ⟨wsc, hwsc⟩ : ∃ ws, ws = (wm).setCell ⟨bX, 3, none⟩ (.string ⟨#[]⟩) := ⟨_, rfl⟩
        rw [← hwsc]
        have kX : Blk wsc bX #[.int .i64 y.id, .int .i64 y.known, .int .i64 y.from_, .string ⟨#[]⟩, .int .i64 0, .int .i64 0, .int .i64 0, .int .i64 0, .int .i64 0] 43 := hwsc ▸ (kX.setCell 3 (.string ⟨#[]⟩))
        have hG : W.grownBy wsc (some bX) := hwsc ▸ (grown_trans hG (grown_set _ bX 3 (.string ⟨#[]⟩)))
        clear hwsc e5 g5 l5
        have e5 := kX.cell
        have g5 := kX.frozen
        have l5 := kX.lt
        clear e5 g5 l5
        go_wp2_with (fail)
        refine (HN5.out _ hG).mono ?_
        rintro e wq2 ⟨rfl, hBq, hG⟩
        have kX := kX.below' hBq
        clear hBq
        go_wp2_with (fail)
        refine (HN6.out _ hG).mono ?_
        rintro e wq3 ⟨rfl, hBq, hG⟩
        have kX := kX.below' hBq
        clear hBq
        have e5 := kX.cell
        have g5 := kX.frozen
        have l5 := kX.lt
        go_upto_region 8 with fail
        obtain ⟨wsd, hwsd⟩ : ∃ ws, ws = ((wq3).setCell ⟨bX, 4, none⟩ (.int .i64 y.finder.num)).setCell ⟨bX, 5, none⟩ (.int .i64 y.finder.den) := ⟨_, rfl⟩
        rw [← hwsd]
        have kX : Blk wsd bX #[.int .i64 y.id, .int .i64 y.known, .int .i64 y.from_, .string ⟨#[]⟩, .int .i64 y.finder.num, .int .i64 y.finder.den, .int .i64 0, .int .i64 0, .int .i64 0] 43 := hwsd ▸ ((kX.setCell 4 (.int .i64 y.finder.num)).setCell 5 (.int .i64 y.finder.den))
        have hG : W.grownBy wsd (some bX) := hwsd ▸ (grown_trans (grown_trans hG (grown_set _ bX 4 (.int .i64 y.finder.num))) (grown_set _ bX 5 (.int .i64 y.finder.den)))
        clear hwsd e5 g5 l5
        go_wp2_with (fail)
        refine (HN7.out _ hG).mono ?_
        rintro e wq4 ⟨rfl, hBq, hG⟩
        have kX := kX.below' hBq
        clear hBq
        go_wp2_with (fail)
        refine (HN8.out _ hG).mono ?_
        rintro e wq5 ⟨rfl, hBq, hG⟩
        have kX := kX.below' hBq
        clear hBq
        have e5 := kX.cell
        have g5 := kX.frozen
        have l5 := kX.lt
        go_upto_region 9 with fail
        obtain ⟨wse, hwse⟩ : ∃ ws, ws = ((wq5).setCell ⟨bX, 6, none⟩ (.int .i64 y.cart)).setCell ⟨bX, 7, none⟩ (.int .i64 y.store) := ⟨_, rfl⟩
        rw [← hwse]
        have kX : Blk wse bX #[.int .i64 y.id, .int .i64 y.known, .int .i64 y.from_, .string ⟨#[]⟩, .int .i64 y.finder.num, .int .i64 y.finder.den, .int .i64 y.cart, .int .i64 y.store, .int .i64 0] 43 := hwse ▸ ((kX.setCell 6 (.int .i64 y.cart)).setCell 7 (.int .i64 y.store))
        have hG : W.grownBy wse (some bX) := hwse ▸ (grown_trans (grown_trans hG (grown_set _ bX 6 (.int .i64 y.cart))) (grown_set _ bX 7 (.int .i64 y.store)))
        clear hwse e5 g5 l5
        have kX : Blk wse bX (cR y).toArray 43 := by
          have e : (cR y).toArray = #[.int .i64 y.id, .int .i64 y.known, .int .i64 y.from_, .string ⟨#[]⟩, .int .i64 y.finder.num, .int .i64 y.finder.den, .int .i64 y.cart, .int .i64 y.store, .int .i64 0] := by simp only [cR, H0.out, G1.out]
          rw [e]; exact kX
        have e5 := kX.cell
        have g5 := kX.frozen
        have l5 := kX.lt
        go_wp2_with (first
          | (refine wpList_load_mid rfl 43 _ rfl bX 0 rfl (cR y) _ (kX.range 0 _ (fun j v h => by simpa using h)) Tryz.underlying43 rfl (by kernel_rfl) ?_)
          | fail)
        refine (HWr.out _ hG).mono ?_
        clear HWr
        rintro e w9 ⟨rfl, hB9⟩
        have kX := kX.below' hB9
        have hG := grown_trans hG (grown_of_below _ hB9)
        have cl := HLn.out _ hG
        have hq : (ln.toList == ln.toList) = true := by simp
        clear e5 g5 l5 HLn
        go_wp2_with (go_at_call 52; refine (unless_ok _).mono ?_; rintro e w4 ⟨rfl, rfl⟩)
        go_end0
        exact ⟨rfl, kX, hG⟩
      · have hqa : (s4.toList == [97, 108, 108]) = false := by
          have := toList_beq s4 allS
          rw [decide_eq_false (by rw [g2]; exact g3), ByteArray.toList_eq allS] at this
          exact this
        have G2 := Lib.hid g2
        clear g1 g2 g3 Hgc
        go_upto_region 7 with fail
        clear e5 g5 l5
        go_wp2_with (fail)
        refine (HN5.out _ hG).mono ?_
        rintro e wq2 ⟨rfl, hBq, hG⟩
        have kX := kX.below' hBq
        clear hBq
        go_wp2_with (fail)
        refine (HN6.out _ hG).mono ?_
        rintro e wq3 ⟨rfl, hBq, hG⟩
        have kX := kX.below' hBq
        clear hBq
        have e5 := kX.cell
        have g5 := kX.frozen
        have l5 := kX.lt
        go_upto_region 8 with fail
        obtain ⟨wsd, hwsd⟩ : ∃ ws, ws = ((wq3).setCell ⟨bX, 4, none⟩ (.int .i64 y.finder.num)).setCell ⟨bX, 5, none⟩ (.int .i64 y.finder.den) := ⟨_, rfl⟩
        rw [← hwsd]
        have kX : Blk wsd bX #[.int .i64 y.id, .int .i64 y.known, .int .i64 y.from_, .string s4, .int .i64 y.finder.num, .int .i64 y.finder.den, .int .i64 0, .int .i64 0, .int .i64 0] 43 := hwsd ▸ ((kX.setCell 4 (.int .i64 y.finder.num)).setCell 5 (.int .i64 y.finder.den))
        have hG : W.grownBy wsd (some bX) := hwsd ▸ (grown_trans (grown_trans hG (grown_set _ bX 4 (.int .i64 y.finder.num))) (grown_set _ bX 5 (.int .i64 y.finder.den)))
        clear hwsd e5 g5 l5
        go_wp2_with (fail)
        refine (HN7.out _ hG).mono ?_
        rintro e wq4 ⟨rfl, hBq, hG⟩
        have kX := kX.below' hBq
        clear hBq
        go_wp2_with (fail)
        refine (HN8.out _ hG).mono ?_
        rintro e wq5 ⟨rfl, hBq, hG⟩
        have kX := kX.below' hBq
        clear hBq
        have e5 := kX.cell
        have g5 := kX.frozen
        have l5 := kX.lt
        go_upto_region 9 with fail
        obtain ⟨wse, hwse⟩ : ∃ ws, ws = ((wq5).setCell ⟨bX, 6, none⟩ (.int .i64 y.cart)).setCell ⟨bX, 7, none⟩ (.int .i64 y.store) := ⟨_, rfl⟩
        rw [← hwse]
        have kX : Blk wse bX #[.int .i64 y.id, .int .i64 y.known, .int .i64 y.from_, .string s4, .int .i64 y.finder.num, .int .i64 y.finder.den, .int .i64 y.cart, .int .i64 y.store, .int .i64 0] 43 := hwse ▸ ((kX.setCell 6 (.int .i64 y.cart)).setCell 7 (.int .i64 y.store))
        have hG : W.grownBy wse (some bX) := hwse ▸ (grown_trans (grown_trans hG (grown_set _ bX 6 (.int .i64 y.cart))) (grown_set _ bX 7 (.int .i64 y.store)))
        clear hwse e5 g5 l5
        have kX : Blk wse bX (cR y).toArray 43 := by
          have e : (cR y).toArray = #[.int .i64 y.id, .int .i64 y.known, .int .i64 y.from_, .string s4, .int .i64 y.finder.num, .int .i64 y.finder.den, .int .i64 y.cart, .int .i64 y.store, .int .i64 0] := by simp only [cR, H0.out, G2.out]
          rw [e]; exact kX
        have e5 := kX.cell
        have g5 := kX.frozen
        have l5 := kX.lt
        go_wp2_with (first
          | (refine wpList_load_mid rfl 43 _ rfl bX 0 rfl (cR y) _ (kX.range 0 _ (fun j v h => by simpa using h)) Tryz.underlying43 rfl (by kernel_rfl) ?_)
          | fail)
        refine (HWr.out _ hG).mono ?_
        clear HWr
        rintro e w9 ⟨rfl, hB9⟩
        have kX := kX.below' hB9
        have hG := grown_trans hG (grown_of_below _ hB9)
        have cl := HLn.out _ hG
        have hq : (ln.toList == ln.toList) = true := by simp
        clear e5 g5 l5 HLn
        go_wp2_with (go_at_call 52; refine (unless_ok _).mono ?_; rintro e w4 ⟨rfl, rfl⟩)
        go_end0
        exact ⟨rfl, kX, hG⟩
  · have hw : wordsR y = [nm y.id, nm y.known, voidL, nm y.of_] := by unfold wordsR; rw [if_pos h0]
    rw [hw] at hR hlt
    rw [hw] at HW2
    have HN0 := Lib.hid (hR.num 0 y.id rfl (by omega) (by omega))
    have HN1 := Lib.hid (hR.num 1 y.known rfl (by omega) (by omega))
    have HN3 := Lib.hid (hR.num 3 y.of_ rfl (by omega) (by omega))
    have HC2 := Lib.hid (fun W' (hg : W.grownBy W' (some bX)) => HW2.out W' hg _ rfl)
    obtain ⟨ln, hln⟩ : ∃ ln, ln = lineR y := ⟨_, rfl⟩
    rw [← hln] at HLn HWr
    clear hln hR hw HW4 HW2
    obtain rfl : n = 4 := by simpa using hlt.symm
    have hv2 : ((ofL voidL).toList == [118, 111, 105, 100]) = true := by rw [ByteArray.toList_eq]; rfl
    have hyv := rateOk_void ho h0
    have Hyv := Lib.hid hyv
    clear hyv h0 hgo hlt ho a1 b1 a2 b2 a3 b3 a4 b4 a5 b5 a6 b6 a7 b7 a8 b8
    generalize ofL voidL = s2 at *
    go_enter Tryz.func61, Tryz.ntmps61
    have hG := World.grownBy.refl W (some bX)
    go_wp2_with (fail)
    refine (HN0.out _ hG).mono ?_
    rintro e wq0 ⟨rfl, hBq, hG⟩
    have kX := kX.below' hBq
    clear hBq
    go_wp2_with (fail)
    refine (HN1.out _ hG).mono ?_
    rintro e wq1 ⟨rfl, hBq, hG⟩
    have kX := kX.below' hBq
    clear hBq
    have e5 := kX.cell
    have g5 := kX.frozen
    have l5 := kX.lt
    go_upto_region 1 with fail
    obtain ⟨wsa, hwsa⟩ : ∃ ws, ws = ((wq1).setCell ⟨bX, 0, none⟩ (.int .i64 y.id)).setCell ⟨bX, 1, none⟩ (.int .i64 y.known) := ⟨_, rfl⟩
    rw [← hwsa]
    have kX : Blk wsa bX #[.int .i64 y.id, .int .i64 y.known, .int .i64 0, .string ⟨#[]⟩, .int .i64 0, .int .i64 0, .int .i64 0, .int .i64 0, .int .i64 0] 43 := hwsa ▸ ((kX.setCell 0 (.int .i64 y.id)).setCell 1 (.int .i64 y.known))
    have hG : W.grownBy wsa (some bX) := hwsa ▸ (grown_trans (grown_trans hG (grown_set _ bX 0 (.int .i64 y.id))) (grown_set _ bX 1 (.int .i64 y.known)))
    clear hwsa e5 g5 l5
    have d2 := HC2.out _ hG
    go_wp2_with (fail)
    refine (HN3.out _ hG).mono ?_
    rintro e wq2 ⟨rfl, hBq, hG⟩
    have kX := kX.below' hBq
    clear hBq
    have e5 := kX.cell
    have g5 := kX.frozen
    have l5 := kX.lt
    go_upto_region 9 with fail
    obtain ⟨wsb, hwsb⟩ : ∃ ws, ws = (wq2).setCell ⟨bX, 8, none⟩ (.int .i64 y.of_) := ⟨_, rfl⟩
    rw [← hwsb]
    have kX : Blk wsb bX #[.int .i64 y.id, .int .i64 y.known, .int .i64 0, .string ⟨#[]⟩, .int .i64 0, .int .i64 0, .int .i64 0, .int .i64 0, .int .i64 y.of_] 43 := hwsb ▸ (kX.setCell 8 (.int .i64 y.of_))
    have hG : W.grownBy wsb (some bX) := hwsb ▸ (grown_trans hG (grown_set _ bX 8 (.int .i64 y.of_)))
    clear hwsb e5 g5 l5
    have kX : Blk wsb bX (cR y).toArray 43 := by
      have e : (cR y).toArray = #[.int .i64 y.id, .int .i64 y.known, .int .i64 0, .string ⟨#[]⟩, .int .i64 0, .int .i64 0, .int .i64 0, .int .i64 0, .int .i64 y.of_] := by
        have h := Hyv.out
        have h3 := congrArg Rate.from_ h
        have h4 := congrArg Rate.goods h
        have h5 := congrArg (fun z : Rate => z.finder.num) h
        have h6 := congrArg (fun z : Rate => z.finder.den) h
        have h7 := congrArg Rate.cart h
        have h8 := congrArg Rate.store h
        simp only [zeroRate] at h3 h4 h5 h6 h7 h8
        simp only [cR, h3, h4, h5, h6, h7, h8]
      rw [e]; exact kX
    have e5 := kX.cell
    have g5 := kX.frozen
    have l5 := kX.lt
    go_wp2_with (first
      | (refine wpList_load_mid rfl 43 _ rfl bX 0 rfl (cR y) _ (kX.range 0 _ (fun j v h => by simpa using h)) Tryz.underlying43 rfl (by kernel_rfl) ?_)
      | fail)
    refine (HWr.out _ hG).mono ?_
    clear HWr
    rintro e w9 ⟨rfl, hB9⟩
    have kX := kX.below' hB9
    have hG := grown_trans hG (grown_of_below _ hB9)
    have cl := HLn.out _ hG
    have hq : (ln.toList == ln.toList) = true := by simp
    clear e5 g5 l5 HLn
    go_wp2_with (go_at_call 52; refine (unless_ok _).mono ?_; rintro e w4 ⟨rfl, rfl⟩)
    go_end0
    exact ⟨rfl, kX, hG⟩

end Go.Proofs.YtkeppoiomjhkpaaGreatDoor

/-
  Walks: award.ReadRate$1 at a line that no well-formed rate writes.
-/
namespace Go.Proofs.YtkeppoiomjhkpaaGreatDoor
open Go.RowKit Lg Go.Sort Go.Shelf

set_option maxRecDepth 100000 in
set_option maxHeartbeats 6400000 in
theorem readRate1_up (line : ByteArray) (hno : ∀ x, rateOk x = true → lineR x ≠ line) (bX bL bs bw n : Nat) (ws : List Bs) (W : World) (hR : Rdy W bX bL bs bw n line ws) (hn : 4 ≤ n) (kX : Blk W bX #[.int .i64 0, .int .i64 0, .int .i64 0, .string ⟨#[]⟩, .int .i64 0, .int .i64 0, .int .i64 0, .int .i64 0, .int .i64 0] 43) :
    Calls Tryz.prog 61 #[.slice (some ⟨bs, 0, none⟩) n n, .func (.func 85) #[] #[.pointer (some ⟨bw, 0, none⟩)], .pointer (some ⟨bX, 0, none⟩), .pointer (some ⟨bL, 0, none⟩)] W fun e w' => e = .panicked [{ v := nfV, recovered := false }] ∧ W.grownBy w' (some bX) := by
  have hlen := hR.len
  obtain ⟨s0, hs0⟩ : ∃ s, ws[0]? = some s := ⟨ws[0]'(by omega), by simp⟩
  obtain ⟨s1, hs1⟩ : ∃ s, ws[1]? = some s := ⟨ws[1]'(by omega), by simp⟩
  obtain ⟨s2, hs2⟩ : ∃ s, ws[2]? = some s := ⟨ws[2]'(by omega), by simp⟩
  obtain ⟨s3, hs3⟩ : ∃ s, ws[3]? = some s := ⟨ws[3]'(by omega), by simp⟩
  have HR := Lib.hid hR
  have Hno := Lib.hid hno
  have Hs0 := Lib.hid hs0
  have Hs1 := Lib.hid hs1
  have Hs2 := Lib.hid hs2
  have Hs3 := Lib.hid hs3
  have Hlen := Lib.hid hlen
  have hnz : (4 : Int) ≤ (n : Int) := by omega
  have hm2 : (2 : Int) < (n : Int) := by omega
  clear hR hno hs0 hs1 hs2 hs3 hlen
  go_enter Tryz.func61, Tryz.ntmps61
  have hG := World.grownBy.refl W (some bX)
  go_wp2_with (fail)
  cases hq0 : numOf s0 with
  | none =>
    refine (HR.out.numUp 0 s0 Hs0.out hq0 _ hG).mono ?_
    rintro e w9 ⟨rfl, hG9⟩
    exact ⟨rfl, rfl, hG9⟩
  | some v0 =>
    refine (HR.out.numOk 0 s0 v0 Hs0.out hq0 _ hG).mono ?_
    rintro e wq0 ⟨rfl, hBq, hG⟩
    have kX := kX.below' hBq
    clear hBq hq0
    go_wp2_with (fail)
    cases hq1 : numOf s1 with
    | none =>
      refine (HR.out.numUp 1 s1 Hs1.out hq1 _ hG).mono ?_
      rintro e w9 ⟨rfl, hG9⟩
      exact ⟨rfl, rfl, hG9⟩
    | some v1 =>
      refine (HR.out.numOk 1 s1 v1 Hs1.out hq1 _ hG).mono ?_
      rintro e wq1 ⟨rfl, hBq, hG⟩
      have kX := kX.below' hBq
      clear hBq hq1
      have e5 := kX.cell
      have g5 := kX.frozen
      have l5 := kX.lt
      go_upto_region 1 with fail
      obtain ⟨wsa, hwsa⟩ : ∃ ws, ws = ((wq1).setCell ⟨bX, 0, none⟩ (.int .i64 v0)).setCell ⟨bX, 1, none⟩ (.int .i64 v1) := ⟨_, rfl⟩
      rw [← hwsa]
      have kX : Blk wsa bX #[.int .i64 v0, .int .i64 v1, .int .i64 0, .string ⟨#[]⟩, .int .i64 0, .int .i64 0, .int .i64 0, .int .i64 0, .int .i64 0] 43 := hwsa ▸ ((kX.setCell 0 (.int .i64 v0)).setCell 1 (.int .i64 v1))
      have hG : W.grownBy wsa (some bX) := hwsa ▸ (grown_trans (grown_trans hG (grown_set _ bX 0 (.int .i64 v0))) (grown_set _ bX 1 (.int .i64 v1)))
      clear hwsa e5 g5 l5
      have d2 := (HR.out.grown hG).wd 2 s2 Hs2.out
      obtain ⟨b2, hb2⟩ : ∃ b2, b2 = ofL s2 := ⟨_, rfl⟩
      rw [← hb2] at d2
      by_cases hv : s2 = voidL
      · have hv2 : (b2.toList == [118, 111, 105, 100]) = true := by rw [hb2, hv, ByteArray.toList_eq]; rfl
        clear hv hb2
        go_wp2_with (fail)
        cases hq3 : numOf s3 with
        | none =>
          refine (HR.out.numUp 3 s3 Hs3.out hq3 _ hG).mono ?_
          rintro e w9 ⟨rfl, hG9⟩
          exact ⟨rfl, rfl, hG9⟩
        | some v3 =>
          refine (HR.out.numOk 3 s3 v3 Hs3.out hq3 _ hG).mono ?_
          rintro e wq2 ⟨rfl, hBq, hG⟩
          have kX := kX.below' hBq
          clear hBq hq3
          have e5 := kX.cell
          have g5 := kX.frozen
          have l5 := kX.lt
          go_upto_region 9 with fail
          obtain ⟨wsb, hwsb⟩ : ∃ ws, ws = (wq2).setCell ⟨bX, 8, none⟩ (.int .i64 v3) := ⟨_, rfl⟩
          rw [← hwsb]
          have kX : Blk wsb bX #[.int .i64 v0, .int .i64 v1, .int .i64 0, .string ⟨#[]⟩, .int .i64 0, .int .i64 0, .int .i64 0, .int .i64 0, .int .i64 v3] 43 := hwsb ▸ (kX.setCell 8 (.int .i64 v3))
          have hG : W.grownBy wsb (some bX) := hwsb ▸ (grown_trans hG (grown_set _ bX 8 (.int .i64 v3)))
          clear hwsb e5 g5 l5
          obtain ⟨x, hx⟩ : ∃ x : Rate, x = ⟨v0, v1, 0, ⟨#[]⟩, ⟨0, 0⟩, 0, 0, v3⟩ := ⟨_, rfl⟩
          have kX : Blk wsb bX (cR x).toArray 43 := by rw [hx]; exact kX
          have hwr := writeRate_any x wsb (HR.out.grown hG).vs
          obtain ⟨t, ht⟩ : ∃ t, t = writeR x := ⟨_, rfl⟩
          rw [← ht] at hwr
          have hcs : (t.2 = 1 ∧ t.1 = ⟨#[]⟩) ∨ (t.2 = 0 ∧ t.1 ≠ line) := by
            unfold writeR at ht
            cases ho : rateOk x with
            | true => rw [ho] at ht; rw [ht]; exact .inr ⟨rfl, Hno.out x ho⟩
            | false => rw [ho] at ht; rw [ht]; exact .inl ⟨rfl, rfl⟩
          clear hx ht
          obtain ⟨tl, te⟩ := t
          dsimp only at hwr hcs
          have e5 := kX.cell
          have g5 := kX.frozen
          have l5 := kX.lt
          go_wp2_with (first
            | (refine wpList_load_mid rfl 43 _ rfl bX 0 rfl (cR x) _ (kX.range 0 _ (fun j v h => by simpa using h)) Tryz.underlying43 rfl (by kernel_rfl) ?_)
            | fail)
          refine hwr.mono ?_
          clear hwr
          rintro e w9 ⟨rfl, hB9⟩
          have hG := grown_trans hG (grown_of_below _ hB9)
          have cl := (HR.out.grown hG).ln
          clear e5 g5 l5 hB9
          rcases hcs with ⟨rfl, rfl⟩ | ⟨rfl, hne⟩
          · go_wp2_with (go_at_call 52; refine (unless_up _).mono ?_; rintro e w4 ⟨rfl, rfl⟩)
            exact ⟨rfl, rfl, hG⟩
          · have hq : (tl.toList == line.toList) = false := by
              have := toList_beq tl line
              rw [decide_eq_false hne] at this
              exact this
            clear hne
            go_wp2_with (go_at_call 52; refine (unless_up _).mono ?_; rintro e w4 ⟨rfl, rfl⟩)
            exact ⟨rfl, rfl, hG⟩
      · have hv2 : (b2.toList == [118, 111, 105, 100]) = false := by
          rw [hb2]
          simp only [ByteArray.toList_eq, beq_eq_false_iff_ne]; exact hv
        clear hv hb2
        by_cases h9 : n = 9
        · subst h9
          obtain ⟨s4, hs4⟩ : ∃ s, ws[4]? = some s := ⟨ws[4]'(by rw [Hlen.out]; omega), by simp⟩
          have Hs4 := Lib.hid hs4
          clear hs4
          obtain ⟨s5, hs5⟩ : ∃ s, ws[5]? = some s := ⟨ws[5]'(by rw [Hlen.out]; omega), by simp⟩
          have Hs5 := Lib.hid hs5
          clear hs5
          obtain ⟨s6, hs6⟩ : ∃ s, ws[6]? = some s := ⟨ws[6]'(by rw [Hlen.out]; omega), by simp⟩
          have Hs6 := Lib.hid hs6
          clear hs6
          obtain ⟨s7, hs7⟩ : ∃ s, ws[7]? = some s := ⟨ws[7]'(by rw [Hlen.out]; omega), by simp⟩
          have Hs7 := Lib.hid hs7
          clear hs7
          obtain ⟨s8, hs8⟩ : ∃ s, ws[8]? = some s := ⟨ws[8]'(by rw [Hlen.out]; omega), by simp⟩
          have Hs8 := Lib.hid hs8
          clear hs8
          obtain ⟨b4, hb4⟩ : ∃ b4, b4 = ofL s4 := ⟨_, rfl⟩
          have HC4 := Lib.hid (fun W' (hg : W.grownBy W' (some bX)) => (by rw [hb4]; exact (HR.out.grown hg).wd 4 s4 Hs4.out : W'.cell? ⟨bs, 4, none⟩ = some (.string b4)))
          have Hb4 := Lib.hid hb4
          clear hb4
          go_upto_region 3 with fail
          go_upto_region 4 with (first | (go_at_call 52; refine (unless_ok _).mono ?_; rintro e w4 ⟨rfl, rfl⟩) | fail)
          cases hq3 : numOf s3 with
          | none =>
            have hup : ∀ W', W.grownBy W' (some bX) → Calls Tryz.prog 85 #[.int .i64 3, .pointer (some ⟨bw, 0, none⟩)] W' fun e w' => e = .panicked [{ v := nfV, recovered := false }] ∧ W.grownBy w' (some bX) := fun W' hg => HR.out.numUp 3 s3 Hs3.out hq3 W' hg
            refine wp_region_held_drew (S := fun w' => w'.cell? ⟨bs, 4, none⟩ = some (.string b4)) (by kernel_rfl) (HC4.out _ (grown_drew hG)) (fun hS => ?_)
            refine wpAnyH_take (i := 0) (v := .func (.func 85) #[] #[.pointer (some ⟨bw, 0, none⟩)]) rfl (by kernel_rfl) (by kernel_rfl) (by kernel_rfl) (fun _ _ _ h => h) (Or.inl ⟨by kernel_rfl, fun _ _ => by kernel_rfl⟩) hS ?_
            try dsimp only
            try simp only [Act.put, List.setIfInBounds_toArray]
            refine wpAnyH_take (i := 2) (v := .slice (some ⟨bs, 0, none⟩) 9 9) rfl (by kernel_rfl) (by kernel_rfl) (by kernel_rfl) (fun _ _ _ h => h) (Or.inl ⟨by kernel_rfl, fun _ _ => by kernel_rfl⟩) hS ?_
            try dsimp only
            try simp only [Act.put]
            refine wpAnyH_take (i := 3) (v := .pointer (some ⟨bs, 4, none⟩)) rfl (by kernel_rfl) (by kernel_rfl) (by kernel_rfl) (fun _ _ _ h => h) (Or.inl ⟨by kernel_rfl, fun _ _ => by kernel_rfl⟩) hS ?_
            try dsimp only
            try simp only [Act.put]
            refine wpAnyH_take (i := 4) (v := .string b4) rfl (by kernel_rfl) (by kernel_rfl) (by kernel_rfl) (fun _ _ _ h => h) (Or.inl ⟨by kernel_rfl, fun w hSw => by go_simp⟩) hS ?_
            try dsimp only
            try simp only [Act.put]
            refine wpAnyH_ready (rs := [1]) (by kernel_rfl) (by simp) ?_
            refine AllReadyH.cons rfl (fun K hK => ?_) AllReadyH.nil
            go_simp
            refine (hup _ (grown_drew hG)).mono ?_
            rintro e w4 ⟨rfl, hG9⟩
            exact ⟨rfl, rfl, hG9⟩
          | some v3 =>
            have hok := HR.out.numOk 3 s3 v3 Hs3.out hq3
            have HN3 := Lib.hid hok
            clear hok hq3
            have HN3p : ∀ W', RowKit.Below wsa.heap.size wsa W' → Calls Tryz.prog 85 #[.int .i64 3, .pointer (some ⟨bw, 0, none⟩)] W' fun e w' => e = .returned (.int .i64 v3) ∧ RowKit.Below W'.heap.size W' w' ∧ RowKit.Below wsa.heap.size wsa w' := fun W' hb => (HN3.out W' (grown_trans hG (grown_of_below _ hb))).mono fun e w' h => ⟨h.1, h.2.1, hb.trans (h.2.1.mono hb.size)⟩
            have HN3q := Lib.hid HN3p
            clear HN3p
            have HS := Lib.hid (fun W' (hg : W.grownBy W' (some bX)) => (HC4.out W' hg : W'.cell? ⟨bs, 4, none⟩ = some (.string b4)))
            have HK := Lib.hid (fun W' (hb : RowKit.Below wsa.heap.size wsa W') => kX.below' hb)
            go_cut [26] (fun c26 W' => Blk W' bX #[.int .i64 v0, .int .i64 v1, .int .i64 v3, .string b4, .int .i64 0, .int .i64 0, .int .i64 0, .int .i64 0, .int .i64 0] 43 ∧ W.grownBy W' (some bX))
            case first =>
              go_region_held3 (fun w' => w'.cell? ⟨bs, 4, none⟩ = some (.string b4))
                (((with_reducible refine HS.out _ ?_); repeat (first | (with_reducible assumption) | (with_reducible refine grown_setC ?_ _ _) | (with_reducible refine grown_drew ?_))))
                (first
                  | ((with_reducible refine (HN3q.out _ (by repeat (first | (with_reducible assumption) | (with_reducible exact Below.refl _ _) | (with_reducible refine Below.alloc ?_ ?_ _) | (with_reducible refine Below.setCell ?_ ?_ _) | (with_reducible refine Below.drew ?_) | omega | (simp <;> omega) | (dsimp only; omega)))).mono ?_); rintro e w3 ⟨rfl, hBa, hba⟩; have hsa := hba.size; have hG3 := grown_trans hG (grown_of_below _ hba); have kY := HK.out _ hba; have e5 := kY.cell; have g5 := kY.frozen; have l5 := kY.lt)
                  | fail)
              all_goals
                go_wp2_with fail
                go_meet
                exact ⟨(kY.setCell 2 _).setCell 3 _, grown_trans (grown_trans hG3 (grown_set _ bX 2 _)) (grown_set _ bX 3 _)⟩
            case rest =>
              obtain ⟨kX', hG'⟩ := hcut
              obtain ⟨wm, hwm⟩ : ∃ wm, wm = wc := ⟨_, rfl⟩
              rw [← hwm] at kX' hG' ⊢
              have kX := kX'
              have hG := hG'
              clear hwm kX' hG' HN3q HS HK
              have e5 := kX.cell
              have g5 := kX.frozen
              have l5 := kX.lt
              by_cases ha : b4 = allS
              · have hqa : (b4.toList == [97, 108, 108]) = true := by rw [ha, ByteArray.toList_eq]; rfl
                clear ha
                go_upto_region 7 with fail
                obtain ⟨wsc, hwsc⟩ : ∃ ws, ws = (wm).setCell ⟨bX, 3, none⟩ (.string ⟨#[]⟩) := ⟨_, rfl⟩
                rw [← hwsc]
                have kX : Blk wsc bX #[.int .i64 v0, .int .i64 v1, .int .i64 v3, .string ⟨#[]⟩, .int .i64 0, .int .i64 0, .int .i64 0, .int .i64 0, .int .i64 0] 43 := hwsc ▸ (kX.setCell 3 (.string ⟨#[]⟩))
                have hG : W.grownBy wsc (some bX) := hwsc ▸ (grown_trans hG (grown_set _ bX 3 (.string ⟨#[]⟩)))
                clear hwsc e5 g5 l5
                go_wp2_with (fail)
                cases hq5 : numOf s5 with
                | none =>
                  refine (HR.out.numUp 5 s5 Hs5.out hq5 _ hG).mono ?_
                  rintro e w9 ⟨rfl, hG9⟩
                  exact ⟨rfl, rfl, hG9⟩
                | some v5 =>
                  refine (HR.out.numOk 5 s5 v5 Hs5.out hq5 _ hG).mono ?_
                  rintro e wq2 ⟨rfl, hBq, hG⟩
                  have kX := kX.below' hBq
                  clear hBq hq5
                  go_wp2_with (fail)
                  cases hq6 : numOf s6 with
                  | none =>
                    refine (HR.out.numUp 6 s6 Hs6.out hq6 _ hG).mono ?_
                    rintro e w9 ⟨rfl, hG9⟩
                    exact ⟨rfl, rfl, hG9⟩
                  | some v6 =>
                    refine (HR.out.numOk 6 s6 v6 Hs6.out hq6 _ hG).mono ?_
                    rintro e wq3 ⟨rfl, hBq, hG⟩
                    have kX := kX.below' hBq
                    clear hBq hq6
                    have e5 := kX.cell
                    have g5 := kX.frozen
                    have l5 := kX.lt
                    go_upto_region 8 with fail
                    obtain ⟨wsd, hwsd⟩ : ∃ ws, ws = ((wq3).setCell ⟨bX, 4, none⟩ (.int .i64 v5)).setCell ⟨bX, 5, none⟩ (.int .i64 v6) := ⟨_, rfl⟩
                    rw [← hwsd]
                    have kX : Blk wsd bX #[.int .i64 v0, .int .i64 v1, .int .i64 v3, .string ⟨#[]⟩, .int .i64 v5, .int .i64 v6, .int .i64 0, .int .i64 0, .int .i64 0] 43 := hwsd ▸ ((kX.setCell 4 (.int .i64 v5)).setCell 5 (.int .i64 v6))
                    have hG : W.grownBy wsd (some bX) := hwsd ▸ (grown_trans (grown_trans hG (grown_set _ bX 4 (.int .i64 v5))) (grown_set _ bX 5 (.int .i64 v6)))
                    clear hwsd e5 g5 l5
                    go_wp2_with (fail)
                    cases hq7 : numOf s7 with
                    | none =>
                      refine (HR.out.numUp 7 s7 Hs7.out hq7 _ hG).mono ?_
                      rintro e w9 ⟨rfl, hG9⟩
                      exact ⟨rfl, rfl, hG9⟩
                    | some v7 =>
                      refine (HR.out.numOk 7 s7 v7 Hs7.out hq7 _ hG).mono ?_
                      rintro e wq4 ⟨rfl, hBq, hG⟩
                      have kX := kX.below' hBq
                      clear hBq hq7
                      go_wp2_with (fail)
                      cases hq8 : numOf s8 with
                      | none =>
                        refine (HR.out.numUp 8 s8 Hs8.out hq8 _ hG).mono ?_
                        rintro e w9 ⟨rfl, hG9⟩
                        exact ⟨rfl, rfl, hG9⟩
                      | some v8 =>
                        refine (HR.out.numOk 8 s8 v8 Hs8.out hq8 _ hG).mono ?_
                        rintro e wq5 ⟨rfl, hBq, hG⟩
                        have kX := kX.below' hBq
                        clear hBq hq8
                        have e5 := kX.cell
                        have g5 := kX.frozen
                        have l5 := kX.lt
                        go_upto_region 9 with fail
                        obtain ⟨wse, hwse⟩ : ∃ ws, ws = ((wq5).setCell ⟨bX, 6, none⟩ (.int .i64 v7)).setCell ⟨bX, 7, none⟩ (.int .i64 v8) := ⟨_, rfl⟩
                        rw [← hwse]
                        have kX : Blk wse bX #[.int .i64 v0, .int .i64 v1, .int .i64 v3, .string ⟨#[]⟩, .int .i64 v5, .int .i64 v6, .int .i64 v7, .int .i64 v8, .int .i64 0] 43 := hwse ▸ ((kX.setCell 6 (.int .i64 v7)).setCell 7 (.int .i64 v8))
                        have hG : W.grownBy wse (some bX) := hwse ▸ (grown_trans (grown_trans hG (grown_set _ bX 6 (.int .i64 v7))) (grown_set _ bX 7 (.int .i64 v8)))
                        clear hwse e5 g5 l5
                        obtain ⟨x, hx⟩ : ∃ x : Rate, x = ⟨v0, v1, v3, ⟨#[]⟩, ⟨v5, v6⟩, v7, v8, 0⟩ := ⟨_, rfl⟩
                        have kX : Blk wse bX (cR x).toArray 43 := by rw [hx]; exact kX
                        have hwr := writeRate_any x wse (HR.out.grown hG).vs
                        obtain ⟨t, ht⟩ : ∃ t, t = writeR x := ⟨_, rfl⟩
                        rw [← ht] at hwr
                        have hcs : (t.2 = 1 ∧ t.1 = ⟨#[]⟩) ∨ (t.2 = 0 ∧ t.1 ≠ line) := by
                          unfold writeR at ht
                          cases ho : rateOk x with
                          | true => rw [ho] at ht; rw [ht]; exact .inr ⟨rfl, Hno.out x ho⟩
                          | false => rw [ho] at ht; rw [ht]; exact .inl ⟨rfl, rfl⟩
                        clear hx ht
                        obtain ⟨tl, te⟩ := t
                        dsimp only at hwr hcs
                        have e5 := kX.cell
                        have g5 := kX.frozen
                        have l5 := kX.lt
                        go_wp2_with (first
                          | (refine wpList_load_mid rfl 43 _ rfl bX 0 rfl (cR x) _ (kX.range 0 _ (fun j v h => by simpa using h)) Tryz.underlying43 rfl (by kernel_rfl) ?_)
                          | fail)
                        refine hwr.mono ?_
                        clear hwr
                        rintro e w9 ⟨rfl, hB9⟩
                        have hG := grown_trans hG (grown_of_below _ hB9)
                        have cl := (HR.out.grown hG).ln
                        clear e5 g5 l5 hB9
                        rcases hcs with ⟨rfl, rfl⟩ | ⟨rfl, hne⟩
                        · go_wp2_with (go_at_call 52; refine (unless_up _).mono ?_; rintro e w4 ⟨rfl, rfl⟩)
                          exact ⟨rfl, rfl, hG⟩
                        · have hq : (tl.toList == line.toList) = false := by
                            have := toList_beq tl line
                            rw [decide_eq_false hne] at this
                            exact this
                          clear hne
                          go_wp2_with (go_at_call 52; refine (unless_up _).mono ?_; rintro e w4 ⟨rfl, rfl⟩)
                          exact ⟨rfl, rfl, hG⟩
              · have hqa : (b4.toList == [97, 108, 108]) = false := by
                  have := toList_beq b4 allS
                  rw [decide_eq_false ha, ByteArray.toList_eq allS] at this
                  exact this
                clear ha
                go_upto_region 7 with fail
                clear e5 g5 l5
                go_wp2_with (fail)
                cases hq5 : numOf s5 with
                | none =>
                  refine (HR.out.numUp 5 s5 Hs5.out hq5 _ hG).mono ?_
                  rintro e w9 ⟨rfl, hG9⟩
                  exact ⟨rfl, rfl, hG9⟩
                | some v5 =>
                  refine (HR.out.numOk 5 s5 v5 Hs5.out hq5 _ hG).mono ?_
                  rintro e wq2 ⟨rfl, hBq, hG⟩
                  have kX := kX.below' hBq
                  clear hBq hq5
                  go_wp2_with (fail)
                  cases hq6 : numOf s6 with
                  | none =>
                    refine (HR.out.numUp 6 s6 Hs6.out hq6 _ hG).mono ?_
                    rintro e w9 ⟨rfl, hG9⟩
                    exact ⟨rfl, rfl, hG9⟩
                  | some v6 =>
                    refine (HR.out.numOk 6 s6 v6 Hs6.out hq6 _ hG).mono ?_
                    rintro e wq3 ⟨rfl, hBq, hG⟩
                    have kX := kX.below' hBq
                    clear hBq hq6
                    have e5 := kX.cell
                    have g5 := kX.frozen
                    have l5 := kX.lt
                    go_upto_region 8 with fail
                    obtain ⟨wsd, hwsd⟩ : ∃ ws, ws = ((wq3).setCell ⟨bX, 4, none⟩ (.int .i64 v5)).setCell ⟨bX, 5, none⟩ (.int .i64 v6) := ⟨_, rfl⟩
                    rw [← hwsd]
                    have kX : Blk wsd bX #[.int .i64 v0, .int .i64 v1, .int .i64 v3, .string b4, .int .i64 v5, .int .i64 v6, .int .i64 0, .int .i64 0, .int .i64 0] 43 := hwsd ▸ ((kX.setCell 4 (.int .i64 v5)).setCell 5 (.int .i64 v6))
                    have hG : W.grownBy wsd (some bX) := hwsd ▸ (grown_trans (grown_trans hG (grown_set _ bX 4 (.int .i64 v5))) (grown_set _ bX 5 (.int .i64 v6)))
                    clear hwsd e5 g5 l5
                    go_wp2_with (fail)
                    cases hq7 : numOf s7 with
                    | none =>
                      refine (HR.out.numUp 7 s7 Hs7.out hq7 _ hG).mono ?_
                      rintro e w9 ⟨rfl, hG9⟩
                      exact ⟨rfl, rfl, hG9⟩
                    | some v7 =>
                      refine (HR.out.numOk 7 s7 v7 Hs7.out hq7 _ hG).mono ?_
                      rintro e wq4 ⟨rfl, hBq, hG⟩
                      have kX := kX.below' hBq
                      clear hBq hq7
                      go_wp2_with (fail)
                      cases hq8 : numOf s8 with
                      | none =>
                        refine (HR.out.numUp 8 s8 Hs8.out hq8 _ hG).mono ?_
                        rintro e w9 ⟨rfl, hG9⟩
                        exact ⟨rfl, rfl, hG9⟩
                      | some v8 =>
                        refine (HR.out.numOk 8 s8 v8 Hs8.out hq8 _ hG).mono ?_
                        rintro e wq5 ⟨rfl, hBq, hG⟩
                        have kX := kX.below' hBq
                        clear hBq hq8
                        have e5 := kX.cell
                        have g5 := kX.frozen
                        have l5 := kX.lt
                        go_upto_region 9 with fail
                        obtain ⟨wse, hwse⟩ : ∃ ws, ws = ((wq5).setCell ⟨bX, 6, none⟩ (.int .i64 v7)).setCell ⟨bX, 7, none⟩ (.int .i64 v8) := ⟨_, rfl⟩
                        rw [← hwse]
                        have kX : Blk wse bX #[.int .i64 v0, .int .i64 v1, .int .i64 v3, .string b4, .int .i64 v5, .int .i64 v6, .int .i64 v7, .int .i64 v8, .int .i64 0] 43 := hwse ▸ ((kX.setCell 6 (.int .i64 v7)).setCell 7 (.int .i64 v8))
                        have hG : W.grownBy wse (some bX) := hwse ▸ (grown_trans (grown_trans hG (grown_set _ bX 6 (.int .i64 v7))) (grown_set _ bX 7 (.int .i64 v8)))
                        clear hwse e5 g5 l5
                        obtain ⟨x, hx⟩ : ∃ x : Rate, x = ⟨v0, v1, v3, b4, ⟨v5, v6⟩, v7, v8, 0⟩ := ⟨_, rfl⟩
                        have kX : Blk wse bX (cR x).toArray 43 := by rw [hx]; exact kX
                        have hwr := writeRate_any x wse (HR.out.grown hG).vs
                        obtain ⟨t, ht⟩ : ∃ t, t = writeR x := ⟨_, rfl⟩
                        rw [← ht] at hwr
                        have hcs : (t.2 = 1 ∧ t.1 = ⟨#[]⟩) ∨ (t.2 = 0 ∧ t.1 ≠ line) := by
                          unfold writeR at ht
                          cases ho : rateOk x with
                          | true => rw [ho] at ht; rw [ht]; exact .inr ⟨rfl, Hno.out x ho⟩
                          | false => rw [ho] at ht; rw [ht]; exact .inl ⟨rfl, rfl⟩
                        clear hx ht
                        obtain ⟨tl, te⟩ := t
                        dsimp only at hwr hcs
                        have e5 := kX.cell
                        have g5 := kX.frozen
                        have l5 := kX.lt
                        go_wp2_with (first
                          | (refine wpList_load_mid rfl 43 _ rfl bX 0 rfl (cR x) _ (kX.range 0 _ (fun j v h => by simpa using h)) Tryz.underlying43 rfl (by kernel_rfl) ?_)
                          | fail)
                        refine hwr.mono ?_
                        clear hwr
                        rintro e w9 ⟨rfl, hB9⟩
                        have hG := grown_trans hG (grown_of_below _ hB9)
                        have cl := (HR.out.grown hG).ln
                        clear e5 g5 l5 hB9
                        rcases hcs with ⟨rfl, rfl⟩ | ⟨rfl, hne⟩
                        · go_wp2_with (go_at_call 52; refine (unless_up _).mono ?_; rintro e w4 ⟨rfl, rfl⟩)
                          exact ⟨rfl, rfl, hG⟩
                        · have hq : (tl.toList == line.toList) = false := by
                            have := toList_beq tl line
                            rw [decide_eq_false hne] at this
                            exact this
                          clear hne
                          go_wp2_with (go_at_call 52; refine (unless_up _).mono ?_; rintro e w4 ⟨rfl, rfl⟩)
                          exact ⟨rfl, rfl, hG⟩
        · have hn9 : ((n : Int) == 9) = false := by simp; omega
          go_upto_region 3 with fail
          go_wp2_with (first | (go_at_call 52; refine (unless_up _).mono ?_; rintro e w4 ⟨rfl, rfl⟩) | fail)
          exact ⟨rfl, rfl, hG⟩

end Go.Proofs.YtkeppoiomjhkpaaGreatDoor
