import Derived.Test.YtkeppoiomjhkpaaGreatDoorPart12
import Derived.Test.YtkeppoiomjhkpaaGreatDoorPart13
import Derived.Test.YtkeppoiomjhkpaaGreatDoorPart17
import Derived.Test.YtkeppoiomjhkpaaGreatDoorPart15
import Derived.Test.YtkeppoiomjhkpaaGreatDoorPart14
import Derived.Test.YtkeppoiomjhkpaaGreatDoorPart06
import Derived.Test.YtkeppoiomjhkpaaGreatDoorPart03
import Derived.Test.YtkeppoiomjhkpaaGreatDoorPart09
import Derived.Test.YtkeppoiomjhkpaaGreatDoorPart04
import Derived.BigQuiet
import Derived.Deep.RegionHeld3
import Derived.Deep.AppendLies
import Derived.Test.YtkeppoiomjhkpaaGreatDoorPart01
/-
  Walks: the reference's ReadSale.
-/
namespace Go.Proofs.YtkeppoiomjhkpaaGreatDoor
open Go.RowKit Lg Go.Sort Go.Shelf

theorem getD_map (ws : List ByteArray) (i : Nat) (s : ByteArray) (h : ws[i]? = some s) : (ws.map (·.data.toList)).getD i [] = s.data.toList := by
  rw [List.getD_eq_getElem?_getD, List.getElem?_map, h]; rfl

set_option maxRecDepth 100000 in
set_option maxHeartbeats 6400000 in
theorem readSaleR_any (line : ByteArray) (y : Sale) (er : Int) (h : ReadsS line y er) (hs : line.size ≤ 400) (w : World) : Calls Tryz.prog 14 #[.string line] w (Gives w (.tuple #[aS y, .int .i64 er])) := by
  have hcu := fun W => cutR_any line W hs
  have hB0 : RowKit.Below w.heap.size w (w.alloc (.cells #[.int .i64 0, .int .i64 0, .int .i64 0, .int .i64 0, .int .i64 0, .int .i64 0, .int .i64 0, .int .i64 0, .int .i64 0] 24)) := (Below.refl _ w).alloc (Nat.le_refl _) _
  have k0 := Blk.new w 24 #[.int .i64 0, .int .i64 0, .int .i64 0, .int .i64 0, .int .i64 0, .int .i64 0, .int .i64 0, .int .i64 0, .int .i64 0]
  obtain ⟨val, hval⟩ : ∃ val : ByteArray → Int, val = fun s => valL s.data.toList := ⟨_, rfl⟩
  have HV : ∀ s W, Calls Tryz.prog 54 #[.string s] W fun e w' => e = .returned (.int .i64 (val s)) ∧ W = w' := fun s W => by rw [hval]; exact valueR_any s W
  have HV := Lib.hid HV
  have Hval := Lib.hid hval
  clear hval
  go_enter Tryz.func14, Tryz.ntmps14
  go_wp2_with (fail)
  refine (hcu _).mono ?_
  clear hcu
  rintro e w2 ⟨a, c, ws, q, rfl, hL, hn, hws, hB2⟩
  have k2 := k0.below' hB2
  have hB2 := hB0.trans (hB2.mono hB0.size)
  clear k0 hB0
  obtain ⟨b, off, rfl, hb, hcl⟩ := hL.wordCells (by omega)
  obtain ⟨s0, hs0⟩ : ∃ s, ws[0]? = some s := ⟨ws[0]'(by omega), by simp⟩
  obtain ⟨s1, hs1⟩ : ∃ s, ws[1]? = some s := ⟨ws[1]'(by omega), by simp⟩
  obtain ⟨s2, hs2⟩ : ∃ s, ws[2]? = some s := ⟨ws[2]'(by omega), by simp⟩
  obtain ⟨s3, hs3⟩ : ∃ s, ws[3]? = some s := ⟨ws[3]'(by omega), by simp⟩
  obtain ⟨s4, hs4⟩ : ∃ s, ws[4]? = some s := ⟨ws[4]'(by omega), by simp⟩
  obtain ⟨s5, hs5⟩ : ∃ s, ws[5]? = some s := ⟨ws[5]'(by omega), by simp⟩
  obtain ⟨s6, hs6⟩ : ∃ s, ws[6]? = some s := ⟨ws[6]'(by omega), by simp⟩
  obtain ⟨s7, hs7⟩ : ∃ s, ws[7]? = some s := ⟨ws[7]'(by omega), by simp⟩
  obtain ⟨s8, hs8⟩ : ∃ s, ws[8]? = some s := ⟨ws[8]'(by omega), by simp⟩
  have hx := readsS_parse h _ q hws
  have hxv : s2 = ⟨#[118, 111, 105, 100]⟩ → parseS (ws.map (·.data.toList)) = ⟨val s0, val s1, 0, 0, 0, 0, 0, 0, val s3⟩ := fun e => by
    unfold parseS
    rw [getD_map ws 0 s0 hs0, getD_map ws 1 s1 hs1, getD_map ws 2 s2 hs2, getD_map ws 3 s3 hs3, if_pos (by rw [e]; rfl), Hval.out]; rfl
  have hxn : s2 ≠ ⟨#[118, 111, 105, 100]⟩ → parseS (ws.map (·.data.toList)) = ⟨val s0, val s1, val s2, val s4, val s5, val s6, val s7, val s8, 0⟩ := fun e => by
    unfold parseS
    rw [getD_map ws 0 s0 hs0, getD_map ws 1 s1 hs1, getD_map ws 2 s2 hs2, getD_map ws 4 s4 hs4, getD_map ws 5 s5 hs5, getD_map ws 6 s6 hs6, getD_map ws 7 s7 hs7, getD_map ws 8 s8 hs8, if_neg (fun e2 => e (ByteArray.ext (Array.toList_inj.1 (by rw [e2]; rfl)))), Hval.out]; rfl
  have HW : ∀ W, RowKit.Below w2.heap.size w2 W → ∀ i s, ws[i]? = some s → W.cell? ⟨b, off + i, none⟩ = some (.string s) := fun W hW i s hi => (hW.cell (p := ⟨b, off + i, none⟩) hb).trans (hcl i s hi)
  have HW := Lib.hid HW
  have Hx := Lib.hid hx
  have Hxv := Lib.hid hxv
  have Hxn := Lib.hid hxn
  obtain ⟨N, hN⟩ : ∃ N, N = ws.length := ⟨_, rfl⟩
  rw [← hN] at hn ⊢
  have hnz : (10 : Int) ≤ (N : Int) := by omega
  have hn0 : (0 : Int) < (N : Int) := by omega
  have hn1 : (1 : Int) < (N : Int) := by omega
  have hm0 : 0 < N := by omega
  have hm1 : 1 < N := by omega
  clear hL hcl hws hx hxv hxn hN h Hval hs
  obtain ⟨bR, hbR⟩ : ∃ bR, bR = w.heap.size := ⟨_, rfl⟩
  rw [← hbR] at k2 ⊢
  have HbR := Lib.hid hbR
  clear hbR
  have hbRl : bR < w2.heap.size := k2.lt
  have HS : ∀ W, RowKit.Below w2.heap.size w2 W → W.cell? ⟨b, off, none⟩ = some (.string s0) ∧ W.cell? ⟨b, off + 1, none⟩ = some (.string s1) := fun W hW => ⟨HW.out W hW 0 s0 hs0, HW.out W hW 1 s1 hs1⟩
  have HS := Lib.hid HS
  go_upto_region 2 with fail
  go_cut [5] (fun c5 W => ∃ B, c5 = .pointer (some ⟨B, 0, none⟩) ∧ w2.heap.size ≤ B ∧ Blk W B #[.int .i64 (val s0), .int .i64 (val s1), .int .i64 0, .int .i64 0, .int .i64 0, .int .i64 0, .int .i64 0, .int .i64 0, .int .i64 0] 24 ∧ RowKit.Below w2.heap.size w2 W)
  case first =>
    go_region_held3 (fun w' => w'.cell? ⟨b, off, none⟩ = some (.string s0) ∧ w'.cell? ⟨b, off + 1, none⟩ = some (.string s1))
      (((with_reducible refine HS.out _ ?_); repeat (first | (with_reducible assumption) | (with_reducible exact Below.refl _ _) | (with_reducible refine Below.alloc ?_ ?_ _) | (with_reducible refine Below.setCell ?_ ?_ _) | (with_reducible refine Below.drew ?_) | omega | (simp <;> omega) | (dsimp only; omega))))
      (first
        | (go_at_call 54; (with_reducible refine (HV.out _ _).mono ?_); rintro e w5 ⟨rfl, rfl⟩)
        | fail)
    all_goals
      go_wp2_with fail
      go_meet
      refine ⟨_, rfl, Nat.le_refl _, ?_, ?_⟩
      · first
          | exact Blk.new _ _ _
          | exact ((((((((((Blk.new w2 24 #[.int .i64 0, .int .i64 0, .int .i64 0, .int .i64 0, .int .i64 0, .int .i64 0, .int .i64 0, .int .i64 0, .int .i64 0]).setCell 0 (.int .i64 (val s0))).setCell 1 (.int .i64 (val s1))).setCell 2 (.int .i64 0)).setCell 3 (.int .i64 0)).setCell 4 (.int .i64 0)).setCell 5 (.int .i64 0)).setCell 6 (.int .i64 0)).setCell 7 (.int .i64 0)).setCell 8 (.int .i64 0))
      · repeat (first | (with_reducible assumption) | (with_reducible exact Below.refl _ _) | (with_reducible refine Below.alloc ?_ ?_ _) | (with_reducible refine Below.setCell ?_ ?_ _) | (with_reducible refine Below.drew ?_) | omega | (simp <;> omega) | (dsimp only; omega))
  case rest =>
    obtain ⟨B, rfl, hBz, kB, hB⟩ := hcut
    obtain ⟨w8, hw8⟩ : ∃ w8, w8 = wc := ⟨_, rfl⟩
    rw [← hw8] at kB hB ⊢
    clear hw8 HS
    have c2 := HW.out _ hB 2 s2 hs2
    have hl0 : b ≠ B := by omega
    have hl1 : bR ≠ B := by omega
    by_cases hv : s2 = ⟨#[118, 111, 105, 100]⟩
    · have hq : (s2.toList == [118, 111, 105, 100]) = true := by rw [hv, ByteArray.toList_eq]; rfl
      have Hx0 := Hx.out
      rw [Hxv.out hv] at Hx0
      have Hx1 := Lib.hid Hx0
      clear hv Hx Hxv Hxn Hx0
      have ca := HW.out _ hB 3 s3 hs3
      have e5 := kB.cell
      have g5 := kB.frozen
      have l5 := kB.lt
      go_upto_region 11 with (first | (go_at_call 54; (with_reducible refine (HV.out _ _).mono ?_); rintro e w5 ⟨rfl, rfl⟩) | fail)
      obtain ⟨wna, hwna⟩ : ∃ wn, wn = w8.setCell ⟨B, 8, none⟩ (.int .i64 (val s3)) := ⟨_, rfl⟩
      rw [← hwna]
      have hB := show RowKit.Below w2.heap.size w2 wna from hwna ▸ hB.setCell (p := ⟨B, 8, none⟩) hBz _
      have kB : Blk wna B #[.int .i64 (val s0), .int .i64 (val s1), .int .i64 0, .int .i64 0, .int .i64 0, .int .i64 0, .int .i64 0, .int .i64 0, .int .i64 (val s3)] 24 := hwna ▸ kB.setCell 8 (.int .i64 (val s3))
      clear ca e5 g5 l5 hwna
      obtain ⟨x1, hx1⟩ : ∃ x1 : Sale, x1 = ⟨(val s0), (val s1), 0, 0, 0, 0, 0, 0, (val s3)⟩ := ⟨_, rfl⟩
      rw [← hx1] at Hx1
      have kB : Blk wna B (cS x1).toArray 24 := by rw [hx1]; exact kB
      have hlo : wna.heap.size = wna.heap.size := rfl
      have e5 := kB.cell
      have g5 := kB.frozen
      have l5 := kB.lt
      have hwr := fun W => writeSaleR_any x1 W
      have kR := k2.below' hB
      clear hx1 hs0 hs1 hs2 hs3 hs4 hs5 hs6 hs7 hs8 HW HV
      obtain ⟨t, ht⟩ : ∃ t, t = writeS x1 := ⟨_, rfl⟩
      rw [← ht] at hwr
      have Ht := Lib.hid ht
      clear ht
      obtain ⟨tl, te⟩ := t
      dsimp only at hwr
      go_wp2_with (first
        | (refine wpList_load_mid rfl 24 _ rfl B 0 rfl (cS x1) _ (kB.range 0 _ (fun j v h => by simpa using h)) Tryz.underlying24 rfl (by kernel_rfl) ?_)
        | fail)
      refine (hwr _).mono ?_
      clear hwr
      rintro e w9 ⟨rfl, hB9⟩
      have kB9 := kB.below' hB9
      have kR9 := kR.below' hB9
      have hB10 := hB.trans (hB9.mono hB.size)
      have hBf := hB2.trans (hB10.mono hB2.size)
      clear e5 g5 l5 kB kR
      have e5 := kB9.cell
      have eR := kR9.cell
      have gR := kR9.frozen
      have lR := kR9.lt
      rcases Hx1.out with ⟨o1, o2, rfl, rfl⟩ | ⟨o1, rfl, rfl⟩
      · have ht := Ht.out
        rw [show writeS y = (lineS y, 0) by unfold writeS; rw [o1]; rfl] at ht
        obtain ⟨rfl, rfl⟩ : tl = lineS y ∧ te = 0 := by injection ht with i1 i2; exact ⟨i1, i2⟩
        rw [o2]
        have hq2 : (line.toList != line.toList) = false := by simp
        have hq3 : (line.toList == line.toList) = true := by simp
        clear ht o1 o2 Ht Hx1
        go_wp2_with (first
          | (refine wpList_load_mid rfl 24 _ rfl B 0 rfl (cS y) _ (kB9.range 0 _ (fun j v h => by simpa using h)) Tryz.underlying24 rfl (by kernel_rfl) ?_)
          | fail)
        have hbl : Blk (w9.setCells bR 0 (cS y)) bR (cS y).toArray 24 := by
          rw [← setAll_zeroS y]
          exact kR9.setCells 0 (cS y)
        rw [putS]
        (try simp only [Exit.inBlock, Exit.then]); refine bodyPost_ret (results_cell_tmp rfl _ _ bR 24 (cS y) _ rfl hbl Tryz.underlying24 rfl (by kernel_rfl)) rfl ?_
        exact ⟨rfl, below_setCells hBf (by rw [HbR.out]; exact Nat.le_refl _) _ _⟩
      · have ht := Ht.out
        have hcs : (te = 1 ∧ tl = ⟨#[]⟩) ∨ (te = 0 ∧ tl ≠ line) := by
          unfold writeS at ht
          cases ho : saleOk x1 with
          | true =>
            rw [ho] at ht
            injection ht with i1 i2
            exact .inr ⟨i2, by rw [i1]; exact o1 ho⟩
          | false =>
            rw [ho] at ht
            injection ht with i1 i2
            exact .inl ⟨i2, i1⟩
        clear ht o1 Ht Hx1
        rcases hcs with ⟨rfl, rfl⟩ | ⟨rfl, hne⟩
        · go_wp2_with (fail)
          have hbl : Blk (w9.setCells bR 0 (cS zeroSale)) bR (cS zeroSale).toArray 24 := by
            rw [← setAll_zeroS zeroSale]
            exact kR9.setCells 0 (cS zeroSale)
          rw [putS0]
          (try simp only [Exit.inBlock, Exit.then]); refine bodyPost_ret (results_cell_tmp rfl _ _ bR 24 (cS zeroSale) _ rfl hbl Tryz.underlying24 rfl (by kernel_rfl)) rfl ?_
          exact ⟨rfl, below_setCells hBf (by rw [HbR.out]; exact Nat.le_refl _) _ _⟩
        · have hq2 : (tl.toList != line.toList) = true := by
            have := toList_beq tl line
            rw [decide_eq_false hne] at this
            simp only [bne, this]; rfl
          have hq3 : (tl.toList == line.toList) = false := by
            have := toList_beq tl line
            rw [decide_eq_false hne] at this
            exact this
          clear hne
          go_wp2_with (fail)
          have hbl : Blk (w9.setCells bR 0 (cS zeroSale)) bR (cS zeroSale).toArray 24 := by
            rw [← setAll_zeroS zeroSale]
            exact kR9.setCells 0 (cS zeroSale)
          rw [putS0]
          (try simp only [Exit.inBlock, Exit.then]); refine bodyPost_ret (results_cell_tmp rfl _ _ bR 24 (cS zeroSale) _ rfl hbl Tryz.underlying24 rfl (by kernel_rfl)) rfl ?_
          exact ⟨rfl, below_setCells hBf (by rw [HbR.out]; exact Nat.le_refl _) _ _⟩
    · have hq : (s2.toList == [118, 111, 105, 100]) = false := by
        have := toList_beq s2 ⟨#[118, 111, 105, 100]⟩
        rw [decide_eq_false hv, ByteArray.toList_eq ⟨#[118, 111, 105, 100]⟩] at this
        exact this
      have Hx0 := Hx.out
      rw [Hxn.out hv] at Hx0
      have Hx1 := Lib.hid Hx0
      clear hv Hx Hxv Hxn Hx0
      go_upto_region 5 with fail
      clear c2
      have cb := HW.out _ hB 2 s2 hs2
      have e5 := kB.cell
      have g5 := kB.frozen
      have l5 := kB.lt
      go_upto_region 6 with (first | (go_at_call 54; (with_reducible refine (HV.out _ _).mono ?_); rintro e w5 ⟨rfl, rfl⟩) | fail)
      obtain ⟨wnb, hwnb⟩ : ∃ wn, wn = w8.setCell ⟨B, 2, none⟩ (.int .i64 (val s2)) := ⟨_, rfl⟩
      rw [← hwnb]
      have hB := show RowKit.Below w2.heap.size w2 wnb from hwnb ▸ hB.setCell (p := ⟨B, 2, none⟩) hBz _
      have kB : Blk wnb B #[.int .i64 (val s0), .int .i64 (val s1), .int .i64 (val s2), .int .i64 0, .int .i64 0, .int .i64 0, .int .i64 0, .int .i64 0, .int .i64 0] 24 := hwnb ▸ kB.setCell 2 (.int .i64 (val s2))
      clear cb e5 g5 l5 hwnb
      have cc := HW.out _ hB 4 s4 hs4
      have e5 := kB.cell
      have g5 := kB.frozen
      have l5 := kB.lt
      go_upto_region 7 with (first | (go_at_call 54; (with_reducible refine (HV.out _ _).mono ?_); rintro e w5 ⟨rfl, rfl⟩) | fail)
      obtain ⟨wnc, hwnc⟩ : ∃ wn, wn = wnb.setCell ⟨B, 3, none⟩ (.int .i64 (val s4)) := ⟨_, rfl⟩
      rw [← hwnc]
      have hB := show RowKit.Below w2.heap.size w2 wnc from hwnc ▸ hB.setCell (p := ⟨B, 3, none⟩) hBz _
      have kB : Blk wnc B #[.int .i64 (val s0), .int .i64 (val s1), .int .i64 (val s2), .int .i64 (val s4), .int .i64 0, .int .i64 0, .int .i64 0, .int .i64 0, .int .i64 0] 24 := hwnc ▸ kB.setCell 3 (.int .i64 (val s4))
      clear cc e5 g5 l5 hwnc
      have cd := HW.out _ hB 5 s5 hs5
      have e5 := kB.cell
      have g5 := kB.frozen
      have l5 := kB.lt
      go_upto_region 8 with (first | (go_at_call 54; (with_reducible refine (HV.out _ _).mono ?_); rintro e w5 ⟨rfl, rfl⟩) | fail)
      obtain ⟨wnd, hwnd⟩ : ∃ wn, wn = wnc.setCell ⟨B, 4, none⟩ (.int .i64 (val s5)) := ⟨_, rfl⟩
      rw [← hwnd]
      have hB := show RowKit.Below w2.heap.size w2 wnd from hwnd ▸ hB.setCell (p := ⟨B, 4, none⟩) hBz _
      have kB : Blk wnd B #[.int .i64 (val s0), .int .i64 (val s1), .int .i64 (val s2), .int .i64 (val s4), .int .i64 (val s5), .int .i64 0, .int .i64 0, .int .i64 0, .int .i64 0] 24 := hwnd ▸ kB.setCell 4 (.int .i64 (val s5))
      clear cd e5 g5 l5 hwnd
      have ce := HW.out _ hB 6 s6 hs6
      have e5 := kB.cell
      have g5 := kB.frozen
      have l5 := kB.lt
      go_upto_region 9 with (first | (go_at_call 54; (with_reducible refine (HV.out _ _).mono ?_); rintro e w5 ⟨rfl, rfl⟩) | fail)
      obtain ⟨wne, hwne⟩ : ∃ wn, wn = wnd.setCell ⟨B, 5, none⟩ (.int .i64 (val s6)) := ⟨_, rfl⟩
      rw [← hwne]
      have hB := show RowKit.Below w2.heap.size w2 wne from hwne ▸ hB.setCell (p := ⟨B, 5, none⟩) hBz _
      have kB : Blk wne B #[.int .i64 (val s0), .int .i64 (val s1), .int .i64 (val s2), .int .i64 (val s4), .int .i64 (val s5), .int .i64 (val s6), .int .i64 0, .int .i64 0, .int .i64 0] 24 := hwne ▸ kB.setCell 5 (.int .i64 (val s6))
      clear ce e5 g5 l5 hwne
      have cf := HW.out _ hB 7 s7 hs7
      have e5 := kB.cell
      have g5 := kB.frozen
      have l5 := kB.lt
      go_upto_region 10 with (first | (go_at_call 54; (with_reducible refine (HV.out _ _).mono ?_); rintro e w5 ⟨rfl, rfl⟩) | fail)
      obtain ⟨wnf, hwnf⟩ : ∃ wn, wn = wne.setCell ⟨B, 6, none⟩ (.int .i64 (val s7)) := ⟨_, rfl⟩
      rw [← hwnf]
      have hB := show RowKit.Below w2.heap.size w2 wnf from hwnf ▸ hB.setCell (p := ⟨B, 6, none⟩) hBz _
      have kB : Blk wnf B #[.int .i64 (val s0), .int .i64 (val s1), .int .i64 (val s2), .int .i64 (val s4), .int .i64 (val s5), .int .i64 (val s6), .int .i64 (val s7), .int .i64 0, .int .i64 0] 24 := hwnf ▸ kB.setCell 6 (.int .i64 (val s7))
      clear cf e5 g5 l5 hwnf
      have cg := HW.out _ hB 8 s8 hs8
      have e5 := kB.cell
      have g5 := kB.frozen
      have l5 := kB.lt
      go_upto_region 11 with (first | (go_at_call 54; (with_reducible refine (HV.out _ _).mono ?_); rintro e w5 ⟨rfl, rfl⟩) | fail)
      obtain ⟨wng, hwng⟩ : ∃ wn, wn = wnf.setCell ⟨B, 7, none⟩ (.int .i64 (val s8)) := ⟨_, rfl⟩
      rw [← hwng]
      have hB := show RowKit.Below w2.heap.size w2 wng from hwng ▸ hB.setCell (p := ⟨B, 7, none⟩) hBz _
      have kB : Blk wng B #[.int .i64 (val s0), .int .i64 (val s1), .int .i64 (val s2), .int .i64 (val s4), .int .i64 (val s5), .int .i64 (val s6), .int .i64 (val s7), .int .i64 (val s8), .int .i64 0] 24 := hwng ▸ kB.setCell 7 (.int .i64 (val s8))
      clear cg e5 g5 l5 hwng
      obtain ⟨x1, hx1⟩ : ∃ x1 : Sale, x1 = ⟨(val s0), (val s1), (val s2), (val s4), (val s5), (val s6), (val s7), (val s8), 0⟩ := ⟨_, rfl⟩
      rw [← hx1] at Hx1
      have kB : Blk wng B (cS x1).toArray 24 := by rw [hx1]; exact kB
      have hlo : wng.heap.size = wng.heap.size := rfl
      have e5 := kB.cell
      have g5 := kB.frozen
      have l5 := kB.lt
      have hwr := fun W => writeSaleR_any x1 W
      have kR := k2.below' hB
      clear hx1 hs0 hs1 hs2 hs3 hs4 hs5 hs6 hs7 hs8 HW HV
      obtain ⟨t, ht⟩ : ∃ t, t = writeS x1 := ⟨_, rfl⟩
      rw [← ht] at hwr
      have Ht := Lib.hid ht
      clear ht
      obtain ⟨tl, te⟩ := t
      dsimp only at hwr
      go_wp2_with (first
        | (refine wpList_load_mid rfl 24 _ rfl B 0 rfl (cS x1) _ (kB.range 0 _ (fun j v h => by simpa using h)) Tryz.underlying24 rfl (by kernel_rfl) ?_)
        | fail)
      refine (hwr _).mono ?_
      clear hwr
      rintro e w9 ⟨rfl, hB9⟩
      have kB9 := kB.below' hB9
      have kR9 := kR.below' hB9
      have hB10 := hB.trans (hB9.mono hB.size)
      have hBf := hB2.trans (hB10.mono hB2.size)
      clear e5 g5 l5 kB kR
      have e5 := kB9.cell
      have eR := kR9.cell
      have gR := kR9.frozen
      have lR := kR9.lt
      rcases Hx1.out with ⟨o1, o2, rfl, rfl⟩ | ⟨o1, rfl, rfl⟩
      · have ht := Ht.out
        rw [show writeS y = (lineS y, 0) by unfold writeS; rw [o1]; rfl] at ht
        obtain ⟨rfl, rfl⟩ : tl = lineS y ∧ te = 0 := by injection ht with i1 i2; exact ⟨i1, i2⟩
        rw [o2]
        have hq2 : (line.toList != line.toList) = false := by simp
        have hq3 : (line.toList == line.toList) = true := by simp
        clear ht o1 o2 Ht Hx1
        go_wp2_with (first
          | (refine wpList_load_mid rfl 24 _ rfl B 0 rfl (cS y) _ (kB9.range 0 _ (fun j v h => by simpa using h)) Tryz.underlying24 rfl (by kernel_rfl) ?_)
          | fail)
        have hbl : Blk (w9.setCells bR 0 (cS y)) bR (cS y).toArray 24 := by
          rw [← setAll_zeroS y]
          exact kR9.setCells 0 (cS y)
        rw [putS]
        (try simp only [Exit.inBlock, Exit.then]); refine bodyPost_ret (results_cell_tmp rfl _ _ bR 24 (cS y) _ rfl hbl Tryz.underlying24 rfl (by kernel_rfl)) rfl ?_
        exact ⟨rfl, below_setCells hBf (by rw [HbR.out]; exact Nat.le_refl _) _ _⟩
      · have ht := Ht.out
        have hcs : (te = 1 ∧ tl = ⟨#[]⟩) ∨ (te = 0 ∧ tl ≠ line) := by
          unfold writeS at ht
          cases ho : saleOk x1 with
          | true =>
            rw [ho] at ht
            injection ht with i1 i2
            exact .inr ⟨i2, by rw [i1]; exact o1 ho⟩
          | false =>
            rw [ho] at ht
            injection ht with i1 i2
            exact .inl ⟨i2, i1⟩
        clear ht o1 Ht Hx1
        rcases hcs with ⟨rfl, rfl⟩ | ⟨rfl, hne⟩
        · go_wp2_with (fail)
          have hbl : Blk (w9.setCells bR 0 (cS zeroSale)) bR (cS zeroSale).toArray 24 := by
            rw [← setAll_zeroS zeroSale]
            exact kR9.setCells 0 (cS zeroSale)
          rw [putS0]
          (try simp only [Exit.inBlock, Exit.then]); refine bodyPost_ret (results_cell_tmp rfl _ _ bR 24 (cS zeroSale) _ rfl hbl Tryz.underlying24 rfl (by kernel_rfl)) rfl ?_
          exact ⟨rfl, below_setCells hBf (by rw [HbR.out]; exact Nat.le_refl _) _ _⟩
        · have hq2 : (tl.toList != line.toList) = true := by
            have := toList_beq tl line
            rw [decide_eq_false hne] at this
            simp only [bne, this]; rfl
          have hq3 : (tl.toList == line.toList) = false := by
            have := toList_beq tl line
            rw [decide_eq_false hne] at this
            exact this
          clear hne
          go_wp2_with (fail)
          have hbl : Blk (w9.setCells bR 0 (cS zeroSale)) bR (cS zeroSale).toArray 24 := by
            rw [← setAll_zeroS zeroSale]
            exact kR9.setCells 0 (cS zeroSale)
          rw [putS0]
          (try simp only [Exit.inBlock, Exit.then]); refine bodyPost_ret (results_cell_tmp rfl _ _ bR 24 (cS zeroSale) _ rfl hbl Tryz.underlying24 rfl (by kernel_rfl)) rfl ?_
          exact ⟨rfl, below_setCells hBf (by rw [HbR.out]; exact Nat.le_refl _) _ _⟩

end Go.Proofs.YtkeppoiomjhkpaaGreatDoor

/-
  Walks: the comparisons of lists.
-/
namespace Go.Proofs.YtkeppoiomjhkpaaGreatDoor
open Go.RowKit Lg Go.Sort Go.Shelf

theorem below_drewN' {n : Nat} {a w : World} (h : RowKit.Below n a w) (q : Nat) : RowKit.Below n a (w.drewN q) := ⟨h.os, h.tape, h.output, h.size, h.block⟩

set_option maxRecDepth 100000 in
set_option maxHeartbeats 1600000 in
theorem sameInts_any (a : Option Addr) (n cap : Nat) (xs : List Int) (b : Option Addr) (m capB : Nat) (ys : List Int) (w : World) (hL : Lst w 1 cI a n cap xs) (hM : Lst w 1 cI b m capB ys) :
    Calls Tryz.prog 39 #[.slice a n cap, .slice b m capB] w (Gives w (.bool (decide (xs = ys)))) := by
  have hma : cap ≤ 9223372036854775807 := by have := hL.max; unfold maxLen at this; omega
  have hmb : capB ≤ 9223372036854775807 := by have := hM.max; unfold maxLen at this; omega
  have hlea := hL.le
  have hleb := hM.le
  obtain ⟨q, hq⟩ : ∃ q, q = decide (xs = ys) := ⟨_, rfl⟩
  rw [← hq]
  have Hq := Lib.hid hq; clear hq
  by_cases hnm : n = m
  · subst hnm
    go_enter Tryz.func39, Tryz.ntmps39
    go_wp2
    go_loopw [5] (fun i wr => ∃ k : Nat, k ≤ n ∧ i = .int .i64 k ∧ RowKit.Below w.heap.size w wr ∧ xs.take k = ys.take k) (fun i _ => n - (intOf i).toNat)
    case atStart => exact ⟨0, Nat.zero_le _, rfl, Below.refl _ _, by simp⟩
    case round =>
      obtain ⟨k, hk, rfl, hB, htk⟩ := hrel
      by_cases hlt : k < n
      · obtain ⟨x, hx⟩ : ∃ x, xs[k]? = some x := ⟨xs[k]'(by rw [hL.len]; exact hlt), by simp⟩
        obtain ⟨y, hy⟩ : ∃ y, ys[k]? = some y := ⟨ys[k]'(by rw [hM.len]; exact hlt), by simp⟩
        obtain ⟨b1, o1, rfl, hb1, hr1⟩ := hL.at_ k x hx
        obtain ⟨b2, o2, rfl, hb2, hr2⟩ := hM.at_ k y hy
        have l1 := rangeAt_below hB hb1 hr1 0 _ rfl
        have l2 := rangeAt_below hB hb2 hr2 0 _ rfl
        simp only [Nat.mul_one, Nat.add_zero] at l1 l2
        have Hx := Lib.hid hx
        have Hy := Lib.hid hy
        have Htk := Lib.hid htk
        clear hx hy htk hr1 hr2
        by_cases hxy : x = y
        · have g0 : (x != y) = false := by simpa using hxy
          have Hxy := Lib.hid hxy; clear hxy
          go_wp2
          go_quiet (fail)
          go_wp2
          go_roundw
          case rel => exact ⟨k + 1, by omega, by go_num, below_drewN' hB _, take_eq_step Htk.out Hx.out Hy.out Hxy.out⟩
          case measure => simp [intOf]; omega
        · have g0 : (x != y) = true := by simpa using hxy
          have Hxy := Lib.hid hxy; clear hxy
          go_wp2
          go_quiet (fail)
          go_wp2
          go_ret
          refine ⟨ret_bool ?_, below_drewN' hB _⟩
          rw [Hq.out, decide_eq_false (fun e => Hxy.out ?_)]
          have h1 := Hx.out
          rw [e, Hy.out] at h1
          exact (Option.some.inj h1).symm
      · obtain rfl : k = n := by omega
        have e : xs = ys := by
          rw [List.take_of_length_le (by rw [hL.len]; exact Nat.le_refl _), List.take_of_length_le (by rw [hM.len]; exact Nat.le_refl _)] at htk
          exact htk
        have He := Lib.hid e
        clear e htk
        go_wp2
        go_ret
        exact ⟨ret_bool (by rw [Hq.out, decide_eq_true He.out]), hB⟩
  · have hne : xs ≠ ys := fun e => hnm (by rw [← hL.len, ← hM.len, e])
    have Hne := Lib.hid hne; clear hne
    go_enter Tryz.func39, Tryz.ntmps39
    go_wp2
    go_ret
    exact ⟨ret_bool (by rw [Hq.out, decide_eq_false Hne.out]), Below.refl _ _⟩

set_option maxRecDepth 100000 in
theorem neqSh (x y : Share) (w : World) : (binOp .neq 76 (aSh x) (aSh y)).run Tryz.prog w = .ok (.bool (!decide (x = y))) w := by
  have h := eqSh x y w
  rw [run_eql_struct] at h
  rw [run_neq_struct]
  generalize (Op.equalIn 10000 76 (aSh x) (aSh y)).run Tryz.prog w = r at h ⊢
  cases r with
  | ok v w' =>
    simp only [Result.andThen] at h ⊢
    injection h with h1 h2
    injection h1 with h1
    rw [h1, h2]
  | halt v w' =>
    simp only [Result.andThen] at h
    cases h

set_option maxRecDepth 100000 in
set_option maxHeartbeats 1600000 in
theorem sameShares_any (a : Option Addr) (n cap : Nat) (xs : List Share) (b : Option Addr) (m capB : Nat) (ys : List Share) (w : World) (hL : Lst w 2 cSh a n cap xs) (hM : Lst w 2 cSh b m capB ys) :
    Calls Tryz.prog 41 #[.slice a n cap, .slice b m capB] w (Gives w (.bool (decide (xs = ys)))) := by
  have hma : cap ≤ 9223372036854775807 := by have := hL.max; unfold maxLen at this; omega
  have hmb : capB ≤ 9223372036854775807 := by have := hM.max; unfold maxLen at this; omega
  have hlea := hL.le
  have hleb := hM.le
  obtain ⟨q, hq⟩ : ∃ q, q = decide (xs = ys) := ⟨_, rfl⟩
  rw [← hq]
  have Hq := Lib.hid hq; clear hq
  by_cases hnm : n = m
  · subst hnm
    go_enter Tryz.func41, Tryz.ntmps41
    go_wp2
    go_loopw [5] (fun i wr => ∃ k : Nat, k ≤ n ∧ i = .int .i64 k ∧ RowKit.Below w.heap.size w wr ∧ xs.take k = ys.take k) (fun i _ => n - (intOf i).toNat)
    case atStart => exact ⟨0, Nat.zero_le _, rfl, Below.refl _ _, by simp⟩
    case round =>
      obtain ⟨k, hk, rfl, hB, htk⟩ := hrel
      by_cases hlt : k < n
      · obtain ⟨x, hx⟩ : ∃ x, xs[k]? = some x := ⟨xs[k]'(by rw [hL.len]; exact hlt), by simp⟩
        obtain ⟨y, hy⟩ : ∃ y, ys[k]? = some y := ⟨ys[k]'(by rw [hM.len]; exact hlt), by simp⟩
        obtain ⟨b1, o1, rfl, hb1, hr1⟩ := hL.at_ k x hx
        obtain ⟨b2, o2, rfl, hb2, hr2⟩ := hM.at_ k y hy
        have l1 := show wr.cell? ⟨b1, o1 + k * 2, none⟩ = some (.int .i64 x.party) from rangeAt_below hB hb1 hr1 0 _ rfl
        have l2 := show wr.cell? ⟨b1, o1 + k * 2 + 1, none⟩ = some (.int .i64 x.pence) from rangeAt_below hB hb1 hr1 1 _ rfl
        have l3 := show wr.cell? ⟨b2, o2 + k * 2, none⟩ = some (.int .i64 y.party) from rangeAt_below hB hb2 hr2 0 _ rfl
        have l4 := show wr.cell? ⟨b2, o2 + k * 2 + 1, none⟩ = some (.int .i64 y.pence) from rangeAt_below hB hb2 hr2 1 _ rfl
        have Hx := Lib.hid hx
        have Hy := Lib.hid hy
        have Htk := Lib.hid htk
        clear hx hy htk hr1 hr2
        by_cases hxy : x = y
        · have g0 : ∀ w, (binOp .neq 76 (aSh x) (aSh y)).run Tryz.prog w = .ok (.bool false) w := fun w => by rw [neqSh, decide_eq_true hxy]; rfl
          have gg := guardSh
          have Hxy := Lib.hid hxy; clear hxy
          go_wp2
          go_quiet (fail)
          go_wp2
          go_roundw
          case rel => exact ⟨k + 1, by omega, by go_num, below_drewN' hB _, take_eq_step Htk.out Hx.out Hy.out Hxy.out⟩
          case measure => simp [intOf]; omega
        · have g0 : ∀ w, (binOp .neq 76 (aSh x) (aSh y)).run Tryz.prog w = .ok (.bool true) w := fun w => by rw [neqSh, decide_eq_false hxy]; rfl
          have gg := guardSh
          have Hxy := Lib.hid hxy; clear hxy
          go_wp2
          go_quiet (fail)
          go_wp2
          go_ret
          refine ⟨ret_bool ?_, below_drewN' hB _⟩
          rw [Hq.out, decide_eq_false (fun e => Hxy.out ?_)]
          have h1 := Hx.out
          rw [e, Hy.out] at h1
          exact (Option.some.inj h1).symm
      · obtain rfl : k = n := by omega
        have e : xs = ys := by
          rw [List.take_of_length_le (by rw [hL.len]; exact Nat.le_refl _), List.take_of_length_le (by rw [hM.len]; exact Nat.le_refl _)] at htk
          exact htk
        have He := Lib.hid e
        clear e htk
        go_wp2
        go_ret
        exact ⟨ret_bool (by rw [Hq.out, decide_eq_true He.out]), hB⟩
  · have hne : xs ≠ ys := fun e => hnm (by rw [← hL.len, ← hM.len, e])
    have Hne := Lib.hid hne; clear hne
    go_enter Tryz.func41, Tryz.ntmps41
    go_wp2
    go_ret
    exact ⟨ret_bool (by rw [Hq.out, decide_eq_false Hne.out]), Below.refl _ _⟩

end Go.Proofs.YtkeppoiomjhkpaaGreatDoor

/-
  Walks: the heads of records, as the reference has them.
-/
namespace Go.Proofs.YtkeppoiomjhkpaaGreatDoor
open Go.RowKit Lg Go.Sort Go.Shelf

theorem infoH : (Tryz.prog.info? 85).map (fun i => (i.zero, i.size, i.bytes)) = some (some (.agg #[.int .i64 0, .int .i64 0, .int .i64 0]), 3, 24) := by kernel_rfl

/-- A call hands back the heads. -/
def GivesH (w : World) (n : Nat) (hs : List Head) (e : Ending) (w' : World) : Prop :=
  ∃ a c, e = .returned (.slice a n c) ∧ Lst w' 3 cH a n c hs ∧ RowKit.Below w.heap.size w w'

theorem Lst.pre {α : Type} {w : World} {k : Nat} {enc : α → List Value} {a : Option Addr} {n cap : Nat} {xs : List α} (h : Lst w k enc a n cap xs) (j : Nat) (hj : j ≤ n) : Lst w k enc a j cap (xs.take j) :=
  ⟨by rw [List.length_take, h.len]; omega, Nat.le_trans hj h.le, h.max, fun i x hx => by
    have hi : i < j := by have := (List.getElem?_eq_some_iff.1 hx).1; rw [List.length_take] at this; omega
    rw [List.getElem?_take_of_lt hi] at hx
    exact h.at_ i x hx⟩

theorem map_take_snoc {α β : Type} (f : α → β) (l : List α) (k : Nat) (x : α) (h : l[k]? = some x) : (l.take (k + 1)).map f = (l.take k).map f ++ [f x] := by
  obtain ⟨h1, h2⟩ := List.getElem?_eq_some_iff.1 h
  rw [List.take_succ_eq_append_getElem h1, h2, List.map_append]; rfl

set_option maxRecDepth 100000 in
set_option maxHeartbeats 1600000 in
theorem ratesR_any (a : Option Addr) (n cap : Nat) (xs : List Rate) (w : World) (hn : n ≤ 300) (hL : Lst w 9 cR a n cap xs) :
    Calls Tryz.prog 58 #[.slice a n cap] w (GivesH w n (xs.map Rate.head)) := by
  have hm : cap ≤ 9223372036854775807 := by have := hL.max; unfold maxLen at this; omega
  have hle := hL.le
  have hlen := Lib.hid hL.len
  obtain ⟨i0, hi0, hz0, hz1, hz2⟩ := info_parts infoH
  go_enter Tryz.func58, Tryz.ntmps58
  go_wp2
  go_loopw [3, 4] (fun o i wr => ∃ k : Nat, k ≤ n ∧ i = .int .i64 k ∧ wr.ownsRow w.heap.size 85 3 o k (((xs.take k).map Rate.head).flatMap cH) ∧ RowKit.Below w.heap.size w wr) (fun _ i _ => n - (intOf i).toNat)
  case atStart => exact ⟨0, Nat.zero_le _, rfl, ⟨by simp, .inl ⟨rfl, rfl⟩⟩, Below.refl _ _⟩
  case round =>
    obtain ⟨k, hk, rfl, hor, hB⟩ := hrel
    by_cases hlt : k < n
    · have hltz : (k : Int) < (n : Int) := by omega
      obtain ⟨x, hx⟩ : ∃ x, xs[k]? = some x := ⟨xs[k]'(by rw [hlen.out]; exact hlt), by simp⟩
      obtain ⟨bb, off, rfl, hbb, hr⟩ := hL.at_ k x hx
      have m0 := hr 0 _ rfl
      have m1 := hr 1 _ rfl
      have m8 := hr 8 _ rfl
      simp only [Nat.add_zero] at m0
      have hS : ∀ W, RowKit.Below w.heap.size w W → W.cell? ⟨bb, off + k * 9, none⟩ = some (.int .i64 x.id) ∧ W.cell? ⟨bb, off + k * 9 + 1, none⟩ = some (.int .i64 x.known) ∧ W.cell? ⟨bb, off + k * 9 + 8, none⟩ = some (.int .i64 x.of_) :=
        fun W h => ⟨(h.cell (p := ⟨bb, off + k * 9, none⟩) hbb).trans m0, (h.cell (p := ⟨bb, off + k * 9 + 1, none⟩) hbb).trans m1, (h.cell (p := ⟨bb, off + k * 9 + 8, none⟩) hbb).trans m8⟩
      have HS := Lib.hid hS
      have hsn := map_take_snoc Rate.head xs k x hx
      have Hsn := Lib.hid hsn
      have hsw := hB.size
      clear hr hx hsn m0 m1 m8 hS
      generalize (xs.take k).map Rate.head = hs at *
      go_wp2_with (fail)
      go_region_held3 (fun w' => w'.cell? ⟨bb, off + k * 9, none⟩ = some (.int .i64 x.id) ∧ w'.cell? ⟨bb, off + k * 9 + 1, none⟩ = some (.int .i64 x.known) ∧ w'.cell? ⟨bb, off + k * 9 + 8, none⟩ = some (.int .i64 x.of_))
        (((with_reducible refine HS.out _ ?_); repeat (first | (with_reducible assumption) | (with_reducible exact Below.refl _ _) | (with_reducible refine Below.alloc ?_ ?_ _) | (with_reducible refine Below.setCell ?_ ?_ _) | (with_reducible refine Below.drew ?_) | omega | (simp <;> omega) | (dsimp only; omega))))
        (first
          | (refine step_append_lies _ (by rfl) _ _ _ (by rfl) w.heap.size 85 i0 _ 3 24 Tryz.underlying81 hi0 hz0 hz1 hz2 rfl (by omega) _ k (hs.flatMap cH) (by rfl) (hor.alloc _).drew ⟨wr.heap.size, 0, none⟩ 1 1 [.int .i64 x.id, .int .i64 x.known, .int .i64 x.of_] (by rfl) (by rfl) (World.news_of_block (cs := #[.int .i64 x.id, .int .i64 x.known, .int .i64 x.of_]) (t := 85) (fr := (0, 0)) (heap_alloc_new wr _)) (by simp [Value.oneCell']) (by omega) (by unfold maxLen; omega) (by omega) (by simp; omega) _ rfl ?_; intro g cap1 w3 hown3 hgrow hat hlt1; have hBn := below_of_grown ((hB.alloc hB.size _).drew) (Nat.le_refl _) hgrow (own_ge' hor))
          | fail)
      go_wp2_with (fail)
      go_roundw
      case rel =>
        refine ⟨k + 1, by omega, by go_num, ?_, hBn⟩
        rw [Hsn.out, List.flatMap_append, List.flatMap_singleton]
        exact hown3
      case measure => simp [intOf]; omega
    · obtain rfl : k = n := by omega
      rw [List.take_of_length_le (by rw [hlen.out]; exact Nat.le_refl _)] at hor
      obtain ⟨av, cv, rfl, _, hl⟩ := Lst.of_owns (k := 3) (enc := cH) (fun _ => rfl) (by omega) hor (by rw [List.length_map, hlen.out])
      go_wp2
      go_ret
      exact ⟨av, cv, rfl, hl, hB⟩

set_option maxRecDepth 100000 in
set_option maxHeartbeats 1600000 in
theorem salesR_any (a : Option Addr) (n cap : Nat) (xs : List Sale) (w : World) (hn : n ≤ 300) (hL : Lst w 9 cS a n cap xs) :
    Calls Tryz.prog 43 #[.slice a n cap] w (GivesH w n (xs.map Sale.head)) := by
  have hm : cap ≤ 9223372036854775807 := by have := hL.max; unfold maxLen at this; omega
  have hle := hL.le
  have hlen := Lib.hid hL.len
  obtain ⟨i0, hi0, hz0, hz1, hz2⟩ := info_parts infoH
  go_enter Tryz.func43, Tryz.ntmps43
  go_wp2
  go_loopw [3, 4] (fun o i wr => ∃ k : Nat, k ≤ n ∧ i = .int .i64 k ∧ wr.ownsRow w.heap.size 85 3 o k (((xs.take k).map Sale.head).flatMap cH) ∧ RowKit.Below w.heap.size w wr) (fun _ i _ => n - (intOf i).toNat)
  case atStart => exact ⟨0, Nat.zero_le _, rfl, ⟨by simp, .inl ⟨rfl, rfl⟩⟩, Below.refl _ _⟩
  case round =>
    obtain ⟨k, hk, rfl, hor, hB⟩ := hrel
    by_cases hlt : k < n
    · have hltz : (k : Int) < (n : Int) := by omega
      obtain ⟨x, hx⟩ : ∃ x, xs[k]? = some x := ⟨xs[k]'(by rw [hlen.out]; exact hlt), by simp⟩
      obtain ⟨bb, off, rfl, hbb, hr⟩ := hL.at_ k x hx
      have m0 := hr 0 _ rfl
      have m1 := hr 1 _ rfl
      have m8 := hr 8 _ rfl
      simp only [Nat.add_zero] at m0
      have hS : ∀ W, RowKit.Below w.heap.size w W → W.cell? ⟨bb, off + k * 9, none⟩ = some (.int .i64 x.id) ∧ W.cell? ⟨bb, off + k * 9 + 1, none⟩ = some (.int .i64 x.known) ∧ W.cell? ⟨bb, off + k * 9 + 8, none⟩ = some (.int .i64 x.of_) :=
        fun W h => ⟨(h.cell (p := ⟨bb, off + k * 9, none⟩) hbb).trans m0, (h.cell (p := ⟨bb, off + k * 9 + 1, none⟩) hbb).trans m1, (h.cell (p := ⟨bb, off + k * 9 + 8, none⟩) hbb).trans m8⟩
      have HS := Lib.hid hS
      have hsn := map_take_snoc Sale.head xs k x hx
      have Hsn := Lib.hid hsn
      have hsw := hB.size
      clear hr hx hsn m0 m1 m8 hS
      generalize (xs.take k).map Sale.head = hs at *
      go_wp2_with (fail)
      go_region_held3 (fun w' => w'.cell? ⟨bb, off + k * 9, none⟩ = some (.int .i64 x.id) ∧ w'.cell? ⟨bb, off + k * 9 + 1, none⟩ = some (.int .i64 x.known) ∧ w'.cell? ⟨bb, off + k * 9 + 8, none⟩ = some (.int .i64 x.of_))
        (((with_reducible refine HS.out _ ?_); repeat (first | (with_reducible assumption) | (with_reducible exact Below.refl _ _) | (with_reducible refine Below.alloc ?_ ?_ _) | (with_reducible refine Below.setCell ?_ ?_ _) | (with_reducible refine Below.drew ?_) | omega | (simp <;> omega) | (dsimp only; omega))))
        (first
          | (refine step_append_lies _ (by rfl) _ _ _ (by rfl) w.heap.size 85 i0 _ 3 24 Tryz.underlying81 hi0 hz0 hz1 hz2 rfl (by omega) _ k (hs.flatMap cH) (by rfl) (hor.alloc _).drew ⟨wr.heap.size, 0, none⟩ 1 1 [.int .i64 x.id, .int .i64 x.known, .int .i64 x.of_] (by rfl) (by rfl) (World.news_of_block (cs := #[.int .i64 x.id, .int .i64 x.known, .int .i64 x.of_]) (t := 85) (fr := (0, 0)) (heap_alloc_new wr _)) (by simp [Value.oneCell']) (by omega) (by unfold maxLen; omega) (by omega) (by simp; omega) _ rfl ?_; intro g cap1 w3 hown3 hgrow hat hlt1; have hBn := below_of_grown ((hB.alloc hB.size _).drew) (Nat.le_refl _) hgrow (own_ge' hor))
          | fail)
      go_wp2_with (fail)
      go_roundw
      case rel =>
        refine ⟨k + 1, by omega, by go_num, ?_, hBn⟩
        rw [Hsn.out, List.flatMap_append, List.flatMap_singleton]
        exact hown3
      case measure => simp [intOf]; omega
    · obtain rfl : k = n := by omega
      rw [List.take_of_length_le (by rw [hlen.out]; exact Nat.le_refl _)] at hor
      obtain ⟨av, cv, rfl, _, hl⟩ := Lst.of_owns (k := 3) (enc := cH) (fun _ => rfl) (by omega) hor (by rw [List.length_map, hlen.out])
      go_wp2
      go_ret
      exact ⟨av, cv, rfl, hl, hB⟩

set_option maxRecDepth 100000 in
set_option maxHeartbeats 1600000 in
theorem countsR_any (a : Option Addr) (n cap : Nat) (hs : List Head) (h : Head) (known : Int) (w : World) (hL : Lst w 3 cH a n cap hs) :
    Calls Tryz.prog 45 #[.slice a n cap, aH h, .int .i64 known] w (Gives w (.bool (counts hs known h))) := by
  have hm : cap ≤ 9223372036854775807 := by have := hL.max; unfold maxLen at this; omega
  have hle := hL.le
  have hlen := Lib.hid hL.len
  obtain ⟨q, hq⟩ : ∃ q, q = counts hs known h := ⟨_, rfl⟩
  rw [← hq]
  have Hq := Lib.hid hq; clear hq
  obtain ⟨W0, hW0⟩ : ∃ W0, W0 = w.alloc (.cells #[.int .i64 h.id, .int .i64 h.known, .int .i64 h.of_] 85) := ⟨_, rfl⟩
  have k0 : Blk W0 w.heap.size #[.int .i64 h.id, .int .i64 h.known, .int .i64 h.of_] 85 := by rw [hW0]; exact Blk.new w _ _
  have hB0 : RowKit.Below w.heap.size w W0 := hW0 ▸ (Below.refl _ w).alloc (Nat.le_refl _) _
  have hL := hL.below hB0
  go_enter Tryz.func45, Tryz.ntmps45
  go_wp2_with (fail)
  rw [← hW0]
  clear hW0
  go_loopw [7] (fun i wr => ∃ k : Nat, k ≤ n ∧ i = .int .i64 k ∧ RowKit.Below W0.heap.size W0 wr ∧ Hid ((hs.take k).any (fun v => voids h v known) = false)) (fun i _ => n - (intOf i).toNat)
  case atStart => exact ⟨0, Nat.zero_le _, rfl, Below.refl _ _, Lib.hid (by simp)⟩
  case round =>
    obtain ⟨k, hk, rfl, hB, Ht⟩ := hrel
    have k0 := k0.below' hB
    have hBw := hB0.trans (hB.mono hB0.size)
    have c0 := k0.cell
    by_cases hlt : k < n
    · have hltz : (k : Int) < (n : Int) := by omega
      obtain ⟨v, hv⟩ : ∃ v, hs[k]? = some v := ⟨hs[k]'(by rw [hlen.out]; exact hlt), by simp⟩
      obtain ⟨bb, off, rfl, hbb, hr⟩ := hL.at_ k v hv
      have m1 := rangeAt_below hB hbb hr 1 _ rfl
      have m2 := rangeAt_below hB hbb hr 2 _ rfl
      have hsn : (hs.take (k + 1)).any (fun v => voids h v known) = voids h v known := by
        obtain ⟨h1, h2⟩ := List.getElem?_eq_some_iff.1 hv
        rw [List.take_succ_eq_append_getElem h1, h2, List.any_append, Ht.out]; simp
      have hbad : voids h v known = true → q = false := fun e => by
        rw [Hq.out]; unfold counts
        have : (hs.any fun v => voids h v known) = true := List.any_eq_true.2 ⟨v, List.mem_of_getElem? hv, e⟩
        rw [this]; simp
      have Hsn := Lib.hid hsn
      have Hbad := Lib.hid hbad
      clear hv hr hsn hbad
      by_cases e1 : v.of_ = h.id
      · have g1 : (v.of_ == h.id) = true := by simpa using e1
        have E1 := Lib.hid e1; clear e1
        by_cases e2 : v.known ≤ known
        · have hq := Hbad.out (by simp [voids, E1.out, e2])
          subst hq
          have g2 : decide (v.known ≤ known) = true := decide_eq_true e2
          go_wp2
          go_quiet (fail)
          go_wp2
          go_ret
          exact ⟨rfl, below_drewN' hBw _⟩
        · have g2 : decide (v.known ≤ known) = false := decide_eq_false e2
          go_wp2
          go_quiet (fail)
          go_wp2
          go_roundw
          case rel => exact ⟨k + 1, by omega, by go_num, below_drewN' hB _, Lib.hid (by rw [Hsn.out]; simp [voids, e2])⟩
          case measure => simp [intOf]; omega
      · have g1 : (v.of_ == h.id) = false := by simpa using e1
        have E1 := Lib.hid e1; clear e1
        go_wp2
        go_quiet (fail)
        go_wp2
        go_roundw
        case rel => exact ⟨k + 1, by omega, by go_num, below_drewN' hB _, Lib.hid (by rw [Hsn.out]; simp [voids, E1.out])⟩
        case measure => simp [intOf]; omega
    · obtain rfl : k = n := by omega
      have ht := Ht.out
      rw [List.take_of_length_le (by rw [hlen.out]; exact Nat.le_refl _)] at ht
      have hq := Hq.out
      unfold counts at hq
      rw [ht] at hq
      have Hq2 := Lib.hid hq
      clear ht hq Hq
      by_cases e1 : h.of_ = 0
      · have g1 : (h.of_ == 0) = true := by simpa using e1
        have E1 := Lib.hid e1; clear e1
        by_cases e2 : h.known ≤ known
        · have g2 : decide (h.known ≤ known) = true := decide_eq_true e2
          go_wp2
          go_ret
          exact ⟨ret_bool (by rw [Hq2.out]; simp [E1.out, e2]), hBw⟩
        · have g2 : decide (h.known ≤ known) = false := decide_eq_false e2
          go_wp2
          go_ret
          exact ⟨ret_bool (by rw [Hq2.out]; simp [E1.out, e2]), hBw⟩
      · have g1 : (h.of_ == 0) = false := by simpa using e1
        have E1 := Lib.hid e1; clear e1
        go_wp2
        go_ret
        exact ⟨ret_bool (by rw [Hq2.out]; simp [E1.out]), hBw⟩

end Go.Proofs.YtkeppoiomjhkpaaGreatDoor

/-
  Plain functions: why the reference refuses a record behind others.
-/
namespace Lg
open Go

def headedOf (l : List Head) (h : Head) : Int :=
  if l.any (fun y => decide (y.id = h.id)) then 6
  else if (match l.getLast? with | some y => decide (h.known < y.known) | none => false) then 7
  else if h.of_ = 0 then 0
  else if !(l.any fun y => decide (y.id = h.of_) && decide (y.of_ = 0)) then 5
  else if l.any (fun y => decide (y.of_ = h.of_)) then 6
  else 0

theorem follows_headed (l : List Head) (h : Head) (most : Nat) (ok : Bool) : follows l h most ok = if most ≤ l.length then 2 else if !ok then 1 else headedOf l h := rfl

theorem followsR_headed (l : List Rate) (x : Rate) : followsR l x = if 100 ≤ l.length then 2 else if !rateOk x then 1 else headedOf (l.map Rate.head) x.head := by
  unfold followsR; rw [follows_headed, List.length_map]
theorem followsS_headed (l : List Sale) (x : Sale) : followsS l x = if 200 ≤ l.length then 2 else if !saleOk x then 1 else headedOf (l.map Sale.head) x.head := by
  unfold followsS; rw [follows_headed, List.length_map]

end Lg
