import Derived.Test.YtkeppoiomjhkpaaGreatDoorPart39
import Derived.Test.YtkeppoiomjhkpaaGreatDoorPart18
import Derived.Test.YtkeppoiomjhkpaaGreatDoorPart30
import Derived.Test.YtkeppoiomjhkpaaGreatDoorPart13
import Derived.Test.YtkeppoiomjhkpaaGreatDoorPart17
import Derived.Test.YtkeppoiomjhkpaaGreatDoorPart15
import Derived.Test.YtkeppoiomjhkpaaGreatDoorPart14
import Derived.Test.YtkeppoiomjhkpaaGreatDoorPart06
/-
  Walks: the reference's ReadRate.
-/
namespace Go.Proofs.YtkeppoiomjhkpaaGreatDoor
open Go.RowKit Lg Go.Sort Go.Shelf

set_option maxRecDepth 100000 in
set_option maxHeartbeats 6400000 in
theorem readRateR_any (line : ByteArray) (y : Rate) (er : Int) (h : ReadsR line y er) (hs : line.size ≤ 400) (w : World) : Calls Tryz.prog 26 #[.string line] w (Gives w (.tuple #[aR y, .int .i64 er])) := by
  have hcu := fun W => cutR_any line W hs
  have hB0 : RowKit.Below w.heap.size w (w.alloc (.cells #[.int .i64 0, .int .i64 0, .int .i64 0, .string ⟨#[]⟩, .int .i64 0, .int .i64 0, .int .i64 0, .int .i64 0, .int .i64 0] 43)) := (Below.refl _ w).alloc (Nat.le_refl _) _
  have k0 := Blk.new w 43 #[.int .i64 0, .int .i64 0, .int .i64 0, .string ⟨#[]⟩, .int .i64 0, .int .i64 0, .int .i64 0, .int .i64 0, .int .i64 0]
  obtain ⟨val, hval⟩ : ∃ val : ByteArray → Int, val = fun s => valL s.data.toList := ⟨_, rfl⟩
  have HV : ∀ s W, Calls Tryz.prog 54 #[.string s] W fun e w' => e = .returned (.int .i64 (val s)) ∧ W = w' := fun s W => by rw [hval]; exact valueR_any s W
  have HV := Lib.hid HV
  have Hval := Lib.hid hval
  clear hval
  go_enter Tryz.func26, Tryz.ntmps26
  go_wp2_with (fail)
  refine (hcu _).mono ?_
  clear hcu
  rintro e w2 ⟨a, c, ws, q, rfl, hL, hn, hws, hB2⟩
  have k2 := k0.below' hB2
  have hB2 := hB0.trans (hB2.mono hB0.size)
  clear k0 hB0
  obtain ⟨b, off, rfl, hb, hcl⟩ := hL.wordCells (by omega)
  obtain ⟨s0, hs0⟩ : ∃ s, ws[0]? = some s := ⟨ws[0]'(by omega), by simp⟩
  obtain ⟨s1, hs1⟩ : ∃ s, ws[1]? = some s := ⟨ws[1]'(by omega), by simp⟩
  obtain ⟨s2, hs2⟩ : ∃ s, ws[2]? = some s := ⟨ws[2]'(by omega), by simp⟩
  obtain ⟨s3, hs3⟩ : ∃ s, ws[3]? = some s := ⟨ws[3]'(by omega), by simp⟩
  obtain ⟨s4, hs4⟩ : ∃ s, ws[4]? = some s := ⟨ws[4]'(by omega), by simp⟩
  obtain ⟨s5, hs5⟩ : ∃ s, ws[5]? = some s := ⟨ws[5]'(by omega), by simp⟩
  obtain ⟨s6, hs6⟩ : ∃ s, ws[6]? = some s := ⟨ws[6]'(by omega), by simp⟩
  obtain ⟨s7, hs7⟩ : ∃ s, ws[7]? = some s := ⟨ws[7]'(by omega), by simp⟩
  obtain ⟨s8, hs8⟩ : ∃ s, ws[8]? = some s := ⟨ws[8]'(by omega), by simp⟩
  have hx := readsR_parse h _ q hws
  have hxv : s2 = ⟨#[118, 111, 105, 100]⟩ → parseR (ws.map (·.data.toList)) = ⟨val s0, val s1, 0, ⟨#[]⟩, ⟨0, 0⟩, 0, 0, val s3⟩ := fun e => by
    unfold parseR
    rw [getD_map ws 0 s0 hs0, getD_map ws 1 s1 hs1, getD_map ws 2 s2 hs2, getD_map ws 3 s3 hs3, if_pos (by rw [e]; rfl), Hval.out]; rfl
  have hxg : ∀ gv, gv = (if s4.data.toList = allL then (⟨#[]⟩ : ByteArray) else ofL s4.data.toList) → s2 ≠ ⟨#[118, 111, 105, 100]⟩ → parseR (ws.map (·.data.toList)) = ⟨val s0, val s1, val s3, gv, ⟨val s5, val s6⟩, val s7, val s8, 0⟩ := fun gv hg e => by
    unfold parseR
    rw [getD_map ws 0 s0 hs0, getD_map ws 1 s1 hs1, getD_map ws 2 s2 hs2, getD_map ws 3 s3 hs3, getD_map ws 4 s4 hs4, getD_map ws 5 s5 hs5, getD_map ws 6 s6 hs6, getD_map ws 7 s7 hs7, getD_map ws 8 s8 hs8, if_neg (fun e2 => e (ByteArray.ext (Array.toList_inj.1 (by rw [e2]; rfl)))), Hval.out, hg]; rfl
  have hxa := fun (e4 : s4 = allS) => hxg ⟨#[]⟩ (by rw [e4]; rfl)
  have hxb := fun (e4 : s4 ≠ allS) => hxg s4 (by rw [if_neg (fun e2 => e4 (ByteArray.ext (Array.toList_inj.1 (by rw [e2]; rfl))))])
  have HW : ∀ W, RowKit.Below w2.heap.size w2 W → ∀ i s, ws[i]? = some s → W.cell? ⟨b, off + i, none⟩ = some (.string s) := fun W hW i s hi => (hW.cell (p := ⟨b, off + i, none⟩) hb).trans (hcl i s hi)
  have HW := Lib.hid HW
  have Hx := Lib.hid hx
  have Hxv := Lib.hid hxv
  have Hxa := Lib.hid hxa
  have Hxb := Lib.hid hxb
  obtain ⟨N, hN⟩ : ∃ N, N = ws.length := ⟨_, rfl⟩
  rw [← hN] at hn ⊢
  have hnz : (10 : Int) ≤ (N : Int) := by omega
  have hn0 : (0 : Int) < (N : Int) := by omega
  have hn1 : (1 : Int) < (N : Int) := by omega
  have hm0 : 0 < N := by omega
  have hm1 : 1 < N := by omega
  have hn5 : (5 : Int) < (N : Int) := by omega
  have hn6 : (6 : Int) < (N : Int) := by omega
  have hm5 : 5 < N := by omega
  have hm6 : 6 < N := by omega
  clear hL hcl hws hx hxv hxg hxa hxb hN h Hval hs
  obtain ⟨bR, hbR⟩ : ∃ bR, bR = w.heap.size := ⟨_, rfl⟩
  rw [← hbR] at k2 ⊢
  have HbR := Lib.hid hbR
  clear hbR
  have hbRl : bR < w2.heap.size := k2.lt
  have HS : ∀ W, RowKit.Below w2.heap.size w2 W → W.cell? ⟨b, off, none⟩ = some (.string s0) ∧ W.cell? ⟨b, off + 1, none⟩ = some (.string s1) := fun W hW => ⟨HW.out W hW 0 s0 hs0, HW.out W hW 1 s1 hs1⟩
  have HS := Lib.hid HS
  go_upto_region 2 with fail
  go_cut [5] (fun c5 W => ∃ B, c5 = .pointer (some ⟨B, 0, none⟩) ∧ w2.heap.size ≤ B ∧ Blk W B #[.int .i64 (val s0), .int .i64 (val s1), .int .i64 0, .string ⟨#[]⟩, .int .i64 0, .int .i64 0, .int .i64 0, .int .i64 0, .int .i64 0] 43 ∧ RowKit.Below w2.heap.size w2 W)
  case first =>
    go_region_held3 (fun w' => w'.cell? ⟨b, off, none⟩ = some (.string s0) ∧ w'.cell? ⟨b, off + 1, none⟩ = some (.string s1))
      (((with_reducible refine HS.out _ ?_); repeat (first | (with_reducible assumption) | (with_reducible exact Below.refl _ _) | (with_reducible refine Below.alloc ?_ ?_ _) | (with_reducible refine Below.setCell ?_ ?_ _) | (with_reducible refine Below.drew ?_) | omega | (simp <;> omega) | (dsimp only; omega))))
      (first
        | (go_at_call 54; (with_reducible refine (HV.out _ _).mono ?_); rintro e w5 ⟨rfl, rfl⟩)
        | fail)
    all_goals
      go_wp2_with fail
      go_meet
      refine ⟨_, rfl, Nat.le_refl _, ?_, ?_⟩
      · first
          | exact Blk.new _ _ _
          | exact ((((((((((Blk.new w2 43 #[.int .i64 0, .int .i64 0, .int .i64 0, .string ⟨#[]⟩, .int .i64 0, .int .i64 0, .int .i64 0, .int .i64 0, .int .i64 0]).setCell 0 (.int .i64 (val s0))).setCell 1 (.int .i64 (val s1))).setCell 2 (.int .i64 0)).setCell 3 (.string ⟨#[]⟩)).setCell 4 (.int .i64 0)).setCell 5 (.int .i64 0)).setCell 6 (.int .i64 0)).setCell 7 (.int .i64 0)).setCell 8 (.int .i64 0))
      · repeat (first | (with_reducible assumption) | (with_reducible exact Below.refl _ _) | (with_reducible refine Below.alloc ?_ ?_ _) | (with_reducible refine Below.setCell ?_ ?_ _) | (with_reducible refine Below.drew ?_) | omega | (simp <;> omega) | (dsimp only; omega))
  case rest =>
    obtain ⟨B, rfl, hBz, kB, hB⟩ := hcut
    obtain ⟨w8, hw8⟩ : ∃ w8, w8 = wc := ⟨_, rfl⟩
    rw [← hw8] at kB hB ⊢
    clear hw8 HS
    have c2 := HW.out _ hB 2 s2 hs2
    have hl0 : b ≠ B := by omega
    have hl1 : bR ≠ B := by omega
    by_cases hv : s2 = ⟨#[118, 111, 105, 100]⟩
    · have hq : (s2.toList == [118, 111, 105, 100]) = true := by rw [hv, ByteArray.toList_eq]; rfl
      have Hx0 := Hx.out
      rw [Hxv.out hv] at Hx0
      have Hx1 := Lib.hid Hx0
      clear hv Hx Hxv Hxa Hxb Hx0
      have ca := HW.out _ hB 3 s3 hs3
      have e5 := kB.cell
      have g5 := kB.frozen
      have l5 := kB.lt
      go_upto_region 12 with (first | (go_at_call 54; (with_reducible refine (HV.out _ _).mono ?_); rintro e w5 ⟨rfl, rfl⟩) | fail)
      obtain ⟨wna, hwna⟩ : ∃ wn, wn = w8.setCell ⟨B, 8, none⟩ (.int .i64 (val s3)) := ⟨_, rfl⟩
      rw [← hwna]
      have hB := show RowKit.Below w2.heap.size w2 wna from hwna ▸ hB.setCell (p := ⟨B, 8, none⟩) hBz _
      have kB : Blk wna B #[.int .i64 (val s0), .int .i64 (val s1), .int .i64 0, .string ⟨#[]⟩, .int .i64 0, .int .i64 0, .int .i64 0, .int .i64 0, .int .i64 (val s3)] 43 := hwna ▸ kB.setCell 8 (.int .i64 (val s3))
      clear ca e5 g5 l5 hwna
      obtain ⟨x1, hx1⟩ : ∃ x1 : Rate, x1 = ⟨val s0, val s1, 0, ⟨#[]⟩, ⟨0, 0⟩, 0, 0, val s3⟩ := ⟨_, rfl⟩
      rw [← hx1] at Hx1
      have kB : Blk wna B (cR x1).toArray 43 := by rw [hx1]; exact kB
      have hlo : wna.heap.size = wna.heap.size := rfl
      have e5 := kB.cell
      have g5 := kB.frozen
      have l5 := kB.lt
      have hwr := fun W => writeRateR_any x1 W
      have kR := k2.below' hB
      clear hx1 hs0 hs1 hs2 hs3 hs4 hs5 hs6 hs7 hs8 HW HV
      obtain ⟨t, ht⟩ : ∃ t, t = writeR x1 := ⟨_, rfl⟩
      rw [← ht] at hwr
      have Ht := Lib.hid ht
      clear ht
      obtain ⟨tl, te⟩ := t
      dsimp only at hwr
      go_wp2_with (first
        | (refine wpList_load_mid rfl 43 _ rfl B 0 rfl (cR x1) _ (kB.range 0 _ (fun j v h => by simpa using h)) Tryz.underlying43 rfl (by kernel_rfl) ?_)
        | fail)
      refine (hwr _).mono ?_
      clear hwr
      rintro e w9 ⟨rfl, hB9⟩
      have kB9 := kB.below' hB9
      have kR9 := kR.below' hB9
      have hB10 := hB.trans (hB9.mono hB.size)
      have hBf := hB2.trans (hB10.mono hB2.size)
      clear e5 g5 l5 kB kR
      have e5 := kB9.cell
      have eR := kR9.cell
      have gR := kR9.frozen
      have lR := kR9.lt
      rcases Hx1.out with ⟨o1, o2, rfl, rfl⟩ | ⟨o1, rfl, rfl⟩
      · have ht := Ht.out
        rw [show writeR y = (lineR y, 0) by unfold writeR; rw [o1]; rfl] at ht
        obtain ⟨rfl, rfl⟩ : tl = lineR y ∧ te = 0 := by injection ht with i1 i2; exact ⟨i1, i2⟩
        rw [o2]
        have hq2 : (line.toList != line.toList) = false := by simp
        have hq3 : (line.toList == line.toList) = true := by simp
        clear ht o1 o2 Ht Hx1
        go_wp2_with (first
          | (refine wpList_load_mid rfl 43 _ rfl B 0 rfl (cR y) _ (kB9.range 0 _ (fun j v h => by simpa using h)) Tryz.underlying43 rfl (by kernel_rfl) ?_)
          | fail)
        have hbl : Blk (w9.setCells bR 0 (cR y)) bR (cR y).toArray 43 := by
          rw [← setAll_zero y]
          exact kR9.setCells 0 (cR y)
        rw [putR]
        (try simp only [Exit.inBlock, Exit.then]); refine bodyPost_ret (results_cell_tmp rfl _ _ bR 43 (cR y) _ rfl hbl Tryz.underlying43 rfl (by kernel_rfl)) rfl ?_
        exact ⟨rfl, below_setCells hBf (by rw [HbR.out]; exact Nat.le_refl _) _ _⟩
      · have ht := Ht.out
        have hcs : (te = 1 ∧ tl = ⟨#[]⟩) ∨ (te = 0 ∧ tl ≠ line) := by
          unfold writeR at ht
          cases ho : rateOk x1 with
          | true =>
            rw [ho] at ht
            injection ht with i1 i2
            exact .inr ⟨i2, by rw [i1]; exact o1 ho⟩
          | false =>
            rw [ho] at ht
            injection ht with i1 i2
            exact .inl ⟨i2, i1⟩
        clear ht o1 Ht Hx1
        rcases hcs with ⟨rfl, rfl⟩ | ⟨rfl, hne⟩
        · go_wp2_with (fail)
          have hbl : Blk (w9.setCells bR 0 (cR zeroRate)) bR (cR zeroRate).toArray 43 := by
            rw [← setAll_zero zeroRate]
            exact kR9.setCells 0 (cR zeroRate)
          rw [putR0]
          (try simp only [Exit.inBlock, Exit.then]); refine bodyPost_ret (results_cell_tmp rfl _ _ bR 43 (cR zeroRate) _ rfl hbl Tryz.underlying43 rfl (by kernel_rfl)) rfl ?_
          exact ⟨rfl, below_setCells hBf (by rw [HbR.out]; exact Nat.le_refl _) _ _⟩
        · have hq2 : (tl.toList != line.toList) = true := by
            have := toList_beq tl line
            rw [decide_eq_false hne] at this
            simp only [bne, this]; rfl
          have hq3 : (tl.toList == line.toList) = false := by
            have := toList_beq tl line
            rw [decide_eq_false hne] at this
            exact this
          clear hne
          go_wp2_with (fail)
          have hbl : Blk (w9.setCells bR 0 (cR zeroRate)) bR (cR zeroRate).toArray 43 := by
            rw [← setAll_zero zeroRate]
            exact kR9.setCells 0 (cR zeroRate)
          rw [putR0]
          (try simp only [Exit.inBlock, Exit.then]); refine bodyPost_ret (results_cell_tmp rfl _ _ bR 43 (cR zeroRate) _ rfl hbl Tryz.underlying43 rfl (by kernel_rfl)) rfl ?_
          exact ⟨rfl, below_setCells hBf (by rw [HbR.out]; exact Nat.le_refl _) _ _⟩
    · have hq : (s2.toList == [118, 111, 105, 100]) = false := by
        have := toList_beq s2 ⟨#[118, 111, 105, 100]⟩
        rw [decide_eq_false hv, ByteArray.toList_eq ⟨#[118, 111, 105, 100]⟩] at this
        exact this
      go_upto_region 5 with fail
      clear c2
      have cb := HW.out _ hB 3 s3 hs3
      have e5 := kB.cell
      have g5 := kB.frozen
      have l5 := kB.lt
      go_upto_region 6 with (first | (go_at_call 54; (with_reducible refine (HV.out _ _).mono ?_); rintro e w5 ⟨rfl, rfl⟩) | fail)
      obtain ⟨wnb, hwnb⟩ : ∃ wn, wn = w8.setCell ⟨B, 2, none⟩ (.int .i64 (val s3)) := ⟨_, rfl⟩
      rw [← hwnb]
      have hB := show RowKit.Below w2.heap.size w2 wnb from hwnb ▸ hB.setCell (p := ⟨B, 2, none⟩) hBz _
      have kB : Blk wnb B #[.int .i64 (val s0), .int .i64 (val s1), .int .i64 (val s3), .string ⟨#[]⟩, .int .i64 0, .int .i64 0, .int .i64 0, .int .i64 0, .int .i64 0] 43 := hwnb ▸ kB.setCell 2 (.int .i64 (val s3))
      clear cb e5 g5 l5 hwnb
      have cc := HW.out _ hB 4 s4 hs4
      have e5 := kB.cell
      have g5 := kB.frozen
      have l5 := kB.lt
      go_upto_region 7 with (first | (go_at_call 54; (with_reducible refine (HV.out _ _).mono ?_); rintro e w5 ⟨rfl, rfl⟩) | fail)
      obtain ⟨wnc, hwnc⟩ : ∃ wn, wn = wnb.setCell ⟨B, 3, none⟩ (.string s4) := ⟨_, rfl⟩
      rw [← hwnc]
      have hB := show RowKit.Below w2.heap.size w2 wnc from hwnc ▸ hB.setCell (p := ⟨B, 3, none⟩) hBz _
      have kB : Blk wnc B #[.int .i64 (val s0), .int .i64 (val s1), .int .i64 (val s3), .string s4, .int .i64 0, .int .i64 0, .int .i64 0, .int .i64 0, .int .i64 0] 43 := hwnc ▸ kB.setCell 3 (.string s4)
      clear cc e5 g5 l5 hwnc
      have e5 := kB.cell
      have g5 := kB.frozen
      have l5 := kB.lt
      by_cases hall : s4 = allS
      · have hqa : (s4.toList == [97, 108, 108]) = true := by rw [hall, ByteArray.toList_eq]; rfl
        have Hx0 := Hx.out
        rw [Hxa.out hall hv] at Hx0
        have Hx1 := Lib.hid Hx0
        clear hall hv Hx Hxv Hxa Hxb Hx0
        go_upto_region 9 with fail
        obtain ⟨wnd, hwnd⟩ : ∃ wn, wn = wnc.setCell ⟨B, 3, none⟩ (.string ⟨#[]⟩) := ⟨_, rfl⟩
        rw [← hwnd]
        have hB := show RowKit.Below w2.heap.size w2 wnd from hwnd ▸ hB.setCell (p := ⟨B, 3, none⟩) hBz _
        have kB : Blk wnd B #[.int .i64 (val s0), .int .i64 (val s1), .int .i64 (val s3), .string ⟨#[]⟩, .int .i64 0, .int .i64 0, .int .i64 0, .int .i64 0, .int .i64 0] 43 := hwnd ▸ kB.setCell 3 (.string ⟨#[]⟩)
        clear e5 g5 l5 hwnd
        have HS : ∀ W, RowKit.Below w2.heap.size w2 W → W.cell? ⟨b, off + 5, none⟩ = some (.string s5) ∧ W.cell? ⟨b, off + 6, none⟩ = some (.string s6) := fun W hW => ⟨HW.out W hW 5 s5 hs5, HW.out W hW 6 s6 hs6⟩
        have HS := Lib.hid HS
        go_cut [5] (fun c5 W => c5 = .pointer (some ⟨B, 0, none⟩) ∧ Blk W B #[.int .i64 (val s0), .int .i64 (val s1), .int .i64 (val s3), .string ⟨#[]⟩, .int .i64 (val s5), .int .i64 (val s6), .int .i64 0, .int .i64 0, .int .i64 0] 43 ∧ RowKit.Below w2.heap.size w2 W)
        case first =>
          have e5 := kB.cell
          have g5 := kB.frozen
          have l5 := kB.lt
          go_region_held3 (fun w' => w'.cell? ⟨b, off + 5, none⟩ = some (.string s5) ∧ w'.cell? ⟨b, off + 6, none⟩ = some (.string s6))
            (((with_reducible refine HS.out _ ?_); repeat (first | (with_reducible assumption) | (with_reducible exact Below.refl _ _) | (with_reducible refine Below.alloc ?_ ?_ _) | (with_reducible refine Below.setCell ?_ ?_ _) | (with_reducible refine Below.drew ?_) | omega | (simp <;> omega) | (dsimp only; omega))))
            (first
              | (go_at_call 54; (with_reducible refine (HV.out _ _).mono ?_); rintro e w5 ⟨rfl, rfl⟩)
              | fail)
          all_goals
            go_wp2_with fail
            go_meet
            refine ⟨rfl, ?_, ?_⟩
            · exact (kB.setCell 4 _).setCell 5 _
            · repeat (first | (with_reducible assumption) | (with_reducible exact Below.refl _ _) | (with_reducible refine Below.alloc ?_ ?_ _) | (with_reducible refine Below.setCell ?_ ?_ _) | (with_reducible refine Below.drew ?_) | omega | (simp <;> omega) | (dsimp only; omega))
        case rest =>
          obtain ⟨rfl, kB, hB'⟩ := hcut
          have hB := hB'
          obtain ⟨wm, hwm⟩ : ∃ wm, wm = wc := ⟨_, rfl⟩
          rw [← hwm] at kB hB ⊢
          clear hwm HS hB'
          have cf := HW.out _ hB 7 s7 hs7
          have e5 := kB.cell
          have g5 := kB.frozen
          have l5 := kB.lt
          go_upto_region 11 with (first | (go_at_call 54; (with_reducible refine (HV.out _ _).mono ?_); rintro e w5 ⟨rfl, rfl⟩) | fail)
          obtain ⟨wnf, hwnf⟩ : ∃ wn, wn = wm.setCell ⟨B, 6, none⟩ (.int .i64 (val s7)) := ⟨_, rfl⟩
          rw [← hwnf]
          have hB := show RowKit.Below w2.heap.size w2 wnf from hwnf ▸ hB.setCell (p := ⟨B, 6, none⟩) hBz _
          have kB : Blk wnf B #[.int .i64 (val s0), .int .i64 (val s1), .int .i64 (val s3), .string ⟨#[]⟩, .int .i64 (val s5), .int .i64 (val s6), .int .i64 (val s7), .int .i64 0, .int .i64 0] 43 := hwnf ▸ kB.setCell 6 (.int .i64 (val s7))
          clear cf e5 g5 l5 hwnf
          have cg := HW.out _ hB 8 s8 hs8
          have e5 := kB.cell
          have g5 := kB.frozen
          have l5 := kB.lt
          go_upto_region 12 with (first | (go_at_call 54; (with_reducible refine (HV.out _ _).mono ?_); rintro e w5 ⟨rfl, rfl⟩) | fail)
          obtain ⟨wng, hwng⟩ : ∃ wn, wn = wnf.setCell ⟨B, 7, none⟩ (.int .i64 (val s8)) := ⟨_, rfl⟩
          rw [← hwng]
          have hB := show RowKit.Below w2.heap.size w2 wng from hwng ▸ hB.setCell (p := ⟨B, 7, none⟩) hBz _
          have kB : Blk wng B #[.int .i64 (val s0), .int .i64 (val s1), .int .i64 (val s3), .string ⟨#[]⟩, .int .i64 (val s5), .int .i64 (val s6), .int .i64 (val s7), .int .i64 (val s8), .int .i64 0] 43 := hwng ▸ kB.setCell 7 (.int .i64 (val s8))
          clear cg e5 g5 l5 hwng
          obtain ⟨x1, hx1⟩ : ∃ x1 : Rate, x1 = ⟨val s0, val s1, val s3, ⟨#[]⟩, ⟨val s5, val s6⟩, val s7, val s8, 0⟩ := ⟨_, rfl⟩
          rw [← hx1] at Hx1
          have kB : Blk wng B (cR x1).toArray 43 := by rw [hx1]; exact kB
          have hlo : wng.heap.size = wng.heap.size := rfl
          have e5 := kB.cell
          have g5 := kB.frozen
          have l5 := kB.lt
          have hwr := fun W => writeRateR_any x1 W
          have kR := k2.below' hB
          clear hx1 hs0 hs1 hs2 hs3 hs4 hs5 hs6 hs7 hs8 HW HV
          obtain ⟨t, ht⟩ : ∃ t, t = writeR x1 := ⟨_, rfl⟩
          rw [← ht] at hwr
          have Ht := Lib.hid ht
          clear ht
          obtain ⟨tl, te⟩ := t
          dsimp only at hwr
          go_wp2_with (first
            | (refine wpList_load_mid rfl 43 _ rfl B 0 rfl (cR x1) _ (kB.range 0 _ (fun j v h => by simpa using h)) Tryz.underlying43 rfl (by kernel_rfl) ?_)
            | fail)
          refine (hwr _).mono ?_
          clear hwr
          rintro e w9 ⟨rfl, hB9⟩
          have kB9 := kB.below' hB9
          have kR9 := kR.below' hB9
          have hB10 := hB.trans (hB9.mono hB.size)
          have hBf := hB2.trans (hB10.mono hB2.size)
          clear e5 g5 l5 kB kR
          have e5 := kB9.cell
          have eR := kR9.cell
          have gR := kR9.frozen
          have lR := kR9.lt
          rcases Hx1.out with ⟨o1, o2, rfl, rfl⟩ | ⟨o1, rfl, rfl⟩
          · have ht := Ht.out
            rw [show writeR y = (lineR y, 0) by unfold writeR; rw [o1]; rfl] at ht
            obtain ⟨rfl, rfl⟩ : tl = lineR y ∧ te = 0 := by injection ht with i1 i2; exact ⟨i1, i2⟩
            rw [o2]
            have hq2 : (line.toList != line.toList) = false := by simp
            have hq3 : (line.toList == line.toList) = true := by simp
            clear ht o1 o2 Ht Hx1
            go_wp2_with (first
              | (refine wpList_load_mid rfl 43 _ rfl B 0 rfl (cR y) _ (kB9.range 0 _ (fun j v h => by simpa using h)) Tryz.underlying43 rfl (by kernel_rfl) ?_)
              | fail)
            have hbl : Blk (w9.setCells bR 0 (cR y)) bR (cR y).toArray 43 := by
              rw [← setAll_zero y]
              exact kR9.setCells 0 (cR y)
            rw [putR]
            (try simp only [Exit.inBlock, Exit.then]); refine bodyPost_ret (results_cell_tmp rfl _ _ bR 43 (cR y) _ rfl hbl Tryz.underlying43 rfl (by kernel_rfl)) rfl ?_
            exact ⟨rfl, below_setCells hBf (by rw [HbR.out]; exact Nat.le_refl _) _ _⟩
          · have ht := Ht.out
            have hcs : (te = 1 ∧ tl = ⟨#[]⟩) ∨ (te = 0 ∧ tl ≠ line) := by
              unfold writeR at ht
              cases ho : rateOk x1 with
              | true =>
                rw [ho] at ht
                injection ht with i1 i2
                exact .inr ⟨i2, by rw [i1]; exact o1 ho⟩
              | false =>
                rw [ho] at ht
                injection ht with i1 i2
                exact .inl ⟨i2, i1⟩
            clear ht o1 Ht Hx1
            rcases hcs with ⟨rfl, rfl⟩ | ⟨rfl, hne⟩
            · go_wp2_with (fail)
              have hbl : Blk (w9.setCells bR 0 (cR zeroRate)) bR (cR zeroRate).toArray 43 := by
                rw [← setAll_zero zeroRate]
                exact kR9.setCells 0 (cR zeroRate)
              rw [putR0]
              (try simp only [Exit.inBlock, Exit.then]); refine bodyPost_ret (results_cell_tmp rfl _ _ bR 43 (cR zeroRate) _ rfl hbl Tryz.underlying43 rfl (by kernel_rfl)) rfl ?_
              exact ⟨rfl, below_setCells hBf (by rw [HbR.out]; exact Nat.le_refl _) _ _⟩
            · have hq2 : (tl.toList != line.toList) = true := by
                have := toList_beq tl line
                rw [decide_eq_false hne] at this
                simp only [bne, this]; rfl
              have hq3 : (tl.toList == line.toList) = false := by
                have := toList_beq tl line
                rw [decide_eq_false hne] at this
                exact this
              clear hne
              go_wp2_with (fail)
              have hbl : Blk (w9.setCells bR 0 (cR zeroRate)) bR (cR zeroRate).toArray 43 := by
                rw [← setAll_zero zeroRate]
                exact kR9.setCells 0 (cR zeroRate)
              rw [putR0]
              (try simp only [Exit.inBlock, Exit.then]); refine bodyPost_ret (results_cell_tmp rfl _ _ bR 43 (cR zeroRate) _ rfl hbl Tryz.underlying43 rfl (by kernel_rfl)) rfl ?_
              exact ⟨rfl, below_setCells hBf (by rw [HbR.out]; exact Nat.le_refl _) _ _⟩
      · have hqa : (s4.toList == [97, 108, 108]) = false := by
          have := toList_beq s4 allS
          rw [decide_eq_false hall, ByteArray.toList_eq allS] at this
          exact this
        have Hx0 := Hx.out
        rw [Hxb.out hall hv] at Hx0
        have Hx1 := Lib.hid Hx0
        clear hall hv Hx Hxv Hxa Hxb Hx0
        go_upto_region 9 with fail
        clear e5 g5 l5
        have HS : ∀ W, RowKit.Below w2.heap.size w2 W → W.cell? ⟨b, off + 5, none⟩ = some (.string s5) ∧ W.cell? ⟨b, off + 6, none⟩ = some (.string s6) := fun W hW => ⟨HW.out W hW 5 s5 hs5, HW.out W hW 6 s6 hs6⟩
        have HS := Lib.hid HS
        go_cut [5] (fun c5 W => c5 = .pointer (some ⟨B, 0, none⟩) ∧ Blk W B #[.int .i64 (val s0), .int .i64 (val s1), .int .i64 (val s3), .string s4, .int .i64 (val s5), .int .i64 (val s6), .int .i64 0, .int .i64 0, .int .i64 0] 43 ∧ RowKit.Below w2.heap.size w2 W)
        case first =>
          have e5 := kB.cell
          have g5 := kB.frozen
          have l5 := kB.lt
          go_region_held3 (fun w' => w'.cell? ⟨b, off + 5, none⟩ = some (.string s5) ∧ w'.cell? ⟨b, off + 6, none⟩ = some (.string s6))
            (((with_reducible refine HS.out _ ?_); repeat (first | (with_reducible assumption) | (with_reducible exact Below.refl _ _) | (with_reducible refine Below.alloc ?_ ?_ _) | (with_reducible refine Below.setCell ?_ ?_ _) | (with_reducible refine Below.drew ?_) | omega | (simp <;> omega) | (dsimp only; omega))))
            (first
              | (go_at_call 54; (with_reducible refine (HV.out _ _).mono ?_); rintro e w5 ⟨rfl, rfl⟩)
              | fail)
          all_goals
            go_wp2_with fail
            go_meet
            refine ⟨rfl, ?_, ?_⟩
            · exact (kB.setCell 4 _).setCell 5 _
            · repeat (first | (with_reducible assumption) | (with_reducible exact Below.refl _ _) | (with_reducible refine Below.alloc ?_ ?_ _) | (with_reducible refine Below.setCell ?_ ?_ _) | (with_reducible refine Below.drew ?_) | omega | (simp <;> omega) | (dsimp only; omega))
        case rest =>
          obtain ⟨rfl, kB, hB'⟩ := hcut
          have hB := hB'
          obtain ⟨wm, hwm⟩ : ∃ wm, wm = wc := ⟨_, rfl⟩
          rw [← hwm] at kB hB ⊢
          clear hwm HS hB'
          have cf := HW.out _ hB 7 s7 hs7
          have e5 := kB.cell
          have g5 := kB.frozen
          have l5 := kB.lt
          go_upto_region 11 with (first | (go_at_call 54; (with_reducible refine (HV.out _ _).mono ?_); rintro e w5 ⟨rfl, rfl⟩) | fail)
          obtain ⟨wnf, hwnf⟩ : ∃ wn, wn = wm.setCell ⟨B, 6, none⟩ (.int .i64 (val s7)) := ⟨_, rfl⟩
          rw [← hwnf]
          have hB := show RowKit.Below w2.heap.size w2 wnf from hwnf ▸ hB.setCell (p := ⟨B, 6, none⟩) hBz _
          have kB : Blk wnf B #[.int .i64 (val s0), .int .i64 (val s1), .int .i64 (val s3), .string s4, .int .i64 (val s5), .int .i64 (val s6), .int .i64 (val s7), .int .i64 0, .int .i64 0] 43 := hwnf ▸ kB.setCell 6 (.int .i64 (val s7))
          clear cf e5 g5 l5 hwnf
          have cg := HW.out _ hB 8 s8 hs8
          have e5 := kB.cell
          have g5 := kB.frozen
          have l5 := kB.lt
          go_upto_region 12 with (first | (go_at_call 54; (with_reducible refine (HV.out _ _).mono ?_); rintro e w5 ⟨rfl, rfl⟩) | fail)
          obtain ⟨wng, hwng⟩ : ∃ wn, wn = wnf.setCell ⟨B, 7, none⟩ (.int .i64 (val s8)) := ⟨_, rfl⟩
          rw [← hwng]
          have hB := show RowKit.Below w2.heap.size w2 wng from hwng ▸ hB.setCell (p := ⟨B, 7, none⟩) hBz _
          have kB : Blk wng B #[.int .i64 (val s0), .int .i64 (val s1), .int .i64 (val s3), .string s4, .int .i64 (val s5), .int .i64 (val s6), .int .i64 (val s7), .int .i64 (val s8), .int .i64 0] 43 := hwng ▸ kB.setCell 7 (.int .i64 (val s8))
          clear cg e5 g5 l5 hwng
          obtain ⟨x1, hx1⟩ : ∃ x1 : Rate, x1 = ⟨val s0, val s1, val s3, s4, ⟨val s5, val s6⟩, val s7, val s8, 0⟩ := ⟨_, rfl⟩
          rw [← hx1] at Hx1
          have kB : Blk wng B (cR x1).toArray 43 := by rw [hx1]; exact kB
          have hlo : wng.heap.size = wng.heap.size := rfl
          have e5 := kB.cell
          have g5 := kB.frozen
          have l5 := kB.lt
          have hwr := fun W => writeRateR_any x1 W
          have kR := k2.below' hB
          clear hx1 hs0 hs1 hs2 hs3 hs4 hs5 hs6 hs7 hs8 HW HV
          obtain ⟨t, ht⟩ : ∃ t, t = writeR x1 := ⟨_, rfl⟩
          rw [← ht] at hwr
          have Ht := Lib.hid ht
          clear ht
          obtain ⟨tl, te⟩ := t
          dsimp only at hwr
          go_wp2_with (first
            | (refine wpList_load_mid rfl 43 _ rfl B 0 rfl (cR x1) _ (kB.range 0 _ (fun j v h => by simpa using h)) Tryz.underlying43 rfl (by kernel_rfl) ?_)
            | fail)
          refine (hwr _).mono ?_
          clear hwr
          rintro e w9 ⟨rfl, hB9⟩
          have kB9 := kB.below' hB9
          have kR9 := kR.below' hB9
          have hB10 := hB.trans (hB9.mono hB.size)
          have hBf := hB2.trans (hB10.mono hB2.size)
          clear e5 g5 l5 kB kR
          have e5 := kB9.cell
          have eR := kR9.cell
          have gR := kR9.frozen
          have lR := kR9.lt
          rcases Hx1.out with ⟨o1, o2, rfl, rfl⟩ | ⟨o1, rfl, rfl⟩
          · have ht := Ht.out
            rw [show writeR y = (lineR y, 0) by unfold writeR; rw [o1]; rfl] at ht
            obtain ⟨rfl, rfl⟩ : tl = lineR y ∧ te = 0 := by injection ht with i1 i2; exact ⟨i1, i2⟩
            rw [o2]
            have hq2 : (line.toList != line.toList) = false := by simp
            have hq3 : (line.toList == line.toList) = true := by simp
            clear ht o1 o2 Ht Hx1
            go_wp2_with (first
              | (refine wpList_load_mid rfl 43 _ rfl B 0 rfl (cR y) _ (kB9.range 0 _ (fun j v h => by simpa using h)) Tryz.underlying43 rfl (by kernel_rfl) ?_)
              | fail)
            have hbl : Blk (w9.setCells bR 0 (cR y)) bR (cR y).toArray 43 := by
              rw [← setAll_zero y]
              exact kR9.setCells 0 (cR y)
            rw [putR]
            (try simp only [Exit.inBlock, Exit.then]); refine bodyPost_ret (results_cell_tmp rfl _ _ bR 43 (cR y) _ rfl hbl Tryz.underlying43 rfl (by kernel_rfl)) rfl ?_
            exact ⟨rfl, below_setCells hBf (by rw [HbR.out]; exact Nat.le_refl _) _ _⟩
          · have ht := Ht.out
            have hcs : (te = 1 ∧ tl = ⟨#[]⟩) ∨ (te = 0 ∧ tl ≠ line) := by
              unfold writeR at ht
              cases ho : rateOk x1 with
              | true =>
                rw [ho] at ht
                injection ht with i1 i2
                exact .inr ⟨i2, by rw [i1]; exact o1 ho⟩
              | false =>
                rw [ho] at ht
                injection ht with i1 i2
                exact .inl ⟨i2, i1⟩
            clear ht o1 Ht Hx1
            rcases hcs with ⟨rfl, rfl⟩ | ⟨rfl, hne⟩
            · go_wp2_with (fail)
              have hbl : Blk (w9.setCells bR 0 (cR zeroRate)) bR (cR zeroRate).toArray 43 := by
                rw [← setAll_zero zeroRate]
                exact kR9.setCells 0 (cR zeroRate)
              rw [putR0]
              (try simp only [Exit.inBlock, Exit.then]); refine bodyPost_ret (results_cell_tmp rfl _ _ bR 43 (cR zeroRate) _ rfl hbl Tryz.underlying43 rfl (by kernel_rfl)) rfl ?_
              exact ⟨rfl, below_setCells hBf (by rw [HbR.out]; exact Nat.le_refl _) _ _⟩
            · have hq2 : (tl.toList != line.toList) = true := by
                have := toList_beq tl line
                rw [decide_eq_false hne] at this
                simp only [bne, this]; rfl
              have hq3 : (tl.toList == line.toList) = false := by
                have := toList_beq tl line
                rw [decide_eq_false hne] at this
                exact this
              clear hne
              go_wp2_with (fail)
              have hbl : Blk (w9.setCells bR 0 (cR zeroRate)) bR (cR zeroRate).toArray 43 := by
                rw [← setAll_zero zeroRate]
                exact kR9.setCells 0 (cR zeroRate)
              rw [putR0]
              (try simp only [Exit.inBlock, Exit.then]); refine bodyPost_ret (results_cell_tmp rfl _ _ bR 43 (cR zeroRate) _ rfl hbl Tryz.underlying43 rfl (by kernel_rfl)) rfl ?_
              exact ⟨rfl, below_setCells hBf (by rw [HbR.out]; exact Nat.le_refl _) _ _⟩

end Go.Proofs.YtkeppoiomjhkpaaGreatDoor
