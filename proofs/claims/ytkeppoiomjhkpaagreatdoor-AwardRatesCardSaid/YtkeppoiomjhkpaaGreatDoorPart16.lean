import Derived.Test.YtkeppoiomjhkpaaGreatDoorPart15
import Derived.OrdersHeld
import Derived.Deep.RegionHeld
/-
  Walks: award.ReadSale$1 at the line of a well-formed sale.
-/
namespace Go.Proofs.YtkeppoiomjhkpaaGreatDoor
open Go.RowKit Lg Go.Sort Go.Shelf

theorem Vs.grown {w W : World} {b : Nat} (h : Vs w) (hg : w.grownBy W (some b)) (hb : ∀ g, g = 0 ∨ g = 1 ∨ g = 2 ∨ g = 3 → g ≠ b) : Vs W := by
  have lt : ∀ {g : Nat} {v : Value}, w.cell? ⟨g, 0, none⟩ = some v → g < w.heap.size := fun hc => World.block_lt_of_cell? _ _ hc
  have ce : ∀ {g : Nat} {v : Value}, g ≠ b → w.cell? ⟨g, 0, none⟩ = some v → W.cell? ⟨g, 0, none⟩ = some v := fun hne hc => (World.cell?_of_block (a := ⟨_, 0, none⟩) (hg.block _ (lt hc) (by simpa using hne))).trans hc
  refine ⟨?_, ?_, ?_, ?_⟩
  · have hc := h.tab.cell tab_named 0 (by decide)
    have hlt := lt hc
    have hblk := hg.block _ hlt (by simpa using hb _ (.inr (.inr (.inl rfl))))
    have ht := h.tab
    unfold Lib.TabIs World.var? at ht ⊢
    rw [tab_named] at ht ⊢
    simp only [Option.bind_some] at ht ⊢
    rw [hblk]; exact ht
  · obtain ⟨ev, h1, h2⟩ := h.syn
    exact ⟨ev, ce (hb _ (.inl rfl)) h1, h2⟩
  · obtain ⟨ev, h1, h2⟩ := h.rng
    exact ⟨ev, ce (hb _ (.inr (.inl rfl))) h1, h2⟩
  · obtain ⟨m, h1⟩ := h.max
    exact ⟨m, ce (hb _ (.inr (.inr (.inr rfl)))) h1⟩

theorem grown_cell {w W : World} {b c o : Nat} {v : Value} (hg : w.grownBy W (some b)) (hne : c ≠ b) (hc : w.cell? ⟨c, o, none⟩ = some v) : W.cell? ⟨c, o, none⟩ = some v :=
  (World.cell?_of_block (a := ⟨c, o, none⟩) (hg.block _ (World.block_lt_of_cell? _ _ hc) (by simpa using hne))).trans hc

theorem grown_set (W : World) (b o : Nat) (v : Value) : W.grownBy (W.setCell ⟨b, o, none⟩ v) (some b) := grownBy_setCells W b o [v]

/-- What stands ready for ReadSale$1. -/
structure Rdy (W : World) (bX bL bs bw n : Nat) (line : ByteArray) (ws : List Bs) : Prop where
  vs : Vs W
  vx : ∀ g, g = 0 ∨ g = 1 ∨ g = 2 ∨ g = 3 → g ≠ bX
  ln : W.cell? ⟨bL, 0, none⟩ = some (.string line)
  sl : W.cell? ⟨bw, 0, none⟩ = some (.slice (some ⟨bs, 0, none⟩) n n)
  wd : ∀ i s, ws[i]? = some s → W.cell? ⟨bs, i, none⟩ = some (.string (ofL s))
  len : ws.length = n
  sm : ∀ s ∈ ws, s.length ≤ 1000
  nL : bL ≠ bX
  ns : bs ≠ bX
  nw : bw ≠ bX

theorem Rdy.grown {W W' : World} {bX bL bs bw n : Nat} {line : ByteArray} {ws : List Bs} (h : Rdy W bX bL bs bw n line ws) (hg : W.grownBy W' (some bX)) : Rdy W' bX bL bs bw n line ws :=
  ⟨h.vs.grown hg h.vx, h.vx, grown_cell hg h.nL h.ln, grown_cell hg h.nw h.sl, fun i s hi => grown_cell hg h.ns (h.wd i s hi), h.len, h.sm, h.nL, h.ns, h.nw⟩

theorem Rdy.num {W : World} {bX bL bs bw n : Nat} {line : ByteArray} {ws : List Bs} (h : Rdy W bX bL bs bw n line ws) (i : Nat) (v : Int) (hi : ws[i]? = some (nm v)) (h0 : 0 ≤ v) (h1 : v < 1000000000000) :
    ∀ W', W.grownBy W' (some bX) → Calls Tryz.prog 85 #[.int .i64 i, .pointer (some ⟨bw, 0, none⟩)] W' fun e w' => e = .returned (.int .i64 v) ∧ RowKit.Below W'.heap.size W' w' ∧ W.grownBy w' (some bX) := fun W' hg => by
  have h' := h.grown hg
  have hlt : i < n := by rw [← h.len]; exact (List.getElem?_eq_some_iff.1 hi).1
  have hsm : (ofL (nm v)).size ≤ 1000 := h.sm _ (List.mem_of_getElem? hi)
  refine (number_ok bw bs 0 n n i (ofL (nm v)) v W' h'.vs h'.sl (by simpa using h'.wd i _ hi) hlt hsm (by simpa using numOf_nm h0 h1)).mono ?_
  rintro e w' ⟨rfl, hB⟩
  exact ⟨rfl, hB, grown_trans hg (grown_of_below _ hB)⟩

set_option maxRecDepth 100000 in
set_option maxHeartbeats 6400000 in
theorem readSale1_ok (y : Sale) (ho : saleOk y = true) (bX bL bs bw n : Nat) (W : World) (hR : Rdy W bX bL bs bw n (lineS y) (wordsS y)) (kX : Blk W bX #[.int .i64 0, .int .i64 0, .int .i64 0, .int .i64 0, .int .i64 0, .int .i64 0, .int .i64 0, .int .i64 0, .int .i64 0] 24) :
    Calls Tryz.prog 51 #[.slice (some ⟨bs, 0, none⟩) n n, .func (.func 85) #[] #[.pointer (some ⟨bw, 0, none⟩)], .pointer (some ⟨bX, 0, none⟩), .pointer (some ⟨bL, 0, none⟩)] W fun e w' => e = .returned (.tuple #[]) ∧ Blk w' bX (cS y).toArray 24 ∧ W.grownBy w' (some bX) := by
  obtain ⟨⟨a1, b1⟩, ⟨a2, b2⟩, ⟨a3, b3⟩, ⟨a4, b4⟩, ⟨a5, b5⟩, ⟨a6, b6⟩, ⟨a7, b7⟩, ⟨a8, b8⟩, ⟨a9, b9⟩⟩ := saleOk_all ho
  have hwr := fun W' (hg : W.grownBy W' (some bX)) => writeSale_any y W' (hR.grown hg).vs
  have hwy : writeS y = (lineS y, 0) := by unfold writeS; rw [ho]; rfl
  rw [hwy] at hwr
  have HWr := Lib.hid hwr
  have HLn := Lib.hid (fun W' (hg : W.grownBy W' (some bX)) => (hR.grown hg).ln)
  have HW2 := Lib.hid (fun W' (hg : W.grownBy W' (some bX)) => (hR.grown hg).wd 2)
  have hlt := hR.len
  clear hwr hwy
  by_cases h0 : y.of_ = 0
  · have hw : wordsS y = [nm y.id, nm y.known, nm y.hour, saleL, nm y.parcel, nm y.price, nm y.carter, nm y.keeper, nm y.since] := by unfold wordsS; rw [if_neg (by simpa using h0)]
    rw [hw] at hR hlt
    rw [hw] at HW2
    have HN0 := Lib.hid (hR.num 0 y.id rfl (by omega) (by omega))
    have HN1 := Lib.hid (hR.num 1 y.known rfl (by omega) (by omega))
    have HN2 := Lib.hid (hR.num 2 y.hour rfl (by omega) (by omega))
    have HN4 := Lib.hid (hR.num 4 y.parcel rfl (by omega) (by omega))
    have HN5 := Lib.hid (hR.num 5 y.price rfl (by omega) (by omega))
    have HN6 := Lib.hid (hR.num 6 y.carter rfl (by omega) (by omega))
    have HN7 := Lib.hid (hR.num 7 y.keeper rfl (by omega) (by omega))
    have HN8 := Lib.hid (hR.num 8 y.since rfl (by omega) (by omega))
    have HC2 := Lib.hid (fun W' (hg : W.grownBy W' (some bX)) => HW2.out W' hg _ rfl)
    obtain ⟨ln, hln⟩ : ∃ ln, ln = lineS y := ⟨_, rfl⟩
    rw [← hln] at HLn HWr
    clear hln hR hw
    obtain rfl : n = 9 := by simpa using hlt.symm
    have hv2 : ((ofL (nm y.hour)).toList == [118, 111, 105, 100]) = false := by
      have := nm_void a4
      simp only [ByteArray.toList_eq, beq_eq_false_iff_ne]; exact this
    have H0 := Lib.hid h0
    clear h0 hlt HW2 ho a1 b1 a2 b2 a3 b3 a4 b4 a5 b5 a6 b6 a7 b7 a8 b8 a9 b9
    generalize ofL (nm y.hour) = s2 at *
    go_enter Tryz.func51, Tryz.ntmps51
    have hG := World.grownBy.refl W (some bX)
    go_wp2_with (fail)
    refine (HN0.out _ hG).mono ?_
    rintro e wq0 ⟨rfl, hBq, hG⟩
    have kX := kX.below' hBq
    clear hBq
    go_wp2_with (fail)
    refine (HN1.out _ hG).mono ?_
    rintro e wq1 ⟨rfl, hBq, hG⟩
    have kX := kX.below' hBq
    clear hBq
    have e5 := kX.cell
    have g5 := kX.frozen
    have l5 := kX.lt
    go_upto_region 1 with fail
    obtain ⟨wsa, hwsa⟩ : ∃ ws, ws = ((wq1).setCell ⟨bX, 0, none⟩ (.int .i64 y.id)).setCell ⟨bX, 1, none⟩ (.int .i64 y.known) := ⟨_, rfl⟩
    rw [← hwsa]
    have kX : Blk wsa bX #[.int .i64 y.id, .int .i64 y.known, .int .i64 0, .int .i64 0, .int .i64 0, .int .i64 0, .int .i64 0, .int .i64 0, .int .i64 0] 24 := hwsa ▸ ((kX.setCell 0 (.int .i64 y.id)).setCell 1 (.int .i64 y.known))
    have hG : W.grownBy wsa (some bX) := hwsa ▸ (grown_trans (grown_trans hG (grown_set _ bX 0 (.int .i64 y.id))) (grown_set _ bX 1 (.int .i64 y.known)))
    clear hwsa e5 g5 l5
    have d2 := HC2.out _ hG
    go_upto_region 3 with fail
    go_wp2_with (first | (go_at_call 52; refine (unless_ok _).mono ?_; rintro e w4 ⟨rfl, rfl⟩) | fail)
    refine (HN2.out _ hG).mono ?_
    rintro e wq2 ⟨rfl, hBq, hG⟩
    have kX := kX.below' hBq
    clear hBq
    go_wp2_with (fail)
    refine (HN4.out _ hG).mono ?_
    rintro e wq3 ⟨rfl, hBq, hG⟩
    have kX := kX.below' hBq
    clear hBq
    go_wp2_with (fail)
    refine (HN5.out _ hG).mono ?_
    rintro e wq4 ⟨rfl, hBq, hG⟩
    have kX := kX.below' hBq
    clear hBq
    go_wp2_with (fail)
    refine (HN6.out _ hG).mono ?_
    rintro e wq5 ⟨rfl, hBq, hG⟩
    have kX := kX.below' hBq
    clear hBq
    go_wp2_with (fail)
    refine (HN7.out _ hG).mono ?_
    rintro e wq6 ⟨rfl, hBq, hG⟩
    have kX := kX.below' hBq
    clear hBq
    go_wp2_with (fail)
    refine (HN8.out _ hG).mono ?_
    rintro e wq7 ⟨rfl, hBq, hG⟩
    have kX := kX.below' hBq
    clear hBq
    have e5 := kX.cell
    have g5 := kX.frozen
    have l5 := kX.lt
    go_upto_region 5 with fail
    obtain ⟨wsb, hwsb⟩ : ∃ ws, ws = ((((((wq7).setCell ⟨bX, 2, none⟩ (.int .i64 y.hour)).setCell ⟨bX, 3, none⟩ (.int .i64 y.parcel)).setCell ⟨bX, 4, none⟩ (.int .i64 y.price)).setCell ⟨bX, 5, none⟩ (.int .i64 y.carter)).setCell ⟨bX, 6, none⟩ (.int .i64 y.keeper)).setCell ⟨bX, 7, none⟩ (.int .i64 y.since) := ⟨_, rfl⟩
    rw [← hwsb]
    have kX : Blk wsb bX #[.int .i64 y.id, .int .i64 y.known, .int .i64 y.hour, .int .i64 y.parcel, .int .i64 y.price, .int .i64 y.carter, .int .i64 y.keeper, .int .i64 y.since, .int .i64 0] 24 := hwsb ▸ ((((((kX.setCell 2 (.int .i64 y.hour)).setCell 3 (.int .i64 y.parcel)).setCell 4 (.int .i64 y.price)).setCell 5 (.int .i64 y.carter)).setCell 6 (.int .i64 y.keeper)).setCell 7 (.int .i64 y.since))
    have hG : W.grownBy wsb (some bX) := hwsb ▸ (grown_trans (grown_trans (grown_trans (grown_trans (grown_trans (grown_trans hG (grown_set _ bX 2 (.int .i64 y.hour))) (grown_set _ bX 3 (.int .i64 y.parcel))) (grown_set _ bX 4 (.int .i64 y.price))) (grown_set _ bX 5 (.int .i64 y.carter))) (grown_set _ bX 6 (.int .i64 y.keeper))) (grown_set _ bX 7 (.int .i64 y.since)))
    clear hwsb e5 g5 l5
    have kX : Blk wsb bX (cS y).toArray 24 := by
      have e : (cS y).toArray = #[.int .i64 y.id, .int .i64 y.known, .int .i64 y.hour, .int .i64 y.parcel, .int .i64 y.price, .int .i64 y.carter, .int .i64 y.keeper, .int .i64 y.since, .int .i64 0] := by simp only [cS, H0.out]
      rw [e]; exact kX
    have e5 := kX.cell
    have g5 := kX.frozen
    have l5 := kX.lt
    go_wp2_with (first
      | (refine wpList_load_mid rfl 24 _ rfl bX 0 rfl (cS y) _ (kX.range 0 _ (fun j v h => by simpa using h)) Tryz.underlying24 rfl (by kernel_rfl) ?_)
      | fail)
    refine (HWr.out _ hG).mono ?_
    clear HWr
    rintro e w9 ⟨rfl, hB9⟩
    have kX := kX.below' hB9
    have hG := grown_trans hG (grown_of_below _ hB9)
    have cl := HLn.out _ hG
    have hq : (ln.toList == ln.toList) = true := by simp
    clear e5 g5 l5 HLn
    go_wp2_with (go_at_call 52; refine (unless_ok _).mono ?_; rintro e w4 ⟨rfl, rfl⟩)
    go_end0
    exact ⟨rfl, kX, hG⟩
  · have hw : wordsS y = [nm y.id, nm y.known, voidL, nm y.of_] := by unfold wordsS; rw [if_pos h0]
    rw [hw] at hR hlt
    rw [hw] at HW2
    have HN0 := Lib.hid (hR.num 0 y.id rfl (by omega) (by omega))
    have HN1 := Lib.hid (hR.num 1 y.known rfl (by omega) (by omega))
    have HN3 := Lib.hid (hR.num 3 y.of_ rfl (by omega) (by omega))
    have HC2 := Lib.hid (fun W' (hg : W.grownBy W' (some bX)) => HW2.out W' hg _ rfl)
    obtain ⟨ln, hln⟩ : ∃ ln, ln = lineS y := ⟨_, rfl⟩
    rw [← hln] at HLn HWr
    clear hln hR hw
    obtain rfl : n = 4 := by simpa using hlt.symm
    have hv2 : ((ofL voidL).toList == [118, 111, 105, 100]) = true := by rw [ByteArray.toList_eq]; rfl
    have hyv := saleOk_void ho h0
    have Hyv := Lib.hid hyv
    clear hyv h0 hlt HW2 ho a1 b1 a2 b2 a3 b3 a4 b4 a5 b5 a6 b6 a7 b7 a8 b8 a9 b9
    generalize ofL voidL = s2 at *
    go_enter Tryz.func51, Tryz.ntmps51
    have hG := World.grownBy.refl W (some bX)
    go_wp2_with (fail)
    refine (HN0.out _ hG).mono ?_
    rintro e wq0 ⟨rfl, hBq, hG⟩
    have kX := kX.below' hBq
    clear hBq
    go_wp2_with (fail)
    refine (HN1.out _ hG).mono ?_
    rintro e wq1 ⟨rfl, hBq, hG⟩
    have kX := kX.below' hBq
    clear hBq
    have e5 := kX.cell
    have g5 := kX.frozen
    have l5 := kX.lt
    go_upto_region 1 with fail
    obtain ⟨wsa, hwsa⟩ : ∃ ws, ws = ((wq1).setCell ⟨bX, 0, none⟩ (.int .i64 y.id)).setCell ⟨bX, 1, none⟩ (.int .i64 y.known) := ⟨_, rfl⟩
    rw [← hwsa]
    have kX : Blk wsa bX #[.int .i64 y.id, .int .i64 y.known, .int .i64 0, .int .i64 0, .int .i64 0, .int .i64 0, .int .i64 0, .int .i64 0, .int .i64 0] 24 := hwsa ▸ ((kX.setCell 0 (.int .i64 y.id)).setCell 1 (.int .i64 y.known))
    have hG : W.grownBy wsa (some bX) := hwsa ▸ (grown_trans (grown_trans hG (grown_set _ bX 0 (.int .i64 y.id))) (grown_set _ bX 1 (.int .i64 y.known)))
    clear hwsa e5 g5 l5
    have d2 := HC2.out _ hG
    go_wp2_with (fail)
    refine (HN3.out _ hG).mono ?_
    rintro e wq2 ⟨rfl, hBq, hG⟩
    have kX := kX.below' hBq
    clear hBq
    have e5 := kX.cell
    have g5 := kX.frozen
    have l5 := kX.lt
    go_upto_region 5 with fail
    obtain ⟨wsb, hwsb⟩ : ∃ ws, ws = (wq2).setCell ⟨bX, 8, none⟩ (.int .i64 y.of_) := ⟨_, rfl⟩
    rw [← hwsb]
    have kX : Blk wsb bX #[.int .i64 y.id, .int .i64 y.known, .int .i64 0, .int .i64 0, .int .i64 0, .int .i64 0, .int .i64 0, .int .i64 0, .int .i64 y.of_] 24 := hwsb ▸ (kX.setCell 8 (.int .i64 y.of_))
    have hG : W.grownBy wsb (some bX) := hwsb ▸ (grown_trans hG (grown_set _ bX 8 (.int .i64 y.of_)))
    clear hwsb e5 g5 l5
    have kX : Blk wsb bX (cS y).toArray 24 := by
      have e : (cS y).toArray = #[.int .i64 y.id, .int .i64 y.known, .int .i64 0, .int .i64 0, .int .i64 0, .int .i64 0, .int .i64 0, .int .i64 0, .int .i64 y.of_] := by
        have h := Hyv.out
        have h3 := congrArg Sale.hour h
        have h4 := congrArg Sale.parcel h
        have h5 := congrArg Sale.price h
        have h6 := congrArg Sale.carter h
        have h7 := congrArg Sale.keeper h
        have h8 := congrArg Sale.since h
        simp only [zeroSale] at h3 h4 h5 h6 h7 h8
        simp only [cS, h3, h4, h5, h6, h7, h8]
      rw [e]; exact kX
    have e5 := kX.cell
    have g5 := kX.frozen
    have l5 := kX.lt
    go_wp2_with (first
      | (refine wpList_load_mid rfl 24 _ rfl bX 0 rfl (cS y) _ (kX.range 0 _ (fun j v h => by simpa using h)) Tryz.underlying24 rfl (by kernel_rfl) ?_)
      | fail)
    refine (HWr.out _ hG).mono ?_
    clear HWr
    rintro e w9 ⟨rfl, hB9⟩
    have kX := kX.below' hB9
    have hG := grown_trans hG (grown_of_below _ hB9)
    have cl := HLn.out _ hG
    have hq : (ln.toList == ln.toList) = true := by simp
    clear e5 g5 l5 HLn
    go_wp2_with (go_at_call 52; refine (unless_ok _).mono ?_; rintro e w4 ⟨rfl, rfl⟩)
    go_end0
    exact ⟨rfl, kX, hG⟩

end Go.Proofs.YtkeppoiomjhkpaaGreatDoor

/-
  Walks: words that are no numbers.
-/
namespace Go.Proofs.YtkeppoiomjhkpaaGreatDoor
open Go.RowKit Lg Go.Sort Go.Shelf

set_option maxRecDepth 100000 in
set_option maxHeartbeats 3200000 in
theorem number_upA (Bw b off n c i : Nat) (s : ByteArray) (w : World) (hV : Vs w) (hw : w.cell? ⟨Bw, 0, none⟩ = some (.slice (some ⟨b, off, none⟩) n c)) (hc : w.cell? ⟨b, off + i, none⟩ = some (.string s)) (hi : i < n) (hs : s.size ≤ 1000) (hbad : ∀ v, Lib.atoiAll s.data.toList ≠ .ok v) :
    Calls Tryz.prog 85 #[.int .i64 i, .pointer (some ⟨Bw, 0, none⟩)] w fun e w' => e = .panicked [{ v := nfV, recovered := false }] ∧ RowKit.Below w.heap.size w w' := by
  have hiz : (i : Int) < (n : Int) := by omega
  have hA := atoi_bad hV s hs hbad
  clear hbad hV
  go_enter Tryz.func85, Tryz.ntmps85
  go_wp2_with (fail)
  refine hA.mono ?_
  clear hA
  rintro e w1 ⟨m, N, rfl, hB1⟩
  clear hw hc
  go_upto_region 2 with fail
  refine wp_region_held_drew (S := fun _ => True) (by kernel_rfl) trivial (fun _ => ?_)
  refine wpAnyH_take (i := 0) (v := .iface 197 (.pointer (some ⟨N, 0, none⟩))) rfl (by kernel_rfl) (by kernel_rfl) (by kernel_rfl) (fun _ _ _ h => h) (Or.inl ⟨by kernel_rfl, fun _ _ => by kernel_rfl⟩) trivial ?_
  try dsimp only
  try simp only [Act.put, List.setIfInBounds_toArray]
  refine wpAnyH_take (i := 1) (v := .bool false) rfl (by kernel_rfl) (by kernel_rfl) (by kernel_rfl) (fun _ _ _ h => h) (Or.inl ⟨by kernel_rfl, fun _ _ => by kernel_rfl⟩) trivial ?_
  try dsimp only
  try simp only [Act.put]
  refine wpAnyH_take (i := 2) (v := .bool false) rfl (by kernel_rfl) (by kernel_rfl) (by kernel_rfl) (fun _ _ _ h => h) (Or.inl ⟨by kernel_rfl, fun _ _ => by kernel_rfl⟩) trivial ?_
  try dsimp only
  try simp only [Act.put]
  refine wpAnyH_take (i := 3) (v := undef) rfl (by kernel_rfl) (by kernel_rfl) (by kernel_rfl) (fun _ _ _ h => h) (Or.inr ⟨by kernel_rfl, rfl⟩) trivial ?_
  try dsimp only
  try simp only [Act.put]
  refine wpAnyH_take (i := 4) (v := undef) rfl (by kernel_rfl) (by kernel_rfl) (by kernel_rfl) (fun _ _ _ h => h) (Or.inr ⟨by kernel_rfl, rfl⟩) trivial ?_
  try dsimp only
  try simp only [Act.put]
  refine wpAnyH_take (i := 5) (v := .bool false) rfl (by kernel_rfl) (by kernel_rfl) (by kernel_rfl) (fun _ _ _ h => h) (Or.inl ⟨by kernel_rfl, fun _ _ => by kernel_rfl⟩) trivial ?_
  try dsimp only
  try simp only [Act.put]
  refine wpAnyH_take (i := 6) (v := .bool false) rfl (by kernel_rfl) (by kernel_rfl) (by kernel_rfl) (fun _ _ _ h => h) (Or.inl ⟨by kernel_rfl, fun _ _ => by kernel_rfl⟩) trivial ?_
  try dsimp only
  try simp only [Act.put]
  refine wpAnyH_take (i := 7) (v := undef) rfl (by kernel_rfl) (by kernel_rfl) (by kernel_rfl) (fun _ _ _ h => h) (Or.inr ⟨by kernel_rfl, rfl⟩) trivial ?_
  try dsimp only
  try simp only [Act.put]
  refine wpAnyH_take (i := 8) (v := undef) rfl (by kernel_rfl) (by kernel_rfl) (by kernel_rfl) (fun _ _ _ h => h) (Or.inr ⟨by kernel_rfl, rfl⟩) trivial ?_
  try dsimp only
  try simp only [Act.put]
  refine wpAnyH_take (i := 9) (v := undef) rfl (by kernel_rfl) (by kernel_rfl) (by kernel_rfl) (fun _ _ _ h => h) (Or.inr ⟨by kernel_rfl, rfl⟩) trivial ?_
  try dsimp only
  try simp only [Act.put]
  refine wpAnyH_take (i := 10) (v := undef) rfl (by kernel_rfl) (by kernel_rfl) (by kernel_rfl) (fun _ _ _ h => h) (Or.inr ⟨by kernel_rfl, rfl⟩) trivial ?_
  try dsimp only
  try simp only [Act.put]
  refine wpAnyH_take (i := 11) (v := undef) rfl (by kernel_rfl) (by kernel_rfl) (by kernel_rfl) (fun _ _ _ h => h) (Or.inr ⟨by kernel_rfl, rfl⟩) trivial ?_
  try dsimp only
  try simp only [Act.put]
  refine wpAnyH_take (i := 12) (v := undef) rfl (by kernel_rfl) (by kernel_rfl) (by kernel_rfl) (fun _ _ _ h => h) (Or.inr ⟨by kernel_rfl, rfl⟩) trivial ?_
  try dsimp only
  try simp only [Act.put]
  refine wpAnyH_take (i := 13) (v := undef) rfl (by kernel_rfl) (by kernel_rfl) (by kernel_rfl) (fun _ _ _ h => h) (Or.inr ⟨by kernel_rfl, rfl⟩) trivial ?_
  try dsimp only
  try simp only [Act.put]
  refine wpAnyH_take (i := 14) (v := .bool false) rfl (by kernel_rfl) (by kernel_rfl) (by kernel_rfl) (fun _ _ _ h => h) (Or.inl ⟨by kernel_rfl, fun _ _ => by kernel_rfl⟩) trivial ?_
  try dsimp only
  try simp only [Act.put]
  refine wpAnyH_ready (rs := [15]) (by kernel_rfl) (by simp) ?_
  refine AllReadyH.cons rfl (fun K hK => ?_) AllReadyH.nil
  go_simp
  refine (unless_up _).mono ?_
  rintro e w4 ⟨rfl, rfl⟩
  exact ⟨rfl, rfl, RowKit.Below.drew hB1⟩

set_option maxRecDepth 100000 in
set_option maxHeartbeats 3200000 in
theorem number_upC (Bw b off n c i : Nat) (s : ByteArray) (w : World) (_hV : Vs w) (hw : w.cell? ⟨Bw, 0, none⟩ = some (.slice (some ⟨b, off, none⟩) n c)) (hc : w.cell? ⟨b, off + i, none⟩ = some (.string s)) (hi : i < n) (hs : s.size ≤ 1000) (v : Int) (h1 : Lib.atoiAll s.data.toList = .ok v) (h2 : ¬ 0 ≤ v) :
    Calls Tryz.prog 85 #[.int .i64 i, .pointer (some ⟨Bw, 0, none⟩)] w fun e w' => e = .panicked [{ v := nfV, recovered := false }] ∧ RowKit.Below w.heap.size w w' := by
  have hiz : (i : Int) < (n : Int) := by omega
  have hA := atoi_ok (w := w) s hs v h1
  have hvz : decide (0 ≤ v) = false := by simpa using h2
  have H2 := Lib.hid h2
  clear h1 h2
  go_enter Tryz.func85, Tryz.ntmps85
  go_wp2_with (fail)
  refine hA.mono ?_
  clear hA
  rintro e w1 ⟨rfl, hB1⟩
  clear hw hc
  go_upto_region 2 with fail
  refine wp_region_held_drew (S := fun _ => True) (by kernel_rfl) trivial (fun _ => ?_)
  refine wpAnyH_take (i := 0) (v := .nilIface) rfl (by kernel_rfl) (by kernel_rfl) (by kernel_rfl) (fun _ _ _ h => h) (Or.inl ⟨by kernel_rfl, fun _ _ => by kernel_rfl⟩) trivial ?_
  try dsimp only
  try simp only [Act.put, List.setIfInBounds_toArray]
  refine wpAnyH_take (i := 1) (v := .bool true) rfl (by kernel_rfl) (by kernel_rfl) (by kernel_rfl) (fun _ _ _ h => h) (Or.inl ⟨by kernel_rfl, fun _ _ => by kernel_rfl⟩) trivial ?_
  try dsimp only
  try simp only [Act.put]
  refine wpAnyH_take (i := 2) (v := .bool true) rfl (by kernel_rfl) (by kernel_rfl) (by kernel_rfl) (fun _ _ _ h => h) (Or.inl ⟨by kernel_rfl, fun _ _ => by kernel_rfl⟩) trivial ?_
  try dsimp only
  try simp only [Act.put]
  refine wpAnyH_take (i := 3) (v := .int .i64 v) rfl (by kernel_rfl) (by kernel_rfl) (by kernel_rfl) (fun _ _ _ h => h) (Or.inl ⟨by kernel_rfl, fun _ _ => by kernel_rfl⟩) trivial ?_
  try dsimp only
  try simp only [Act.put]
  refine wpAnyH_take (i := 4) (v := .bool false) rfl (by kernel_rfl) (by kernel_rfl) (by kernel_rfl) (fun _ _ _ h => h) (Or.inl ⟨by kernel_rfl, fun w hSw => by go_simp⟩) trivial ?_
  try dsimp only
  try simp only [Act.put]
  refine wpAnyH_take (i := 5) (v := .bool false) rfl (by kernel_rfl) (by kernel_rfl) (by kernel_rfl) (fun _ _ _ h => h) (Or.inl ⟨by kernel_rfl, fun _ _ => by kernel_rfl⟩) trivial ?_
  try dsimp only
  try simp only [Act.put]
  refine wpAnyH_take (i := 6) (v := .bool false) rfl (by kernel_rfl) (by kernel_rfl) (by kernel_rfl) (fun _ _ _ h => h) (Or.inl ⟨by kernel_rfl, fun _ _ => by kernel_rfl⟩) trivial ?_
  try dsimp only
  try simp only [Act.put]
  refine wpAnyH_take (i := 7) (v := undef) rfl (by kernel_rfl) (by kernel_rfl) (by kernel_rfl) (fun _ _ _ h => h) (Or.inr ⟨by kernel_rfl, rfl⟩) trivial ?_
  try dsimp only
  try simp only [Act.put]
  refine wpAnyH_take (i := 8) (v := undef) rfl (by kernel_rfl) (by kernel_rfl) (by kernel_rfl) (fun _ _ _ h => h) (Or.inr ⟨by kernel_rfl, rfl⟩) trivial ?_
  try dsimp only
  try simp only [Act.put]
  refine wpAnyH_take (i := 9) (v := undef) rfl (by kernel_rfl) (by kernel_rfl) (by kernel_rfl) (fun _ _ _ h => h) (Or.inr ⟨by kernel_rfl, rfl⟩) trivial ?_
  try dsimp only
  try simp only [Act.put]
  refine wpAnyH_take (i := 10) (v := undef) rfl (by kernel_rfl) (by kernel_rfl) (by kernel_rfl) (fun _ _ _ h => h) (Or.inr ⟨by kernel_rfl, rfl⟩) trivial ?_
  try dsimp only
  try simp only [Act.put]
  refine wpAnyH_take (i := 11) (v := undef) rfl (by kernel_rfl) (by kernel_rfl) (by kernel_rfl) (fun _ _ _ h => h) (Or.inr ⟨by kernel_rfl, rfl⟩) trivial ?_
  try dsimp only
  try simp only [Act.put]
  refine wpAnyH_take (i := 12) (v := undef) rfl (by kernel_rfl) (by kernel_rfl) (by kernel_rfl) (fun _ _ _ h => h) (Or.inr ⟨by kernel_rfl, rfl⟩) trivial ?_
  try dsimp only
  try simp only [Act.put]
  refine wpAnyH_take (i := 13) (v := undef) rfl (by kernel_rfl) (by kernel_rfl) (by kernel_rfl) (fun _ _ _ h => h) (Or.inr ⟨by kernel_rfl, rfl⟩) trivial ?_
  try dsimp only
  try simp only [Act.put]
  refine wpAnyH_take (i := 14) (v := .bool false) rfl (by kernel_rfl) (by kernel_rfl) (by kernel_rfl) (fun _ _ _ h => h) (Or.inl ⟨by kernel_rfl, fun _ _ => by kernel_rfl⟩) trivial ?_
  try dsimp only
  try simp only [Act.put]
  refine wpAnyH_ready (rs := [15]) (by kernel_rfl) (by simp) ?_
  refine AllReadyH.cons rfl (fun K hK => ?_) AllReadyH.nil
  go_simp
  refine (unless_up _).mono ?_
  rintro e w4 ⟨rfl, rfl⟩
  exact ⟨rfl, rfl, RowKit.Below.drew hB1⟩

end Go.Proofs.YtkeppoiomjhkpaaGreatDoor

/-
  Walks: a word that is not its number's numeral.
-/
namespace Go.Proofs.YtkeppoiomjhkpaaGreatDoor
open Go.RowKit Lg Go.Sort Go.Shelf

set_option maxRecDepth 100000 in
set_option maxHeartbeats 25600000 in
theorem number_upB (Bw b off n c i : Nat) (s : ByteArray) (w : World) (hV : Vs w) (hw : w.cell? ⟨Bw, 0, none⟩ = some (.slice (some ⟨b, off, none⟩) n c)) (hc : w.cell? ⟨b, off + i, none⟩ = some (.string s)) (hi : i < n) (hs : s.size ≤ 1000) (v : Int) (h1 : Lib.atoiAll s.data.toList = .ok v) (h2 : 0 ≤ v) (hne : ofL (nm v) ≠ s) :
    Calls Tryz.prog 85 #[.int .i64 i, .pointer (some ⟨Bw, 0, none⟩)] w fun e w' => e = .panicked [{ v := nfV, recovered := false }] ∧ RowKit.Below w.heap.size w w' := by
  have hb : Bw < w.heap.size := World.block_lt_of_cell? _ _ hw
  have hb2 : b < w.heap.size := World.block_lt_of_cell? _ _ hc
  have hiz : (i : Int) < (n : Int) := by omega
  have hm := Go.Lib.atoiAll_bounds h1
  have hA := atoi_ok (w := w) s hs v h1
  have hq : ((ofL (nm v)).toList == s.toList) = false := by
    have := toList_beq (ofL (nm v)) s
    rw [decide_eq_false hne] at this
    exact this
  have hvz : decide (0 ≤ v) = true := by simpa using h2
  obtain ⟨r, hr⟩ : ∃ r, r = ofL (nm v) := ⟨_, rfl⟩
  rw [← hr] at hq
  have Hr := Lib.hid hr
  clear hne hr h1
  go_enter Tryz.func85, Tryz.ntmps85
  go_wp2_with (fail)
  refine hA.mono ?_
  clear hA
  rintro e w1 ⟨rfl, hB1⟩
  have HS : ∀ W, RowKit.Below w1.heap.size w1 W → W.cell? ⟨Bw, 0, none⟩ = some (.slice (some ⟨b, off, none⟩) n c) ∧ W.cell? ⟨b, off + i, none⟩ = some (.string s) := fun W hB => by
    have hB2 := hB1.trans (hB.mono hB1.size)
    exact ⟨(hB2.cell (p := ⟨Bw, 0, none⟩) hb).trans hw, (hB2.cell (p := ⟨b, off + i, none⟩) hb2).trans hc⟩
  have HS := Lib.hid HS
  have hI := fun W (hB : RowKit.Below w1.heap.size w1 W) => (itoa_any ((hV.below hB1).below hB) v h2 hm.2)
  rw [← Hr.out] at hI
  have HI := Lib.hid (fun W (hB : RowKit.Below w1.heap.size w1 W) => (hI W hB).mono fun e w' (h : Gives W _ e w') => (⟨h.1, h.2, hB.trans (h.2.mono hB.size)⟩ : e = _ ∧ RowKit.Below W.heap.size W w' ∧ RowKit.Below w1.heap.size w1 w'))
  obtain ⟨d1, d2⟩ := HS.out w1 (Below.refl _ _)
  clear hw hc hI hV hb hb2 hm
  go_upto_region 2 with fail
  refine wp_region_held_drew (S := (fun w' => w'.cell? ⟨Bw, 0, none⟩ = some (.slice (some ⟨b, off, none⟩) n c) ∧ w'.cell? ⟨b, off + i, none⟩ = some (.string s))) (by kernel_rfl) (HS.out _ (Below.drew (Below.refl _ _))) (fun hHeld => ?_)
  refine wpAnyH_take (i := 0) (v := .nilIface) rfl (by kernel_rfl) (by kernel_rfl) (by kernel_rfl) (fun _ _ _ h => h) (Or.inl ⟨by kernel_rfl, fun _ _ => by kernel_rfl⟩) (by assumption) ?_
  try dsimp only
  try simp only [Act.put, List.setIfInBounds_toArray]
  refine wpAnyH_take (i := 1) (v := .bool true) rfl (by kernel_rfl) (by kernel_rfl) (by kernel_rfl) (fun _ _ _ h => h) (Or.inl ⟨by kernel_rfl, fun _ _ => by kernel_rfl⟩) (by assumption) ?_
  try dsimp only
  try simp only [Act.put]
  refine wpAnyH_take (i := 2) (v := .bool true) rfl (by kernel_rfl) (by kernel_rfl) (by kernel_rfl) (fun _ _ _ h => h) (Or.inl ⟨by kernel_rfl, fun _ _ => by kernel_rfl⟩) (by assumption) ?_
  try dsimp only
  try simp only [Act.put]
  refine wpAnyH_take (i := 3) (v := .int .i64 v) rfl (by kernel_rfl) (by kernel_rfl) (by kernel_rfl) (fun _ _ _ h => h) (Or.inl ⟨by kernel_rfl, fun _ _ => by kernel_rfl⟩) (by assumption) ?_
  try dsimp only
  try simp only [Act.put]
  refine wpAnyH_take (i := 4) (v := .bool true) rfl (by kernel_rfl) (by kernel_rfl) (by kernel_rfl) (fun _ _ _ h => h) (Or.inl ⟨by kernel_rfl, fun w hSw => by go_simp⟩) (by assumption) ?_
  try dsimp only
  try simp only [Act.put]
  refine wpAnyH_take (i := 5) (v := .bool true) rfl (by kernel_rfl) (by kernel_rfl) (by kernel_rfl) (fun _ _ _ h => h) (Or.inl ⟨by kernel_rfl, fun _ _ => by kernel_rfl⟩) (by assumption) ?_
  try dsimp only
  try simp only [Act.put]
  refine wpAnyH_take (i := 6) (v := .bool true) rfl (by kernel_rfl) (by kernel_rfl) (by kernel_rfl) (fun _ _ _ h => h) (Or.inl ⟨by kernel_rfl, fun _ _ => by kernel_rfl⟩) (by assumption) ?_
  try dsimp only
  try simp only [Act.put]
  refine wpAnyH_take (i := 7) (v := .int .i64 v) rfl (by kernel_rfl) (by kernel_rfl) (by kernel_rfl) (fun _ _ _ h => h) (Or.inl ⟨by kernel_rfl, fun _ _ => by kernel_rfl⟩) (by assumption) ?_
  try dsimp only
  try simp only [Act.put]
  refine wpAnyH_take (i := 9) (v := .slice (some ⟨b, off, none⟩) n c) rfl (by kernel_rfl) (by kernel_rfl) (by kernel_rfl) (fun _ _ _ h => h) (Or.inl ⟨by kernel_rfl, fun w hSw => by (dsimp only at hSw; obtain ⟨x1, x2⟩ := hSw; go_simp)⟩) (by assumption) ?_
  try dsimp only
  try simp only [Act.put]
  refine wpAnyH_take (i := 10) (v := .int .i64 i) rfl (by kernel_rfl) (by kernel_rfl) (by kernel_rfl) (fun _ _ _ h => h) (Or.inl ⟨by kernel_rfl, fun _ _ => by kernel_rfl⟩) (by assumption) ?_
  try dsimp only
  try simp only [Act.put]
  refine wpAnyH_take (i := 11) (v := .pointer (some ⟨b, off + i, none⟩)) rfl (by kernel_rfl) (by kernel_rfl) (by kernel_rfl) (fun _ _ _ h => h) (Or.inl ⟨by kernel_rfl, fun w hSw => by go_simp⟩) (by assumption) ?_
  try dsimp only
  try simp only [Act.put]
  refine wpAnyH_take (i := 12) (v := .string s) rfl (by kernel_rfl) (by kernel_rfl) (by kernel_rfl) (fun _ _ _ h => h) (Or.inl ⟨by kernel_rfl, fun w hSw => by (dsimp only at hSw; obtain ⟨x1, x2⟩ := hSw; go_simp)⟩) (by assumption) ?_
  try dsimp only
  try simp only [Act.put]
  refine wpAnyH_ready (rs := [8]) (by kernel_rfl) (by simp) ?_
  refine AllReadyH.cons rfl (fun K hK => ?_) AllReadyH.nil
  go_simp
  refine (HI.out _ (by repeat (first | (with_reducible assumption) | (with_reducible exact Below.refl _ _) | (with_reducible refine Below.alloc ?_ ?_ _) | (with_reducible refine Below.setCell ?_ ?_ _) | (with_reducible refine Below.drew ?_) | omega | (simp <;> omega) | (dsimp only; omega)))).mono ?_
  rintro e w3 ⟨rfl, hBa, hba⟩
  refine hK.out _ _ (HS.out _ hba) (fun hHeld2 => ?_)
  clear hK K hHeld
  try dsimp only
  try simp only [Act.put, List.setIfInBounds_toArray, List.set_cons_zero, List.set_cons_succ]
  refine wpAnyH_take (i := 13) (v := .bool false) rfl (by kernel_rfl) (by kernel_rfl) (by kernel_rfl) (fun _ _ _ h => h) (Or.inl ⟨by kernel_rfl, fun w hSw => by go_simp⟩) (by assumption) ?_
  try dsimp only
  try simp only [Act.put, List.setIfInBounds_toArray]
  refine wpAnyH_take (i := 14) (v := .bool false) rfl (by kernel_rfl) (by kernel_rfl) (by kernel_rfl) (fun _ _ _ h => h) (Or.inl ⟨by kernel_rfl, fun _ _ => by kernel_rfl⟩) (by assumption) ?_
  try dsimp only
  try simp only [Act.put]
  refine wpAnyH_ready (rs := [15]) (by kernel_rfl) (by simp) ?_
  refine AllReadyH.cons rfl (fun K hK => ?_) AllReadyH.nil
  go_simp
  refine (unless_up _).mono ?_
  rintro e w4 ⟨rfl, rfl⟩
  exact ⟨rfl, rfl, hB1.trans (hba.mono hB1.size)⟩

end Go.Proofs.YtkeppoiomjhkpaaGreatDoor

/-
  Walks: a word's number, or none.
-/
namespace Go.Proofs.YtkeppoiomjhkpaaGreatDoor
open Go.RowKit Lg Go.Sort Go.Shelf

theorem number_up (Bw b off n c i : Nat) (s : ByteArray) (w : World) (hV : Vs w) (hw : w.cell? ⟨Bw, 0, none⟩ = some (.slice (some ⟨b, off, none⟩) n c)) (hc : w.cell? ⟨b, off + i, none⟩ = some (.string s)) (hi : i < n) (hs : s.size ≤ 1000) (h : numOf s.data.toList = none) :
    Calls Tryz.prog 85 #[.int .i64 i, .pointer (some ⟨Bw, 0, none⟩)] w fun e w' => e = .panicked [{ v := nfV, recovered := false }] ∧ RowKit.Below w.heap.size w w' := by
  by_cases hbad : ∀ v, Lib.atoiAll s.data.toList ≠ .ok v
  · exact number_upA Bw b off n c i s w hV hw hc hi hs hbad
  · obtain ⟨v, h1⟩ : ∃ v, Lib.atoiAll s.data.toList = .ok v := Classical.byContradiction fun hx => hbad fun v hv => hx ⟨v, hv⟩
    by_cases h2 : 0 ≤ v
    · refine number_upB Bw b off n c i s w hV hw hc hi hs v h1 h2 (fun e => ?_)
      have : numOf s.data.toList = some v := by
        unfold numOf
        rw [h1]
        simp only
        rw [if_pos ⟨h2, by rw [← e]⟩]
      rw [h] at this; cases this
    · exact number_upC Bw b off n c i s w hV hw hc hi hs v h1 h2

end Go.Proofs.YtkeppoiomjhkpaaGreatDoor
