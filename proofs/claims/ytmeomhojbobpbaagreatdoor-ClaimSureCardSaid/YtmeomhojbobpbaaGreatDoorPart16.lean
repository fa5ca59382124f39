import Derived.Test.YtmeomhojbobpbaaGreatDoorPart08
import Derived.Test.YtmeomhojbobpbaaGreatDoorPart14
import Derived.Test.YtmeomhojbobpbaaGreatDoorPart15
import Derived.Deep.RegionHeld3
import Derived.Deep.CutBlock
/-
  Walk: claim.Write.
-/
namespace Go.Proofs.YtmeomhojbobpbaaGreatDoor
open Go.RowKit Lg Go.Sort Go.Shelf

theorem lineD_parts (x : Deed) : lineL (wordsD x) = lineL ((headN x).map nm) ++ [32] ++ wordK x.kind ++ [32] ++ lineL ((tailN x).map nm) := by
  unfold wordsD headN tailN
  repeat' split
  all_goals simp [lineL]

theorem wordK_len (k : Int) : (wordK k).length ≤ 8 := by
  unfold wordK
  repeat' split
  all_goals decide

theorem run_ix1 (W : World) : (Instr.index 94 (.agg wordsC.toArray) (.int .u8 1)).run Tryz.prog W = .ok (.string (ofL (wordK 1))) W := by kernel_rfl
theorem run_ix2 (W : World) : (Instr.index 94 (.agg wordsC.toArray) (.int .u8 2)).run Tryz.prog W = .ok (.string (ofL (wordK 2))) W := by kernel_rfl
theorem run_ix3 (W : World) : (Instr.index 94 (.agg wordsC.toArray) (.int .u8 3)).run Tryz.prog W = .ok (.string (ofL (wordK 3))) W := by kernel_rfl
theorem run_ix4 (W : World) : (Instr.index 94 (.agg wordsC.toArray) (.int .u8 4)).run Tryz.prog W = .ok (.string (ofL (wordK 4))) W := by kernel_rfl
theorem run_ix5 (W : World) : (Instr.index 94 (.agg wordsC.toArray) (.int .u8 5)).run Tryz.prog W = .ok (.string (ofL (wordK 5))) W := by kernel_rfl
theorem run_ix6 (W : World) : (Instr.index 94 (.agg wordsC.toArray) (.int .u8 6)).run Tryz.prog W = .ok (.string (ofL (wordK 6))) W := by kernel_rfl
theorem run_index_words {k : Int} (h1 : 1 ≤ k) (h2 : k ≤ 6) (W : World) : (Instr.index 94 (.agg wordsC.toArray) (.int .u8 k)).run Tryz.prog W = .ok (.string (ofL (wordK k))) W := by
  have h : k = 1 ∨ k = 2 ∨ k = 3 ∨ k = 4 ∨ k = 5 ∨ k = 6 := by omega
  rcases h with rfl | rfl | rfl | rfl | rfl | rfl
  · exact run_ix1 W
  · exact run_ix2 W
  · exact run_ix3 W
  · exact run_ix4 W
  · exact run_ix5 W
  · exact run_ix6 W

theorem joinedC {w1 : World} (hV : Vs w1) (a : Option Addr) (n c : Nat) (xs : List Int) (hL : Lst w1 1 cI a n c xs) (hn : n ≤ 10) (hp : 0 < n) (hx : ∀ y ∈ xs, 0 ≤ y ∧ y < 1000000000000) :
    ∀ (W : World), RowKit.Below w1.heap.size w1 W →
      Calls Tryz.prog 80 #[.slice a n c] W fun e w' => e = .returned (.string (ofL (lineL (xs.map nm)))) ∧ RowKit.Below W.heap.size W w' ∧ RowKit.Below w1.heap.size w1 w' :=
  fun W hq => (joinedD_any a n c xs W (hV.below hq) hn hp hx (hL.below hq)).mono fun _ _ h => ⟨h.1, h.2, hq.trans (h.2.mono hq.size)⟩

set_option maxRecDepth 100000 in
set_option maxHeartbeats 6400000 in
theorem writeD_any (x : Deed) (w : World) (hV : Vs w) : Calls Tryz.prog 20 #[aD x] w (Gives w (.tuple #[.string (writeD x).1, .int .i64 (writeD x).2])) := by
  have hc := fun W => formed_any x W
  have hB0 : RowKit.Below w.heap.size w (w.alloc (.cells #[.int .i64 x.id, .int .i64 x.known, .int .i64 x.hour, .int .u8 x.kind, .int .i64 x.loss, .int .i64 x.pack, .int .i64 x.from_, .int .i64 x.to_, .int .i64 x.share.num, .int .i64 x.share.den, .int .i64 x.of_] 36)) := (Below.refl _ w).alloc (Nat.le_refl _) _
  have k0 := Blk.new w 36 #[.int .i64 x.id, .int .i64 x.known, .int .i64 x.hour, .int .u8 x.kind, .int .i64 x.loss, .int .i64 x.pack, .int .i64 x.from_, .int .i64 x.to_, .int .i64 x.share.num, .int .i64 x.share.den, .int .i64 x.of_]
  cases ho : formedD x with
  | false =>
    rw [ho] at hc
    have hw : writeD x = (⟨#[]⟩, 1) := by unfold writeD; rw [ho]; rfl
    rw [hw]
    clear hw ho k0 hV
    go_enter Tryz.func20, Tryz.ntmps20
    go_wp2_with (fail)
    refine (hc _).mono ?_
    rintro e w1 ⟨rfl, hB1⟩
    go_wp2_with (fail)
    go_ret2
    exact ⟨rfl, hB0.trans (hB1.mono hB0.size)⟩
  | true =>
    rw [ho] at hc
    have hw : writeD x = (lineD x, 0) := by unfold writeD; rw [ho]; rfl
    rw [hw]
    clear hw
    obtain ⟨-, -, -, -, -, -, -, -, -, -, ⟨hk1, hk6⟩, -⟩ := formedD_all ho
    have hhb := headN_bd ho
    have htb := tailN_bd ho
    clear ho
    have lh := joinB_len (headN x) hhb
    have lt := joinB_len (tailN x) htb
    have nh : 0 < (headN x).length ∧ (headN x).length ≤ 3 := by unfold headN; split <;> simp
    have nt : 0 < (tailN x).length ∧ (tailN x).length ≤ 6 := by unfold tailN; (repeat' split) <;> simp
    have lw := wordK_len x.kind
    obtain ⟨ln, hln⟩ : ∃ ln, ln = lineD x := ⟨_, rfl⟩
    rw [← hln]
    have A1 := add_ok (a := lineL ((headN x).map nm)) (b := [32]) rfl (by omega) (by decide)
    have A2 := add_ok (a := lineL ((headN x).map nm) ++ [32]) (b := wordK x.kind) rfl (by rw [List.length_append]; simp only [List.length_cons, List.length_nil]; omega) (by omega)
    have A3 := add_ok (a := lineL ((headN x).map nm) ++ [32] ++ wordK x.kind) (b := [32]) rfl (by rw [List.length_append, List.length_append]; simp only [List.length_cons, List.length_nil]; omega) (by decide)
    have A4 : ∀ W, (Op.stringOp .add (ofL (lineL ((headN x).map nm) ++ [32] ++ wordK x.kind ++ [32])) (ofL (lineL ((tailN x).map nm)))).run Tryz.prog W = .ok (.string ln) W := by
      have e : ln = ofL (lineL ((headN x).map nm) ++ [32] ++ wordK x.kind ++ [32] ++ lineL ((tailN x).map nm)) := by
        rw [hln, lineD, lineD_parts]
      rw [e]
      exact add_ok rfl (by rw [List.length_append, List.length_append, List.length_append]; simp only [List.length_cons, List.length_nil]; omega) (by omega)
    have hix := fun W => run_index_words hk1 hk6 W
    have hwd := fun W => wordsD_any W
    obtain ⟨ws, hws⟩ : ∃ ws, ws = wordsC.toArray := ⟨_, rfl⟩
    rw [← hws] at hix hwd
    clear hln lh lt lw hws
    generalize ofL (lineL ((headN x).map nm) ++ [32] ++ wordK x.kind ++ [32]) = s4 at *
    generalize ofL (lineL ((headN x).map nm) ++ [32] ++ wordK x.kind) = s3 at *
    generalize ofL (lineL ((headN x).map nm) ++ [32]) = s2 at *
    obtain ⟨j1, hj1⟩ : ∃ j, j = ofL (lineL ((headN x).map nm)) := ⟨_, rfl⟩
    obtain ⟨j2, hj2⟩ : ∃ j, j = ofL (lineL ((tailN x).map nm)) := ⟨_, rfl⟩
    rw [← hj1] at A1
    rw [← hj2] at A4
    have Hj1 := Lib.hid hj1
    have Hj2 := Lib.hid hj2
    have Hhb := Lib.hid hhb
    have Htb := Lib.hid htb
    have Hnh := Lib.hid nh
    have Hnt := Lib.hid nt
    generalize ofL (wordK x.kind) = wd at *
    clear hj1 hj2 hhb htb nh nt
    go_enter Tryz.func20, Tryz.ntmps20
    go_wp2_with (fail)
    refine (hc _).mono ?_
    clear hc
    rintro e w1 ⟨rfl, hB1⟩
    have k1 := k0.below' hB1
    clear k0
    have hB1 := hB0.trans (hB1.mono hB0.size)
    clear hB0
    have hV1 := hV.below hB1
    clear hV
    obtain ⟨bx, hbx⟩ : ∃ bx, bx = w.heap.size := ⟨_, rfl⟩
    rw [← hbx] at k1 ⊢
    clear hbx
    have HC := Lib.hid (fun W (h : RowKit.Below w1.heap.size w1 W) => (k1.below' h).cell)
    have HS : ∀ W, RowKit.Below w1.heap.size w1 W → W.cell? ⟨bx, 0, none⟩ = some (.int .i64 x.id) ∧ W.cell? ⟨bx, 1, none⟩ = some (.int .i64 x.known) ∧ W.cell? ⟨bx, 2, none⟩ = some (.int .i64 x.hour) ∧ W.cell? ⟨bx, 4, none⟩ = some (.int .i64 x.loss) ∧ W.cell? ⟨bx, 5, none⟩ = some (.int .i64 x.pack) ∧ W.cell? ⟨bx, 6, none⟩ = some (.int .i64 x.from_) ∧ W.cell? ⟨bx, 7, none⟩ = some (.int .i64 x.to_) ∧ W.cell? ⟨bx, 8, none⟩ = some (.int .i64 x.share.num) ∧ W.cell? ⟨bx, 9, none⟩ = some (.int .i64 x.share.den) := fun W h => ⟨HC.out W h 0, HC.out W h 1, HC.out W h 2, HC.out W h 4, HC.out W h 5, HC.out W h 6, HC.out W h 7, HC.out W h 8, HC.out W h 9⟩
    have HS := Lib.hid HS
    go_upto_region 3 with fail
    go_cut [4, 5] (fun c4 c5 W => ∃ b4 b5, c4 = .slice (some ⟨b4, 0, none⟩) 3 3 ∧ c5 = .slice (some ⟨b5, 0, none⟩) 6 6 ∧ Blk W b4 #[.int .i64 x.id, .int .i64 x.known, .int .i64 x.hour] 3 ∧ Blk W b5 #[.int .i64 x.loss, .int .i64 x.pack, .int .i64 x.from_, .int .i64 x.to_, .int .i64 x.share.num, .int .i64 x.share.den] 3 ∧ RowKit.Below w1.heap.size w1 W)
    case first =>
      clear A1 A2 A3 A4 hix hwd Hj1 Hj2 Hhb Htb Hnh Hnt hV1 hk1 hk6
      go_region_held3 (fun w' => w'.cell? ⟨bx, 0, none⟩ = some (.int .i64 x.id) ∧ w'.cell? ⟨bx, 1, none⟩ = some (.int .i64 x.known) ∧ w'.cell? ⟨bx, 2, none⟩ = some (.int .i64 x.hour) ∧ w'.cell? ⟨bx, 4, none⟩ = some (.int .i64 x.loss) ∧ w'.cell? ⟨bx, 5, none⟩ = some (.int .i64 x.pack) ∧ w'.cell? ⟨bx, 6, none⟩ = some (.int .i64 x.from_) ∧ w'.cell? ⟨bx, 7, none⟩ = some (.int .i64 x.to_) ∧ w'.cell? ⟨bx, 8, none⟩ = some (.int .i64 x.share.num) ∧ w'.cell? ⟨bx, 9, none⟩ = some (.int .i64 x.share.den))
        (((with_reducible refine HS.out _ ?_); repeat (first | (with_reducible assumption) | (with_reducible exact Below.refl _ _) | (with_reducible refine Below.alloc ?_ ?_ _) | (with_reducible refine Below.setCell ?_ ?_ _) | (with_reducible refine Below.drew ?_) | omega | (simp <;> omega) | (dsimp only; omega))))
        (fail)
      all_goals
        go_wp2_with fail
        go_meet
        exact ⟨_, _, rfl, rfl, by repeat (first | (with_reducible assumption) | (with_reducible exact Blk.new _ _ _) | (with_reducible exact Blk.new1 _ _ _ _) | (with_reducible exact Blk.new2 _ _ _ _ _) | (with_reducible exact Blk.new3 _ _ _ _ _ _) | (with_reducible refine Blk.alloc ?_ _) | (with_reducible refine Blk.drew ?_) | (with_reducible refine Blk.below' ?_ hBd) | (with_reducible refine Blk.below' ?_ hBa) | (with_reducible refine Blk.below' ?_ hBb)), by repeat (first | (with_reducible assumption) | (with_reducible exact Blk.new _ _ _) | (with_reducible exact Blk.new1 _ _ _ _) | (with_reducible exact Blk.new2 _ _ _ _ _) | (with_reducible exact Blk.new3 _ _ _ _ _ _) | (with_reducible refine Blk.alloc ?_ _) | (with_reducible refine Blk.drew ?_) | (with_reducible refine Blk.below' ?_ hBd) | (with_reducible refine Blk.below' ?_ hBa) | (with_reducible refine Blk.below' ?_ hBb)), by repeat (first | (with_reducible assumption) | (with_reducible exact Below.refl _ _) | (with_reducible refine Below.alloc ?_ ?_ _) | (with_reducible refine Below.setCell ?_ ?_ _) | (with_reducible refine Below.drew ?_) | omega | (simp <;> omega) | (dsimp only; omega))⟩
    case rest =>
      obtain ⟨b4, b5, rfl, rfl, K4, K5, hBc⟩ := hcut
      clear HS
      have HC2 := Lib.hid (fun W (h : RowKit.Below wc.heap.size wc W) => HC.out W (hBc.trans (h.mono hBc.size)))
      clear HC
      have cx := HC2.out wc (Below.refl _ _)
      have L4 : Lst wc 1 cI (some ⟨b4, 0, none⟩) 3 3 [x.id, x.known, x.hour] := Lst.ofI [x.id, x.known, x.hour] (by simp) K4
      have L5 : Lst wc 1 cI (some ⟨b5, 0, none⟩) 6 6 [x.loss, x.pack, x.from_, x.to_, x.share.num, x.share.den] := Lst.ofI [x.loss, x.pack, x.from_, x.to_, x.share.num, x.share.den] (by simp) K5
      have hB2 := hB1.trans (hBc.mono hB1.size)
      have hV2 := hV1.below hBc
      clear hV1 K4 K5 hBc k1
      obtain ⟨w2, hw2⟩ : ∃ w2, w2 = wc := ⟨_, rfl⟩
      rw [← hw2] at hV2 L4 L5 cx hB2 HC2 ⊢
      clear hw2
      go_upto_block 0 with fail
      go_cut [4, 5] (fun c4 c5 W => ∃ a4 n4 m4 a5 n5 m5, c4 = .slice a4 n4 m4 ∧ c5 = .slice a5 n5 m5 ∧ Lst W 1 cI a4 n4 m4 (headN x) ∧ Lst W 1 cI a5 n5 m5 (tailN x) ∧ RowKit.Below w2.heap.size w2 W)
      case first =>
        clear A1 A2 A3 A4 hix hwd Hj1 Hj2 Hhb Htb Hnh Hnt hV2
        have hk' : x.kind = 1 ∨ x.kind = 2 ∨ x.kind = 3 ∨ x.kind = 4 ∨ x.kind = 5 ∨ x.kind = 6 := by omega
        rcases hk' with hk | hk | hk | hk | hk | hk
        · have e4 : headN x = [x.id, x.known, x.hour] := by unfold headN; rw [hk]; rfl
          have e5 : tailN x = [x.loss, x.pack, x.from_, x.to_, x.share.num, x.share.den] := by unfold tailN; rw [hk]; rfl
          have E4 := Lib.hid e4
          have E5 := Lib.hid e5
          clear e4 e5
          have g3 : (x.kind == 3) = false := by rw [hk]; decide
          have g4 : (x.kind == 4) = false := by rw [hk]; decide
          have g5 : (x.kind == 5) = false := by rw [hk]; decide
          have g6 : (x.kind == 6) = false := by rw [hk]; decide
          have HK := Lib.hid hk
          clear hk
          go_wp2_with fail
          go_meet
          exact ⟨_, _, _, _, _, _, rfl, rfl, by rw [E4.out]; exact L4, by rw [E5.out]; exact L5, Below.refl _ _⟩
        · have e4 : headN x = [x.id, x.known, x.hour] := by unfold headN; rw [hk]; rfl
          have e5 : tailN x = [x.loss, x.pack, x.from_, x.to_, x.share.num, x.share.den] := by unfold tailN; rw [hk]; rfl
          have E4 := Lib.hid e4
          have E5 := Lib.hid e5
          clear e4 e5
          have g3 : (x.kind == 3) = false := by rw [hk]; decide
          have g4 : (x.kind == 4) = false := by rw [hk]; decide
          have g5 : (x.kind == 5) = false := by rw [hk]; decide
          have g6 : (x.kind == 6) = false := by rw [hk]; decide
          have HK := Lib.hid hk
          clear hk
          go_wp2_with fail
          go_meet
          exact ⟨_, _, _, _, _, _, rfl, rfl, by rw [E4.out]; exact L4, by rw [E5.out]; exact L5, Below.refl _ _⟩
        · have e4 : headN x = [x.id, x.known, x.hour] := by unfold headN; rw [hk]; rfl
          have e5 : tailN x = [x.loss, x.pack, x.from_, x.to_] := by unfold tailN; rw [hk]; rfl
          have E4 := Lib.hid e4
          have E5 := Lib.hid e5
          clear e4 e5
          have g3 : (x.kind == 3) = true := by rw [hk]; decide
          have HK := Lib.hid hk
          clear hk
          go_wp2_with fail
          go_meet
          exact ⟨_, _, _, _, _, _, rfl, rfl, by rw [E4.out]; exact L4, by rw [E5.out]; exact L5.pref 4 (by omega), Below.refl _ _⟩
        · have e4 : headN x = [x.id, x.known, x.hour] := by unfold headN; rw [hk]; rfl
          have e5 : tailN x = [x.loss, x.pack, x.from_] := by unfold tailN; rw [hk]; rfl
          have E4 := Lib.hid e4
          have E5 := Lib.hid e5
          clear e4 e5
          have g3 : (x.kind == 3) = false := by rw [hk]; decide
          have g4 : (x.kind == 4) = true := by rw [hk]; decide
          have HK := Lib.hid hk
          clear hk
          go_wp2_with fail
          go_meet
          exact ⟨_, _, _, _, _, _, rfl, rfl, by rw [E4.out]; exact L4, by rw [E5.out]; exact L5.pref 3 (by omega), Below.refl _ _⟩
        · have e4 : headN x = [x.id, x.known, x.hour] := by unfold headN; rw [hk]; rfl
          have e5 : tailN x = [x.of_] := by unfold tailN; rw [hk]; rfl
          have E4 := Lib.hid e4
          have E5 := Lib.hid e5
          clear e4 e5
          have g3 : (x.kind == 3) = false := by rw [hk]; decide
          have g4 : (x.kind == 4) = false := by rw [hk]; decide
          have g5 : (x.kind == 5) = true := by rw [hk]; decide
          have HK := Lib.hid hk
          clear hk
          go_wp2_with fail
          go_meet
          exact ⟨_, _, _, _, _, _, rfl, rfl, by rw [E4.out]; exact L4.below ((Below.refl _ _).alloc (Nat.le_refl _) _), by rw [E5.out]; exact Lst.one1 (Blk.new _ _ _), (Below.refl _ _).alloc (Nat.le_refl _) _⟩
        · have e4 : headN x = [x.id, x.known] := by unfold headN; rw [hk]; rfl
          have e5 : tailN x = [x.of_] := by unfold tailN; rw [hk]; rfl
          have E4 := Lib.hid e4
          have E5 := Lib.hid e5
          clear e4 e5
          have g3 : (x.kind == 3) = false := by rw [hk]; decide
          have g4 : (x.kind == 4) = false := by rw [hk]; decide
          have g5 : (x.kind == 5) = false := by rw [hk]; decide
          have g6 : (x.kind == 6) = true := by rw [hk]; decide
          have HK := Lib.hid hk
          clear hk
          go_upto_region 12 with fail
          go_region
          all_goals
            go_wp2_with fail
            go_meet
            exact ⟨_, _, _, _, _, _, rfl, rfl, by rw [E4.out]; exact (L4.pref 2 (by omega)).below (by repeat (first | (with_reducible assumption) | (with_reducible exact Below.refl _ _) | (with_reducible refine Below.alloc ?_ ?_ _) | (with_reducible refine Below.setCell ?_ ?_ _) | (with_reducible refine Below.drew ?_) | omega | (simp <;> omega) | (dsimp only; omega))), by rw [E5.out]; exact Lst.one1 (by repeat (first | (with_reducible assumption) | (with_reducible exact Blk.new _ _ _) | (with_reducible exact Blk.new1 _ _ _ _) | (with_reducible exact Blk.new2 _ _ _ _ _) | (with_reducible exact Blk.new3 _ _ _ _ _ _) | (with_reducible refine Blk.alloc ?_ _) | (with_reducible refine Blk.drew ?_) | (with_reducible refine Blk.below' ?_ hBd) | (with_reducible refine Blk.below' ?_ hBa) | (with_reducible refine Blk.below' ?_ hBb))), by repeat (first | (with_reducible assumption) | (with_reducible exact Below.refl _ _) | (with_reducible refine Below.alloc ?_ ?_ _) | (with_reducible refine Below.setCell ?_ ?_ _) | (with_reducible refine Below.drew ?_) | omega | (simp <;> omega) | (dsimp only; omega))⟩
      case rest =>
        obtain ⟨a4, n4, m4, a5, n5, m5, rfl, rfl, K4, K5, hBc⟩ := hcut
        have hB3 := hB2.trans (hBc.mono hB2.size)
        have hV3 := hV2.below hBc
        have nh4 := K4.len
        have nh5 := K5.len
        have HJ1 := joinedC hV3 a4 n4 m4 _ K4 (by have := Hnh.out; omega) (by have := Hnh.out; omega) Hhb.out
        have HJ2 := joinedC hV3 a5 n5 m5 _ K5 (by have := Hnt.out; omega) (by have := Hnt.out; omega) Htb.out
        rw [← Hj1.out] at HJ1
        rw [← Hj2.out] at HJ2
        have HJ1 := Lib.hid HJ1
        have HJ2 := Lib.hid HJ2
        have HW := Lib.hid (fun W (h : RowKit.Below wc.heap.size wc W) => (hwd W).mono (R' := fun e w' => e = .returned (.agg ws) ∧ RowKit.Below W.heap.size W w' ∧ RowKit.Below wc.heap.size wc w') fun _ _ q => ⟨q.1, q.2, h.trans (q.2.mono h.size)⟩)
        have HS : ∀ W, RowKit.Below wc.heap.size wc W → W.cell? ⟨bx, 3, none⟩ = some (.int .u8 x.kind) := fun W h => HC2.out W (hBc.trans (h.mono hBc.size)) 3
        have HS := Lib.hid HS
        obtain ⟨w3, hw3⟩ : ∃ w3, w3 = wc := ⟨_, rfl⟩
        rw [← hw3] at hB3 HJ1 HJ2 HW HS ⊢
        clear hw3 hwd hV3 hV2 nh4 nh5 K4 K5 hBc HC2 cx L4 L5 hk1 hk6 Hj1 Hj2 Hhb Htb Hnh Hnt
        go_upto_region 13 with fail
        go_region_held3 (fun w' => w'.cell? ⟨bx, 3, none⟩ = some (.int .u8 x.kind))
          (((with_reducible refine HS.out _ ?_); repeat (first | (with_reducible assumption) | (with_reducible exact Below.refl _ _) | (with_reducible refine Below.alloc ?_ ?_ _) | (with_reducible refine Below.setCell ?_ ?_ _) | (with_reducible refine Below.drew ?_) | omega | (simp <;> omega) | (dsimp only; omega))))
          (first
            | (go_at_call 80; (with_reducible refine (HJ1.out _ (by repeat (first | (with_reducible assumption) | (with_reducible exact Below.refl _ _) | (with_reducible refine Below.alloc ?_ ?_ _) | (with_reducible refine Below.setCell ?_ ?_ _) | (with_reducible refine Below.drew ?_) | omega | (simp <;> omega) | (dsimp only; omega)))).mono ?_); rintro e w4 ⟨rfl, hBa, hba⟩; have hsa := hba.size)
            | (go_at_call 80; (with_reducible refine (HJ2.out _ (by repeat (first | (with_reducible assumption) | (with_reducible exact Below.refl _ _) | (with_reducible refine Below.alloc ?_ ?_ _) | (with_reducible refine Below.setCell ?_ ?_ _) | (with_reducible refine Below.drew ?_) | omega | (simp <;> omega) | (dsimp only; omega)))).mono ?_); rintro e w5 ⟨rfl, hBb, hbb⟩; have hsb := hbb.size)
            | (go_at_call 81; (with_reducible refine (HW.out _ (by repeat (first | (with_reducible assumption) | (with_reducible exact Below.refl _ _) | (with_reducible refine Below.alloc ?_ ?_ _) | (with_reducible refine Below.setCell ?_ ?_ _) | (with_reducible refine Below.drew ?_) | omega | (simp <;> omega) | (dsimp only; omega)))).mono ?_); rintro e w6 ⟨rfl, hBd, hbd⟩; have hsd := hbd.size)
            | fail)
        all_goals
          go_wp2_with fail
          go_ret2
          exact ⟨rfl, hB3.trans (RowKit.Below.mono (by repeat (first | (with_reducible assumption) | (with_reducible exact Below.refl _ _) | (with_reducible refine Below.alloc ?_ ?_ _) | (with_reducible refine Below.setCell ?_ ?_ _) | (with_reducible refine Below.drew ?_) | omega | (simp <;> omega) | (dsimp only; omega))) hB3.size)⟩

end Go.Proofs.YtmeomhojbobpbaaGreatDoor
