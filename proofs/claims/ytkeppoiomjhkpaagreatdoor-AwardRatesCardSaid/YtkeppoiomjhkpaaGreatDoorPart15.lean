import Derived.Test.YtkeppoiomjhkpaaGreatDoorPart14
import Derived.StillTailTactics
import Derived.Test.YtkeppoiomjhkpaaGreatDoorPart10
import Derived.Test.YtkeppoiomjhkpaaGreatDoorPart03
import Derived.Test.YtkeppoiomjhkpaaGreatDoorPart09
import Derived.Test.YtkeppoiomjhkpaaGreatDoorPart01
import Derived.Test.YtkeppoiomjhkpaaGreatDoorPart04
import Derived.Test.YtkeppoiomjhkpaaGreatDoorPart11
import Derived.Test.YtkeppoiomjhkpaaGreatDoorPart02
/-
  Walks: giving up (award.unless), a word's number (award.read$2).
-/
namespace Go.Proofs.YtkeppoiomjhkpaaGreatDoor
open Go.RowKit Lg Go.Sort Go.Shelf

/-- The value that gives up. -/
abbrev nfV : Value := .iface 130 (.agg #[])

/-- A word's number. -/
def numOf (l : Bs) : Option Int :=
  match Go.Lib.atoiAll l with
  | .ok v => if 0 ≤ v ∧ nm v = l then some v else none
  | _ => none

theorem numOf_nm {n : Int} (h : 0 ≤ n) (h1 : n < 1000000000000) : numOf (nm n) = some n := by
  unfold numOf
  rw [nm_atoi h h1]
  simp [h]

theorem numOf_some {l : Bs} {v : Int} (h : numOf l = some v) : Go.Lib.atoiAll l = .ok v ∧ 0 ≤ v ∧ nm v = l := by
  unfold numOf at h
  split at h
  · rename_i u hu
    split at h
    · rename_i hc
      injection h with h
      subst h
      exact ⟨hu, hc⟩
    · cases h
  · cases h

set_option maxRecDepth 100000 in
theorem unless_ok (w : World) : Calls Tryz.prog 52 #[.bool true] w fun e w' => e = .returned (.tuple #[]) ∧ w = w' := by
  go_enter Tryz.func52, Tryz.ntmps52
  go_wp2_with (fail)
  go_end0
  exact ⟨rfl, rfl⟩

set_option maxRecDepth 100000 in
theorem unless_up (w : World) : Calls Tryz.prog 52 #[.bool false] w fun e w' => e = .panicked [{ v := nfV, recovered := false }] ∧ w = w' := by
  go_enter Tryz.func52, Tryz.ntmps52
  go_wp2_with (fail)
  exact ⟨rfl, rfl, rfl⟩

theorem atoi_ok {w : World} (s : ByteArray) (hs : s.size ≤ 1000) (v : Int) (h : Lib.atoiAll s.data.toList = .ok v) : Calls Tryz.prog 86 #[.string s] w (Gives w (.tuple #[.int .i64 v, .nilIface])) := by
  refine (Tryz.strconv_Atoi_ok s (by omega) v h w).mono ?_
  rintro e w' ⟨rfl, hw⟩
  refine ⟨rfl, ?_⟩
  rcases hw with rfl | ⟨t, rfl⟩
  · exact Below.refl _ _
  · exact below_bytes _ _ _

theorem atoi_bad {w : World} (hV : Vs w) (s : ByteArray) (hs : s.size ≤ 1000) (h : ∀ v, Lib.atoiAll s.data.toList ≠ .ok v) : Calls Tryz.prog 86 #[.string s] w fun e w' => ∃ n N, e = .returned (.tuple #[.int .i64 n, .iface 197 (.pointer (some ⟨N, 0, none⟩))]) ∧ Below w.heap.size w w' := by
  obtain ⟨e1, h1, h2⟩ := hV.syn
  obtain ⟨e2, h3, h4⟩ := hV.rng
  exact Tryz.strconv_Atoi_bad s (by omega) h e1 e2 w h1 h2 h3 h4

set_option maxRecDepth 100000 in
set_option maxHeartbeats 3200000 in
theorem number_ok (Bw b off n c i : Nat) (s : ByteArray) (v : Int) (w : World) (hV : Vs w) (hw : w.cell? ⟨Bw, 0, none⟩ = some (.slice (some ⟨b, off, none⟩) n c)) (hc : w.cell? ⟨b, off + i, none⟩ = some (.string s)) (hi : i < n) (hs : s.size ≤ 1000) (h : numOf s.data.toList = some v) :
    Calls Tryz.prog 85 #[.int .i64 i, .pointer (some ⟨Bw, 0, none⟩)] w (Gives w (.int .i64 v)) := by
  obtain ⟨h1, h2, h3⟩ := numOf_some h
  have hm := Go.Lib.atoiAll_bounds h1
  have hA := atoi_ok (w := w) s hs v h1
  have hb : Bw < w.heap.size := World.block_lt_of_cell? _ _ hw
  have hb2 : b < w.heap.size := World.block_lt_of_cell? _ _ hc
  have hiz : (i : Int) < (n : Int) := by omega
  have hsv : ofL (nm v) = s := by rw [h3]
  have hq : (s.toList == s.toList) = true := by simp
  have hvz : decide (0 ≤ v) = true := by simpa using h2
  go_enter Tryz.func85, Tryz.ntmps85
  go_wp2_with (fail)
  refine hA.mono ?_
  clear hA
  rintro e w1 ⟨rfl, hB1⟩
  have hI := fun W (hB : RowKit.Below w1.heap.size w1 W) => (itoa_any ((hV.below hB1).below hB) v h2 hm.2)
  rw [hsv] at hI
  have HI := Lib.hid (fun W (hB : RowKit.Below w1.heap.size w1 W) => (hI W hB).mono fun e w' (h : Gives W _ e w') => (⟨h.1, h.2, hB.trans (h.2.mono hB.size)⟩ : e = _ ∧ RowKit.Below W.heap.size W w' ∧ RowKit.Below w1.heap.size w1 w'))
  have HS : ∀ W, RowKit.Below w1.heap.size w1 W → W.cell? ⟨Bw, 0, none⟩ = some (.slice (some ⟨b, off, none⟩) n c) ∧ W.cell? ⟨b, off + i, none⟩ = some (.string s) := fun W hB => by
    have hB2 := hB1.trans (hB.mono hB1.size)
    exact ⟨(hB2.cell (p := ⟨Bw, 0, none⟩) hb).trans hw, (hB2.cell (p := ⟨b, off + i, none⟩) hb2).trans hc⟩
  have HS := Lib.hid HS
  clear hI hV hw hc hb hb2 h1 h3 hm hsv h
  go_upto_region 2 with fail
  go_region_held3 (fun w' => w'.cell? ⟨Bw, 0, none⟩ = some (.slice (some ⟨b, off, none⟩) n c) ∧ w'.cell? ⟨b, off + i, none⟩ = some (.string s))
    (((with_reducible refine HS.out _ ?_); repeat (first | (with_reducible assumption) | (with_reducible exact Below.refl _ _) | (with_reducible refine Below.alloc ?_ ?_ _) | (with_reducible refine Below.setCell ?_ ?_ _) | (with_reducible refine Below.drew ?_) | omega | (simp <;> omega) | (dsimp only; omega))))
    (first
      | (go_at_call 81; (with_reducible refine (HI.out _ (by repeat (first | (with_reducible assumption) | (with_reducible exact Below.refl _ _) | (with_reducible refine Below.alloc ?_ ?_ _) | (with_reducible refine Below.setCell ?_ ?_ _) | (with_reducible refine Below.drew ?_) | omega | (simp <;> omega) | (dsimp only; omega)))).mono ?_); rintro e w3 ⟨rfl, hBa, hba⟩; have hsa := hba.size)
      | (go_at_call 52; (with_reducible refine (unless_ok _).mono ?_); rintro e w4 ⟨rfl, rfl⟩)
      | fail)
  all_goals
    go_wp2_with (fail)
    go_ret
    exact ⟨rfl, hB1.trans (RowKit.Below.mono (by repeat (first | (with_reducible assumption) | (with_reducible exact Below.refl _ _) | (with_reducible refine Below.alloc ?_ ?_ _) | (with_reducible refine Below.setCell ?_ ?_ _) | (with_reducible refine Below.drew ?_) | omega | (simp <;> omega) | (dsimp only; omega))) hB1.size)⟩

end Go.Proofs.YtkeppoiomjhkpaaGreatDoor

/-
  Walks: award.WriteSale.
-/
namespace Go.Proofs.YtkeppoiomjhkpaaGreatDoor
open Go.RowKit Lg Go.Sort Go.Shelf

theorem joinC {w1 : World} (hV : Vs w1) (xs : List Int) (hl : xs.length ≤ 10) (hp : 0 < xs.length) (hx : ∀ y ∈ xs, 0 ≤ y ∧ y < 1000000000000) :
    ∀ (W : World) (B : Nat), RowKit.Below w1.heap.size w1 W → Blk W B (xs.map (Value.int .i64)).toArray 3 →
      Calls Tryz.prog 47 #[.slice (some ⟨B, 0, none⟩) xs.length xs.length] W fun e w' => e = .returned (.string (ofL (lineL (xs.map nm)))) ∧ RowKit.Below W.heap.size W w' ∧ RowKit.Below w1.heap.size w1 w' :=
  fun W B hq k => (join_any (some ⟨B, 0, none⟩) xs.length xs.length xs W (hV.below hq) hl hp hx (Lst.ofI xs (by omega) k)).mono fun _ _ h => ⟨h.1, h.2, hq.trans (h.2.mono hq.size)⟩

set_option maxRecDepth 100000 in
set_option maxHeartbeats 6400000 in
theorem writeSale_any (x : Sale) (w : World) (hV : Vs w) : Calls Tryz.prog 11 #[aS x] w (Gives w (.tuple #[.string (writeS x).1, .int .i64 (writeS x).2])) := by
  have hc := fun W => checkSale_any x W
  have hB0 : RowKit.Below w.heap.size w (w.alloc (.cells #[.int .i64 x.id, .int .i64 x.known, .int .i64 x.hour, .int .i64 x.parcel, .int .i64 x.price, .int .i64 x.carter, .int .i64 x.keeper, .int .i64 x.since, .int .i64 x.of_] 24)) := (Below.refl _ w).alloc (Nat.le_refl _) _
  have k0 := Blk.new w 24 #[.int .i64 x.id, .int .i64 x.known, .int .i64 x.hour, .int .i64 x.parcel, .int .i64 x.price, .int .i64 x.carter, .int .i64 x.keeper, .int .i64 x.since, .int .i64 x.of_]
  cases ho : saleOk x with
  | false =>
    rw [ho] at hc
    have hw : writeS x = (⟨#[]⟩, 1) := by unfold writeS; rw [ho]; rfl
    rw [hw]
    clear hw ho k0 hV
    go_enter Tryz.func11, Tryz.ntmps11
    go_wp2_with (fail)
    refine (hc _).mono ?_
    rintro e w1 ⟨rfl, hB1⟩
    go_wp2_with (fail)
    go_ret2
    exact ⟨rfl, hB0.trans (hB1.mono hB0.size)⟩
  | true =>
    rw [ho] at hc
    have hw : writeS x = (lineS x, 0) := by unfold writeS; rw [ho]; rfl
    rw [hw]
    clear hw
    obtain ⟨⟨a1, b1⟩, ⟨a2, b2⟩, ⟨a3, b3⟩, ⟨a4, b4⟩, ⟨a5, b5⟩, ⟨a6, b6⟩, ⟨a7, b7⟩, ⟨a8, b8⟩, ⟨a9, b9⟩⟩ := saleOk_all ho
    clear ho
    obtain ⟨ln, hln⟩ : ∃ ln, ln = lineS x := ⟨_, rfl⟩
    rw [← hln]
    have l1 := joinB_len [x.id, x.known] (by simp; omega)
    have l2 := joinB_len [x.of_] (by simp; omega)
    have l3 := joinB_len [x.id, x.known, x.hour] (by simp; omega)
    have l4 := joinB_len [x.parcel, x.price, x.carter, x.keeper, x.since] (by simp; omega)
    simp only [List.length_cons, List.length_nil] at l1 l2 l3 l4
    have A1 := add_ok (a := lineL ([x.id, x.known].map nm)) (b := [32, 118, 111, 105, 100, 32]) rfl (by omega) (by decide)
    have A3 := add_ok (a := lineL ([x.id, x.known, x.hour].map nm)) (b := [32, 115, 97, 108, 101, 32]) rfl (by omega) (by decide)
    have A2 : x.of_ ≠ 0 → ∀ W, (Op.stringOp .add (ofL (lineL ([x.id, x.known].map nm) ++ [32, 118, 111, 105, 100, 32])) (ofL (lineL ([x.of_].map nm)))).run Tryz.prog W = .ok (.string ln) W := fun h0 => by
      have e : ln = ofL (lineL ([x.id, x.known].map nm) ++ [32, 118, 111, 105, 100, 32] ++ lineL ([x.of_].map nm)) := by
        rw [hln, lineS, wordsS, if_pos h0]
        simp [lineL, voidL]
      rw [e]
      exact add_ok rfl (by rw [List.length_append]; simp only [List.length_cons, List.length_nil]; omega) (by omega)
    have A4 : x.of_ = 0 → ∀ W, (Op.stringOp .add (ofL (lineL ([x.id, x.known, x.hour].map nm) ++ [32, 115, 97, 108, 101, 32])) (ofL (lineL ([x.parcel, x.price, x.carter, x.keeper, x.since].map nm)))).run Tryz.prog W = .ok (.string ln) W := fun h0 => by
      have e : ln = ofL (lineL ([x.id, x.known, x.hour].map nm) ++ [32, 115, 97, 108, 101, 32] ++ lineL ([x.parcel, x.price, x.carter, x.keeper, x.since].map nm)) := by
        rw [hln, lineS, wordsS, if_neg (by simpa using h0)]
        simp [lineL, saleL]
      rw [e]
      exact add_ok rfl (by rw [List.length_append]; simp only [List.length_cons, List.length_nil]; omega) (by omega)
    clear hln l1 l2 l3 l4
    go_enter Tryz.func11, Tryz.ntmps11
    go_wp2_with (fail)
    refine (hc _).mono ?_
    clear hc
    rintro e w1 ⟨rfl, hB1⟩
    have k1 := k0.below' hB1
    clear k0
    have hB1 := hB0.trans (hB1.mono hB0.size)
    clear hB0
    have hV1 := hV.below hB1
    have HJ1 := joinC hV1 [x.id, x.known] (by simp) (by simp) (by simp; omega)
    have HJ2 := joinC hV1 [x.of_] (by simp) (by simp) (by simp; omega)
    have HJ3 := joinC hV1 [x.id, x.known, x.hour] (by simp) (by simp) (by simp; omega)
    have HJ4 := joinC hV1 [x.parcel, x.price, x.carter, x.keeper, x.since] (by simp) (by simp) (by simp; omega)
    generalize ofL (lineL ([x.id, x.known].map nm) ++ [32, 118, 111, 105, 100, 32]) = s1 at *
    generalize ofL (lineL ([x.id, x.known, x.hour].map nm) ++ [32, 115, 97, 108, 101, 32]) = s3 at *
    generalize ofL (lineL ([x.id, x.known].map nm)) = j1 at *
    generalize ofL (lineL ([x.of_].map nm)) = j2 at *
    generalize ofL (lineL ([x.id, x.known, x.hour].map nm)) = j3 at *
    generalize ofL (lineL ([x.parcel, x.price, x.carter, x.keeper, x.since].map nm)) = j4 at *
    simp only [List.map_cons, List.map_nil, List.length_cons, List.length_nil] at HJ1 HJ2 HJ3 HJ4
    have HJ1 := Lib.hid HJ1
    have HJ2 := Lib.hid HJ2
    have HJ3 := Lib.hid HJ3
    have HJ4 := Lib.hid HJ4
    clear a1 b1 a2 b2 a4 b4 a5 b5 a6 b6 a7 b7 a8 b8 a9 b9 hV hV1
    obtain ⟨bx, hbx⟩ : ∃ bx, bx = w.heap.size := ⟨_, rfl⟩
    rw [← hbx] at k1 ⊢
    clear hbx
    have HC := Lib.hid (fun W (h : RowKit.Below w1.heap.size w1 W) => (k1.below' h).cell)
    have c8 : w1.cell? ⟨bx, 8, none⟩ = some (.int .i64 x.of_) := HC.out _ (Below.refl _ _) 8
    clear k1
    by_cases h0 : x.of_ = 0
    · have hz : ¬ (0 : Int) < x.of_ := by omega
      have A4 := A4 h0
      have H0 := Lib.hid h0
      clear h0 A2 A1 HJ1 HJ2 a3 b3
      have HS : ∀ W, RowKit.Below w1.heap.size w1 W → W.cell? ⟨bx, 0, none⟩ = some (.int .i64 x.id) ∧ W.cell? ⟨bx, 1, none⟩ = some (.int .i64 x.known) ∧ W.cell? ⟨bx, 2, none⟩ = some (.int .i64 x.hour) ∧ W.cell? ⟨bx, 3, none⟩ = some (.int .i64 x.parcel) ∧ W.cell? ⟨bx, 4, none⟩ = some (.int .i64 x.price) ∧ W.cell? ⟨bx, 5, none⟩ = some (.int .i64 x.carter) ∧ W.cell? ⟨bx, 6, none⟩ = some (.int .i64 x.keeper) ∧ W.cell? ⟨bx, 7, none⟩ = some (.int .i64 x.since) := fun W h => ⟨HC.out W h 0, HC.out W h 1, HC.out W h 2, HC.out W h 3, HC.out W h 4, HC.out W h 5, HC.out W h 6, HC.out W h 7⟩
      have HS := Lib.hid HS
      clear HC
      go_upto_region 6 with fail
      clear c8
      go_region_held3 (fun w' => w'.cell? ⟨bx, 0, none⟩ = some (.int .i64 x.id) ∧ w'.cell? ⟨bx, 1, none⟩ = some (.int .i64 x.known) ∧ w'.cell? ⟨bx, 2, none⟩ = some (.int .i64 x.hour) ∧ w'.cell? ⟨bx, 3, none⟩ = some (.int .i64 x.parcel) ∧ w'.cell? ⟨bx, 4, none⟩ = some (.int .i64 x.price) ∧ w'.cell? ⟨bx, 5, none⟩ = some (.int .i64 x.carter) ∧ w'.cell? ⟨bx, 6, none⟩ = some (.int .i64 x.keeper) ∧ w'.cell? ⟨bx, 7, none⟩ = some (.int .i64 x.since))
        (((with_reducible refine HS.out _ ?_); repeat (first | (with_reducible assumption) | (with_reducible exact Below.refl _ _) | (with_reducible refine Below.alloc ?_ ?_ _) | (with_reducible refine Below.setCell ?_ ?_ _) | (with_reducible refine Below.drew ?_) | omega | (simp <;> omega) | (dsimp only; omega))))
        (first
          | (go_at_call 47; (with_reducible refine (HJ3.out _ _ (by repeat (first | (with_reducible assumption) | (with_reducible exact Below.refl _ _) | (with_reducible refine Below.alloc ?_ ?_ _) | (with_reducible refine Below.setCell ?_ ?_ _) | (with_reducible refine Below.drew ?_) | omega | (simp <;> omega) | (dsimp only; omega))) (by repeat (first | (with_reducible assumption) | (with_reducible exact Blk.new _ _ _) | (with_reducible exact Blk.new1 _ _ _ _) | (with_reducible exact Blk.new2 _ _ _ _ _) | (with_reducible exact Blk.new3 _ _ _ _ _ _) | (with_reducible refine Blk.alloc ?_ _) | (with_reducible refine Blk.drew ?_) | (with_reducible refine Blk.below' ?_ hBd) | (with_reducible refine Blk.below' ?_ hBa) | (with_reducible refine Blk.below' ?_ hBb)))).mono ?_); rintro e w3 ⟨rfl, hBa, hba⟩; have hsa := hba.size)
          | (go_at_call 47; (with_reducible refine (HJ4.out _ _ (by repeat (first | (with_reducible assumption) | (with_reducible exact Below.refl _ _) | (with_reducible refine Below.alloc ?_ ?_ _) | (with_reducible refine Below.setCell ?_ ?_ _) | (with_reducible refine Below.drew ?_) | omega | (simp <;> omega) | (dsimp only; omega))) (by repeat (first | (with_reducible assumption) | (with_reducible exact Blk.new _ _ _) | (with_reducible exact Blk.new1 _ _ _ _) | (with_reducible exact Blk.new2 _ _ _ _ _) | (with_reducible exact Blk.new3 _ _ _ _ _ _) | (with_reducible refine Blk.alloc ?_ _) | (with_reducible refine Blk.drew ?_) | (with_reducible refine Blk.below' ?_ hBd) | (with_reducible refine Blk.below' ?_ hBa) | (with_reducible refine Blk.below' ?_ hBb)))).mono ?_); rintro e w4 ⟨rfl, hBb, hbb⟩; have hsb := hbb.size)
          | fail)
      all_goals
        go_wp2_with fail
        go_ret2
        exact ⟨rfl, hB1.trans (RowKit.Below.mono (by repeat (first | (with_reducible assumption) | (with_reducible exact Below.refl _ _) | (with_reducible refine Below.alloc ?_ ?_ _) | (with_reducible refine Below.setCell ?_ ?_ _) | (with_reducible refine Below.drew ?_) | omega | (simp <;> omega) | (dsimp only; omega))) hB1.size)⟩
    · have hz : (0 : Int) < x.of_ := by omega
      have A2 := A2 h0
      have H0 := Lib.hid h0
      clear h0 A3 A4 HJ3 HJ4 a3 b3
      have HS : ∀ W, RowKit.Below w1.heap.size w1 W → W.cell? ⟨bx, 0, none⟩ = some (.int .i64 x.id) ∧ W.cell? ⟨bx, 1, none⟩ = some (.int .i64 x.known) ∧ W.cell? ⟨bx, 8, none⟩ = some (.int .i64 x.of_) := fun W h => ⟨HC.out W h 0, HC.out W h 1, HC.out W h 8⟩
      have HS := Lib.hid HS
      clear HC
      go_upto_region 5 with fail
      clear c8
      go_region_held3 (fun w' => w'.cell? ⟨bx, 0, none⟩ = some (.int .i64 x.id) ∧ w'.cell? ⟨bx, 1, none⟩ = some (.int .i64 x.known) ∧ w'.cell? ⟨bx, 8, none⟩ = some (.int .i64 x.of_))
        (((with_reducible refine HS.out _ ?_); repeat (first | (with_reducible assumption) | (with_reducible exact Below.refl _ _) | (with_reducible refine Below.alloc ?_ ?_ _) | (with_reducible refine Below.setCell ?_ ?_ _) | (with_reducible refine Below.drew ?_) | omega | (simp <;> omega) | (dsimp only; omega))))
        (first
          | (go_at_call 47; (with_reducible refine (HJ1.out _ _ (by repeat (first | (with_reducible assumption) | (with_reducible exact Below.refl _ _) | (with_reducible refine Below.alloc ?_ ?_ _) | (with_reducible refine Below.setCell ?_ ?_ _) | (with_reducible refine Below.drew ?_) | omega | (simp <;> omega) | (dsimp only; omega))) (by repeat (first | (with_reducible assumption) | (with_reducible exact Blk.new _ _ _) | (with_reducible exact Blk.new1 _ _ _ _) | (with_reducible exact Blk.new2 _ _ _ _ _) | (with_reducible exact Blk.new3 _ _ _ _ _ _) | (with_reducible refine Blk.alloc ?_ _) | (with_reducible refine Blk.drew ?_) | (with_reducible refine Blk.below' ?_ hBd) | (with_reducible refine Blk.below' ?_ hBa) | (with_reducible refine Blk.below' ?_ hBb)))).mono ?_); rintro e w3 ⟨rfl, hBa, hba⟩; have hsa := hba.size)
          | (go_at_call 47; (with_reducible refine (HJ2.out _ _ (by repeat (first | (with_reducible assumption) | (with_reducible exact Below.refl _ _) | (with_reducible refine Below.alloc ?_ ?_ _) | (with_reducible refine Below.setCell ?_ ?_ _) | (with_reducible refine Below.drew ?_) | omega | (simp <;> omega) | (dsimp only; omega))) (by repeat (first | (with_reducible assumption) | (with_reducible exact Blk.new _ _ _) | (with_reducible exact Blk.new1 _ _ _ _) | (with_reducible exact Blk.new2 _ _ _ _ _) | (with_reducible exact Blk.new3 _ _ _ _ _ _) | (with_reducible refine Blk.alloc ?_ _) | (with_reducible refine Blk.drew ?_) | (with_reducible refine Blk.below' ?_ hBd) | (with_reducible refine Blk.below' ?_ hBa) | (with_reducible refine Blk.below' ?_ hBb)))).mono ?_); rintro e w4 ⟨rfl, hBb, hbb⟩; have hsb := hbb.size)
          | fail)
      all_goals
        go_wp2_with fail
        go_ret2
        exact ⟨rfl, hB1.trans (RowKit.Below.mono (by repeat (first | (with_reducible assumption) | (with_reducible exact Below.refl _ _) | (with_reducible refine Below.alloc ?_ ?_ _) | (with_reducible refine Below.setCell ?_ ?_ _) | (with_reducible refine Below.drew ?_) | omega | (simp <;> omega) | (dsimp only; omega))) hB1.size)⟩

end Go.Proofs.YtkeppoiomjhkpaaGreatDoor

/-
  Walks: valid fractions; sums of two of them.
-/
namespace Go.Proofs.YtkeppoiomjhkpaaGreatDoor
open Go.RowKit Lg Go.Sort Go.Shelf

set_option maxRecDepth 100000 in
set_option maxHeartbeats 800000 in
theorem valid1_any (f : Frac) (w : World) : Calls Tryz.prog 138 #[aF f] w (Gives w (.bool (!validF f))) := by
  have h1 := fun W => within5_any f.den 1 1000000 W
  have h2 := fun W => within5_any f.num (-1000000000000) 1000000000000 W
  have hv : validF f = (inn f.den 1 1000000 && inn f.num (-1000000000000) 1000000000000 && decide (Int.gcd f.num f.den = 1)) := rfl
  rw [hv]
  clear hv
  have hb : RowKit.Below w.heap.size w (w.alloc (.cells #[.int .i64 f.num, .int .i64 f.den] 41)) := (Below.refl _ w).alloc (Nat.le_refl _) _
  rcases Bool.eq_false_or_eq_true (inn f.den 1 1000000) with e1 | e1 <;> rw [e1] at h1 ⊢
  · rcases Bool.eq_false_or_eq_true (inn f.num (-1000000000000) 1000000000000) with e2 | e2 <;> rw [e2] at h2 ⊢
    · have b1 := (inn_iff _ _ _).1 e1
      have b2 := (inn_iff _ _ _).1 e2
      have hd := fun W => divisor_any f.num f.den W (by omega) (by omega)
      have E1 := Lib.hid e1
      have E2 := Lib.hid e2
      clear e1 e2 b1 b2
      by_cases hg : Int.gcd f.num f.den = 1
      · have hg' : ∀ W, Calls Tryz.prog 139 #[.int .i64 f.num, .int .i64 f.den] W fun e w' => e = .returned (.int .i64 1) ∧ Below W.heap.size W w' := fun W => by have := hd W; rw [hg] at this; exact this
        rw [decide_eq_true hg]
        clear hd hg
        go_enter Tryz.func138, Tryz.ntmps138
        go_wp2_with (fail)
        refine (h1 _).mono ?_
        rintro e w2 ⟨rfl, rfl⟩
        go_wp2_with (fail)
        refine (h2 _).mono ?_
        rintro e w2 ⟨rfl, rfl⟩
        go_wp2_with (fail)
        refine (hg' _).mono ?_
        rintro e w2 ⟨rfl, hB⟩
        go_wp2_with (fail)
        go_ret
        exact ⟨rfl, hb.trans (hB.mono hb.size)⟩
      · obtain ⟨g, hgg⟩ : ∃ g : Int, g = (Int.gcd f.num f.den : Int) := ⟨_, rfl⟩
        have hg1 : (g != 1) = true := by simp; omega
        rw [← hgg] at hd
        rw [decide_eq_false hg]
        clear hg hgg
        go_enter Tryz.func138, Tryz.ntmps138
        go_wp2_with (fail)
        refine (h1 _).mono ?_
        rintro e w2 ⟨rfl, rfl⟩
        go_wp2_with (fail)
        refine (h2 _).mono ?_
        rintro e w2 ⟨rfl, rfl⟩
        go_wp2_with (fail)
        refine (hd _).mono ?_
        rintro e w2 ⟨rfl, hB⟩
        go_wp2_with (fail)
        go_ret
        exact ⟨rfl, hb.trans (hB.mono hb.size)⟩
    · clear e1 e2
      go_enter Tryz.func138, Tryz.ntmps138
      go_wp2_with (fail)
      refine (h1 _).mono ?_
      rintro e w2 ⟨rfl, rfl⟩
      go_wp2_with (fail)
      refine (h2 _).mono ?_
      rintro e w2 ⟨rfl, rfl⟩
      go_wp2_with (fail)
      go_ret
      exact ⟨rfl, hb⟩
  · clear e1
    go_enter Tryz.func138, Tryz.ntmps138
    go_wp2_with (fail)
    refine (h1 _).mono ?_
    rintro e w2 ⟨rfl, rfl⟩
    go_wp2_with (fail)
    go_ret
    exact ⟨rfl, hb⟩

set_option maxRecDepth 100000 in
theorem valid_any (a : Option Addr) (n cap : Nat) (xs : List Frac) (w : World) (hL : Lst w 2 cF a n cap xs) :
    Calls Tryz.prog 104 #[.slice a n cap] w (Gives w (.bool (!xs.any fun f => !validF f))) := by
  have eg : ∀ args w, (callFunc 138 args).run Tryz.prog w = .ok (.enter 138 args) w := enters_of Tryz.func138 (by kernel_rfl) rfl
  have hc := contF_any (fun f => !validF f) 138 #[] eg a n cap xs w hL (fun W x _ => valid1_any x W)
  generalize (xs.any fun f => !validF f) = q at *
  go_enter Tryz.func104, Tryz.ntmps104
  go_wp2_with (go_at_call 137; refine hc.mono ?_; rintro e w3 ⟨rfl, hB⟩)
  go_ret
  exact ⟨rfl, hB⟩

set_option maxRecDepth 100000 in
set_option maxHeartbeats 800000 in
theorem plus_ok (a b : Frac) (w : World) (ha : frOk a) (hb : frOk b) (hok : normOk (a.num * b.den + b.num * a.den) (a.den * b.den) = true) :
    Calls Tryz.prog 141 #[aF a, aF b] w (Gives w (aF (normN (a.num * b.den + b.num * a.den) (a.den * b.den)))) := by
  obtain ⟨a1, a2, a3, a4⟩ := ha
  obtain ⟨b1, b2, b3, b4⟩ := hb
  obtain ⟨p1, p2⟩ := mul_bound a1 a2 b3 b4
  obtain ⟨q1, q2⟩ := mul_bound b1 b2 a3 a4
  have d1 : 1 ≤ a.den * b.den := by
    calc (1 : Int) ≤ 1 * b.den := by omega
      _ ≤ a.den * b.den := Int.mul_le_mul_of_nonneg_right a3 (by omega)
  have d2 : a.den * b.den ≤ 1000000000000 := by
    calc a.den * b.den ≤ 1000000 * b.den := Int.mul_le_mul_of_nonneg_right a4 (by omega)
      _ ≤ 1000000000000 := by omega
  have hn := fun W => norm_ok (a.num * b.den + b.num * a.den) (a.den * b.den) W (by omega) (by omega) (by omega) hok
  obtain ⟨r, hr⟩ : ∃ r, r = normN (a.num * b.den + b.num * a.den) (a.den * b.den) := ⟨_, rfl⟩
  rw [← hr] at hn ⊢
  clear hr hok
  go_enter Tryz.func141, Tryz.ntmps141
  go_wp2_with (fail)
  refine (hn _).mono ?_
  clear hn
  rintro e w2 ⟨rfl, hB⟩
  have k4 : Blk w2 (w.heap.size + 1 + 1) #[.int .i64 0, .int .i64 0] 179 := by
    have := Blk.new ((w.alloc (.cells #[.int .i64 a.num, .int .i64 a.den] 179)).alloc (.cells #[.int .i64 b.num, .int .i64 b.den] 179)) 179 #[.int .i64 0, .int .i64 0]
    have := this.below' hB
    simpa using this
  have hb0 : RowKit.Below w.heap.size w w2 := ((((Below.refl _ w).alloc (Nat.le_refl _) _).alloc (by simp) _).alloc (by simp; omega) _).trans (hB.mono (by simp; omega))
  have c4 := k4.cell
  have f4 := k4.frozen
  go_wp2_with (fail)
  refine bodyPost_ret (results_cell_row rfl _ _ (w.heap.size + 1 + 1) 179 _ _ _ rfl ((k4.setCell 0 _).setCell 1 _) Tryz.underlying179 rfl (by kernel_rfl)) rfl ⟨?_, (hb0.setCell (p := ⟨w.heap.size + 1 + 1, 0, none⟩) (by simp; omega) _).setCell (p := ⟨w.heap.size + 1 + 1, 1, none⟩) (by simp; omega) _⟩
  rfl

end Go.Proofs.YtkeppoiomjhkpaaGreatDoor

/-
  Walks: the sum of fractions.
-/
namespace Go.Proofs.YtkeppoiomjhkpaaGreatDoor
open Go.RowKit Lg Go.Sort Go.Shelf

theorem grown_trans {w w1 w2 : World} {r : Option Nat} (h : w.grownBy w1 r) (g : w1.grownBy w2 r) : w.grownBy w2 r :=
  ⟨g.os.trans h.os, g.tape.trans h.tape, g.output.trans h.output, Nat.le_trans h.size g.size, fun k hk hne => (g.block k (Nat.lt_of_lt_of_le hk h.size) hne).trans (h.block k hk hne)⟩
theorem grown_of_below {w w' : World} (r : Option Nat) (h : RowKit.Below w.heap.size w w') : w.grownBy w' r := ⟨h.os, h.tape, h.output, h.size, fun k hk _ => h.block k hk⟩
theorem grown_refl (w : World) (r : Option Nat) : w.grownBy w r := ⟨rfl, rfl, rfl, Nat.le_refl _, fun _ _ _ => rfl⟩

theorem setAll_F (a b : Frac) : setAll #[.int .i64 a.num, .int .i64 a.den] 0 [.int .i64 b.num, .int .i64 b.den] = #[.int .i64 b.num, .int .i64 b.den] := by kernel_rfl

set_option maxRecDepth 100000 in
set_option maxHeartbeats 1600000 in
theorem sum1_ok (a : Option Addr) (n cap : Nat) (xs : List Frac) (Bl Bs : Nat) (w : World) (hBl : Blk w Bl #[.slice a n cap] 117) (hBs : Blk w Bs #[.int .i64 0, .int .i64 1] 179)
    (hL : ∀ W', w.grownBy W' (some Bs) → Lst W' 2 cF a n cap xs) (hok : sumsOk xs) :
    Calls Tryz.prog 140 #[.pointer (some ⟨Bl, 0, none⟩), .pointer (some ⟨Bs, 0, none⟩)] w fun e w' => e = .returned (.tuple #[]) ∧ Blk w' Bs #[.int .i64 (sumFr xs).num, .int .i64 (sumFr xs).den] 179 ∧ w.grownBy w' (some Bs) := by
  have hL0 := hL w (grown_refl _ _)
  have hm : cap ≤ 9223372036854775807 := by have := hL0.max; unfold maxLen at this; omega
  have hle := hL0.le
  have hlen := Lib.hid hL0.len
  clear hL0
  have hne : Bl ≠ Bs := hBl.other hBs (by decide)
  have c0 := hBl.cell
  go_enter Tryz.func140, Tryz.ntmps140
  go_wp2
  go_loopw [6] (fun i wr => ∃ k : Nat, k ≤ n ∧ i = .int .i64 k ∧ Blk wr Bs #[.int .i64 (sumFr (xs.take k)).num, .int .i64 (sumFr (xs.take k)).den] 179 ∧ w.grownBy wr (some Bs)) (fun i _ => n - (intOf i).toNat)
  case atStart => exact ⟨0, Nat.zero_le _, rfl, hBs, grown_refl _ _⟩
  case round =>
    obtain ⟨k, hk, rfl, kS, hg⟩ := hrel
    by_cases hlt : k < n
    · obtain ⟨x, hx⟩ : ∃ x, xs[k]? = some x := ⟨xs[k]'(by rw [hlen.out]; exact hlt), by simp⟩
      have hLr := hL wr hg
      obtain ⟨b, off, rfl, hb, hr⟩ := hLr.at_ k x hx
      obtain ⟨o1, o2, o3⟩ := hok k x hx
      have htk : sumFr (xs.take (k + 1)) = sumStep (sumFr (xs.take k)) x := by
        obtain ⟨h1, h2⟩ := List.getElem?_eq_some_iff.1 hx
        unfold sumFr
        rw [List.take_succ_eq_append_getElem h1, h2, List.foldl_append]; rfl
      have Htk := Lib.hid htk
      have Hx := Lib.hid hx
      clear htk hx hLr
      generalize sumFr (xs.take k) = acc at *
      have hp := fun W => plus_ok acc x W o2 o1 o3
      have hst : sumStep acc x = normN (acc.num * x.den + x.num * acc.den) (acc.den * x.den) := rfl
      rw [← hst] at hp
      rw [hst] at Htk
      have Hst := Lib.hid hst
      rw [← hst] at Htk
      clear hst o1 o2 o3
      generalize sumStep acc x = nx at *
      have cS := kS.cell
      have hltS := kS.lt
      go_wp2_with (first
        | (refine wpList_load_mid rfl 41 _ rfl b (off + k * 2) rfl (cF x) _ hr Tryz.underlying41 rfl (by kernel_rfl) ?_)
        | fail)
      refine (hp _).mono ?_
      clear hp cS
      rintro e w3 ⟨rfl, hB3⟩
      have kS3 := (kS.alloc (.cells #[.int .i64 x.num, .int .i64 x.den] 41)).below' hB3
      have hg3 : w.grownBy w3 (some Bs) := grown_trans hg (grown_of_below _ (((Below.refl _ wr).alloc (Nat.le_refl _) _).trans (hB3.mono (by simp))))
      have c3 := kS3.cell
      have f3 := kS3.frozen
      go_wp2_with (fail)
      go_roundw
      case rel =>
        refine ⟨k + 1, by omega, by go_num, ?_, grown_trans hg3 (grownBy_setCells w3 Bs 0 [.int .i64 nx.num, .int .i64 nx.den])⟩
        rw [Htk.out]
        have h := kS3.setCells 0 [.int .i64 nx.num, .int .i64 nx.den]
        rw [setAll_F] at h
        exact h
      case measure => simp [intOf]; omega
    · obtain rfl : k = n := by omega
      rw [List.take_of_length_le (by rw [hlen.out]; exact Nat.le_refl _)] at kS
      go_wp2
      go_end0
      exact ⟨rfl, kS, hg⟩

set_option maxRecDepth 100000 in
set_option maxHeartbeats 1600000 in
theorem sum_ok (a : Option Addr) (n cap : Nat) (xs : List Frac) (w : World) (hL : Lst w 2 cF a n cap xs) (hn : n ≤ 1000) (hv : (xs.any fun f => !validF f) = false) (hok : sumsOk xs) :
    Calls Tryz.prog 105 #[.slice a n cap] w (Gives w (.tuple #[aF (sumFr xs), .int .i64 0])) := by
  have eg : ∀ args w, (callFunc 140 args).run Tryz.prog w = .ok (.enter 140 args) w := enters_of Tryz.func140 (by kernel_rfl) rfl
  have hmf : ∀ (fn : Fn) (first cap : Array Value) (w : World), (Instr.makeFunc fn first cap).run Tryz.prog w = .ok (.func fn first cap) w := fun _ _ _ _ => rfl
  have hB1 : RowKit.Below w.heap.size w ((w.alloc (.cells #[.slice a n cap] 117)).alloc (.cells #[.int .i64 0, .int .i64 0] 41)) := ((Below.refl _ w).alloc (Nat.le_refl _) _).alloc (by simp) _
  have hva := valid_any a n cap xs ((w.alloc (.cells #[.slice a n cap] 117)).alloc (.cells #[.int .i64 0, .int .i64 0] 41)) (hL.below hB1)
  rw [hv] at hva
  clear hv
  go_enter Tryz.func105, Tryz.ntmps105
  go_wp2_with (fail)
  refine hva.mono ?_
  clear hva
  rintro e w2 ⟨rfl, hB2⟩
  have k1 : Blk w2 w.heap.size #[.slice a n cap] 117 := ((Blk.new w _ _).alloc _).below' hB2
  have k2 : Blk w2 (w.heap.size + 1) #[.int .i64 0, .int .i64 0] 41 := by
    have := (Blk.new (w.alloc (.cells #[.slice a n cap] 117)) 41 #[.int .i64 0, .int .i64 0]).below' hB2
    simpa using this
  have hb2 : RowKit.Below w.heap.size w w2 := hB1.trans (hB2.mono hB1.size)
  obtain ⟨w3, hw3⟩ : ∃ w3, w3 = w2.alloc (.cells #[.int .i64 0, .int .i64 1] 179) := ⟨_, rfl⟩
  have kS : Blk w3 w2.heap.size #[.int .i64 0, .int .i64 1] 179 := hw3 ▸ Blk.new _ _ _
  have hb23 : RowKit.Below w2.heap.size w2 w3 := hw3 ▸ (Below.refl _ w2).alloc (Nat.le_refl _) _
  have k13 := k1.below' hb23
  have k23 := k2.below' hb23
  have hb3 := hb2.trans (hb23.mono hb2.size)
  have hs2 := k2.lt
  have hsS := kS.lt
  have hr := ranged_ok 140 #[.pointer (some ⟨w.heap.size, 0, none⟩), .pointer (some ⟨w2.heap.size, 0, none⟩)] eg w3 (fun w' => Blk w' w2.heap.size #[.int .i64 (sumFr xs).num, .int .i64 (sumFr xs).den] 179 ∧ (w3.alloc (.cells #[.int .i64 0] 27)).grownBy w' (some w2.heap.size)) (by
    refine (sum1_ok a n cap xs w.heap.size w2.heap.size (w3.alloc (.cells #[.int .i64 0] 27)) (k13.alloc _) (kS.alloc _) (fun W' hg => ?_) hok).mono ?_
    · refine hL.below ?_
      exact (hb3.alloc hb3.size _).grown hg (by simp; omega) (fun k e => by cases e; omega)
    · rintro e w' ⟨rfl, h1, h2⟩
      refine ⟨rfl, ?_, h1, h2⟩
      exact (Blk.new w3 _ _).kept h2 (by simp; omega))
  rw [hw3] at hr
  go_wp2_with (fail)
  refine hr.mono ?_
  clear hr
  rintro e w5 ⟨rfl, w4, ⟨kS4, hg4⟩, rfl⟩
  rw [← hw3] at hg4 ⊢
  clear hw3
  have k24 : Blk w4 (w.heap.size + 1) #[.int .i64 0, .int .i64 0] 41 := (k23.alloc (.cells #[.int .i64 0] 27)).kept hg4 (by simp; omega)
  have hb4 : RowKit.Below w.heap.size w w4 := (hb3.alloc hb3.size (.cells #[.int .i64 0] 27)).grown hg4 (by simp; omega) (fun k e => by cases e; omega)
  have hsz4 := hg4.size
  obtain ⟨w5, hw5⟩ : ∃ w5, w5 = w4.setCell ⟨w3.heap.size, 0, none⟩ (.int .i64 0) := ⟨_, rfl⟩
  rw [← hw5]
  have kS5 : Blk w5 w2.heap.size #[.int .i64 (sumFr xs).num, .int .i64 (sumFr xs).den] 179 := hw5 ▸ kS4.setCell_other (by omega) 0 _
  have k25 : Blk w5 (w.heap.size + 1) #[.int .i64 0, .int .i64 0] 41 := hw5 ▸ k24.setCell_other (by omega) 0 _
  have hb5 : RowKit.Below w.heap.size w w5 := hw5 ▸ hb4.setCell (p := ⟨w3.heap.size, 0, none⟩) (by simp; omega) _
  clear hw5 k24 kS4 k23 k13 k1 k2 kS
  have c5 := kS5.cell
  have c6 := k25.cell
  have f6 := k25.frozen
  generalize sumFr xs = sm at *
  go_wp2_with (fail)
  have hbl : Blk (w5.setCells (w.heap.size + 1) 0 (cF sm)) (w.heap.size + 1) (cF sm).toArray 41 := by
    have h := k25.setCells 0 (cF sm)
    have e : setAll #[.int .i64 0, .int .i64 0] 0 (cF sm) = (cF sm).toArray := by kernel_rfl
    rw [e] at h
    exact h
  (try simp only [Exit.inBlock, Exit.then])
  refine bodyPost_ret (results_cell_tmp rfl _ (w5.setCells (w.heap.size + 1) 0 (cF sm)) (w.heap.size + 1) 41 (cF sm) _ rfl hbl Tryz.underlying41 rfl (by kernel_rfl)) rfl ?_
  have hfin := below_setCells hb5 (show w.heap.size ≤ w.heap.size + 1 by omega) 0 (cF sm)
  exact ⟨rfl, hfin⟩

end Go.Proofs.YtkeppoiomjhkpaaGreatDoor

/-
  Plain: reading the words of a line.
-/
namespace Lg

/-- The record that words spell, as the reference reads them. -/
def parseS (ws : List Bs) : Sale :=
  if ws.getD 2 [] = voidL then { zeroSale with id := valL (ws.getD 0 []), known := valL (ws.getD 1 []), of_ := valL (ws.getD 3 []) }
  else { zeroSale with id := valL (ws.getD 0 []), known := valL (ws.getD 1 []), hour := valL (ws.getD 2 []), parcel := valL (ws.getD 4 []), price := valL (ws.getD 5 []), carter := valL (ws.getD 6 []), keeper := valL (ws.getD 7 []), since := valL (ws.getD 8 []) }
def parseR (ws : List Bs) : Rate :=
  if ws.getD 2 [] = voidL then { zeroRate with id := valL (ws.getD 0 []), known := valL (ws.getD 1 []), of_ := valL (ws.getD 3 []) }
  else { zeroRate with id := valL (ws.getD 0 []), known := valL (ws.getD 1 []), from_ := valL (ws.getD 3 []), goods := if ws.getD 4 [] = allL then ⟨#[]⟩ else ofL (ws.getD 4 []), finder := ⟨valL (ws.getD 5 []), valL (ws.getD 6 [])⟩, cart := valL (ws.getD 7 []), store := valL (ws.getD 8 []) }

theorem nm_void {n : Int} (h : 0 ≤ n) : nm n ≠ voidL := fun e => by
  have := nm_byte h 118 (by rw [e]; decide)
  revert this
  decide

theorem parseS_words {y : Sale} (h : saleOk y = true) (q : Nat) : parseS (wordsS y ++ List.replicate q []) = y := by
  obtain ⟨h1, h2, h3, h4, h5, h6, h7, h8, h9⟩ := saleOk_all h
  by_cases h0 : y.of_ = 0
  · have e : wordsS y = [nm y.id, nm y.known, nm y.hour, saleL, nm y.parcel, nm y.price, nm y.carter, nm y.keeper, nm y.since] := by unfold wordsS; rw [if_neg (by simpa using h0)]
    rw [e]
    unfold parseS
    simp only [List.getD_eq_getElem?_getD, List.cons_append, List.getElem?_cons_succ, List.getElem?_cons_zero, Option.getD_some]
    rw [if_neg (nm_void h4.1), valL_nm h1.1 (by omega), valL_nm h2.1 (by omega), valL_nm h4.1 (by omega), valL_nm h5.1 (by omega), valL_nm h6.1 (by omega), valL_nm h7.1 (by omega), valL_nm h8.1 (by omega), valL_nm h9.1 (by omega)]
    cases y
    simp only at h0
    subst h0
    rfl
  · have e : wordsS y = [nm y.id, nm y.known, voidL, nm y.of_] := by unfold wordsS; rw [if_pos h0]
    rw [e]
    unfold parseS
    simp only [List.getD_eq_getElem?_getD, List.cons_append, List.getElem?_cons_succ, List.getElem?_cons_zero, Option.getD_some]
    rw [if_pos trivial, valL_nm h1.1 (by omega), valL_nm h2.1 (by omega), valL_nm h3.1 (by omega)]
    exact (saleOk_void h h0).symm

theorem parseR_words {y : Rate} (h : rateOk y = true) (q : Nat) : parseR (wordsR y ++ List.replicate q []) = y := by
  obtain ⟨h1, h2, h3, h4, h5, h6, h7, h8, h9⟩ := rateOk_all h
  by_cases h0 : y.of_ = 0
  · have e : wordsR y = [nm y.id, nm y.known, rateL, nm y.from_, goodsL y.goods, nm y.finder.num, nm y.finder.den, nm y.cart, nm y.store] := by unfold wordsR; rw [if_neg (by simpa using h0)]
    rw [e]
    unfold parseR
    simp only [List.getD_eq_getElem?_getD, List.cons_append, List.getElem?_cons_succ, List.getElem?_cons_zero, Option.getD_some]
    have hg : (if goodsL y.goods = allL then (⟨#[]⟩ : ByteArray) else ofL (goodsL y.goods)) = y.goods := by
      have hgo := h9 h0
      unfold goodsL
      by_cases g : y.goods = ⟨#[]⟩
      · rw [if_pos g, if_pos rfl, g]
      · rw [if_neg g]
        have hne : y.goods.data.toList ≠ allL := fun e => by
          simp only [goodsOk, g, decide_false, Bool.false_or, Bool.and_eq_true, Bool.not_eq_true', decide_eq_false_iff_not] at hgo
          apply hgo.2
          apply ByteArray.ext
          apply Array.toList_inj.1
          rw [e]; rfl
        rw [if_neg hne]
    rw [if_neg (by decide), valL_nm h1.1 (by omega), valL_nm h2.1 (by omega), valL_nm h4.1 (by omega), hg, valL_nm h5.1 (by omega), valL_nm h6.1 (by omega), valL_nm h7.1 (by omega), valL_nm h8.1 (by omega)]
    obtain ⟨i1, i2, i3, i4, ⟨i5, i6⟩, i7, i8, i9⟩ := y
    simp only at h0
    subst h0
    rfl
  · have e : wordsR y = [nm y.id, nm y.known, voidL, nm y.of_] := by unfold wordsR; rw [if_pos h0]
    rw [e]
    unfold parseR
    simp only [List.getD_eq_getElem?_getD, List.cons_append, List.getElem?_cons_succ, List.getElem?_cons_zero, Option.getD_some]
    rw [if_pos trivial, valL_nm h1.1 (by omega), valL_nm h2.1 (by omega), valL_nm h3.1 (by omega)]
    exact (rateOk_void h h0).symm

/-- What the reference does with the record that the words spell. -/
theorem readsS_parse {line : ByteArray} {y : Sale} {er : Int} (h : ReadsS line y er) (ws : List Bs) (q : Nat) (hw : ws = cutL line.data.toList ++ List.replicate q []) :
    (saleOk (parseS ws) = true ∧ lineS (parseS ws) = line ∧ y = parseS ws ∧ er = 0) ∨ ((saleOk (parseS ws) = true → lineS (parseS ws) ≠ line) ∧ y = zeroSale ∧ er = 4) := by
  rcases h with ⟨rfl, h1, h2⟩ | ⟨rfl, rfl, h2⟩
  · have e : parseS ws = y := by rw [hw, ← h2, cutS h1, parseS_words h1]
    rw [e]
    exact .inl ⟨h1, h2, rfl, rfl⟩
  · exact .inr ⟨h2 _, rfl, rfl⟩
theorem readsR_parse {line : ByteArray} {y : Rate} {er : Int} (h : ReadsR line y er) (ws : List Bs) (q : Nat) (hw : ws = cutL line.data.toList ++ List.replicate q []) :
    (rateOk (parseR ws) = true ∧ lineR (parseR ws) = line ∧ y = parseR ws ∧ er = 0) ∨ ((rateOk (parseR ws) = true → lineR (parseR ws) ≠ line) ∧ y = zeroRate ∧ er = 4) := by
  rcases h with ⟨rfl, h1, h2⟩ | ⟨rfl, rfl, h2⟩
  · have e : parseR ws = y := by rw [hw, ← h2, cutR h1, parseR_words h1]
    rw [e]
    exact .inl ⟨h1, h2, rfl, rfl⟩
  · exact .inr ⟨h2 _, rfl, rfl⟩

end Lg
