import Derived.Test.YtkeppoiomjhkpaaGreatDoorPart02
import Derived.Test.YtkeppoiomjhkpaaGreatDoorPart06
import Derived.Test.YtkeppoiomjhkpaaGreatDoorPart11
import Derived.Deep.RegionHeld3
import Derived.Deep.CutRange
import Derived.Deep.DeepCutAuto
import Derived.Deep.AppendLies
import Derived.BigQuiet
import Derived.Test.YtkeppoiomjhkpaaGreatDoorPart09
import Derived.Test.YtkeppoiomjhkpaaGreatDoorPart01
/-
  Walks: the reference's WriteSale.
-/
namespace Go.Proofs.YtkeppoiomjhkpaaGreatDoor
open Go.RowKit Lg Go.Sort Go.Shelf

theorem Lst.ofI {W : World} {B : Nat} {t : TypeId} (xs : List Int) (hl : xs.length ≤ 20) (k : Blk W B (xs.map (Value.int .i64)).toArray t) : Lst W 1 cI (some ⟨B, 0, none⟩) xs.length xs.length xs :=
  ⟨rfl, Nat.le_refl _, by unfold maxLen; omega, fun i y hx => by
    refine ⟨B, 0, rfl, k.lt, fun j u hu => ?_⟩
    have hj : j = 0 := by have := (List.getElem?_eq_some_iff.1 hu).1; simp at this; omega
    subst hj
    simp only [cI, List.getElem?_cons_zero, Option.some.injEq] at hu
    rw [show 0 + i * 1 + 0 = i by omega, k.cell i, List.getElem?_toArray, List.getElem?_map, hx, ← hu]; rfl⟩

theorem Blk.new1 (W : World) (o : Obj) (t : TypeId) (cs : Array Value) : Blk ((W.alloc o).alloc (.cells cs t)) (W.heap.size + 1) cs t := by
  have := Blk.new (W.alloc o) t cs
  simpa using this
theorem Blk.new2 (W : World) (o p : Obj) (t : TypeId) (cs : Array Value) : Blk (((W.alloc o).alloc p).alloc (.cells cs t)) (W.heap.size + 1 + 1) cs t := by
  have := Blk.new ((W.alloc o).alloc p) t cs
  simpa using this
theorem Blk.new3 (W : World) (o p q : Obj) (t : TypeId) (cs : Array Value) : Blk ((((W.alloc o).alloc p).alloc q).alloc (.cells cs t)) (W.heap.size + 1 + 1 + 1) cs t := by
  have := Blk.new (((W.alloc o).alloc p).alloc q) t cs
  simpa using this

/-- Words behind blanks. -/
def tailL : List Bs → Bs
  | [] => []
  | w :: r => 32 :: w ++ tailL r

theorem lineL_cons (x : Bs) (r : List Bs) : lineL (x :: r) = x ++ tailL r := by
  induction r generalizing x with
  | nil => simp [lineL, tailL]
  | cons y r ih => rw [lineL, ih, tailL]; simp

theorem numsL_tail (l : List Int) : numsL l = tailL (l.map nm) := by
  induction l with
  | nil => rfl
  | cons n r ih => simp [numsL, tailL, ih]

theorem add_ok {a b c : Bs} (h : c = a ++ b) (ha : a.length ≤ 1000) (hb : b.length ≤ 1000) (W : World) : (Op.stringOp .add (ofL a) (ofL b)).run Tryz.prog W = .ok (.string (ofL c)) W := by
  rw [run_string_add_sum (P := Tryz.prog) W (ofL a) (ofL b) (by rw [ofL_size, ofL_size]; omega), ofL_append, h]

set_option maxRecDepth 100000 in
set_option maxHeartbeats 6400000 in
theorem writeSaleR_any (x : Sale) (w : World) : Calls Tryz.prog 12 #[aS x] w (Gives w (.tuple #[.string (writeS x).1, .int .i64 (writeS x).2])) := by
  have hc := fun W => checkSaleR_any x W
  have hB0 : RowKit.Below w.heap.size w (w.alloc (.cells #[.int .i64 x.id, .int .i64 x.known, .int .i64 x.hour, .int .i64 x.parcel, .int .i64 x.price, .int .i64 x.carter, .int .i64 x.keeper, .int .i64 x.since, .int .i64 x.of_] 24)) := (Below.refl _ w).alloc (Nat.le_refl _) _
  have k0 := Blk.new w 24 #[.int .i64 x.id, .int .i64 x.known, .int .i64 x.hour, .int .i64 x.parcel, .int .i64 x.price, .int .i64 x.carter, .int .i64 x.keeper, .int .i64 x.since, .int .i64 x.of_]
  cases ho : saleOk x with
  | false =>
    rw [ho] at hc
    have hw : writeS x = (⟨#[]⟩, 1) := by unfold writeS; rw [ho]; rfl
    rw [hw]
    clear hw ho k0
    go_enter Tryz.func12, Tryz.ntmps12
    go_wp2_with (fail)
    refine (hc _).mono ?_
    rintro e w1 ⟨rfl, hB1⟩
    go_wp2_with (fail)
    go_ret2
    exact ⟨rfl, hB0.trans (hB1.mono hB0.size)⟩
  | true =>
    rw [ho] at hc
    have hw : writeS x = (lineS x, 0) := by unfold writeS; rw [ho]; rfl
    rw [hw]
    clear hw
    obtain ⟨⟨a1, b1⟩, ⟨a2, b2⟩, ⟨a3, b3⟩, ⟨a4, b4⟩, ⟨a5, b5⟩, ⟨a6, b6⟩, ⟨a7, b7⟩, ⟨a8, b8⟩, ⟨a9, b9⟩⟩ := saleOk_all ho
    clear ho
    obtain ⟨ln, hln⟩ : ∃ ln, ln = lineS x := ⟨_, rfl⟩
    rw [← hln]
    have l1 := nm_len a1 (by omega)
    have l2 := numsL_len [x.known] (by simp; omega)
    have l3 := numsL_len [x.of_] (by simp; omega)
    have l4 := numsL_len [x.hour] (by simp; omega)
    have l5 := numsL_len [x.parcel, x.price, x.carter, x.keeper, x.since] (by simp; omega)
    simp only [List.length_cons, List.length_nil] at l2 l3 l4 l5
    have A1 := add_ok (a := nm x.id) (b := numsL [x.known]) rfl (by omega) (by omega)
    have A2 := add_ok (a := nm x.id ++ numsL [x.known]) (b := [32, 118, 111, 105, 100]) rfl (by rw [List.length_append]; omega) (by decide)
    have A4 := add_ok (a := nm x.id ++ numsL [x.known]) (b := numsL [x.hour]) rfl (by rw [List.length_append]; omega) (by omega)
    have A5 := add_ok (a := nm x.id ++ numsL [x.known] ++ numsL [x.hour]) (b := [32, 115, 97, 108, 101]) rfl (by rw [List.length_append, List.length_append]; omega) (by decide)
    have A3 : x.of_ ≠ 0 → ∀ W, (Op.stringOp .add (ofL (nm x.id ++ numsL [x.known] ++ [32, 118, 111, 105, 100])) (ofL (numsL [x.of_]))).run Tryz.prog W = .ok (.string ln) W := fun h0 => by
      have e : ln = ofL (nm x.id ++ numsL [x.known] ++ [32, 118, 111, 105, 100] ++ numsL [x.of_]) := by
        rw [hln, lineS, wordsS, if_pos h0, lineL_cons]
        simp [tailL, numsL, voidL]
      rw [e]
      exact add_ok rfl (by rw [List.length_append, List.length_append]; simp; omega) (by omega)
    have A6 : x.of_ = 0 → ∀ W, (Op.stringOp .add (ofL (nm x.id ++ numsL [x.known] ++ numsL [x.hour] ++ [32, 115, 97, 108, 101])) (ofL (numsL [x.parcel, x.price, x.carter, x.keeper, x.since]))).run Tryz.prog W = .ok (.string ln) W := fun h0 => by
      have e : ln = ofL (nm x.id ++ numsL [x.known] ++ numsL [x.hour] ++ [32, 115, 97, 108, 101] ++ numsL [x.parcel, x.price, x.carter, x.keeper, x.since]) := by
        rw [hln, lineS, wordsS, if_neg (by simpa using h0), lineL_cons]
        simp [tailL, numsL, saleL]
      rw [e]
      exact add_ok rfl (by rw [List.length_append, List.length_append, List.length_append]; simp; omega) (by omega)
    clear hln l1 l2 l3 l4 l5
    obtain ⟨d0, hd0⟩ : ∃ d0, d0 = ofL (nm x.id) := ⟨_, rfl⟩
    obtain ⟨n1, hn1⟩ : ∃ n1, n1 = ofL (numsL [x.known]) := ⟨_, rfl⟩
    obtain ⟨nv, hnv⟩ : ∃ nv, nv = ofL (numsL [x.of_]) := ⟨_, rfl⟩
    obtain ⟨nh, hnh⟩ : ∃ nh, nh = ofL (numsL [x.hour]) := ⟨_, rfl⟩
    obtain ⟨n5, hn5⟩ : ∃ n5, n5 = ofL (numsL [x.parcel, x.price, x.carter, x.keeper, x.since]) := ⟨_, rfl⟩
    have HD := fun W (q : World) (hq : RowKit.Below q.heap.size q W) => (digits_any 11 x.id W a1 (by omega) (by omega)).mono fun e w' (h : Gives W _ e w') => (⟨h.1, h.2, hq.trans (h.2.mono hq.size)⟩ : e = _ ∧ RowKit.Below W.heap.size W w' ∧ RowKit.Below q.heap.size q w')
    have HN := fun (xs : List Int) (hl : xs.length ≤ 10) (hx : ∀ y ∈ xs, 0 ≤ y ∧ y < 1000000000000) (q W : World) (B : Nat) (hq : RowKit.Below q.heap.size q W) (k : Blk W B (xs.map (Value.int .i64)).toArray 3) => (numbers_any (some ⟨B, 0, none⟩) xs.length xs.length xs W hl hx (Lst.ofI xs (by omega) k)).mono fun e w' (h : Gives W _ e w') => (⟨h.1, h.2, hq.trans (h.2.mono hq.size)⟩ : e = _ ∧ RowKit.Below W.heap.size W w' ∧ RowKit.Below q.heap.size q w')
    have HN1 := HN [x.known] (by simp) (by simp; omega)
    have HNv := HN [x.of_] (by simp) (by simp; omega)
    have HNh := HN [x.hour] (by simp) (by simp; omega)
    have HN5 := HN [x.parcel, x.price, x.carter, x.keeper, x.since] (by simp) (by simp; omega)
    rw [← hd0] at HD A1
    rw [← hn1] at HN1 A1
    rw [← hnv] at HNv A3
    rw [← hnh] at HNh A4
    rw [← hn5] at HN5 A6
    generalize ofL (nm x.id ++ numsL [x.known]) = s1 at *
    generalize ofL (nm x.id ++ numsL [x.known] ++ [32, 118, 111, 105, 100]) = s2 at *
    generalize ofL (nm x.id ++ numsL [x.known] ++ numsL [x.hour]) = s3 at *
    generalize ofL (nm x.id ++ numsL [x.known] ++ numsL [x.hour] ++ [32, 115, 97, 108, 101]) = s4 at *
    simp only [List.map_cons, List.map_nil, List.length_cons, List.length_nil] at HN1 HNv HNh HN5
    have HD := Lib.hid HD
    have HN1 := Lib.hid HN1
    have HNv := Lib.hid HNv
    have HNh := Lib.hid HNh
    have HN5 := Lib.hid HN5
    clear HN hd0 hn1 hnv hnh hn5 a1 b1 a2 b2 a3 b3 a4 b4 a5 b5 a6 b6 a7 b7 a8 b8 a9 b9
    have A3 := Lib.hid A3
    have A6 := Lib.hid A6
    have A2 := Lib.hid A2
    have A4 := Lib.hid A4
    have A5 := Lib.hid A5
    go_enter Tryz.func12, Tryz.ntmps12
    go_wp2_with (fail)
    refine (hc _).mono ?_
    clear hc
    rintro e w1 ⟨rfl, hB1⟩
    have k1 := k0.below' hB1
    clear k0
    have hB1 := hB0.trans (hB1.mono hB0.size)
    clear hB0
    obtain ⟨bx, hbx⟩ : ∃ bx, bx = w.heap.size := ⟨_, rfl⟩
    rw [← hbx] at k1 ⊢
    clear hbx
    have HC := Lib.hid (fun W (h : RowKit.Below w1.heap.size w1 W) => (k1.below' h).cell)
    have HS : ∀ W, RowKit.Below w1.heap.size w1 W → W.cell? ⟨bx, 0, none⟩ = some (.int .i64 x.id) ∧ W.cell? ⟨bx, 1, none⟩ = some (.int .i64 x.known) := fun W h => ⟨HC.out W h 0, HC.out W h 1⟩
    have HS := Lib.hid HS
    clear k1
    go_upto_region 4 with fail
    go_cut [5] (fun c5 W => c5 = .string s1 ∧ RowKit.Below w1.heap.size w1 W)
    case first =>
      go_region_held3 (fun w' => w'.cell? ⟨bx, 0, none⟩ = some (.int .i64 x.id) ∧ w'.cell? ⟨bx, 1, none⟩ = some (.int .i64 x.known))
        (((with_reducible refine HS.out _ ?_); repeat (first | (with_reducible assumption) | (with_reducible exact Below.refl _ _) | (with_reducible refine Below.alloc ?_ ?_ _) | (with_reducible refine Below.setCell ?_ ?_ _) | (with_reducible refine Below.drew ?_) | omega | (simp <;> omega) | (dsimp only; omega))))
        (first
          | (go_at_call 48; (with_reducible refine (HD.out _ w1 (by repeat (first | (with_reducible assumption) | (with_reducible exact Below.refl _ _) | (with_reducible refine Below.alloc ?_ ?_ _) | (with_reducible refine Below.setCell ?_ ?_ _) | (with_reducible refine Below.drew ?_) | omega | (simp <;> omega) | (dsimp only; omega)))).mono ?_); rintro e w3 ⟨rfl, hBd, hbd⟩; have hsd := hbd.size)
          | (go_at_call 49; (with_reducible refine (HN1.out w1 _ _ (by repeat (first | (with_reducible assumption) | (with_reducible exact Below.refl _ _) | (with_reducible refine Below.alloc ?_ ?_ _) | (with_reducible refine Below.setCell ?_ ?_ _) | (with_reducible refine Below.drew ?_) | omega | (simp <;> omega) | (dsimp only; omega))) (by repeat (first | (with_reducible assumption) | (with_reducible exact Blk.new _ _ _) | (with_reducible exact Blk.new1 _ _ _ _) | (with_reducible exact Blk.new2 _ _ _ _ _) | (with_reducible exact Blk.new3 _ _ _ _ _ _) | (with_reducible refine Blk.alloc ?_ _) | (with_reducible refine Blk.drew ?_) | (with_reducible refine Blk.below' ?_ hBd) | (with_reducible refine Blk.below' ?_ hBa) | (with_reducible refine Blk.below' ?_ hBb)))).mono ?_); rintro e w4 ⟨rfl, hBa, hba⟩; have hsa := hba.size)
          | fail)
      all_goals
        go_wp2_with fail
        go_meet
        exact ⟨rfl, by repeat (first | (with_reducible assumption) | (with_reducible exact Below.refl _ _) | (with_reducible refine Below.alloc ?_ ?_ _) | (with_reducible refine Below.setCell ?_ ?_ _) | (with_reducible refine Below.drew ?_) | omega | (simp <;> omega) | (dsimp only; omega))⟩
    case rest =>
      obtain ⟨rfl, hC⟩ := hcut
      obtain ⟨w8, hw8⟩ : ∃ w8, w8 = wc := ⟨_, rfl⟩
      rw [← hw8] at hC ⊢
      clear hw8 HS HN1 HD
      have hC0 := hB1.trans (hC.mono hB1.size)
      have HC8 := Lib.hid (fun W (h : RowKit.Below w8.heap.size w8 W) => HC.out W (hC.trans (h.mono hC.size)))
      clear HC
      have c8 : w8.cell? ⟨bx, 8, none⟩ = some (.int .i64 x.of_) := HC8.out _ (Below.refl _ _) 8
      by_cases h0 : x.of_ = 0
      · have hz : (x.of_ != 0) = false := by simpa using h0
        have A6 := A6.out h0
        have A4 := A4.out
        have A5 := A5.out
        have H0 := Lib.hid h0
        clear h0 A3 A2 HNv
        have HS : ∀ W, RowKit.Below w8.heap.size w8 W → W.cell? ⟨bx, 2, none⟩ = some (.int .i64 x.hour) ∧ W.cell? ⟨bx, 3, none⟩ = some (.int .i64 x.parcel) ∧ W.cell? ⟨bx, 4, none⟩ = some (.int .i64 x.price) ∧ W.cell? ⟨bx, 5, none⟩ = some (.int .i64 x.carter) ∧ W.cell? ⟨bx, 6, none⟩ = some (.int .i64 x.keeper) ∧ W.cell? ⟨bx, 7, none⟩ = some (.int .i64 x.since) := fun W h => ⟨HC8.out W h 2, HC8.out W h 3, HC8.out W h 4, HC8.out W h 5, HC8.out W h 6, HC8.out W h 7⟩
        have HS := Lib.hid HS
        clear HC8
        go_upto_region 7 with fail
        clear c8
        go_region_held3 (fun w' => w'.cell? ⟨bx, 2, none⟩ = some (.int .i64 x.hour) ∧ w'.cell? ⟨bx, 3, none⟩ = some (.int .i64 x.parcel) ∧ w'.cell? ⟨bx, 4, none⟩ = some (.int .i64 x.price) ∧ w'.cell? ⟨bx, 5, none⟩ = some (.int .i64 x.carter) ∧ w'.cell? ⟨bx, 6, none⟩ = some (.int .i64 x.keeper) ∧ w'.cell? ⟨bx, 7, none⟩ = some (.int .i64 x.since))
          (((with_reducible refine HS.out _ ?_); repeat (first | (with_reducible assumption) | (with_reducible exact Below.refl _ _) | (with_reducible refine Below.alloc ?_ ?_ _) | (with_reducible refine Below.setCell ?_ ?_ _) | (with_reducible refine Below.drew ?_) | omega | (simp <;> omega) | (dsimp only; omega))))
          (first
            | (go_at_call 49; (with_reducible refine (HNh.out w8 _ _ (by repeat (first | (with_reducible assumption) | (with_reducible exact Below.refl _ _) | (with_reducible refine Below.alloc ?_ ?_ _) | (with_reducible refine Below.setCell ?_ ?_ _) | (with_reducible refine Below.drew ?_) | omega | (simp <;> omega) | (dsimp only; omega))) (by repeat (first | (with_reducible assumption) | (with_reducible exact Blk.new _ _ _) | (with_reducible exact Blk.new1 _ _ _ _) | (with_reducible exact Blk.new2 _ _ _ _ _) | (with_reducible exact Blk.new3 _ _ _ _ _ _) | (with_reducible refine Blk.alloc ?_ _) | (with_reducible refine Blk.drew ?_) | (with_reducible refine Blk.below' ?_ hBd) | (with_reducible refine Blk.below' ?_ hBa) | (with_reducible refine Blk.below' ?_ hBb)))).mono ?_); rintro e w3 ⟨rfl, hBa, hba⟩; have hsa := hba.size)
            | (go_at_call 49; (with_reducible refine (HN5.out w8 _ _ (by repeat (first | (with_reducible assumption) | (with_reducible exact Below.refl _ _) | (with_reducible refine Below.alloc ?_ ?_ _) | (with_reducible refine Below.setCell ?_ ?_ _) | (with_reducible refine Below.drew ?_) | omega | (simp <;> omega) | (dsimp only; omega))) (by repeat (first | (with_reducible assumption) | (with_reducible exact Blk.new _ _ _) | (with_reducible exact Blk.new1 _ _ _ _) | (with_reducible exact Blk.new2 _ _ _ _ _) | (with_reducible exact Blk.new3 _ _ _ _ _ _) | (with_reducible refine Blk.alloc ?_ _) | (with_reducible refine Blk.drew ?_) | (with_reducible refine Blk.below' ?_ hBd) | (with_reducible refine Blk.below' ?_ hBa) | (with_reducible refine Blk.below' ?_ hBb)))).mono ?_); rintro e w4 ⟨rfl, hBb, hbb⟩; have hsb := hbb.size)
            | fail)
        all_goals
          go_wp2_with fail
          go_ret2
          exact ⟨rfl, hC0.trans (RowKit.Below.mono (by repeat (first | (with_reducible assumption) | (with_reducible exact Below.refl _ _) | (with_reducible refine Below.alloc ?_ ?_ _) | (with_reducible refine Below.setCell ?_ ?_ _) | (with_reducible refine Below.drew ?_) | omega | (simp <;> omega) | (dsimp only; omega))) hC0.size)⟩
      · have hz : (x.of_ != 0) = true := by simpa using h0
        have A3 := A3.out h0
        have A2 := A2.out
        have H0 := Lib.hid h0
        clear h0 A6 A4 A5 HNh HN5 HC8
        go_wp2_with (first
          | (go_at_call 49; (with_reducible refine (HNv.out w8 _ _ (by repeat (first | (with_reducible assumption) | (with_reducible exact Below.refl _ _) | (with_reducible refine Below.alloc ?_ ?_ _) | (with_reducible refine Below.setCell ?_ ?_ _) | (with_reducible refine Below.drew ?_) | omega | (simp <;> omega) | (dsimp only; omega))) (by repeat (first | (with_reducible assumption) | (with_reducible exact Blk.new _ _ _) | (with_reducible exact Blk.new1 _ _ _ _) | (with_reducible exact Blk.new2 _ _ _ _ _) | (with_reducible exact Blk.new3 _ _ _ _ _ _) | (with_reducible refine Blk.alloc ?_ _) | (with_reducible refine Blk.drew ?_) | (with_reducible refine Blk.below' ?_ hBd) | (with_reducible refine Blk.below' ?_ hBa) | (with_reducible refine Blk.below' ?_ hBb)))).mono ?_); rintro e w3 ⟨rfl, hBa, hba⟩; have hsa := hba.size)
          | fail)
        go_ret2
        exact ⟨rfl, hC0.trans (hba.mono hC0.size)⟩

end Go.Proofs.YtkeppoiomjhkpaaGreatDoor

/-
  Walks: which shares can be merged; the change between two lists.
-/
namespace Go.Proofs.YtkeppoiomjhkpaaGreatDoor
open Go.RowKit Lg Go.Sort Go.Shelf Go.Maps

set_option maxRecDepth 100000 in
set_option maxHeartbeats 400000 in
theorem bad_any (x : Share) (w : World) : Calls Tryz.prog 111 #[aSh x] w (Gives w (.bool (badShare x))) := by
  have h1 := fun W => in6_any x.party 0 40 W
  have h2 := fun W => in6_any x.pence (-1000000000) 1000000000 W
  have hbx : badShare x = (!inn x.party 0 40 || !inn x.pence (-1000000000) 1000000000) := rfl
  rw [hbx]
  clear hbx
  generalize inn x.party 0 40 = q1 at *
  generalize inn x.pence (-1000000000) 1000000000 = q2 at *
  cases q1 with
  | false =>
    go_enter Tryz.func111, Tryz.ntmps111
    go_wp2_with (go_at_call 55; refine (h1 _).mono ?_; rintro e w3 ⟨rfl, rfl⟩)
    go_ret
    exact ⟨rfl, (Below.refl _ w).alloc (Nat.le_refl _) _⟩
  | true =>
    cases q2 <;>
    · go_enter Tryz.func111, Tryz.ntmps111
      go_wp2_with (fail)
      refine (h1 _).mono ?_
      rintro e w3 ⟨rfl, rfl⟩
      go_wp2_with (fail)
      refine (h2 _).mono ?_
      rintro e w3 ⟨rfl, rfl⟩
      go_wp2_with (fail)
      go_ret
      exact ⟨rfl, (Below.refl _ w).alloc (Nat.le_refl _) _⟩

set_option maxRecDepth 100000 in
set_option maxHeartbeats 400000 in
theorem mergeable_any (a : Option Addr) (n cap : Nat) (xs : List Share) (w : World) (hL : Lst w 2 cSh a n cap xs) :
    Calls Tryz.prog 76 #[.slice a n cap] w (Gives w (.int .i64 (mergeableOf xs))) := by
  have eg : ∀ args w, (callFunc 111 args).run Tryz.prog w = .ok (.enter 111 args) w := enters_of Tryz.func111 (by kernel_rfl) rfl
  have hc := contSh_any badShare 111 #[] eg a n cap xs w hL (fun W x _ => bad_any x W)
  unfold mergeableOf
  rw [hL.len]
  generalize xs.any badShare = q at *
  by_cases h1 : 1000 < n
  · rw [if_pos h1]
    go_enter Tryz.func76, Tryz.ntmps76
    go_wp2_with (fail)
    go_ret
    exact ⟨rfl, Below.refl _ _⟩
  · rw [if_neg h1]
    cases q <;>
    · go_enter Tryz.func76, Tryz.ntmps76
      go_wp2_with (go_at_call 110; refine hc.mono ?_; rintro e w3 ⟨rfl, hB⟩)
      go_ret
      exact ⟨rfl, hB⟩

def GivesC (w : World) (l m : List Share) (e : Ending) (w' : World) : Prop :=
  RowKit.Below w.heap.size w w' ∧ if changeErr l m = 0 then
    ∃ v ys, e = .returned (.tuple #[v, .int .i64 0]) ∧ ListOf (fun p => sumP m p - sumP l p) ys ∧ w'.ownsRow w.heap.size 76 2 v ys.length (ys.flatMap cSh)
  else e = .returned (.tuple #[.slice none 0 0, .int .i64 (changeErr l m)])

set_option maxRecDepth 100000 in
set_option maxHeartbeats 1600000 in
theorem change_any (a : Option Addr) (n cap : Nat) (xs : List Share) (b : Option Addr) (m capB : Nat) (zs : List Share) (w : World) (hL : Lst w 2 cSh a n cap xs) (hM : Lst w 2 cSh b m capB zs) :
    Calls Tryz.prog 38 #[.slice a n cap, .slice b m capB] w (GivesC w xs zs) := by
  have h1 := fun W hW => mergeable_any a n cap xs W hW
  have h2 := fun W hW => mergeable_any b m capB zs W hW
  have hmm := @run_makeMap Tryz.prog
  obtain ⟨e1, he1⟩ : ∃ e, e = mergeableOf xs := ⟨_, rfl⟩
  obtain ⟨e2, he2⟩ : ∃ e, e = mergeableOf zs := ⟨_, rfl⟩
  rw [← he1] at h1
  rw [← he2] at h2
  have hce : changeErr xs zs = if e1 = 0 then e2 else e1 := by rw [he1, he2]; rfl
  have He1 := Lib.hid he1
  have He2 := Lib.hid he2
  have Hce := Lib.hid hce
  clear he1 he2 hce
  have hB1 : RowKit.Below w.heap.size w (w.alloc (.cells #[.slice a n cap, .slice b m capB] 59)) := (Below.refl _ w).alloc (Nat.le_refl _) _
  have k1 := Blk.new w 59 #[.slice a n cap, .slice b m capB]
  go_enter Tryz.func38, Tryz.ntmps38
  go_wp2_with (fail)
  go_loopw [13] (fun i wr => ∃ k : Nat, k ≤ 2 ∧ i = .int .i64 k ∧ Blk wr w.heap.size #[.slice a n cap, .slice b m capB] 59 ∧ RowKit.Below w.heap.size w wr ∧ (1 ≤ k → e1 = 0) ∧ (2 ≤ k → e2 = 0)) (fun i _ => 2 - (intOf i).toNat)
  case atStart => exact ⟨0, by omega, rfl, k1, hB1, fun h => by omega, fun h => by omega⟩
  case round =>
    obtain ⟨k, hk, rfl, kr, hBr, hk1, hk2⟩ := hrel
    have cr := kr.cell
    have hkc : k = 0 ∨ k = 1 ∨ k = 2 := by omega
    rcases hkc with rfl | rfl | rfl
    · clear hk1 hk2
      go_wp2_with (fail)
      refine (h1 wr (hL.below hBr)).mono ?_
      rintro e w2 ⟨rfl, hB2⟩
      have k2 := kr.below' hB2
      have hb2 := hBr.trans (hB2.mono hBr.size)
      by_cases hz : e1 = 0
      · subst hz
        go_wp2_with (fail)
        go_roundw
        case rel => exact ⟨1, by omega, by go_num, k2, hb2, (fun _ => by first | trivial | rfl), fun h => by omega⟩
        case measure => simp [intOf]
      · have g0 : (e1 != 0) = true := by simpa using hz
        have Hz := Lib.hid hz; clear hz
        go_wp2_with (fail)
        go_ret2
        refine ⟨hb2, ?_⟩
        have h := Hce.out
        rw [if_neg Hz.out] at h
        rw [if_neg (by rw [h]; exact Hz.out), h]
        rfl
    · have h0 := hk1 (by omega)
      subst h0
      clear hk1 hk2
      go_wp2_with (fail)
      refine (h2 wr (hM.below hBr)).mono ?_
      rintro e w2 ⟨rfl, hB2⟩
      have k2 := kr.below' hB2
      have hb2 := hBr.trans (hB2.mono hBr.size)
      by_cases hz : e2 = 0
      · subst hz
        go_wp2_with (fail)
        go_roundw
        case rel => exact ⟨2, by omega, by go_num, k2, hb2, (fun _ => by first | trivial | rfl), (fun _ => by first | trivial | rfl)⟩
        case measure => simp [intOf]
      · have g0 : (e2 != 0) = true := by simpa using hz
        have Hz := Lib.hid hz; clear hz
        go_wp2_with (fail)
        go_ret2
        refine ⟨hb2, ?_⟩
        have h := Hce.out
        simp only [if_true] at h
        rw [if_neg (by rw [h]; exact Hz.out), h]
        rfl
    · have h0 := hk1 (by omega)
      subst h0
      have h3 := hk2 (by omega)
      subst h3
      clear hk1 hk2 h1 h2
      obtain ⟨hl1, hx1⟩ := mergeable_ok He1.out.symm
      obtain ⟨hl2, hx2⟩ := mergeable_ok He2.out.symm
      rw [hL.len] at hl1
      rw [hM.len] at hl2
      have hs1 := sumsN_any a n cap xs wr.heap.size 0 (fun _ => 0) (wr.alloc (.map #[] 0)) (by omega) (by omega) (OwnM.made wr) (fun W' h => hL.below (hBr.trans ((((Below.refl _ wr).alloc (Nat.le_refl _) _).trans h).mono hBr.size))) hx1 (fun _ => by omega)
      go_wp2_with (fail)
      refine hs1.mono ?_
      clear hs1
      rintro e w2 ⟨rfl, ho2, hB2⟩
      have hB2' : RowKit.Below wr.heap.size wr w2 := ((Below.refl _ wr).alloc (Nat.le_refl _) _).trans hB2
      have hsb := fun p => sumP_bound xs p 1000000000 (by omega) (fun y hy => (hx1 y hy).2.2)
      have hs2 := sums1_any b m capB zs wr.heap.size (0 + n) _ w2 (by omega) (by omega) ho2 (fun W' h => hM.below (hBr.trans ((hB2'.trans h).mono hBr.size))) hx2 (fun p => by have := hsb p; have := hL.len; omega)
      go_wp2_with (fail)
      refine hs2.mono ?_
      clear hs2
      rintro e w3 ⟨rfl, ho3, hB3⟩
      have hB3' := hB2'.trans hB3
      go_wp2_with (fail)
      refine (listed_any wr.heap.size (0 + n + m) _ w3 (by omega) ho3).mono ?_
      rintro e w4 ⟨v, ys, rfl, hf, hown, hb4⟩
      go_wp2_with (fail)
      go_ret2
      have hb3 := hBr.trans (hB3'.mono hBr.size)
      refine ⟨hb3.trans (hb4.mono hb3.size), ?_⟩
      have h := Hce.out
      simp only [if_true] at h
      rw [if_pos h]
      refine ⟨v, ys, rfl, ?_, ownsRow_base_a hown hb3.size⟩
      have e : (fun p => sumP zs p - sumP xs p) = fun p => 0 + -1 * sumP xs p + 1 * sumP zs p := funext fun p => by omega
      rw [e]
      exact hf

end Go.Proofs.YtkeppoiomjhkpaaGreatDoor

/-
  Plain laws: equal parts add up; sums of shares; more money; the change between two lists.
-/
namespace Lg
open Go

/-! ### Equal parts -/
theorem eqVal_floor {m : Int} {n i : Nat} (h : 0 ≤ m) (hi : i < n) : eqVal m n i = (m + (n : Int) - 1 - i) / n := by
  have hn : (0 : Int) < n := by omega
  have h1 := Int.emod_nonneg m (show (n : Int) ≠ 0 by omega)
  have h2 := Int.emod_lt_of_pos m hn
  have h3 := Int.mul_ediv_add_emod m n
  unfold eqVal
  rw [Int.tdiv_eq_ediv_of_nonneg h]
  generalize m / (n : Int) = q at *
  generalize m % (n : Int) = r at *
  have e : m + (n : Int) - 1 - i = (r + n - 1 - i) + q * n := by rw [Int.mul_comm q n]; omega
  rw [e, Int.add_mul_ediv_right _ _ (by omega)]
  by_cases c : (i : Int) < r
  · rw [if_pos c]
    have : (r + n - 1 - i) / (n : Int) = 1 := by
      have e2 : r + (n : Int) - 1 - i = (r - 1 - i) + 1 * n := by omega
      rw [e2, Int.add_mul_ediv_right _ _ (by omega), Int.ediv_eq_zero_of_lt (by omega) (by omega)]; omega
    omega
  · rw [if_neg c]
    have : (r + n - 1 - i) / (n : Int) = 0 := Int.ediv_eq_zero_of_lt (by omega) (by omega)
    omega

theorem eqVal_mono {m m' : Int} {n i : Nat} (h : 0 ≤ m) (hm : m ≤ m') (hi : i < n) : eqVal m n i ≤ eqVal m' n i := by
  rw [eqVal_floor h hi, eqVal_floor (by omega) hi]
  exact Int.ediv_le_ediv (by omega) (by omega)

/-- The sum of the first k equal parts. -/
def eqSum (m : Int) (n : Nat) : Nat → Int
  | 0 => 0
  | k + 1 => eqSum m n k + eqVal m n k

theorem eqSum_eq (m : Int) (n k : Nat) (h : 0 ≤ m) (hn : 0 < n) : eqSum m n k = k * (m / (n : Int)) + min (k : Int) (m % (n : Int)) := by
  have h1 := Int.emod_nonneg m (show (n : Int) ≠ 0 by omega)
  induction k with
  | zero => simp [eqSum]; omega
  | succ k ih =>
    rw [eqSum, ih]
    unfold eqVal
    rw [Int.tdiv_eq_ediv_of_nonneg h]
    generalize m / (n : Int) = q at *
    generalize m % (n : Int) = r at *
    rw [Int.natCast_add, Int.add_mul, Int.natCast_one, Int.one_mul]
    split <;> omega

theorem eqSum_all (m : Int) (n : Nat) (h : 0 ≤ m) (hn : 0 < n) : eqSum m n n = m := by
  have h2 := Int.emod_lt_of_pos m (show (0 : Int) < n by omega)
  have h3 := Int.mul_ediv_add_emod m n
  rw [eqSum_eq m n n h hn]
  omega

theorem eqSum_bound (m : Int) (n k : Nat) (h : 0 ≤ m) (hn : 0 < n) (hk : k ≤ n) : 0 ≤ eqSum m n k ∧ eqSum m n k ≤ m := by
  have key : ∀ j, j ≤ k → eqSum m n j ≤ eqSum m n k ∧ 0 ≤ eqSum m n j := by
    intro j hj
    obtain ⟨d, rfl⟩ := Nat.exists_eq_add_of_le hj
    clear hj hk
    constructor
    · induction d with
      | zero => exact Int.le_refl _
      | succ d ih => rw [Nat.add_succ, eqSum]; have := (eqVal_bounds (i := j + d) h hn).1; omega
    · clear d
      induction j with
      | zero => simp [eqSum]
      | succ j ih => rw [eqSum]; have := (eqVal_bounds (i := j) h hn).1; omega
  refine ⟨(key k (Nat.le_refl _)).2, ?_⟩
  have h2 : ∀ d, eqSum m n k ≤ eqSum m n (k + d) := fun d => by
    induction d with
    | zero => exact Int.le_refl _
    | succ d ih => rw [Nat.add_succ, eqSum]; have := (eqVal_bounds (i := k + d) h hn).1; omega
  have := h2 (n - k)
  rw [Nat.add_sub_cancel' hk, eqSum_all m n h hn] at this
  exact this

theorem eqVal_order {m : Int} {n i : Nat} (h : 0 ≤ m) (hn : 0 < n) : eqVal m n i ≤ eqVal m n 0 ∧ eqVal m n 0 - eqVal m n i ≤ 1 ∧ eqVal m n (i + 1) ≤ eqVal m n i := by
  have h1 := Int.emod_nonneg m (show (n : Int) ≠ 0 by omega)
  unfold eqVal
  rw [Int.tdiv_eq_ediv_of_nonneg h]
  generalize m / (n : Int) = q at *
  generalize m % (n : Int) = r at *
  refine ⟨?_, ?_, ?_⟩ <;> split <;> split <;> omega

/-! ### Sums of shares -/
def total : List Share → Int
  | [] => 0
  | x :: r => x.pence + total r

theorem total_append (a b : List Share) : total (a ++ b) = total a + total b := by
  induction a with
  | nil => rw [List.nil_append, total]; omega
  | cons x r ih => rw [List.cons_append, total, total, ih]; omega

/-- The sum of f over the parties below n. -/
def over (f : Int → Int) : Nat → Int
  | 0 => 0
  | n + 1 => over f n + f n

theorem over_add (f g : Int → Int) (n : Nat) : over (fun p => f p + g p) n = over f n + over g n := by
  induction n with
  | zero => rfl
  | succ n ih => rw [over, over, over, ih]; omega

theorem over_one (q v : Int) (n : Nat) : over (fun p => if q = p then v else 0) n = if 0 ≤ q ∧ q < n then v else 0 := by
  induction n with
  | zero => rw [over, if_neg (by omega)]
  | succ n ih =>
    rw [over, ih]
    by_cases e : q = (n : Int)
    · subst e; rw [if_neg (by omega), if_pos rfl, if_pos (by omega)]; omega
    · by_cases h : 0 ≤ q ∧ q < n
      · rw [if_pos h, if_neg e, if_pos (by omega)]; omega
      · rw [if_neg h, if_neg e, if_neg (by omega)]; omega

theorem over_zero (n : Nat) : over (fun _ => 0) n = 0 := by
  induction n with
  | zero => rfl
  | succ n ih => rw [over, ih]; omega

theorem total_over (l : List Share) (n : Nat) (h : ∀ x ∈ l, 0 ≤ x.party ∧ x.party < n) : total l = over (sumP l) n := by
  induction l with
  | nil => exact (over_zero n).symm
  | cons x r ih =>
    have e : sumP (x :: r) = fun p => (if x.party = p then x.pence else 0) + sumP r p := rfl
    rw [total, e, over_add, over_one, if_pos (h x List.mem_cons_self), ih (fun y hy => h y (List.mem_cons_of_mem _ hy))]

theorem sumP_not {l : List Share} {p : Int} (h : p ∉ l.map Share.party) : sumP l p = 0 := by
  induction l with
  | nil => rfl
  | cons x r ih =>
    rw [List.map_cons, List.mem_cons, not_or] at h
    rw [sumP, if_neg (fun e => h.1 e.symm), ih h.2]; omega

theorem sumP_one {l : List Share} (hn : (l.map Share.party).Nodup) {x : Share} (hx : x ∈ l) : sumP l x.party = x.pence := by
  induction l with
  | nil => simp at hx
  | cons a r ih =>
    rw [List.map_cons, List.nodup_cons] at hn
    rcases List.mem_cons.1 hx with rfl | hx
    · rw [sumP, if_pos rfl, sumP_not hn.1]; omega
    · have : a.party ≠ x.party := fun e => hn.1 (e ▸ List.mem_map.2 ⟨x, hx, rfl⟩)
      rw [sumP, if_neg this, ih hn.2 hx]; omega

theorem listOf_nodup {f : Int → Int} {ys : List Share} (h : ListOf f ys) : (ys.map Share.party).Nodup := h.1.imp (fun h => by omega)

/-- What a party has in a list of sums. -/
theorem listOf_sum {f : Int → Int} {ys : List Share} (h : ListOf f ys) (p : Int) : sumP ys p = f p := by
  by_cases hp : p ∈ ys.map Share.party
  · obtain ⟨x, hx, rfl⟩ := List.mem_map.1 hp
    rw [sumP_one (listOf_nodup h) hx]
    exact (h.2.1 x hx).1
  · rw [sumP_not hp]
    by_cases e : f p = 0
    · exact e.symm
    · exact absurd (h.2.2 p e) hp

theorem sumP_party {l : List Share} {p : Int} (h : sumP l p ≠ 0) : ∃ x ∈ l, x.party = p := by
  by_cases hp : p ∈ l.map Share.party
  · obtain ⟨x, hx, e⟩ := List.mem_map.1 hp
    exact ⟨x, hx, e⟩
  · exact absurd (sumP_not hp) h

theorem listOf_total {raw ys : List Share} (h : ListOf (sumP raw) ys) (n : Nat) (hb : ∀ x ∈ raw, 0 ≤ x.party ∧ x.party < n) : total ys = total raw := by
  rw [total_over raw n hb, total_over ys n]
  · congr 1
    funext p
    exact listOf_sum h p
  · intro x hx
    obtain ⟨y, hy, e⟩ := sumP_party (h.2.1 x hx).2
    rw [← e]; exact hb y hy

theorem listOf_unique {f : Int → Int} {ys zs : List Share} (h : ListOf f ys) (k : ListOf f zs) : ys = zs := by
  have hp : ys.map Share.party = zs.map Share.party := by
    refine List.Perm.eq_of_pairwise (le := (· < ·)) (fun a b _ _ h1 h2 => by omega) h.1 k.1 ?_
    refine (List.perm_ext_iff_of_nodup (listOf_nodup h) (listOf_nodup k)).2 (fun p => ?_)
    constructor
    · intro hp
      obtain ⟨x, hx, rfl⟩ := List.mem_map.1 hp
      exact k.2.2 _ (h.2.1 x hx).2
    · intro hp
      obtain ⟨x, hx, rfl⟩ := List.mem_map.1 hp
      exact h.2.2 _ (k.2.1 x hx).2
  have e : ∀ l : List Share, (∀ x ∈ l, x.pence = f x.party) → l = (l.map Share.party).map fun p => Share.mk p (f p) := fun l hl => by
    rw [List.map_map]
    conv => lhs; rw [← List.map_id l]
    refine List.map_congr_left (fun x hx => ?_)
    show x = Share.mk x.party (f x.party)
    rw [← hl x hx]
  rw [e ys (fun x hx => (h.2.1 x hx).1), e zs (fun x hx => (k.2.1 x hx).1), hp]

theorem listOf_neg {f : Int → Int} {ys : List Share} (h : ListOf f ys) : ListOf (fun p => - f p) (ys.map fun x => Share.mk x.party (-x.pence)) := by
  obtain ⟨h1, h2, h3⟩ := h
  have e : (ys.map fun x => Share.mk x.party (-x.pence)).map Share.party = ys.map Share.party := by rw [List.map_map]; rfl
  refine ⟨by rw [e]; exact h1, fun x hx => ?_, fun p hp => ?_⟩
  · obtain ⟨y, hy, rfl⟩ := List.mem_map.1 hx
    have := h2 y hy
    dsimp only
    omega
  · have hp' : - f p ≠ 0 := hp
    rw [e]; exact h3 p (by omega)

/-! ### Awards -/
theorem awRaw_total {r : Rate} {s : Sale} {fs : List Int} (h : (feesOf r s).2 = 0) (hp : partiesOk fs = true) : total (awRaw r s fs) = awCart r s + awStore r s + awFind r s := by
  have hn : 0 < fs.length := by
    unfold partiesOk at hp
    simp only [Bool.and_eq_true, inn_iff] at hp
    omega
  have hf := (aw_bounds h).2.2.2.2.1
  unfold awRaw
  rw [total_append]
  have e : ∀ (n : Nat) (m : Int) (gs : List Int) (k : Nat), k + gs.length = n → total (List.zipWith Share.mk gs ((List.range' k gs.length).map (eqVal m n))) = eqSum m n n - eqSum m n k := by
    intro n m gs
    induction gs with
    | nil => intro k hk; simp at hk; subst hk; simp [total]
    | cons g t ih =>
      intro k hk
      rw [List.length_cons, List.range'_succ, List.map_cons, List.zipWith_cons_cons, total, ih (k + 1) (by simp at hk; omega), eqSum]
      dsimp only
      omega
  rw [List.range_eq_range', e fs.length (awFind r s) fs 0 (by omega), eqSum_all _ _ hf hn]
  simp only [total, eqSum]
  omega

theorem sumP_zip (p m m' : Int) (n : Nat) (h : 0 ≤ m) (hm : m ≤ m') : ∀ (gs : List Int) (k : Nat), k + gs.length = n →
    sumP (List.zipWith Share.mk gs ((List.range' k gs.length).map (eqVal m n))) p ≤ sumP (List.zipWith Share.mk gs ((List.range' k gs.length).map (eqVal m' n))) p := by
  intro gs
  induction gs with
  | nil => intro k _; simp [sumP]
  | cons g t ih =>
    intro k hk
    have h1 := ih (k + 1) (by simp at hk; omega)
    have h2 := eqVal_mono (n := n) (i := k) h hm (by simp at hk; omega)
    rw [List.length_cons, List.range'_succ, List.map_cons, List.zipWith_cons_cons, List.map_cons, List.zipWith_cons_cons, sumP, sumP]
    dsimp only
    split <;> omega

/-- Who gets what of more. -/
theorem sumP_raw_mono {r q : Rate} {s t : Sale} {fs : List Int} (h1 : awCart r s ≤ awCart q t) (h2 : awStore r s ≤ awStore q t) (h3 : awFind r s ≤ awFind q t) (h4 : s.carter = t.carter) (h5 : s.keeper = t.keeper) (h0 : 0 ≤ awFind r s) (p : Int) :
    sumP (awRaw r s fs) p ≤ sumP (awRaw q t fs) p := by
  unfold awRaw
  rw [sumP_append, sumP_append, List.range_eq_range']
  have := sumP_zip p _ _ fs.length h0 h3 fs 0 (by omega)
  simp only [sumP, h4, h5]
  split <;> split <;> omega

def cutF (price : Int) (f : Frac) : Int := (price * f.num).tdiv f.den

theorem cutF_eq {price : Int} {f : Frac} (hp : 0 ≤ price) (hf : partOk f = true) : cutF price f = price * f.num / f.den := by
  obtain ⟨f1, _, _, _⟩ := partOk_bounds hf
  unfold cutF
  exact Int.tdiv_eq_ediv_of_nonneg (Int.mul_nonneg hp f1)

theorem cutF_more {p p' : Int} {f : Frac} (hp : 0 ≤ p) (h : p ≤ p') (hf : partOk f = true) : 0 ≤ cutF p f ∧ cutF p f ≤ cutF p' f ∧ cutF p' f - cutF p f ≤ p' - p := by
  obtain ⟨f1, f2, f3, _⟩ := partOk_bounds hf
  rw [cutF_eq hp hf, cutF_eq (by omega) hf]
  have h0 : 0 ≤ p * f.num := Int.mul_nonneg hp f1
  refine ⟨Int.ediv_nonneg h0 (by omega), Int.ediv_le_ediv (by omega) (Int.mul_le_mul_of_nonneg_right h f1), ?_⟩
  have e : p' * f.num ≤ p * f.num + (p' - p) * f.den := by
    have h1 : p' * f.num = p * f.num + (p' - p) * f.num := by rw [← Int.add_mul]; congr 1; omega
    have h2 : (p' - p) * f.num ≤ (p' - p) * f.den := Int.mul_le_mul_of_nonneg_left f2 (by omega)
    omega
  have h3 := Int.ediv_le_ediv (show 0 < f.den by omega) e
  rw [Int.add_mul_ediv_right _ _ (by omega)] at h3
  omega

theorem cutF_part {p : Int} {f g : Frac} (hp : 0 ≤ p) (hf : partOk f = true) (hg : partOk g = true) (h : f.num * g.den ≤ g.num * f.den) : cutF p f ≤ cutF p g := by
  obtain ⟨f1, f2, f3, _⟩ := partOk_bounds hf
  obtain ⟨g1, g2, g3, _⟩ := partOk_bounds hg
  rw [cutF_eq hp hf, cutF_eq hp hg, Int.le_ediv_iff_mul_le (by omega)]
  have h1 : p * f.num / f.den * f.den ≤ p * f.num := Int.ediv_mul_le _ (by omega)
  generalize p * f.num / f.den = x at *
  have h2 : x * f.den * g.den ≤ p * f.num * g.den := Int.mul_le_mul_of_nonneg_right h1 (by omega)
  have h3 : p * (f.num * g.den) ≤ p * (g.num * f.den) := Int.mul_le_mul_of_nonneg_left h hp
  have h4 : (x * g.den) * f.den ≤ (p * g.num) * f.den := by
    have e1 : x * f.den * g.den = x * g.den * f.den := by rw [Int.mul_assoc, Int.mul_comm f.den, ← Int.mul_assoc]
    have e2 : p * f.num * g.den = p * (f.num * g.den) := Int.mul_assoc _ _ _
    have e3 : p * g.num * f.den = p * (g.num * f.den) := Int.mul_assoc _ _ _
    omega
  exact Int.le_of_mul_le_mul_right h4 (by omega)

theorem awFind_eq (r : Rate) (s : Sale) : awFind r s = min (cutF s.price r.finder) (s.price - awCart r s - awStore r s) := rfl

theorem more_price {r : Rate} {s t : Sale} (hs : (feesOf r s).2 = 0) (ht : (feesOf r t).2 = 0) (he : t = { s with price := t.price }) (h : s.price ≤ t.price) :
    awCart r s ≤ awCart r t ∧ awStore r s ≤ awStore r t ∧ awFind r s ≤ awFind r t ∧ awRest r s ≤ awRest r t := by
  have hfe : (feesOf r t).1 = (feesOf r s).1 := by
    rw [(feesOf_ok hs).2.2.2.2, (feesOf_ok ht).2.2.2.2, he]
  obtain ⟨a1, a2, a3, a4, a5, a6, _, _, _, _, a7⟩ := fees_bounds hs
  have hc := cutF_more (p := s.price) (p' := t.price) (by omega) h a7
  have hw1 : awRest r s = s.price - awCart r s - awStore r s - awFind r s := rfl
  have hw2 : awRest r t = t.price - awCart r t - awStore r t - awFind r t := rfl
  rw [awFind_eq, awFind_eq, hw1, hw2, awFind_eq, awFind_eq]
  have c1 : awCart r s = min (feesOf r s).1.1 s.price := rfl
  have c2 : awCart r t = min (feesOf r s).1.1 t.price := by unfold awCart; rw [hfe]
  have d1 : awStore r s = min (feesOf r s).1.2 (s.price - awCart r s) := rfl
  have d2 : awStore r t = min (feesOf r s).1.2 (t.price - awCart r t) := by unfold awStore; rw [hfe]
  generalize (feesOf r s).1.1 = c at *
  generalize (feesOf r s).1.2 = d at *
  omega

theorem more_part {r q : Rate} {s : Sale} (hr : (feesOf r s).2 = 0) (hq : (feesOf q s).2 = 0) (he : q = { r with finder := q.finder }) (h : r.finder.num * q.finder.den ≤ q.finder.num * r.finder.den) :
    awRest q s ≤ awRest r s ∧ awFind r s ≤ awFind q s := by
  have hfe : (feesOf q s).1 = (feesOf r s).1 := by
    rw [(feesOf_ok hr).2.2.2.2, (feesOf_ok hq).2.2.2.2, he]
  obtain ⟨a1, a2, a3, a4, a5, a6, _, _, _, _, a7⟩ := fees_bounds hr
  obtain ⟨_, _, _, _, _, _, _, _, _, _, b7⟩ := fees_bounds hq
  have hc := cutF_part (p := s.price) (by omega) a7 b7 h
  have hw1 : awRest r s = s.price - awCart r s - awStore r s - awFind r s := rfl
  have hw2 : awRest q s = s.price - awCart q s - awStore q s - awFind q s := rfl
  rw [hw1, hw2, awFind_eq, awFind_eq]
  have c1 : awCart r s = min (feesOf r s).1.1 s.price := rfl
  have c2 : awCart q s = min (feesOf r s).1.1 s.price := by unfold awCart; rw [hfe]
  have d1 : awStore r s = min (feesOf r s).1.2 (s.price - awCart r s) := rfl
  have d2 : awStore q s = min (feesOf r s).1.2 (s.price - awCart q s) := by unfold awStore; rw [hfe]
  generalize (feesOf r s).1.1 = c at *
  generalize (feesOf r s).1.2 = d at *
  omega

theorem awRaw_zero {r : Rate} {s : Sale} {fs : List Int} (h : (feesOf r s).2 = 0) (hp : partiesOk fs = true) : ∀ x ∈ awRaw r s fs, x.party = 0 → x.pence = 0 := by
  intro x hx h0
  unfold awRaw at hx
  have hfe := (feesOf_ok h).2.2.2.2
  have hb := aw_bounds h
  rcases List.mem_append.1 hx with hx | hx
  · simp only [List.mem_cons, List.not_mem_nil, or_false] at hx
    rcases hx with rfl | rfl
    · dsimp only at h0 ⊢
      unfold awCart
      rw [hfe, h0]
      have := (fees_bounds h).2.2.2.2.1
      simp; omega
    · dsimp only at h0 ⊢
      have e : awStore r s = min (feesOf r s).1.2 (s.price - awCart r s) := rfl
      have e2 : (feesOf r s).1.2 = 0 := by rw [hfe, h0]; simp
      omega
  · exfalso
    have : x.party ∈ fs := by
      obtain ⟨i, hi⟩ := List.mem_iff_getElem?.1 hx
      rw [List.getElem?_zipWith] at hi
      cases hf : fs[i]? with
      | none => rw [hf] at hi; simp at hi
      | some f =>
        rw [hf] at hi
        cases hv : ((List.range fs.length).map (eqVal (awFind r s) fs.length))[i]? with
        | none => rw [hv] at hi; simp at hi
        | some v => rw [hv] at hi; simp at hi; subst hi; exact List.mem_iff_getElem?.2 ⟨i, hf⟩
    unfold partiesOk at hp
    simp only [Bool.and_eq_true, Bool.not_eq_true', List.any_eq_false] at hp
    have h1 := hp.2 _ this
    simp only [Bool.not_eq_false, inn_iff] at h1
    omega

theorem sumP_nonneg {l : List Share} (h : ∀ x ∈ l, 0 ≤ x.pence) (p : Int) : 0 ≤ sumP l p := by
  induction l with
  | nil => exact Int.le_refl _
  | cons x r ih =>
    have h1 := h x List.mem_cons_self
    have h2 := ih (fun y hy => h y (List.mem_cons_of_mem _ hy))
    rw [sumP]; split <;> omega

theorem sumP_zero {l : List Share} {p : Int} (h : ∀ x ∈ l, x.party = p → x.pence = 0) : sumP l p = 0 := by
  induction l with
  | nil => rfl
  | cons x r ih =>
    have h2 := ih (fun y hy => h y (List.mem_cons_of_mem _ hy))
    rw [sumP, h2]
    by_cases e : x.party = p
    · rw [if_pos e, h x List.mem_cons_self e]; omega
    · rw [if_neg e]; omega

/-- The shares of an award. -/
theorem aw_shares {r : Rate} {s : Sale} {fs : List Int} {ys : List Share} (h : (feesOf r s).2 = 0) (hp : partiesOk fs = true) (hl : ListOf (sumP (awRaw r s fs)) ys) :
    (∀ x ∈ ys, 1 ≤ x.pence ∧ x.pence ≤ 100000000000 ∧ 1 ≤ x.party ∧ x.party ≤ 40 ∧ sumP ys x.party = x.pence) ∧ total ys = awCart r s + awStore r s + awFind r s := by
  have hb := awRaw_bounds h hp
  refine ⟨fun x hx => ?_, ?_⟩
  · obtain ⟨h1, h2⟩ := hl.2.1 x hx
    have h3 := sumP_nonneg (fun y hy => (hb y hy).2.2.1) x.party
    obtain ⟨y, hy, e⟩ := sumP_party h2
    have h4 := hb y hy
    have h5 : x.party ≠ 0 := fun e0 => h2 (by rw [e0]; exact sumP_zero (awRaw_zero h hp))
    have h6 := (sumP_bound (awRaw r s fs) x.party 1000000000 (by omega) (fun z hz => by have := hb z hz; omega)).2
    have h7 : (awRaw r s fs).length ≤ 42 := by
      unfold awRaw
      unfold partiesOk at hp
      simp only [Bool.and_eq_true, inn_iff] at hp
      rw [List.length_append, List.length_zipWith]
      simp; omega
    refine ⟨by omega, by omega, by omega, by omega, sumP_one (listOf_nodup hl) hx⟩
  · rw [listOf_total hl 41 (fun x hx => by have := hb x hx; omega), awRaw_total h hp]

theorem total_bound {l : List Share} {M : Int} (h : ∀ x ∈ l, 0 ≤ x.pence ∧ x.pence ≤ M) : 0 ≤ total l ∧ total l ≤ M * l.length := by
  induction l with
  | nil => simp [total]
  | cons x r ih =>
    have h1 := h x List.mem_cons_self
    have h2 := ih (fun y hy => h y (List.mem_cons_of_mem _ hy))
    rw [total, List.length_cons, Int.natCast_add, Int.mul_add]
    simp; omega

theorem total_take (l : List Share) (k : Nat) (x : Share) (hx : l[k]? = some x) : total (l.take (k + 1)) = total (l.take k) + x.pence := by
  obtain ⟨h1, h2⟩ := List.getElem?_eq_some_iff.1 hx
  rw [List.take_succ_eq_append_getElem h1, h2, total_append]
  simp [total]

/-! ### Change -/
theorem changeErr_swap (a b : List Share) : changeErr a b = 0 ↔ changeErr b a = 0 := by
  unfold changeErr
  by_cases h1 : mergeableOf a = 0 <;> by_cases h2 : mergeableOf b = 0 <;> simp [h1, h2]

theorem change_neg {a b ys zs : List Share} (h : ListOf (fun p => sumP b p - sumP a p) ys) (k : ListOf (fun p => sumP a p - sumP b p) zs) : zs = ys.map fun x => Share.mk x.party (-x.pence) := by
  have h2 := listOf_neg h
  have e : (fun p => -(sumP b p - sumP a p)) = fun p => sumP a p - sumP b p := funext fun p => by omega
  rw [e] at h2
  exact listOf_unique k h2

end Lg
