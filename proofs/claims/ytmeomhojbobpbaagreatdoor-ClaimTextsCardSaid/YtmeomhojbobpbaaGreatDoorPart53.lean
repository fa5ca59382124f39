import Derived.Test.YtmeomhojbobpbaaGreatDoorPart52
import Derived.Test.YtmeomhojbobpbaaGreatDoorPart49
import Derived.Test.YtmeomhojbobpbaaGreatDoorPart08
import Derived.Deep.RegionHeld3
import Derived.Deep.CutRange
import Derived.Deep.DeepCutAuto
namespace Go.Proofs.YtmeomhojbobpbaaGreatDoor
open Go.RowKit Lg Go.Sort Go.Shelf

theorem Lst.ofI5 {W : World} {B : Nat} {t : TypeId} (xs : List Int) (hl : xs.length ≤ 20) (k : Blk W B (xs.map (Value.int .i64)).toArray t) : Lst W 1 cI (some ⟨B, 0, none⟩) xs.length xs.length xs :=
  ⟨rfl, Nat.le_refl _, by unfold maxLen; omega, fun i y hx => by
    refine ⟨B, 0, rfl, k.lt, fun j u hu => ?_⟩
    have hj : j = 0 := by have := (List.getElem?_eq_some_iff.1 hu).1; simp at this; omega
    subst hj
    simp only [cI, List.getElem?_cons_zero, Option.some.injEq] at hu
    rw [show 0 + i * 1 + 0 = i by omega, k.cell i, List.getElem?_toArray, List.getElem?_map, hx, ← hu]; rfl⟩

theorem add_ok5 {a b : Bs} (ha : a.length ≤ 1000) (hb : b.length ≤ 1000) (W : World) : (Op.stringOp .add (ofL a) (ofL b)).run Tryz.prog W = .ok (.string (ofL (a ++ b))) W := by
  rw [run_string_add_sum (P := Tryz.prog) W (ofL a) (ofL b) (by rw [ofL_size, ofL_size]; omega), ofL_append]

set_option maxRecDepth 100000 in
set_option maxHeartbeats 1600000 in
theorem word5_any (k : Int) (h0 : 0 ≤ k) (h6 : k ≤ 6) (w : World) : Calls Tryz.prog 85 #[.int .u8 k] w (Gives w (.string (ofL (wordK k)))) := by
  have hk : k = 0 ∨ k = 1 ∨ k = 2 ∨ k = 3 ∨ k = 4 ∨ k = 5 ∨ k = 6 := by omega
  have hB : ∀ o, RowKit.Below w.heap.size w (w.alloc o) := fun o => (Below.refl _ w).alloc (Nat.le_refl _) _
  rcases hk with rfl | rfl | rfl | rfl | rfl | rfl | rfl
  all_goals
    go_enter Tryz.func85, Tryz.ntmps85
    go_wp2_with (fail)
    go_ret
    exact ⟨rfl, hB _⟩

theorem row1_blk (W0 : Bs) (xs : List Int) (hW : W0.length ≤ 1000) (hl : xs.length ≤ 10) (hx : ∀ y ∈ xs, 0 ≤ y ∧ y < 1000000000000) (W : World) (B : Nat) (k : Blk W B (xs.map (Value.int .i64)).toArray 3) :
    Calls Tryz.prog 83 #[.string (ofL W0), .slice (some ⟨B, 0, none⟩) xs.length xs.length] W (Gives W (.string (ofL (W0 ++ numsL xs)))) :=
  row1_any W0 (some ⟨B, 0, none⟩) xs.length xs.length xs W hW hl hx (Lst.ofI5 xs (by omega) k)

def tailL5 : List Bs → Bs
  | [] => []
  | w :: r => 32 :: w ++ tailL5 r

theorem lineL_cons5 (x : Bs) (r : List Bs) : lineL (x :: r) = x ++ tailL5 r := by
  induction r generalizing x with
  | nil => simp [lineL, tailL5]
  | cons y r ih => rw [lineL, ih, tailL5]; simp

theorem wordK_len5 (k : Int) : (wordK k).length ≤ 8 := by
  unfold wordK
  repeat' split
  all_goals decide

set_option maxRecDepth 100000 in
set_option maxHeartbeats 6400000 in
theorem write5_any (x : Deed) (w : World) : Calls Tryz.prog 21 #[aD x] w (Gives w (.tuple #[.string (writeD x).1, .int .i64 (writeD x).2])) := by
  have hc := fun W => formed5_any x W
  have hB0 : RowKit.Below w.heap.size w (w.alloc (.cells #[.int .i64 x.id, .int .i64 x.known, .int .i64 x.hour, .int .u8 x.kind, .int .i64 x.loss, .int .i64 x.pack, .int .i64 x.from_, .int .i64 x.to_, .int .i64 x.share.num, .int .i64 x.share.den, .int .i64 x.of_] 36)) := (Below.refl _ w).alloc (Nat.le_refl _) _
  have k0 := Blk.new w 36 #[.int .i64 x.id, .int .i64 x.known, .int .i64 x.hour, .int .u8 x.kind, .int .i64 x.loss, .int .i64 x.pack, .int .i64 x.from_, .int .i64 x.to_, .int .i64 x.share.num, .int .i64 x.share.den, .int .i64 x.of_]
  cases ho : formedD x with
  | false =>
    rw [ho] at hc
    have hw : writeD x = (⟨#[]⟩, 1) := by unfold writeD; rw [ho]; rfl
    rw [hw]
    clear hw ho k0
    go_enter Tryz.func21, Tryz.ntmps21
    go_wp2_with (fail)
    refine (hc _).mono ?_
    rintro e w1 ⟨rfl, hB1⟩
    go_wp2_with (fail)
    go_ret2
    exact ⟨rfl, hB0.trans (hB1.mono hB0.size)⟩
  | true =>
    rw [ho] at hc
    have hw : writeD x = (lineD x, 0) := by unfold writeD; rw [ho]; rfl
    rw [hw]
    clear hw
    obtain ⟨q1, q2, q3, q4, q5, q6, q7, q8, q9, q10, q11, q12, q13⟩ := formedD_all ho
    obtain ⟨ln, hln⟩ : ∃ ln, ln = lineD x := ⟨_, rfl⟩
    rw [← hln]
    have Hln := Lib.hid hln
    clear hln ho
    have hwd := fun W => word5_any x.kind (by omega) (by omega) W
    have l1 := nm_len (n := x.id) (by omega) (by omega)
    have l2 := numsL_len [x.known] (by simp; omega)
    have l3 := numsL_len [x.hour] (by simp; omega)
    have lw := wordK_len5 x.kind
    simp only [List.length_cons, List.length_nil] at l2 l3
    have hD := fun W => digits1_any 11 x.id W (by omega) (by omega) (by omega)
    have hR1 := fun W B k => row1_blk (nm x.id) [x.known] (by omega) (by simp) (by simp; omega) W B k
    simp only [List.map_cons, List.map_nil, List.length_cons, List.length_nil, Nat.zero_add] at hR1
    have hR2 := fun W B k => row1_blk (nm x.id ++ numsL [x.known]) [x.hour] (by rw [List.length_append]; omega) (by simp) (by simp; omega) W B k
    simp only [List.map_cons, List.map_nil, List.length_cons, List.length_nil, Nat.zero_add] at hR2
    go_enter Tryz.func21, Tryz.ntmps21
    go_wp2_with (fail)
    refine (hc _).mono ?_
    clear hc
    rintro e w1 ⟨rfl, hB1⟩
    have k1 := k0.below' hB1
    clear k0
    have hB1 := hB0.trans (hB1.mono hB0.size)
    clear hB0
    obtain ⟨bx, hbx⟩ : ∃ bx, bx = w.heap.size := ⟨_, rfl⟩
    rw [← hbx] at k1 ⊢
    clear hbx
    have HC := Lib.hid (fun W (h : RowKit.Below w1.heap.size w1 W) => (k1.below' h).cell)
    have HD := Lib.hid (fun W (q : World) (hq : RowKit.Below q.heap.size q W) => (hD W).mono fun e w' (h : Gives W _ e w') => (⟨h.1, h.2, hq.trans (h.2.mono hq.size)⟩ : e = _ ∧ RowKit.Below W.heap.size W w' ∧ RowKit.Below q.heap.size q w'))
    have HR1 := Lib.hid (fun (q W : World) (B : Nat) (hq : RowKit.Below q.heap.size q W) k => (hR1 W B k).mono fun e w' (h : Gives W _ e w') => (⟨h.1, h.2, hq.trans (h.2.mono hq.size)⟩ : e = _ ∧ RowKit.Below W.heap.size W w' ∧ RowKit.Below q.heap.size q w'))
    have HS := Lib.hid (show ∀ W, RowKit.Below w1.heap.size w1 W → W.cell? ⟨bx, 0, none⟩ = some (.int .i64 x.id) ∧ W.cell? ⟨bx, 1, none⟩ = some (.int .i64 x.known) from fun W h => ⟨HC.out W h 0, HC.out W h 1⟩)
    have HR2 := Lib.hid hR2
    have Hwd := Lib.hid hwd
    have L1 := Lib.hid l1
    have L2 := Lib.hid l2
    have L3 := Lib.hid l3
    have LW := Lib.hid lw
    clear k1 hD hR1 hR2 hwd l1 l2 l3 lw
    obtain ⟨s0, hs0⟩ : ∃ s, s = ofL (nm x.id) := ⟨_, rfl⟩
    obtain ⟨s1, hs1⟩ : ∃ s, s = ofL (nm x.id ++ numsL [x.known]) := ⟨_, rfl⟩
    rw [← hs0] at HD HR1
    rw [← hs1] at HR1 HR2
    have Hs1 := Lib.hid hs1
    clear hs0 hs1
    have Q := Lib.hid (And.intro q4 (And.intro q5 (And.intro q6 (And.intro q7 (And.intro q8 (And.intro q9 q10))))))
    clear q1 q2 q3 q4 q5 q6 q7 q8 q9 q10 q12 q13
    go_upto_region 4 with fail
    go_cut [5] (fun c5 W => c5 = .string s1 ∧ RowKit.Below w1.heap.size w1 W)
    case first =>
      clear HC HR2 Hwd L1 L2 L3 LW Hs1 Q Hln
      go_region_held3 (fun w' => w'.cell? ⟨bx, 0, none⟩ = some (.int .i64 x.id) ∧ w'.cell? ⟨bx, 1, none⟩ = some (.int .i64 x.known))
        (((with_reducible refine HS.out _ ?_); repeat (first | (with_reducible assumption) | (with_reducible exact Below.refl _ _) | (with_reducible refine Below.alloc ?_ ?_ _) | (with_reducible refine Below.setCell ?_ ?_ _) | (with_reducible refine Below.drew ?_) | omega | (simp <;> omega) | (dsimp only; omega))))
        (first
          | (go_at_call 84; (with_reducible refine (HD.out _ w1 (by repeat (first | (with_reducible assumption) | (with_reducible exact Below.refl _ _) | (with_reducible refine Below.alloc ?_ ?_ _) | (with_reducible refine Below.setCell ?_ ?_ _) | (with_reducible refine Below.drew ?_) | omega | (simp <;> omega) | (dsimp only; omega)))).mono ?_); rintro e w3 ⟨rfl, hBd, hbd⟩; have hsd := hbd.size)
          | (go_at_call 83; (with_reducible refine (HR1.out w1 _ _ (by repeat (first | (with_reducible assumption) | (with_reducible exact Below.refl _ _) | (with_reducible refine Below.alloc ?_ ?_ _) | (with_reducible refine Below.setCell ?_ ?_ _) | (with_reducible refine Below.drew ?_) | omega | (simp <;> omega) | (dsimp only; omega))) (by repeat (first | (with_reducible assumption) | (with_reducible exact Blk.new _ _ _) | (with_reducible exact Blk.new1 _ _ _ _) | (with_reducible exact Blk.new2 _ _ _ _ _) | (with_reducible exact Blk.new3 _ _ _ _ _ _) | (with_reducible refine Blk.alloc ?_ _) | (with_reducible refine Blk.drew ?_) | (with_reducible refine Blk.below' ?_ hBd) | (with_reducible refine Blk.below' ?_ hBa) | (with_reducible refine Blk.below' ?_ hBb)))).mono ?_); rintro e w4 ⟨rfl, hBa, hba⟩; have hsa := hba.size)
          | fail)
      all_goals
        go_wp2_with fail
        go_meet
        exact ⟨rfl, by repeat (first | (with_reducible assumption) | (with_reducible exact Below.refl _ _) | (with_reducible refine Below.alloc ?_ ?_ _) | (with_reducible refine Below.setCell ?_ ?_ _) | (with_reducible refine Below.drew ?_) | omega | (simp <;> omega) | (dsimp only; omega))⟩
    obtain ⟨rfl, hC⟩ := hcut
    obtain ⟨w8, hw8⟩ : ∃ w8, w8 = wc := ⟨_, rfl⟩
    rw [← hw8] at hC ⊢
    clear hw8 HS HR1 HD
    have hC0 := hB1.trans (hC.mono hB1.size)
    have HC8 := Lib.hid (fun W (h : RowKit.Below w8.heap.size w8 W) => HC.out W (hC.trans (h.mono hC.size)))
    have HB := Lib.hid hC0
    clear HC hC hC0 hB1
    have hks : (x.kind = 1 ∨ x.kind = 2) ∨ x.kind = 3 ∨ x.kind = 4 ∨ x.kind = 5 ∨ x.kind = 6 := by omega
    clear q11
    rcases hks with hk | hk | hk | hk | hk
    · rcases hk with hk | hk
      all_goals
        obtain ⟨q4, q5, q6, q7, q8, q9, q10⟩ := Q.out
        have l1 := L1.out
        have l2 := L2.out
        have l3 := L3.out
        have lw := LW.out
        first | have g1 : (x.kind == 1) = true := by simp; omega | have g1 : (x.kind == 1) = false := by simp; omega
        first | have g2 : (x.kind == 2) = true := by simp; omega | have g2 : (x.kind == 2) = false := by simp; omega
        have g3 : (x.kind == 3) = false := by simp; omega
        have g4 : (x.kind == 4) = false := by simp; omega
        have g5 : (x.kind == 5) = false := by simp; omega
        have g6 : (x.kind != 6) = true := by simp; omega
        have hH : (nm x.id ++ numsL [x.known] ++ numsL [x.hour]).length ≤ 100 := by simp only [List.length_append]; omega
        have A1 := fun W => add_ok5 (a := nm x.id ++ numsL [x.known] ++ numsL [x.hour]) (b := [32]) (by omega) (by decide) W
        have A2 := fun W => add_ok5 (a := nm x.id ++ numsL [x.known] ++ numsL [x.hour] ++ [32]) (b := wordK x.kind) (by rw [List.length_append]; simp only [List.length_cons, List.length_nil]; omega) (by omega) W
        have hRt := fun W B k => row1_blk (nm x.id ++ numsL [x.known] ++ numsL [x.hour] ++ [32] ++ wordK x.kind) [x.loss, x.pack, x.from_, x.to_, x.share.num, x.share.den] (by rw [List.length_append, List.length_append]; simp only [List.length_cons, List.length_nil]; omega) (by simp) (by simp; omega) W B k
        simp only [List.map_cons, List.map_nil, List.length_cons, List.length_nil, Nat.zero_add, Nat.reduceAdd] at hRt
        have hlast : ofL (nm x.id ++ numsL [x.known] ++ numsL [x.hour] ++ [32] ++ wordK x.kind ++ numsL [x.loss, x.pack, x.from_, x.to_, x.share.num, x.share.den]) = ln := by
          rw [Hln.out, lineD, wordsD, headN, tailN]
          simp [hk, lineL_cons5, tailL5, numsL]
        rw [hlast] at hRt
        have hwd := Hwd.out
        have hR2 := HR2.out
        obtain ⟨s2, hs2⟩ : ∃ s, s = ofL (nm x.id ++ numsL [x.known] ++ numsL [x.hour]) := ⟨_, rfl⟩
        rw [← hs2] at hR2 A1
        clear hs2
        obtain ⟨s3, hs3⟩ : ∃ s, s = ofL (nm x.id ++ numsL [x.known] ++ numsL [x.hour] ++ [32]) := ⟨_, rfl⟩
        rw [← hs3] at A1 A2
        clear hs3
        obtain ⟨s4, hs4⟩ : ∃ s, s = ofL (nm x.id ++ numsL [x.known] ++ numsL [x.hour] ++ [32] ++ wordK x.kind) := ⟨_, rfl⟩
        rw [← hs4] at A2 hRt
        clear hs4
        obtain ⟨sw, hsw⟩ : ∃ s, s = ofL (wordK x.kind) := ⟨_, rfl⟩
        rw [← hsw] at A2 hwd
        clear hsw
        replace A1 : ∀ W, (Op.stringOp .add s2 ⟨#[32]⟩).run Tryz.prog W = .ok (.string s3) W := A1
        have Hk := Lib.hid hk
        clear hk hlast hH l1 l2 l3 lw q4 q5 q6 q7 q8 q9 q10 Q L1 L2 L3 LW Hln Hs1 HR2 Hwd
        have cX := HC8.out w8 (Below.refl _ _)
        have hb : RowKit.Below w8.heap.size w8 w8 := Below.refl _ _
        go_wp2_with (fail)
        refine (hR2 _ _ (Blk.new w8 _ _)).mono ?_
        rintro e w9 ⟨rfl, hB9⟩
        have hb9 : RowKit.Below w8.heap.size w8 w9 := ((Below.refl _ w8).alloc (Nat.le_refl _) _).trans (hB9.mono (by simp))
        clear cX hb hB9
        have cX := HC8.out w9 hb9
        go_wp2_with (fail)
        refine (hwd _).mono ?_
        rintro e w10 ⟨rfl, hB10⟩
        have hb10 := hb9.trans (hB10.mono hb9.size)
        clear cX hb9 hB10
        have cX := HC8.out w10 hb10
        go_wp2_with (fail)
        refine (hRt _ _ (Blk.new w10 _ _)).mono ?_
        rintro e w11 ⟨rfl, hB11⟩
        have hb11 : RowKit.Below w8.heap.size w8 w11 := (hb10.alloc hb10.size _).trans (hB11.mono (by have := hb10.size; simp; omega))
        clear cX hb10 hB11
        go_wp2_with (fail)
        go_ret2
        exact ⟨rfl, HB.out.trans (hb11.mono HB.out.size)⟩
    · skip
      obtain ⟨q4, q5, q6, q7, q8, q9, q10⟩ := Q.out
      have l1 := L1.out
      have l2 := L2.out
      have l3 := L3.out
      have lw := LW.out
      have g1 : (x.kind == 1) = false := by simp; omega
      have g2 : (x.kind == 2) = false := by simp; omega
      have g3 : (x.kind == 3) = true := by simp; omega
      have g4 : (x.kind == 4) = false := by simp; omega
      have g5 : (x.kind == 5) = false := by simp; omega
      have g6 : (x.kind != 6) = true := by simp; omega
      have hH : (nm x.id ++ numsL [x.known] ++ numsL [x.hour]).length ≤ 100 := by simp only [List.length_append]; omega
      have A1 := fun W => add_ok5 (a := nm x.id ++ numsL [x.known] ++ numsL [x.hour]) (b := [32]) (by omega) (by decide) W
      have A2 := fun W => add_ok5 (a := nm x.id ++ numsL [x.known] ++ numsL [x.hour] ++ [32]) (b := wordK x.kind) (by rw [List.length_append]; simp only [List.length_cons, List.length_nil]; omega) (by omega) W
      have hRt := fun W B k => row1_blk (nm x.id ++ numsL [x.known] ++ numsL [x.hour] ++ [32] ++ wordK x.kind) [x.loss, x.pack, x.from_, x.to_] (by rw [List.length_append, List.length_append]; simp only [List.length_cons, List.length_nil]; omega) (by simp) (by simp; omega) W B k
      simp only [List.map_cons, List.map_nil, List.length_cons, List.length_nil, Nat.zero_add, Nat.reduceAdd] at hRt
      have hlast : ofL (nm x.id ++ numsL [x.known] ++ numsL [x.hour] ++ [32] ++ wordK x.kind ++ numsL [x.loss, x.pack, x.from_, x.to_]) = ln := by
        rw [Hln.out, lineD, wordsD, headN, tailN]
        simp [hk, lineL_cons5, tailL5, numsL]
      rw [hlast] at hRt
      have hwd := Hwd.out
      have hR2 := HR2.out
      obtain ⟨s2, hs2⟩ : ∃ s, s = ofL (nm x.id ++ numsL [x.known] ++ numsL [x.hour]) := ⟨_, rfl⟩
      rw [← hs2] at hR2 A1
      clear hs2
      obtain ⟨s3, hs3⟩ : ∃ s, s = ofL (nm x.id ++ numsL [x.known] ++ numsL [x.hour] ++ [32]) := ⟨_, rfl⟩
      rw [← hs3] at A1 A2
      clear hs3
      obtain ⟨s4, hs4⟩ : ∃ s, s = ofL (nm x.id ++ numsL [x.known] ++ numsL [x.hour] ++ [32] ++ wordK x.kind) := ⟨_, rfl⟩
      rw [← hs4] at A2 hRt
      clear hs4
      obtain ⟨sw, hsw⟩ : ∃ s, s = ofL (wordK x.kind) := ⟨_, rfl⟩
      rw [← hsw] at A2 hwd
      clear hsw
      replace A1 : ∀ W, (Op.stringOp .add s2 ⟨#[32]⟩).run Tryz.prog W = .ok (.string s3) W := A1
      have Hk := Lib.hid hk
      clear hk hlast hH l1 l2 l3 lw q4 q5 q6 q7 q8 q9 q10 Q L1 L2 L3 LW Hln Hs1 HR2 Hwd
      have cX := HC8.out w8 (Below.refl _ _)
      have hb : RowKit.Below w8.heap.size w8 w8 := Below.refl _ _
      go_wp2_with (fail)
      refine (hR2 _ _ (Blk.new w8 _ _)).mono ?_
      rintro e w9 ⟨rfl, hB9⟩
      have hb9 : RowKit.Below w8.heap.size w8 w9 := ((Below.refl _ w8).alloc (Nat.le_refl _) _).trans (hB9.mono (by simp))
      clear cX hb hB9
      have cX := HC8.out w9 hb9
      go_wp2_with (fail)
      refine (hwd _).mono ?_
      rintro e w10 ⟨rfl, hB10⟩
      have hb10 := hb9.trans (hB10.mono hb9.size)
      clear cX hb9 hB10
      have cX := HC8.out w10 hb10
      go_wp2_with (fail)
      refine (hRt _ _ (Blk.new w10 _ _)).mono ?_
      rintro e w11 ⟨rfl, hB11⟩
      have hb11 : RowKit.Below w8.heap.size w8 w11 := (hb10.alloc hb10.size _).trans (hB11.mono (by have := hb10.size; simp; omega))
      clear cX hb10 hB11
      go_wp2_with (fail)
      go_ret2
      exact ⟨rfl, HB.out.trans (hb11.mono HB.out.size)⟩
    · skip
      obtain ⟨q4, q5, q6, q7, q8, q9, q10⟩ := Q.out
      have l1 := L1.out
      have l2 := L2.out
      have l3 := L3.out
      have lw := LW.out
      have g1 : (x.kind == 1) = false := by simp; omega
      have g2 : (x.kind == 2) = false := by simp; omega
      have g3 : (x.kind == 3) = false := by simp; omega
      have g4 : (x.kind == 4) = true := by simp; omega
      have g5 : (x.kind == 5) = false := by simp; omega
      have g6 : (x.kind != 6) = true := by simp; omega
      have hH : (nm x.id ++ numsL [x.known] ++ numsL [x.hour]).length ≤ 100 := by simp only [List.length_append]; omega
      have A1 := fun W => add_ok5 (a := nm x.id ++ numsL [x.known] ++ numsL [x.hour]) (b := [32]) (by omega) (by decide) W
      have A2 := fun W => add_ok5 (a := nm x.id ++ numsL [x.known] ++ numsL [x.hour] ++ [32]) (b := wordK x.kind) (by rw [List.length_append]; simp only [List.length_cons, List.length_nil]; omega) (by omega) W
      have hRt := fun W B k => row1_blk (nm x.id ++ numsL [x.known] ++ numsL [x.hour] ++ [32] ++ wordK x.kind) [x.loss, x.pack, x.from_] (by rw [List.length_append, List.length_append]; simp only [List.length_cons, List.length_nil]; omega) (by simp) (by simp; omega) W B k
      simp only [List.map_cons, List.map_nil, List.length_cons, List.length_nil, Nat.zero_add, Nat.reduceAdd] at hRt
      have hlast : ofL (nm x.id ++ numsL [x.known] ++ numsL [x.hour] ++ [32] ++ wordK x.kind ++ numsL [x.loss, x.pack, x.from_]) = ln := by
        rw [Hln.out, lineD, wordsD, headN, tailN]
        simp [hk, lineL_cons5, tailL5, numsL]
      rw [hlast] at hRt
      have hwd := Hwd.out
      have hR2 := HR2.out
      obtain ⟨s2, hs2⟩ : ∃ s, s = ofL (nm x.id ++ numsL [x.known] ++ numsL [x.hour]) := ⟨_, rfl⟩
      rw [← hs2] at hR2 A1
      clear hs2
      obtain ⟨s3, hs3⟩ : ∃ s, s = ofL (nm x.id ++ numsL [x.known] ++ numsL [x.hour] ++ [32]) := ⟨_, rfl⟩
      rw [← hs3] at A1 A2
      clear hs3
      obtain ⟨s4, hs4⟩ : ∃ s, s = ofL (nm x.id ++ numsL [x.known] ++ numsL [x.hour] ++ [32] ++ wordK x.kind) := ⟨_, rfl⟩
      rw [← hs4] at A2 hRt
      clear hs4
      obtain ⟨sw, hsw⟩ : ∃ s, s = ofL (wordK x.kind) := ⟨_, rfl⟩
      rw [← hsw] at A2 hwd
      clear hsw
      replace A1 : ∀ W, (Op.stringOp .add s2 ⟨#[32]⟩).run Tryz.prog W = .ok (.string s3) W := A1
      have Hk := Lib.hid hk
      clear hk hlast hH l1 l2 l3 lw q4 q5 q6 q7 q8 q9 q10 Q L1 L2 L3 LW Hln Hs1 HR2 Hwd
      have cX := HC8.out w8 (Below.refl _ _)
      have hb : RowKit.Below w8.heap.size w8 w8 := Below.refl _ _
      go_wp2_with (fail)
      refine (hR2 _ _ (Blk.new w8 _ _)).mono ?_
      rintro e w9 ⟨rfl, hB9⟩
      have hb9 : RowKit.Below w8.heap.size w8 w9 := ((Below.refl _ w8).alloc (Nat.le_refl _) _).trans (hB9.mono (by simp))
      clear cX hb hB9
      have cX := HC8.out w9 hb9
      go_wp2_with (fail)
      refine (hwd _).mono ?_
      rintro e w10 ⟨rfl, hB10⟩
      have hb10 := hb9.trans (hB10.mono hb9.size)
      clear cX hb9 hB10
      have cX := HC8.out w10 hb10
      go_wp2_with (fail)
      refine (hRt _ _ (Blk.new w10 _ _)).mono ?_
      rintro e w11 ⟨rfl, hB11⟩
      have hb11 : RowKit.Below w8.heap.size w8 w11 := (hb10.alloc hb10.size _).trans (hB11.mono (by have := hb10.size; simp; omega))
      clear cX hb10 hB11
      go_wp2_with (fail)
      go_ret2
      exact ⟨rfl, HB.out.trans (hb11.mono HB.out.size)⟩
    · skip
      obtain ⟨q4, q5, q6, q7, q8, q9, q10⟩ := Q.out
      have l1 := L1.out
      have l2 := L2.out
      have l3 := L3.out
      have lw := LW.out
      have g1 : (x.kind == 1) = false := by simp; omega
      have g2 : (x.kind == 2) = false := by simp; omega
      have g3 : (x.kind == 3) = false := by simp; omega
      have g4 : (x.kind == 4) = false := by simp; omega
      have g5 : (x.kind == 5) = true := by simp; omega
      have g6 : (x.kind != 6) = true := by simp; omega
      have hH : (nm x.id ++ numsL [x.known] ++ numsL [x.hour]).length ≤ 100 := by simp only [List.length_append]; omega
      have A1 := fun W => add_ok5 (a := nm x.id ++ numsL [x.known] ++ numsL [x.hour]) (b := [32]) (by omega) (by decide) W
      have A2 := fun W => add_ok5 (a := nm x.id ++ numsL [x.known] ++ numsL [x.hour] ++ [32]) (b := wordK x.kind) (by rw [List.length_append]; simp only [List.length_cons, List.length_nil]; omega) (by omega) W
      have hRt := fun W B k => row1_blk (nm x.id ++ numsL [x.known] ++ numsL [x.hour] ++ [32] ++ wordK x.kind) [x.of_] (by rw [List.length_append, List.length_append]; simp only [List.length_cons, List.length_nil]; omega) (by simp) (by simp; omega) W B k
      simp only [List.map_cons, List.map_nil, List.length_cons, List.length_nil, Nat.zero_add] at hRt
      have hlast : ofL (nm x.id ++ numsL [x.known] ++ numsL [x.hour] ++ [32] ++ wordK x.kind ++ numsL [x.of_]) = ln := by
        rw [Hln.out, lineD, wordsD, headN, tailN]
        simp [hk, lineL_cons5, tailL5, numsL]
      rw [hlast] at hRt
      have hwd := Hwd.out
      have hR2 := HR2.out
      obtain ⟨s2, hs2⟩ : ∃ s, s = ofL (nm x.id ++ numsL [x.known] ++ numsL [x.hour]) := ⟨_, rfl⟩
      rw [← hs2] at hR2 A1
      clear hs2
      obtain ⟨s3, hs3⟩ : ∃ s, s = ofL (nm x.id ++ numsL [x.known] ++ numsL [x.hour] ++ [32]) := ⟨_, rfl⟩
      rw [← hs3] at A1 A2
      clear hs3
      obtain ⟨s4, hs4⟩ : ∃ s, s = ofL (nm x.id ++ numsL [x.known] ++ numsL [x.hour] ++ [32] ++ wordK x.kind) := ⟨_, rfl⟩
      rw [← hs4] at A2 hRt
      clear hs4
      obtain ⟨sw, hsw⟩ : ∃ s, s = ofL (wordK x.kind) := ⟨_, rfl⟩
      rw [← hsw] at A2 hwd
      clear hsw
      replace A1 : ∀ W, (Op.stringOp .add s2 ⟨#[32]⟩).run Tryz.prog W = .ok (.string s3) W := A1
      have Hk := Lib.hid hk
      clear hk hlast hH l1 l2 l3 lw q4 q5 q6 q7 q8 q9 q10 Q L1 L2 L3 LW Hln Hs1 HR2 Hwd
      have cX := HC8.out w8 (Below.refl _ _)
      have hb : RowKit.Below w8.heap.size w8 w8 := Below.refl _ _
      go_wp2_with (fail)
      refine (hR2 _ _ (Blk.new w8 _ _)).mono ?_
      rintro e w9 ⟨rfl, hB9⟩
      have hb9 : RowKit.Below w8.heap.size w8 w9 := ((Below.refl _ w8).alloc (Nat.le_refl _) _).trans (hB9.mono (by simp))
      clear cX hb hB9
      have cX := HC8.out w9 hb9
      go_wp2_with (fail)
      refine (hwd _).mono ?_
      rintro e w10 ⟨rfl, hB10⟩
      have hb10 := hb9.trans (hB10.mono hb9.size)
      clear cX hb9 hB10
      have cX := HC8.out w10 hb10
      go_wp2_with (fail)
      refine (hRt _ _ (Blk.new w10 _ _)).mono ?_
      rintro e w11 ⟨rfl, hB11⟩
      have hb11 : RowKit.Below w8.heap.size w8 w11 := (hb10.alloc hb10.size _).trans (hB11.mono (by have := hb10.size; simp; omega))
      clear cX hb10 hB11
      go_wp2_with (fail)
      go_ret2
      exact ⟨rfl, HB.out.trans (hb11.mono HB.out.size)⟩
    · skip
      obtain ⟨q4, q5, q6, q7, q8, q9, q10⟩ := Q.out
      have l1 := L1.out
      have l2 := L2.out
      have l3 := L3.out
      have lw := LW.out
      have g1 : (x.kind == 1) = false := by simp; omega
      have g2 : (x.kind == 2) = false := by simp; omega
      have g3 : (x.kind == 3) = false := by simp; omega
      have g4 : (x.kind == 4) = false := by simp; omega
      have g5 : (x.kind == 5) = false := by simp; omega
      have g6 : (x.kind != 6) = false := by simp; omega
      have hH : (nm x.id ++ numsL [x.known]).length ≤ 100 := by simp only [List.length_append]; omega
      have A1 := fun W => add_ok5 (a := nm x.id ++ numsL [x.known]) (b := [32]) (by omega) (by decide) W
      have A2 := fun W => add_ok5 (a := nm x.id ++ numsL [x.known] ++ [32]) (b := wordK x.kind) (by rw [List.length_append]; simp only [List.length_cons, List.length_nil]; omega) (by omega) W
      have hRt := fun W B k => row1_blk (nm x.id ++ numsL [x.known] ++ [32] ++ wordK x.kind) [x.of_] (by rw [List.length_append, List.length_append]; simp only [List.length_cons, List.length_nil]; omega) (by simp) (by simp; omega) W B k
      simp only [List.map_cons, List.map_nil, List.length_cons, List.length_nil, Nat.zero_add] at hRt
      have hlast : ofL (nm x.id ++ numsL [x.known] ++ [32] ++ wordK x.kind ++ numsL [x.of_]) = ln := by
        rw [Hln.out, lineD, wordsD, headN, tailN]
        simp [hk, lineL_cons5, tailL5, numsL]
      rw [hlast] at hRt
      have hwd := Hwd.out
      have hR2 := HR2.out
      rw [← Hs1.out] at A1
      obtain ⟨s3, hs3⟩ : ∃ s, s = ofL (nm x.id ++ numsL [x.known] ++ [32]) := ⟨_, rfl⟩
      rw [← hs3] at A1 A2
      clear hs3
      obtain ⟨s4, hs4⟩ : ∃ s, s = ofL (nm x.id ++ numsL [x.known] ++ [32] ++ wordK x.kind) := ⟨_, rfl⟩
      rw [← hs4] at A2 hRt
      clear hs4
      obtain ⟨sw, hsw⟩ : ∃ s, s = ofL (wordK x.kind) := ⟨_, rfl⟩
      rw [← hsw] at A2 hwd
      clear hsw
      replace A1 : ∀ W, (Op.stringOp .add s1 ⟨#[32]⟩).run Tryz.prog W = .ok (.string s3) W := A1
      have Hk := Lib.hid hk
      clear hk hlast hH l1 l2 l3 lw q4 q5 q6 q7 q8 q9 q10 Q L1 L2 L3 LW Hln Hs1 HR2 Hwd
      have cX := HC8.out w8 (Below.refl _ _)
      have hb : RowKit.Below w8.heap.size w8 w8 := Below.refl _ _
      have hb9 := hb
      clear hb
      go_wp2_with (fail)
      refine (hwd _).mono ?_
      rintro e w10 ⟨rfl, hB10⟩
      have hb10 := hb9.trans (hB10.mono hb9.size)
      clear cX hb9 hB10
      have cX := HC8.out w10 hb10
      go_wp2_with (fail)
      refine (hRt _ _ (Blk.new w10 _ _)).mono ?_
      rintro e w11 ⟨rfl, hB11⟩
      have hb11 : RowKit.Below w8.heap.size w8 w11 := (hb10.alloc hb10.size _).trans (hB11.mono (by have := hb10.size; simp; omega))
      clear cX hb10 hB11
      go_wp2_with (fail)
      go_ret2
      exact ⟨rfl, HB.out.trans (hb11.mono HB.out.size)⟩

end Go.Proofs.YtmeomhojbobpbaaGreatDoor
