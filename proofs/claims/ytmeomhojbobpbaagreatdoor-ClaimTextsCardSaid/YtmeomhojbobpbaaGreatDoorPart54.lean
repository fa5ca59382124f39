import Derived.Test.YtmeomhojbobpbaaGreatDoorPart53
import Derived.Test.YtmeomhojbobpbaaGreatDoorPart05
import Derived.Test.YtmeomhojbobpbaaGreatDoorPart18
import Derived.Test.YtmeomhojbobpbaaGreatDoorPart19
import Derived.BigQuiet
namespace Go.Proofs.YtmeomhojbobpbaaGreatDoor
open Go.RowKit Lg Go.Sort Go.Shelf

theorem kindR_iff (l : Bs) (j : Nat) (h1 : 1 ≤ j) (h5 : j ≤ 5) : l = wordK (j : Int) ↔ kindR l = (j : Int) := by
  have hj : j = 1 ∨ j = 2 ∨ j = 3 ∨ j = 4 ∨ j = 5 := by omega
  have hk : kindR l = (if l = withdrawL then (5 : Int) else if l = claimL then 4 else if l = leftL then 3 else if l = soldL then 2 else if l = paidL then 1 else 0) := rfl
  rw [hk]
  rcases hj with rfl | rfl | rfl | rfl | rfl
  all_goals
    constructor
    · rintro rfl; decide
    · intro h
      repeat' split at h
      all_goals first
        | (rename_i e _; rw [e]; rfl)
        | (rename_i e; rw [e]; rfl)
        | (exfalso; revert h; decide)

theorem kindR_bd (l : Bs) : 0 ≤ kindR l ∧ kindR l ≤ 5 := by
  unfold kindR
  repeat' split
  all_goals omega

def foundK (q : Int) (j : Nat) : Int := if q < j then q else 0

theorem range_snoc5 (f : Nat → Int) (k : Nat) : (List.range (k + 1)).map f = (List.range k).map f ++ [f k] := by rw [List.range_succ, List.map_append]; rfl

theorem cI_one5 (x : Int) : ∀ u ∈ cI x, u.oneCell' = true := by
  intro u hu
  simp only [cI, List.mem_singleton] at hu
  subst hu
  rfl

theorem grown_name {n : Nat} {a w : World} (h : RowKit.Below n a w) : ∃ x, x = w ∧ RowKit.Below n a x := ⟨w, rfl, h⟩

theorem cell_setCells_other {W : World} {g B : Nat} (hne : g ≠ B) {o : Nat} (p : Nat) (vs : List Value) : (W.setCells B p vs).cell? ⟨g, o, none⟩ = W.cell? ⟨g, o, none⟩ := by
  unfold World.cell?
  rw [setCells_heap W B p vs g hne]

theorem flat_I (l : List Int) : l.flatMap cI = l.map (Value.int .i64) := by
  induction l with
  | nil => rfl
  | cons a r ih => rw [List.flatMap_cons, ih]; rfl

set_option maxRecDepth 100000 in
set_option maxHeartbeats 12800000 in
theorem read5_any (line : ByteArray) (hs : line.size ≤ 1000) (w : World) : Calls Tryz.prog 23 #[.string line] w (Gives w (.tuple #[aD (readD line).1, .int .i64 (readD line).2])) := by
  have hcu := fun W => words1_any line W hs
  have hB0 : RowKit.Below w.heap.size w (w.alloc (.cells #[.int .i64 0, .int .i64 0, .int .i64 0, .int .u8 0, .int .i64 0, .int .i64 0, .int .i64 0, .int .i64 0, .int .i64 0, .int .i64 0, .int .i64 0] 36)) := (Below.refl _ w).alloc (Nat.le_refl _) _
  have k0 := Blk.new w 36 #[.int .i64 0, .int .i64 0, .int .i64 0, .int .u8 0, .int .i64 0, .int .i64 0, .int .i64 0, .int .i64 0, .int .i64 0, .int .i64 0, .int .i64 0]
  have hx := reads_by (parse := parseRD) (fun x h => parseRD_words h) line _ _ (readD_spec line)
  obtain ⟨rr, hrr⟩ : ∃ rr, rr = readD line := ⟨_, rfl⟩
  rw [← hrr] at hx ⊢
  clear hrr
  obtain ⟨y, er⟩ := rr
  dsimp only at hx ⊢
  have Hx := Lib.hid hx
  clear hx
  obtain ⟨i0, hi0, hz0, hz1, hz2⟩ := info_parts infoI
  go_enter Tryz.func23, Tryz.ntmps23
  go_wp2_with (fail)
  refine (hcu _).mono ?_
  clear hcu
  rintro e w2 ⟨a, c, ws, rfl, hL, hwl, hws, hB2⟩
  have k2 := k0.below' hB2
  have hB2 := hB0.trans (hB2.mono hB0.size)
  clear k0 hB0
  have hm0 : 0 < ws.length := by
    rcases Nat.eq_zero_or_pos ws.length with h | h
    · exfalso
      have h1 : ws = [] := List.eq_nil_of_length_eq_zero h
      rw [h1] at hws
      exact cutL_ne5 _ hws.symm
    · exact h
  obtain ⟨b, off, rfl, hb, hcl⟩ := hL.wordCells hm0
  obtain ⟨W, hW⟩ : ∃ W, W = cutL line.data.toList := ⟨_, rfl⟩
  rw [← hW] at hws Hx
  clear hW
  have HWs := Lib.hid (fun (i : Nat) (s : ByteArray) (h : ws[i]? = some s) => (show W[i]? = some s.data.toList by rw [← hws, List.getElem?_map, h]; rfl))
  have HWn := Lib.hid (fun (i : Nat) (h : ws.length ≤ i) => (show W[i]? = none by rw [← hws, List.getElem?_map, List.getElem?_eq_none h]; rfl))
  have HWl := Lib.hid (show W.length = ws.length by rw [← hws, List.length_map])
  have HWg := Lib.hid (fun (i : Nat) (h : i < ws.length) => (⟨ws[i]'h, by simp⟩ : ∃ s, ws[i]? = some s))
  have HW := Lib.hid (show ∀ Wd, RowKit.Below w2.heap.size w2 Wd → ∀ i s, ws[i]? = some s → Wd.cell? ⟨b, off + i, none⟩ = some (.string s) from fun Wd hWd i s hi => (hWd.cell (p := ⟨b, off + i, none⟩) hb).trans (hcl i s hi))
  obtain ⟨m, hm⟩ : ∃ m, m = ws.length := ⟨_, rfl⟩
  rw [← hm] at HWn HWl HWg hwl hm0 ⊢
  clear hL hcl hws hm
  obtain ⟨N, hN⟩ : ∃ N : Nat → Int, N = numRD W := ⟨_, rfl⟩
  have HNd := Lib.hid hN
  clear hN
  obtain ⟨bR, hbR⟩ : ∃ bR, bR = w.heap.size := ⟨_, rfl⟩
  rw [← hbR] at k2 ⊢
  have HbR := Lib.hid hbR
  clear hbR
  have hbRl : bR < w2.heap.size := k2.lt
  have hbl : b < w2.heap.size := hb
  have HB2 := Lib.hid hB2
  have K2 := Lib.hid k2
  clear hb hB2 k2
  go_upto_region 2 with fail
  go_wp2_with (fail)
  go_loopw [5, 6] (fun o i wr => ∃ k : Nat, k ≤ 12 ∧ i = .int .i64 k ∧ wr.ownsRow w2.heap.size 3 1 o k (((List.range k).map N).flatMap cI) ∧ RowKit.Below w2.heap.size w2 wr) (fun _ i _ => 12 - (intOf i).toNat)
  case atStart => exact ⟨0, by omega, rfl, ⟨by simp, .inl ⟨rfl, rfl⟩⟩, Below.refl _ _⟩
  case round =>
  obtain ⟨k, hk, rfl, hor, hB⟩ := hrel
  by_cases hlt : k < 12
  · have hltz : (k : Int) < 12 := by omega
    have Hor := Lib.hid hor
    clear hor
    go_upto_region 7 with (first
      | (at_builtin; refine wpList_append_list rfl _ _ _ rfl w2.heap.size 3 i0 _ 1 8 Tryz.underlying30 hi0 hz0 hz1 hz2 rfl (by omega) _ _ _ rfl (Hor.out.alloc _) cI (fun _ => rfl) cI_one5 _ 1 _ [0] rfl (Lst.one1 (Blk.new _ _ _)) (by unfold maxLen; omega) (by omega) (by have := hB.size; simp; omega) ?_; intro v2 w4 hown2 hgrow2; have hB4 := below_of_grown (hB.alloc hB.size _) (Nat.le_refl _) hgrow2 (own_ge' Hor.out))
      | fail)
    rw [← List.flatMap_append] at hown2
    obtain ⟨g, cap, rfl, hg1, hg2⟩ := hown2.form (by omega)
    clear Hor hgrow2 hB
    by_cases hkm : k < m
    · have hkmz : (k : Int) < (m : Int) := by omega
      obtain ⟨s, hsk⟩ := HWg.out k hkm
      have cS := HW.out w4 hB4 k s hsk
      have hnk : numR s.data.toList = N k := by rw [HNd.out, numRD, HWs.out k s hsk]
      have hnum := fun W => number1_any s W
      rw [hnk] at hnum
      have d := hown2.cellAt k (by omega)
      have f := hown2.frozenAt k
      have hd : (((List.range k).map N ++ [0]).flatMap cI)[k]? = some (.int .i64 0) := by
        rw [flat_I, List.getElem?_map, List.getElem?_append_right (by simp)]
        simp
      rw [hd] at d
      have hst := (hown2.stored k (.int .i64 (N k))).1
      have hset : (((List.range k).map N ++ [0]).flatMap cI).set k (.int .i64 (N k)) = ((List.range (k + 1)).map N).flatMap cI := by
        rw [range_snoc5, flat_I, flat_I, List.map_append, List.map_append, List.set_append_right _ _ (by simp)]
        simp
      rw [hset] at hst
      have hb5 : RowKit.Below w2.heap.size w2 (w4.setCell ⟨g, k, none⟩ (.int .i64 (N k))) := hB4.setCell (p := ⟨g, k, none⟩) hg1 _
      have Hst := Lib.hid hst
      have Hb5 := Lib.hid hb5
      have hkc : k < k + 1 := by omega
      have hkcz : (k : Int) < ((k + 1 : Nat) : Int) := by omega
      clear hst hb5 hset hd hown2 hsk hnk hB4
      go_wp2_with (first | (go_at_call 88; (with_reducible refine (hnum _).mono ?_); rintro e w5 ⟨rfl, rfl⟩) | fail)
      go_roundw
      case rel => exact ⟨k + 1, by omega, by go_num, Hst.out, Hb5.out⟩
      case measure => simp [intOf]; omega
    · have hkmz : ¬ (k : Int) < (m : Int) := by omega
      have hnk : N k = 0 := by rw [HNd.out, numRD, HWn.out k (by omega)]
      have Hst := Lib.hid (show w4.ownsRow w2.heap.size 3 1 (.slice (some ⟨g, 0, none⟩) (k + 1) cap) (k + 1) (((List.range (k + 1)).map N).flatMap cI) by rw [range_snoc5, hnk]; exact hown2)
      have Hb5 := Lib.hid hB4
      clear hown2 hB4 hnk
      go_wp2_with (fail)
      go_roundw
      case rel => exact ⟨k + 1, by omega, by go_num, Hst.out, Hb5.out⟩
      case measure => simp [intOf]; omega
  obtain rfl : k = 12 := by omega
  obtain ⟨wl, hwl'⟩ : ∃ x, x = wr := ⟨_, rfl⟩
  subst hwl'
  obtain ⟨g, cap, rfl, hg1, hg2⟩ := hor.form (by omega)
  have HN := Lib.hid (show ∀ Wd, RowKit.Below wl.heap.size wl Wd → ∀ j, j < 12 → Wd.cell? ⟨g, j, none⟩ = some (.int .i64 (N j)) from fun Wd hWd j hj => by
    refine (hWd.cell (p := ⟨g, j, none⟩) hg2).trans ?_
    rw [hor.cellAt j (by omega), flat_I, List.getElem?_map, List.getElem?_map, List.getElem?_range hj]
    rfl)
  have HWl2 := Lib.hid (show ∀ Wd, RowKit.Below wl.heap.size wl Wd → ∀ i s, ws[i]? = some s → Wd.cell? ⟨b, off + i, none⟩ = some (.string s) from fun Wd hWd i s hi => HW.out Wd (hB.trans (hWd.mono hB.size)) i s hi)
  have hws := hB.size
  have hbRl : bR < wl.heap.size := by omega
  have hbl : b < wl.heap.size := by omega
  have kR := K2.out.below' hB
  have hBl := HB2.out.trans (hB.mono HB2.out.size)
  have HBl := Lib.hid hBl
  have KR := Lib.hid kR
  clear hor HW hB K2 HB2 kR hBl hg1 hk hlt
  have HS := Lib.hid (show ∀ Wd, RowKit.Below wl.heap.size wl Wd → Wd.cell? ⟨g, 0, none⟩ = some (.int .i64 (N 0)) ∧ Wd.cell? ⟨g, 1, none⟩ = some (.int .i64 (N 1)) from fun Wd h => ⟨HN.out Wd h 0 (by omega), HN.out Wd h 1 (by omega)⟩)
  go_upto_region 9 with fail
  go_cut [7] from 11 (fun c7 W' => ∃ B, c7 = .pointer (some ⟨B, 0, none⟩) ∧ wl.heap.size ≤ B ∧ Blk W' B #[.int .i64 (N 0), .int .i64 (N 1), .int .i64 0, .int .u8 0, .int .i64 0, .int .i64 0, .int .i64 0, .int .i64 0, .int .i64 0, .int .i64 0, .int .i64 0] 36 ∧ RowKit.Below wl.heap.size wl W')
  case first =>
    clear HWs HWn HWl HWg Hx HNd HbR HWl2 HN HBl KR
    go_region_held3 (fun w' => w'.cell? ⟨g, 0, none⟩ = some (.int .i64 (N 0)) ∧ w'.cell? ⟨g, 1, none⟩ = some (.int .i64 (N 1)))
      (((with_reducible refine HS.out _ ?_); repeat (first | (with_reducible assumption) | (with_reducible exact Below.refl _ _) | (with_reducible refine Below.alloc ?_ ?_ _) | (with_reducible refine Below.setCell ?_ ?_ _) | (with_reducible refine Below.drew ?_) | omega | (simp <;> omega) | (dsimp only; omega))))
      (fail)
    all_goals
      go_wp2_with fail
      go_meet
      refine ⟨_, rfl, Nat.le_refl _, ?_, ?_⟩
      · first
          | exact Blk.new _ _ _
          | exact ((((((((((((Blk.new wl 36 #[.int .i64 0, .int .i64 0, .int .i64 0, .int .u8 0, .int .i64 0, .int .i64 0, .int .i64 0, .int .i64 0, .int .i64 0, .int .i64 0, .int .i64 0]).setCell 0 (.int .i64 (N 0))).setCell 1 (.int .i64 (N 1))).setCell 2 (.int .i64 0)).setCell 3 (.int .u8 0)).setCell 4 (.int .i64 0)).setCell 5 (.int .i64 0)).setCell 6 (.int .i64 0)).setCell 7 (.int .i64 0)).setCell 8 (.int .i64 0)).setCell 9 (.int .i64 0)).setCell 10 (.int .i64 0))
      · repeat (first | (with_reducible assumption) | (with_reducible exact Below.refl _ _) | (with_reducible refine Below.alloc ?_ ?_ _) | (with_reducible refine Below.setCell ?_ ?_ _) | (with_reducible refine Below.drew ?_) | omega | (simp <;> omega) | (dsimp only; omega))
  obtain ⟨B, rfl, hBz, kB, hB⟩ := hcut
  obtain ⟨w3, hw3⟩ : ∃ x, x = wc := ⟨_, rfl⟩
  rw [← hw3] at kB hB ⊢
  clear hw3 HS
  have hgB : g ≠ B := by omega
  have hbB : b ≠ B := by omega
  have hRB : bR ≠ B := by omega
  obtain ⟨vb, hvb⟩ : ∃ vb, vb = decide (W[2]? = some voidL) := ⟨_, rfl⟩
  have Hvb := Lib.hid hvb
  clear hvb
  go_upto_region 10 with fail
  go_cut [47] from 48 (fun c W' => c = .bool vb ∧ W' = w3)
  case first =>
    by_cases hm2 : 2 < m
    · have hmz : (2 : Int) < (m : Int) := by omega
      have hmd : decide ((2 : Int) < (m : Int)) = true := decide_eq_true hmz
      obtain ⟨s2, hs2⟩ := HWg.out 2 hm2
      have c2 := HWl2.out w3 hB 2 s2 hs2
      have hW2 := HWs.out 2 s2 hs2
      have hvb := Hvb.out
      rw [hW2] at hvb
      have he : (s2.toList == [118, 111, 105, 100]) = vb := by
        rw [hvb, ByteArray.toList_eq]
        by_cases h : s2.data.toList = voidL
        · rw [h]; rfl
        · rw [decide_eq_false (fun e => h (Option.some.inj e))]
          simp only [beq_eq_false_iff_ne]
          exact h
      clear hW2 hvb Hvb hs2
      cases vb <;> (go_wp2_with fail; go_meet; exact ⟨rfl, rfl⟩)
    · have hmz : ¬ (2 : Int) < (m : Int) := by omega
      have hmd : decide ((2 : Int) < (m : Int)) = false := decide_eq_false hmz
      have hvb := Hvb.out
      rw [HWn.out 2 (by omega)] at hvb
      subst hvb
      go_wp2_with fail
      go_meet
      exact ⟨rfl, rfl⟩
  obtain ⟨rfl, hwc⟩ := hcut
  obtain ⟨w4, hw4⟩ : ∃ x, x = wc := ⟨_, rfl⟩
  rw [← hw4] at hwc ⊢
  subst hwc
  clear hw4
  go_upto_if 47 with fail
  obtain ⟨x, hxp⟩ : ∃ x, x = parseRD W := ⟨_, rfl⟩
  rw [← hxp] at Hx
  have Hxp := Lib.hid hxp
  clear hxp
  go_cut [8] from 48 (fun _ W' => Blk W' B (cD x).toArray 36 ∧ RowKit.Below wl.heap.size wl W')
  case first =>
    clear Hx HBl KR HbR
    have hvb := Hvb.out
    have n0 : numRD W 0 = N 0 := by rw [HNd.out]
    have n1 : numRD W 1 = N 1 := by rw [HNd.out]
    cases vb with
    | true =>
      have hW2 : W[2]? = some voidL := by simpa using hvb.symm
      have hxe : x = ⟨N 0, N 1, 0, 6, 0, 0, 0, 0, ⟨0, 0⟩, N 3⟩ := by rw [Hxp.out, parseRD, if_pos hW2, n0, n1, HNd.out]
      have c3 := HN.out w4 hB 3 (by omega)
      have eB := kB.cell
      have gB := kB.frozen
      have lB := kB.lt
      have kF : Blk ((w4.setCell ⟨B, 3, none⟩ (.int .u8 6)).setCell ⟨B, 10, none⟩ (.int .i64 (N 3))) B (cD x).toArray 36 := by
        rw [hxe]; exact (kB.setCell 3 (.int .u8 6)).setCell 10 (.int .i64 (N 3))
      have hF : RowKit.Below wl.heap.size wl ((w4.setCell ⟨B, 3, none⟩ (.int .u8 6)).setCell ⟨B, 10, none⟩ (.int .i64 (N 3))) := (hB.setCell (p := ⟨B, 3, none⟩) hBz _).setCell (p := ⟨B, 10, none⟩) hBz _
      have KF := Lib.hid kF
      have HF := Lib.hid hF
      clear hxe hW2 hvb Hvb kF hF kB hB n0 n1
      go_wp2_with fail
      go_meet
      exact ⟨KF.out, HF.out⟩
    | false =>
    have hW2 : ¬ W[2]? = some voidL := by simpa using hvb.symm
    clear hvb Hvb
    by_cases hm3 : 3 < m
    rotate_left
    · have hmz : ¬ (3 : Int) < (m : Int) := by omega
      have hxe : x = ⟨N 0, N 1, 0, 0, 0, 0, 0, 0, ⟨0, 0⟩, 0⟩ := by rw [Hxp.out, parseRD, if_neg hW2, if_pos (by rw [HWl.out]; omega), n0, n1]
      have KF := Lib.hid (show Blk w4 B (cD x).toArray 36 by rw [hxe]; exact kB)
      have HF := Lib.hid hB
      clear hxe hW2 kB hB n0 n1
      go_wp2_with fail
      go_meet
      exact ⟨KF.out, HF.out⟩
    have hmz : (3 : Int) < (m : Int) := by omega
    obtain ⟨s3, hs3⟩ := HWg.out 3 hm3
    obtain ⟨q, hq⟩ : ∃ q, q = kindR s3.data.toList := ⟨_, rfl⟩
    have hqb := kindR_bd s3.data.toList
    rw [← hq] at hqb
    have hW3 : W.getD 3 [] = s3.data.toList := by rw [List.getD_eq_getElem?_getD, HWs.out 3 s3 hs3]; rfl
    have hx5 : q = 5 → x = ⟨N 0, N 1, N 2, 5, 0, 0, 0, 0, ⟨0, 0⟩, N 4⟩ := fun h => by
      rw [Hxp.out, parseRD, if_neg hW2, if_neg (by rw [HWl.out]; omega), hW3, ← hq, if_pos h, n0, n1, HNd.out]
    have hx0 : q ≠ 5 → x = ⟨N 0, N 1, N 2, q, N 4, N 5, N 6, N 7, ⟨N 8, N 9⟩, 0⟩ := fun h => by
      rw [Hxp.out, parseRD, if_neg hW2, if_neg (by rw [HWl.out]; omega), hW3, ← hq, if_neg h, n0, n1, HNd.out]
    have Hx5 := Lib.hid hx5
    have Hx0 := Lib.hid hx0
    have HC3 := Lib.hid (fun Wd (h : RowKit.Below wl.heap.size wl Wd) => HWl2.out Wd h 3 s3 hs3)
    have Hq := Lib.hid hq
    have KB := Lib.hid kB
    have HB := Lib.hid hB
    clear hx5 hx0 hW3 hs3 hW2 n0 n1 HWl2 HWs HWn HWg HWl Hxp HNd hq kB hB
    have e1 : foundK q 1 = 0 := by unfold foundK; split <;> omega
    have KB1 := Lib.hid (show Blk w4 B #[.int .i64 (N 0), .int .i64 (N 1), .int .i64 0, .int .u8 (foundK q 1), .int .i64 0, .int .i64 0, .int .i64 0, .int .i64 0, .int .i64 0, .int .i64 0, .int .i64 0] 36 by rw [e1]; exact KB.out)
    clear e1 KB
    go_upto_region 15 with fail
    go_wp2_with (fail)
    go_loopw [8] (fun kk wr => ∃ j : Nat, 1 ≤ j ∧ j ≤ 6 ∧ kk = .int .u8 j ∧ Hid (Blk wr B #[.int .i64 (N 0), .int .i64 (N 1), .int .i64 0, .int .u8 (foundK q j), .int .i64 0, .int .i64 0, .int .i64 0, .int .i64 0, .int .i64 0, .int .i64 0, .int .i64 0] 36) ∧ Hid (RowKit.Below wl.heap.size wl wr)) (fun kk _ => 6 - (intOf kk).toNat)
    case atStart => exact ⟨1, by omega, by omega, rfl, KB1, HB⟩
    case round =>
      obtain ⟨j, hj1, hj6, rfl, KBr, HBr⟩ := hrel
      by_cases hlt : j < 6
      · have hltz : (j : Int) < 6 := by omega
        have wj : IntKind.u8.wrap ((j : Int) + 1) = (j : Int) + 1 := by rw [IntKind.wrap_u8]; omega
        obtain ⟨sj, hsj⟩ : ∃ s, s = ofL (wordK (j : Int)) := ⟨_, rfl⟩
        have hwd := fun W' (h : RowKit.Below wr.heap.size wr W') => word5_any (j : Int) (by omega) (by omega) W'
        rw [← hsj] at hwd
        have cF := regrown_call (w := wr) (v := .string sj) hwd
        have c3 := cell_regrown (HC3.out wr HBr.out)
        have hiff := kindR_iff s3.data.toList j hj1 (by omega)
        rw [← Hq.out] at hiff
        by_cases hqj : q = (j : Int)
        · have he : (sj.toList == s3.toList) = true := by
            rw [ByteArray.toList_eq, ByteArray.toList_eq, hiff.2 hqj, hsj]
            simp
          have hf : foundK q (j + 1) = (j : Int) := by unfold foundK; rw [if_pos (by omega), hqj]
          have Hf := Lib.hid hf
          clear hiff hsj hwd hqj hf
          go_wp2_with (fail)
          refine wp_region_quiet_below (by kernel_rfl) (by kernel_rfl) ?_
          repeat (go_big_quiet_step (with_reducible exact cF _ _))
          refine wpQuiet_nil ?_
          intro _ hw'
          obtain ⟨⟨dq, osq⟩, hw''⟩ := hw'
          subst hw''
          obtain ⟨w5, hw5, hBn⟩ := grown_name (below_regrown wr dq osq)
          rw [← hw5]
          have kB2 := KBr.out.below' hBn
          have hB2 := HBr.out.trans (hBn.mono HBr.out.size)
          clear cF c3 hBn hw5
          have eB := kB2.cell
          have gB := kB2.frozen
          have lB := kB2.lt
          have KN := Lib.hid (show Blk (w5.setCell ⟨B, 3, none⟩ (.int .u8 j)) B #[.int .i64 (N 0), .int .i64 (N 1), .int .i64 0, .int .u8 (foundK q (j + 1)), .int .i64 0, .int .i64 0, .int .i64 0, .int .i64 0, .int .i64 0, .int .i64 0, .int .i64 0] 36 by rw [Hf.out]; exact kB2.setCell 3 (.int .u8 j))
          have HBN := Lib.hid (show RowKit.Below wl.heap.size wl (w5.setCell ⟨B, 3, none⟩ (.int .u8 j)) from hB2.setCell (p := ⟨B, 3, none⟩) hBz _)
          clear kB2 hB2 KBr HBr
          go_wp2_with (fail)
          go_roundw
          case rel => exact ⟨j + 1, by omega, by omega, by go_num, KN, HBN⟩
          case measure => simp [intOf]; omega
        · have he : (sj.toList == s3.toList) = false := by
            rw [ByteArray.toList_eq, ByteArray.toList_eq, hsj]
            simp only [beq_eq_false_iff_ne]
            intro h
            exact hqj (hiff.1 (by rw [← h]))
          have hf : foundK q (j + 1) = foundK q j := by unfold foundK; split <;> split <;> omega
          have Hf := Lib.hid hf
          clear hiff hsj hwd hqj hf
          go_wp2_with (fail)
          refine wp_region_quiet_below (by kernel_rfl) (by kernel_rfl) ?_
          repeat (go_big_quiet_step (with_reducible exact cF _ _))
          refine wpQuiet_nil ?_
          intro _ hw'
          obtain ⟨⟨dq, osq⟩, hw''⟩ := hw'
          subst hw''
          have hBn := below_regrown wr dq osq
          have KN := Lib.hid (show Blk _ B #[.int .i64 (N 0), .int .i64 (N 1), .int .i64 0, .int .u8 (foundK q (j + 1)), .int .i64 0, .int .i64 0, .int .i64 0, .int .i64 0, .int .i64 0, .int .i64 0, .int .i64 0] 36 by rw [Hf.out]; exact KBr.out.below' hBn)
          have HBN := Lib.hid (HBr.out.trans (hBn.mono HBr.out.size))
          clear cF c3 hBn KBr HBr
          go_wp2_with (fail)
          go_roundw
          case rel => exact ⟨j + 1, by omega, by omega, by go_num, KN, HBN⟩
          case measure => simp [intOf]; omega
      · obtain rfl : j = 6 := by omega
        have hf : foundK q 6 = q := by unfold foundK; rw [if_pos (by omega)]
        have kB := KBr.out
        rw [hf] at kB
        have hB := HBr.out
        clear KBr HBr hf hlt hj1 hj6
        have c2 := HN.out wr hB 2 (by omega)
        have eB := kB.cell
        have gB := kB.frozen
        have lB := kB.lt
        go_upto_region 20 with fail
        obtain ⟨w5, hw5⟩ : ∃ x, x = wr.setCell ⟨B, 2, none⟩ (.int .i64 (N 2)) := ⟨_, rfl⟩
        rw [← hw5]
        have kB := (show Blk w5 B #[.int .i64 (N 0), .int .i64 (N 1), .int .i64 (N 2), .int .u8 q, .int .i64 0, .int .i64 0, .int .i64 0, .int .i64 0, .int .i64 0, .int .i64 0, .int .i64 0] 36 from hw5 ▸ kB.setCell 2 (.int .i64 (N 2)))
        have hB := (show RowKit.Below wl.heap.size wl w5 from hw5 ▸ hB.setCell (p := ⟨B, 2, none⟩) hBz _)
        clear hw5 c2 eB gB lB
        have eB := kB.cell
        have gB := kB.frozen
        have lB := kB.lt
        have c4 := HN.out w5 hB 4 (by omega)
        by_cases hq5 : q = 5
        · have g5 : (q == 5) = true := by simpa using hq5
          have hxe := Hx5.out hq5
          have KF := Lib.hid (show Blk (w5.setCell ⟨B, 10, none⟩ (.int .i64 (N 4))) B (cD x).toArray 36 by rw [hxe]; rw [hq5] at kB; exact kB.setCell 10 (.int .i64 (N 4)))
          have HF := Lib.hid (show RowKit.Below wl.heap.size wl (w5.setCell ⟨B, 10, none⟩ (.int .i64 (N 4))) from hB.setCell (p := ⟨B, 10, none⟩) hBz _)
          clear hq5 hxe kB hB Hx5 Hx0
          go_wp2_with fail
          go_meet
          exact ⟨KF.out, HF.out⟩
        have g5 : (q == 5) = false := by simpa using hq5
        have hxe := Hx0.out hq5
        have Hxe := Lib.hid hxe
        have c5 := HN.out w5 hB 5 (by omega)
        have c6 := HN.out w5 hB 6 (by omega)
        have c7 := HN.out w5 hB 7 (by omega)
        clear hq5 hxe Hx5 Hx0
        go_upto_region 26 with fail
        obtain ⟨w6, hw6⟩ : ∃ x, x = (((w5.setCell ⟨B, 4, none⟩ (.int .i64 (N 4))).setCell ⟨B, 5, none⟩ (.int .i64 (N 5))).setCell ⟨B, 6, none⟩ (.int .i64 (N 6))).setCell ⟨B, 7, none⟩ (.int .i64 (N 7)) := ⟨_, rfl⟩
        rw [← hw6]
        have kB := (show Blk w6 B #[.int .i64 (N 0), .int .i64 (N 1), .int .i64 (N 2), .int .u8 q, .int .i64 (N 4), .int .i64 (N 5), .int .i64 (N 6), .int .i64 (N 7), .int .i64 0, .int .i64 0, .int .i64 0] 36 from hw6 ▸ (((kB.setCell 4 (.int .i64 (N 4))).setCell 5 (.int .i64 (N 5))).setCell 6 (.int .i64 (N 6))).setCell 7 (.int .i64 (N 7)))
        have hB := (show RowKit.Below wl.heap.size wl w6 from hw6 ▸ (((hB.setCell (p := ⟨B, 4, none⟩) hBz _).setCell (p := ⟨B, 5, none⟩) hBz _).setCell (p := ⟨B, 6, none⟩) hBz _).setCell (p := ⟨B, 7, none⟩) hBz _)
        clear hw6 eB gB lB c4 c5 c6 c7
        have hS0 : (w6.cell? ⟨g, 8, none⟩ = some (.int .i64 (N 8)) ∧ w6.cell? ⟨g, 9, none⟩ = some (.int .i64 (N 9))) ∧ RowKit.Below wl.heap.size wl w6 := ⟨⟨HN.out w6 hB 8 (by omega), HN.out w6 hB 9 (by omega)⟩, hB⟩
        clear hB HN HC3 Hq
        refine wp_region_T (fun W' => (W'.cell? ⟨g, 8, none⟩ = some (.int .i64 (N 8)) ∧ W'.cell? ⟨g, 9, none⟩ = some (.int .i64 (N 9))) ∧ RowKit.Below wl.heap.size wl W') (fun W' => Blk W' B #[.int .i64 (N 0), .int .i64 (N 1), .int .i64 (N 2), .int .u8 q, .int .i64 (N 4), .int .i64 (N 5), .int .i64 (N 6), .int .i64 (N 7), .int .i64 0, .int .i64 0, .int .i64 0] 36) 8 (by kernel_rfl) ⟨hS0.1, hS0.2.trans ((Below.refl _ _).drew.mono hS0.2.size)⟩ kB.drew (fun hS hT => ?_)
        refine wpAnyT_takeS (i := 0) (v := .slice (some ⟨g, 0, none⟩) 12 cap) rfl (by kernel_rfl) (by kernel_rfl) (by kernel_rfl) rfl (fun _ _ _ h => h) (Or.inl ⟨by kernel_rfl, fun _ _ => by kernel_rfl⟩) hS (fun _ => hT) ?_
        try simp only [List.getElem_toArray, List.getElem_cons_zero]
        try dsimp only
        try simp only [Act.put, List.setIfInBounds_toArray, List.set_cons_zero, List.set_cons_succ]
        refine wpAnyT_takeS (i := 1) (v := .pointer (some ⟨g, 8, none⟩)) rfl (by kernel_rfl) (by kernel_rfl) (by kernel_rfl) rfl (fun _ _ _ h => h) (Or.inl ⟨by kernel_rfl, fun W hW => by go_simp⟩) hS (fun _ => hT) ?_
        try simp only [List.getElem_toArray, List.getElem_cons_succ, List.getElem_cons_zero]
        try dsimp only
        try simp only [Act.put, List.setIfInBounds_toArray, List.set_cons_zero, List.set_cons_succ]
        refine wpAnyT_takeS (i := 2) (v := .int .i64 (N 8)) rfl (by kernel_rfl) (by kernel_rfl) (by kernel_rfl) rfl (fun _ _ _ h => h) (Or.inl ⟨by kernel_rfl, fun W hW => by have e := hW.1.1; go_simp⟩) hS (fun _ => hT) ?_
        try simp only [List.getElem_toArray, List.getElem_cons_succ, List.getElem_cons_zero]
        try dsimp only
        try simp only [Act.put, List.setIfInBounds_toArray, List.set_cons_zero, List.set_cons_succ]
        refine wpAnyT_takeS (i := 3) (v := .slice (some ⟨g, 0, none⟩) 12 cap) rfl (by kernel_rfl) (by kernel_rfl) (by kernel_rfl) rfl (fun _ _ _ h => h) (Or.inl ⟨by kernel_rfl, fun _ _ => by kernel_rfl⟩) hS (fun _ => hT) ?_
        try simp only [List.getElem_toArray, List.getElem_cons_succ, List.getElem_cons_zero]
        try dsimp only
        try simp only [Act.put, List.setIfInBounds_toArray, List.set_cons_zero, List.set_cons_succ]
        refine wpAnyT_takeS (i := 4) (v := .pointer (some ⟨g, 9, none⟩)) rfl (by kernel_rfl) (by kernel_rfl) (by kernel_rfl) rfl (fun _ _ _ h => h) (Or.inl ⟨by kernel_rfl, fun W hW => by go_simp⟩) hS (fun _ => hT) ?_
        try simp only [List.getElem_toArray, List.getElem_cons_succ, List.getElem_cons_zero]
        try dsimp only
        try simp only [Act.put, List.setIfInBounds_toArray, List.set_cons_zero, List.set_cons_succ]
        refine wpAnyT_takeS (i := 5) (v := .int .i64 (N 9)) rfl (by kernel_rfl) (by kernel_rfl) (by kernel_rfl) rfl (fun _ _ _ h => h) (Or.inl ⟨by kernel_rfl, fun W hW => by have e := hW.1.2; go_simp⟩) hS (fun _ => hT) ?_
        try simp only [List.getElem_toArray, List.getElem_cons_succ, List.getElem_cons_zero]
        try dsimp only
        try simp only [Act.put, List.setIfInBounds_toArray, List.set_cons_zero, List.set_cons_succ]
        refine wpAnyT_takeS (i := 6) (v := .agg (cF ⟨N 8, N 9⟩).toArray) rfl (by kernel_rfl) (by kernel_rfl) (by kernel_rfl) rfl (fun _ _ _ h => h) (Or.inl ⟨by kernel_rfl, fun W hW => by go_simp⟩) hS (fun _ => hT) ?_
        try simp only [List.getElem_toArray, List.getElem_cons_succ, List.getElem_cons_zero]
        try dsimp only
        try simp only [Act.put, List.setIfInBounds_toArray, List.set_cons_zero, List.set_cons_succ]
        refine wpAnyT_takeS (i := 7) (v := .pointer (some ⟨B, 8, none⟩)) rfl (by kernel_rfl) (by kernel_rfl) (by kernel_rfl) rfl (fun _ _ _ h => h) (Or.inl ⟨by kernel_rfl, fun W hW => by go_simp⟩) hS (fun _ => hT) ?_
        try simp only [List.getElem_toArray, List.getElem_cons_succ, List.getElem_cons_zero]
        try dsimp only
        try simp only [Act.put, List.setIfInBounds_toArray, List.set_cons_zero, List.set_cons_succ]
        refine wpAnyT_one (j := 8) rfl (by kernel_rfl) (by kernel_rfl) (fun K hK => ?_)
        refine oper_store_mid 25 _ _ rfl B 8 (cF ⟨N 8, N 9⟩).toArray rfl rfl (hT.there 8 _ (by simp)) (by kernel_rfl) (by simp [Value.oneCell']) ?_
        have kF := hT.setCells 8 (cF ⟨N 8, N 9⟩)
        refine hK.out _ _ (show (World.cell? (World.setCells _ B 8 (cF ⟨N 8, N 9⟩)) ⟨g, 8, none⟩ = some (.int .i64 (N 8)) ∧ World.cell? (World.setCells _ B 8 (cF ⟨N 8, N 9⟩)) ⟨g, 9, none⟩ = some (.int .i64 (N 9))) ∧ RowKit.Below wl.heap.size wl (World.setCells _ B 8 (cF ⟨N 8, N 9⟩)) from ⟨⟨(cell_setCells_other hgB _ _).trans hS.1.1, (cell_setCells_other hgB _ _).trans hS.1.2⟩, below_setCells hS.2 hBz _ _⟩) (fun q => by cases (show (true : Bool) = false from q)) ?_
        try simp only [List.getElem_toArray, List.getElem_cons_succ, List.getElem_cons_zero]
        try dsimp only
        try simp only [Act.put]
        refine wpAnyT_done (by kernel_rfl) ?_ _
        go_wp2_with fail
        go_meet
        exact ⟨by rw [Hxe.out]; exact kF, below_setCells hS.2 hBz _ _⟩
  obtain ⟨kB, hB⟩ := hcut
  obtain ⟨w7, hw7⟩ : ∃ x, x = wc := ⟨_, rfl⟩
  rw [← hw7] at kB hB ⊢
  clear hw7
  have kR := KR.out.below' hB
  have hb := HBl.out.trans (hB.mono HBl.out.size)
  have hwr := fun W => write5_any x W
  clear KR HBl hB Hxp HN HWl2 HWs HWn HWg HWl HNd Hvb
  rcases Hx.out with ⟨hf, hl, rfl, rfl⟩ | ⟨hn, rfl, rfl⟩
  · have hw : writeD y = (line, 0) := by unfold writeD; rw [if_pos hf, hl]
    rw [hw] at hwr
    have he2 : (line.toList != line.toList) = false := by simp
    clear hw hf hl Hx
    go_wp2_with (first
      | (refine wpList_load_mid rfl 36 (.tmp 7) rfl B 0 rfl (cD y) _ (kB.range 0 _ (fun j v h => by simpa using h)) Tryz.underlying36 rfl (by kernel_rfl) ?_)
      | fail)
    refine (hwr _).mono ?_
    clear hwr
    rintro e w9 ⟨rfl, hB9⟩
    have kB9 := kB.below' hB9
    have kR9 := kR.below' hB9
    have hb9 := hb.trans (hB9.mono hb.size)
    clear kB kR hB9 hb
    have eZ := kR9.cell
    have gZ := kR9.frozen
    have lZ := kR9.lt
    go_wp2_with (first
      | (refine wpList_load_mid rfl 36 (.tmp 7) rfl B 0 rfl (cD y) _ (kB9.range 0 _ (fun j v h => by simpa using h)) Tryz.underlying36 rfl (by kernel_rfl) ?_)
      | fail)
    rw [putDD]
    have kF : Blk (w9.setCells bR 0 (cD y)) bR (cD y).toArray 36 := by
      have q := kR9.setCells 0 (cD y)
      rwa [setAll_zeroD y] at q
    (try simp only [Exit.inBlock, Exit.then]); refine bodyPost_ret (results_cell_tmp rfl _ _ bR 36 (cD y) _ rfl kF Tryz.underlying36 rfl (by kernel_rfl)) rfl ?_
    exact ⟨rfl, below_setCells hb9 (Nat.le_of_eq HbR.out.symm) 0 _⟩
  · obtain ⟨ln, we, hw, hq⟩ : ∃ ln we, writeD x = (ln, we) ∧ (we = 1 ∨ (we = 0 ∧ (ln.toList == line.toList) = false)) := by
      cases hf : formedD x with
      | false => exact ⟨⟨#[]⟩, 1, by unfold writeD; rw [hf]; rfl, .inl rfl⟩
      | true =>
        refine ⟨lineD x, 0, by unfold writeD; rw [hf]; rfl, .inr ⟨rfl, ?_⟩⟩
        have h := toList_beq (lineD x) line
        rwa [decide_eq_false (hn hf)] at h
    rw [hw] at hwr
    clear hw hn Hx
    rcases hq with rfl | ⟨rfl, he2⟩
    all_goals
      go_wp2_with (first
        | (refine wpList_load_mid rfl 36 (.tmp 7) rfl B 0 rfl (cD x) _ (kB.range 0 _ (fun j v h => by simpa using h)) Tryz.underlying36 rfl (by kernel_rfl) ?_)
        | fail)
      refine (hwr _).mono ?_
      clear hwr
      rintro e w9 ⟨rfl, hB9⟩
      have kB9 := kB.below' hB9
      have kR9 := kR.below' hB9
      have hb9 := hb.trans (hB9.mono hb.size)
      clear kB kR hB9 hb
      have eZ := kR9.cell
      have gZ := kR9.frozen
      have lZ := kR9.lt
      go_wp2_with (first
        | (refine wpList_load_mid rfl 36 (.tmp 7) rfl B 0 rfl (cD x) _ (kB9.range 0 _ (fun j v h => by simpa using h)) Tryz.underlying36 rfl (by kernel_rfl) ?_)
        | fail)
      rw [putDD]
      have kF : Blk (w9.setCells bR 0 (cD zeroDeed)) bR (cD zeroDeed).toArray 36 := by
        have q := kR9.setCells 0 (cD zeroDeed)
        rwa [setAll_zeroD zeroDeed] at q
      (try simp only [Exit.inBlock, Exit.then]); refine bodyPost_ret (results_cell_tmp rfl _ _ bR 36 (cD zeroDeed) _ rfl kF Tryz.underlying36 rfl (by kernel_rfl)) rfl ?_
      exact ⟨rfl, below_setCells hb9 (Nat.le_of_eq HbR.out.symm) 0 _⟩

end Go.Proofs.YtmeomhojbobpbaaGreatDoor
