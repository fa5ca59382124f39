import Derived.Test.YtmeomhojbobpbaaGreatDoorPart17
import Derived.Test.YtmeomhojbobpbaaGreatDoorPart06
import Derived.Deep.RegionHeld3
import Derived.Deep.CutBlock
import Derived.BigQuiet
/-
  Walk: claim.parsed.
-/
namespace Go.Proofs.YtmeomhojbobpbaaGreatDoor
open Go.RowKit Lg Go.Sort Go.Shelf

theorem putDD (w : World) (B : Nat) (a1 a2 a3 a4 a5 a6 a7 a8 a9 a10 a11 : Value) : (((((((((((w.setCell ⟨B, 0, none⟩ a1).setCell ⟨B, 1, none⟩ a2).setCell ⟨B, 2, none⟩ a3).setCell ⟨B, 3, none⟩ a4).setCell ⟨B, 4, none⟩ a5).setCell ⟨B, 5, none⟩ a6).setCell ⟨B, 6, none⟩ a7).setCell ⟨B, 7, none⟩ a8).setCell ⟨B, 8, none⟩ a9).setCell ⟨B, 9, none⟩ a10).setCell ⟨B, 10, none⟩ a11) = w.setCells B 0 [a1, a2, a3, a4, a5, a6, a7, a8, a9, a10, a11] := rfl

set_option maxRecDepth 100000 in
set_option maxHeartbeats 6400000 in
theorem parsed_any (line : ByteArray) (w : World) (hV : Vs w) (hs : line.size ≤ 1000) : Calls Tryz.prog 86 #[.string line] w (Gives w (aD (parseD (cutL line.data.toList)))) := by
  have hmf : ∀ (fn : Fn) (first cap : Array Value) (w : World), (Instr.makeFunc fn first cap).run Tryz.prog w = .ok (.func fn first cap) w := fun _ _ _ _ => rfl
  have hV1 : Vs (w.alloc (.cells #[.int .i64 0, .int .i64 0, .int .i64 0, .int .u8 0, .int .i64 0, .int .i64 0, .int .i64 0, .int .i64 0, .int .i64 0, .int .i64 0, .int .i64 0] 36)) := hV.below ((Below.refl _ w).alloc (Nat.le_refl _) _)
  obtain ⟨m, hm⟩ := hV1.max
  have hSp := Tryz.strings_Split line ⟨#[32]⟩ m _ (by omega) hm (by decide)
  have hwl := splitW_len line
  have hws := splitW_size line
  have hN := count_le line
  rw [← splitW_map line]
  generalize Lib.splitB ⟨#[32]⟩ 0 (Lib.countB line ⟨#[32]⟩) line = wl at *
  generalize Lib.countB line ⟨#[32]⟩ = N at *
  obtain ⟨w3, hw3⟩ : ∃ w3, w3 = ((w.alloc (.cells #[.int .i64 0, .int .i64 0, .int .i64 0, .int .u8 0, .int .i64 0, .int .i64 0, .int .i64 0, .int .i64 0, .int .i64 0, .int .i64 0, .int .i64 0] 36)).alloc (.cells (wl.map Value.string).toArray 9)).alloc (.cells #[.slice (some ⟨w.heap.size + 1, 0, none⟩) (N + 1) (N + 1)] 100) := ⟨_, rfl⟩
  have hB3 : RowKit.Below w.heap.size w w3 := by
    rw [hw3]
    refine Below.alloc (Below.alloc (Below.alloc (Below.refl _ _) ?_ _) ?_ _) ?_ _
    all_goals (simp; try omega)
  have kZ : Blk w3 w.heap.size #[.int .i64 0, .int .i64 0, .int .i64 0, .int .u8 0, .int .i64 0, .int .i64 0, .int .i64 0, .int .i64 0, .int .i64 0, .int .i64 0, .int .i64 0] 36 := hw3 ▸ ((Blk.new w _ _).alloc _).alloc _
  have kS : Blk w3 (w.heap.size + 1) (wl.map Value.string).toArray 9 := hw3 ▸ (Blk.new1 _ _ _ _).alloc _
  have k3 : Blk w3 (w.heap.size + 1 + 1) #[.slice (some ⟨w.heap.size + 1, 0, none⟩) (N + 1) (N + 1)] 100 := hw3 ▸ Blk.new2 _ _ _ _ _
  have hV3 := hV.below hB3
  have hLs : Lst w3 1 cW (some ⟨w.heap.size + 1, 0, none⟩) (N + 1) (N + 1) wl := by
    refine ⟨hwl, Nat.le_refl _, by unfold maxLen; omega, fun i y hx => ⟨_, 0, rfl, kS.lt, fun j u hu => ?_⟩⟩
    have hj : j = 0 := by have := (List.getElem?_eq_some_iff.1 hu).1; simp at this; omega
    subst hj
    simp only [cW, List.getElem?_cons_zero, Option.some.injEq] at hu
    rw [show 0 + i * 1 + 0 = i by omega, kS.cell i, List.getElem?_toArray, List.getElem?_map, hx, ← hu]; rfl
  have HN : ∀ (i : Nat), i ≤ 100 → ∀ W, RowKit.Below w3.heap.size w3 W → Calls Tryz.prog 139 #[.int .i64 i, .pointer (some ⟨w.heap.size + 1 + 1, 0, none⟩)] W fun e w' => e = .returned (.int .i64 (numD (wl.map fun s => s.data.toList) i)) ∧ RowKit.Below W.heap.size W w' ∧ RowKit.Below w3.heap.size w3 w' :=
    fun i hi W hW => (parsed1_any (hV3.below hW) _ _ _ _ wl (k3.below' hW) (hLs.below hW) i hi (fun s h => by have := hws s h; omega)).mono fun _ _ q => ⟨q.1, q.2, hW.trans (q.2.mono hW.size)⟩
  have Hmap := Lib.hid (fun (i : Nat) (y : ByteArray) (h : wl[i]? = some y) => show (wl.map fun s => s.data.toList)[i]? = some y.data.toList by rw [List.getElem?_map, h]; rfl)
  have Hlen : Hid ((wl.map fun s => s.data.toList).length = N + 1) := Lib.hid (by rw [List.length_map, hwl])
  generalize (wl.map fun s => s.data.toList) = ws at *
  have H0 := HN 0 (by omega)
  have H1 := HN 1 (by omega)
  have H2 := HN 2 (by omega)
  have Hwl := Lib.hid hwl
  have HWD : ∀ (i : Nat) (y : ByteArray), wl[i]? = some y → ∀ W, RowKit.Below w3.heap.size w3 W → W.cell? ⟨w.heap.size + 1, i, none⟩ = some (.string y) := fun i y h W hW => by
    have := kS.cell i
    rw [(kS.below' hW).cell i, List.getElem?_toArray, List.getElem?_map, h]; rfl
  have HWD := Lib.hid HWD
  have h3z : w.heap.size + 1 + 1 < w3.heap.size := k3.lt
  clear hV hV1 hm hV3 hwl hws hs hLs kS
  obtain ⟨vd, hvd⟩ : ∃ vd : Bool, vd = decide (ws[2]? = some voidL) := ⟨_, rfl⟩
  have hA : Hid (atD ws = if vd = true then 2 else 3) := Lib.hid (by unfold atD; rw [hvd]; simp)
  obtain ⟨n, hn⟩ : ∃ n, n = N + 1 := ⟨_, rfl⟩
  rw [← hn] at hw3 k3 Hwl Hlen hSp
  have hn1 : 1 ≤ n := by omega
  have Hn := Lib.hid hn
  have Hvd := Lib.hid hvd
  clear hn hvd hN Hn
  go_enter Tryz.func86, Tryz.ntmps86
  go_wp2_with (fail)
  refine hSp.mono ?_
  clear hSp
  rintro e w1 ⟨rfl, rfl⟩
  go_upto_region 3 with fail
  rw [← hw3]
  clear hw3
  obtain ⟨bz, hbz⟩ : ∃ b, b = w.heap.size := ⟨_, rfl⟩
  have hBz : RowKit.Below bz w w3 := hbz ▸ hB3
  rw [← hbz] at k3 kZ HWD HN H0 H1 H2 h3z ⊢
  have Hbz := Lib.hid hbz
  clear hbz
  obtain ⟨n0, hn0⟩ : ∃ v, v = numD ws 0 := ⟨_, rfl⟩
  obtain ⟨n1, hn1'⟩ : ∃ v, v = numD ws 1 := ⟨_, rfl⟩
  obtain ⟨n2, hn2⟩ : ∃ v, v = numD ws 2 := ⟨_, rfl⟩
  rw [← hn0] at H0
  rw [← hn1'] at H1
  rw [← hn2] at H2
  have Hn0 := Lib.hid hn0
  have Hn1 := Lib.hid hn1'
  have Hn2 := Lib.hid hn2
  clear hn0 hn1' hn2
  go_wp2_with (fail)
  refine (H0 _ (by repeat (first | (with_reducible assumption) | (with_reducible exact Below.refl _ _) | (with_reducible refine Below.alloc ?_ ?_ _) | (with_reducible refine Below.setCell ?_ ?_ _) | (with_reducible refine Below.drew ?_) | omega | (simp <;> omega) | (dsimp only; omega)))).mono ?_
  rintro e w4 ⟨rfl, hB4, hb4⟩
  have hs4 := hb4.size
  go_wp2_with (fail)
  refine (H1 _ (by repeat (first | (with_reducible assumption) | (with_reducible exact Below.refl _ _) | (with_reducible refine Below.alloc ?_ ?_ _) | (with_reducible refine Below.setCell ?_ ?_ _) | (with_reducible refine Below.drew ?_) | omega | (simp <;> omega) | (dsimp only; omega)))).mono ?_
  rintro e w5 ⟨rfl, hB5, hb5⟩
  have hs5 := hb5.size
  clear H0 H1 hB4 hb4 hB5 hs4
  go_upto_region 5 with fail
  have k5 : Blk (w5.alloc (.cells #[.int .i64 n0, .int .i64 n1, .int .i64 0, .int .u8 0, .int .i64 0, .int .i64 0, .int .i64 0, .int .i64 0, .int .i64 0, .int .i64 0, .int .i64 0] 36)) w5.heap.size #[.int .i64 n0, .int .i64 n1, .int .i64 0, .int .u8 0, .int .i64 0, .int .i64 0, .int .i64 0, .int .i64 0, .int .i64 0, .int .i64 0, .int .i64 0] 36 := Blk.new _ _ _
  have hb6 := hb5.alloc hb5.size (.cells #[.int .i64 n0, .int .i64 n1, .int .i64 0, .int .u8 0, .int .i64 0, .int .i64 0, .int .i64 0, .int .i64 0, .int .i64 0, .int .i64 0, .int .i64 0] 36)
  generalize w5.alloc (.cells #[.int .i64 n0, .int .i64 n1, .int .i64 0, .int .u8 0, .int .i64 0, .int .i64 0, .int .i64 0, .int .i64 0, .int .i64 0, .int .i64 0, .int .i64 0] 36) = w6 at *
  obtain ⟨bx, hbx⟩ : ∃ b, b = w5.heap.size := ⟨_, rfl⟩
  rw [← hbx] at k5 hs5 ⊢
  clear hbx hb5 w5
  have c3 := cell_regrown ((k3.below' hb6).cell 0)
  have cF := regrown_call (w := w6) (v := .agg wordsC.toArray) (fun W' _ => wordsD_any W')
  have hix := fun W => run_ix6 W
  go_cut [26] (fun c26 W => c26 = .bool vd ∧ RowKit.Below w6.heap.size w6 W)
  case first =>
    by_cases hd2 : 2 < (n : Int)
    · obtain ⟨y, hy⟩ : ∃ y, wl[2]? = some y := ⟨wl[2]'(by rw [Hwl.out]; omega), by simp⟩
      have cy := cell_regrown (HWD.out 2 y hy w6 hb6)
      have hv2 := Hvd.out
      rw [Hmap.out 2 y hy, show decide (some y.data.toList = some voidL) = decide (y.data.toList = voidL) by simp, ← word_void] at hv2
      have hv3 : decide (y = ofL (wordK 6)) = vd := hv2.symm
      have hv4 : (y.toList == (ofL (wordK 6)).toList) = vd := by rw [toList_beq]; exact hv3
      have h02 : (2 : Int) < (n : Int) := hd2
      clear Hvd Hmap Hlen hA Hn0 Hn1 Hn2 HWD HN H2 hy hv2 Hwl Hbz hBz k3 kZ k5
      generalize wordsC.toArray = wsC at *
      generalize ofL (wordK 6) = vw at *
      refine wp_region_quiet_below (by kernel_rfl) (by kernel_rfl) ?_
      repeat (go_big_quiet_step (with_reducible exact cF _ _))
      refine wpQuiet_nil ?_
      intro _ hw'
      obtain ⟨⟨dq, osq⟩, hw''⟩ := hw'
      subst hw''
      go_wp2_with fail
      go_meet
      exact ⟨rfl, below_regrown _ _ _⟩
    · have hd : decide (2 < (n : Int)) = false := decide_eq_false hd2
      have hv2 : vd = false := by rw [Hvd.out, show ws[2]? = none from List.getElem?_eq_none (by rw [Hlen.out]; omega)]; rfl
      subst hv2
      clear Hvd Hmap Hlen hA Hn0 Hn1 Hn2 HWD HN H2 Hwl Hbz hBz k3 kZ k5
      refine wp_region_quiet_below (by kernel_rfl) (by kernel_rfl) ?_
      repeat (go_big_quiet_step (with_reducible exact cF _ _))
      refine wpQuiet_nil ?_
      intro _ hw'
      obtain ⟨⟨dq, osq⟩, hw''⟩ := hw'
      subst hw''
      go_wp2_with fail
      go_meet
      exact ⟨rfl, below_regrown _ _ _⟩
  case rest =>
    obtain ⟨rfl, hB6⟩ := hcut
    have kX := k5.below' hB6
    have hb7 := hb6.trans (hB6.mono hb6.size)
    have hs7 := hb7.size
    obtain ⟨w7, hw7⟩ : ∃ w7, w7 = wc := ⟨_, rfl⟩
    rw [← hw7] at kX hb7 hs7 ⊢
    clear hw7 hB6 hb6 k5 c3 cF hix
    obtain ⟨A, hAe⟩ : ∃ A, A = atD ws := ⟨_, rfl⟩
    rw [← hAe] at hA
    obtain ⟨hh, hhe⟩ : ∃ v, v = (if A = 3 then n2 else 0) := ⟨_, rfl⟩
    have HAe := Lib.hid hAe
    have Hhe := Lib.hid hhe
    clear hAe hhe
    have hA23 : A = 2 ∨ A = 3 := by
      have := hA.out
      revert this
      cases vd <;> intro h <;> simp at h <;> omega
    go_upto_if 26 with fail
    go_cut [6] (fun c6 W => c6 = .int .i64 (A : Int) ∧ RowKit.Below w3.heap.size w3 W ∧ Blk W bx #[.int .i64 n0, .int .i64 n1, .int .i64 hh, .int .u8 0, .int .i64 0, .int .i64 0, .int .i64 0, .int .i64 0, .int .i64 0, .int .i64 0, .int .i64 0] 36)
    case first =>
      cases vd with
      | true =>
        have e1 : A = 2 := by have := hA.out; simpa using this
        subst e1
        have e2 : hh = 0 := by rw [Hhe.out]; rfl
        subst e2
        go_wp2_with fail
        go_meet
        exact ⟨rfl, hb7, kX⟩
      | false =>
        have e1 : A = 3 := by have := hA.out; simpa using this
        subst e1
        have e2 : hh = n2 := by rw [Hhe.out]; rfl
        subst e2
        go_wp2_with fail
        refine (H2 _ (by repeat (first | (with_reducible assumption) | (with_reducible exact Below.refl _ _) | (with_reducible refine Below.alloc ?_ ?_ _) | (with_reducible refine Below.setCell ?_ ?_ _) | (with_reducible refine Below.drew ?_) | omega | (simp <;> omega) | (dsimp only; omega)))).mono ?_
        rintro e w8 ⟨rfl, hB8, hb8⟩
        have hs8 := hb8.size
        have kX8 := kX.below' hB8
        have cX8 := kX8.cell 2
        have fX8 := kX8.frozen 2
        go_wp2_with fail
        go_meet
        exact ⟨rfl, by repeat (first | (with_reducible assumption) | (with_reducible exact Below.refl _ _) | (with_reducible refine Below.alloc ?_ ?_ _) | (with_reducible refine Below.setCell ?_ ?_ _) | (with_reducible refine Below.drew ?_) | omega | (simp <;> omega) | (dsimp only; omega)), kX8.setCell 2 _⟩
    case rest =>
      obtain ⟨rfl, hb8, k8⟩ := hcut
      obtain ⟨w8, hw8⟩ : ∃ w8, w8 = wc := ⟨_, rfl⟩
      rw [← hw8] at hb8 k8 ⊢
      clear hw8 hA H2 kX hb7
      have c8 : w8.cell? ⟨bz + 1 + 1, 0, none⟩ = some (.slice (some ⟨bz + 1, 0, none⟩) n n) := (k3.below' hb8).cell 0
      have hs8 := hb8.size
      by_cases hAn : n ≤ A
      · have hz : (n : Int) ≤ (A : Int) := by omega
        have hx : parseD ws = ⟨n0, n1, hh, 0, 0, 0, 0, 0, ⟨0, 0⟩, 0⟩ := by
          unfold parseD
          rw [if_pos (by rw [Hlen.out, ← HAe.out]; exact hAn), ← HAe.out, Hn0.out, Hn1.out, Hhe.out, Hn2.out]
        have kZ8 := kZ.below' hb8
        have eZ := kZ8.cell
        have gZ := kZ8.frozen
        have lZ := kZ8.lt
        have Hx := Lib.hid hx
        clear hx
        go_wp2_with (first
          | (refine wpList_load_mid rfl 36 _ rfl bx 0 rfl [.int .i64 n0, .int .i64 n1, .int .i64 hh, .int .u8 0, .int .i64 0, .int .i64 0, .int .i64 0, .int .i64 0, .int .i64 0, .int .i64 0, .int .i64 0] _ ((k8).range 0 _ (fun j v h => by simpa using h)) Tryz.underlying36 rfl (by kernel_rfl) ?_)
          | fail)
        have hx := Hx.out
        rw [putDD]
        have kF : Blk ((w8).setCells bz 0 (cD ⟨n0, n1, hh, 0, 0, 0, 0, 0, ⟨0, 0⟩, 0⟩)) bz (cD ⟨n0, n1, hh, 0, 0, 0, 0, 0, ⟨0, 0⟩, 0⟩).toArray 36 := by
          have q := (kZ8).setCells 0 (cD ⟨n0, n1, hh, 0, 0, 0, 0, 0, ⟨0, 0⟩, 0⟩)
          rwa [setAll_zeroD ⟨n0, n1, hh, 0, 0, 0, 0, 0, ⟨0, 0⟩, 0⟩] at q
        refine bodyPost_ret (results_cell_row rfl _ _ bz 36 _ _ _ rfl kF Tryz.underlying36 rfl (by kernel_rfl)) rfl ⟨?_, ?_⟩
        · rw [hx]
        · first | exact below_setCells (hB3.trans (hb8.mono hB3.size)) (Nat.le_of_eq Hbz.out.symm) 0 _ | exact below_setCells (hBz.trans (hb8.mono (by omega))) (Nat.le_refl _) 0 _
      · have hz : ¬ (n : Int) ≤ (A : Int) := by omega
        have hzl : (A : Int) < (n : Int) := by omega
        have hz0 : (0 : Int) ≤ (A : Int) := by omega
        have hw1 : IntKind.i64.wrap ((A : Int) + 1) = (A : Int) + 1 := by rw [IntKind.wrap_i64]; omega
        have hw2 : IntKind.i64.wrap ((A : Int) + 2) = (A : Int) + 2 := by rw [IntKind.wrap_i64]; omega
        have hw3 : IntKind.i64.wrap ((A : Int) + 3) = (A : Int) + 3 := by rw [IntKind.wrap_i64]; omega
        have hw4 : IntKind.i64.wrap ((A : Int) + 4) = (A : Int) + 4 := by rw [IntKind.wrap_i64]; omega
        have hw5 : IntKind.i64.wrap ((A : Int) + 5) = (A : Int) + 5 := by rw [IntKind.wrap_i64]; omega
        have hw6 : IntKind.i64.wrap ((A : Int) + 6) = (A : Int) + 6 := by rw [IntKind.wrap_i64]; omega
        obtain ⟨y, hy⟩ : ∃ y, wl[A]? = some y := ⟨wl[A]'(by rw [Hwl.out]; omega), by simp⟩
        have hwy := Hmap.out A y hy
        have hgd : ws.getD A [] = y.data.toList := by rw [List.getD_eq_getElem?_getD, hwy]; rfl
        have HWy := Lib.hid (HWD.out A y hy)
        have hik := idx_kind y
        have hkb := kindOf_bd y.data.toList
        obtain ⟨kd, hkd⟩ : ∃ kd, kd = kindOf y.data.toList := ⟨_, rfl⟩
        rw [← hkd] at hik hkb
        have hgk : kindOf (ws.getD A []) = kd := by rw [hgd, hkd]
        have Hgk := Lib.hid hgk
        clear hkd hgk hgd hwy hy Hmap HWD Hvd
        have hwd : ∀ W, Calls Tryz.prog 81 #[] W (Gives W (.agg #[.string ⟨#[]⟩, .string (ofL paidL), .string (ofL soldL), .string (ofL leftL), .string (ofL claimL), .string (ofL withdrawL), .string (ofL voidL)])) := fun W => wordsD_any W
        generalize ofL paidL = t1 at hwd hik
        generalize ofL soldL = t2 at hwd hik
        generalize ofL leftL = t3 at hwd hik
        generalize ofL claimL = t4 at hwd hik
        generalize ofL withdrawL = t5 at hwd hik
        generalize ofL voidL = t6 at hwd hik
        obtain ⟨t0, ht0⟩ : ∃ t : ByteArray, t = ⟨#[]⟩ := ⟨_, rfl⟩
        rw [← ht0] at hwd
        clear ht0
        go_wp2_with (fail)
        refine (hwd _).mono ?_
        clear hwd
        rintro e w9 ⟨rfl, hB9⟩
        have hb9 := hb8.trans (hB9.mono hb8.size)
        have k9 := k8.below' hB9
        have hs9 := hb9.size
        clear k8 hb8 hB9 c8
        go_upto_region 11 with fail
        have k7 := Blk.new w9 94 #[.string t0, .string t1, .string t2, .string t3, .string t4, .string t5, .string t6]
        have k10 := k9.alloc (.cells #[.string t0, .string t1, .string t2, .string t3, .string t4, .string t5, .string t6] 94)
        have hb10 := hb9.alloc hb9.size (.cells #[.string t0, .string t1, .string t2, .string t3, .string t4, .string t5, .string t6] 94)
        generalize w9.alloc (.cells #[.string t0, .string t1, .string t2, .string t3, .string t4, .string t5, .string t6] 94) = w10 at *
        obtain ⟨b7, hb7e⟩ : ∃ b, b = w9.heap.size := ⟨_, rfl⟩
        rw [← hb7e] at k7 ⊢
        clear hb7e k9 hb9 hs9
        have hbxl : w3.heap.size ≤ bx := by omega
        obtain ⟨q, hq⟩ : ∃ q, q = Lib.idxOfS [t1, t2, t3, t4, t5, t6] y := ⟨_, rfl⟩
        have HI : ∀ W, RowKit.Below w10.heap.size w10 W → Calls Tryz.prog 141 #[.slice (some ⟨b7, 1, none⟩) 6 6, .string y] W fun e w' => e = .returned (.int .i64 q) ∧ RowKit.Below W.heap.size W w' ∧ RowKit.Below w10.heap.size w10 w' := fun W hW => by
          have kW := k7.below' hW
          have := Any.slices_Index_string Tryz.lays109 b7 1 6 6 [t1, t2, t3, t4, t5, t6] y W (by simp) (by decide) (fun j hj => by
            rw [kW.cell (1 + j)]
            have : j = 0 ∨ j = 1 ∨ j = 2 ∨ j = 3 ∨ j = 4 ∨ j = 5 := by simp at hj; omega
            rcases this with rfl | rfl | rfl | rfl | rfl | rfl <;> rfl)
          refine this.mono ?_
          rintro e w' ⟨rfl, rfl⟩
          exact ⟨by rw [hq]; rfl, Below.refl _ _, hW⟩
        have HI := Lib.hid HI
        rw [← hq] at hik
        have hq1 : IntKind.i64.wrap (q + 1) = kd := by rw [hik, IntKind.wrap_i64]; omega
        have hq2 : max 0 kd = kd := by omega
        have hq3 : IntKind.u8.wrap kd = kd := by rw [IntKind.wrap_u8]; omega
        have HS : ∀ W, RowKit.Below w3.heap.size w3 W → W.cell? ⟨bz + 1 + 1, 0, none⟩ = some (.slice (some ⟨bz + 1, 0, none⟩) n n) ∧ W.cell? ⟨bz + 1, A, none⟩ = some (.string y) :=
          fun W h => ⟨(k3.below' h).cell 0, HWy.out W h⟩
        have HS := Lib.hid HS
        have Hkd := Lib.hid hkb
        clear hkb hik hq k7 HWy
        go_cut [44] (fun _ W => RowKit.Below w3.heap.size w3 W ∧ Blk W bx #[.int .i64 n0, .int .i64 n1, .int .i64 hh, .int .u8 kd, .int .i64 0, .int .i64 0, .int .i64 0, .int .i64 0, .int .i64 0, .int .i64 0, .int .i64 0] 36)
        case first =>
          clear hmf Hwl HAe Hbz hB3 hBz kZ k3 Hkd hA23 hAn hs8 hs7 hs5
          go_region_held3 (fun w' => w'.cell? ⟨bz + 1 + 1, 0, none⟩ = some (.slice (some ⟨bz + 1, 0, none⟩) n n) ∧ w'.cell? ⟨bz + 1, A, none⟩ = some (.string y))
            (((with_reducible refine HS.out _ ?_); repeat (first | (with_reducible assumption) | (with_reducible exact Below.refl _ _) | (with_reducible refine Below.alloc ?_ ?_ _) | (with_reducible refine Below.setCell ?_ ?_ _) | (with_reducible refine Below.drew ?_) | omega | (simp <;> omega) | (dsimp only; omega))))
            (first
              | (go_at_call 141; (with_reducible refine (HI.out _ (by repeat (first | (with_reducible assumption) | (with_reducible exact Below.refl _ _) | (with_reducible refine Below.alloc ?_ ?_ _) | (with_reducible refine Below.setCell ?_ ?_ _) | (with_reducible refine Below.drew ?_) | omega | (simp <;> omega) | (dsimp only; omega)))).mono ?_); rintro e w11 ⟨rfl, hBa, hba⟩; have hsa := hba.size; have hbb := hb10.trans (hba.mono hb10.size); have kq := k10.below' hba; have cq := kq.cell 3; have fq := kq.frozen 3)
              | fail)
          all_goals
            go_wp2_with fail
            go_meet
            exact ⟨by repeat (first | (with_reducible assumption) | (with_reducible exact Below.refl _ _) | (with_reducible refine Below.alloc ?_ ?_ _) | (with_reducible refine Below.setCell ?_ ?_ _) | (with_reducible refine Below.drew ?_) | omega | (simp <;> omega) | (dsimp only; omega)), by first | exact kq.setCell 3 _ | exact (Blk.drew kq).setCell 3 _ | exact Blk.drew (kq.setCell 3 _) | exact Blk.drew ((Blk.drew kq).setCell 3 _)⟩
        case rest =>
          obtain ⟨hb12, k12⟩ := hcut
          obtain ⟨w12, hw12⟩ : ∃ w12, w12 = wc := ⟨_, rfl⟩
          rw [← hw12] at hb12 k12 ⊢
          have hs12 := hb12.size
          clear hw12 HS HI hq1 hq2 hq3 hb10 k10 hs8 hs7 hs5
          have hPE := parse_more ws (kd := kd) (by rw [Hlen.out, ← HAe.out]; omega) (by rw [← HAe.out]; exact Hgk.out)
          rw [← HAe.out, Hn0.out.symm, Hn1.out.symm, Hn2.out.symm, Hhe.out.symm] at hPE
          have HA : ∀ (i : Nat), i ≤ 6 → ∀ W, RowKit.Below w3.heap.size w3 W → Calls Tryz.prog 139 #[.int .i64 ((A : Int) + (i : Int)), .pointer (some ⟨bz + 1 + 1, 0, none⟩)] W fun e w' => e = .returned (.int .i64 (numD ws (A + i))) ∧ RowKit.Below W.heap.size W w' ∧ RowKit.Below w3.heap.size w3 w' := fun i hi => by
            have := HN (A + i) (by omega)
            rwa [show ((A + i : Nat) : Int) = (A : Int) + (i : Int) from by omega] at this
          have P1 := HA 1 (by omega)
          have P2 := HA 2 (by omega)
          have P3 := HA 3 (by omega)
          have P4 := HA 4 (by omega)
          have P5 := HA 5 (by omega)
          have P6 := HA 6 (by omega)
          generalize numD ws (A + 1) = p1 at *
          generalize numD ws (A + 2) = p2 at *
          generalize numD ws (A + 3) = p3 at *
          generalize numD ws (A + 4) = p4 at *
          generalize numD ws (A + 5) = p5 at *
          generalize numD ws (A + 6) = p6 at *
          have kb := Hkd.out
          have cx := k12.cell
          clear HN HA Hgk Hlen Hn0 Hn1 Hn2 Hhe HAe hA23 Hwl
          have hkc : kd = 5 ∨ kd = 6 ∨ kd = 4 ∨ (kd = 1 ∨ kd = 2) ∨ (kd = 0 ∨ kd = 3) := by omega
          clear Hkd kb
          rcases hkc with rfl | rfl | rfl | hk | hk
          · -- 5
            have hx : parseD ws = ⟨n0, n1, hh, 5, 0, 0, 0, 0, ⟨0, 0⟩, p1⟩ := by rw [hPE]; simp
            have Hx := Lib.hid hx
            clear hx hPE
            go_wp2_with (fail)
            refine (P1 _ (by repeat (first | (with_reducible assumption) | (with_reducible exact Below.refl _ _) | (with_reducible refine Below.alloc ?_ ?_ _) | (with_reducible refine Below.setCell ?_ ?_ _) | (with_reducible refine Below.drew ?_) | omega | (simp <;> omega) | (dsimp only; omega)))).mono ?_
            rintro e w13 ⟨rfl, hB13, hb13⟩
            have hs13 := hb13.size
            have k13 := Blk.below' (k12) hB13
            clear hB13
            have c13 := k13.cell
            have f13 := k13.frozen
            have l13 := k13.lt
            clear cx k12
            have kZ13 := kZ.below' hb13
            have kX13 : Blk (w13.setCell ⟨bx, 10, none⟩ (.int .i64 p1)) bx #[.int .i64 n0, .int .i64 n1, .int .i64 hh, .int .u8 5, .int .i64 0, .int .i64 0, .int .i64 0, .int .i64 0, .int .i64 0, .int .i64 0, .int .i64 p1] 36 := k13.setCell 10 _
            have hY : RowKit.Below w3.heap.size w3 (w13.setCell ⟨bx, 10, none⟩ (.int .i64 p1)) := by repeat (first | (with_reducible assumption) | (with_reducible exact Below.refl _ _) | (with_reducible refine Below.alloc ?_ ?_ _) | (with_reducible refine Below.setCell ?_ ?_ _) | (with_reducible refine Below.drew ?_) | omega | (simp <;> omega) | (dsimp only; omega))
            have kZ14 := kZ.below' hY
            have eZ := kZ14.cell
            have gZ := kZ14.frozen
            have lZ := kZ14.lt
            go_wp2_with (first
              | (refine wpList_load_mid rfl 36 _ rfl bx 0 rfl [.int .i64 n0, .int .i64 n1, .int .i64 hh, .int .u8 5, .int .i64 0, .int .i64 0, .int .i64 0, .int .i64 0, .int .i64 0, .int .i64 0, .int .i64 p1] _ ((kX13).range 0 _ (fun j v h => by simpa using h)) Tryz.underlying36 rfl (by kernel_rfl) ?_)
              | fail)
            have hx := Hx.out
            rw [putDD]
            have kF : Blk ((w13.setCell ⟨bx, 10, none⟩ (.int .i64 p1)).setCells bz 0 (cD ⟨n0, n1, hh, 5, 0, 0, 0, 0, ⟨0, 0⟩, p1⟩)) bz (cD ⟨n0, n1, hh, 5, 0, 0, 0, 0, ⟨0, 0⟩, p1⟩).toArray 36 := by
              have q := (kZ14).setCells 0 (cD ⟨n0, n1, hh, 5, 0, 0, 0, 0, ⟨0, 0⟩, p1⟩)
              rwa [setAll_zeroD ⟨n0, n1, hh, 5, 0, 0, 0, 0, ⟨0, 0⟩, p1⟩] at q
            refine bodyPost_ret (results_cell_row rfl _ _ bz 36 _ _ _ rfl kF Tryz.underlying36 rfl (by kernel_rfl)) rfl ⟨?_, ?_⟩
            · rw [hx]
            · exact below_setCells (hB3.trans ((hY).mono hB3.size)) (Nat.le_of_eq Hbz.out.symm) 0 _
          · -- 6
            have hx : parseD ws = ⟨n0, n1, hh, 6, 0, 0, 0, 0, ⟨0, 0⟩, p1⟩ := by rw [hPE]; simp
            have Hx := Lib.hid hx
            clear hx hPE
            go_wp2_with (fail)
            refine (P1 _ (by repeat (first | (with_reducible assumption) | (with_reducible exact Below.refl _ _) | (with_reducible refine Below.alloc ?_ ?_ _) | (with_reducible refine Below.setCell ?_ ?_ _) | (with_reducible refine Below.drew ?_) | omega | (simp <;> omega) | (dsimp only; omega)))).mono ?_
            rintro e w13 ⟨rfl, hB13, hb13⟩
            have hs13 := hb13.size
            have k13 := Blk.below' (k12) hB13
            clear hB13
            have c13 := k13.cell
            have f13 := k13.frozen
            have l13 := k13.lt
            clear cx k12
            have kZ13 := kZ.below' hb13
            have kX13 : Blk (w13.setCell ⟨bx, 10, none⟩ (.int .i64 p1)) bx #[.int .i64 n0, .int .i64 n1, .int .i64 hh, .int .u8 6, .int .i64 0, .int .i64 0, .int .i64 0, .int .i64 0, .int .i64 0, .int .i64 0, .int .i64 p1] 36 := k13.setCell 10 _
            have hY : RowKit.Below w3.heap.size w3 (w13.setCell ⟨bx, 10, none⟩ (.int .i64 p1)) := by repeat (first | (with_reducible assumption) | (with_reducible exact Below.refl _ _) | (with_reducible refine Below.alloc ?_ ?_ _) | (with_reducible refine Below.setCell ?_ ?_ _) | (with_reducible refine Below.drew ?_) | omega | (simp <;> omega) | (dsimp only; omega))
            have kZ14 := kZ.below' hY
            have eZ := kZ14.cell
            have gZ := kZ14.frozen
            have lZ := kZ14.lt
            go_wp2_with (first
              | (refine wpList_load_mid rfl 36 _ rfl bx 0 rfl [.int .i64 n0, .int .i64 n1, .int .i64 hh, .int .u8 6, .int .i64 0, .int .i64 0, .int .i64 0, .int .i64 0, .int .i64 0, .int .i64 0, .int .i64 p1] _ ((kX13).range 0 _ (fun j v h => by simpa using h)) Tryz.underlying36 rfl (by kernel_rfl) ?_)
              | fail)
            have hx := Hx.out
            rw [putDD]
            have kF : Blk ((w13.setCell ⟨bx, 10, none⟩ (.int .i64 p1)).setCells bz 0 (cD ⟨n0, n1, hh, 6, 0, 0, 0, 0, ⟨0, 0⟩, p1⟩)) bz (cD ⟨n0, n1, hh, 6, 0, 0, 0, 0, ⟨0, 0⟩, p1⟩).toArray 36 := by
              have q := (kZ14).setCells 0 (cD ⟨n0, n1, hh, 6, 0, 0, 0, 0, ⟨0, 0⟩, p1⟩)
              rwa [setAll_zeroD ⟨n0, n1, hh, 6, 0, 0, 0, 0, ⟨0, 0⟩, p1⟩] at q
            refine bodyPost_ret (results_cell_row rfl _ _ bz 36 _ _ _ rfl kF Tryz.underlying36 rfl (by kernel_rfl)) rfl ⟨?_, ?_⟩
            · rw [hx]
            · exact below_setCells (hB3.trans ((hY).mono hB3.size)) (Nat.le_of_eq Hbz.out.symm) 0 _
          · -- 4
            have hx : parseD ws = ⟨n0, n1, hh, 4, p1, p2, p3, 0, ⟨0, 0⟩, 0⟩ := by rw [hPE]; simp
            have Hx := Lib.hid hx
            clear hx hPE
            go_wp2_with (fail)
            refine (P1 _ (by repeat (first | (with_reducible assumption) | (with_reducible exact Below.refl _ _) | (with_reducible refine Below.alloc ?_ ?_ _) | (with_reducible refine Below.setCell ?_ ?_ _) | (with_reducible refine Below.drew ?_) | omega | (simp <;> omega) | (dsimp only; omega)))).mono ?_
            rintro e w13 ⟨rfl, hB13, hb13⟩
            have hs13 := hb13.size
            have k13 := Blk.below' (k12) hB13
            clear hB13
            go_wp2_with (fail)
            refine (P2 _ (by repeat (first | (with_reducible assumption) | (with_reducible exact Below.refl _ _) | (with_reducible refine Below.alloc ?_ ?_ _) | (with_reducible refine Below.setCell ?_ ?_ _) | (with_reducible refine Below.drew ?_) | omega | (simp <;> omega) | (dsimp only; omega)))).mono ?_
            rintro e w14 ⟨rfl, hB14, hb14⟩
            have hs14 := hb14.size
            have k14 := Blk.below' (k13) hB14
            clear hB14
            go_wp2_with (fail)
            refine (P3 _ (by repeat (first | (with_reducible assumption) | (with_reducible exact Below.refl _ _) | (with_reducible refine Below.alloc ?_ ?_ _) | (with_reducible refine Below.setCell ?_ ?_ _) | (with_reducible refine Below.drew ?_) | omega | (simp <;> omega) | (dsimp only; omega)))).mono ?_
            rintro e w15 ⟨rfl, hB15, hb15⟩
            have hs15 := hb15.size
            have k15 := Blk.below' (k14) hB15
            clear hB15
            clear cx k12 k13 k14
            have c15 := k15.cell
            have f15 := k15.frozen
            have l15 := k15.lt
            have kX15 : Blk (((w15.setCell ⟨bx, 4, none⟩ (.int .i64 p1)).setCell ⟨bx, 5, none⟩ (.int .i64 p2)).setCell ⟨bx, 6, none⟩ (.int .i64 p3)) bx #[.int .i64 n0, .int .i64 n1, .int .i64 hh, .int .u8 4, .int .i64 p1, .int .i64 p2, .int .i64 p3, .int .i64 0, .int .i64 0, .int .i64 0, .int .i64 0] 36 := ((k15.setCell 4 _).setCell 5 _).setCell 6 _
            have hY : RowKit.Below w3.heap.size w3 (((w15.setCell ⟨bx, 4, none⟩ (.int .i64 p1)).setCell ⟨bx, 5, none⟩ (.int .i64 p2)).setCell ⟨bx, 6, none⟩ (.int .i64 p3)) := by repeat (first | (with_reducible assumption) | (with_reducible exact Below.refl _ _) | (with_reducible refine Below.alloc ?_ ?_ _) | (with_reducible refine Below.setCell ?_ ?_ _) | (with_reducible refine Below.drew ?_) | omega | (simp <;> omega) | (dsimp only; omega))
            have hYs := hY.size
            have cX := kX15.cell
            have fX := kX15.frozen
            have lX := kX15.lt
            have kZ14 := kZ.below' hY
            have eZ := kZ14.cell
            have gZ := kZ14.frozen
            have lZ := kZ14.lt
            go_wp2_with (first
              | (refine wpList_load_mid rfl 36 _ rfl bx 0 rfl [.int .i64 n0, .int .i64 n1, .int .i64 hh, .int .u8 4, .int .i64 p1, .int .i64 p2, .int .i64 p3, .int .i64 0, .int .i64 0, .int .i64 0, .int .i64 0] _ ((kX15).range 0 _ (fun j v h => by simpa using h)) Tryz.underlying36 rfl (by kernel_rfl) ?_)
              | fail)
            have hx := Hx.out
            rw [putDD]
            have kF : Blk ((((w15.setCell ⟨bx, 4, none⟩ (.int .i64 p1)).setCell ⟨bx, 5, none⟩ (.int .i64 p2)).setCell ⟨bx, 6, none⟩ (.int .i64 p3)).setCells bz 0 (cD ⟨n0, n1, hh, 4, p1, p2, p3, 0, ⟨0, 0⟩, 0⟩)) bz (cD ⟨n0, n1, hh, 4, p1, p2, p3, 0, ⟨0, 0⟩, 0⟩).toArray 36 := by
              have q := (kZ14).setCells 0 (cD ⟨n0, n1, hh, 4, p1, p2, p3, 0, ⟨0, 0⟩, 0⟩)
              rwa [setAll_zeroD ⟨n0, n1, hh, 4, p1, p2, p3, 0, ⟨0, 0⟩, 0⟩] at q
            refine bodyPost_ret (results_cell_row rfl _ _ bz 36 _ _ _ rfl kF Tryz.underlying36 rfl (by kernel_rfl)) rfl ⟨?_, ?_⟩
            · rw [hx]
            · exact below_setCells (hB3.trans ((hY).mono hB3.size)) (Nat.le_of_eq Hbz.out.symm) 0 _
          · rcases hk with rfl | rfl
            · -- 1
              have hx : parseD ws = ⟨n0, n1, hh, 1, p1, p2, p3, p4, ⟨p5, p6⟩, 0⟩ := by rw [hPE]; simp
              have Hx := Lib.hid hx
              clear hx hPE
              go_wp2_with (fail)
              refine (P1 _ (by repeat (first | (with_reducible assumption) | (with_reducible exact Below.refl _ _) | (with_reducible refine Below.alloc ?_ ?_ _) | (with_reducible refine Below.setCell ?_ ?_ _) | (with_reducible refine Below.drew ?_) | omega | (simp <;> omega) | (dsimp only; omega)))).mono ?_
              rintro e w13 ⟨rfl, hB13, hb13⟩
              have hs13 := hb13.size
              have k13 := Blk.below' (k12) hB13
              clear hB13
              go_wp2_with (fail)
              refine (P2 _ (by repeat (first | (with_reducible assumption) | (with_reducible exact Below.refl _ _) | (with_reducible refine Below.alloc ?_ ?_ _) | (with_reducible refine Below.setCell ?_ ?_ _) | (with_reducible refine Below.drew ?_) | omega | (simp <;> omega) | (dsimp only; omega)))).mono ?_
              rintro e w14 ⟨rfl, hB14, hb14⟩
              have hs14 := hb14.size
              have k14 := Blk.below' (k13) hB14
              clear hB14
              go_wp2_with (fail)
              refine (P3 _ (by repeat (first | (with_reducible assumption) | (with_reducible exact Below.refl _ _) | (with_reducible refine Below.alloc ?_ ?_ _) | (with_reducible refine Below.setCell ?_ ?_ _) | (with_reducible refine Below.drew ?_) | omega | (simp <;> omega) | (dsimp only; omega)))).mono ?_
              rintro e w15 ⟨rfl, hB15, hb15⟩
              have hs15 := hb15.size
              have k15 := Blk.below' (k14) hB15
              clear hB15
              clear cx k12 k13 k14
              have c15 := k15.cell
              have f15 := k15.frozen
              have l15 := k15.lt
              have kX15 : Blk (((w15.setCell ⟨bx, 4, none⟩ (.int .i64 p1)).setCell ⟨bx, 5, none⟩ (.int .i64 p2)).setCell ⟨bx, 6, none⟩ (.int .i64 p3)) bx #[.int .i64 n0, .int .i64 n1, .int .i64 hh, .int .u8 1, .int .i64 p1, .int .i64 p2, .int .i64 p3, .int .i64 0, .int .i64 0, .int .i64 0, .int .i64 0] 36 := ((k15.setCell 4 _).setCell 5 _).setCell 6 _
              have hY : RowKit.Below w3.heap.size w3 (((w15.setCell ⟨bx, 4, none⟩ (.int .i64 p1)).setCell ⟨bx, 5, none⟩ (.int .i64 p2)).setCell ⟨bx, 6, none⟩ (.int .i64 p3)) := by repeat (first | (with_reducible assumption) | (with_reducible exact Below.refl _ _) | (with_reducible refine Below.alloc ?_ ?_ _) | (with_reducible refine Below.setCell ?_ ?_ _) | (with_reducible refine Below.drew ?_) | omega | (simp <;> omega) | (dsimp only; omega))
              have hYs := hY.size
              have cX := kX15.cell
              have fX := kX15.frozen
              have lX := kX15.lt
              go_wp2_with (fail)
              obtain ⟨w16, hw16⟩ : ∃ w16, w16 = ((w15.setCell ⟨bx, 4, none⟩ (.int .i64 p1)).setCell ⟨bx, 5, none⟩ (.int .i64 p2)).setCell ⟨bx, 6, none⟩ (.int .i64 p3) := ⟨_, rfl⟩
              rw [← hw16] at kX15 hY hYs cX fX lX ⊢
              clear hw16 c15 f15 l15 k15 hb15 hs15
              refine (P4 _ (by repeat (first | (with_reducible assumption) | (with_reducible exact Below.refl _ _) | (with_reducible refine Below.alloc ?_ ?_ _) | (with_reducible refine Below.setCell ?_ ?_ _) | (with_reducible refine Below.drew ?_) | omega | (simp <;> omega) | (dsimp only; omega)))).mono ?_
              rintro e w17 ⟨rfl, hB17, hb17⟩
              have hs17 := hb17.size
              have k17 := Blk.below' kX15 hB17
              clear hB17 cX fX lX kX15 hY hYs
              have c17 := k17.cell
              have f17 := k17.frozen
              have l17 := k17.lt
              have kX18 : Blk (w17.setCell ⟨bx, 7, none⟩ (.int .i64 p4)) bx #[.int .i64 n0, .int .i64 n1, .int .i64 hh, .int .u8 1, .int .i64 p1, .int .i64 p2, .int .i64 p3, .int .i64 p4, .int .i64 0, .int .i64 0, .int .i64 0] 36 := k17.setCell 7 _
              have hY8 : RowKit.Below w3.heap.size w3 (w17.setCell ⟨bx, 7, none⟩ (.int .i64 p4)) := by repeat (first | (with_reducible assumption) | (with_reducible exact Below.refl _ _) | (with_reducible refine Below.alloc ?_ ?_ _) | (with_reducible refine Below.setCell ?_ ?_ _) | (with_reducible refine Below.drew ?_) | omega | (simp <;> omega) | (dsimp only; omega))
              have hYs := hY8.size
              have cX := kX18.cell
              have fX := kX18.frozen
              have lX := kX18.lt
              go_wp2_with (fail)
              obtain ⟨w18, hw18⟩ : ∃ w18, w18 = w17.setCell ⟨bx, 7, none⟩ (.int .i64 p4) := ⟨_, rfl⟩
              rw [← hw18] at kX18 hY8 hYs cX fX lX ⊢
              clear hw18 c17 f17 l17 k17 hb17 hs17
              refine (P5 _ (by repeat (first | (with_reducible assumption) | (with_reducible exact Below.refl _ _) | (with_reducible refine Below.alloc ?_ ?_ _) | (with_reducible refine Below.setCell ?_ ?_ _) | (with_reducible refine Below.drew ?_) | omega | (simp <;> omega) | (dsimp only; omega)))).mono ?_
              rintro e w19 ⟨rfl, hB19, hb19⟩
              have hs19 := hb19.size
              have k19 := Blk.below' kX18 hB19
              clear hB19 cX fX lX kX18 hY8 hYs
              go_wp2_with (fail)
              refine (P6 _ (by repeat (first | (with_reducible assumption) | (with_reducible exact Below.refl _ _) | (with_reducible refine Below.alloc ?_ ?_ _) | (with_reducible refine Below.setCell ?_ ?_ _) | (with_reducible refine Below.drew ?_) | omega | (simp <;> omega) | (dsimp only; omega)))).mono ?_
              rintro e w20 ⟨rfl, hB20, hb20⟩
              have hs20 := hb20.size
              have k20 := Blk.below' k19 hB20
              clear hB20 k19
              have c20 := k20.cell
              have f20 := k20.frozen
              have l20 := k20.lt
              have kX20 : Blk ((w20.setCell ⟨bx, 8, none⟩ (.int .i64 p5)).setCell ⟨bx, 9, none⟩ (.int .i64 p6)) bx #[.int .i64 n0, .int .i64 n1, .int .i64 hh, .int .u8 1, .int .i64 p1, .int .i64 p2, .int .i64 p3, .int .i64 p4, .int .i64 p5, .int .i64 p6, .int .i64 0] 36 := (k20.setCell 8 _).setCell 9 _
              have hY20 : RowKit.Below w3.heap.size w3 ((w20.setCell ⟨bx, 8, none⟩ (.int .i64 p5)).setCell ⟨bx, 9, none⟩ (.int .i64 p6)) := by repeat (first | (with_reducible assumption) | (with_reducible exact Below.refl _ _) | (with_reducible refine Below.alloc ?_ ?_ _) | (with_reducible refine Below.setCell ?_ ?_ _) | (with_reducible refine Below.drew ?_) | omega | (simp <;> omega) | (dsimp only; omega))
              have kZ14 := kZ.below' hY20
              have eZ := kZ14.cell
              have gZ := kZ14.frozen
              have lZ := kZ14.lt
              go_wp2_with (first
                | (refine wpList_load_mid rfl 36 _ rfl bx 0 rfl [.int .i64 n0, .int .i64 n1, .int .i64 hh, .int .u8 1, .int .i64 p1, .int .i64 p2, .int .i64 p3, .int .i64 p4, .int .i64 p5, .int .i64 p6, .int .i64 0] _ ((kX20).range 0 _ (fun j v h => by simpa using h)) Tryz.underlying36 rfl (by kernel_rfl) ?_)
                | fail)
              have hx := Hx.out
              rw [putDD]
              have kF : Blk (((w20.setCell ⟨bx, 8, none⟩ (.int .i64 p5)).setCell ⟨bx, 9, none⟩ (.int .i64 p6)).setCells bz 0 (cD ⟨n0, n1, hh, 1, p1, p2, p3, p4, ⟨p5, p6⟩, 0⟩)) bz (cD ⟨n0, n1, hh, 1, p1, p2, p3, p4, ⟨p5, p6⟩, 0⟩).toArray 36 := by
                have q := (kZ14).setCells 0 (cD ⟨n0, n1, hh, 1, p1, p2, p3, p4, ⟨p5, p6⟩, 0⟩)
                rwa [setAll_zeroD ⟨n0, n1, hh, 1, p1, p2, p3, p4, ⟨p5, p6⟩, 0⟩] at q
              refine bodyPost_ret (results_cell_row rfl _ _ bz 36 _ _ _ rfl kF Tryz.underlying36 rfl (by kernel_rfl)) rfl ⟨?_, ?_⟩
              · rw [hx]
              · exact below_setCells (hB3.trans ((hY20).mono hB3.size)) (Nat.le_of_eq Hbz.out.symm) 0 _
            · -- 2
              have hx : parseD ws = ⟨n0, n1, hh, 2, p1, p2, p3, p4, ⟨p5, p6⟩, 0⟩ := by rw [hPE]; simp
              have Hx := Lib.hid hx
              clear hx hPE
              go_wp2_with (fail)
              refine (P1 _ (by repeat (first | (with_reducible assumption) | (with_reducible exact Below.refl _ _) | (with_reducible refine Below.alloc ?_ ?_ _) | (with_reducible refine Below.setCell ?_ ?_ _) | (with_reducible refine Below.drew ?_) | omega | (simp <;> omega) | (dsimp only; omega)))).mono ?_
              rintro e w13 ⟨rfl, hB13, hb13⟩
              have hs13 := hb13.size
              have k13 := Blk.below' (k12) hB13
              clear hB13
              go_wp2_with (fail)
              refine (P2 _ (by repeat (first | (with_reducible assumption) | (with_reducible exact Below.refl _ _) | (with_reducible refine Below.alloc ?_ ?_ _) | (with_reducible refine Below.setCell ?_ ?_ _) | (with_reducible refine Below.drew ?_) | omega | (simp <;> omega) | (dsimp only; omega)))).mono ?_
              rintro e w14 ⟨rfl, hB14, hb14⟩
              have hs14 := hb14.size
              have k14 := Blk.below' (k13) hB14
              clear hB14
              go_wp2_with (fail)
              refine (P3 _ (by repeat (first | (with_reducible assumption) | (with_reducible exact Below.refl _ _) | (with_reducible refine Below.alloc ?_ ?_ _) | (with_reducible refine Below.setCell ?_ ?_ _) | (with_reducible refine Below.drew ?_) | omega | (simp <;> omega) | (dsimp only; omega)))).mono ?_
              rintro e w15 ⟨rfl, hB15, hb15⟩
              have hs15 := hb15.size
              have k15 := Blk.below' (k14) hB15
              clear hB15
              clear cx k12 k13 k14
              have c15 := k15.cell
              have f15 := k15.frozen
              have l15 := k15.lt
              have kX15 : Blk (((w15.setCell ⟨bx, 4, none⟩ (.int .i64 p1)).setCell ⟨bx, 5, none⟩ (.int .i64 p2)).setCell ⟨bx, 6, none⟩ (.int .i64 p3)) bx #[.int .i64 n0, .int .i64 n1, .int .i64 hh, .int .u8 2, .int .i64 p1, .int .i64 p2, .int .i64 p3, .int .i64 0, .int .i64 0, .int .i64 0, .int .i64 0] 36 := ((k15.setCell 4 _).setCell 5 _).setCell 6 _
              have hY : RowKit.Below w3.heap.size w3 (((w15.setCell ⟨bx, 4, none⟩ (.int .i64 p1)).setCell ⟨bx, 5, none⟩ (.int .i64 p2)).setCell ⟨bx, 6, none⟩ (.int .i64 p3)) := by repeat (first | (with_reducible assumption) | (with_reducible exact Below.refl _ _) | (with_reducible refine Below.alloc ?_ ?_ _) | (with_reducible refine Below.setCell ?_ ?_ _) | (with_reducible refine Below.drew ?_) | omega | (simp <;> omega) | (dsimp only; omega))
              have hYs := hY.size
              have cX := kX15.cell
              have fX := kX15.frozen
              have lX := kX15.lt
              go_wp2_with (fail)
              obtain ⟨w16, hw16⟩ : ∃ w16, w16 = ((w15.setCell ⟨bx, 4, none⟩ (.int .i64 p1)).setCell ⟨bx, 5, none⟩ (.int .i64 p2)).setCell ⟨bx, 6, none⟩ (.int .i64 p3) := ⟨_, rfl⟩
              rw [← hw16] at kX15 hY hYs cX fX lX ⊢
              clear hw16 c15 f15 l15 k15 hb15 hs15
              refine (P4 _ (by repeat (first | (with_reducible assumption) | (with_reducible exact Below.refl _ _) | (with_reducible refine Below.alloc ?_ ?_ _) | (with_reducible refine Below.setCell ?_ ?_ _) | (with_reducible refine Below.drew ?_) | omega | (simp <;> omega) | (dsimp only; omega)))).mono ?_
              rintro e w17 ⟨rfl, hB17, hb17⟩
              have hs17 := hb17.size
              have k17 := Blk.below' kX15 hB17
              clear hB17 cX fX lX kX15 hY hYs
              have c17 := k17.cell
              have f17 := k17.frozen
              have l17 := k17.lt
              have kX18 : Blk (w17.setCell ⟨bx, 7, none⟩ (.int .i64 p4)) bx #[.int .i64 n0, .int .i64 n1, .int .i64 hh, .int .u8 2, .int .i64 p1, .int .i64 p2, .int .i64 p3, .int .i64 p4, .int .i64 0, .int .i64 0, .int .i64 0] 36 := k17.setCell 7 _
              have hY8 : RowKit.Below w3.heap.size w3 (w17.setCell ⟨bx, 7, none⟩ (.int .i64 p4)) := by repeat (first | (with_reducible assumption) | (with_reducible exact Below.refl _ _) | (with_reducible refine Below.alloc ?_ ?_ _) | (with_reducible refine Below.setCell ?_ ?_ _) | (with_reducible refine Below.drew ?_) | omega | (simp <;> omega) | (dsimp only; omega))
              have hYs := hY8.size
              have cX := kX18.cell
              have fX := kX18.frozen
              have lX := kX18.lt
              go_wp2_with (fail)
              obtain ⟨w18, hw18⟩ : ∃ w18, w18 = w17.setCell ⟨bx, 7, none⟩ (.int .i64 p4) := ⟨_, rfl⟩
              rw [← hw18] at kX18 hY8 hYs cX fX lX ⊢
              clear hw18 c17 f17 l17 k17 hb17 hs17
              refine (P5 _ (by repeat (first | (with_reducible assumption) | (with_reducible exact Below.refl _ _) | (with_reducible refine Below.alloc ?_ ?_ _) | (with_reducible refine Below.setCell ?_ ?_ _) | (with_reducible refine Below.drew ?_) | omega | (simp <;> omega) | (dsimp only; omega)))).mono ?_
              rintro e w19 ⟨rfl, hB19, hb19⟩
              have hs19 := hb19.size
              have k19 := Blk.below' kX18 hB19
              clear hB19 cX fX lX kX18 hY8 hYs
              go_wp2_with (fail)
              refine (P6 _ (by repeat (first | (with_reducible assumption) | (with_reducible exact Below.refl _ _) | (with_reducible refine Below.alloc ?_ ?_ _) | (with_reducible refine Below.setCell ?_ ?_ _) | (with_reducible refine Below.drew ?_) | omega | (simp <;> omega) | (dsimp only; omega)))).mono ?_
              rintro e w20 ⟨rfl, hB20, hb20⟩
              have hs20 := hb20.size
              have k20 := Blk.below' k19 hB20
              clear hB20 k19
              have c20 := k20.cell
              have f20 := k20.frozen
              have l20 := k20.lt
              have kX20 : Blk ((w20.setCell ⟨bx, 8, none⟩ (.int .i64 p5)).setCell ⟨bx, 9, none⟩ (.int .i64 p6)) bx #[.int .i64 n0, .int .i64 n1, .int .i64 hh, .int .u8 2, .int .i64 p1, .int .i64 p2, .int .i64 p3, .int .i64 p4, .int .i64 p5, .int .i64 p6, .int .i64 0] 36 := (k20.setCell 8 _).setCell 9 _
              have hY20 : RowKit.Below w3.heap.size w3 ((w20.setCell ⟨bx, 8, none⟩ (.int .i64 p5)).setCell ⟨bx, 9, none⟩ (.int .i64 p6)) := by repeat (first | (with_reducible assumption) | (with_reducible exact Below.refl _ _) | (with_reducible refine Below.alloc ?_ ?_ _) | (with_reducible refine Below.setCell ?_ ?_ _) | (with_reducible refine Below.drew ?_) | omega | (simp <;> omega) | (dsimp only; omega))
              have kZ14 := kZ.below' hY20
              have eZ := kZ14.cell
              have gZ := kZ14.frozen
              have lZ := kZ14.lt
              go_wp2_with (first
                | (refine wpList_load_mid rfl 36 _ rfl bx 0 rfl [.int .i64 n0, .int .i64 n1, .int .i64 hh, .int .u8 2, .int .i64 p1, .int .i64 p2, .int .i64 p3, .int .i64 p4, .int .i64 p5, .int .i64 p6, .int .i64 0] _ ((kX20).range 0 _ (fun j v h => by simpa using h)) Tryz.underlying36 rfl (by kernel_rfl) ?_)
                | fail)
              have hx := Hx.out
              rw [putDD]
              have kF : Blk (((w20.setCell ⟨bx, 8, none⟩ (.int .i64 p5)).setCell ⟨bx, 9, none⟩ (.int .i64 p6)).setCells bz 0 (cD ⟨n0, n1, hh, 2, p1, p2, p3, p4, ⟨p5, p6⟩, 0⟩)) bz (cD ⟨n0, n1, hh, 2, p1, p2, p3, p4, ⟨p5, p6⟩, 0⟩).toArray 36 := by
                have q := (kZ14).setCells 0 (cD ⟨n0, n1, hh, 2, p1, p2, p3, p4, ⟨p5, p6⟩, 0⟩)
                rwa [setAll_zeroD ⟨n0, n1, hh, 2, p1, p2, p3, p4, ⟨p5, p6⟩, 0⟩] at q
              refine bodyPost_ret (results_cell_row rfl _ _ bz 36 _ _ _ rfl kF Tryz.underlying36 rfl (by kernel_rfl)) rfl ⟨?_, ?_⟩
              · rw [hx]
              · exact below_setCells (hB3.trans ((hY20).mono hB3.size)) (Nat.le_of_eq Hbz.out.symm) 0 _
          · rcases hk with rfl | rfl
            · -- 0
              have hx : parseD ws = ⟨n0, n1, hh, 0, p1, p2, p3, p4, ⟨0, 0⟩, 0⟩ := by rw [hPE]; simp
              have Hx := Lib.hid hx
              clear hx hPE
              go_wp2_with (fail)
              refine (P1 _ (by repeat (first | (with_reducible assumption) | (with_reducible exact Below.refl _ _) | (with_reducible refine Below.alloc ?_ ?_ _) | (with_reducible refine Below.setCell ?_ ?_ _) | (with_reducible refine Below.drew ?_) | omega | (simp <;> omega) | (dsimp only; omega)))).mono ?_
              rintro e w13 ⟨rfl, hB13, hb13⟩
              have hs13 := hb13.size
              have k13 := Blk.below' (k12) hB13
              clear hB13
              go_wp2_with (fail)
              refine (P2 _ (by repeat (first | (with_reducible assumption) | (with_reducible exact Below.refl _ _) | (with_reducible refine Below.alloc ?_ ?_ _) | (with_reducible refine Below.setCell ?_ ?_ _) | (with_reducible refine Below.drew ?_) | omega | (simp <;> omega) | (dsimp only; omega)))).mono ?_
              rintro e w14 ⟨rfl, hB14, hb14⟩
              have hs14 := hb14.size
              have k14 := Blk.below' (k13) hB14
              clear hB14
              go_wp2_with (fail)
              refine (P3 _ (by repeat (first | (with_reducible assumption) | (with_reducible exact Below.refl _ _) | (with_reducible refine Below.alloc ?_ ?_ _) | (with_reducible refine Below.setCell ?_ ?_ _) | (with_reducible refine Below.drew ?_) | omega | (simp <;> omega) | (dsimp only; omega)))).mono ?_
              rintro e w15 ⟨rfl, hB15, hb15⟩
              have hs15 := hb15.size
              have k15 := Blk.below' (k14) hB15
              clear hB15
              clear cx k12 k13 k14
              have c15 := k15.cell
              have f15 := k15.frozen
              have l15 := k15.lt
              have kX15 : Blk (((w15.setCell ⟨bx, 4, none⟩ (.int .i64 p1)).setCell ⟨bx, 5, none⟩ (.int .i64 p2)).setCell ⟨bx, 6, none⟩ (.int .i64 p3)) bx #[.int .i64 n0, .int .i64 n1, .int .i64 hh, .int .u8 0, .int .i64 p1, .int .i64 p2, .int .i64 p3, .int .i64 0, .int .i64 0, .int .i64 0, .int .i64 0] 36 := ((k15.setCell 4 _).setCell 5 _).setCell 6 _
              have hY : RowKit.Below w3.heap.size w3 (((w15.setCell ⟨bx, 4, none⟩ (.int .i64 p1)).setCell ⟨bx, 5, none⟩ (.int .i64 p2)).setCell ⟨bx, 6, none⟩ (.int .i64 p3)) := by repeat (first | (with_reducible assumption) | (with_reducible exact Below.refl _ _) | (with_reducible refine Below.alloc ?_ ?_ _) | (with_reducible refine Below.setCell ?_ ?_ _) | (with_reducible refine Below.drew ?_) | omega | (simp <;> omega) | (dsimp only; omega))
              have hYs := hY.size
              have cX := kX15.cell
              have fX := kX15.frozen
              have lX := kX15.lt
              go_wp2_with (fail)
              obtain ⟨w16, hw16⟩ : ∃ w16, w16 = ((w15.setCell ⟨bx, 4, none⟩ (.int .i64 p1)).setCell ⟨bx, 5, none⟩ (.int .i64 p2)).setCell ⟨bx, 6, none⟩ (.int .i64 p3) := ⟨_, rfl⟩
              rw [← hw16] at kX15 hY hYs cX fX lX ⊢
              clear hw16 c15 f15 l15 k15 hb15 hs15
              refine (P4 _ (by repeat (first | (with_reducible assumption) | (with_reducible exact Below.refl _ _) | (with_reducible refine Below.alloc ?_ ?_ _) | (with_reducible refine Below.setCell ?_ ?_ _) | (with_reducible refine Below.drew ?_) | omega | (simp <;> omega) | (dsimp only; omega)))).mono ?_
              rintro e w17 ⟨rfl, hB17, hb17⟩
              have hs17 := hb17.size
              have k17 := Blk.below' kX15 hB17
              clear hB17 cX fX lX kX15 hY hYs
              have c17 := k17.cell
              have f17 := k17.frozen
              have l17 := k17.lt
              have kX18 : Blk (w17.setCell ⟨bx, 7, none⟩ (.int .i64 p4)) bx #[.int .i64 n0, .int .i64 n1, .int .i64 hh, .int .u8 0, .int .i64 p1, .int .i64 p2, .int .i64 p3, .int .i64 p4, .int .i64 0, .int .i64 0, .int .i64 0] 36 := k17.setCell 7 _
              have hY8 : RowKit.Below w3.heap.size w3 (w17.setCell ⟨bx, 7, none⟩ (.int .i64 p4)) := by repeat (first | (with_reducible assumption) | (with_reducible exact Below.refl _ _) | (with_reducible refine Below.alloc ?_ ?_ _) | (with_reducible refine Below.setCell ?_ ?_ _) | (with_reducible refine Below.drew ?_) | omega | (simp <;> omega) | (dsimp only; omega))
              have hYs := hY8.size
              have cX := kX18.cell
              have fX := kX18.frozen
              have lX := kX18.lt
              have kZ14 := kZ.below' hY8
              have eZ := kZ14.cell
              have gZ := kZ14.frozen
              have lZ := kZ14.lt
              go_wp2_with (first
                | (refine wpList_load_mid rfl 36 _ rfl bx 0 rfl [.int .i64 n0, .int .i64 n1, .int .i64 hh, .int .u8 0, .int .i64 p1, .int .i64 p2, .int .i64 p3, .int .i64 p4, .int .i64 0, .int .i64 0, .int .i64 0] _ ((kX18).range 0 _ (fun j v h => by simpa using h)) Tryz.underlying36 rfl (by kernel_rfl) ?_)
                | fail)
              have hx := Hx.out
              rw [putDD]
              have kF : Blk ((w17.setCell ⟨bx, 7, none⟩ (.int .i64 p4)).setCells bz 0 (cD ⟨n0, n1, hh, 0, p1, p2, p3, p4, ⟨0, 0⟩, 0⟩)) bz (cD ⟨n0, n1, hh, 0, p1, p2, p3, p4, ⟨0, 0⟩, 0⟩).toArray 36 := by
                have q := (kZ14).setCells 0 (cD ⟨n0, n1, hh, 0, p1, p2, p3, p4, ⟨0, 0⟩, 0⟩)
                rwa [setAll_zeroD ⟨n0, n1, hh, 0, p1, p2, p3, p4, ⟨0, 0⟩, 0⟩] at q
              refine bodyPost_ret (results_cell_row rfl _ _ bz 36 _ _ _ rfl kF Tryz.underlying36 rfl (by kernel_rfl)) rfl ⟨?_, ?_⟩
              · rw [hx]
              · exact below_setCells (hB3.trans ((hY8).mono hB3.size)) (Nat.le_of_eq Hbz.out.symm) 0 _
            · -- 3
              have hx : parseD ws = ⟨n0, n1, hh, 3, p1, p2, p3, p4, ⟨0, 0⟩, 0⟩ := by rw [hPE]; simp
              have Hx := Lib.hid hx
              clear hx hPE
              go_wp2_with (fail)
              refine (P1 _ (by repeat (first | (with_reducible assumption) | (with_reducible exact Below.refl _ _) | (with_reducible refine Below.alloc ?_ ?_ _) | (with_reducible refine Below.setCell ?_ ?_ _) | (with_reducible refine Below.drew ?_) | omega | (simp <;> omega) | (dsimp only; omega)))).mono ?_
              rintro e w13 ⟨rfl, hB13, hb13⟩
              have hs13 := hb13.size
              have k13 := Blk.below' (k12) hB13
              clear hB13
              go_wp2_with (fail)
              refine (P2 _ (by repeat (first | (with_reducible assumption) | (with_reducible exact Below.refl _ _) | (with_reducible refine Below.alloc ?_ ?_ _) | (with_reducible refine Below.setCell ?_ ?_ _) | (with_reducible refine Below.drew ?_) | omega | (simp <;> omega) | (dsimp only; omega)))).mono ?_
              rintro e w14 ⟨rfl, hB14, hb14⟩
              have hs14 := hb14.size
              have k14 := Blk.below' (k13) hB14
              clear hB14
              go_wp2_with (fail)
              refine (P3 _ (by repeat (first | (with_reducible assumption) | (with_reducible exact Below.refl _ _) | (with_reducible refine Below.alloc ?_ ?_ _) | (with_reducible refine Below.setCell ?_ ?_ _) | (with_reducible refine Below.drew ?_) | omega | (simp <;> omega) | (dsimp only; omega)))).mono ?_
              rintro e w15 ⟨rfl, hB15, hb15⟩
              have hs15 := hb15.size
              have k15 := Blk.below' (k14) hB15
              clear hB15
              clear cx k12 k13 k14
              have c15 := k15.cell
              have f15 := k15.frozen
              have l15 := k15.lt
              have kX15 : Blk (((w15.setCell ⟨bx, 4, none⟩ (.int .i64 p1)).setCell ⟨bx, 5, none⟩ (.int .i64 p2)).setCell ⟨bx, 6, none⟩ (.int .i64 p3)) bx #[.int .i64 n0, .int .i64 n1, .int .i64 hh, .int .u8 3, .int .i64 p1, .int .i64 p2, .int .i64 p3, .int .i64 0, .int .i64 0, .int .i64 0, .int .i64 0] 36 := ((k15.setCell 4 _).setCell 5 _).setCell 6 _
              have hY : RowKit.Below w3.heap.size w3 (((w15.setCell ⟨bx, 4, none⟩ (.int .i64 p1)).setCell ⟨bx, 5, none⟩ (.int .i64 p2)).setCell ⟨bx, 6, none⟩ (.int .i64 p3)) := by repeat (first | (with_reducible assumption) | (with_reducible exact Below.refl _ _) | (with_reducible refine Below.alloc ?_ ?_ _) | (with_reducible refine Below.setCell ?_ ?_ _) | (with_reducible refine Below.drew ?_) | omega | (simp <;> omega) | (dsimp only; omega))
              have hYs := hY.size
              have cX := kX15.cell
              have fX := kX15.frozen
              have lX := kX15.lt
              go_wp2_with (fail)
              obtain ⟨w16, hw16⟩ : ∃ w16, w16 = ((w15.setCell ⟨bx, 4, none⟩ (.int .i64 p1)).setCell ⟨bx, 5, none⟩ (.int .i64 p2)).setCell ⟨bx, 6, none⟩ (.int .i64 p3) := ⟨_, rfl⟩
              rw [← hw16] at kX15 hY hYs cX fX lX ⊢
              clear hw16 c15 f15 l15 k15 hb15 hs15
              refine (P4 _ (by repeat (first | (with_reducible assumption) | (with_reducible exact Below.refl _ _) | (with_reducible refine Below.alloc ?_ ?_ _) | (with_reducible refine Below.setCell ?_ ?_ _) | (with_reducible refine Below.drew ?_) | omega | (simp <;> omega) | (dsimp only; omega)))).mono ?_
              rintro e w17 ⟨rfl, hB17, hb17⟩
              have hs17 := hb17.size
              have k17 := Blk.below' kX15 hB17
              clear hB17 cX fX lX kX15 hY hYs
              have c17 := k17.cell
              have f17 := k17.frozen
              have l17 := k17.lt
              have kX18 : Blk (w17.setCell ⟨bx, 7, none⟩ (.int .i64 p4)) bx #[.int .i64 n0, .int .i64 n1, .int .i64 hh, .int .u8 3, .int .i64 p1, .int .i64 p2, .int .i64 p3, .int .i64 p4, .int .i64 0, .int .i64 0, .int .i64 0] 36 := k17.setCell 7 _
              have hY8 : RowKit.Below w3.heap.size w3 (w17.setCell ⟨bx, 7, none⟩ (.int .i64 p4)) := by repeat (first | (with_reducible assumption) | (with_reducible exact Below.refl _ _) | (with_reducible refine Below.alloc ?_ ?_ _) | (with_reducible refine Below.setCell ?_ ?_ _) | (with_reducible refine Below.drew ?_) | omega | (simp <;> omega) | (dsimp only; omega))
              have hYs := hY8.size
              have cX := kX18.cell
              have fX := kX18.frozen
              have lX := kX18.lt
              have kZ14 := kZ.below' hY8
              have eZ := kZ14.cell
              have gZ := kZ14.frozen
              have lZ := kZ14.lt
              go_wp2_with (first
                | (refine wpList_load_mid rfl 36 _ rfl bx 0 rfl [.int .i64 n0, .int .i64 n1, .int .i64 hh, .int .u8 3, .int .i64 p1, .int .i64 p2, .int .i64 p3, .int .i64 p4, .int .i64 0, .int .i64 0, .int .i64 0] _ ((kX18).range 0 _ (fun j v h => by simpa using h)) Tryz.underlying36 rfl (by kernel_rfl) ?_)
                | fail)
              have hx := Hx.out
              rw [putDD]
              have kF : Blk ((w17.setCell ⟨bx, 7, none⟩ (.int .i64 p4)).setCells bz 0 (cD ⟨n0, n1, hh, 3, p1, p2, p3, p4, ⟨0, 0⟩, 0⟩)) bz (cD ⟨n0, n1, hh, 3, p1, p2, p3, p4, ⟨0, 0⟩, 0⟩).toArray 36 := by
                have q := (kZ14).setCells 0 (cD ⟨n0, n1, hh, 3, p1, p2, p3, p4, ⟨0, 0⟩, 0⟩)
                rwa [setAll_zeroD ⟨n0, n1, hh, 3, p1, p2, p3, p4, ⟨0, 0⟩, 0⟩] at q
              refine bodyPost_ret (results_cell_row rfl _ _ bz 36 _ _ _ rfl kF Tryz.underlying36 rfl (by kernel_rfl)) rfl ⟨?_, ?_⟩
              · rw [hx]
              · exact below_setCells (hB3.trans ((hY8).mono hB3.size)) (Nat.le_of_eq Hbz.out.symm) 0 _

end Go.Proofs.YtmeomhojbobpbaaGreatDoor
