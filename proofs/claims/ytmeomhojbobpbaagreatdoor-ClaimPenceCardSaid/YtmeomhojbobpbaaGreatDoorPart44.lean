import Derived.Test.YtmeomhojbobpbaaGreatDoorPart43
/-
  Walks: how pence are split, as the reference of claims has it.
-/
namespace Go.Proofs.YtmeomhojbobpbaaGreatDoor
open Go.RowKit Lg Go.Sort Go.Shelf

set_option maxRecDepth 100000 in
set_option maxHeartbeats 12800000 in
theorem split5_any (total : Int) (a : Option Addr) (n cap : Nat) (xs : List Frac) (w : World) (hL : Lst w 2 cF a n cap xs) :
    Calls Tryz.prog 18 #[.int .i64 total, .slice a n cap] w (GivesL w 3 1 cI (splitOf total xs).1 (splitOf total xs).2) := by
  obtain ⟨r, hr⟩ : ∃ r, r = splitOf total xs := ⟨_, rfl⟩
  rw [← hr]
  unfold splitOf at hr
  have hlen := hL.len
  rw [hlen] at hr
  have Hlen := Lib.hid hlen; clear hlen
  have hm : cap ≤ 9223372036854775807 := by have := hL.max; unfold maxLen at this; omega
  have hle := hL.le
  by_cases h1 : 41 < n
  · rw [if_pos h1] at hr
    have h1z : (41 : Int) < (n : Int) := by omega
    have Hr := Lib.hid hr; clear hr hL
    go_enter Tryz.func18, Tryz.ntmps18
    go_wp2_with (fail)
    go_ret2
    rw [Hr.out]
    exact GivesL.nil (Below.refl _ w)
  rw [if_neg h1] at hr
  have h1z : ¬ (41 : Int) < (n : Int) := by omega
  have hn41 : n ≤ 41 := by omega
  have Hr := Lib.hid hr; clear hr h1
  have hin := fun W => withinr5_any total 0 1000000000 W
  have hV := fun f W => valid5_any f W
  go_enter Tryz.func18, Tryz.ntmps18
  go_wp2_with (fail)
  refine (hin _).mono ?_
  clear hin
  rintro e w2 ⟨rfl, rfl⟩
  have hf0 : inn total 0 1000000000 = splitFine total (xs.take 0) := by unfold splitFine; simp
  rw [hf0]
  clear hf0
  go_wp2_with (fail)
  go_loopw [6, 7] (fun f i wr => ∃ k : Nat, k ≤ n ∧ f = .bool (splitFine total (xs.take k)) ∧ i = .int .i64 k ∧ RowKit.Below w.heap.size w wr) (fun _ i _ => n - (intOf i).toNat)
  case atStart => exact ⟨0, Nat.zero_le _, rfl, rfl, Below.refl _ _⟩
  case round =>
    obtain ⟨k, hk, rfl, rfl, hbr⟩ := hrel
    by_cases hlt : k < n
    · have hltz : (k : Int) < (n : Int) := by omega
      have hkz : (0 : Int) ≤ (k : Int) := by omega
      obtain ⟨x, hx⟩ : ∃ x, xs[k]? = some x := ⟨xs[k]'(by rw [Hlen.out]; exact hlt), by simp⟩
      obtain ⟨b, off, rfl, hb, hrg⟩ := (hL.below hbr).at_ k x hx
      have htk : splitFine total (xs.take (k + 1)) = (splitFine total (xs.take k) && (validF x && decide (0 ≤ x.num) && decide (x.num ≤ x.den))) := by
        obtain ⟨h1, h2⟩ := List.getElem?_eq_some_iff.1 hx
        rw [List.take_succ_eq_append_getElem h1, h2, splitFine_snoc]
      have Htk := Lib.hid htk
      have hVx := hV x wr
      have Hrg := Lib.hid hrg
      clear htk hx hV
      generalize splitFine total (xs.take k) = fk at *
      obtain ⟨vx, hvx⟩ : ∃ vx, vx = validF x := ⟨_, rfl⟩
      rw [← hvx] at Htk hVx
      clear hvx
      go_wp2_with (first
        | (refine wpList_load_mid rfl 25 _ rfl b (off + k * 2) rfl (cF x) _ hrg Tryz.underlying25 rfl (by kernel_rfl) ?_)
        | fail)
      refine hVx.mono ?_
      clear hVx hrg
      rintro e w3 ⟨rfl, hB3⟩
      have hb3 := hbr.trans (hB3.mono hbr.size)
      have hr3 := rangeAt_below hB3 hb Hrg.out
      have c0 := hr3 0 _ rfl
      have c1 := hr3 1 _ rfl
      simp only [Nat.add_zero] at c0
      have hfin : ∀ q, RowKit.Below w.heap.size w (w3.drewN q) := fun q => below_drewN' hb3 q
      have Hfin := Lib.hid hfin
      clear hr3 hfin hB3
      have hcs : fk = false ∨ (fk = true ∧ vx = false) ∨ (fk = true ∧ vx = true ∧ decide (0 ≤ x.num) = false) ∨ (fk = true ∧ vx = true ∧ decide (0 ≤ x.num) = true ∧ decide (x.num ≤ x.den) = false) ∨ (fk = true ∧ vx = true ∧ decide (0 ≤ x.num) = true ∧ decide (x.num ≤ x.den) = true) := by
        cases fk <;> cases vx <;> cases decide (0 ≤ x.num) <;> cases decide (x.num ≤ x.den) <;> simp
      rcases hcs with rfl | ⟨rfl, rfl⟩ | ⟨rfl, rfl, hnd⟩ | ⟨rfl, rfl, hnd, hmd⟩ | ⟨rfl, rfl, hnd, hmd⟩
      all_goals
        have Hd := Lib.hid Htk.out
        clear Htk
        go_wp2_with (fail)
        go_quiet (fail)
        go_wp2_with (fail)
        go_roundw
        case rel => exact ⟨k + 1, by omega, by rw [Hd.out]; simp [*], by go_num, Hfin.out _⟩
        case measure => simp [intOf]; omega
    · obtain rfl : k = n := by omega
      have htk : xs.take k = xs := List.take_of_length_le (by rw [Hlen.out]; exact Nat.le_refl _)
      rw [htk]
      clear htk hlt hk hV
      obtain ⟨fb, hfb⟩ : ∃ fb, fb = splitFine total xs := ⟨_, rfl⟩
      rw [← hfb]
      have hr := Hr.out
      rw [← hfb] at hr
      clear Hr
      cases fb with
      | false =>
        rw [if_pos rfl] at hr
        have Hr := Lib.hid hr; clear hr hfb
        go_wp2_with (fail)
        go_ret2
        rw [Hr.out]
        exact GivesL.nil hbr
      | true =>
        rw [if_neg (by simp)] at hr
        have Hr := Lib.hid hr; clear hr
        have hfine := Lib.hid hfb.symm; clear hfb
        have hsum := fun W hW => sum5_any a k cap xs W hW
        go_wp2_with (fail)
        refine (hsum wr (hL.below hbr)).mono ?_
        clear hsum
        rintro e w3 ⟨rfl, hB3⟩
        have hb3 : RowKit.Below w.heap.size w w3 := hbr.trans (hB3.mono hbr.size)
        clear hbr hB3
        obtain ⟨hf0, hf1, hfa⟩ := fine_all hfine.out
        have hsm : sumOf xs = sumGo ⟨0, 1⟩ xs := by
          unfold sumOf
          rw [if_neg (by have := Hlen.out; omega), if_neg]
          rw [Bool.not_eq_true, List.any_eq_false]
          intro f hf
          simp [(hfa f hf).1]
        rcases sumGo_cases xs (fun f hf => (hfa f hf).2.1) with ⟨s1, s2, s3⟩ | ⟨_, _, _, _, _, _, s5⟩
        rotate_left
        · rw [hsm, s5]
          have hr := Hr.out
          rw [hsm, s5, if_pos (by simp)] at hr
          have Hr2 := Lib.hid hr
          clear hr hsm s5 Hr hfa
          go_wp2_with (fail)
          go_ret2
          rw [Hr2.out]
          exact GivesL.nil (hb3.alloc hb3.size _)
        · rw [hsm, s2]
          have hr := Hr.out
          rw [hsm, s2, if_neg (by simp)] at hr
          dsimp only at hr ⊢
          clear Hr hsm s2
          obtain ⟨lb1, lb2, lb3, lb4, lb5⟩ := splitLeft_bd hfine.out s1
          have hgr := greedy_eq hfine.out s1
          rw [← hgr] at hr
          clear hgr
          obtain ⟨sm, hsm⟩ : ∃ sm, sm = sumFr xs := ⟨_, rfl⟩
          have hlf : splitLeft total xs = (total * sm.num).tdiv sm.den - baseSum total xs := by rw [hsm]; rfl
          rw [← hsm] at hr lb3 lb4 s3 ⊢
          obtain ⟨sm1, sm2, sm3, sm4⟩ := s3
          clear hsm
          by_cases hpr : sm.den < sm.num
          · rw [if_pos hpr] at hr
            have Hr2 := Lib.hid hr
            clear hr hlf hfa
            go_wp2_with (fail)
            go_ret2
            rw [Hr2.out]
            exact GivesL.nil (hb3.alloc hb3.size _)
          · rw [if_neg hpr] at hr
            have Hr2 := Lib.hid hr; clear hr
            have Hlf := Lib.hid hlf; clear hlf
            have hpr2 : sm.num ≤ sm.den := by omega
            have p1 : 0 ≤ total * sm.num := Int.mul_nonneg hf0 lb4
            have p2 : total * sm.num ≤ 1000000000000000 := by
              calc total * sm.num ≤ 1000000000 * sm.num := Int.mul_le_mul_of_nonneg_right hf1 lb4
                _ ≤ 1000000000000000 := by omega
            have hw1 : IntKind.i64.wrap (total * sm.num) = total * sm.num := by rw [IntKind.wrap_i64]; omega
            obtain ⟨L0, hL0⟩ : ∃ L0, L0 = (total * sm.num).tdiv sm.den := ⟨_, rfl⟩
            have hL0b : 0 ≤ L0 ∧ L0 ≤ 1000000000000000 := by
              rw [hL0, Int.tdiv_eq_ediv_of_nonneg p1]
              exact ⟨Int.ediv_nonneg p1 (by omega), Int.le_trans (Int.ediv_le_self _ p1) p2⟩
            obtain ⟨hL01, hL02⟩ := hL0b
            have hq : (total * sm.num).tdiv sm.den = L0 := hL0.symm
            have hw2 : IntKind.i64.wrap L0 = L0 := by rw [IntKind.wrap_i64]; omega
            have hd0 : (sm.den == 0) = false := by simp; omega
            have hd1 : sm.den ≠ 0 := by omega
            have hlfz : splitLeft total xs = L0 - baseSum total xs := by rw [Hlf.out, hq]
            have Hlfz := Lib.hid hlfz; clear hlfz Hlf hL0
            obtain ⟨i0, hi0, hz0, hz1, hz2⟩ := info_parts infoI
            obtain ⟨j0, hj0, gz0, gz1, gz2⟩ := info_parts infoF
            obtain ⟨w4, hw4⟩ : ∃ w4, w4 = w3.alloc (.cells #[.int .i64 sm.num, .int .i64 sm.den] 25) := ⟨_, rfl⟩
            have hb4 : RowKit.Below w.heap.size w w4 := hw4 ▸ hb3.alloc hb3.size _
            obtain ⟨w5, hmk, hown, hgr⟩ := run_makeSlice_full w4 w.heap.size 30 3 i0 (.int .i64 0) 1 Tryz.underlying30 hi0 hz0 hz1 .i64 .i64 k (by omega) (by rw [hz2]; omega) (by unfold maxLen; omega) hb4.size
            have hb5 := below_of_grown hb4 (Nat.le_refl _) hgr (fun _ h => by cases h)
            obtain ⟨w6, hmk2, hown2, hgr2⟩ := run_makeSlice_full w5 w.heap.size 22 25 j0 (.agg #[.int .i64 0, .int .i64 0]) 2 Tryz.underlying22 hj0 gz0 gz1 .i64 .i64 k (by omega) (by rw [gz2]; omega) (by unfold maxLen; omega) hb5.size
            have hb6 := below_of_grown hb5 (Nat.le_refl _) hgr2 (fun _ h => by cases h)
            have hg54 : w4.heap.size < w5.heap.size := (hown.lt _ rfl).2
            have hg65 : w5.heap.size < w6.heap.size := (hown2.lt _ rfl).2
            have hown := hown.kept hgr2 (.inr (by simp [Value.ownBlock]))
            rw [made1, ← Hlen.out, ← fillL_zero (baseF total) (0 : Int) xs, Hlen.out] at hown
            rw [made2, ← Hlen.out, ← fillL_zero (cutQ total) (⟨0, 0⟩ : Frac) xs, Hlen.out] at hown2
            have c9 : w4.cell? ⟨w3.heap.size, 0, none⟩ = some (.int .i64 sm.num) ∧ w4.cell? ⟨w3.heap.size, 1, none⟩ = some (.int .i64 sm.den) := by
              have := (Blk.new w3 25 #[.int .i64 sm.num, .int .i64 sm.den]).cell
              rw [← hw4] at this
              exact ⟨this 0, this 1⟩
            have hg4 := hb4.size
            have hz4 : w4.heap.size = w3.heap.size + 1 := by rw [hw4]; simp
            rw [hz4] at hown hg54 hg4
            rw [hw4] at hmk c9
            simp only [World.size_alloc] at hmk
            go_wp2_with (fail)
            clear hz4 c9 hmk hmk2 hgr hgr2 hw1 hw2 hq hd0 hd1 hi0 hz0 hz1 hz2 hj0 gz0 gz1 gz2 hb3 hb4 hb5 hw4
            obtain ⟨g, hgg⟩ : ∃ g, g = w3.heap.size + 1 := ⟨_, rfl⟩
            obtain ⟨g2, hgg2⟩ : ∃ g2, g2 = w5.heap.size := ⟨_, rfl⟩
            rw [← hgg] at hown hg54 hg4 ⊢
            rw [← hgg2] at hown2 hg54 hg65 ⊢
            have hne : g ≠ g2 := by omega
            have hg2w : w.heap.size ≤ g2 := by omega
            clear hgg hgg2
            have Hfa := Lib.hid hfa; clear hfa
            have hlow := fun k d W h1 h2 => lowest5_any k d W h1 h2
            go_loopw [11, 14] (fun lf i wr => ∃ j : Nat, j ≤ k ∧ i = .int .i64 j ∧ lf = .int .i64 (L0 - baseSum total (xs.take j)) ∧
              wr.ownsRow w.heap.size 3 1 (.slice (some ⟨g, 0, none⟩) k k) k ((fillL (baseF total) (0 : Int) xs j).map (Value.int .i64)) ∧
              wr.ownsRow w.heap.size 25 2 (.slice (some ⟨g2, 0, none⟩) k k) k ((fillL (cutQ total) (⟨0, 0⟩ : Frac) xs j).flatMap cF) ∧ RowKit.Below w.heap.size w wr) (fun _ i _ => k - (intOf i).toNat)
            case atStart => exact ⟨0, Nat.zero_le _, rfl, by simp [baseSum], hown, hown2, hb6⟩
            case round =>
              clear hown hown2 hb6 hg65
              obtain ⟨j, hj, rfl, rfl, hout, hcut, hbr⟩ := hrel
              have hbt := baseSum_bd hf0 hf1 (xs.take j) (fun f hf => (Hfa.out f (List.mem_of_mem_take hf)).2)
              have hlt41 : ((xs.take j).length : Int) ≤ 41 := by have := List.length_take_le j xs; omega
              obtain ⟨bs, hbs⟩ : ∃ bs, bs = baseSum total (xs.take j) := ⟨_, rfl⟩
              rw [← hbs] at hbt ⊢
              obtain ⟨hbt1, hbt2⟩ := hbt
              have hbt3 : bs ≤ 41000000000 := by omega
              clear hbt2 hlt41
              by_cases hlt : j < k
              · obtain ⟨x, hx⟩ : ∃ x, xs[j]? = some x := ⟨xs[j]'(by rw [Hlen.out]; exact hlt), by simp⟩
                obtain ⟨b, off, rfl, hb, hrg⟩ := hL.at_ j x hx
                obtain ⟨_, hfr, x5, x6⟩ := Hfa.out x (List.mem_iff_getElem?.2 ⟨j, hx⟩)
                have hclow := cut_low (total := total) hfr
                have hcb := base_cut hf0 x5 (f := x) (by have := hfr.2.2.1; omega)
                obtain ⟨x1, x2, x3, x4⟩ := hfr
                have hbs2 : baseSum total (xs.take (j + 1)) = bs + baseF total x := by
                  obtain ⟨h1, h2⟩ := List.getElem?_eq_some_iff.1 hx
                  rw [List.take_succ_eq_append_getElem h1, h2, baseSum_append, hbs]; simp [baseSum]
                have q1 : 0 ≤ total * x.num := Int.mul_nonneg hf0 x5
                have q2 : total * x.num ≤ 1000000000000000 := by
                  calc total * x.num ≤ 1000000000 * x.num := Int.mul_le_mul_of_nonneg_right hf1 x5
                    _ ≤ 1000000000000000 := by omega
                obtain ⟨bx, hbx⟩ : ∃ bx, bx = baseF total x := ⟨_, rfl⟩
                obtain ⟨kx, hkx⟩ : ∃ kx, kx = cutN total x := ⟨_, rfl⟩
                have hbx2 : (total * x.num).tdiv x.den = bx := by rw [hbx]; rfl
                have hkx2 : (total * x.num).tmod x.den = kx := by rw [hkx, Int.tmod_eq_emod_of_nonneg q1]; rfl
                have hkx3 : (total * x.num) % x.den = kx := by rw [hkx]; rfl
                have hbx1 : 0 ≤ bx ∧ bx ≤ 1000000000 := by
                  rw [hbx]
                  exact ⟨(baseF_bd hf0 ⟨x1, x2, x3, x4⟩ x5).1, Int.le_trans (baseF_le hf0 ⟨x1, x2, x3, x4⟩ x5 x6) hf1⟩
                obtain ⟨hbx10, hbx11⟩ := hbx1
                rw [← hbx] at hbs2
                rw [← hkx] at hclow hcb
                obtain ⟨hk00, hk0, hk1⟩ := hcb
                clear hk00
                have hbx3 : (total * x.num) / x.den = bx := by rw [← Int.tdiv_eq_ediv_of_nonneg q1]; exact hbx2
                have hlx := fun W => hlow kx x.den W ⟨by omega, by omega⟩ ⟨by omega, by omega⟩
                rw [hclow] at hlx
                have hw1 : IntKind.i64.wrap (total * x.num) = total * x.num := by rw [IntKind.wrap_i64]; omega
                have hw2 : IntKind.i64.wrap bx = bx := by rw [IntKind.wrap_i64]; omega
                have hw4 : IntKind.i64.wrap kx = kx := by rw [IntKind.wrap_i64]; omega
                have hw3 : IntKind.i64.wrap (L0 - bs - bx) = L0 - bs - bx := by rw [IntKind.wrap_i64]; omega
                have hd0 : (x.den == 0) = false := by simp; omega
                have hd1 : x.den ≠ 0 := by omega
                have hjz : (j : Int) < (k : Int) := by omega
                have hjz0 : (0 : Int) ≤ (j : Int) := by omega
                have hfs1 := fillL_set (baseF total) (0 : Int) xs j x hx
                have hfs2 := fillL_set (cutQ total) (⟨0, 0⟩ : Frac) xs j x hx
                rw [← hbx] at hfs1
                have hg1 := fillL_get (baseF total) (0 : Int) xs j (by rw [Hlen.out]; exact hlt)
                have hg2 := fillL_get (cutQ total) (⟨0, 0⟩ : Frac) xs j (by rw [Hlen.out]; exact hlt)
                generalize fillL (baseF total) (0 : Int) xs j = o at *
                generalize fillL (cutQ total) (⟨0, 0⟩ : Frac) xs j = c at *
                have r0 := hrg 0 _ rfl
                have r1 := hrg 1 _ rfl
                simp only [Nat.add_zero] at r0
                have hM : ∀ W, RowKit.Below w.heap.size w W → W.cell? ⟨b, off + j * 2, none⟩ = some (.int .i64 x.num) ∧ W.cell? ⟨b, off + j * 2 + 1, none⟩ = some (.int .i64 x.den) :=
                  fun W h => ⟨(h.cell (p := ⟨b, off + j * 2, none⟩) hb).trans r0, (h.cell (p := ⟨b, off + j * 2 + 1, none⟩) hb).trans r1⟩
                obtain ⟨c0, c1⟩ := hM wr hbr
                have HM := Lib.hid hM
                have co := hout.cellAt j (by omega)
                rw [List.getElem?_map, hg1, Option.map_some] at co
                have cof := hout.frozenAt j
                obtain ⟨cc1, cc2⟩ := flat_get2 c j _ hg2
                have cq0 := hcut.cellAt (j * 2) (by omega)
                have cq1 := hcut.cellAt (j * 2 + 1) (by omega)
                rw [cc1] at cq0
                rw [cc2] at cq1
                have Hcc := Lib.hid (And.intro cc1 cc2)
                have Hg1 := Lib.hid hg1
                have Hbs2 := Lib.hid hbs2; clear hbs2
                have Hx := Lib.hid hx; clear hx
                have Hbx := Lib.hid hbx; clear hbx
                have Hkx := Lib.hid hkx; clear hkx
                have Hbs := Lib.hid hbs; clear hbs
                have Hfs1 := Lib.hid hfs1
                have Hfs2 := Lib.hid hfs2
                have Hout := Lib.hid hout
                have Hcut := Lib.hid hcut
                have Hlx := Lib.hid hlx
                clear hfs1 hfs2 hg1 hg2 hclow cc1 cc2 hout hcut hlx hrg hlow r0 r1 hM
                go_wp2_with (fail)
                go_region
                obtain ⟨W1, hW1⟩ : ∃ W1, W1 = (wr.setCell ⟨g, j, none⟩ (.int .i64 bx)).drew := ⟨_, rfl⟩
                rw [← hW1]
                have hst := Hout.out.stored j (.int .i64 bx)
                have hout1 : W1.ownsRow w.heap.size 3 1 (.slice (some ⟨g, 0, none⟩) k k) k ((fillL (baseF total) (0 : Int) xs (j + 1)).map (Value.int .i64)) := by
                  have := hst.1.drew
                  rw [← hW1, ints_set, Hfs1.out] at this
                  exact this
                have hcut1 : W1.ownsRow w.heap.size 25 2 (.slice (some ⟨g2, 0, none⟩) k k) k (c.flatMap cF) := hW1 ▸ (Hcut.out.kept hst.2 (.inr (by simp [Value.ownBlock]; omega))).drew
                have hb1 : RowKit.Below w.heap.size w W1 := hW1 ▸ (hbr.setCell (p := ⟨g, j, none⟩) (show w.heap.size ≤ g by omega) _).drew
                clear hst hW1 c0 c1 co cof cq0 cq1 hbr Hout Hcut
                have hgl := (hcut1.lt _ rfl).2
                have hK : ∀ W, RowKit.Below W1.heap.size W1 W → W.cell? ⟨b, off + j * 2, none⟩ = some (.int .i64 x.num) ∧ W.cell? ⟨b, off + j * 2 + 1, none⟩ = some (.int .i64 x.den) ∧ W.cell? ⟨g2, j * 2, none⟩ = some (.int .i64 0) ∧ W.cell? ⟨g2, j * 2 + 1, none⟩ = some (.int .i64 0) ∧ W.frozen? ⟨g2, j * 2, none⟩ = false ∧ W.frozen? ⟨g2, j * 2 + 1, none⟩ = false := fun W h => by
                  have h1 := HM.out W (hb1.trans (h.mono hb1.size))
                  have h2 := own_below hcut1 h
                  have h3 := h2.cellAt (j * 2) (by omega)
                  have h4 := h2.cellAt (j * 2 + 1) (by omega)
                  obtain ⟨cc1, cc2⟩ := Hcc.out
                  rw [cc1] at h3
                  rw [cc2] at h4
                  exact ⟨h1.1, h1.2, h3, h4, h2.frozenAt _, h2.frozenAt _⟩
                have hlx : ∀ W, RowKit.Below W1.heap.size W1 W → Calls Tryz.prog 77 #[.int .i64 kx, .int .i64 x.den] W fun e w' => e = .returned (.tuple #[aF (cutQ total x), .int .i64 0]) ∧ RowKit.Below W.heap.size W w' ∧ RowKit.Below W1.heap.size W1 w' := fun W h => (Hlx.out W).mono fun e w' q => ⟨q.1, q.2, h.trans (q.2.mono h.size)⟩
                have HK := Lib.hid hK
                have HL1 := Lib.hid hlx
                clear hK hlx Hlx
                go_upto_region 23 with fail
                go_region_held3 (fun w' => w'.cell? ⟨b, off + j * 2, none⟩ = some (.int .i64 x.num) ∧ w'.cell? ⟨b, off + j * 2 + 1, none⟩ = some (.int .i64 x.den))
                  (((with_reducible refine HM.out _ ?_); repeat (first | (with_reducible assumption) | (with_reducible exact Below.refl _ _) | (with_reducible refine Below.alloc ?_ ?_ _) | (with_reducible refine Below.setCell ?_ ?_ _) | (with_reducible refine Below.drew ?_) | omega | (simp <;> omega) | (dsimp only; omega))))
                  (first
                    | (go_at_call 77; (with_reducible refine (HL1.out _ (by repeat (first | (with_reducible assumption) | (with_reducible exact Below.refl _ _) | (with_reducible refine Below.alloc ?_ ?_ _) | (with_reducible refine Below.setCell ?_ ?_ _) | (with_reducible refine Below.drew ?_) | omega | (simp <;> omega) | (dsimp only; omega)))).mono ?_); rintro e w7 ⟨rfl, hB7, hb7⟩; obtain ⟨_, _, z0, z1, zf0, zf1⟩ := HK.out _ hb7; have hb17 := hb1.trans (RowKit.Below.mono hb7 hb1.size))
                    | fail)
                have hout7 := own_below hout1 hb7
                have hcut7 := own_below hcut1 hb7
                obtain ⟨W8, hW8⟩ : ∃ W8, W8 = ((w7.setCell ⟨g2, j * 2, none⟩ (.int .i64 (cutQ total x).num)).setCell ⟨g2, j * 2 + 1, none⟩ (.int .i64 (cutQ total x).den)) := ⟨_, rfl⟩
                rw [← hW8]
                have s1 := hcut7.stored (j * 2) (.int .i64 (cutQ total x).num)
                have s2 := s1.1.stored (j * 2 + 1) (.int .i64 (cutQ total x).den)
                have hcut8 : W8.ownsRow w.heap.size 25 2 (.slice (some ⟨g2, 0, none⟩) k k) k ((fillL (cutQ total) (⟨0, 0⟩ : Frac) xs (j + 1)).flatMap cF) := by
                  have := s2.1
                  rw [flat_set2, Hfs2.out, ← hW8] at this
                  exact this
                have hout8 : W8.ownsRow w.heap.size 3 1 (.slice (some ⟨g, 0, none⟩) k k) k ((fillL (baseF total) (0 : Int) xs (j + 1)).map (Value.int .i64)) := by
                  have := (hout7.kept s1.2 (.inr (by simp [Value.ownBlock]; omega))).kept s2.2 (.inr (by simp [Value.ownBlock]; omega))
                  rw [← hW8] at this
                  exact this
                have hb8 : RowKit.Below w.heap.size w W8 := hW8 ▸ (hb17.setCell (p := ⟨g2, j * 2, none⟩) hg2w _).setCell (p := ⟨g2, j * 2 + 1, none⟩) hg2w _
                have co := hout8.cellAt j (by omega)
                rw [← Hfs1.out, List.getElem?_map, List.getElem?_set_self (List.getElem?_eq_some_iff.1 Hg1.out).1, Option.map_some] at co
                have Hout8 := Lib.hid hout8
                have Hcut8 := Lib.hid hcut8
                clear s1 s2 hW8 hout8 hcut8 hout7 hcut7 hout1 hcut1 z0 z1 zf0 zf1 hb7 hb17 hb1 HK HL1 hgl
                go_wp2_with (fail)
                go_roundw
                case rel => exact ⟨j + 1, by omega, by go_num, by rw [Hbs2.out]; congr 1; omega, Hout8.out, Hcut8.out, hb8⟩
                case measure => simp [intOf]; omega
              · obtain rfl : j = k := by omega
                have htk : xs.take j = xs := List.take_of_length_le (by rw [Hlen.out]; exact Nat.le_refl _)
                rw [htk] at hbs
                obtain ⟨lf, hlf⟩ : ∃ lf : Nat, splitLeft total xs = (lf : Int) := ⟨(splitLeft total xs).toNat, by omega⟩
                have hlfj : lf ≤ j := by have := Hlen.out; omega
                have hleft : L0 - bs = (lf : Int) := by rw [← hlf, Hlfz.out, hbs]
                have hr := Hr2.out
                rw [hlf, Int.toNat_natCast] at hr
                have ho0 := fillL_all (baseF total) (0 : Int) xs
                have hc0 := fillL_all (cutQ total) (⟨0, 0⟩ : Frac) xs
                rw [Hlen.out] at ho0 hc0
                rw [ho0] at hout
                rw [hc0] at hcut
                have hbb : ∀ v ∈ xs.map (baseF total), 0 ≤ v ∧ v ≤ 1000000000 := fun v hv => by
                  obtain ⟨f, hf, rfl⟩ := List.mem_map.1 hv
                  have h := Hfa.out f hf
                  exact ⟨(baseF_bd hf0 h.2.1 h.2.2.1).1, Int.le_trans (baseF_le hf0 h.2.1 h.2.2.1 h.2.2.2) hf1⟩
                have hbl : (xs.map (baseF total)).length = j := by rw [List.length_map, Hlen.out]
                have hcl : (xs.map (cutQ total)).length = j := by rw [List.length_map, Hlen.out]
                rw [hleft]
                clear ho0 hc0 htk hlt hleft hlf lb1 lb2 hbs hlow
                generalize xs.map (baseF total) = o0 at *
                generalize xs.map (cutQ total) = c0 at *
                have Hr3 := Lib.hid hr
                have hno := fun W => none5_any W
                have hcm := fun a b W => compare5_any a b W
                clear hr Hr2 Hlfz
                go_wp2_with (fail)
                go_loopw [11] (fun l wr => ∃ t : Nat, t ≤ lf ∧ l = .int .i64 t ∧ ∃ (o : List Int) (c : List Frac), o.length = j ∧ c.length = j ∧ (∀ v ∈ o, 0 ≤ v ∧ v ≤ 1000000000 + ((lf - t : Nat) : Int)) ∧ Hid (greedy t o c = greedy lf o0 c0) ∧
                  wr.ownsRow w.heap.size 3 1 (.slice (some ⟨g, 0, none⟩) j j) j (o.map (Value.int .i64)) ∧ wr.ownsRow w.heap.size 25 2 (.slice (some ⟨g2, 0, none⟩) j j) j (c.flatMap cF) ∧ RowKit.Below w.heap.size w wr) (fun l _ => (intOf l).toNat)
                case atStart => exact ⟨lf, Nat.le_refl _, rfl, o0, c0, hbl, hcl, fun v hv => by have := hbb v hv; omega, Lib.hid rfl, hout, hcut, hbr⟩
                case round =>
                  clear hout hcut hbr hbb hbl hcl
                  obtain ⟨t, ht, rfl, o, c, hol, hcl, hob, Hg, hout, hcut, hbr⟩ := hrel
                  by_cases ht0 : 0 < t
                  · obtain ⟨t, rfl⟩ : ∃ t', t = t' + 1 := ⟨t - 1, by omega⟩
                    have htz : (0 : Int) < ((t + 1 : Nat) : Int) := by omega
                    have hj1 : 1 ≤ j := by omega
                    have Hout := Lib.hid hout
                    have Hcut := Lib.hid hcut
                    have Hob := Lib.hid hob
                    clear hout hcut hob
                    go_wp2_with (fail)
                    go_loopw [15, 16] (fun b i wi => ∃ q : Nat, 1 ≤ q ∧ q ≤ j ∧ i = .int .i64 q ∧ b = .int .i64 (bestAt c q : Nat) ∧ RowKit.Below wr.heap.size wr wi) (fun _ i _ => j - (intOf i).toNat)
                    case atStart =>
                      have : bestAt c 1 = 0 := by have := bestAt_lt c 1 (by omega); omega
                      exact ⟨1, by omega, hj1, rfl, by rw [this]; rfl, Below.refl _ _⟩
                    case round =>
                      obtain ⟨q, hq1, hq, rfl, rfl, hBi⟩ := hrel
                      have hout := own_below Hout.out hBi
                      have hcut := own_below Hcut.out hBi
                      have hbw := hbr.trans (hBi.mono hbr.size)
                      have hblt := bestAt_lt c q (by omega)
                      by_cases hqj : q < j
                      · have hqz : (q : Int) < (j : Int) := by omega
                        have hq0 : (0 : Int) ≤ (q : Int) := by omega
                        have hst : bestAt c (q + 1) = if 0 < cmpF (c.getD q ⟨0, 1⟩) (c.getD (bestAt c q) ⟨0, 1⟩) then q else bestAt c q := rfl
                        have Hst := Lib.hid hst
                        obtain ⟨b, hb⟩ : ∃ b, b = bestAt c q := ⟨_, rfl⟩
                        rw [← hb] at hblt Hst ⊢
                        have hbj : b < j := by omega
                        have hbz : (b : Int) < (j : Int) := by omega
                        have hb0 : (0 : Int) ≤ (b : Int) := by omega
                        obtain ⟨fq, hfq⟩ : ∃ f, c[q]? = some f := ⟨c[q]'(by omega), by simp⟩
                        obtain ⟨fb, hfb⟩ : ∃ f, c[b]? = some f := ⟨c[b]'(by omega), by simp⟩
                        obtain ⟨a1, a2⟩ := flat_get2 c q fq hfq
                        obtain ⟨a3, a4⟩ := flat_get2 c b fb hfb
                        have d1 := hcut.cellAt (q * 2) (by omega)
                        have d2 := hcut.cellAt (q * 2 + 1) (by omega)
                        have d3 := hcut.cellAt (b * 2) (by omega)
                        have d4 := hcut.cellAt (b * 2 + 1) (by omega)
                        rw [a1] at d1
                        rw [a2] at d2
                        rw [a3] at d3
                        rw [a4] at d4
                        have e1 := cell_regrown d1
                        have e2 := cell_regrown d2
                        have e3 := cell_regrown d3
                        have e4 := cell_regrown d4
                        have hst2 : bestAt c (q + 1) = if 0 < cmpF fq fb then q else b := by
                          have e1 : c.getD q ⟨0, 1⟩ = fq := by rw [List.getD_eq_getElem?_getD, hfq]; rfl
                          have e2 : c.getD b ⟨0, 1⟩ = fb := by rw [List.getD_eq_getElem?_getD, hfb]; rfl
                          rw [← e1, ← e2]; exact Hst.out
                        obtain ⟨z, hzz⟩ : ∃ z, z = cmpF fq fb := ⟨_, rfl⟩
                        have cF := regrown_call (w := wr) (v := .int .i64 z) (fun W' h => hzz ▸ hcm fq fb W')
                        rw [← hzz] at hst2
                        have Hst2 := Lib.hid hst2
                        have hfin : ∀ dq osq, RowKit.Below _ _ (grow (redrawn wr dq) osq) := fun dq osq => hBi.trans ((below_regrown wr dq osq).mono hBi.size)
                        have Hfin := Lib.hid hfin
                        clear d1 d2 d3 d4 a1 a2 a3 a4 hst hst2 Hst hfq hfb hb hfin hout hcut
                        clear hzz
                        by_cases hz : 0 < z
                        · have gz : decide (0 < z) = true := decide_eq_true hz
                          have hs := Hst2.out
                          rw [if_pos hz] at hs
                          have Hs := Lib.hid hs
                          clear hs Hst2 hz
                          go_wp2_with (fail)
                          refine wp_region_quiet_below (by kernel_rfl) (by kernel_rfl) ?_
                          repeat (go_big_quiet_step (with_reducible exact cF _ _))
                          refine wpQuiet_nil ?_
                          intro _ hw'
                          obtain ⟨⟨dq, osq⟩, hw''⟩ := hw'
                          subst hw''
                          go_wp2_with (fail)
                          go_roundw
                          case rel => exact ⟨q + 1, by omega, by omega, by go_num, by rw [Hs.out], Hfin.out dq osq⟩
                          case measure => simp [intOf]; omega
                        · have gz : decide (0 < z) = false := decide_eq_false hz
                          have hs := Hst2.out
                          rw [if_neg hz] at hs
                          have Hs := Lib.hid hs
                          clear hs Hst2 hz
                          go_wp2_with (fail)
                          refine wp_region_quiet_below (by kernel_rfl) (by kernel_rfl) ?_
                          repeat (go_big_quiet_step (with_reducible exact cF _ _))
                          refine wpQuiet_nil ?_
                          intro _ hw'
                          obtain ⟨⟨dq, osq⟩, hw''⟩ := hw'
                          subst hw''
                          go_wp2_with (fail)
                          go_roundw
                          case rel => exact ⟨q + 1, by omega, by omega, by go_num, by rw [Hs.out], Hfin.out dq osq⟩
                          case measure => simp [intOf]; omega
                      · obtain rfl : q = j := by omega
                        have hz : ¬ (q : Int) < (q : Int) := by omega
                        have hgs : greedy (t + 1) o c = greedy t (o.set (bestAt c q) (o.getD (bestAt c q) 0 + 1)) (c.set (bestAt c q) ⟨0, 1⟩) := by rw [greedy, hcl]
                        rw [Hg.out] at hgs
                        obtain ⟨b, hb⟩ : ∃ b, b = bestAt c q := ⟨_, rfl⟩
                        rw [← hb] at hblt hgs ⊢
                        have hbz : (b : Int) < (q : Int) := by omega
                        have hb0 : (0 : Int) ≤ (b : Int) := by omega
                        obtain ⟨v, hv⟩ : ∃ v, o[b]? = some v := ⟨o[b]'(by omega), by simp⟩
                        have hvd : o.getD b 0 = v := by rw [List.getD_eq_getElem?_getD, hv]; rfl
                        rw [hvd] at hgs
                        obtain ⟨v0, v1⟩ := Hob.out v (List.mem_of_getElem? hv)
                        have v2 : v ≤ 1000000041 := by omega
                        have w1 : IntKind.i64.wrap (v + 1) = v + 1 := by rw [IntKind.wrap_i64]; omega
                        have co := hout.cellAt b (by omega)
                        rw [List.getElem?_map, hv, Option.map_some] at co
                        have cof := hout.frozenAt b
                        obtain ⟨W1, hW1⟩ : ∃ W1, W1 = wr.setCell ⟨g, b, none⟩ (.int .i64 (v + 1)) := ⟨_, rfl⟩
                        have hst := hout.stored b (.int .i64 (v + 1))
                        have hout1 : W1.ownsRow w.heap.size 3 1 (.slice (some ⟨g, 0, none⟩) q q) q ((o.set b (v + 1)).map (Value.int .i64)) := by
                          have := hst.1
                          rw [← hW1, ints_set] at this
                          exact this
                        have hcut1 : W1.ownsRow w.heap.size 25 2 (.slice (some ⟨g2, 0, none⟩) q q) q (c.flatMap cF) := hW1 ▸ hcut.kept hst.2 (.inr (by simp [Value.ownBlock]; omega))
                        have hb1 : RowKit.Below w.heap.size w W1 := hW1 ▸ hbw.setCell (p := ⟨g, b, none⟩) (show w.heap.size ≤ g by omega) _
                        obtain ⟨fb, hfb⟩ : ∃ f, c[b]? = some f := ⟨c[b]'(by omega), by simp⟩
                        obtain ⟨a3, a4⟩ := flat_get2 c b fb hfb
                        have hob2 : ∀ u ∈ o.set b (v + 1), 0 ≤ u ∧ u ≤ 1000000000 + ((lf - t : Nat) : Int) := fun u hu => by
                          rcases List.mem_or_eq_of_mem_set hu with h | h
                          · have := Hob.out u h; omega
                          · omega
                        have Hob2 := Lib.hid hob2
                        have Hgs := Lib.hid hgs
                        clear hst hob2 hgs hout hcut hv hvd hfb hb hBi hbw
                        go_wp2_with (fail)
                        rw [← hW1]
                        refine (hno W1).mono ?_
                        rintro e w5 ⟨rfl, hB5⟩
                        have hout5 := own_below hout1 hB5
                        have hcut5 := own_below hcut1 hB5
                        have hb5 := hb1.trans (hB5.mono hb1.size)
                        have d3 := hcut5.cellAt (b * 2) (by omega)
                        have d4 := hcut5.cellAt (b * 2 + 1) (by omega)
                        rw [a3] at d3
                        rw [a4] at d4
                        have f3 := hcut5.frozenAt (b * 2)
                        have f4 := hcut5.frozenAt (b * 2 + 1)
                        have s1 := hcut5.stored (b * 2) (.int .i64 0)
                        have s2 := s1.1.stored (b * 2 + 1) (.int .i64 1)
                        have hcut8 : ((w5.setCell ⟨g2, b * 2, none⟩ (.int .i64 0)).setCell ⟨g2, b * 2 + 1, none⟩ (.int .i64 1)).ownsRow w.heap.size 25 2 (.slice (some ⟨g2, 0, none⟩) q q) q ((c.set b ⟨0, 1⟩).flatMap cF) := by
                          have := s2.1
                          have e := flat_set2 c b ⟨0, 1⟩
                          dsimp only at e
                          rw [e] at this
                          exact this
                        have hout8 : ((w5.setCell ⟨g2, b * 2, none⟩ (.int .i64 0)).setCell ⟨g2, b * 2 + 1, none⟩ (.int .i64 1)).ownsRow w.heap.size 3 1 (.slice (some ⟨g, 0, none⟩) q q) q ((o.set b (v + 1)).map (Value.int .i64)) :=
                          (hout5.kept s1.2 (.inr (by simp [Value.ownBlock]; omega))).kept s2.2 (.inr (by simp [Value.ownBlock]; omega))
                        have hb8 : RowKit.Below w.heap.size w ((w5.setCell ⟨g2, b * 2, none⟩ (.int .i64 0)).setCell ⟨g2, b * 2 + 1, none⟩ (.int .i64 1)) := (hb5.setCell (p := ⟨g2, b * 2, none⟩) hg2w _).setCell (p := ⟨g2, b * 2 + 1, none⟩) hg2w _
                        have Hout8 := Lib.hid hout8
                        have Hcut8 := Lib.hid hcut8
                        have Hb8 := Lib.hid hb8
                        clear s1 s2 hout8 hcut8 hb8 hout5 hcut5 hout1 hcut1 hb1 hb5 hW1 co cof
                        go_wp2_with (fail)
                        go_roundw
                        case rel =>
                          exact ⟨t, by omega, rfl, o.set b (v + 1), c.set b ⟨0, 1⟩, by rw [List.length_set]; exact hol, by rw [List.length_set]; exact hcl, Hob2.out, Lib.hid Hgs.out.symm, Hout8.out, Hcut8.out, Hb8.out⟩
                        case measure => simp [intOf] <;> omega
                  · obtain rfl : t = 0 := by omega
                    have htz : ¬ (0 : Int) < ((0 : Nat) : Int) := by omega
                    have hg := Hg.out
                    rw [greedy] at hg
                    have hr := Hr3.out
                    rw [← hg] at hr
                    subst hr
                    clear Hr3 hg Hg
                    go_wp2_with (fail)
                    go_ret2
                    refine ⟨_, rfl, ?_, hbr⟩
                    rw [flat_int]
                    dsimp only
                    rw [hol]
                    exact hout

end Go.Proofs.YtmeomhojbobpbaaGreatDoor
