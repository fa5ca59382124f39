import Derived.Test.YtmeomhojbobpbaaGreatDoorPart42
import Derived.Test.YtmeomhojbobpbaaGreatDoorPart54
import Derived.Test.YtmeomhojbobpbaaGreatDoorPart37
namespace Go.Proofs.YtmeomhojbobpbaaGreatDoor
open Go.RowKit Lg Go.Sort Go.Shelf Go.Maps

theorem tailL5_len (ws : List Bs) (h : ∀ w ∈ ws, w.length ≤ 12) : (tailL5 ws).length ≤ 13 * ws.length := by
  induction ws with
  | nil => simp [tailL5]
  | cons a r ih =>
    have h1 := h a (by simp)
    have h2 := ih (fun w hw => h w (by simp [hw]))
    simp [tailL5]; omega

theorem lineD_size {x : Deed} (h : formedD x = true) : (lineD x).size ≤ 1000 := by
  have hl : ∀ w ∈ wordsD x, w.length ≤ 12 := by
    intro w hw
    unfold wordsD at hw
    rcases List.mem_append.1 hw with hw | hw
    · obtain ⟨n, hn, rfl⟩ := List.mem_map.1 hw
      exact (nm_len (headN_bd h n hn).1 (headN_bd h n hn).2).2
    · rcases List.mem_cons.1 hw with rfl | hw
      · have := wordK_len5 x.kind; omega
      · obtain ⟨n, hn, rfl⟩ := List.mem_map.1 hw
        exact (nm_len (tailN_bd h n hn).1 (tailN_bd h n hn).2).2
  have hc : (wordsD x).length ≤ 10 := by
    unfold wordsD headN tailN
    repeat' split
    all_goals simp
  show (lineL (wordsD x)).length ≤ 1000
  cases hw : wordsD x with
  | nil => simp [lineL]
  | cons a r =>
    rw [hw] at hl hc
    rw [lineL_cons5, List.length_append]
    have h1 := hl a (by simp)
    have h2 := tailL5_len r (fun w hw => hl w (by simp [hw]))
    simp at hc
    omega

theorem write_back {x : Deed} (h : (writeD x).2 = 0) : (writeD x).1.size ≤ 1000 ∧ readD (writeD x).1 = (x, 0) := by
  unfold writeD at h ⊢
  cases hf : formedD x with
  | false => rw [hf] at h; simp at h
  | true =>
    rw [if_pos rfl]
    refine ⟨lineD_size hf, ?_⟩
    obtain ⟨h1, h2⟩ := readsD_unique (readD_spec (lineD x)) (.inl ⟨rfl, hf, rfl⟩ : ReadsD (lineD x) x 0)
    exact Prod.ext h1 h2

theorem read_back {line : ByteArray} (h : (readD line).2 = 0) : writeD (readD line).1 = (line, 0) := by
  rcases readD_spec line with ⟨_, h1, h2⟩ | ⟨h1, _⟩
  · unfold writeD; rw [if_pos h1, h2]
  · rw [h] at h1; cases h1

set_option maxRecDepth 100000 in
set_option maxHeartbeats 6400000 in
theorem lawTexts_any (x : Deed) (line : ByteArray) (w : World) (hV : Vs w) : Calls Tryz.prog 5 #[aD x, .string line] w (Gives w (.bool true)) := by
  obtain ⟨w0, hw0⟩ : ∃ w0, w0 = w.alloc (.cells #[.int .i64 x.id, .int .i64 x.known, .int .i64 x.hour, .int .u8 x.kind, .int .i64 x.loss, .int .i64 x.pack, .int .i64 x.from_, .int .i64 x.to_, .int .i64 x.share.num, .int .i64 x.share.den, .int .i64 x.of_] 36) := ⟨_, rfl⟩
  have kX : Blk w0 w.heap.size #[.int .i64 x.id, .int .i64 x.known, .int .i64 x.hour, .int .u8 x.kind, .int .i64 x.loss, .int .i64 x.pack, .int .i64 x.from_, .int .i64 x.to_, .int .i64 x.share.num, .int .i64 x.share.den, .int .i64 x.of_] 36 := hw0 ▸ Blk.new _ _ _
  have hB0 : RowKit.Below w.heap.size w w0 := hw0 ▸ (Below.refl _ w).alloc (Nat.le_refl _) _
  have hV0 := hV.below hB0
  have hwb := write_back (x := x)
  have hrb := read_back (line := line)
  go_enter Tryz.func5, Tryz.ntmps5
  go_upto_region 1 with fail
  rw [← hw0]
  clear hw0 hV
  obtain ⟨bKX, hbx⟩ : ∃ b, b = w.heap.size := ⟨_, rfl⟩
  rw [← hbx] at kX ⊢
  clear hbx
  by_cases h1 : 300 < line.size
  · have hz : (300 : Int) < (line.size : Int) := by omega
    have hal := alive_any _ hV0
    go_wp2_with (fail)
    refine hal.mono ?_
    rintro e w2 ⟨rfl, hB2⟩
    go_wp2_with (fail)
    go_ret
    exact ⟨rfl, hB0.trans (hB2.mono hB0.size)⟩
  have hz : ¬ (300 : Int) < (line.size : Int) := by omega
  have hs : line.size ≤ 1000 := by omega
  have HV := Lib.hid hV0
  have HB := Lib.hid hB0
  have KX := Lib.hid kX
  have hcw := fun W h => writeD_any x W h
  have hrw := fun W => write5_any x W
  have hcr := fun W h => readD_any line W h hs
  have hrr := fun W => read5_any line hs W
  generalize writeD x = p at *
  obtain ⟨s, e⟩ := p
  generalize readD line = q at *
  obtain ⟨y, er⟩ := q
  dsimp only at hwb hrb hcw hrw hcr hrr
  have Hwb := Lib.hid hwb
  have Hrb := Lib.hid hrb
  have hss : (s.toList == s.toList) = true := by simp
  have hll : (line.toList == line.toList) = true := by simp
  have hqx := fun W => neqD x x W
  have hqy := fun W => neqD y y W
  rw [decide_eq_true rfl] at hqx hqy
  have gg := guardD
  clear hwb hrb hV0 hB0 kX h1
  have cKX := KX.out.cell
  go_wp2_with (fail)
  refine (hcw _ HV.out).mono ?_
  rintro e w1 ⟨rfl, hB1⟩
  clear cKX
  replace KX := Lib.hid (KX.out.below' hB1)
  replace HV := Lib.hid (HV.out.below hB1)
  replace HB := Lib.hid (HB.out.trans (hB1.mono HB.out.size))
  clear hB1
  have cKX := KX.out.cell
  go_wp2_with (fail)
  refine (hrw _).mono ?_
  rintro e w2 ⟨rfl, hB2⟩
  clear cKX
  replace KX := Lib.hid (KX.out.below' hB2)
  replace HV := Lib.hid (HV.out.below hB2)
  replace HB := Lib.hid (HB.out.trans (hB2.mono HB.out.size))
  clear hB2
  go_wp2_with (fail)
  refine (hcr _ HV.out).mono ?_
  rintro e w3 ⟨rfl, hB3⟩
  replace KX := Lib.hid (KX.out.below' hB3)
  replace HV := Lib.hid (HV.out.below hB3)
  replace HB := Lib.hid (HB.out.trans (hB3.mono HB.out.size))
  clear hB3
  obtain ⟨w4, hw4⟩ : ∃ wn, wn = w3.alloc (.cells #[.int .i64 y.id, .int .i64 y.known, .int .i64 y.hour, .int .u8 y.kind, .int .i64 y.loss, .int .i64 y.pack, .int .i64 y.from_, .int .i64 y.to_, .int .i64 y.share.num, .int .i64 y.share.den, .int .i64 y.of_] 36) := ⟨_, rfl⟩
  have kn : Blk w4 w3.heap.size #[.int .i64 y.id, .int .i64 y.known, .int .i64 y.hour, .int .u8 y.kind, .int .i64 y.loss, .int .i64 y.pack, .int .i64 y.from_, .int .i64 y.to_, .int .i64 y.share.num, .int .i64 y.share.den, .int .i64 y.of_] 36 := hw4 ▸ Blk.new _ _ _
  have hB4 : RowKit.Below w3.heap.size w3 w4 := hw4 ▸ (Below.refl _ _).alloc (Nat.le_refl _) _
  go_upto_region 6 with fail
  rw [← hw4]
  clear hw4
  obtain ⟨bK9, hbK9⟩ : ∃ b, b = w3.heap.size := ⟨_, rfl⟩
  rw [← hbK9] at kn ⊢
  clear hbK9
  have K9 := Lib.hid kn
  clear kn
  replace KX := Lib.hid (KX.out.below' hB4)
  replace HV := Lib.hid (HV.out.below hB4)
  replace HB := Lib.hid (HB.out.trans (hB4.mono HB.out.size))
  clear hB4
  go_wp2_with (fail)
  refine (hrr _).mono ?_
  rintro e w5 ⟨rfl, hB5⟩
  replace KX := Lib.hid (KX.out.below' hB5)
  replace K9 := Lib.hid (K9.out.below' hB5)
  replace HV := Lib.hid (HV.out.below hB5)
  replace HB := Lib.hid (HB.out.trans (hB5.mono HB.out.size))
  clear hB5
  obtain ⟨w6, hw6⟩ : ∃ wn, wn = w5.alloc (.cells #[.int .i64 y.id, .int .i64 y.known, .int .i64 y.hour, .int .u8 y.kind, .int .i64 y.loss, .int .i64 y.pack, .int .i64 y.from_, .int .i64 y.to_, .int .i64 y.share.num, .int .i64 y.share.den, .int .i64 y.of_] 36) := ⟨_, rfl⟩
  have kn : Blk w6 w5.heap.size #[.int .i64 y.id, .int .i64 y.known, .int .i64 y.hour, .int .u8 y.kind, .int .i64 y.loss, .int .i64 y.pack, .int .i64 y.from_, .int .i64 y.to_, .int .i64 y.share.num, .int .i64 y.share.den, .int .i64 y.of_] 36 := hw6 ▸ Blk.new _ _ _
  have hB6 : RowKit.Below w5.heap.size w5 w6 := hw6 ▸ (Below.refl _ _).alloc (Nat.le_refl _) _
  go_upto_region 7 with fail
  rw [← hw6]
  clear hw6
  obtain ⟨bK11, hbK11⟩ : ∃ b, b = w5.heap.size := ⟨_, rfl⟩
  rw [← hbK11] at kn ⊢
  clear hbK11
  have K11 := Lib.hid kn
  clear kn
  replace KX := Lib.hid (KX.out.below' hB6)
  replace K9 := Lib.hid (K9.out.below' hB6)
  replace HV := Lib.hid (HV.out.below hB6)
  replace HB := Lib.hid (HB.out.trans (hB6.mono HB.out.size))
  clear hB6
  clear hcw hrw hcr hrr
  have cK9 := K9.out.cell
  have cK11 := K11.out.cell
  go_upto_region 9 with fail
  clear cK9 cK11 hqy hss
  by_cases he : e = 0
  · skip
    obtain ⟨hsz, hrd⟩ := Hwb.out he
    have hcr2 := fun W h => readD_any s W h hsz
    rw [hrd] at hcr2
    dsimp only at hcr2
    subst he
    go_wp2_with (fail)
    refine (hcr2 _ HV.out).mono ?_
    rintro e w7 ⟨rfl, hB7⟩
    replace KX := Lib.hid (KX.out.below' hB7)
    replace K9 := Lib.hid (K9.out.below' hB7)
    replace K11 := Lib.hid (K11.out.below' hB7)
    replace HV := Lib.hid (HV.out.below hB7)
    replace HB := Lib.hid (HB.out.trans (hB7.mono HB.out.size))
    clear hB7
    obtain ⟨w8, hw8⟩ : ∃ wn, wn = w7.alloc (.cells #[.int .i64 x.id, .int .i64 x.known, .int .i64 x.hour, .int .u8 x.kind, .int .i64 x.loss, .int .i64 x.pack, .int .i64 x.from_, .int .i64 x.to_, .int .i64 x.share.num, .int .i64 x.share.den, .int .i64 x.of_] 36) := ⟨_, rfl⟩
    have kn : Blk w8 w7.heap.size #[.int .i64 x.id, .int .i64 x.known, .int .i64 x.hour, .int .u8 x.kind, .int .i64 x.loss, .int .i64 x.pack, .int .i64 x.from_, .int .i64 x.to_, .int .i64 x.share.num, .int .i64 x.share.den, .int .i64 x.of_] 36 := hw8 ▸ Blk.new _ _ _
    have hB8 : RowKit.Below w7.heap.size w7 w8 := hw8 ▸ (Below.refl _ _).alloc (Nat.le_refl _) _
    go_upto_region 11 with fail
    rw [← hw8]
    clear hw8
    obtain ⟨bK13, hbK13⟩ : ∃ b, b = w7.heap.size := ⟨_, rfl⟩
    rw [← hbK13] at kn ⊢
    clear hbK13
    have K13 := Lib.hid kn
    clear kn
    replace KX := Lib.hid (KX.out.below' hB8)
    replace K9 := Lib.hid (K9.out.below' hB8)
    replace K11 := Lib.hid (K11.out.below' hB8)
    replace HV := Lib.hid (HV.out.below hB8)
    replace HB := Lib.hid (HB.out.trans (hB8.mono HB.out.size))
    clear hB8
    clear hcr2
    have cK13 := K13.out.cell
    have cKX := KX.out.cell
    go_upto_region 13 with fail
    clear cK13 cKX K13
    by_cases hh : er = 0
    · skip
      have hcw2 := fun W h => writeD_any y W h
      rw [Hrb.out hh] at hcw2
      dsimp only at hcw2
      subst hh
      have cK9 := K9.out.cell
      go_wp2_with (fail)
      refine (hcw2 _ HV.out).mono ?_
      rintro e w21 ⟨rfl, hB21⟩
      clear cK9
      replace K9 := Lib.hid (K9.out.below' hB21)
      replace HV := Lib.hid (HV.out.below hB21)
      replace HB := Lib.hid (HB.out.trans (hB21.mono HB.out.size))
      clear hB21
      clear hcw2
      have hal := alive_any _ HV.out
      go_wp2_with (fail)
      refine hal.mono ?_
      rintro e wz ⟨rfl, hBz⟩
      go_wp2_with (fail)
      go_ret
      exact ⟨rfl, HB.out.trans (hBz.mono HB.out.size)⟩
    · skip
      have g1 : (er == 0) = false := by simpa using hh
      have hal := alive_any _ HV.out
      go_wp2_with (fail)
      refine hal.mono ?_
      rintro e wz ⟨rfl, hBz⟩
      go_wp2_with (fail)
      go_ret
      exact ⟨rfl, HB.out.trans (hBz.mono HB.out.size)⟩
  · skip
    have g0 : (e == 0) = false := by simpa using he
    go_upto_region 13 with fail
    by_cases hh : er = 0
    · skip
      have hcw2 := fun W h => writeD_any y W h
      rw [Hrb.out hh] at hcw2
      dsimp only at hcw2
      subst hh
      have cK9 := K9.out.cell
      go_wp2_with (fail)
      refine (hcw2 _ HV.out).mono ?_
      rintro e w21 ⟨rfl, hB21⟩
      clear cK9
      replace K9 := Lib.hid (K9.out.below' hB21)
      replace HV := Lib.hid (HV.out.below hB21)
      replace HB := Lib.hid (HB.out.trans (hB21.mono HB.out.size))
      clear hB21
      clear hcw2
      have hal := alive_any _ HV.out
      go_wp2_with (fail)
      refine hal.mono ?_
      rintro e wz ⟨rfl, hBz⟩
      go_wp2_with (fail)
      go_ret
      exact ⟨rfl, HB.out.trans (hBz.mono HB.out.size)⟩
    · skip
      have g1 : (er == 0) = false := by simpa using hh
      have hal := alive_any _ HV.out
      go_wp2_with (fail)
      refine hal.mono ?_
      rintro e wz ⟨rfl, hBz⟩
      go_wp2_with (fail)
      go_ret
      exact ⟨rfl, HB.out.trans (hBz.mono HB.out.size)⟩

end Go.Proofs.YtmeomhojbobpbaaGreatDoor
