import Derived.Test.YtmeomhojbobpbaaGreatDoorPart41
/-
  Walk: the chapter's examples (laganlaw05.alive).
-/
namespace Go.Proofs.YtmeomhojbobpbaaGreatDoor
open Go.RowKit Lg Go.Sort Go.Shelf

theorem titles_1 (a : Option Addr) (c : Nat) (w : World) (hL : Lst w 11 cD a 7 c sampleD) :
    Calls Tryz.prog 37 #[.slice a 7 c, .int .i64 1, .int .i64 3, .int .i64 7, .int .i64 12, .int .i64 10, .int .i64 (-1)] w (GivesL w 66 3 cT ([⟨7, ⟨1, 3⟩⟩, ⟨20, ⟨3, 8⟩⟩, ⟨21, ⟨1, 6⟩⟩, ⟨22, ⟨1, 8⟩⟩] : List Title) 0) := by
  obtain ⟨hc, rf, hr, hl⟩ := okLine_spec ok_1
  have h := titlesOf_ok 1 3 7 12 10 (-1) a 7 c sampleD w hL (by omega) asked_1.1 len_1.1 hc rf hr hl
  have e : titlesD rf.s = [⟨7, ⟨1, 3⟩⟩, ⟨20, ⟨3, 8⟩⟩, ⟨21, ⟨1, 6⟩⟩, ⟨22, ⟨1, 8⟩⟩] := by
    have h2 := ex_titles1
    unfold titlesOf at h2
    rw [if_pos asked_1.1, show doneD (ofPack sampleD 1 3 12) 7 (-1) 10 = some rf from hr] at h2
    exact (Prod.mk.inj h2).1
  rw [e] at h
  exact h

theorem titles_2 (a : Option Addr) (c : Nat) (w : World) (hL : Lst w 11 cD a 7 c sampleD) :
    Calls Tryz.prog 37 #[.slice a 7 c, .int .i64 1, .int .i64 3, .int .i64 7, .int .i64 12, .int .i64 21, .int .i64 20] w (GivesL w 66 3 cT ([⟨0, ⟨13, 24⟩⟩, ⟨7, ⟨1, 3⟩⟩, ⟨22, ⟨1, 8⟩⟩] : List Title) 0) := by
  obtain ⟨hc, rf, hr, hl⟩ := okLine_spec ok_2
  have h := titlesOf_ok 1 3 7 12 21 20 a 7 c sampleD w hL (by omega) asked_1.2.1 len_1.1 hc rf hr hl
  have e : titlesD rf.s = [⟨0, ⟨13, 24⟩⟩, ⟨7, ⟨1, 3⟩⟩, ⟨22, ⟨1, 8⟩⟩] := by
    have h2 := ex_titles2
    unfold titlesOf at h2
    rw [if_pos asked_1.2.1, show doneD (ofPack sampleD 1 3 12) 7 20 21 = some rf from hr] at h2
    exact (Prod.mk.inj h2).1
  rw [e] at h
  exact h

theorem titles_3 (a : Option Addr) (c : Nat) (w : World) (hL : Lst w 11 cD a 7 c sampleD) :
    Calls Tryz.prog 37 #[.slice a 7 c, .int .i64 1, .int .i64 3, .int .i64 7, .int .i64 40, .int .i64 31, .int .i64 30] w (GivesL w 66 3 cT ([⟨0, ⟨2, 3⟩⟩, ⟨7, ⟨1, 3⟩⟩] : List Title) 0) := by
  obtain ⟨hc, rf, hr, hl⟩ := okLine_spec ok_3
  have h := titlesOf_ok 1 3 7 40 31 30 a 7 c sampleD w hL (by omega) asked_1.2.2.1 len_1.2.1 hc rf hr hl
  have e : titlesD rf.s = [⟨0, ⟨2, 3⟩⟩, ⟨7, ⟨1, 3⟩⟩] := by
    have h2 := ex_titles3
    unfold titlesOf at h2
    rw [if_pos asked_1.2.2.1, show doneD (ofPack sampleD 1 3 40) 7 30 31 = some rf from hr] at h2
    exact (Prod.mk.inj h2).1
  rw [e] at h
  exact h

theorem lineage_1 (a : Option Addr) (c : Nat) (w : World) (hL : Lst w 11 cD a 7 c sampleD) :
    Calls Tryz.prog 63 #[.slice a 7 c, .int .i64 1, .int .i64 3, .int .i64 7, .int .i64 12, .int .i64 10, .int .i64 (-1), .int .i64 22] w (GivesL w 3 1 cI [1, 3] 0) := by
  refine (lineageOf_ok 1 3 7 22 12 10 (-1) a 7 c sampleD w hL (by omega) (by omega) asked_1.2.2.2.1 len_1.1 ok_4).mono ?_
  rintro e w' ⟨v, rfl, ho, hB⟩
  have h2 : (lineageOf sampleD 1 3 ((7 : Nat) : Int) 12 10 (-1) ((22 : Nat) : Int)).1 = [1, 3] := congrArg Prod.fst ex_lineage
  rw [h2] at ho
  exact ⟨v, rfl, ho, hB⟩

theorem claimed_1 (a : Option Addr) (c : Nat) (w : World) (hL : Lst w 11 cD a 7 c sampleD) :
    Calls Tryz.prog 65 #[.slice a 7 c, .int .i64 1, .int .i64 3, .int .i64 40, .int .i64 29] w (GivesI w [7, 22]) := by
  have h := claimedOf_ok 1 3 40 29 a 7 c sampleD w hL asked_1.2.2.2.2.1
  have e : claimedD (ofPack sampleD 1 3 40) 29 = [7, 22] := by
    have h2 := ex_claimed
    unfold claimedOf at h2
    rwa [if_pos asked_1.2.2.2.2.1] at h2
  rw [e] at h
  exact h

theorem possible_1 (a : Option Addr) (c : Nat) (w : World) (hL : Lst w 11 cD a 7 c sampleD) :
    Calls Tryz.prog 64 #[.slice a 7 c, aD dd8, .int .i64 7, .int .i64 (-1)] w (Gives w (.int .i64 50)) := by
  obtain ⟨hc, rf, hr, hl⟩ := okLine_spec ok_5
  have hi : (sortI rf.idle).contains dd8.id = true := by
    have h2 := idle_5
    unfold idleOf at h2
    rw [if_pos asked_1.2.2.2.2.2, show doneD (ofPack (sampleD ++ [dd8]) 1 3 50) 7 (-1) 1000001 = some rf from hr] at h2
    exact h2
  exact possible_idle 7 (-1) a 7 c sampleD dd8 w hL (by omega) app_8 rfl asked_1.2.2.2.2.2 len_1.2.2 hc rf hr hl hi (by rw [← sortI_merge, List.length_mergeSort])

theorem read_x (w : World) (hV : Vs w) : Calls Tryz.prog 22 #[.string ⟨#[56, 32, 53, 48, 32, 55, 48, 32, 115, 111, 108, 100, 32, 49, 32, 51, 32, 57, 32, 55, 32, 49, 32, 49]⟩] w (Gives w (.tuple #[aD dd8, .int .i64 0])) := by
  have h := readD_any line8 w hV (by decide +kernel)
  rw [read_8] at h
  exact h

set_option maxRecDepth 100000 in
set_option maxHeartbeats 12800000 in
theorem alive_any (w : World) (hV : Vs w) : Calls Tryz.prog 14 #[] w (Gives w (.bool true)) := by
  have HV := Lib.hid hV
  clear hV
  go_enter Tryz.func14, Tryz.ntmps14
  have HB := Lib.hid (Below.refl w.heap.size w)
  go_wp2_with (fail)
  refine (sampleD_any w HV.out).mono ?_
  rintro e w1 ⟨v1, rfl, ho1, hB1⟩
  replace HV := Lib.hid (HV.out.below hB1)
  replace HB := Lib.hid (HB.out.trans (hB1.mono HB.out.size))
  clear hB1
  obtain ⟨a, c, rfl, _, hL⟩ := Lst.of_owns (k := 11) (enc := cD) (fun _ => rfl) (by omega) ho1 rfl
  have HL := Lib.hid hL
  clear hL ho1
  go_wp2_with (fail)
  refine (titles_1 a c _ HL.out).mono ?_
  rintro e w2 ⟨v2, rfl, ho2, hB2⟩
  replace HV := Lib.hid (HV.out.below hB2)
  replace HL := Lib.hid (HL.out.below hB2)
  replace HB := Lib.hid (HB.out.trans (hB2.mono HB.out.size))
  clear hB2
  obtain ⟨aT1, cT1, rfl, _, hq⟩ := Lst.of_owns (xs := ([⟨7, ⟨1, 3⟩⟩, ⟨20, ⟨3, 8⟩⟩, ⟨21, ⟨1, 6⟩⟩, ⟨22, ⟨1, 8⟩⟩] : List Title)) (k := 3) (enc := cT) (fun _ => rfl) (by omega) ho2 rfl
  have HT1 := Lib.hid hq
  clear hq ho2
  go_wp2_with (fail)
  refine (titles_2 a c _ HL.out).mono ?_
  rintro e w3 ⟨v3, rfl, ho3, hB3⟩
  replace HV := Lib.hid (HV.out.below hB3)
  replace HL := Lib.hid (HL.out.below hB3)
  replace HT1 := Lib.hid (HT1.out.below hB3)
  replace HB := Lib.hid (HB.out.trans (hB3.mono HB.out.size))
  clear hB3
  obtain ⟨aT2, cT2, rfl, _, hq⟩ := Lst.of_owns (xs := ([⟨0, ⟨13, 24⟩⟩, ⟨7, ⟨1, 3⟩⟩, ⟨22, ⟨1, 8⟩⟩] : List Title)) (k := 3) (enc := cT) (fun _ => rfl) (by omega) ho3 rfl
  have HT2 := Lib.hid hq
  clear hq ho3
  go_wp2_with (fail)
  refine (titles_3 a c _ HL.out).mono ?_
  rintro e w4 ⟨v4, rfl, ho4, hB4⟩
  replace HV := Lib.hid (HV.out.below hB4)
  replace HL := Lib.hid (HL.out.below hB4)
  replace HT1 := Lib.hid (HT1.out.below hB4)
  replace HT2 := Lib.hid (HT2.out.below hB4)
  replace HB := Lib.hid (HB.out.trans (hB4.mono HB.out.size))
  clear hB4
  obtain ⟨aT3, cT3, rfl, _, hq⟩ := Lst.of_owns (xs := ([⟨0, ⟨2, 3⟩⟩, ⟨7, ⟨1, 3⟩⟩] : List Title)) (k := 3) (enc := cT) (fun _ => rfl) (by omega) ho4 rfl
  have HT3 := Lib.hid hq
  clear hq ho4
  go_wp2_with (fail)
  refine (lineage_1 a c _ HL.out).mono ?_
  rintro e w5 ⟨v5, rfl, ho5, hB5⟩
  replace HV := Lib.hid (HV.out.below hB5)
  replace HL := Lib.hid (HL.out.below hB5)
  replace HT1 := Lib.hid (HT1.out.below hB5)
  replace HT2 := Lib.hid (HT2.out.below hB5)
  replace HT3 := Lib.hid (HT3.out.below hB5)
  replace HB := Lib.hid (HB.out.trans (hB5.mono HB.out.size))
  clear hB5
  obtain ⟨aN, cN, rfl, _, hq⟩ := Lst.of_owns (xs := ([1, 3] : List Int)) (k := 1) (enc := cI) (fun _ => rfl) (by omega) ho5 rfl
  have HN := Lib.hid hq
  clear hq ho5
  go_wp2_with (fail)
  refine (fD_any 1 3 _).mono ?_
  rintro e w6 ⟨rfl, hB6⟩
  replace HV := Lib.hid (HV.out.below hB6)
  replace HL := Lib.hid (HL.out.below hB6)
  replace HT1 := Lib.hid (HT1.out.below hB6)
  replace HT2 := Lib.hid (HT2.out.below hB6)
  replace HT3 := Lib.hid (HT3.out.below hB6)
  replace HN := Lib.hid (HN.out.below hB6)
  replace HB := Lib.hid (HB.out.trans (hB6.mono HB.out.size))
  clear hB6
  go_wp2_with (fail)
  refine (fD_any 1 3 _).mono ?_
  rintro e w7 ⟨rfl, hB7⟩
  replace HV := Lib.hid (HV.out.below hB7)
  replace HL := Lib.hid (HL.out.below hB7)
  replace HT1 := Lib.hid (HT1.out.below hB7)
  replace HT2 := Lib.hid (HT2.out.below hB7)
  replace HT3 := Lib.hid (HT3.out.below hB7)
  replace HN := Lib.hid (HN.out.below hB7)
  replace HB := Lib.hid (HB.out.trans (hB7.mono HB.out.size))
  clear hB7
  go_wp2_with (fail)
  refine (fD_any 1 3 _).mono ?_
  rintro e w8 ⟨rfl, hB8⟩
  replace HV := Lib.hid (HV.out.below hB8)
  replace HL := Lib.hid (HL.out.below hB8)
  replace HT1 := Lib.hid (HT1.out.below hB8)
  replace HT2 := Lib.hid (HT2.out.below hB8)
  replace HT3 := Lib.hid (HT3.out.below hB8)
  replace HN := Lib.hid (HN.out.below hB8)
  replace HB := Lib.hid (HB.out.trans (hB8.mono HB.out.size))
  clear hB8
  go_wp2_with (fail)
  obtain ⟨w9, hw9⟩ : ∃ x, x = w8.alloc (.cells #[.int .i64 1, .int .i64 3, .int .i64 1, .int .i64 3, .int .i64 1, .int .i64 3] 25) := ⟨_, rfl⟩
  have kS : Blk w9 w8.heap.size #[.int .i64 1, .int .i64 3, .int .i64 1, .int .i64 3, .int .i64 1, .int .i64 3] 25 := hw9 ▸ Blk.new _ _ _
  have hB9 : RowKit.Below w8.heap.size w8 w9 := hw9 ▸ (Below.refl _ _).alloc (Nat.le_refl _) _
  rw [← hw9]
  clear hw9
  replace HV := Lib.hid (HV.out.below hB9)
  replace HL := Lib.hid (HL.out.below hB9)
  replace HT1 := Lib.hid (HT1.out.below hB9)
  replace HT2 := Lib.hid (HT2.out.below hB9)
  replace HT3 := Lib.hid (HT3.out.below hB9)
  replace HN := Lib.hid (HN.out.below hB9)
  replace HB := Lib.hid (HB.out.trans (hB9.mono HB.out.size))
  clear hB9
  have hsp := split_any 100 _ _ _ [⟨1, 3⟩, ⟨1, 3⟩, ⟨1, 3⟩] w9 (Lst.ofBlk (k := 2) (enc := cF) (xs := [⟨1, 3⟩, ⟨1, 3⟩, ⟨1, 3⟩]) (fun _ => rfl) kS (by unfold maxLen; decide))
  rw [split_3] at hsp
  clear kS
  refine (hsp).mono ?_
  rintro e w10 ⟨v10, rfl, ho10, hB10⟩
  replace HV := Lib.hid (HV.out.below hB10)
  replace HL := Lib.hid (HL.out.below hB10)
  replace HT1 := Lib.hid (HT1.out.below hB10)
  replace HT2 := Lib.hid (HT2.out.below hB10)
  replace HT3 := Lib.hid (HT3.out.below hB10)
  replace HN := Lib.hid (HN.out.below hB10)
  replace HB := Lib.hid (HB.out.trans (hB10.mono HB.out.size))
  clear hB10
  clear hsp
  obtain ⟨aP, cP, rfl, _, hq⟩ := Lst.of_owns (xs := ([34, 33, 33] : List Int)) (k := 1) (enc := cI) (fun _ => rfl) (by omega) ho10 rfl
  have HP := Lib.hid hq
  clear hq ho10
  go_wp2_with (fail)
  refine (fD_any 1 3 _).mono ?_
  rintro e w11 ⟨rfl, hB11⟩
  replace HV := Lib.hid (HV.out.below hB11)
  replace HL := Lib.hid (HL.out.below hB11)
  replace HT1 := Lib.hid (HT1.out.below hB11)
  replace HT2 := Lib.hid (HT2.out.below hB11)
  replace HT3 := Lib.hid (HT3.out.below hB11)
  replace HN := Lib.hid (HN.out.below hB11)
  replace HP := Lib.hid (HP.out.below hB11)
  replace HB := Lib.hid (HB.out.trans (hB11.mono HB.out.size))
  clear hB11
  go_wp2_with (fail)
  refine (fD_any 1 2 _).mono ?_
  rintro e w12 ⟨rfl, hB12⟩
  replace HV := Lib.hid (HV.out.below hB12)
  replace HL := Lib.hid (HL.out.below hB12)
  replace HT1 := Lib.hid (HT1.out.below hB12)
  replace HT2 := Lib.hid (HT2.out.below hB12)
  replace HT3 := Lib.hid (HT3.out.below hB12)
  replace HN := Lib.hid (HN.out.below hB12)
  replace HP := Lib.hid (HP.out.below hB12)
  replace HB := Lib.hid (HB.out.trans (hB12.mono HB.out.size))
  clear hB12
  go_wp2_with (fail)
  obtain ⟨w13, hw13⟩ : ∃ x, x = w12.alloc (.cells #[.int .i64 7, .int .i64 1, .int .i64 3, .int .i64 20, .int .i64 1, .int .i64 2] 66) := ⟨_, rfl⟩
  have kA : Blk w13 w12.heap.size #[.int .i64 7, .int .i64 1, .int .i64 3, .int .i64 20, .int .i64 1, .int .i64 2] 66 := hw13 ▸ Blk.new _ _ _
  have hB13 : RowKit.Below w12.heap.size w12 w13 := hw13 ▸ (Below.refl _ _).alloc (Nat.le_refl _) _
  rw [← hw13]
  clear hw13
  replace HV := Lib.hid (HV.out.below hB13)
  replace HL := Lib.hid (HL.out.below hB13)
  replace HT1 := Lib.hid (HT1.out.below hB13)
  replace HT2 := Lib.hid (HT2.out.below hB13)
  replace HT3 := Lib.hid (HT3.out.below hB13)
  replace HN := Lib.hid (HN.out.below hB13)
  replace HP := Lib.hid (HP.out.below hB13)
  replace HB := Lib.hid (HB.out.trans (hB13.mono HB.out.size))
  clear hB13
  have HA := Lib.hid (Lst.ofBlk (k := 3) (enc := cT) (xs := [⟨7, ⟨1, 3⟩⟩, ⟨20, ⟨1, 2⟩⟩]) (fun _ => rfl) kA (by unfold maxLen; decide))
  clear kA
  refine (fD_any 1 4 _).mono ?_
  rintro e w14 ⟨rfl, hB14⟩
  replace HV := Lib.hid (HV.out.below hB14)
  replace HL := Lib.hid (HL.out.below hB14)
  replace HT1 := Lib.hid (HT1.out.below hB14)
  replace HT2 := Lib.hid (HT2.out.below hB14)
  replace HT3 := Lib.hid (HT3.out.below hB14)
  replace HN := Lib.hid (HN.out.below hB14)
  replace HP := Lib.hid (HP.out.below hB14)
  replace HA := Lib.hid (HA.out.below hB14)
  replace HB := Lib.hid (HB.out.trans (hB14.mono HB.out.size))
  clear hB14
  go_wp2_with (fail)
  refine (fD_any 3 4 _).mono ?_
  rintro e w15 ⟨rfl, hB15⟩
  replace HV := Lib.hid (HV.out.below hB15)
  replace HL := Lib.hid (HL.out.below hB15)
  replace HT1 := Lib.hid (HT1.out.below hB15)
  replace HT2 := Lib.hid (HT2.out.below hB15)
  replace HT3 := Lib.hid (HT3.out.below hB15)
  replace HN := Lib.hid (HN.out.below hB15)
  replace HP := Lib.hid (HP.out.below hB15)
  replace HA := Lib.hid (HA.out.below hB15)
  replace HB := Lib.hid (HB.out.trans (hB15.mono HB.out.size))
  clear hB15
  go_wp2_with (fail)
  obtain ⟨w16, hw16⟩ : ∃ x, x = w15.alloc (.cells #[.int .i64 7, .int .i64 1, .int .i64 4, .int .i64 21, .int .i64 3, .int .i64 4] 66) := ⟨_, rfl⟩
  have kB : Blk w16 w15.heap.size #[.int .i64 7, .int .i64 1, .int .i64 4, .int .i64 21, .int .i64 3, .int .i64 4] 66 := hw16 ▸ Blk.new _ _ _
  have hB16 : RowKit.Below w15.heap.size w15 w16 := hw16 ▸ (Below.refl _ _).alloc (Nat.le_refl _) _
  have hsz16 : w16.heap.size = w15.heap.size + 1 := by rw [hw16]; simp
  rw [← hw16]
  clear hw16
  replace HV := Lib.hid (HV.out.below hB16)
  replace HL := Lib.hid (HL.out.below hB16)
  replace HT1 := Lib.hid (HT1.out.below hB16)
  replace HT2 := Lib.hid (HT2.out.below hB16)
  replace HT3 := Lib.hid (HT3.out.below hB16)
  replace HN := Lib.hid (HN.out.below hB16)
  replace HP := Lib.hid (HP.out.below hB16)
  replace HA := Lib.hid (HA.out.below hB16)
  replace HB := Lib.hid (HB.out.trans (hB16.mono HB.out.size))
  clear hB16
  have HBb := Lib.hid (Lst.ofBlk (k := 3) (enc := cT) (xs := [⟨7, ⟨1, 4⟩⟩, ⟨21, ⟨3, 4⟩⟩]) (fun _ => rfl) kB (by unfold maxLen; decide))
  clear kB
  rw [← hsz16]
  obtain ⟨w17, hw17⟩ : ∃ x, x = w16.alloc (.cells #[.slice (some ⟨w12.heap.size, 0, none⟩) 2 2, .slice (some ⟨w15.heap.size, 0, none⟩) 2 2] 57) := ⟨_, rfl⟩
  have kC : Blk w17 w16.heap.size #[.slice (some ⟨w12.heap.size, 0, none⟩) 2 2, .slice (some ⟨w15.heap.size, 0, none⟩) 2 2] 57 := hw17 ▸ Blk.new _ _ _
  have hB17 : RowKit.Below w16.heap.size w16 w17 := hw17 ▸ (Below.refl _ _).alloc (Nat.le_refl _) _
  rw [← hw17]
  clear hw17 hsz16
  replace HV := Lib.hid (HV.out.below hB17)
  replace HL := Lib.hid (HL.out.below hB17)
  replace HT1 := Lib.hid (HT1.out.below hB17)
  replace HT2 := Lib.hid (HT2.out.below hB17)
  replace HT3 := Lib.hid (HT3.out.below hB17)
  replace HN := Lib.hid (HN.out.below hB17)
  replace HP := Lib.hid (HP.out.below hB17)
  replace HA := Lib.hid (HA.out.below hB17)
  replace HBb := Lib.hid (HBb.out.below hB17)
  replace HB := Lib.hid (HB.out.trans (hB17.mono HB.out.size))
  clear hB17
  have hLL : LstL w17 (some ⟨w16.heap.size, 0, none⟩) 2 2 [[⟨7, ⟨1, 3⟩⟩, ⟨20, ⟨1, 2⟩⟩], [⟨7, ⟨1, 4⟩⟩, ⟨21, ⟨3, 4⟩⟩]] := by
    refine ⟨_, Lst.ofBlk (k := 1) (enc := fun v => [v]) (xs := [.slice (some ⟨w12.heap.size, 0, none⟩) 2 2, .slice (some ⟨w15.heap.size, 0, none⟩) 2 2]) (fun _ => rfl) kC (by unfold maxLen; show 2 ≤ _; decide), rfl, fun i v xs hv hx => ?_⟩
    rcases i with _ | _ | i
    · cases hv; cases hx; exact ⟨_, _, _, rfl, HA.out⟩
    · cases hv; cases hx; exact ⟨_, _, _, rfl, HBb.out⟩
    · simp at hv
  have hcm := commonD_any _ 2 2 _ w17 hLL (by intro xs hxs; simp only [List.mem_cons, List.not_mem_nil, or_false] at hxs; rcases hxs with rfl | rfl <;> decide) (by omega)
  rw [ex_common] at hcm
  clear hLL kC HA HBb
  refine (hcm).mono ?_
  rintro e w18 ⟨v18, rfl, ho18, hB18⟩
  replace HV := Lib.hid (HV.out.below hB18)
  replace HL := Lib.hid (HL.out.below hB18)
  replace HT1 := Lib.hid (HT1.out.below hB18)
  replace HT2 := Lib.hid (HT2.out.below hB18)
  replace HT3 := Lib.hid (HT3.out.below hB18)
  replace HN := Lib.hid (HN.out.below hB18)
  replace HP := Lib.hid (HP.out.below hB18)
  replace HB := Lib.hid (HB.out.trans (hB18.mono HB.out.size))
  clear hB18
  clear hcm
  obtain ⟨aC, cC, rfl, _, hq⟩ := Lst.of_owns (xs := ([⟨7, ⟨1, 4⟩⟩] : List Title)) (k := 3) (enc := cT) (fun _ => rfl) (by omega) ho18 rfl
  have HC := Lib.hid hq
  clear hq ho18
  go_wp2_with (fail)
  refine (read_x _ HV.out).mono ?_
  rintro e w19 ⟨rfl, hB19⟩
  replace HV := Lib.hid (HV.out.below hB19)
  replace HL := Lib.hid (HL.out.below hB19)
  replace HT1 := Lib.hid (HT1.out.below hB19)
  replace HT2 := Lib.hid (HT2.out.below hB19)
  replace HT3 := Lib.hid (HT3.out.below hB19)
  replace HN := Lib.hid (HN.out.below hB19)
  replace HP := Lib.hid (HP.out.below hB19)
  replace HC := Lib.hid (HC.out.below hB19)
  replace HB := Lib.hid (HB.out.trans (hB19.mono HB.out.size))
  clear hB19
  obtain ⟨w20, hw20⟩ : ∃ x, x = w19.alloc (.cells #[.int .i64 dd8.id, .int .i64 dd8.known, .int .i64 dd8.hour, .int .u8 dd8.kind, .int .i64 dd8.loss, .int .i64 dd8.pack, .int .i64 dd8.from_, .int .i64 dd8.to_, .int .i64 dd8.share.num, .int .i64 dd8.share.den, .int .i64 dd8.of_] 36) := ⟨_, rfl⟩
  have kX : Blk w20 w19.heap.size #[.int .i64 dd8.id, .int .i64 dd8.known, .int .i64 dd8.hour, .int .u8 dd8.kind, .int .i64 dd8.loss, .int .i64 dd8.pack, .int .i64 dd8.from_, .int .i64 dd8.to_, .int .i64 dd8.share.num, .int .i64 dd8.share.den, .int .i64 dd8.of_] 36 := hw20 ▸ Blk.new _ _ _
  have hB20 : RowKit.Below w19.heap.size w19 w20 := hw20 ▸ (Below.refl _ _).alloc (Nat.le_refl _) _
  go_upto_region 9 with fail
  rw [← hw20]
  clear hw20
  replace HV := Lib.hid (HV.out.below hB20)
  replace HL := Lib.hid (HL.out.below hB20)
  replace HT1 := Lib.hid (HT1.out.below hB20)
  replace HT2 := Lib.hid (HT2.out.below hB20)
  replace HT3 := Lib.hid (HT3.out.below hB20)
  replace HN := Lib.hid (HN.out.below hB20)
  replace HP := Lib.hid (HP.out.below hB20)
  replace HC := Lib.hid (HC.out.below hB20)
  replace HB := Lib.hid (HB.out.trans (hB20.mono HB.out.size))
  clear hB20
  have cX := kX.cell
  go_wp2_with (fail)
  refine (possible_1 a c _ HL.out).mono ?_
  rintro e w21 ⟨rfl, hB21⟩
  replace HV := Lib.hid (HV.out.below hB21)
  replace HL := Lib.hid (HL.out.below hB21)
  replace HT1 := Lib.hid (HT1.out.below hB21)
  replace HT2 := Lib.hid (HT2.out.below hB21)
  replace HT3 := Lib.hid (HT3.out.below hB21)
  replace HN := Lib.hid (HN.out.below hB21)
  replace HP := Lib.hid (HP.out.below hB21)
  replace HC := Lib.hid (HC.out.below hB21)
  replace HB := Lib.hid (HB.out.trans (hB21.mono HB.out.size))
  clear hB21
  clear cX kX
  go_wp2_with (fail)
  refine (fD_any 1 3 _).mono ?_
  rintro e w22 ⟨rfl, hB22⟩
  replace HV := Lib.hid (HV.out.below hB22)
  replace HL := Lib.hid (HL.out.below hB22)
  replace HT1 := Lib.hid (HT1.out.below hB22)
  replace HT2 := Lib.hid (HT2.out.below hB22)
  replace HT3 := Lib.hid (HT3.out.below hB22)
  replace HN := Lib.hid (HN.out.below hB22)
  replace HP := Lib.hid (HP.out.below hB22)
  replace HC := Lib.hid (HC.out.below hB22)
  replace HB := Lib.hid (HB.out.trans (hB22.mono HB.out.size))
  clear hB22
  go_wp2_with (fail)
  refine (fD_any 3 8 _).mono ?_
  rintro e w23 ⟨rfl, hB23⟩
  replace HV := Lib.hid (HV.out.below hB23)
  replace HL := Lib.hid (HL.out.below hB23)
  replace HT1 := Lib.hid (HT1.out.below hB23)
  replace HT2 := Lib.hid (HT2.out.below hB23)
  replace HT3 := Lib.hid (HT3.out.below hB23)
  replace HN := Lib.hid (HN.out.below hB23)
  replace HP := Lib.hid (HP.out.below hB23)
  replace HC := Lib.hid (HC.out.below hB23)
  replace HB := Lib.hid (HB.out.trans (hB23.mono HB.out.size))
  clear hB23
  go_wp2_with (fail)
  refine (fD_any 1 6 _).mono ?_
  rintro e w24 ⟨rfl, hB24⟩
  replace HV := Lib.hid (HV.out.below hB24)
  replace HL := Lib.hid (HL.out.below hB24)
  replace HT1 := Lib.hid (HT1.out.below hB24)
  replace HT2 := Lib.hid (HT2.out.below hB24)
  replace HT3 := Lib.hid (HT3.out.below hB24)
  replace HN := Lib.hid (HN.out.below hB24)
  replace HP := Lib.hid (HP.out.below hB24)
  replace HC := Lib.hid (HC.out.below hB24)
  replace HB := Lib.hid (HB.out.trans (hB24.mono HB.out.size))
  clear hB24
  go_wp2_with (fail)
  refine (fD_any 1 8 _).mono ?_
  rintro e w25 ⟨rfl, hB25⟩
  replace HV := Lib.hid (HV.out.below hB25)
  replace HL := Lib.hid (HL.out.below hB25)
  replace HT1 := Lib.hid (HT1.out.below hB25)
  replace HT2 := Lib.hid (HT2.out.below hB25)
  replace HT3 := Lib.hid (HT3.out.below hB25)
  replace HN := Lib.hid (HN.out.below hB25)
  replace HP := Lib.hid (HP.out.below hB25)
  replace HC := Lib.hid (HC.out.below hB25)
  replace HB := Lib.hid (HB.out.trans (hB25.mono HB.out.size))
  clear hB25
  go_wp2_with (fail)
  obtain ⟨w26, hw26⟩ : ∃ x, x = w25.alloc (.cells #[.int .i64 7, .int .i64 1, .int .i64 3, .int .i64 20, .int .i64 3, .int .i64 8, .int .i64 21, .int .i64 1, .int .i64 6, .int .i64 22, .int .i64 1, .int .i64 8] 66) := ⟨_, rfl⟩
  have kT : Blk w26 w25.heap.size #[.int .i64 7, .int .i64 1, .int .i64 3, .int .i64 20, .int .i64 3, .int .i64 8, .int .i64 21, .int .i64 1, .int .i64 6, .int .i64 22, .int .i64 1, .int .i64 8] 66 := hw26 ▸ Blk.new _ _ _
  have hB26 : RowKit.Below w25.heap.size w25 w26 := hw26 ▸ (Below.refl _ _).alloc (Nat.le_refl _) _
  rw [← hw26]
  clear hw26
  replace HV := Lib.hid (HV.out.below hB26)
  replace HL := Lib.hid (HL.out.below hB26)
  replace HT1 := Lib.hid (HT1.out.below hB26)
  replace HT2 := Lib.hid (HT2.out.below hB26)
  replace HT3 := Lib.hid (HT3.out.below hB26)
  replace HN := Lib.hid (HN.out.below hB26)
  replace HP := Lib.hid (HP.out.below hB26)
  replace HC := Lib.hid (HC.out.below hB26)
  replace HB := Lib.hid (HB.out.trans (hB26.mono HB.out.size))
  clear hB26
  have hst := sameT_any _ _ _ _ _ _ _ _ _ HT1.out (Lst.ofBlk (k := 3) (enc := cT) (xs := ([⟨7, ⟨1, 3⟩⟩, ⟨20, ⟨3, 8⟩⟩, ⟨21, ⟨1, 6⟩⟩, ⟨22, ⟨1, 8⟩⟩] : List Title)) (fun _ => rfl) kT (by unfold maxLen; decide))
  rw [decide_eq_true rfl] at hst
  clear kT
  refine (hst).mono ?_
  rintro e w27 ⟨rfl, hB27⟩
  replace HV := Lib.hid (HV.out.below hB27)
  replace HL := Lib.hid (HL.out.below hB27)
  replace HT1 := Lib.hid (HT1.out.below hB27)
  replace HT2 := Lib.hid (HT2.out.below hB27)
  replace HT3 := Lib.hid (HT3.out.below hB27)
  replace HN := Lib.hid (HN.out.below hB27)
  replace HP := Lib.hid (HP.out.below hB27)
  replace HC := Lib.hid (HC.out.below hB27)
  replace HB := Lib.hid (HB.out.trans (hB27.mono HB.out.size))
  clear hB27
  clear hst HT1
  go_wp2_with (fail)
  refine (fD_any 13 24 _).mono ?_
  rintro e w28 ⟨rfl, hB28⟩
  replace HV := Lib.hid (HV.out.below hB28)
  replace HL := Lib.hid (HL.out.below hB28)
  replace HT2 := Lib.hid (HT2.out.below hB28)
  replace HT3 := Lib.hid (HT3.out.below hB28)
  replace HN := Lib.hid (HN.out.below hB28)
  replace HP := Lib.hid (HP.out.below hB28)
  replace HC := Lib.hid (HC.out.below hB28)
  replace HB := Lib.hid (HB.out.trans (hB28.mono HB.out.size))
  clear hB28
  go_wp2_with (fail)
  refine (fD_any 1 3 _).mono ?_
  rintro e w29 ⟨rfl, hB29⟩
  replace HV := Lib.hid (HV.out.below hB29)
  replace HL := Lib.hid (HL.out.below hB29)
  replace HT2 := Lib.hid (HT2.out.below hB29)
  replace HT3 := Lib.hid (HT3.out.below hB29)
  replace HN := Lib.hid (HN.out.below hB29)
  replace HP := Lib.hid (HP.out.below hB29)
  replace HC := Lib.hid (HC.out.below hB29)
  replace HB := Lib.hid (HB.out.trans (hB29.mono HB.out.size))
  clear hB29
  go_wp2_with (fail)
  refine (fD_any 1 8 _).mono ?_
  rintro e w30 ⟨rfl, hB30⟩
  replace HV := Lib.hid (HV.out.below hB30)
  replace HL := Lib.hid (HL.out.below hB30)
  replace HT2 := Lib.hid (HT2.out.below hB30)
  replace HT3 := Lib.hid (HT3.out.below hB30)
  replace HN := Lib.hid (HN.out.below hB30)
  replace HP := Lib.hid (HP.out.below hB30)
  replace HC := Lib.hid (HC.out.below hB30)
  replace HB := Lib.hid (HB.out.trans (hB30.mono HB.out.size))
  clear hB30
  go_wp2_with (fail)
  obtain ⟨w31, hw31⟩ : ∃ x, x = w30.alloc (.cells #[.int .i64 0, .int .i64 13, .int .i64 24, .int .i64 7, .int .i64 1, .int .i64 3, .int .i64 22, .int .i64 1, .int .i64 8] 66) := ⟨_, rfl⟩
  have kT : Blk w31 w30.heap.size #[.int .i64 0, .int .i64 13, .int .i64 24, .int .i64 7, .int .i64 1, .int .i64 3, .int .i64 22, .int .i64 1, .int .i64 8] 66 := hw31 ▸ Blk.new _ _ _
  have hB31 : RowKit.Below w30.heap.size w30 w31 := hw31 ▸ (Below.refl _ _).alloc (Nat.le_refl _) _
  rw [← hw31]
  clear hw31
  replace HV := Lib.hid (HV.out.below hB31)
  replace HL := Lib.hid (HL.out.below hB31)
  replace HT2 := Lib.hid (HT2.out.below hB31)
  replace HT3 := Lib.hid (HT3.out.below hB31)
  replace HN := Lib.hid (HN.out.below hB31)
  replace HP := Lib.hid (HP.out.below hB31)
  replace HC := Lib.hid (HC.out.below hB31)
  replace HB := Lib.hid (HB.out.trans (hB31.mono HB.out.size))
  clear hB31
  have hst := sameT_any _ _ _ _ _ _ _ _ _ HT2.out (Lst.ofBlk (k := 3) (enc := cT) (xs := ([⟨0, ⟨13, 24⟩⟩, ⟨7, ⟨1, 3⟩⟩, ⟨22, ⟨1, 8⟩⟩] : List Title)) (fun _ => rfl) kT (by unfold maxLen; decide))
  rw [decide_eq_true rfl] at hst
  clear kT
  refine (hst).mono ?_
  rintro e w32 ⟨rfl, hB32⟩
  replace HV := Lib.hid (HV.out.below hB32)
  replace HL := Lib.hid (HL.out.below hB32)
  replace HT2 := Lib.hid (HT2.out.below hB32)
  replace HT3 := Lib.hid (HT3.out.below hB32)
  replace HN := Lib.hid (HN.out.below hB32)
  replace HP := Lib.hid (HP.out.below hB32)
  replace HC := Lib.hid (HC.out.below hB32)
  replace HB := Lib.hid (HB.out.trans (hB32.mono HB.out.size))
  clear hB32
  clear hst HT2
  go_wp2_with (fail)
  refine (fD_any 2 3 _).mono ?_
  rintro e w33 ⟨rfl, hB33⟩
  replace HV := Lib.hid (HV.out.below hB33)
  replace HL := Lib.hid (HL.out.below hB33)
  replace HT3 := Lib.hid (HT3.out.below hB33)
  replace HN := Lib.hid (HN.out.below hB33)
  replace HP := Lib.hid (HP.out.below hB33)
  replace HC := Lib.hid (HC.out.below hB33)
  replace HB := Lib.hid (HB.out.trans (hB33.mono HB.out.size))
  clear hB33
  go_wp2_with (fail)
  refine (fD_any 1 3 _).mono ?_
  rintro e w34 ⟨rfl, hB34⟩
  replace HV := Lib.hid (HV.out.below hB34)
  replace HL := Lib.hid (HL.out.below hB34)
  replace HT3 := Lib.hid (HT3.out.below hB34)
  replace HN := Lib.hid (HN.out.below hB34)
  replace HP := Lib.hid (HP.out.below hB34)
  replace HC := Lib.hid (HC.out.below hB34)
  replace HB := Lib.hid (HB.out.trans (hB34.mono HB.out.size))
  clear hB34
  go_wp2_with (fail)
  obtain ⟨w35, hw35⟩ : ∃ x, x = w34.alloc (.cells #[.int .i64 0, .int .i64 2, .int .i64 3, .int .i64 7, .int .i64 1, .int .i64 3] 66) := ⟨_, rfl⟩
  have kT : Blk w35 w34.heap.size #[.int .i64 0, .int .i64 2, .int .i64 3, .int .i64 7, .int .i64 1, .int .i64 3] 66 := hw35 ▸ Blk.new _ _ _
  have hB35 : RowKit.Below w34.heap.size w34 w35 := hw35 ▸ (Below.refl _ _).alloc (Nat.le_refl _) _
  rw [← hw35]
  clear hw35
  replace HV := Lib.hid (HV.out.below hB35)
  replace HL := Lib.hid (HL.out.below hB35)
  replace HT3 := Lib.hid (HT3.out.below hB35)
  replace HN := Lib.hid (HN.out.below hB35)
  replace HP := Lib.hid (HP.out.below hB35)
  replace HC := Lib.hid (HC.out.below hB35)
  replace HB := Lib.hid (HB.out.trans (hB35.mono HB.out.size))
  clear hB35
  have hst := sameT_any _ _ _ _ _ _ _ _ _ HT3.out (Lst.ofBlk (k := 3) (enc := cT) (xs := ([⟨0, ⟨2, 3⟩⟩, ⟨7, ⟨1, 3⟩⟩] : List Title)) (fun _ => rfl) kT (by unfold maxLen; decide))
  rw [decide_eq_true rfl] at hst
  clear kT
  refine (hst).mono ?_
  rintro e w36 ⟨rfl, hB36⟩
  replace HV := Lib.hid (HV.out.below hB36)
  replace HL := Lib.hid (HL.out.below hB36)
  replace HT3 := Lib.hid (HT3.out.below hB36)
  replace HN := Lib.hid (HN.out.below hB36)
  replace HP := Lib.hid (HP.out.below hB36)
  replace HC := Lib.hid (HC.out.below hB36)
  replace HB := Lib.hid (HB.out.trans (hB36.mono HB.out.size))
  clear hB36
  clear hst HT3
  go_wp2_with (fail)
  obtain ⟨w37, hw37⟩ : ∃ x, x = w36.alloc (.cells #[.int .i64 1, .int .i64 3] 3) := ⟨_, rfl⟩
  have kT : Blk w37 w36.heap.size #[.int .i64 1, .int .i64 3] 3 := hw37 ▸ Blk.new _ _ _
  have hB37 : RowKit.Below w36.heap.size w36 w37 := hw37 ▸ (Below.refl _ _).alloc (Nat.le_refl _) _
  rw [← hw37]
  clear hw37
  replace HV := Lib.hid (HV.out.below hB37)
  replace HL := Lib.hid (HL.out.below hB37)
  replace HN := Lib.hid (HN.out.below hB37)
  replace HP := Lib.hid (HP.out.below hB37)
  replace HC := Lib.hid (HC.out.below hB37)
  replace HB := Lib.hid (HB.out.trans (hB37.mono HB.out.size))
  clear hB37
  have hst := equalI_any _ _ _ _ _ _ _ _ _ HN.out (Lst.ofBlk (k := 1) (enc := cI) (xs := ([1, 3] : List Int)) (fun _ => rfl) kT (by unfold maxLen; decide))
  rw [decide_eq_true rfl] at hst
  clear kT
  refine (hst).mono ?_
  rintro e w38 ⟨rfl, hB38⟩
  replace HV := Lib.hid (HV.out.below hB38)
  replace HL := Lib.hid (HL.out.below hB38)
  replace HN := Lib.hid (HN.out.below hB38)
  replace HP := Lib.hid (HP.out.below hB38)
  replace HC := Lib.hid (HC.out.below hB38)
  replace HB := Lib.hid (HB.out.trans (hB38.mono HB.out.size))
  clear hB38
  clear hst HN
  go_wp2_with (fail)
  obtain ⟨w39, hw39⟩ : ∃ x, x = w38.alloc (.cells #[.int .i64 34, .int .i64 33, .int .i64 33] 3) := ⟨_, rfl⟩
  have kT : Blk w39 w38.heap.size #[.int .i64 34, .int .i64 33, .int .i64 33] 3 := hw39 ▸ Blk.new _ _ _
  have hB39 : RowKit.Below w38.heap.size w38 w39 := hw39 ▸ (Below.refl _ _).alloc (Nat.le_refl _) _
  rw [← hw39]
  clear hw39
  replace HV := Lib.hid (HV.out.below hB39)
  replace HL := Lib.hid (HL.out.below hB39)
  replace HP := Lib.hid (HP.out.below hB39)
  replace HC := Lib.hid (HC.out.below hB39)
  replace HB := Lib.hid (HB.out.trans (hB39.mono HB.out.size))
  clear hB39
  have hst := equalI_any _ _ _ _ _ _ _ _ _ HP.out (Lst.ofBlk (k := 1) (enc := cI) (xs := ([34, 33, 33] : List Int)) (fun _ => rfl) kT (by unfold maxLen; decide))
  rw [decide_eq_true rfl] at hst
  clear kT
  refine (hst).mono ?_
  rintro e w40 ⟨rfl, hB40⟩
  replace HV := Lib.hid (HV.out.below hB40)
  replace HL := Lib.hid (HL.out.below hB40)
  replace HP := Lib.hid (HP.out.below hB40)
  replace HC := Lib.hid (HC.out.below hB40)
  replace HB := Lib.hid (HB.out.trans (hB40.mono HB.out.size))
  clear hB40
  clear hst HP
  go_wp2_with (fail)
  refine (fD_any 1 4 _).mono ?_
  rintro e w41 ⟨rfl, hB41⟩
  replace HV := Lib.hid (HV.out.below hB41)
  replace HL := Lib.hid (HL.out.below hB41)
  replace HC := Lib.hid (HC.out.below hB41)
  replace HB := Lib.hid (HB.out.trans (hB41.mono HB.out.size))
  clear hB41
  go_wp2_with (fail)
  obtain ⟨w42, hw42⟩ : ∃ x, x = w41.alloc (.cells #[.int .i64 7, .int .i64 1, .int .i64 4] 66) := ⟨_, rfl⟩
  have kT : Blk w42 w41.heap.size #[.int .i64 7, .int .i64 1, .int .i64 4] 66 := hw42 ▸ Blk.new _ _ _
  have hB42 : RowKit.Below w41.heap.size w41 w42 := hw42 ▸ (Below.refl _ _).alloc (Nat.le_refl _) _
  rw [← hw42]
  clear hw42
  replace HV := Lib.hid (HV.out.below hB42)
  replace HL := Lib.hid (HL.out.below hB42)
  replace HC := Lib.hid (HC.out.below hB42)
  replace HB := Lib.hid (HB.out.trans (hB42.mono HB.out.size))
  clear hB42
  have hst := sameT_any _ _ _ _ _ _ _ _ _ HC.out (Lst.ofBlk (k := 3) (enc := cT) (xs := ([⟨7, ⟨1, 4⟩⟩] : List Title)) (fun _ => rfl) kT (by unfold maxLen; decide))
  rw [decide_eq_true rfl] at hst
  clear kT
  refine (hst).mono ?_
  rintro e w43 ⟨rfl, hB43⟩
  replace HV := Lib.hid (HV.out.below hB43)
  replace HL := Lib.hid (HL.out.below hB43)
  replace HC := Lib.hid (HC.out.below hB43)
  replace HB := Lib.hid (HB.out.trans (hB43.mono HB.out.size))
  clear hB43
  clear hst HC
  go_wp2_with (fail)
  refine (claimed_1 a c _ HL.out).mono ?_
  rintro e w44 ⟨v44, rfl, ho44, hB44⟩
  replace HV := Lib.hid (HV.out.below hB44)
  replace HL := Lib.hid (HL.out.below hB44)
  replace HB := Lib.hid (HB.out.trans (hB44.mono HB.out.size))
  clear hB44
  rw [← flat_int] at ho44
  obtain ⟨aD, cD, rfl, _, hq⟩ := Lst.of_owns (xs := ([7, 22] : List Int)) (k := 1) (enc := cI) (fun _ => rfl) (by omega) ho44 rfl
  have HD := Lib.hid hq
  clear hq ho44
  go_wp2_with (fail)
  obtain ⟨w45, hw45⟩ : ∃ x, x = w44.alloc (.cells #[.int .i64 7, .int .i64 22] 3) := ⟨_, rfl⟩
  have kT : Blk w45 w44.heap.size #[.int .i64 7, .int .i64 22] 3 := hw45 ▸ Blk.new _ _ _
  have hB45 : RowKit.Below w44.heap.size w44 w45 := hw45 ▸ (Below.refl _ _).alloc (Nat.le_refl _) _
  rw [← hw45]
  clear hw45
  replace HV := Lib.hid (HV.out.below hB45)
  replace HL := Lib.hid (HL.out.below hB45)
  replace HD := Lib.hid (HD.out.below hB45)
  replace HB := Lib.hid (HB.out.trans (hB45.mono HB.out.size))
  clear hB45
  have hst := equalI_any _ _ _ _ _ _ _ _ _ HD.out (Lst.ofBlk (k := 1) (enc := cI) (xs := ([7, 22] : List Int)) (fun _ => rfl) kT (by unfold maxLen; decide))
  rw [decide_eq_true rfl] at hst
  clear kT
  refine (hst).mono ?_
  rintro e w46 ⟨rfl, hB46⟩
  replace HV := Lib.hid (HV.out.below hB46)
  replace HL := Lib.hid (HL.out.below hB46)
  replace HD := Lib.hid (HD.out.below hB46)
  replace HB := Lib.hid (HB.out.trans (hB46.mono HB.out.size))
  clear hB46
  clear hst HD
  go_wp2_with (fail)
  go_ret
  exact ⟨rfl, HB.out⟩

end Go.Proofs.YtmeomhojbobpbaaGreatDoor
