import Derived.Test.YtmeomhojbobpbaaGreatDoorPart08
import Derived.Test.YtmeomhojbobpbaaGreatDoorPart20
import Derived.Test.YtmeomhojbobpbaaGreatDoorPart02
import Derived.Deep.CutRange
import Derived.Deep.DeepCutAuto
/-
  Walks: the reference's moves, shares, Formed, CheckDeed.
-/
namespace Go.Proofs.YtmeomhojbobpbaaGreatDoor
open Go.RowKit Lg

theorem moves5_any (k : Int) (w : World) :
    Calls Tryz.prog 136 #[.int .u8 k] w fun e w' => e = .returned (.bool (decide (1 ≤ k) && decide (k ≤ 3))) ∧ w = w' := by
  go_enter Tryz.func136, Tryz.ntmps136
  go_wp2
  all_goals (go_ret; exact ⟨by simp [*] <;> omega, rfl⟩)

theorem shares5_any (k : Int) (w : World) :
    Calls Tryz.prog 137 #[.int .u8 k] w fun e w' => e = .returned (.bool (decide (k = 1) || decide (k = 2))) ∧ w = w' := by
  go_enter Tryz.func137, Tryz.ntmps137
  by_cases h1 : k = 1
  · subst h1
    go_wp2
    all_goals (go_ret; exact ⟨by simp [*] <;> omega, rfl⟩)
  · have g1 : (k == 1) = false := by simpa using h1
    by_cases h2 : k = 2
    · subst h2
      go_wp2
      all_goals (go_ret; exact ⟨by simp [*] <;> omega, rfl⟩)
    · have g2 : (k == 2) = false := by simpa using h2
      go_wp2
      all_goals (go_ret; exact ⟨by simp [*] <;> omega, rfl⟩)

set_option maxRecDepth 100000 in
set_option maxHeartbeats 12800000 in
theorem formed5_any (x : Deed) (w : World) : Calls Tryz.prog 82 #[aD x] w (Gives w (.bool (formedD x))) := by
  obtain ⟨r, hr⟩ : ∃ r, r = formedD x := ⟨_, rfl⟩
  rw [← hr]
  have Hr := Lib.hid hr; clear hr
  have hin := withinr5_any
  have hB0 : RowKit.Below w.heap.size w (w.alloc (.cells #[.int .i64 x.id, .int .i64 x.known, .int .i64 x.hour, .int .u8 x.kind, .int .i64 x.loss, .int .i64 x.pack, .int .i64 x.from_, .int .i64 x.to_, .int .i64 x.share.num, .int .i64 x.share.den, .int .i64 x.of_] 36)) := (Below.refl _ w).alloc (Nat.le_refl _) _
  rcases Bool.eq_false_or_eq_true (inn x.id 1 1000000) with t1 | t1
  rotate_left
  · go_enter Tryz.func82, Tryz.ntmps82
    go_wp2_with (first | (go_at_call 76; refine (hin _ _ _ _).mono ?_; rintro e w3 ⟨rfl, rfl⟩) | fail)
    go_ret
    exact ⟨ret_bool (by rw [Hr.out]; simp [formedD, t1]), hB0⟩
  rcases Bool.eq_false_or_eq_true (inn x.known 0 1000000) with t2 | t2
  rotate_left
  · go_enter Tryz.func82, Tryz.ntmps82
    go_wp2_with (first | (go_at_call 76; refine (hin _ _ _ _).mono ?_; rintro e w3 ⟨rfl, rfl⟩) | fail)
    go_ret
    exact ⟨ret_bool (by rw [Hr.out]; simp [formedD, t1, t2]), hB0⟩
  rcases Bool.eq_false_or_eq_true (inn x.hour 0 1000000) with t3 | t3
  rotate_left
  · go_enter Tryz.func82, Tryz.ntmps82
    go_wp2_with (first | (go_at_call 76; refine (hin _ _ _ _).mono ?_; rintro e w3 ⟨rfl, rfl⟩) | fail)
    go_ret
    exact ⟨ret_bool (by rw [Hr.out]; simp [formedD, t1, t2, t3]), hB0⟩
  have Hr2 : Hid (r = (fineD x && decide (restD x = zeroDeed))) := Lib.hid (by rw [Hr.out]; simp [formedD, t1, t2, t3])
  go_enter Tryz.func82, Tryz.ntmps82
  go_upto_region 4 with (first | (go_at_call 76; refine (hin _ _ _ _).mono ?_; rintro e w3 ⟨rfl, rfl⟩) | fail)
  clear t1 t2 t3 Hr
  obtain ⟨w0, hw0⟩ : ∃ w0, w0 = (w.alloc (.cells #[.int .i64 x.id, .int .i64 x.known, .int .i64 x.hour, .int .u8 x.kind, .int .i64 x.loss, .int .i64 x.pack, .int .i64 x.from_, .int .i64 x.to_, .int .i64 x.share.num, .int .i64 x.share.den, .int .i64 x.of_] 36)).alloc (.cells #[.int .i64 x.id, .int .i64 x.known, .int .i64 x.hour, .int .u8 x.kind, .int .i64 0, .int .i64 0, .int .i64 0, .int .i64 0, .int .i64 0, .int .i64 0, .int .i64 0] 36) := ⟨_, rfl⟩
  rw [← hw0]
  have kX : Blk w0 w.heap.size #[.int .i64 x.id, .int .i64 x.known, .int .i64 x.hour, .int .u8 x.kind, .int .i64 x.loss, .int .i64 x.pack, .int .i64 x.from_, .int .i64 x.to_, .int .i64 x.share.num, .int .i64 x.share.den, .int .i64 x.of_] 36 := hw0 ▸ (Blk.new w _ _).alloc _
  have kR : Blk w0 (w.heap.size + 1) #[.int .i64 x.id, .int .i64 x.known, .int .i64 x.hour, .int .u8 x.kind, .int .i64 0, .int .i64 0, .int .i64 0, .int .i64 0, .int .i64 0, .int .i64 0, .int .i64 0] 36 := hw0 ▸ Blk.nw1 w _ _ _
  have hB : RowKit.Below w.heap.size w w0 := hw0 ▸ hB0.alloc hB0.size _
  clear hw0 hB0
  obtain ⟨bx, hbx⟩ : ∃ bx, bx = w.heap.size := ⟨_, rfl⟩
  obtain ⟨br, hbr⟩ : ∃ br, br = w.heap.size + 1 := ⟨_, rfl⟩
  rw [← hbr] at kR ⊢
  rw [← hbx] at kX ⊢
  have hbl : w.heap.size ≤ br := by omega
  have hxr : bx ≠ br := by omega
  clear hbx hbr
  have cX := kX.cell
  have gg := guardD
  have hks : (x.kind = 1 ∨ x.kind = 2) ∨ x.kind = 3 ∨ x.kind = 4 ∨ x.kind = 5 ∨ x.kind = 6 ∨ (x.kind ≠ 1 ∧ x.kind ≠ 2 ∧ x.kind ≠ 3 ∧ x.kind ≠ 4 ∧ x.kind ≠ 5 ∧ x.kind ≠ 6) := by omega
  rcases hks with hk | hk | hk | hk | hk | hk
  · rcases hk with hk | hk
    all_goals
      first | have g1 : (x.kind == 1) = true := by simp; omega | have g1 : (x.kind == 1) = false := by simp; omega
      first | have g2 : (x.kind == 2) = true := by simp; omega | have g2 : (x.kind == 2) = false := by simp; omega
      have g3 : (x.kind == 3) = false := by simp; omega
      have g4 : (x.kind == 4) = false := by simp; omega
      have g5 : (x.kind == 5) = false := by simp; omega
      have g6 : (x.kind == 6) = false := by simp; omega
      have hmv := moves5_any x.kind
      rw [show (decide (1 ≤ x.kind) && decide (x.kind ≤ 3)) = true by simp; omega] at hmv
      have hsh := shares5_any x.kind
      rw [show (decide (x.kind = 1) || decide (x.kind = 2)) = true by simp; omega] at hsh
      have hrest : decide (restD x = zeroDeed) = decide (x = (Deed.mk x.id x.known x.hour x.kind x.loss x.pack x.from_ x.to_ x.share 0)) := by
        obtain ⟨i1, i2, i3, i4, i5, i6, i7, i8, ⟨i9, i10⟩, i11⟩ := x
        dsimp only at hk
        unfold restD zeroDeed
        simp [hk]
      have hfi : fineD x = (packOk x && inn x.to_ 1 40 && !decide (x.to_ = x.from_) && validF x.share && decide (0 < x.share.num) && decide (x.share.num ≤ x.share.den)) := by rw [fineD, if_pos (by simp [hk])]
      obtain ⟨q, hq⟩ : ∃ q, q = decide (x = (Deed.mk x.id x.known x.hour x.kind x.loss x.pack x.from_ x.to_ x.share 0)) := ⟨_, rfl⟩
      have heq := fun W => eqD x (Deed.mk x.id x.known x.hour x.kind x.loss x.pack x.from_ x.to_ x.share 0) W
      rw [← hq] at heq
      rw [← hq] at hrest
      have Hr3 : Hid (r = (fineD x && q)) := Lib.hid (by rw [Hr2.out, hrest])
      clear hrest
      have Hfi := Lib.hid hfi
      have Hk := Lib.hid hk
      clear hq hfi hk Hr2
      have gR := kR.frozen
      have lR := kR.lt
      have cR := kR.cell
      go_upto_region 20 with (first | (go_at_call 136; refine (hmv _).mono ?_; rintro e w3 ⟨rfl, rfl⟩) | (go_at_call 137; refine (hsh _).mono ?_; rintro e w3 ⟨rfl, rfl⟩) | fail)
      obtain ⟨w1, hw1⟩ : ∃ w1, w1 = (((((w0.setCell ⟨br, 4, none⟩ (.int .i64 x.loss)).setCell ⟨br, 5, none⟩ (.int .i64 x.pack)).setCell ⟨br, 6, none⟩ (.int .i64 x.from_)).setCell ⟨br, 7, none⟩ (.int .i64 x.to_)).setCell ⟨br, 8, none⟩ (.int .i64 x.share.num)).setCell ⟨br, 9, none⟩ (.int .i64 x.share.den) := ⟨_, rfl⟩
      rw [← hw1]
      replace kX : Blk w1 bx #[.int .i64 x.id, .int .i64 x.known, .int .i64 x.hour, .int .u8 x.kind, .int .i64 x.loss, .int .i64 x.pack, .int .i64 x.from_, .int .i64 x.to_, .int .i64 x.share.num, .int .i64 x.share.den, .int .i64 x.of_] 36 := hw1 ▸ ((((((kX.setCell_other hxr _ _).setCell_other hxr _ _).setCell_other hxr _ _).setCell_other hxr _ _).setCell_other hxr _ _).setCell_other hxr _ _)
      replace kR : Blk w1 br #[.int .i64 x.id, .int .i64 x.known, .int .i64 x.hour, .int .u8 x.kind, .int .i64 x.loss, .int .i64 x.pack, .int .i64 x.from_, .int .i64 x.to_, .int .i64 x.share.num, .int .i64 x.share.den, .int .i64 0] 36 := hw1 ▸ ((((((kR.setCell 4 (.int .i64 x.loss)).setCell 5 (.int .i64 x.pack)).setCell 6 (.int .i64 x.from_)).setCell 7 (.int .i64 x.to_)).setCell 8 (.int .i64 x.share.num)).setCell 9 (.int .i64 x.share.den))
      replace hB : RowKit.Below w.heap.size w w1 := hw1 ▸ ((((((hB.setCell (p := ⟨br, 4, none⟩) hbl _).setCell (p := ⟨br, 5, none⟩) hbl _).setCell (p := ⟨br, 6, none⟩) hbl _).setCell (p := ⟨br, 7, none⟩) hbl _).setCell (p := ⟨br, 8, none⟩) hbl _).setCell (p := ⟨br, 9, none⟩) hbl _)
      clear hw1 gR lR cR cX
      have cX := kX.cell
      have hv := fun W => valid5_any x.share W
      obtain ⟨vd, hvd⟩ : ∃ vd, vd = validF x.share := ⟨_, rfl⟩
      rw [← hvd] at hv
      have Hvd := Lib.hid hvd
      clear hvd
      go_upto_region 21 with (first | (go_at_call 70; (with_reducible refine (hv _).mono ?_); rintro e w2 ⟨rfl, hB2⟩) | fail)
      replace kX := kX.below' hB2
      replace kR := kR.below' hB2
      replace hB := hB.trans (hB2.mono hB.size)
      clear cX hB2
      have cX := kX.cell
      obtain ⟨part, hpart⟩ : ∃ p, p = (vd && decide (0 < x.share.num) && decide (x.share.num ≤ x.share.den)) := ⟨_, rfl⟩
      have Hpart := Lib.hid hpart
      clear hpart
      go_cut [6] (fun c6 W => c6 = .bool part ∧ W = w2)
      case first =>
        cases vd with
        | false =>
          go_wp2_with fail
          go_meet
          exact ⟨by rw [Hpart.out]; rfl, rfl⟩
        | true =>
          rcases Decidable.em (0 < x.share.num) with q3 | q3
          · have e3 : decide (0 < x.share.num) = true := decide_eq_true q3
            rcases Decidable.em (x.share.num ≤ x.share.den) with q4 | q4
            · have e4 : decide (x.share.num ≤ x.share.den) = true := decide_eq_true q4
              go_wp2_with fail
              go_meet
              exact ⟨by rw [Hpart.out, e3, e4]; rfl, rfl⟩
            · have e4 : decide (x.share.num ≤ x.share.den) = false := decide_eq_false q4
              go_wp2_with fail
              go_meet
              exact ⟨by rw [Hpart.out, e3, e4]; rfl, rfl⟩
          · have e3 : decide (0 < x.share.num) = false := decide_eq_false q3
            go_wp2_with fail
            go_meet
            exact ⟨by rw [Hpart.out, e3]; rfl, rfl⟩
      obtain ⟨rfl, hwc⟩ := hcut
      obtain ⟨w3, hw3⟩ : ∃ w3, w3 = wc := ⟨_, rfl⟩
      rw [← hw3] at hwc ⊢
      subst hwc
      clear hw3
      obtain ⟨tt, htt⟩ : ∃ p, p = (inn x.to_ 1 40 && !decide (x.to_ = x.from_)) := ⟨_, rfl⟩
      have Htt := Lib.hid htt
      clear htt
      go_upto_region 22 with fail
      go_cut [9] (fun c9 W => c9 = .bool tt ∧ W = w3)
      case first =>
        rcases Bool.eq_false_or_eq_true (inn x.to_ 1 40) with q1 | q1
        rotate_left
        · go_wp2_with (first | (go_at_call 76; refine (hin _ _ _ _).mono ?_; rintro e w3 ⟨rfl, rfl⟩) | fail)
          go_meet
          exact ⟨by rw [Htt.out, q1]; rfl, rfl⟩
        by_cases q2 : x.to_ = x.from_
        · have e2 : (x.to_ != x.from_) = false := by simp [q2]
          have Q2 := Lib.hid q2
          clear q2
          go_wp2_with (first | (go_at_call 76; refine (hin _ _ _ _).mono ?_; rintro e w3 ⟨rfl, rfl⟩) | fail)
          go_meet
          exact ⟨by rw [Htt.out, q1, decide_eq_true Q2.out]; rfl, rfl⟩
        have e2 : (x.to_ != x.from_) = true := by simp [q2]
        have Q2 := Lib.hid q2
        clear q2
        go_wp2_with (first | (go_at_call 76; refine (hin _ _ _ _).mono ?_; rintro e w3 ⟨rfl, rfl⟩) | fail)
        go_meet
        exact ⟨by rw [Htt.out, q1, decide_eq_false Q2.out]; rfl, rfl⟩
      obtain ⟨rfl, hwc⟩ := hcut
      obtain ⟨w4, hw4⟩ : ∃ w3, w3 = wc := ⟨_, rfl⟩
      rw [← hw4] at hwc ⊢
      subst hwc
      clear hw4
      have cR := kR.cell
      have lR := kR.lt
      cases q with
      | false =>
        go_wp2_with (first | (go_at_call 76; refine (hin _ _ _ _).mono ?_; rintro e w3 ⟨rfl, rfl⟩) | (go_at_call 137; refine (hsh _).mono ?_; rintro e w3 ⟨rfl, rfl⟩) | fail)
        go_ret
        exact ⟨ret_bool (by rw [Hr3.out, Bool.and_false]), by repeat (first | (with_reducible assumption) | (with_reducible exact Below.refl _ _) | (with_reducible refine Below.alloc ?_ ?_ _) | (with_reducible refine Below.setCell ?_ ?_ _) | (with_reducible refine Below.drew ?_) | omega | (simp <;> omega) | (dsimp only; omega))⟩
      | true =>
        have Hr4 : Hid (r = (inn x.loss 1 20 && inn x.pack 1 200 && inn x.from_ 1 40 && tt && part)) := Lib.hid (by rw [Hr3.out, Hfi.out, Htt.out, Hpart.out, Hvd.out, packOk]; generalize inn x.loss 1 20 = a1; generalize inn x.pack 1 200 = a2; generalize inn x.from_ 1 40 = a3; simp only [Bool.and_assoc, Bool.and_true])
        clear Hr3 Hfi Htt Hpart Hvd
        cases part with
        | false =>
          go_wp2_with (first | (go_at_call 76; refine (hin _ _ _ _).mono ?_; rintro e w3 ⟨rfl, rfl⟩) | (go_at_call 137; refine (hsh _).mono ?_; rintro e w3 ⟨rfl, rfl⟩) | fail)
          go_ret
          exact ⟨ret_bool (by rw [Hr4.out]; simp), by repeat (first | (with_reducible assumption) | (with_reducible exact Below.refl _ _) | (with_reducible refine Below.alloc ?_ ?_ _) | (with_reducible refine Below.setCell ?_ ?_ _) | (with_reducible refine Below.drew ?_) | omega | (simp <;> omega) | (dsimp only; omega))⟩
        | true =>
          cases tt with
          | false =>
            go_wp2_with (first | (go_at_call 76; refine (hin _ _ _ _).mono ?_; rintro e w3 ⟨rfl, rfl⟩) | (go_at_call 137; refine (hsh _).mono ?_; rintro e w3 ⟨rfl, rfl⟩) | fail)
            go_ret
            exact ⟨ret_bool (by rw [Hr4.out]; simp), by repeat (first | (with_reducible assumption) | (with_reducible exact Below.refl _ _) | (with_reducible refine Below.alloc ?_ ?_ _) | (with_reducible refine Below.setCell ?_ ?_ _) | (with_reducible refine Below.drew ?_) | omega | (simp <;> omega) | (dsimp only; omega))⟩
          | true =>
            rcases Bool.eq_false_or_eq_true (inn x.loss 1 20) with p1 | p1
            rotate_left
            · go_wp2_with (first | (go_at_call 76; refine (hin _ _ _ _).mono ?_; rintro e w3 ⟨rfl, rfl⟩) | (go_at_call 137; refine (hsh _).mono ?_; rintro e w3 ⟨rfl, rfl⟩) | fail)
              go_ret
              exact ⟨ret_bool (by rw [Hr4.out, p1]; simp), by repeat (first | (with_reducible assumption) | (with_reducible exact Below.refl _ _) | (with_reducible refine Below.alloc ?_ ?_ _) | (with_reducible refine Below.setCell ?_ ?_ _) | (with_reducible refine Below.drew ?_) | omega | (simp <;> omega) | (dsimp only; omega))⟩
            rcases Bool.eq_false_or_eq_true (inn x.pack 1 200) with p2 | p2
            rotate_left
            · go_wp2_with (first | (go_at_call 76; refine (hin _ _ _ _).mono ?_; rintro e w3 ⟨rfl, rfl⟩) | (go_at_call 137; refine (hsh _).mono ?_; rintro e w3 ⟨rfl, rfl⟩) | fail)
              go_ret
              exact ⟨ret_bool (by rw [Hr4.out, p1, p2]; simp), by repeat (first | (with_reducible assumption) | (with_reducible exact Below.refl _ _) | (with_reducible refine Below.alloc ?_ ?_ _) | (with_reducible refine Below.setCell ?_ ?_ _) | (with_reducible refine Below.drew ?_) | omega | (simp <;> omega) | (dsimp only; omega))⟩
            rcases Bool.eq_false_or_eq_true (inn x.from_ 1 40) with p3 | p3
            rotate_left
            · go_wp2_with (first | (go_at_call 76; refine (hin _ _ _ _).mono ?_; rintro e w3 ⟨rfl, rfl⟩) | (go_at_call 137; refine (hsh _).mono ?_; rintro e w3 ⟨rfl, rfl⟩) | fail)
              go_ret
              exact ⟨ret_bool (by rw [Hr4.out, p1, p2, p3]; simp), by repeat (first | (with_reducible assumption) | (with_reducible exact Below.refl _ _) | (with_reducible refine Below.alloc ?_ ?_ _) | (with_reducible refine Below.setCell ?_ ?_ _) | (with_reducible refine Below.drew ?_) | omega | (simp <;> omega) | (dsimp only; omega))⟩
            go_wp2_with (first | (go_at_call 76; refine (hin _ _ _ _).mono ?_; rintro e w3 ⟨rfl, rfl⟩) | (go_at_call 137; refine (hsh _).mono ?_; rintro e w3 ⟨rfl, rfl⟩) | fail)
            go_ret
            exact ⟨ret_bool (by rw [Hr4.out, p1, p2, p3]; simp), by repeat (first | (with_reducible assumption) | (with_reducible exact Below.refl _ _) | (with_reducible refine Below.alloc ?_ ?_ _) | (with_reducible refine Below.setCell ?_ ?_ _) | (with_reducible refine Below.drew ?_) | omega | (simp <;> omega) | (dsimp only; omega))⟩
  · skip
    have g1 : (x.kind == 1) = false := by simp; omega
    have g2 : (x.kind == 2) = false := by simp; omega
    have g3 : (x.kind == 3) = true := by simp; omega
    have g4 : (x.kind == 4) = false := by simp; omega
    have g5 : (x.kind == 5) = false := by simp; omega
    have g6 : (x.kind == 6) = false := by simp; omega
    have hmv := moves5_any x.kind
    rw [show (decide (1 ≤ x.kind) && decide (x.kind ≤ 3)) = true by simp; omega] at hmv
    have hsh := shares5_any x.kind
    rw [show (decide (x.kind = 1) || decide (x.kind = 2)) = false by simp; omega] at hsh
    have hrest : decide (restD x = zeroDeed) = decide (x = (Deed.mk x.id x.known x.hour x.kind x.loss x.pack x.from_ x.to_ ⟨0, 0⟩ 0)) := by
      obtain ⟨i1, i2, i3, i4, i5, i6, i7, i8, ⟨i9, i10⟩, i11⟩ := x
      dsimp only at hk
      unfold restD zeroDeed
      simp [hk]
    have hfi : fineD x = (packOk x && inn x.to_ 0 40 && !decide (x.to_ = x.from_)) := by rw [fineD, if_neg (by simp [hk]), if_pos hk]
    obtain ⟨q, hq⟩ : ∃ q, q = decide (x = (Deed.mk x.id x.known x.hour x.kind x.loss x.pack x.from_ x.to_ ⟨0, 0⟩ 0)) := ⟨_, rfl⟩
    have heq := fun W => eqD x (Deed.mk x.id x.known x.hour x.kind x.loss x.pack x.from_ x.to_ ⟨0, 0⟩ 0) W
    rw [← hq] at heq
    rw [← hq] at hrest
    have Hr3 : Hid (r = (fineD x && q)) := Lib.hid (by rw [Hr2.out, hrest])
    clear hrest
    have Hfi := Lib.hid hfi
    have Hk := Lib.hid hk
    clear hq hfi hk Hr2
    have gR := kR.frozen
    have lR := kR.lt
    have cR := kR.cell
    go_upto_region 16 with (first | (go_at_call 136; refine (hmv _).mono ?_; rintro e w3 ⟨rfl, rfl⟩) | (go_at_call 137; refine (hsh _).mono ?_; rintro e w3 ⟨rfl, rfl⟩) | fail)
    obtain ⟨w1, hw1⟩ : ∃ w1, w1 = (((w0.setCell ⟨br, 4, none⟩ (.int .i64 x.loss)).setCell ⟨br, 5, none⟩ (.int .i64 x.pack)).setCell ⟨br, 6, none⟩ (.int .i64 x.from_)).setCell ⟨br, 7, none⟩ (.int .i64 x.to_) := ⟨_, rfl⟩
    rw [← hw1]
    replace kX : Blk w1 bx #[.int .i64 x.id, .int .i64 x.known, .int .i64 x.hour, .int .u8 x.kind, .int .i64 x.loss, .int .i64 x.pack, .int .i64 x.from_, .int .i64 x.to_, .int .i64 x.share.num, .int .i64 x.share.den, .int .i64 x.of_] 36 := hw1 ▸ ((((kX.setCell_other hxr _ _).setCell_other hxr _ _).setCell_other hxr _ _).setCell_other hxr _ _)
    replace kR : Blk w1 br #[.int .i64 x.id, .int .i64 x.known, .int .i64 x.hour, .int .u8 x.kind, .int .i64 x.loss, .int .i64 x.pack, .int .i64 x.from_, .int .i64 x.to_, .int .i64 0, .int .i64 0, .int .i64 0] 36 := hw1 ▸ ((((kR.setCell 4 (.int .i64 x.loss)).setCell 5 (.int .i64 x.pack)).setCell 6 (.int .i64 x.from_)).setCell 7 (.int .i64 x.to_))
    replace hB : RowKit.Below w.heap.size w w1 := hw1 ▸ ((((hB.setCell (p := ⟨br, 4, none⟩) hbl _).setCell (p := ⟨br, 5, none⟩) hbl _).setCell (p := ⟨br, 6, none⟩) hbl _).setCell (p := ⟨br, 7, none⟩) hbl _)
    clear hw1 gR lR cR cX
    have cX := kX.cell
    obtain ⟨tt, htt⟩ : ∃ p, p = (inn x.to_ 0 40 && !decide (x.to_ = x.from_)) := ⟨_, rfl⟩
    have Htt := Lib.hid htt
    clear htt
    go_upto_region 22 with (first | (go_at_call 137; refine (hsh _).mono ?_; rintro e w3 ⟨rfl, rfl⟩) | fail)
    go_cut [9] (fun c9 W => c9 = .bool tt ∧ W = w1)
    case first =>
      rcases Bool.eq_false_or_eq_true (inn x.to_ 0 40) with q1 | q1
      rotate_left
      · go_wp2_with (first | (go_at_call 76; refine (hin _ _ _ _).mono ?_; rintro e w3 ⟨rfl, rfl⟩) | fail)
        go_meet
        exact ⟨by rw [Htt.out, q1]; rfl, rfl⟩
      by_cases q2 : x.to_ = x.from_
      · have e2 : (x.to_ != x.from_) = false := by simp [q2]
        have Q2 := Lib.hid q2
        clear q2
        go_wp2_with (first | (go_at_call 76; refine (hin _ _ _ _).mono ?_; rintro e w3 ⟨rfl, rfl⟩) | fail)
        go_meet
        exact ⟨by rw [Htt.out, q1, decide_eq_true Q2.out]; rfl, rfl⟩
      have e2 : (x.to_ != x.from_) = true := by simp [q2]
      have Q2 := Lib.hid q2
      clear q2
      go_wp2_with (first | (go_at_call 76; refine (hin _ _ _ _).mono ?_; rintro e w3 ⟨rfl, rfl⟩) | fail)
      go_meet
      exact ⟨by rw [Htt.out, q1, decide_eq_false Q2.out]; rfl, rfl⟩
    obtain ⟨rfl, hwc⟩ := hcut
    obtain ⟨w4, hw4⟩ : ∃ w3, w3 = wc := ⟨_, rfl⟩
    rw [← hw4] at hwc ⊢
    subst hwc
    clear hw4
    have cR := kR.cell
    have lR := kR.lt
    cases q with
    | false =>
      go_wp2_with (first | (go_at_call 76; refine (hin _ _ _ _).mono ?_; rintro e w3 ⟨rfl, rfl⟩) | (go_at_call 137; refine (hsh _).mono ?_; rintro e w3 ⟨rfl, rfl⟩) | fail)
      go_ret
      exact ⟨ret_bool (by rw [Hr3.out, Bool.and_false]), by repeat (first | (with_reducible assumption) | (with_reducible exact Below.refl _ _) | (with_reducible refine Below.alloc ?_ ?_ _) | (with_reducible refine Below.setCell ?_ ?_ _) | (with_reducible refine Below.drew ?_) | omega | (simp <;> omega) | (dsimp only; omega))⟩
    | true =>
      have Hr4 : Hid (r = (inn x.loss 1 20 && inn x.pack 1 200 && inn x.from_ 1 40 && tt)) := Lib.hid (by rw [Hr3.out, Hfi.out, Htt.out, packOk]; simp only [Bool.and_assoc, Bool.and_true])
      clear Hr3 Hfi Htt
      cases tt with
      | false =>
        go_wp2_with (first | (go_at_call 76; refine (hin _ _ _ _).mono ?_; rintro e w3 ⟨rfl, rfl⟩) | (go_at_call 137; refine (hsh _).mono ?_; rintro e w3 ⟨rfl, rfl⟩) | fail)
        go_ret
        exact ⟨ret_bool (by rw [Hr4.out]; simp), by repeat (first | (with_reducible assumption) | (with_reducible exact Below.refl _ _) | (with_reducible refine Below.alloc ?_ ?_ _) | (with_reducible refine Below.setCell ?_ ?_ _) | (with_reducible refine Below.drew ?_) | omega | (simp <;> omega) | (dsimp only; omega))⟩
      | true =>
        rcases Bool.eq_false_or_eq_true (inn x.loss 1 20) with p1 | p1
        rotate_left
        · go_wp2_with (first | (go_at_call 76; refine (hin _ _ _ _).mono ?_; rintro e w3 ⟨rfl, rfl⟩) | (go_at_call 137; refine (hsh _).mono ?_; rintro e w3 ⟨rfl, rfl⟩) | fail)
          go_ret
          exact ⟨ret_bool (by rw [Hr4.out, p1]; simp), by repeat (first | (with_reducible assumption) | (with_reducible exact Below.refl _ _) | (with_reducible refine Below.alloc ?_ ?_ _) | (with_reducible refine Below.setCell ?_ ?_ _) | (with_reducible refine Below.drew ?_) | omega | (simp <;> omega) | (dsimp only; omega))⟩
        rcases Bool.eq_false_or_eq_true (inn x.pack 1 200) with p2 | p2
        rotate_left
        · go_wp2_with (first | (go_at_call 76; refine (hin _ _ _ _).mono ?_; rintro e w3 ⟨rfl, rfl⟩) | (go_at_call 137; refine (hsh _).mono ?_; rintro e w3 ⟨rfl, rfl⟩) | fail)
          go_ret
          exact ⟨ret_bool (by rw [Hr4.out, p1, p2]; simp), by repeat (first | (with_reducible assumption) | (with_reducible exact Below.refl _ _) | (with_reducible refine Below.alloc ?_ ?_ _) | (with_reducible refine Below.setCell ?_ ?_ _) | (with_reducible refine Below.drew ?_) | omega | (simp <;> omega) | (dsimp only; omega))⟩
        rcases Bool.eq_false_or_eq_true (inn x.from_ 1 40) with p3 | p3
        rotate_left
        · go_wp2_with (first | (go_at_call 76; refine (hin _ _ _ _).mono ?_; rintro e w3 ⟨rfl, rfl⟩) | (go_at_call 137; refine (hsh _).mono ?_; rintro e w3 ⟨rfl, rfl⟩) | fail)
          go_ret
          exact ⟨ret_bool (by rw [Hr4.out, p1, p2, p3]; simp), by repeat (first | (with_reducible assumption) | (with_reducible exact Below.refl _ _) | (with_reducible refine Below.alloc ?_ ?_ _) | (with_reducible refine Below.setCell ?_ ?_ _) | (with_reducible refine Below.drew ?_) | omega | (simp <;> omega) | (dsimp only; omega))⟩
        go_wp2_with (first | (go_at_call 76; refine (hin _ _ _ _).mono ?_; rintro e w3 ⟨rfl, rfl⟩) | (go_at_call 137; refine (hsh _).mono ?_; rintro e w3 ⟨rfl, rfl⟩) | fail)
        go_ret
        exact ⟨ret_bool (by rw [Hr4.out, p1, p2, p3]; simp), by repeat (first | (with_reducible assumption) | (with_reducible exact Below.refl _ _) | (with_reducible refine Below.alloc ?_ ?_ _) | (with_reducible refine Below.setCell ?_ ?_ _) | (with_reducible refine Below.drew ?_) | omega | (simp <;> omega) | (dsimp only; omega))⟩
  · skip
    have g1 : (x.kind == 1) = false := by simp; omega
    have g2 : (x.kind == 2) = false := by simp; omega
    have g3 : (x.kind == 3) = false := by simp; omega
    have g4 : (x.kind == 4) = true := by simp; omega
    have g5 : (x.kind == 5) = false := by simp; omega
    have g6 : (x.kind == 6) = false := by simp; omega
    have hmv := moves5_any x.kind
    rw [show (decide (1 ≤ x.kind) && decide (x.kind ≤ 3)) = false by simp; omega] at hmv
    have hsh := shares5_any x.kind
    rw [show (decide (x.kind = 1) || decide (x.kind = 2)) = false by simp; omega] at hsh
    have hrest : decide (restD x = zeroDeed) = decide (x = (Deed.mk x.id x.known x.hour x.kind x.loss x.pack x.from_ 0 ⟨0, 0⟩ 0)) := by
      obtain ⟨i1, i2, i3, i4, i5, i6, i7, i8, ⟨i9, i10⟩, i11⟩ := x
      dsimp only at hk
      unfold restD zeroDeed
      simp [hk]
    have hfi : fineD x = packOk x := by rw [fineD, if_neg (by simp [hk]), if_neg (by simp [hk]), if_pos hk]
    obtain ⟨q, hq⟩ : ∃ q, q = decide (x = (Deed.mk x.id x.known x.hour x.kind x.loss x.pack x.from_ 0 ⟨0, 0⟩ 0)) := ⟨_, rfl⟩
    have heq := fun W => eqD x (Deed.mk x.id x.known x.hour x.kind x.loss x.pack x.from_ 0 ⟨0, 0⟩ 0) W
    rw [← hq] at heq
    rw [← hq] at hrest
    have Hr3 : Hid (r = (fineD x && q)) := Lib.hid (by rw [Hr2.out, hrest])
    clear hrest
    have Hfi := Lib.hid hfi
    have Hk := Lib.hid hk
    clear hq hfi hk Hr2
    have gR := kR.frozen
    have lR := kR.lt
    have cR := kR.cell
    go_upto_region 16 with (first | (go_at_call 136; refine (hmv _).mono ?_; rintro e w3 ⟨rfl, rfl⟩) | (go_at_call 137; refine (hsh _).mono ?_; rintro e w3 ⟨rfl, rfl⟩) | fail)
    obtain ⟨w1, hw1⟩ : ∃ w1, w1 = ((w0.setCell ⟨br, 4, none⟩ (.int .i64 x.loss)).setCell ⟨br, 5, none⟩ (.int .i64 x.pack)).setCell ⟨br, 6, none⟩ (.int .i64 x.from_) := ⟨_, rfl⟩
    rw [← hw1]
    replace kX : Blk w1 bx #[.int .i64 x.id, .int .i64 x.known, .int .i64 x.hour, .int .u8 x.kind, .int .i64 x.loss, .int .i64 x.pack, .int .i64 x.from_, .int .i64 x.to_, .int .i64 x.share.num, .int .i64 x.share.den, .int .i64 x.of_] 36 := hw1 ▸ (((kX.setCell_other hxr _ _).setCell_other hxr _ _).setCell_other hxr _ _)
    replace kR : Blk w1 br #[.int .i64 x.id, .int .i64 x.known, .int .i64 x.hour, .int .u8 x.kind, .int .i64 x.loss, .int .i64 x.pack, .int .i64 x.from_, .int .i64 0, .int .i64 0, .int .i64 0, .int .i64 0] 36 := hw1 ▸ (((kR.setCell 4 (.int .i64 x.loss)).setCell 5 (.int .i64 x.pack)).setCell 6 (.int .i64 x.from_))
    replace hB : RowKit.Below w.heap.size w w1 := hw1 ▸ (((hB.setCell (p := ⟨br, 4, none⟩) hbl _).setCell (p := ⟨br, 5, none⟩) hbl _).setCell (p := ⟨br, 6, none⟩) hbl _)
    clear hw1 gR lR cR cX
    have cX := kX.cell
    have cR := kR.cell
    have lR := kR.lt
    cases q with
    | false =>
      go_wp2_with (first | (go_at_call 76; refine (hin _ _ _ _).mono ?_; rintro e w3 ⟨rfl, rfl⟩) | (go_at_call 137; refine (hsh _).mono ?_; rintro e w3 ⟨rfl, rfl⟩) | fail)
      go_ret
      exact ⟨ret_bool (by rw [Hr3.out, Bool.and_false]), by repeat (first | (with_reducible assumption) | (with_reducible exact Below.refl _ _) | (with_reducible refine Below.alloc ?_ ?_ _) | (with_reducible refine Below.setCell ?_ ?_ _) | (with_reducible refine Below.drew ?_) | omega | (simp <;> omega) | (dsimp only; omega))⟩
    | true =>
      have Hr4 : Hid (r = (inn x.loss 1 20 && inn x.pack 1 200 && inn x.from_ 1 40)) := Lib.hid (by rw [Hr3.out, Hfi.out, packOk, Bool.and_true])
      clear Hr3 Hfi
      rcases Bool.eq_false_or_eq_true (inn x.loss 1 20) with p1 | p1
      rotate_left
      · go_wp2_with (first | (go_at_call 76; refine (hin _ _ _ _).mono ?_; rintro e w3 ⟨rfl, rfl⟩) | (go_at_call 137; refine (hsh _).mono ?_; rintro e w3 ⟨rfl, rfl⟩) | fail)
        go_ret
        exact ⟨ret_bool (by rw [Hr4.out, p1]; simp), by repeat (first | (with_reducible assumption) | (with_reducible exact Below.refl _ _) | (with_reducible refine Below.alloc ?_ ?_ _) | (with_reducible refine Below.setCell ?_ ?_ _) | (with_reducible refine Below.drew ?_) | omega | (simp <;> omega) | (dsimp only; omega))⟩
      rcases Bool.eq_false_or_eq_true (inn x.pack 1 200) with p2 | p2
      rotate_left
      · go_wp2_with (first | (go_at_call 76; refine (hin _ _ _ _).mono ?_; rintro e w3 ⟨rfl, rfl⟩) | (go_at_call 137; refine (hsh _).mono ?_; rintro e w3 ⟨rfl, rfl⟩) | fail)
        go_ret
        exact ⟨ret_bool (by rw [Hr4.out, p1, p2]; simp), by repeat (first | (with_reducible assumption) | (with_reducible exact Below.refl _ _) | (with_reducible refine Below.alloc ?_ ?_ _) | (with_reducible refine Below.setCell ?_ ?_ _) | (with_reducible refine Below.drew ?_) | omega | (simp <;> omega) | (dsimp only; omega))⟩
      rcases Bool.eq_false_or_eq_true (inn x.from_ 1 40) with p3 | p3
      rotate_left
      · go_wp2_with (first | (go_at_call 76; refine (hin _ _ _ _).mono ?_; rintro e w3 ⟨rfl, rfl⟩) | (go_at_call 137; refine (hsh _).mono ?_; rintro e w3 ⟨rfl, rfl⟩) | fail)
        go_ret
        exact ⟨ret_bool (by rw [Hr4.out, p1, p2, p3]; simp), by repeat (first | (with_reducible assumption) | (with_reducible exact Below.refl _ _) | (with_reducible refine Below.alloc ?_ ?_ _) | (with_reducible refine Below.setCell ?_ ?_ _) | (with_reducible refine Below.drew ?_) | omega | (simp <;> omega) | (dsimp only; omega))⟩
      go_wp2_with (first | (go_at_call 76; refine (hin _ _ _ _).mono ?_; rintro e w3 ⟨rfl, rfl⟩) | (go_at_call 137; refine (hsh _).mono ?_; rintro e w3 ⟨rfl, rfl⟩) | fail)
      go_ret
      exact ⟨ret_bool (by rw [Hr4.out, p1, p2, p3]; simp), by repeat (first | (with_reducible assumption) | (with_reducible exact Below.refl _ _) | (with_reducible refine Below.alloc ?_ ?_ _) | (with_reducible refine Below.setCell ?_ ?_ _) | (with_reducible refine Below.drew ?_) | omega | (simp <;> omega) | (dsimp only; omega))⟩
  · skip
    have g1 : (x.kind == 1) = false := by simp; omega
    have g2 : (x.kind == 2) = false := by simp; omega
    have g3 : (x.kind == 3) = false := by simp; omega
    have g4 : (x.kind == 4) = false := by simp; omega
    have g5 : (x.kind == 5) = true := by simp; omega
    have g6 : (x.kind == 6) = false := by simp; omega
    have hrest : decide (restD x = zeroDeed) = decide (x = (Deed.mk x.id x.known x.hour x.kind 0 0 0 0 ⟨0, 0⟩ x.of_)) := by
      obtain ⟨i1, i2, i3, i4, i5, i6, i7, i8, ⟨i9, i10⟩, i11⟩ := x
      dsimp only at hk
      unfold restD zeroDeed
      simp [hk]
    have hfi : fineD x = (inn x.of_ 1 1000000 && (decide (x.kind = 5) || decide (x.hour = 0))) := by rw [fineD, if_neg (by simp [hk]), if_neg (by simp [hk]), if_neg (by simp [hk]), if_pos (by simp [hk])]
    obtain ⟨q, hq⟩ : ∃ q, q = decide (x = (Deed.mk x.id x.known x.hour x.kind 0 0 0 0 ⟨0, 0⟩ x.of_)) := ⟨_, rfl⟩
    have heq := fun W => eqD x (Deed.mk x.id x.known x.hour x.kind 0 0 0 0 ⟨0, 0⟩ x.of_) W
    rw [← hq] at heq
    rw [← hq] at hrest
    have Hr3 : Hid (r = (fineD x && q)) := Lib.hid (by rw [Hr2.out, hrest])
    clear hrest
    have Hfi := Lib.hid hfi
    have Hk := Lib.hid hk
    clear hq hfi hk Hr2
    have gR := kR.frozen
    have lR := kR.lt
    have cR := kR.cell
    go_upto_region 6 with (first | (go_at_call 136; refine (hmv _).mono ?_; rintro e w3 ⟨rfl, rfl⟩) | (go_at_call 137; refine (hsh _).mono ?_; rintro e w3 ⟨rfl, rfl⟩) | fail)
    obtain ⟨w1, hw1⟩ : ∃ w1, w1 = w0.setCell ⟨br, 10, none⟩ (.int .i64 x.of_) := ⟨_, rfl⟩
    rw [← hw1]
    replace kX : Blk w1 bx #[.int .i64 x.id, .int .i64 x.known, .int .i64 x.hour, .int .u8 x.kind, .int .i64 x.loss, .int .i64 x.pack, .int .i64 x.from_, .int .i64 x.to_, .int .i64 x.share.num, .int .i64 x.share.den, .int .i64 x.of_] 36 := hw1 ▸ (kX.setCell_other hxr _ _)
    replace kR : Blk w1 br #[.int .i64 x.id, .int .i64 x.known, .int .i64 x.hour, .int .u8 x.kind, .int .i64 0, .int .i64 0, .int .i64 0, .int .i64 0, .int .i64 0, .int .i64 0, .int .i64 x.of_] 36 := hw1 ▸ (kR.setCell 10 (.int .i64 x.of_))
    replace hB : RowKit.Below w.heap.size w w1 := hw1 ▸ (hB.setCell (p := ⟨br, 10, none⟩) hbl _)
    clear hw1 gR lR cR cX
    have cX := kX.cell
    have cR := kR.cell
    have lR := kR.lt
    cases q with
    | false =>
      go_wp2_with (first | (go_at_call 76; refine (hin _ _ _ _).mono ?_; rintro e w3 ⟨rfl, rfl⟩) | (go_at_call 137; refine (hsh _).mono ?_; rintro e w3 ⟨rfl, rfl⟩) | fail)
      go_ret
      exact ⟨ret_bool (by rw [Hr3.out, Bool.and_false]), by repeat (first | (with_reducible assumption) | (with_reducible exact Below.refl _ _) | (with_reducible refine Below.alloc ?_ ?_ _) | (with_reducible refine Below.setCell ?_ ?_ _) | (with_reducible refine Below.drew ?_) | omega | (simp <;> omega) | (dsimp only; omega))⟩
    | true =>
      rcases Bool.eq_false_or_eq_true (inn x.of_ 1 1000000) with q1 | q1
      rotate_left
      · go_wp2_with (first | (go_at_call 76; refine (hin _ _ _ _).mono ?_; rintro e w3 ⟨rfl, rfl⟩) | (go_at_call 137; refine (hsh _).mono ?_; rintro e w3 ⟨rfl, rfl⟩) | fail)
        go_ret
        exact ⟨ret_bool (by rw [Hr3.out, Hfi.out, q1]; rfl), by repeat (first | (with_reducible assumption) | (with_reducible exact Below.refl _ _) | (with_reducible refine Below.alloc ?_ ?_ _) | (with_reducible refine Below.setCell ?_ ?_ _) | (with_reducible refine Below.drew ?_) | omega | (simp <;> omega) | (dsimp only; omega))⟩
      go_wp2_with (first | (go_at_call 76; refine (hin _ _ _ _).mono ?_; rintro e w3 ⟨rfl, rfl⟩) | (go_at_call 137; refine (hsh _).mono ?_; rintro e w3 ⟨rfl, rfl⟩) | fail)
      go_ret
      exact ⟨ret_bool (by rw [Hr3.out, Hfi.out, q1, Hk.out]; rfl), by repeat (first | (with_reducible assumption) | (with_reducible exact Below.refl _ _) | (with_reducible refine Below.alloc ?_ ?_ _) | (with_reducible refine Below.setCell ?_ ?_ _) | (with_reducible refine Below.drew ?_) | omega | (simp <;> omega) | (dsimp only; omega))⟩
  · skip
    have g1 : (x.kind == 1) = false := by simp; omega
    have g2 : (x.kind == 2) = false := by simp; omega
    have g3 : (x.kind == 3) = false := by simp; omega
    have g4 : (x.kind == 4) = false := by simp; omega
    have g5 : (x.kind == 5) = false := by simp; omega
    have g6 : (x.kind == 6) = true := by simp; omega
    have hrest : decide (restD x = zeroDeed) = decide (x = (Deed.mk x.id x.known x.hour x.kind 0 0 0 0 ⟨0, 0⟩ x.of_)) := by
      obtain ⟨i1, i2, i3, i4, i5, i6, i7, i8, ⟨i9, i10⟩, i11⟩ := x
      dsimp only at hk
      unfold restD zeroDeed
      simp [hk]
    have hfi : fineD x = (inn x.of_ 1 1000000 && (decide (x.kind = 5) || decide (x.hour = 0))) := by rw [fineD, if_neg (by simp [hk]), if_neg (by simp [hk]), if_neg (by simp [hk]), if_pos (by simp [hk])]
    obtain ⟨q, hq⟩ : ∃ q, q = decide (x = (Deed.mk x.id x.known x.hour x.kind 0 0 0 0 ⟨0, 0⟩ x.of_)) := ⟨_, rfl⟩
    have heq := fun W => eqD x (Deed.mk x.id x.known x.hour x.kind 0 0 0 0 ⟨0, 0⟩ x.of_) W
    rw [← hq] at heq
    rw [← hq] at hrest
    have Hr3 : Hid (r = (fineD x && q)) := Lib.hid (by rw [Hr2.out, hrest])
    clear hrest
    have Hfi := Lib.hid hfi
    have Hk := Lib.hid hk
    clear hq hfi hk Hr2
    have gR := kR.frozen
    have lR := kR.lt
    have cR := kR.cell
    go_upto_region 6 with (first | (go_at_call 136; refine (hmv _).mono ?_; rintro e w3 ⟨rfl, rfl⟩) | (go_at_call 137; refine (hsh _).mono ?_; rintro e w3 ⟨rfl, rfl⟩) | fail)
    obtain ⟨w1, hw1⟩ : ∃ w1, w1 = w0.setCell ⟨br, 10, none⟩ (.int .i64 x.of_) := ⟨_, rfl⟩
    rw [← hw1]
    replace kX : Blk w1 bx #[.int .i64 x.id, .int .i64 x.known, .int .i64 x.hour, .int .u8 x.kind, .int .i64 x.loss, .int .i64 x.pack, .int .i64 x.from_, .int .i64 x.to_, .int .i64 x.share.num, .int .i64 x.share.den, .int .i64 x.of_] 36 := hw1 ▸ (kX.setCell_other hxr _ _)
    replace kR : Blk w1 br #[.int .i64 x.id, .int .i64 x.known, .int .i64 x.hour, .int .u8 x.kind, .int .i64 0, .int .i64 0, .int .i64 0, .int .i64 0, .int .i64 0, .int .i64 0, .int .i64 x.of_] 36 := hw1 ▸ (kR.setCell 10 (.int .i64 x.of_))
    replace hB : RowKit.Below w.heap.size w w1 := hw1 ▸ (hB.setCell (p := ⟨br, 10, none⟩) hbl _)
    clear hw1 gR lR cR cX
    have cX := kX.cell
    have cR := kR.cell
    have lR := kR.lt
    cases q with
    | false =>
      go_wp2_with (first | (go_at_call 76; refine (hin _ _ _ _).mono ?_; rintro e w3 ⟨rfl, rfl⟩) | (go_at_call 137; refine (hsh _).mono ?_; rintro e w3 ⟨rfl, rfl⟩) | fail)
      go_ret
      exact ⟨ret_bool (by rw [Hr3.out, Bool.and_false]), by repeat (first | (with_reducible assumption) | (with_reducible exact Below.refl _ _) | (with_reducible refine Below.alloc ?_ ?_ _) | (with_reducible refine Below.setCell ?_ ?_ _) | (with_reducible refine Below.drew ?_) | omega | (simp <;> omega) | (dsimp only; omega))⟩
    | true =>
      rcases Bool.eq_false_or_eq_true (inn x.of_ 1 1000000) with q1 | q1
      rotate_left
      · go_wp2_with (first | (go_at_call 76; refine (hin _ _ _ _).mono ?_; rintro e w3 ⟨rfl, rfl⟩) | (go_at_call 137; refine (hsh _).mono ?_; rintro e w3 ⟨rfl, rfl⟩) | fail)
        go_ret
        exact ⟨ret_bool (by rw [Hr3.out, Hfi.out, q1]; rfl), by repeat (first | (with_reducible assumption) | (with_reducible exact Below.refl _ _) | (with_reducible refine Below.alloc ?_ ?_ _) | (with_reducible refine Below.setCell ?_ ?_ _) | (with_reducible refine Below.drew ?_) | omega | (simp <;> omega) | (dsimp only; omega))⟩
      rcases Decidable.em (x.hour = 0) with q2 | q2
      · have e2 : (x.hour == 0) = true := by simp [q2]
        have Q2 := Lib.hid q2
        clear q2
        go_wp2_with (first | (go_at_call 76; refine (hin _ _ _ _).mono ?_; rintro e w3 ⟨rfl, rfl⟩) | (go_at_call 137; refine (hsh _).mono ?_; rintro e w3 ⟨rfl, rfl⟩) | fail)
        go_ret
        exact ⟨ret_bool (by rw [Hr3.out, Hfi.out, q1, Q2.out]; simp), by repeat (first | (with_reducible assumption) | (with_reducible exact Below.refl _ _) | (with_reducible refine Below.alloc ?_ ?_ _) | (with_reducible refine Below.setCell ?_ ?_ _) | (with_reducible refine Below.drew ?_) | omega | (simp <;> omega) | (dsimp only; omega))⟩
      · have e2 : (x.hour == 0) = false := by simp [q2]
        have Q2 := Lib.hid q2
        clear q2
        go_wp2_with (first | (go_at_call 76; refine (hin _ _ _ _).mono ?_; rintro e w3 ⟨rfl, rfl⟩) | (go_at_call 137; refine (hsh _).mono ?_; rintro e w3 ⟨rfl, rfl⟩) | fail)
        go_ret
        exact ⟨ret_bool (by rw [Hr3.out, Hfi.out, q1, Hk.out, decide_eq_false Q2.out]; rfl), by repeat (first | (with_reducible assumption) | (with_reducible exact Below.refl _ _) | (with_reducible refine Below.alloc ?_ ?_ _) | (with_reducible refine Below.setCell ?_ ?_ _) | (with_reducible refine Below.drew ?_) | omega | (simp <;> omega) | (dsimp only; omega))⟩
  · skip
    have g1 : (x.kind == 1) = false := by simp; omega
    have g2 : (x.kind == 2) = false := by simp; omega
    have g3 : (x.kind == 3) = false := by simp; omega
    have g4 : (x.kind == 4) = false := by simp; omega
    have g5 : (x.kind == 5) = false := by simp; omega
    have g6 : (x.kind == 6) = false := by simp; omega
    have hmv := moves5_any x.kind
    rw [show (decide (1 ≤ x.kind) && decide (x.kind ≤ 3)) = false by simp; omega] at hmv
    have hsh := shares5_any x.kind
    rw [show (decide (x.kind = 1) || decide (x.kind = 2)) = false by simp; omega] at hsh
    have hfi : fineD x = false := by rw [fineD, if_neg (by omega), if_neg (by omega), if_neg (by omega), if_neg (by omega)]
    obtain ⟨q, hq⟩ : ∃ q, q = decide (x = (Deed.mk x.id x.known x.hour x.kind x.loss x.pack x.from_ 0 ⟨0, 0⟩ 0)) := ⟨_, rfl⟩
    have heq := fun W => eqD x (Deed.mk x.id x.known x.hour x.kind x.loss x.pack x.from_ 0 ⟨0, 0⟩ 0) W
    rw [← hq] at heq
    have Hr3 : Hid (r = false) := Lib.hid (by rw [Hr2.out, hfi]; rfl)
    have Hfi := Lib.hid hfi
    have Hk := Lib.hid hk
    clear hq hfi hk Hr2
    have gR := kR.frozen
    have lR := kR.lt
    have cR := kR.cell
    go_upto_region 16 with (first | (go_at_call 136; refine (hmv _).mono ?_; rintro e w3 ⟨rfl, rfl⟩) | (go_at_call 137; refine (hsh _).mono ?_; rintro e w3 ⟨rfl, rfl⟩) | fail)
    obtain ⟨w1, hw1⟩ : ∃ w1, w1 = ((w0.setCell ⟨br, 4, none⟩ (.int .i64 x.loss)).setCell ⟨br, 5, none⟩ (.int .i64 x.pack)).setCell ⟨br, 6, none⟩ (.int .i64 x.from_) := ⟨_, rfl⟩
    rw [← hw1]
    replace kX : Blk w1 bx #[.int .i64 x.id, .int .i64 x.known, .int .i64 x.hour, .int .u8 x.kind, .int .i64 x.loss, .int .i64 x.pack, .int .i64 x.from_, .int .i64 x.to_, .int .i64 x.share.num, .int .i64 x.share.den, .int .i64 x.of_] 36 := hw1 ▸ (((kX.setCell_other hxr _ _).setCell_other hxr _ _).setCell_other hxr _ _)
    replace kR : Blk w1 br #[.int .i64 x.id, .int .i64 x.known, .int .i64 x.hour, .int .u8 x.kind, .int .i64 x.loss, .int .i64 x.pack, .int .i64 x.from_, .int .i64 0, .int .i64 0, .int .i64 0, .int .i64 0] 36 := hw1 ▸ (((kR.setCell 4 (.int .i64 x.loss)).setCell 5 (.int .i64 x.pack)).setCell 6 (.int .i64 x.from_))
    replace hB : RowKit.Below w.heap.size w w1 := hw1 ▸ (((hB.setCell (p := ⟨br, 4, none⟩) hbl _).setCell (p := ⟨br, 5, none⟩) hbl _).setCell (p := ⟨br, 6, none⟩) hbl _)
    clear hw1 gR lR cR cX
    have cX := kX.cell
    have cR := kR.cell
    have lR := kR.lt
    cases q with
    | false =>
      go_wp2_with (first | (go_at_call 76; refine (hin _ _ _ _).mono ?_; rintro e w3 ⟨rfl, rfl⟩) | (go_at_call 137; refine (hsh _).mono ?_; rintro e w3 ⟨rfl, rfl⟩) | fail)
      go_ret
      exact ⟨ret_bool (by rw [Hr3.out]), by repeat (first | (with_reducible assumption) | (with_reducible exact Below.refl _ _) | (with_reducible refine Below.alloc ?_ ?_ _) | (with_reducible refine Below.setCell ?_ ?_ _) | (with_reducible refine Below.drew ?_) | omega | (simp <;> omega) | (dsimp only; omega))⟩
    | true =>
      go_wp2_with (first | (go_at_call 76; refine (hin _ _ _ _).mono ?_; rintro e w3 ⟨rfl, rfl⟩) | (go_at_call 137; refine (hsh _).mono ?_; rintro e w3 ⟨rfl, rfl⟩) | fail)
      go_ret
      exact ⟨ret_bool (by rw [Hr3.out]), by repeat (first | (with_reducible assumption) | (with_reducible exact Below.refl _ _) | (with_reducible refine Below.alloc ?_ ?_ _) | (with_reducible refine Below.setCell ?_ ?_ _) | (with_reducible refine Below.drew ?_) | omega | (simp <;> omega) | (dsimp only; omega))⟩

theorem check5_any (x : Deed) (w : World) : Calls Tryz.prog 30 #[aD x] w (Gives w (.int .i64 (if formedD x = true then 0 else 1))) := by
  have hf := fun W => formed5_any x W
  have kB := Blk.new w 36 #[.int .i64 x.id, .int .i64 x.known, .int .i64 x.hour, .int .u8 x.kind, .int .i64 x.loss, .int .i64 x.pack, .int .i64 x.from_, .int .i64 x.to_, .int .i64 x.share.num, .int .i64 x.share.den, .int .i64 x.of_]
  have hB0 : RowKit.Below w.heap.size w (w.alloc (.cells #[.int .i64 x.id, .int .i64 x.known, .int .i64 x.hour, .int .u8 x.kind, .int .i64 x.loss, .int .i64 x.pack, .int .i64 x.from_, .int .i64 x.to_, .int .i64 x.share.num, .int .i64 x.share.den, .int .i64 x.of_] 36)) := (Below.refl _ w).alloc (Nat.le_refl _) _
  generalize formedD x = f at *
  cases f
  all_goals
    go_enter Tryz.func30, Tryz.ntmps30
    go_wp2_with (first | (go_at_call 82; (with_reducible refine (hf _).mono ?_); rintro e w2 ⟨rfl, hB2⟩) | (refine wpList_load_mid rfl 36 _ rfl w.heap.size 0 rfl (cD x) _ (kB.range 0 _ (fun j v h => by simpa using h)) Tryz.underlying36 rfl (by kernel_rfl) ?_) | fail)
    go_ret
    exact ⟨rfl, hB0.trans (hB2.mono hB0.size)⟩

end Go.Proofs.YtmeomhojbobpbaaGreatDoor
