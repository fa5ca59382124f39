import Derived.Test.YtmeomhojbobpbaaGreatDoorPart08
import Derived.Test.YtmeomhojbobpbaaGreatDoorPart02
import Derived.Test.YtmeomhojbobpbaaGreatDoorPart13
import Derived.Test.YtmeomhojbobpbaaGreatDoorPart03
import Derived.Deep.CutRange
import Derived.Deep.DeepCutAuto
/-
  Walks: what deed is well-formed.
-/
namespace Go.Proofs.YtmeomhojbobpbaaGreatDoor
open Go.RowKit Lg Go.Sort Go.Shelf

set_option maxRecDepth 100000 in
set_option maxHeartbeats 12800000 in
theorem formed_any (x : Deed) (w : World) : Calls Tryz.prog 79 #[aD x] w (Gives w (.bool (formedD x))) := by
  obtain ⟨r, hr⟩ : ∃ r, r = formedD x := ⟨_, rfl⟩
  rw [← hr]
  have Hr := Lib.hid hr; clear hr
  have hin := within5_any
  have hB0 : RowKit.Below w.heap.size w (w.alloc (.cells #[.int .i64 x.id, .int .i64 x.known, .int .i64 x.hour, .int .u8 x.kind, .int .i64 x.loss, .int .i64 x.pack, .int .i64 x.from_, .int .i64 x.to_, .int .i64 x.share.num, .int .i64 x.share.den, .int .i64 x.of_] 36)) := (Below.refl _ w).alloc (Nat.le_refl _) _
  rcases Bool.eq_false_or_eq_true (inn x.id 1 1000000) with t1 | t1
  rotate_left
  · skip
    go_enter Tryz.func79, Tryz.ntmps79
    go_wp2_with (first | (go_at_call 71; refine (hin _ _ _ _).mono ?_; rintro e w3 ⟨rfl, rfl⟩) | fail)
    go_ret
    exact ⟨ret_bool (by rw [Hr.out]; simp [formedD, t1]), hB0⟩
  rcases Bool.eq_false_or_eq_true (inn x.known 0 1000000) with t2 | t2
  rotate_left
  · skip
    go_enter Tryz.func79, Tryz.ntmps79
    go_wp2_with (first | (go_at_call 71; refine (hin _ _ _ _).mono ?_; rintro e w3 ⟨rfl, rfl⟩) | fail)
    go_ret
    exact ⟨ret_bool (by rw [Hr.out]; simp [formedD, t1, t2]), hB0⟩
  rcases Bool.eq_false_or_eq_true (inn x.hour 0 1000000) with t3 | t3
  rotate_left
  · skip
    go_enter Tryz.func79, Tryz.ntmps79
    go_wp2_with (first | (go_at_call 71; refine (hin _ _ _ _).mono ?_; rintro e w3 ⟨rfl, rfl⟩) | fail)
    go_ret
    exact ⟨ret_bool (by rw [Hr.out]; simp [formedD, t1, t2, t3]), hB0⟩
  have Hr2 : Hid (r = (fineD x && decide (restD x = zeroDeed))) := Lib.hid (by rw [Hr.out]; simp [formedD, t1, t2, t3])
  go_enter Tryz.func79, Tryz.ntmps79
  have kB := Blk.new w 36 #[.int .i64 x.id, .int .i64 x.known, .int .i64 x.hour, .int .u8 x.kind, .int .i64 x.loss, .int .i64 x.pack, .int .i64 x.from_, .int .i64 x.to_, .int .i64 x.share.num, .int .i64 x.share.den, .int .i64 x.of_]
  go_upto_region 5 with (first | (go_at_call 71; refine (hin _ _ _ _).mono ?_; rintro e w3 ⟨rfl, rfl⟩) | (refine wpList_load_mid rfl 36 _ rfl w.heap.size 0 rfl (cD x) _ (kB.range 0 _ (fun j v h => by simpa using h)) Tryz.underlying36 rfl (by kernel_rfl) ?_) | fail)
  clear kB t1 t2 t3 Hr
  obtain ⟨w0, hw0⟩ : ∃ w0, w0 = (w.alloc (.cells #[.int .i64 x.id, .int .i64 x.known, .int .i64 x.hour, .int .u8 x.kind, .int .i64 x.loss, .int .i64 x.pack, .int .i64 x.from_, .int .i64 x.to_, .int .i64 x.share.num, .int .i64 x.share.den, .int .i64 x.of_] 36)).alloc (.cells #[.int .i64 0, .int .i64 0, .int .i64 0, .int .u8 0, .int .i64 x.loss, .int .i64 x.pack, .int .i64 x.from_, .int .i64 x.to_, .int .i64 x.share.num, .int .i64 x.share.den, .int .i64 x.of_] 36) := ⟨_, rfl⟩
  rw [← hw0]
  have kX : Blk w0 w.heap.size #[.int .i64 x.id, .int .i64 x.known, .int .i64 x.hour, .int .u8 x.kind, .int .i64 x.loss, .int .i64 x.pack, .int .i64 x.from_, .int .i64 x.to_, .int .i64 x.share.num, .int .i64 x.share.den, .int .i64 x.of_] 36 := hw0 ▸ (Blk.new w _ _).alloc _
  have kR : Blk w0 (w.heap.size + 1) #[.int .i64 0, .int .i64 0, .int .i64 0, .int .u8 0, .int .i64 x.loss, .int .i64 x.pack, .int .i64 x.from_, .int .i64 x.to_, .int .i64 x.share.num, .int .i64 x.share.den, .int .i64 x.of_] 36 := hw0 ▸ Blk.nw1 w _ _ _
  have hB : RowKit.Below w.heap.size w w0 := hw0 ▸ hB0.alloc hB0.size _
  clear hw0 hB0
  obtain ⟨bx, hbx⟩ : ∃ bx, bx = w.heap.size := ⟨_, rfl⟩
  obtain ⟨br, hbr⟩ : ∃ br, br = w.heap.size + 1 := ⟨_, rfl⟩
  rw [← hbr] at kR ⊢
  rw [← hbx] at kX ⊢
  have hbl : w.heap.size ≤ br := by omega
  have hxr : bx ≠ br := by omega
  clear hbx hbr
  have cX := kX.cell
  go_cut [4] (fun c4 W => c4 = .bool (packOk x) ∧ W = w0)
  case first =>
    rcases Bool.eq_false_or_eq_true (inn x.loss 1 20) with p1 | p1
    · rcases Bool.eq_false_or_eq_true (inn x.pack 1 200) with p2 | p2
      · rcases Bool.eq_false_or_eq_true (inn x.from_ 1 40) with p3 | p3
        all_goals
          go_wp2_with (first | (go_at_call 71; refine (hin _ _ _ _).mono ?_; rintro e w3 ⟨rfl, rfl⟩) | fail)
          go_meet
          exact ⟨by simp [packOk, p1, p2, p3], rfl⟩
      · go_wp2_with (first | (go_at_call 71; refine (hin _ _ _ _).mono ?_; rintro e w3 ⟨rfl, rfl⟩) | fail)
        go_meet
        exact ⟨by simp [packOk, p1, p2], rfl⟩
    · go_wp2_with (first | (go_at_call 71; refine (hin _ _ _ _).mono ?_; rintro e w3 ⟨rfl, rfl⟩) | fail)
      go_meet
      exact ⟨by simp [packOk, p1], rfl⟩
  case rest =>
    obtain ⟨rfl, hwc⟩ := hcut
    obtain ⟨wd, hwd⟩ : ∃ wd, wd = wc := ⟨_, rfl⟩
    rw [← hwd] at hwc ⊢
    have hwc := hwc.symm
    subst hwc
    clear hwd
    obtain ⟨pk, hpk⟩ : ∃ pk, pk = packOk x := ⟨_, rfl⟩
    rw [← hpk]
    have Hpk := Lib.hid hpk
    clear hpk
    obtain ⟨f, hf⟩ : ∃ f, f = fineD x := ⟨_, rfl⟩
    have Hf := Lib.hid hf
    have Hr2 : Hid (r = (f && decide (restD x = zeroDeed))) := Lib.hid (by rw [hf]; exact Hr2.out)
    clear hf
    have hks : x.kind = 1 ∨ x.kind = 2 ∨ x.kind = 3 ∨ x.kind = 4 ∨ x.kind = 5 ∨ x.kind = 6 ∨ (x.kind ≠ 1 ∧ x.kind ≠ 2 ∧ x.kind ≠ 3 ∧ x.kind ≠ 4 ∧ x.kind ≠ 5 ∧ x.kind ≠ 6) := by omega
    rcases hks with hk | hk | hk | hk | hk | hk | hk
    · skip
      skip
      have g1 : (x.kind == 1) = true := by simp; omega
      have Hk := Lib.hid hk
      clear hk
      go_upto_region 10 with fail
      go_cut [5] (fun c5 W => c5 = .bool f ∧ RowKit.Below w0.heap.size w0 W)
      case first =>
        have hf : f = (pk && inn x.to_ 1 40 && !decide (x.to_ = x.from_) && validF x.share && decide (0 < x.share.num) && decide (x.share.num ≤ x.share.den)) := by rw [Hf.out, fineD, if_pos (by simp [Hk.out]), Hpk.out]
        have Hf2 := Lib.hid hf
        clear hf Hf Hr2
        have hv := valid_any
        cases pk with
        | false =>
          go_wp2_with fail
          go_meet
          exact ⟨by rw [Hf2.out]; rfl, Below.refl _ _⟩
        | true =>
          rcases Bool.eq_false_or_eq_true (inn x.to_ 1 40) with q1 | q1
          rotate_left
          · go_wp2_with (first | (go_at_call 71; refine (hin _ _ _ _).mono ?_; rintro e w3 ⟨rfl, rfl⟩) | fail)
            go_meet
            exact ⟨by rw [Hf2.out, q1]; rfl, Below.refl _ _⟩
          by_cases q2 : x.to_ = x.from_
          · have e2 : (x.to_ != x.from_) = false := by simp [q2]
            have Q2 := Lib.hid q2
            clear q2
            go_wp2_with (first | (go_at_call 71; refine (hin _ _ _ _).mono ?_; rintro e w3 ⟨rfl, rfl⟩) | fail)
            go_meet
            exact ⟨by rw [Hf2.out, q1, decide_eq_true Q2.out]; rfl, Below.refl _ _⟩
          have e2 : (x.to_ != x.from_) = true := by simp [q2]
          have Q2 := Lib.hid q2
          clear q2
          have hv1 := fun W B (k : Blk W B #[.int .i64 x.share.num, .int .i64 x.share.den] 25) => valid_any (some ⟨B, 0, none⟩) 1 1 [x.share] W (Lst.one k)
          have HV := Lib.hid hv1
          clear hv1 hv
          obtain ⟨vd, hvd⟩ : ∃ vd, vd = validF x.share := ⟨_, rfl⟩
          have HVd : Hid (∀ W B, Blk W B #[.int .i64 x.share.num, .int .i64 x.share.den] 25 → Calls Tryz.prog 66 #[.slice (some ⟨B, 0, none⟩) 1 1] W (Gives W (.bool vd))) := Lib.hid (fun W B k => (HV.out W B k).mono fun e w' h => ⟨h.1.trans (by rw [hvd]; simp), h.2⟩)
          have Hvd := Lib.hid hvd
          clear HV hvd
          have lX := kX.lt
          cases vd with
          | false =>
            go_wp2_with (first | (go_at_call 71; refine (hin _ _ _ _).mono ?_; rintro e w3 ⟨rfl, rfl⟩) | (go_at_call 66; (with_reducible refine (HVd.out _ _ (Blk.new _ _ _)).mono ?_); rintro e w3 ⟨rfl, hb3⟩) | fail)
            go_meet
            exact ⟨by rw [Hf2.out, q1, decide_eq_false Q2.out, ← Hvd.out]; rfl, ((Below.refl _ w0).alloc (Nat.le_refl _) _).trans (hb3.mono (by simp))⟩
          | true =>
            rcases Decidable.em (0 < x.share.num) with q3 | q3
            · have e3 : decide (0 < x.share.num) = true := decide_eq_true q3
              rcases Decidable.em (x.share.num ≤ x.share.den) with q4 | q4
              · have e4 : decide (x.share.num ≤ x.share.den) = true := decide_eq_true q4
                go_wp2_with (first | (go_at_call 71; refine (hin _ _ _ _).mono ?_; rintro e w3 ⟨rfl, rfl⟩) | (go_at_call 66; (with_reducible refine (HVd.out _ _ (Blk.new _ _ _)).mono ?_); rintro e w3 ⟨rfl, hb3⟩; have c3 := ((kX.alloc _).below' hb3).cell) | fail)
                go_meet
                exact ⟨by rw [Hf2.out, q1, decide_eq_false Q2.out, ← Hvd.out, e3, e4]; rfl, ((Below.refl _ w0).alloc (Nat.le_refl _) _).trans (hb3.mono (by simp))⟩
              · have e4 : decide (x.share.num ≤ x.share.den) = false := decide_eq_false q4
                go_wp2_with (first | (go_at_call 71; refine (hin _ _ _ _).mono ?_; rintro e w3 ⟨rfl, rfl⟩) | (go_at_call 66; (with_reducible refine (HVd.out _ _ (Blk.new _ _ _)).mono ?_); rintro e w3 ⟨rfl, hb3⟩; have c3 := ((kX.alloc _).below' hb3).cell) | fail)
                go_meet
                exact ⟨by rw [Hf2.out, q1, decide_eq_false Q2.out, ← Hvd.out, e3, e4]; rfl, ((Below.refl _ w0).alloc (Nat.le_refl _) _).trans (hb3.mono (by simp))⟩
            · have e3 : decide (0 < x.share.num) = false := decide_eq_false q3
              go_wp2_with (first | (go_at_call 71; refine (hin _ _ _ _).mono ?_; rintro e w3 ⟨rfl, rfl⟩) | (go_at_call 66; (with_reducible refine (HVd.out _ _ (Blk.new _ _ _)).mono ?_); rintro e w3 ⟨rfl, hb3⟩; have c3 := ((kX.alloc _).below' hb3).cell) | fail)
              go_meet
              exact ⟨by rw [Hf2.out, q1, decide_eq_false Q2.out, ← Hvd.out, e3]; rfl, ((Below.refl _ w0).alloc (Nat.le_refl _) _).trans (hb3.mono (by simp))⟩
      case rest =>
        obtain ⟨rfl, hb⟩ := hcut
        obtain ⟨w4, hw4⟩ : ∃ w4, w4 = wc := ⟨_, rfl⟩
        rw [← hw4] at hb ⊢
        clear hw4 cX
        have kR := kR.below' hb
        have hB := hB.trans (hb.mono hB.size)
        clear hb kX
        obtain ⟨q, hq⟩ : ∃ q, q = decide (restD x = zeroDeed) := ⟨_, rfl⟩
        have heq := fun W => eqD (restD x) zeroDeed W
        rw [← hq] at heq
        rw [show restD x = { zeroDeed with of_ := x.of_ } from by unfold restD; simp [Hk.out]] at heq
        dsimp only [zeroDeed] at heq
        have Hr3 : Hid (r = (f && q)) := Lib.hid (by rw [hq]; exact Hr2.out)
        have gg := guardD
        clear hq Hr2
        have cR := kR.cell
        have gR := kR.frozen
        have lR := kR.lt
        go_upto_region 22 with fail
        obtain ⟨w5, hw5⟩ : ∃ w5, w5 = ((((((w4).setCell ⟨br, 4, none⟩ (.int .i64 0)).setCell ⟨br, 5, none⟩ (.int .i64 0)).setCell ⟨br, 6, none⟩ (.int .i64 0)).setCell ⟨br, 7, none⟩ (.int .i64 0)).setCell ⟨br, 8, none⟩ (.int .i64 0)).setCell ⟨br, 9, none⟩ (.int .i64 0) := ⟨_, rfl⟩
        rw [← hw5]
        have kR : Blk w5 br #[.int .i64 0, .int .i64 0, .int .i64 0, .int .u8 0, .int .i64 0, .int .i64 0, .int .i64 0, .int .i64 0, .int .i64 0, .int .i64 0, .int .i64 x.of_] 36 := hw5 ▸ ((((((kR.setCell 4 (.int .i64 0)).setCell 5 (.int .i64 0)).setCell 6 (.int .i64 0)).setCell 7 (.int .i64 0)).setCell 8 (.int .i64 0)).setCell 9 (.int .i64 0))
        have hB : RowKit.Below w.heap.size w w5 := hw5 ▸ ((((((hB.setCell (p := ⟨br, 4, none⟩) hbl _).setCell (p := ⟨br, 5, none⟩) hbl _).setCell (p := ⟨br, 6, none⟩) hbl _).setCell (p := ⟨br, 7, none⟩) hbl _).setCell (p := ⟨br, 8, none⟩) hbl _).setCell (p := ⟨br, 9, none⟩) hbl _)
        clear hw5 cR gR lR
        cases f with
        | false =>
          go_wp2_with (fail)
          go_ret
          exact ⟨ret_bool (by rw [Hr3.out]; rfl), by repeat (first | (with_reducible assumption) | (with_reducible exact Below.refl _ _) | (with_reducible refine Below.alloc ?_ ?_ _) | (with_reducible refine Below.setCell ?_ ?_ _) | (with_reducible refine Below.drew ?_) | omega | (simp <;> omega) | (dsimp only; omega))⟩
        | true =>
          have cR := kR.cell
          have lR := kR.lt
          go_wp2_with (first | (refine wpList_load_mid rfl 36 _ rfl br 0 rfl [.int .i64 0, .int .i64 0, .int .i64 0, .int .u8 0, .int .i64 0, .int .i64 0, .int .i64 0, .int .i64 0, .int .i64 0, .int .i64 0, .int .i64 x.of_] _ (kR.range 0 _ (fun j v h => by simpa using h)) Tryz.underlying36 rfl (by kernel_rfl) ?_) | fail)
          go_ret
          exact ⟨ret_bool (by rw [Hr3.out]; rfl), by repeat (first | (with_reducible assumption) | (with_reducible exact Below.refl _ _) | (with_reducible refine Below.alloc ?_ ?_ _) | (with_reducible refine Below.setCell ?_ ?_ _) | (with_reducible refine Below.drew ?_) | omega | (simp <;> omega) | (dsimp only; omega))⟩
    · skip
      skip
      have g1 : (x.kind == 1) = false := by simp; omega
      have g2 : (x.kind == 2) = true := by simp; omega
      have Hk := Lib.hid hk
      clear hk
      go_upto_region 10 with fail
      go_cut [5] (fun c5 W => c5 = .bool f ∧ RowKit.Below w0.heap.size w0 W)
      case first =>
        have hf : f = (pk && inn x.to_ 1 40 && !decide (x.to_ = x.from_) && validF x.share && decide (0 < x.share.num) && decide (x.share.num ≤ x.share.den)) := by rw [Hf.out, fineD, if_pos (by simp [Hk.out]), Hpk.out]
        have Hf2 := Lib.hid hf
        clear hf Hf Hr2
        have hv := valid_any
        cases pk with
        | false =>
          go_wp2_with fail
          go_meet
          exact ⟨by rw [Hf2.out]; rfl, Below.refl _ _⟩
        | true =>
          rcases Bool.eq_false_or_eq_true (inn x.to_ 1 40) with q1 | q1
          rotate_left
          · go_wp2_with (first | (go_at_call 71; refine (hin _ _ _ _).mono ?_; rintro e w3 ⟨rfl, rfl⟩) | fail)
            go_meet
            exact ⟨by rw [Hf2.out, q1]; rfl, Below.refl _ _⟩
          by_cases q2 : x.to_ = x.from_
          · have e2 : (x.to_ != x.from_) = false := by simp [q2]
            have Q2 := Lib.hid q2
            clear q2
            go_wp2_with (first | (go_at_call 71; refine (hin _ _ _ _).mono ?_; rintro e w3 ⟨rfl, rfl⟩) | fail)
            go_meet
            exact ⟨by rw [Hf2.out, q1, decide_eq_true Q2.out]; rfl, Below.refl _ _⟩
          have e2 : (x.to_ != x.from_) = true := by simp [q2]
          have Q2 := Lib.hid q2
          clear q2
          have hv1 := fun W B (k : Blk W B #[.int .i64 x.share.num, .int .i64 x.share.den] 25) => valid_any (some ⟨B, 0, none⟩) 1 1 [x.share] W (Lst.one k)
          have HV := Lib.hid hv1
          clear hv1 hv
          obtain ⟨vd, hvd⟩ : ∃ vd, vd = validF x.share := ⟨_, rfl⟩
          have HVd : Hid (∀ W B, Blk W B #[.int .i64 x.share.num, .int .i64 x.share.den] 25 → Calls Tryz.prog 66 #[.slice (some ⟨B, 0, none⟩) 1 1] W (Gives W (.bool vd))) := Lib.hid (fun W B k => (HV.out W B k).mono fun e w' h => ⟨h.1.trans (by rw [hvd]; simp), h.2⟩)
          have Hvd := Lib.hid hvd
          clear HV hvd
          have lX := kX.lt
          cases vd with
          | false =>
            go_wp2_with (first | (go_at_call 71; refine (hin _ _ _ _).mono ?_; rintro e w3 ⟨rfl, rfl⟩) | (go_at_call 66; (with_reducible refine (HVd.out _ _ (Blk.new _ _ _)).mono ?_); rintro e w3 ⟨rfl, hb3⟩) | fail)
            go_meet
            exact ⟨by rw [Hf2.out, q1, decide_eq_false Q2.out, ← Hvd.out]; rfl, ((Below.refl _ w0).alloc (Nat.le_refl _) _).trans (hb3.mono (by simp))⟩
          | true =>
            rcases Decidable.em (0 < x.share.num) with q3 | q3
            · have e3 : decide (0 < x.share.num) = true := decide_eq_true q3
              rcases Decidable.em (x.share.num ≤ x.share.den) with q4 | q4
              · have e4 : decide (x.share.num ≤ x.share.den) = true := decide_eq_true q4
                go_wp2_with (first | (go_at_call 71; refine (hin _ _ _ _).mono ?_; rintro e w3 ⟨rfl, rfl⟩) | (go_at_call 66; (with_reducible refine (HVd.out _ _ (Blk.new _ _ _)).mono ?_); rintro e w3 ⟨rfl, hb3⟩; have c3 := ((kX.alloc _).below' hb3).cell) | fail)
                go_meet
                exact ⟨by rw [Hf2.out, q1, decide_eq_false Q2.out, ← Hvd.out, e3, e4]; rfl, ((Below.refl _ w0).alloc (Nat.le_refl _) _).trans (hb3.mono (by simp))⟩
              · have e4 : decide (x.share.num ≤ x.share.den) = false := decide_eq_false q4
                go_wp2_with (first | (go_at_call 71; refine (hin _ _ _ _).mono ?_; rintro e w3 ⟨rfl, rfl⟩) | (go_at_call 66; (with_reducible refine (HVd.out _ _ (Blk.new _ _ _)).mono ?_); rintro e w3 ⟨rfl, hb3⟩; have c3 := ((kX.alloc _).below' hb3).cell) | fail)
                go_meet
                exact ⟨by rw [Hf2.out, q1, decide_eq_false Q2.out, ← Hvd.out, e3, e4]; rfl, ((Below.refl _ w0).alloc (Nat.le_refl _) _).trans (hb3.mono (by simp))⟩
            · have e3 : decide (0 < x.share.num) = false := decide_eq_false q3
              go_wp2_with (first | (go_at_call 71; refine (hin _ _ _ _).mono ?_; rintro e w3 ⟨rfl, rfl⟩) | (go_at_call 66; (with_reducible refine (HVd.out _ _ (Blk.new _ _ _)).mono ?_); rintro e w3 ⟨rfl, hb3⟩; have c3 := ((kX.alloc _).below' hb3).cell) | fail)
              go_meet
              exact ⟨by rw [Hf2.out, q1, decide_eq_false Q2.out, ← Hvd.out, e3]; rfl, ((Below.refl _ w0).alloc (Nat.le_refl _) _).trans (hb3.mono (by simp))⟩
      case rest =>
        obtain ⟨rfl, hb⟩ := hcut
        obtain ⟨w4, hw4⟩ : ∃ w4, w4 = wc := ⟨_, rfl⟩
        rw [← hw4] at hb ⊢
        clear hw4 cX
        have kR := kR.below' hb
        have hB := hB.trans (hb.mono hB.size)
        clear hb kX
        obtain ⟨q, hq⟩ : ∃ q, q = decide (restD x = zeroDeed) := ⟨_, rfl⟩
        have heq := fun W => eqD (restD x) zeroDeed W
        rw [← hq] at heq
        rw [show restD x = { zeroDeed with of_ := x.of_ } from by unfold restD; simp [Hk.out]] at heq
        dsimp only [zeroDeed] at heq
        have Hr3 : Hid (r = (f && q)) := Lib.hid (by rw [hq]; exact Hr2.out)
        have gg := guardD
        clear hq Hr2
        have cR := kR.cell
        have gR := kR.frozen
        have lR := kR.lt
        go_upto_region 22 with fail
        obtain ⟨w5, hw5⟩ : ∃ w5, w5 = ((((((w4).setCell ⟨br, 4, none⟩ (.int .i64 0)).setCell ⟨br, 5, none⟩ (.int .i64 0)).setCell ⟨br, 6, none⟩ (.int .i64 0)).setCell ⟨br, 7, none⟩ (.int .i64 0)).setCell ⟨br, 8, none⟩ (.int .i64 0)).setCell ⟨br, 9, none⟩ (.int .i64 0) := ⟨_, rfl⟩
        rw [← hw5]
        have kR : Blk w5 br #[.int .i64 0, .int .i64 0, .int .i64 0, .int .u8 0, .int .i64 0, .int .i64 0, .int .i64 0, .int .i64 0, .int .i64 0, .int .i64 0, .int .i64 x.of_] 36 := hw5 ▸ ((((((kR.setCell 4 (.int .i64 0)).setCell 5 (.int .i64 0)).setCell 6 (.int .i64 0)).setCell 7 (.int .i64 0)).setCell 8 (.int .i64 0)).setCell 9 (.int .i64 0))
        have hB : RowKit.Below w.heap.size w w5 := hw5 ▸ ((((((hB.setCell (p := ⟨br, 4, none⟩) hbl _).setCell (p := ⟨br, 5, none⟩) hbl _).setCell (p := ⟨br, 6, none⟩) hbl _).setCell (p := ⟨br, 7, none⟩) hbl _).setCell (p := ⟨br, 8, none⟩) hbl _).setCell (p := ⟨br, 9, none⟩) hbl _)
        clear hw5 cR gR lR
        cases f with
        | false =>
          go_wp2_with (fail)
          go_ret
          exact ⟨ret_bool (by rw [Hr3.out]; rfl), by repeat (first | (with_reducible assumption) | (with_reducible exact Below.refl _ _) | (with_reducible refine Below.alloc ?_ ?_ _) | (with_reducible refine Below.setCell ?_ ?_ _) | (with_reducible refine Below.drew ?_) | omega | (simp <;> omega) | (dsimp only; omega))⟩
        | true =>
          have cR := kR.cell
          have lR := kR.lt
          go_wp2_with (first | (refine wpList_load_mid rfl 36 _ rfl br 0 rfl [.int .i64 0, .int .i64 0, .int .i64 0, .int .u8 0, .int .i64 0, .int .i64 0, .int .i64 0, .int .i64 0, .int .i64 0, .int .i64 0, .int .i64 x.of_] _ (kR.range 0 _ (fun j v h => by simpa using h)) Tryz.underlying36 rfl (by kernel_rfl) ?_) | fail)
          go_ret
          exact ⟨ret_bool (by rw [Hr3.out]; rfl), by repeat (first | (with_reducible assumption) | (with_reducible exact Below.refl _ _) | (with_reducible refine Below.alloc ?_ ?_ _) | (with_reducible refine Below.setCell ?_ ?_ _) | (with_reducible refine Below.drew ?_) | omega | (simp <;> omega) | (dsimp only; omega))⟩
    · skip
      skip
      have g1 : (x.kind == 1) = false := by simp; omega
      have g2 : (x.kind == 2) = false := by simp; omega
      have g3 : (x.kind == 3) = true := by simp; omega
      have Hk := Lib.hid hk
      clear hk
      go_upto_region 13 with fail
      go_cut [5] (fun c5 W => c5 = .bool f ∧ W = w0)
      case first =>
        have hf : f = (pk && inn x.to_ 0 40 && !decide (x.to_ = x.from_)) := by rw [Hf.out, fineD, if_neg (by simp [Hk.out]), if_pos Hk.out, Hpk.out]
        have Hf2 := Lib.hid hf
        clear hf Hf Hr2
        cases pk with
        | false =>
          go_wp2_with fail
          go_meet
          exact ⟨by rw [Hf2.out]; rfl, rfl⟩
        | true =>
          rcases Bool.eq_false_or_eq_true (inn x.to_ 0 40) with q1 | q1
          rotate_left
          · go_wp2_with (first | (go_at_call 71; refine (hin _ _ _ _).mono ?_; rintro e w3 ⟨rfl, rfl⟩) | fail)
            go_meet
            exact ⟨by rw [Hf2.out, q1]; rfl, rfl⟩
          by_cases q2 : x.to_ = x.from_
          · have e2 : (x.to_ != x.from_) = false := by simp [q2]
            have Q2 := Lib.hid q2
            clear q2
            go_wp2_with (first | (go_at_call 71; refine (hin _ _ _ _).mono ?_; rintro e w3 ⟨rfl, rfl⟩) | fail)
            go_meet
            exact ⟨by rw [Hf2.out, q1, decide_eq_true Q2.out]; rfl, rfl⟩
          have e2 : (x.to_ != x.from_) = true := by simp [q2]
          have Q2 := Lib.hid q2
          clear q2
          go_wp2_with (first | (go_at_call 71; refine (hin _ _ _ _).mono ?_; rintro e w3 ⟨rfl, rfl⟩) | fail)
          go_meet
          exact ⟨by rw [Hf2.out, q1, decide_eq_false Q2.out]; rfl, rfl⟩
      case rest =>
        obtain ⟨rfl, hwc⟩ := hcut
        obtain ⟨w4, hw4⟩ : ∃ w4, w4 = wc := ⟨_, rfl⟩
        rw [← hw4] at hwc ⊢
        subst hwc
        clear hw4 cX kX
        obtain ⟨q, hq⟩ : ∃ q, q = decide (restD x = zeroDeed) := ⟨_, rfl⟩
        have heq := fun W => eqD (restD x) zeroDeed W
        rw [← hq] at heq
        rw [show restD x = { zeroDeed with share := x.share, of_ := x.of_ } from by unfold restD; simp [Hk.out]] at heq
        dsimp only [zeroDeed] at heq
        have Hr3 : Hid (r = (f && q)) := Lib.hid (by rw [hq]; exact Hr2.out)
        have gg := guardD
        clear hq Hr2
        have cR := kR.cell
        have gR := kR.frozen
        have lR := kR.lt
        go_upto_region 22 with fail
        obtain ⟨w5, hw5⟩ : ∃ w5, w5 = ((((w4).setCell ⟨br, 4, none⟩ (.int .i64 0)).setCell ⟨br, 5, none⟩ (.int .i64 0)).setCell ⟨br, 6, none⟩ (.int .i64 0)).setCell ⟨br, 7, none⟩ (.int .i64 0) := ⟨_, rfl⟩
        rw [← hw5]
        have kR : Blk w5 br #[.int .i64 0, .int .i64 0, .int .i64 0, .int .u8 0, .int .i64 0, .int .i64 0, .int .i64 0, .int .i64 0, .int .i64 x.share.num, .int .i64 x.share.den, .int .i64 x.of_] 36 := hw5 ▸ ((((kR.setCell 4 (.int .i64 0)).setCell 5 (.int .i64 0)).setCell 6 (.int .i64 0)).setCell 7 (.int .i64 0))
        have hB : RowKit.Below w.heap.size w w5 := hw5 ▸ ((((hB.setCell (p := ⟨br, 4, none⟩) hbl _).setCell (p := ⟨br, 5, none⟩) hbl _).setCell (p := ⟨br, 6, none⟩) hbl _).setCell (p := ⟨br, 7, none⟩) hbl _)
        clear hw5 cR gR lR
        cases f with
        | false =>
          go_wp2_with (fail)
          go_ret
          exact ⟨ret_bool (by rw [Hr3.out]; rfl), by repeat (first | (with_reducible assumption) | (with_reducible exact Below.refl _ _) | (with_reducible refine Below.alloc ?_ ?_ _) | (with_reducible refine Below.setCell ?_ ?_ _) | (with_reducible refine Below.drew ?_) | omega | (simp <;> omega) | (dsimp only; omega))⟩
        | true =>
          have cR := kR.cell
          have lR := kR.lt
          go_wp2_with (first | (refine wpList_load_mid rfl 36 _ rfl br 0 rfl [.int .i64 0, .int .i64 0, .int .i64 0, .int .u8 0, .int .i64 0, .int .i64 0, .int .i64 0, .int .i64 0, .int .i64 x.share.num, .int .i64 x.share.den, .int .i64 x.of_] _ (kR.range 0 _ (fun j v h => by simpa using h)) Tryz.underlying36 rfl (by kernel_rfl) ?_) | fail)
          go_ret
          exact ⟨ret_bool (by rw [Hr3.out]; rfl), by repeat (first | (with_reducible assumption) | (with_reducible exact Below.refl _ _) | (with_reducible refine Below.alloc ?_ ?_ _) | (with_reducible refine Below.setCell ?_ ?_ _) | (with_reducible refine Below.drew ?_) | omega | (simp <;> omega) | (dsimp only; omega))⟩
    · skip
      skip
      have g1 : (x.kind == 1) = false := by simp; omega
      have g2 : (x.kind == 2) = false := by simp; omega
      have g3 : (x.kind == 3) = false := by simp; omega
      have g4 : (x.kind == 4) = true := by simp; omega
      have Hk := Lib.hid hk
      clear hk
      obtain rfl : f = pk := by rw [Hf.out, fineD, if_neg (by simp [Hk.out]), if_neg (by simp [Hk.out]), if_pos Hk.out, Hpk.out]
      clear kX
      obtain ⟨q, hq⟩ : ∃ q, q = decide (restD x = zeroDeed) := ⟨_, rfl⟩
      have heq := fun W => eqD (restD x) zeroDeed W
      rw [← hq] at heq
      rw [show restD x = (Deed.mk 0 0 0 0 0 0 0 x.to_ x.share x.of_) from by unfold restD; simp [Hk.out, zeroDeed]] at heq
      dsimp only [zeroDeed] at heq
      have Hr3 : Hid (r = (f && q)) := Lib.hid (by rw [hq]; exact Hr2.out)
      have gg := guardD
      clear hq Hr2
      have cR := kR.cell
      have gR := kR.frozen
      have lR := kR.lt
      go_upto_region 22 with fail
      obtain ⟨w5, hw5⟩ : ∃ w5, w5 = (((w0).setCell ⟨br, 4, none⟩ (.int .i64 0)).setCell ⟨br, 5, none⟩ (.int .i64 0)).setCell ⟨br, 6, none⟩ (.int .i64 0) := ⟨_, rfl⟩
      rw [← hw5]
      have kR : Blk w5 br #[.int .i64 0, .int .i64 0, .int .i64 0, .int .u8 0, .int .i64 0, .int .i64 0, .int .i64 0, .int .i64 x.to_, .int .i64 x.share.num, .int .i64 x.share.den, .int .i64 x.of_] 36 := hw5 ▸ (((kR.setCell 4 (.int .i64 0)).setCell 5 (.int .i64 0)).setCell 6 (.int .i64 0))
      have hB : RowKit.Below w.heap.size w w5 := hw5 ▸ (((hB.setCell (p := ⟨br, 4, none⟩) hbl _).setCell (p := ⟨br, 5, none⟩) hbl _).setCell (p := ⟨br, 6, none⟩) hbl _)
      clear hw5 cR gR lR
      cases f with
      | false =>
        go_wp2_with (fail)
        go_ret
        exact ⟨ret_bool (by rw [Hr3.out]; rfl), by repeat (first | (with_reducible assumption) | (with_reducible exact Below.refl _ _) | (with_reducible refine Below.alloc ?_ ?_ _) | (with_reducible refine Below.setCell ?_ ?_ _) | (with_reducible refine Below.drew ?_) | omega | (simp <;> omega) | (dsimp only; omega))⟩
      | true =>
        have cR := kR.cell
        have lR := kR.lt
        go_wp2_with (first | (refine wpList_load_mid rfl 36 _ rfl br 0 rfl [.int .i64 0, .int .i64 0, .int .i64 0, .int .u8 0, .int .i64 0, .int .i64 0, .int .i64 0, .int .i64 x.to_, .int .i64 x.share.num, .int .i64 x.share.den, .int .i64 x.of_] _ (kR.range 0 _ (fun j v h => by simpa using h)) Tryz.underlying36 rfl (by kernel_rfl) ?_) | fail)
        go_ret
        exact ⟨ret_bool (by rw [Hr3.out]; rfl), by repeat (first | (with_reducible assumption) | (with_reducible exact Below.refl _ _) | (with_reducible refine Below.alloc ?_ ?_ _) | (with_reducible refine Below.setCell ?_ ?_ _) | (with_reducible refine Below.drew ?_) | omega | (simp <;> omega) | (dsimp only; omega))⟩
    · skip
      skip
      have g1 : (x.kind == 1) = false := by simp; omega
      have g2 : (x.kind == 2) = false := by simp; omega
      have g3 : (x.kind == 3) = false := by simp; omega
      have g4 : (x.kind == 4) = false := by simp; omega
      have g5 : (x.kind == 5) = true := by simp; omega
      have Hk := Lib.hid hk
      clear hk
      go_upto_region 20 with fail
      go_cut [5] (fun c5 W => c5 = .bool f ∧ W = w0)
      case first =>
        have hf : f = (inn x.of_ 1 1000000 && (decide (x.kind = 5) || decide (x.hour = 0))) := by rw [Hf.out, fineD, if_neg (by simp [Hk.out]), if_neg (by simp [Hk.out]), if_neg (by simp [Hk.out]), if_pos (by simp [Hk.out])]
        have Hf2 := Lib.hid hf
        clear hf Hf Hr2
        rcases Bool.eq_false_or_eq_true (inn x.of_ 1 1000000) with q1 | q1
        rotate_left
        · go_wp2_with (first | (go_at_call 71; refine (hin _ _ _ _).mono ?_; rintro e w3 ⟨rfl, rfl⟩) | fail)
          go_meet
          exact ⟨by rw [Hf2.out, q1]; rfl, rfl⟩
        rcases Decidable.em (x.hour = 0) with q2 | q2
        · have e2 : (x.hour == 0) = true := by simp [q2]
          have Q2 := Lib.hid q2
          clear q2
          go_wp2_with (first | (go_at_call 71; refine (hin _ _ _ _).mono ?_; rintro e w3 ⟨rfl, rfl⟩) | fail)
          go_meet
          exact ⟨by rw [Hf2.out, q1, Hk.out, Q2.out]; rfl, rfl⟩
        · have e2 : (x.hour == 0) = false := by simp [q2]
          have Q2 := Lib.hid q2
          clear q2
          go_wp2_with (first | (go_at_call 71; refine (hin _ _ _ _).mono ?_; rintro e w3 ⟨rfl, rfl⟩) | fail)
          go_meet
          exact ⟨by rw [Hf2.out, q1, Hk.out, decide_eq_false Q2.out]; rfl, rfl⟩
      case rest =>
        obtain ⟨rfl, hwc⟩ := hcut
        obtain ⟨w4, hw4⟩ : ∃ w4, w4 = wc := ⟨_, rfl⟩
        rw [← hw4] at hwc ⊢
        subst hwc
        clear hw4 cX kX
        obtain ⟨q, hq⟩ : ∃ q, q = decide (restD x = zeroDeed) := ⟨_, rfl⟩
        have heq := fun W => eqD (restD x) zeroDeed W
        rw [← hq] at heq
        rw [show restD x = (Deed.mk 0 0 0 0 x.loss x.pack x.from_ x.to_ x.share 0) from by unfold restD; simp [Hk.out, zeroDeed]] at heq
        dsimp only [zeroDeed] at heq
        have Hr3 : Hid (r = (f && q)) := Lib.hid (by rw [hq]; exact Hr2.out)
        have gg := guardD
        clear hq Hr2
        have cR := kR.cell
        have gR := kR.frozen
        have lR := kR.lt
        go_upto_region 22 with fail
        obtain ⟨w5, hw5⟩ : ∃ w5, w5 = (w4).setCell ⟨br, 10, none⟩ (.int .i64 0) := ⟨_, rfl⟩
        rw [← hw5]
        have kR : Blk w5 br #[.int .i64 0, .int .i64 0, .int .i64 0, .int .u8 0, .int .i64 x.loss, .int .i64 x.pack, .int .i64 x.from_, .int .i64 x.to_, .int .i64 x.share.num, .int .i64 x.share.den, .int .i64 0] 36 := hw5 ▸ (kR.setCell 10 (.int .i64 0))
        have hB : RowKit.Below w.heap.size w w5 := hw5 ▸ (hB.setCell (p := ⟨br, 10, none⟩) hbl _)
        clear hw5 cR gR lR
        cases f with
        | false =>
          go_wp2_with (fail)
          go_ret
          exact ⟨ret_bool (by rw [Hr3.out]; rfl), by repeat (first | (with_reducible assumption) | (with_reducible exact Below.refl _ _) | (with_reducible refine Below.alloc ?_ ?_ _) | (with_reducible refine Below.setCell ?_ ?_ _) | (with_reducible refine Below.drew ?_) | omega | (simp <;> omega) | (dsimp only; omega))⟩
        | true =>
          have cR := kR.cell
          have lR := kR.lt
          go_wp2_with (first | (refine wpList_load_mid rfl 36 _ rfl br 0 rfl [.int .i64 0, .int .i64 0, .int .i64 0, .int .u8 0, .int .i64 x.loss, .int .i64 x.pack, .int .i64 x.from_, .int .i64 x.to_, .int .i64 x.share.num, .int .i64 x.share.den, .int .i64 0] _ (kR.range 0 _ (fun j v h => by simpa using h)) Tryz.underlying36 rfl (by kernel_rfl) ?_) | fail)
          go_ret
          exact ⟨ret_bool (by rw [Hr3.out]; rfl), by repeat (first | (with_reducible assumption) | (with_reducible exact Below.refl _ _) | (with_reducible refine Below.alloc ?_ ?_ _) | (with_reducible refine Below.setCell ?_ ?_ _) | (with_reducible refine Below.drew ?_) | omega | (simp <;> omega) | (dsimp only; omega))⟩
    · skip
      skip
      have g1 : (x.kind == 1) = false := by simp; omega
      have g2 : (x.kind == 2) = false := by simp; omega
      have g3 : (x.kind == 3) = false := by simp; omega
      have g4 : (x.kind == 4) = false := by simp; omega
      have g5 : (x.kind == 5) = false := by simp; omega
      have g6 : (x.kind == 6) = true := by simp; omega
      have Hk := Lib.hid hk
      clear hk
      go_upto_region 20 with fail
      go_cut [5] (fun c5 W => c5 = .bool f ∧ W = w0)
      case first =>
        have hf : f = (inn x.of_ 1 1000000 && (decide (x.kind = 5) || decide (x.hour = 0))) := by rw [Hf.out, fineD, if_neg (by simp [Hk.out]), if_neg (by simp [Hk.out]), if_neg (by simp [Hk.out]), if_pos (by simp [Hk.out])]
        have Hf2 := Lib.hid hf
        clear hf Hf Hr2
        rcases Bool.eq_false_or_eq_true (inn x.of_ 1 1000000) with q1 | q1
        rotate_left
        · go_wp2_with (first | (go_at_call 71; refine (hin _ _ _ _).mono ?_; rintro e w3 ⟨rfl, rfl⟩) | fail)
          go_meet
          exact ⟨by rw [Hf2.out, q1]; rfl, rfl⟩
        rcases Decidable.em (x.hour = 0) with q2 | q2
        · have e2 : (x.hour == 0) = true := by simp [q2]
          have Q2 := Lib.hid q2
          clear q2
          go_wp2_with (first | (go_at_call 71; refine (hin _ _ _ _).mono ?_; rintro e w3 ⟨rfl, rfl⟩) | fail)
          go_meet
          exact ⟨by rw [Hf2.out, q1, Hk.out, Q2.out]; rfl, rfl⟩
        · have e2 : (x.hour == 0) = false := by simp [q2]
          have Q2 := Lib.hid q2
          clear q2
          go_wp2_with (first | (go_at_call 71; refine (hin _ _ _ _).mono ?_; rintro e w3 ⟨rfl, rfl⟩) | fail)
          go_meet
          exact ⟨by rw [Hf2.out, q1, Hk.out, decide_eq_false Q2.out]; rfl, rfl⟩
      case rest =>
        obtain ⟨rfl, hwc⟩ := hcut
        obtain ⟨w4, hw4⟩ : ∃ w4, w4 = wc := ⟨_, rfl⟩
        rw [← hw4] at hwc ⊢
        subst hwc
        clear hw4 cX kX
        obtain ⟨q, hq⟩ : ∃ q, q = decide (restD x = zeroDeed) := ⟨_, rfl⟩
        have heq := fun W => eqD (restD x) zeroDeed W
        rw [← hq] at heq
        rw [show restD x = (Deed.mk 0 0 0 0 x.loss x.pack x.from_ x.to_ x.share 0) from by unfold restD; simp [Hk.out, zeroDeed]] at heq
        dsimp only [zeroDeed] at heq
        have Hr3 : Hid (r = (f && q)) := Lib.hid (by rw [hq]; exact Hr2.out)
        have gg := guardD
        clear hq Hr2
        have cR := kR.cell
        have gR := kR.frozen
        have lR := kR.lt
        go_upto_region 22 with fail
        obtain ⟨w5, hw5⟩ : ∃ w5, w5 = (w4).setCell ⟨br, 10, none⟩ (.int .i64 0) := ⟨_, rfl⟩
        rw [← hw5]
        have kR : Blk w5 br #[.int .i64 0, .int .i64 0, .int .i64 0, .int .u8 0, .int .i64 x.loss, .int .i64 x.pack, .int .i64 x.from_, .int .i64 x.to_, .int .i64 x.share.num, .int .i64 x.share.den, .int .i64 0] 36 := hw5 ▸ (kR.setCell 10 (.int .i64 0))
        have hB : RowKit.Below w.heap.size w w5 := hw5 ▸ (hB.setCell (p := ⟨br, 10, none⟩) hbl _)
        clear hw5 cR gR lR
        cases f with
        | false =>
          go_wp2_with (fail)
          go_ret
          exact ⟨ret_bool (by rw [Hr3.out]; rfl), by repeat (first | (with_reducible assumption) | (with_reducible exact Below.refl _ _) | (with_reducible refine Below.alloc ?_ ?_ _) | (with_reducible refine Below.setCell ?_ ?_ _) | (with_reducible refine Below.drew ?_) | omega | (simp <;> omega) | (dsimp only; omega))⟩
        | true =>
          have cR := kR.cell
          have lR := kR.lt
          go_wp2_with (first | (refine wpList_load_mid rfl 36 _ rfl br 0 rfl [.int .i64 0, .int .i64 0, .int .i64 0, .int .u8 0, .int .i64 x.loss, .int .i64 x.pack, .int .i64 x.from_, .int .i64 x.to_, .int .i64 x.share.num, .int .i64 x.share.den, .int .i64 0] _ (kR.range 0 _ (fun j v h => by simpa using h)) Tryz.underlying36 rfl (by kernel_rfl) ?_) | fail)
          go_ret
          exact ⟨ret_bool (by rw [Hr3.out]; rfl), by repeat (first | (with_reducible assumption) | (with_reducible exact Below.refl _ _) | (with_reducible refine Below.alloc ?_ ?_ _) | (with_reducible refine Below.setCell ?_ ?_ _) | (with_reducible refine Below.drew ?_) | omega | (simp <;> omega) | (dsimp only; omega))⟩
    · skip
      skip
      have g1 : (x.kind == 1) = false := by simp; omega
      have g2 : (x.kind == 2) = false := by simp; omega
      have g3 : (x.kind == 3) = false := by simp; omega
      have g4 : (x.kind == 4) = false := by simp; omega
      have g5 : (x.kind == 5) = false := by simp; omega
      have g6 : (x.kind == 6) = false := by simp; omega
      have Hk := Lib.hid hk
      clear hk
      obtain rfl : f = false := by have hk := Hk.out; rw [Hf.out, fineD, if_neg (by omega), if_neg (by omega), if_neg (by omega), if_neg (by omega)]
      clear kX
      go_wp2_with (fail)
      go_ret
      exact ⟨ret_bool (by rw [Hr2.out]; rfl), hB⟩

theorem checkDeed_any (x : Deed) (w : World) : Calls Tryz.prog 29 #[aD x] w (Gives w (.int .i64 (if formedD x then 0 else 1))) := by
  have hf := fun W => formed_any x W
  have hB0 : RowKit.Below w.heap.size w (w.alloc (.cells #[.int .i64 x.id, .int .i64 x.known, .int .i64 x.hour, .int .u8 x.kind, .int .i64 x.loss, .int .i64 x.pack, .int .i64 x.from_, .int .i64 x.to_, .int .i64 x.share.num, .int .i64 x.share.den, .int .i64 x.of_] 36)) := (Below.refl _ w).alloc (Nat.le_refl _) _
  have kB := Blk.new w 36 #[.int .i64 x.id, .int .i64 x.known, .int .i64 x.hour, .int .u8 x.kind, .int .i64 x.loss, .int .i64 x.pack, .int .i64 x.from_, .int .i64 x.to_, .int .i64 x.share.num, .int .i64 x.share.den, .int .i64 x.of_]
  generalize formedD x = f at *
  cases f
  all_goals
    go_enter Tryz.func29, Tryz.ntmps29
    go_wp2_with (first | (refine wpList_load_mid rfl 36 _ rfl w.heap.size 0 rfl (cD x) _ (kB.range 0 _ (fun j v h => by simpa using h)) Tryz.underlying36 rfl (by kernel_rfl) ?_) | (go_at_call 79; refine (hf _).mono ?_; rintro e w3 ⟨rfl, hb⟩) | fail)
    go_ret
    exact ⟨rfl, hB0.trans (hb.mono hB0.size)⟩

end Go.Proofs.YtmeomhojbobpbaaGreatDoor
