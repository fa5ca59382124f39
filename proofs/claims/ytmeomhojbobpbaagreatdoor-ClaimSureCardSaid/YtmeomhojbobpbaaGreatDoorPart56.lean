import Derived.Test.YtmeomhojbobpbaaGreatDoorPart37
import Derived.Test.YtmeomhojbobpbaaGreatDoorPart20
import Derived.Test.YtmeomhojbobpbaaGreatDoorPart43
import Derived.BigQuiet
import Derived.Deep.CutRange
import Derived.Deep.DeepCutAuto
import Derived.Test.YtmeomhojbobpbaaGreatDoorPart40
/-
  Walks: laganlaw05.light; the reference's of and titled.
-/
namespace Go.Proofs.YtmeomhojbobpbaaGreatDoor
open Go.RowKit Lg Go.Sort Go.Shelf

theorem find_at7 {α : Type} {p : α → Bool} {l : List α} {k : Nat} {x : α} (h : (l.take k).find? p = none) (hx : l[k]? = some x) (hp : p x = true) : l.find? p = some x := by
  obtain ⟨h1, h2⟩ := List.getElem?_eq_some_iff.1 hx
  rw [← List.take_append_drop k l, List.find?_append, h, List.drop_eq_getElem_cons h1, h2, List.find?_cons, hp]
  rfl
theorem find_on7 {α : Type} {p : α → Bool} {l : List α} {k : Nat} {x : α} (h : (l.take k).find? p = none) (hx : l[k]? = some x) (hp : p x = false) : (l.take (k + 1)).find? p = none := by
  obtain ⟨h1, h2⟩ := List.getElem?_eq_some_iff.1 hx
  rw [List.take_succ_eq_append_getElem h1, h2, List.find?_append, h, List.find?_cons, hp]
  rfl

/-- Whether lists are few, and short. -/
def lightD (l : List (List Title)) : Bool := (l.all fun x => decide (x.length ≤ 50)) && (decide (l.length ≤ 12) || (decide (1000 < l.length) && decide (l.length ≤ 1002)))

theorem all_take {α : Type} (p : α → Bool) (l : List α) (k : Nat) (x : α) (h : l[k]? = some x) : (l.take (k + 1)).all p = ((l.take k).all p && p x) := by
  obtain ⟨h1, h2⟩ := List.getElem?_eq_some_iff.1 h
  rw [List.take_succ_eq_append_getElem h1, h2, List.all_append]
  simp

set_option maxRecDepth 100000 in
set_option maxHeartbeats 1600000 in
theorem light_any (a : Option Addr) (n cap : Nat) (xss : List (List Title)) (w : World) (hL : LstL w a n cap xss) :
    Calls Tryz.prog 39 #[.slice a n cap] w (Gives w (.bool (lightD xss))) := by
  obtain ⟨hlen, hle, hmax⟩ := hL.facts
  have hm : cap ≤ 9223372036854775807 := by unfold maxLen at hmax; omega
  obtain ⟨r, hr⟩ : ∃ r, r = lightD xss := ⟨_, rfl⟩
  rw [← hr]
  unfold lightD at hr
  rw [hlen] at hr
  have Hr := Lib.hid hr
  have Hlen := Lib.hid hlen
  have HL := Lib.hid hL
  clear hr hlen hL
  go_enter Tryz.func39, Tryz.ntmps39
  go_wp2_with (fail)
  go_loopw [7] (fun i wr => ∃ k : Nat, k ≤ n ∧ i = .int .i64 k ∧ RowKit.Below w.heap.size w wr ∧ Hid ((xss.take k).all (fun x => decide (x.length ≤ 50)) = true)) (fun i _ => n - (intOf i).toNat)
  case atStart => exact ⟨0, Nat.zero_le _, rfl, Below.refl _ _, Lib.hid (by simp)⟩
  case round =>
    obtain ⟨k, hk, rfl, hB, Ht⟩ := hrel
    by_cases hlt : k < n
    · have hltz : (k : Int) < (n : Int) := by omega
      obtain ⟨xs, hx⟩ : ∃ xs, xss[k]? = some xs := ⟨xss[k]'(by have := Hlen.out; omega), by simp⟩
      obtain ⟨b, off, rfl, hb, ai, m, c2, hci, hLi⟩ := HL.out.at_ k xs hx
      have hcw : wr.cell? ⟨b, off + k, none⟩ = some (.slice ai m c2) := (hB.cell (p := ⟨b, off + k, none⟩) hb).trans hci
      have hml := hLi.len
      have hst := all_take (fun x : List Title => decide (x.length ≤ 50)) xss k xs hx
      rw [Ht.out, hml] at hst
      by_cases h50 : 50 < m
      · have hz : (50 : Int) < (m : Int) := by omega
        have hrs : r = false := by
          rw [Hr.out]
          have : xss.all (fun x => decide (x.length ≤ 50)) = false := by
            rw [List.all_eq_false]
            exact ⟨xs, List.mem_of_getElem? hx, by rw [hml]; simp; omega⟩
          rw [this]; rfl
        subst hrs
        clear hst hx hci hLi hml Hr
        go_wp2_with (fail)
        go_ret
        exact ⟨rfl, hB⟩
      · have hz : ¬ (50 : Int) < (m : Int) := by omega
        have Hn := Lib.hid (show (xss.take (k + 1)).all (fun x => decide (x.length ≤ 50)) = true by rw [hst]; simp; omega)
        clear hst hx hci hLi hml Ht
        go_wp2_with (fail)
        go_roundw
        case rel => exact ⟨k + 1, by omega, by go_num, hB, Hn⟩
        case measure => simp [intOf]; omega
    · obtain rfl : k = n := by omega
      have hz : ¬ (k : Int) < (k : Int) := by omega
      have ht := Ht.out
      rw [List.take_of_length_le (by have := Hlen.out; omega)] at ht
      have hr := Hr.out
      rw [ht, Bool.true_and] at hr
      clear ht Ht Hr HL
      by_cases h12 : k ≤ 12
      · have q1 : decide ((k : Int) ≤ 12) = true := decide_eq_true (by omega)
        have q2 : (k : Int) ≤ 12 := by omega
        rw [decide_eq_true h12] at hr
        subst hr
        go_wp2_with (fail)
        go_ret
        exact ⟨rfl, hB⟩
      · have q1 : decide ((k : Int) ≤ 12) = false := decide_eq_false (by omega)
        have q2 : ¬ (k : Int) ≤ 12 := by omega
        rw [decide_eq_false h12, Bool.false_or] at hr
        by_cases h1 : 1000 < k
        · have q3 : decide ((1000 : Int) < (k : Int)) = true := decide_eq_true (by omega)
          have q4 : (1000 : Int) < (k : Int) := by omega
          rw [decide_eq_true h1, Bool.true_and] at hr
          by_cases h2 : k ≤ 1002
          · have q5 : decide ((k : Int) ≤ 1002) = true := decide_eq_true (by omega)
            have q6 : (k : Int) ≤ 1002 := by omega
            rw [decide_eq_true h2] at hr
            subst hr
            go_wp2_with (fail)
            go_ret
            exact ⟨rfl, hB⟩
          · have q5 : decide ((k : Int) ≤ 1002) = false := decide_eq_false (by omega)
            have q6 : ¬ (k : Int) ≤ 1002 := by omega
            rw [decide_eq_false h2] at hr
            subst hr
            go_wp2_with (fail)
            go_ret
            exact ⟨rfl, hB⟩
        · have q3 : decide ((1000 : Int) < (k : Int)) = false := decide_eq_false (by omega)
          have q4 : ¬ (1000 : Int) < (k : Int) := by omega
          rw [decide_eq_false h1, Bool.false_and] at hr
          subst hr
          go_wp2_with (fail)
          go_ret
          exact ⟨rfl, hB⟩

theorem rangeT_share {W : World} {b o : Nat} {x : Title} (h : W.rangeAt b o (cT x)) : W.rangeAt b (o + 1) (cF x.share) := by
  intro j v hv
  have := h (j + 1) v (by rcases j with _ | _ | j <;> simp at hv <;> subst hv <;> rfl)
  rwa [show o + (j + 1) = o + 1 + j by omega] at this

set_option maxRecDepth 100000 in
set_option maxHeartbeats 1600000 in
theorem of5_any (a : Option Addr) (n cap : Nat) (xs : List Title) (id : Int) (w : World) (hL : Lst w 3 cT a n cap xs) :
    Calls Tryz.prog 154 #[.slice a n cap, .int .i64 id] w (Gives w (.tuple #[aF (((xs.find? fun y => decide (y.party = id)).map Title.share).getD ⟨0, 0⟩), .bool (xs.find? fun y => decide (y.party = id)).isSome])) := by
  have hm : cap ≤ 9223372036854775807 := by have := hL.max; unfold maxLen at this; omega
  have hle := hL.le
  have hlen := Lib.hid hL.len
  obtain ⟨W0, hW0⟩ : ∃ W0, W0 = w.alloc (.cells #[.int .i64 0, .int .i64 0] 25) := ⟨_, rfl⟩
  have kZ : Blk W0 w.heap.size #[.int .i64 0, .int .i64 0] 25 := hW0 ▸ Blk.new w _ _
  have hB0 : RowKit.Below w.heap.size w W0 := hW0 ▸ (Below.refl _ w).alloc (Nat.le_refl _) _
  have hL0 := hL.below hB0
  obtain ⟨r, hr⟩ : ∃ r, r = xs.find? (fun y => decide (y.party = id)) := ⟨_, rfl⟩
  rw [← hr]
  have Hr := Lib.hid hr
  clear hr hL
  go_enter Tryz.func154, Tryz.ntmps154
  go_upto_region 1 with fail
  rw [← hW0]
  clear hW0
  obtain ⟨bz, hbz⟩ : ∃ b, b = w.heap.size := ⟨_, rfl⟩
  have Hge := Lib.hid (Nat.le_of_eq hbz.symm)
  rw [← hbz] at kZ ⊢
  clear hbz
  go_wp2_with (fail)
  go_loopw [6] (fun i wr => ∃ k : Nat, k ≤ n ∧ i = .int .i64 k ∧ RowKit.Below W0.heap.size W0 wr ∧ Hid ((xs.take k).find? (fun y => decide (y.party = id)) = none)) (fun i _ => n - (intOf i).toNat)
  case atStart => exact ⟨0, Nat.zero_le _, rfl, Below.refl _ _, Lib.hid (by simp)⟩
  case round =>
    obtain ⟨k, hk, rfl, hB, Ht⟩ := hrel
    have kZr := kZ.below' hB
    have hBw := hB0.trans (hB.mono hB0.size)
    by_cases hlt : k < n
    · have hltz : (k : Int) < (n : Int) := by omega
      obtain ⟨x, hx⟩ : ∃ x, xs[k]? = some x := ⟨xs[k]'(by rw [hlen.out]; exact hlt), by simp⟩
      obtain ⟨b, off, rfl, hb, hr⟩ := hL0.at_ k x hx
      have hr' := rangeAt_below hB hb hr
      have m0 := hr' 0 _ rfl
      simp only [Nat.add_zero] at m0
      have hsh := rangeT_share hr'
      by_cases e : x.party = id
      · have g : (x.party == id) = true := by simpa using e
        have hf := find_at7 Ht.out hx (by simpa using e)
        have hrs : r = some x := Hr.out.trans hf
        subst hrs
        have eZ := kZr.cell
        have gZ := kZr.frozen
        have lZ := kZr.lt
        clear hx hr Ht Hr e hf hr'
        go_wp2_with (first
          | (refine wpList_load_mid rfl 25 (.tmp 23) rfl b (off + k * 3 + 1) rfl (cF x.share) _ hsh Tryz.underlying25 rfl (by kernel_rfl) ?_)
          | fail)
        rw [putF]
        have kF : Blk (wr.setCells bz 0 (cF x.share)) bz (cF x.share).toArray 25 := kZr.setCells 0 (cF x.share)
        (try simp only [Exit.inBlock, Exit.then]); refine bodyPost_ret (results_cell_tmp rfl _ _ bz 25 (cF x.share) _ rfl kF Tryz.underlying25 rfl (by kernel_rfl)) rfl ?_
        exact ⟨rfl, below_setCells hBw Hge.out 0 _⟩
      · have g : (x.party == id) = false := by simpa using e
        have Hn := Lib.hid (find_on7 Ht.out hx (by simpa using e))
        clear hx hr hr' Ht Hr e hsh
        go_wp2_with (fail)
        go_roundw
        case rel => exact ⟨k + 1, by omega, by go_num, hB, Hn⟩
        case measure => simp [intOf]; omega
    · obtain rfl : k = n := by omega
      have hn : r = none := by
        have h := Ht.out
        rw [List.take_of_length_le (by rw [hlen.out]; exact Nat.le_refl _)] at h
        exact Hr.out.trans h
      subst hn
      have hz : ¬ (k : Int) < (k : Int) := by omega
      have eZ := kZr.cell
      have gZ := kZr.frozen
      have lZ := kZr.lt
      clear Ht Hr
      go_wp2_with (fail)
      rw [putF0]
      have kF : Blk (wr.setCells bz 0 (cF ⟨0, 0⟩)) bz (cF ⟨0, 0⟩).toArray 25 := kZr.setCells 0 (cF ⟨0, 0⟩)
      (try simp only [Exit.inBlock, Exit.then]); refine bodyPost_ret (results_cell_tmp rfl _ _ bz 25 (cF ⟨0, 0⟩) _ rfl kF Tryz.underlying25 rfl (by kernel_rfl)) rfl ?_
      exact ⟨rfl, below_setCells hBw Hge.out 0 _⟩

end Go.Proofs.YtmeomhojbobpbaaGreatDoor

/-
  Walk: the reference's titled.
-/
namespace Go.Proofs.YtmeomhojbobpbaaGreatDoor
open Go.RowKit Lg Go.Sort Go.Shelf

theorem ret5 {a b : Bool} (h : a = b) : Value.bool a = Value.bool b := by rw [h]

set_option maxRecDepth 100000 in
set_option maxHeartbeats 6400000 in
theorem titled5_any (a : Option Addr) (n cap : Nat) (xss : List (List Title)) (w : World) (hL : LstL w a n cap xss) :
    Calls Tryz.prog 102 #[.slice a n cap] w (Gives w (.int .i64 (endsE xss))) := by
  obtain ⟨hlen, hle, hmax⟩ := hL.facts
  have hm : cap ≤ 9223372036854775807 := by unfold maxLen at hmax; omega
  by_cases hn : 1000 < n
  · have he : endsE xss = 2 := by unfold endsE; rw [if_pos (by omega)]
    rw [he]
    have hz : (1000 : Int) < (n : Int) := by omega
    clear hL he hlen
    go_enter Tryz.func102, Tryz.ntmps102
    go_wp2
    go_ret
    exact ⟨rfl, Below.refl _ _⟩
  have hz : ¬ (1000 : Int) < (n : Int) := by omega
  obtain ⟨r, hr⟩ : ∃ r, r = endsE xss := ⟨_, rfl⟩
  rw [← hr]
  have Hr := Lib.hid hr
  have Hlen := Lib.hid hlen
  have HL := Lib.hid hL
  clear hr hL hlen
  go_enter Tryz.func102, Tryz.ntmps102
  go_wp2_with (fail)
  go_loopw [3] (fun s3 wr => ∃ i : Nat, i ≤ n ∧ s3 = .int .i64 i ∧ Hid (∀ xs ∈ xss.take i, listOk xs = true) ∧ RowKit.Below w.heap.size w wr) (fun s3 _ => n - (intOf s3).toNat)
  case atStart => exact ⟨0, Nat.zero_le _, rfl, Lib.hid (by simp), Below.refl _ _⟩
  case round =>
    obtain ⟨i, hi, rfl, HO, hB⟩ := hrel
    by_cases hlt : i < n
    · obtain ⟨xs, hx⟩ : ∃ xs, xss[i]? = some xs := ⟨xss[i]'(by have := Hlen.out; omega), by simp⟩
      obtain ⟨b, off, rfl, hb, ai, m, c2, hci, hLi⟩ := HL.out.at_ i xs hx
      have HCi := Lib.hid (fun W' (h : RowKit.Below w.heap.size w W') => (h.cell (p := ⟨b, off + i, none⟩) hb).trans hci)
      have Hml := Lib.hid hLi.len
      have hmle := hLi.le
      have hmm2 : c2 ≤ 9223372036854775807 := by have := hLi.max; unfold maxLen at this; omega
      have hlz : (i : Int) < (n : Int) := by omega
      have Hx := Lib.hid hx
      have HLi := Lib.hid hLi
      clear hx hci hLi
      obtain ⟨wo, hwo⟩ : ∃ wo, wo = wr := ⟨_, rfl⟩
      subst hwo
      go_wp2_with (fail)
      go_loopw [4] (fun s4 wr => ∃ k : Nat, k ≤ m ∧ s4 = .int .i64 k ∧ Hid (∀ q t, q < k → xs[q]? = some t → okAt xs q t = true) ∧ RowKit.Below w.heap.size w wr) (fun s4 _ => m - (intOf s4).toNat)
      case atStart => exact ⟨0, Nat.zero_le _, rfl, Lib.hid (fun q t h => absurd h (Nat.not_lt_zero _)), hB⟩
      case round =>
        clear hB
        obtain ⟨k, hk, rfl, HQ, hB⟩ := hrel
        have hcw := HCi.out _ hB
        by_cases hkm : k < m
        · obtain ⟨x, hx⟩ : ∃ x, xs[k]? = some x := ⟨xs[k]'(by have := Hml.out; omega), by simp⟩
          obtain ⟨b2, off2, rfl, hb2, hr2⟩ := HLi.out.at_ k x hx
          have hr := rangeAt_below hB hb2 hr2
          have hkz0 : (k : Int) < (m : Int) := by omega
          have Hxk := Lib.hid hx
          obtain ⟨W1, hW1⟩ : ∃ W1, W1 = wr.alloc (.cells (cT x).toArray 66) := ⟨_, rfl⟩
          have kX : Blk W1 wr.heap.size (cT x).toArray 66 := hW1 ▸ Blk.new _ _ _
          have hBr1 : RowKit.Below wr.heap.size wr W1 := hW1 ▸ (Below.refl _ wr).alloc (Nat.le_refl _) _
          clear hx hr2
          go_upto_region 10 with (first
            | (refine wpList_load_mid rfl 66 (.tmp 30) rfl b2 (off2 + k * 3) rfl (cT x) _ hr Tryz.underlying66 rfl (by kernel_rfl) ?_; clear hr)
            | fail)
          rw [← hW1]
          clear hW1 hcw
          obtain ⟨bx, hbx⟩ : ∃ b, b = wr.heap.size := ⟨_, rfl⟩
          rw [← hbx] at kX ⊢
          clear hbx
          have hb1 : RowKit.Below w.heap.size w W1 := hB.trans (hBr1.mono hB.size)
          clear hB hBr1
          have hv := fun W => valid5_any x.share W
          obtain ⟨vd, hvd⟩ : ∃ vd, vd = validF x.share := ⟨_, rfl⟩
          rw [← hvd] at hv
          have Hvd := Lib.hid hvd
          clear hvd
          have cX := kX.cell
          go_upto_region 11 with (first | (go_at_call 70; (with_reducible refine (hv _).mono ?_); rintro e w2 ⟨rfl, hB2⟩) | fail)
          have kX2 := kX.below' hB2
          have hb2' := hb1.trans (hB2.mono hb1.size)
          clear cX kX hB2 hb1 hv
          obtain ⟨bad, hbad⟩ : ∃ bad, bad = !okAt xs k x := ⟨_, rfl⟩
          have Hok0 := Lib.hid hbad
          go_cut [75] (fun c W' => c = .bool bad ∧ RowKit.Below w2.heap.size w2 W')
          case first =>
            have hok : bad = !((inn x.party 0 40 && vd && decide (0 < x.share.num) && decide (x.share.num ≤ x.share.den)) && (decide (k = 0) || decide ((xs.getD (k - 1) x).party < x.party))) := by rw [hbad, Hvd.out]; rfl
            have Hok := Lib.hid hok
            clear hbad hok Hok0 HQ HO Hvd
            have c0 := cell_regrown (show w2.cell? ⟨bx, 0, none⟩ = some (.int .i64 x.party) from kX2.cell 0)
            have c1 := cell_regrown (show w2.cell? ⟨bx, 1, none⟩ = some (.int .i64 x.share.num) from kX2.cell 1)
            have c2' := cell_regrown (show w2.cell? ⟨bx, 2, none⟩ = some (.int .i64 x.share.den) from kX2.cell 2)
            have c3 := cell_regrown (HCi.out w2 hb2')
            obtain ⟨ib, hib⟩ : ∃ ib, ib = inn x.party 0 40 := ⟨_, rfl⟩
            rw [← hib] at Hok
            have cF := regrown_call (w := w2) (v := .bool ib) (fun W' _ => (withinr5_any x.party 0 40 W').mono fun e w' h => (⟨by rw [h.1, ← hib], h.2 ▸ Below.refl _ _⟩ : Gives W' (.bool ib) e w'))
            clear hib
            cases vd with
            | false =>
              refine wp_region_quiet_below (by kernel_rfl) (by kernel_rfl) ?_
              repeat (go_big_quiet_step (with_reducible exact cF _ _))
              refine wpQuiet_nil ?_
              intro _ hw'
              obtain ⟨⟨dq, osq⟩, hw''⟩ := hw'
              subst hw''
              go_wp2_with fail
              go_meet
              exact ⟨ret5 (by rw [Hok.out]; simp), below_regrown w2 dq osq⟩
            | true =>
            by_cases q3 : 0 < x.share.num
            rotate_left
            · have e3 : decide (x.share.num ≤ 0) = true := decide_eq_true (by omega)
              have e3' : x.share.num ≤ 0 := by omega
              have d3 : decide (0 < x.share.num) = false := decide_eq_false q3
              rw [d3] at Hok
              clear q3 d3
              refine wp_region_quiet_below (by kernel_rfl) (by kernel_rfl) ?_
              repeat (go_big_quiet_step (with_reducible exact cF _ _))
              refine wpQuiet_nil ?_
              intro _ hw'
              obtain ⟨⟨dq, osq⟩, hw''⟩ := hw'
              subst hw''
              go_wp2_with fail
              go_meet
              exact ⟨ret5 (by rw [Hok.out]; simp), below_regrown w2 dq osq⟩
            have e3 : decide (x.share.num ≤ 0) = false := decide_eq_false (by omega)
            have e3' : ¬ x.share.num ≤ 0 := by omega
            rw [decide_eq_true q3] at Hok
            clear q3
            by_cases q4 : x.share.num ≤ x.share.den
            rotate_left
            · have e4 : decide (x.share.den < x.share.num) = true := decide_eq_true (by omega)
              have e4' : x.share.den < x.share.num := by omega
              rw [decide_eq_false q4] at Hok
              clear q4
              refine wp_region_quiet_below (by kernel_rfl) (by kernel_rfl) ?_
              repeat (go_big_quiet_step (with_reducible exact cF _ _))
              refine wpQuiet_nil ?_
              intro _ hw'
              obtain ⟨⟨dq, osq⟩, hw''⟩ := hw'
              subst hw''
              go_wp2_with fail
              go_meet
              exact ⟨ret5 (by rw [Hok.out]; simp), below_regrown w2 dq osq⟩
            have e4 : decide (x.share.den < x.share.num) = false := decide_eq_false (by omega)
            have e4' : ¬ x.share.den < x.share.num := by omega
            rw [decide_eq_true q4] at Hok
            clear q4
            cases ib with
            | false =>
              refine wp_region_quiet_below (by kernel_rfl) (by kernel_rfl) ?_
              repeat (go_big_quiet_step (with_reducible exact cF _ _))
              refine wpQuiet_nil ?_
              intro _ hw'
              obtain ⟨⟨dq, osq⟩, hw''⟩ := hw'
              subst hw''
              go_wp2_with fail
              go_meet
              exact ⟨ret5 (by rw [Hok.out]; simp), below_regrown w2 dq osq⟩
            | true =>
            by_cases hk0 : k = 0
            · have e5 : decide ((0 : Int) < (k : Int)) = false := decide_eq_false (by omega)
              have e5' : ¬ (0 : Int) < (k : Int) := by omega
              have e5n : decide (0 < k) = false := decide_eq_false (by omega)
              have e5m : ¬ 0 < k := by omega
              rw [decide_eq_true hk0] at Hok
              clear hk0
              refine wp_region_quiet_below (by kernel_rfl) (by kernel_rfl) ?_
              repeat (go_big_quiet_step (with_reducible exact cF _ _))
              refine wpQuiet_nil ?_
              intro _ hw'
              obtain ⟨⟨dq, osq⟩, hw''⟩ := hw'
              subst hw''
              go_wp2_with fail
              go_meet
              exact ⟨ret5 (by rw [Hok.out]; simp), below_regrown w2 dq osq⟩
            have e5 : decide ((0 : Int) < (k : Int)) = true := decide_eq_true (by omega)
            have e5' : (0 : Int) < (k : Int) := by omega
            have e5n : decide (0 < k) = true := decide_eq_true (by omega)
            have e5m : 0 < k := by omega
            obtain ⟨y, hy⟩ : ∃ y, xs[k - 1]? = some y := ⟨xs[k - 1]'(by have := Hml.out; omega), by simp⟩
            obtain ⟨b3, off3, hae, hb3, hr3⟩ := HLi.out.at_ (k - 1) y hy
            obtain ⟨rfl, rfl⟩ : b2 = b3 ∧ off2 = off3 := by injection hae with e; injection e with e1 e2; exact ⟨e1, e2⟩
            have hgd : xs.getD (k - 1) x = y := by rw [List.getD_eq_getElem?_getD, hy]; rfl
            have c4 := cell_regrown (rangeAt_below hb2' hb3 hr3 0 _ rfl)
            simp only [Nat.add_zero] at c4
            rw [hgd, decide_eq_false hk0] at Hok
            have u1 : IntKind.i64.wrap ((k : Int) - 1) = (k : Int) - 1 := by rw [IntKind.wrap_i64]; omega
            have u2 : (0 : Int) ≤ (k : Int) - 1 := by omega
            have u3 : (k : Int) - 1 < (m : Int) := by omega
            have u4 : ((k : Int) - 1).toNat = k - 1 := by omega
            clear hk0 hy hae hr3 hgd
            by_cases q6 : y.party < x.party
            · have e6 : decide (x.party ≤ y.party) = false := decide_eq_false (by omega)
              have e6' : ¬ x.party ≤ y.party := by omega
              rw [decide_eq_true q6] at Hok
              clear q6
              refine wp_region_quiet_below (by kernel_rfl) (by kernel_rfl) ?_
              repeat (go_big_quiet_step (with_reducible exact cF _ _))
              refine wpQuiet_nil ?_
              intro _ hw'
              obtain ⟨⟨dq, osq⟩, hw''⟩ := hw'
              subst hw''
              go_wp2_with fail
              go_meet
              exact ⟨ret5 (by rw [Hok.out]; simp), below_regrown w2 dq osq⟩
            · have e6 : decide (x.party ≤ y.party) = true := decide_eq_true (by omega)
              have e6' : x.party ≤ y.party := by omega
              rw [decide_eq_false q6] at Hok
              clear q6
              refine wp_region_quiet_below (by kernel_rfl) (by kernel_rfl) ?_
              repeat (go_big_quiet_step (with_reducible exact cF _ _))
              refine wpQuiet_nil ?_
              intro _ hw'
              obtain ⟨⟨dq, osq⟩, hw''⟩ := hw'
              subst hw''
              go_wp2_with fail
              go_meet
              exact ⟨ret5 (by rw [Hok.out]; simp), below_regrown w2 dq osq⟩
          obtain ⟨rfl, hc0⟩ := hcut
          obtain ⟨w4, hw4⟩ : ∃ x, x = wc := ⟨_, rfl⟩
          subst hw4
          have hb4 := hb2'.trans (hc0.mono hb2'.size)
          clear hc0 kX2 Hvd hbad
          cases bad with
          | true =>
            have he : r = 1 := by
              rw [Hr.out]
              refine endsE_bad (by have := Hlen.out; omega) Hx.out Hxk.out ?_
              have := Hok0.out
              cases h : okAt xs k x with
              | false => rfl
              | true => rw [h] at this; cases this
            subst he
            clear Hr HQ HO
            go_wp2_with (fail)
            go_ret
            exact ⟨rfl, hb4⟩
          | false =>
            have hokx : okAt xs k x = true := by
              have := Hok0.out
              cases h : okAt xs k x with
              | false => rw [h] at this; cases this
              | true => rfl
            have HQ2 := Lib.hid (show ∀ q t, q < k + 1 → xs[q]? = some t → okAt xs q t = true from fun q t hq ht => by
              rcases Nat.lt_or_ge q k with h | h
              · exact HQ.out q t h ht
              · obtain rfl : q = k := by omega
                rw [Hxk.out] at ht
                obtain rfl := Option.some.inj ht
                exact hokx)
            clear hokx HQ Hok0
            go_wp2_with (fail)
            go_roundw
            case rel => exact ⟨k + 1, by omega, by go_num, HQ2, hb4⟩
            case measure => simp [intOf]; omega
        · obtain rfl : k = m := by omega
          have hkz0 : ¬ (k : Int) < (k : Int) := by omega
          have hlo : listOk xs = true := (listOk_at xs).2 (fun q t ht => HQ.out q t (by have := (List.getElem?_eq_some_iff.1 ht).1; have := Hml.out; omega) ht)
          have HO2 := Lib.hid (show ∀ ys ∈ xss.take (i + 1), listOk ys = true from fun ys hy => by
            obtain ⟨h1, h2⟩ := List.getElem?_eq_some_iff.1 Hx.out
            rw [List.take_succ_eq_append_getElem h1, h2] at hy
            rcases List.mem_append.1 hy with hy | hy
            · exact HO.out ys hy
            · rw [List.mem_singleton.1 hy]; exact hlo)
          clear hlo HQ HO
          go_wp2_with (fail)
          go_roundw
          case rel => exact ⟨i + 1, by omega, by go_num, HO2, hB⟩
          case measure => simp [intOf]; omega
    · obtain rfl : i = n := by omega
      have hlz : ¬ (i : Int) < (i : Int) := by omega
      have he : r = 0 := by
        rw [Hr.out]
        refine endsE_good (by have := Hlen.out; omega) (fun xs hx => HO.out xs ?_)
        rw [List.take_of_length_le (by have := Hlen.out; omega)]
        exact hx
      subst he
      clear Hr HO
      go_wp2_with (fail)
      go_ret
      exact ⟨rfl, hB⟩

end Go.Proofs.YtmeomhojbobpbaaGreatDoor

/-
  Walk: the reference's outmost.
-/
namespace Go.Proofs.YtmeomhojbobpbaaGreatDoor
open Go.RowKit Lg Go.Sort Go.Shelf

/-- The least (way -1) or the greatest (way 1) of shares. -/
def bestW (way : Int) (l : List Frac) : Frac := l.tail.foldl (fun m f => if cmpF f m = way then f else m) (l.headD ⟨0, 0⟩)

theorem bestW_snoc (way : Int) (l : List Frac) (f : Frac) : bestW way (l ++ [f]) = if l.length = 0 then f else if cmpF f (bestW way l) = way then f else bestW way l := by
  cases l with
  | nil => rfl
  | cons x r =>
    rw [if_neg (by simp)]
    unfold bestW
    simp [List.foldl_append]

theorem cmp_small5 (a b : Frac) : -1 ≤ cmpF a b ∧ cmpF a b ≤ 1 := by
  unfold cmpF
  (repeat' split) <;> omega

theorem bestW_min (l : List Frac) : bestW (-1) l = minC l := by
  unfold bestW minC
  congr 1
  funext m f
  have := cmp_small5 f m
  by_cases h : cmpF f m < 0
  · rw [if_pos h, if_pos (by omega)]
  · rw [if_neg h, if_neg (by omega)]
theorem bestW_max (l : List Frac) : bestW 1 l = maxC l := by
  unfold bestW maxC
  congr 1
  funext m f
  have := cmp_small5 f m
  by_cases h : 0 < cmpF f m
  · rw [if_pos h, if_pos (by omega)]
  · rw [if_neg h, if_neg (by omega)]

/-- What outmost says of a party. -/
def outG (way : Int) (xss : List (List Title)) (p : Nat) : Option (Title × Int) := if 1 ≤ (sharesAt xss (p : Int)).length then some (⟨(p : Int), bestW way (sharesAt xss (p : Int))⟩, ((sharesAt xss (p : Int)).length : Int)) else none
def outP (way : Int) (xss : List (List Title)) (P : Nat) : List (Title × Int) := (List.range P).filterMap (outG way xss)

theorem outP_snoc (way : Int) (xss : List (List Title)) (P : Nat) : outP way xss (P + 1) = outP way xss P ++ (outG way xss P).toList := by
  unfold outP
  rw [List.range_succ, List.filterMap_append]
  cases h : outG way xss P <;> simp [h]

theorem outP_len (way : Int) (xss : List (List Title)) (P : Nat) : (outP way xss P).length ≤ P := by
  unfold outP
  have := List.length_filterMap_le (outG way xss) (List.range P)
  rwa [List.length_range] at this

theorem shares_snoc (xss : List (List Title)) (i : Nat) (xs : List Title) (p : Int) (h : xss[i]? = some xs) : sharesAt (xss.take (i + 1)) p = sharesAt (xss.take i) p ++ ((xs.find? fun x => decide (x.party = p)).map Title.share).toList := by
  obtain ⟨h1, h2⟩ := List.getElem?_eq_some_iff.1 h
  unfold sharesAt
  rw [List.take_succ_eq_append_getElem h1, h2, List.filterMap_append]
  cases h3 : xs.find? (fun x => decide (x.party = p)) <;> simp [h3]

theorem shares_len (xss : List (List Title)) (p : Int) : (sharesAt xss p).length ≤ xss.length := List.length_filterMap_le _ _

theorem own_ne5 {W : World} {b b' k k' n n' : Nat} {e e' : TypeId} {v v' : Value} {xs xs' : List Value} (h : W.ownsRow b e k v n xs) (h' : W.ownsRow b' e' k' v' n' xs') (hne : e ≠ e') : v.ownBlock = none ∨ v.ownBlock ≠ v'.ownBlock := by
  rcases h.2 with ⟨rfl, _⟩ | ⟨g, cap, cur, rfl, _, hg, _⟩
  · exact .inl rfl
  rcases h'.2 with ⟨rfl, _⟩ | ⟨g', cap', cur', rfl, _, hg', _⟩
  · exact .inr (by simp [Value.ownBlock])
  refine .inr fun e => hne ?_
  simp only [Value.ownBlock, Option.some.injEq] at e
  subst e
  rw [hg] at hg'
  simp at hg'
  exact hg'.2

theorem own_ne_blk {W : World} {b k n B : Nat} {e t : TypeId} {v : Value} {xs : List Value} {cs : Array Value} (h : W.ownsRow b e k v n xs) (h' : Blk W B cs t) (hne : e ≠ t) : v.ownBlock = none ∨ v.ownBlock ≠ some B := by
  rcases h.2 with ⟨rfl, _⟩ | ⟨g, cap, cur, rfl, _, hg, _⟩
  · exact .inl rfl
  refine .inr fun e => hne ?_
  simp only [Value.ownBlock, Option.some.injEq] at e
  subst e
  unfold Blk at h'
  rw [hg] at h'
  simp at h'
  exact h'.2

/-- What outmost hands back. -/
def OutRes (way : Int) (xss : List (List Title)) (w : World) (e : Ending) (w' : World) : Prop :=
  ∃ v1 v2, e = .returned (.tuple #[v1, v2]) ∧ w'.ownsRow w.heap.size 66 3 v1 (outP way xss 41).length (((outP way xss 41).map Prod.fst).flatMap cT) ∧ w'.ownsRow w.heap.size 3 1 v2 (outP way xss 41).length (((outP way xss 41).map Prod.snd).flatMap cI) ∧ RowKit.Below w.heap.size w w'

set_option maxRecDepth 100000 in
set_option maxHeartbeats 12800000 in
theorem outmost5_any (a : Option Addr) (n cap : Nat) (xss : List (List Title)) (way : Int) (w : World) (hL : LstL w a n cap xss) (hn : n ≤ 1000) :
    Calls Tryz.prog 103 #[.slice a n cap, .int .i64 way] w (OutRes way xss w) := by
  obtain ⟨hlen, hle, hmax⟩ := hL.facts
  have hm : cap ≤ 9223372036854775807 := by unfold maxLen at hmax; omega
  obtain ⟨i0, hi0, hz0, hz1, hz2⟩ := info_parts infoI
  obtain ⟨i1, hi1, hy0, hy1, hy2⟩ := info_parts infoT
  have Hlen := Lib.hid hlen
  have HL := Lib.hid hL
  clear hL hlen
  go_enter Tryz.func103, Tryz.ntmps103
  go_wp2_with (fail)
  go_loopw [6, 7, 8] (fun o m p wr => ∃ P : Nat, P ≤ 41 ∧ p = .int .i64 P ∧ wr.ownsRow w.heap.size 66 3 o (outP way xss P).length (((outP way xss P).map Prod.fst).flatMap cT) ∧ wr.ownsRow w.heap.size 3 1 m (outP way xss P).length (((outP way xss P).map Prod.snd).flatMap cI) ∧ RowKit.Below w.heap.size w wr) (fun _ _ p _ => 41 - (intOf p).toNat)
  case atStart => exact ⟨0, by omega, rfl, ⟨by simp [outP], .inl ⟨rfl, rfl⟩⟩, ⟨by simp [outP], .inl ⟨rfl, rfl⟩⟩, Below.refl _ _⟩
  case round =>
    obtain ⟨P, hP, rfl, ho, hq, hB⟩ := hrel
    by_cases hP41 : P < 41
    rotate_left
    · obtain rfl : P = 41 := by omega
      clear HL Hlen
      go_wp2_with (fail)
      go_ret2
      exact ⟨_, _, rfl, ho, hq, hB⟩
    have hPz : (P : Int) ≤ 40 := by omega
    have hol := outP_len way xss P
    obtain ⟨q0, hq0⟩ : ∃ q0, q0 = outP way xss P := ⟨_, rfl⟩
    have Hq0 := Lib.hid hq0
    rw [← hq0] at ho hq hol
    clear hq0
    obtain ⟨W1, hW1⟩ : ∃ W1, W1 = wr.alloc (.cells #[.int .i64 0, .int .i64 0] 25) := ⟨_, rfl⟩
    have kB : Blk W1 wr.heap.size (cF (bestW way (sharesAt (xss.take 0) (P : Int)))).toArray 25 := hW1 ▸ Blk.new _ _ _
    have ho1 := ho.alloc (.cells #[.int .i64 0, .int .i64 0] 25)
    have hq1 := hq.alloc (.cells #[.int .i64 0, .int .i64 0] 25)
    have hB1 := hB.alloc hB.size (.cells #[.int .i64 0, .int .i64 0] 25)
    rw [← hW1] at ho1 hq1 hB1
    have hBge := hB.size
    clear ho hq hB
    go_upto_region 7 with fail
    rw [← hW1]
    clear hW1
    obtain ⟨B, hBe⟩ : ∃ B, B = wr.heap.size := ⟨_, rfl⟩
    rw [← hBe] at kB hBge ⊢
    clear hBe
    go_wp2_with (fail)
    go_loopw [10, 11] (fun c s wr2 => ∃ i : Nat, i ≤ n ∧ s = .int .i64 i ∧ c = .int .i64 ((sharesAt (xss.take i) (P : Int)).length : Int) ∧ Blk wr2 B (cF (bestW way (sharesAt (xss.take i) (P : Int)))).toArray 25 ∧ wr2.ownsRow w.heap.size 66 3 _ q0.length ((q0.map Prod.fst).flatMap cT) ∧ wr2.ownsRow w.heap.size 3 1 _ q0.length ((q0.map Prod.snd).flatMap cI) ∧ RowKit.Below w.heap.size w wr2) (fun _ s _ => n - (intOf s).toNat)
    case atStart => exact ⟨0, Nat.zero_le _, rfl, rfl, kB, ho1, hq1, hB1⟩
    case round =>
      clear kB ho1 hq1 hB1
      obtain ⟨i, hi, rfl, rfl, kB, ho, hq, hB⟩ := hrel
      obtain ⟨ls, hls⟩ : ∃ ls, ls = sharesAt (xss.take i) (P : Int) := ⟨_, rfl⟩
      rw [← hls] at kB ⊢
      by_cases hlt : i < n
      · obtain ⟨xs, hx⟩ : ∃ xs, xss[i]? = some xs := ⟨xss[i]'(by have := Hlen.out; omega), by simp⟩
        obtain ⟨b, off, rfl, hb, ai, m, c2, hci, hLi⟩ := HL.out.at_ i xs hx
        have hcw := (hB.cell (p := ⟨b, off + i, none⟩) hb).trans hci
        have hlz : (i : Int) < (n : Int) := by omega
        have hsn := shares_snoc xss i xs (P : Int) hx
        rw [← hls] at hsn
        have hof := of5_any ai m c2 xs (P : Int) _ (hLi.below hB)
        rw [show (xs.find? fun y => decide (y.party = (P : Int))).isSome = ((xs.find? fun y => decide (y.party = (P : Int))).map Title.share).isSome from (Option.isSome_map).symm] at hof
        obtain ⟨fo, hfo⟩ : ∃ fo, fo = (xs.find? fun y => decide (y.party = (P : Int))).map Title.share := ⟨_, rfl⟩
        rw [← hfo] at hof hsn
        have hlsl : ls.length ≤ 1000 := by
          rw [hls]
          have h1 := shares_len (xss.take i) (P : Int)
          rw [List.length_take] at h1
          omega
        have Hls := Lib.hid hls
        clear hfo hx hci hLi hls
        obtain ⟨best, hbest⟩ : ∃ best, best = bestW way ls := ⟨_, rfl⟩
        rw [← hbest] at kB
        have Hbest := Lib.hid hbest
        clear hbest
        cases fo with
        | none =>
          rw [Option.toList_none, List.append_nil] at hsn
          have Hsn := Lib.hid hsn
          dsimp only [Option.getD, Option.isSome] at hof
          clear hsn
          go_wp2_with (fail)
          refine hof.mono ?_
          clear hof hcw
          rintro e w3 ⟨rfl, hB3⟩
          have hb3 := (hB.trans (hB3.mono hB.size))
          have ho3 := (own_below ho hB3).alloc (.cells #[.int .i64 0, .int .i64 0] 25)
          have hq3 := (own_below hq hB3).alloc (.cells #[.int .i64 0, .int .i64 0] 25)
          have kB3 := (kB.below' hB3).alloc (.cells #[.int .i64 0, .int .i64 0] 25)
          have hb4 := hb3.alloc hb3.size (.cells #[.int .i64 0, .int .i64 0] 25)
          have R1 := Lib.hid ho3
          have R2 := Lib.hid hq3
          have R3 := Lib.hid kB3
          have R4 := Lib.hid hb4
          clear ho hq hB hB3 hb3 ho3 hq3 kB3 hb4 kB
          go_wp2_with (fail)
          go_roundw
          case rel => exact ⟨i + 1, by omega, by go_num, by rw [Hsn.out], by rw [Hsn.out, ← Hbest.out]; exact R3.out, R1.out, R2.out, R4.out⟩
          case measure => simp [intOf]; omega
        | some x =>
          rw [Option.toList_some] at hsn
          have hsl : ((sharesAt (xss.take (i + 1)) (P : Int)).length : Int) = (ls.length : Int) + 1 := by rw [hsn, List.length_append]; simp
          have hbs := bestW_snoc way ls x
          rw [← hsn, ← Hbest.out] at hbs
          have Hsl := Lib.hid hsl
          have Hbs := Lib.hid hbs
          dsimp only [Option.getD, Option.isSome] at hof
          clear hsn hsl hbs
          go_wp2_with (fail)
          refine hof.mono ?_
          clear hof hcw
          rintro e w3 ⟨rfl, hB3⟩
          obtain ⟨w4, hw4⟩ : ∃ w4, w4 = w3.alloc (.cells #[.int .i64 x.num, .int .i64 x.den] 25) := ⟨_, rfl⟩
          have hb3 := (hB.trans (hB3.mono hB.size))
          have ho4 := (own_below ho hB3).alloc (.cells #[.int .i64 x.num, .int .i64 x.den] 25)
          have hq4 := (own_below hq hB3).alloc (.cells #[.int .i64 x.num, .int .i64 x.den] 25)
          have kB4 := (kB.below' hB3).alloc (.cells #[.int .i64 x.num, .int .i64 x.den] 25)
          have hb4 := hb3.alloc hb3.size (.cells #[.int .i64 x.num, .int .i64 x.den] 25)
          have kx := Blk.new w3 25 #[.int .i64 x.num, .int .i64 x.den]
          have hne : B ≠ w3.heap.size := by have := (kB.below' hB3).lt; omega
          rw [← hw4] at ho4 hq4 kB4 hb4 kx
          clear ho hq hB hB3 hb3 kB
          go_upto_region 12 with fail
          rw [← hw4]
          clear hw4
          obtain ⟨bx, hbx⟩ : ∃ b, b = w3.heap.size := ⟨_, rfl⟩
          rw [← hbx] at kx hne ⊢
          clear hbx
          obtain ⟨cn, hcn⟩ : ∃ cn : Nat, cn = ls.length := ⟨_, rfl⟩
          rw [← hcn] at hlsl ⊢
          have Hcn := Lib.hid hcn
          have u1 : IntKind.i64.wrap ((cn : Int) + 1) = (cn : Int) + 1 := by rw [IntKind.wrap_i64]; omega
          clear hcn
          by_cases hc0 : cn = 0
          · have g0 : ((cn : Int) == 0) = true := by simp; omega
            have hbn : bestW way (sharesAt (xss.take (i + 1)) (P : Int)) = x := by rw [Hbs.out, if_pos (by rw [← Hcn.out]; exact hc0)]
            have R1 := Lib.hid (ho4.kept (grownBy_setCells _ B 0 (cF x)) (own_ne_blk ho4 kB4 (by decide)))
            have R2 := Lib.hid (hq4.kept (grownBy_setCells _ B 0 (cF x)) (own_ne_blk hq4 kB4 (by decide)))
            have R3 := Lib.hid (show Blk (w4.setCells B 0 (cF x)) B (cF x).toArray 25 from kB4.setCells 0 (cF x))
            have R4 := Lib.hid (below_setCells hb4 hBge 0 (cF x))
            have Hbn := Lib.hid hbn
            have eB := kB4.cell
            have gB := kB4.frozen
            have lB := kB4.lt
            have cx := kx.cell
            clear ho4 hq4 kB4 hb4 kx hbn
            go_wp2_with (fail)
            rw [putF]
            go_roundw
            case rel => exact ⟨i + 1, by omega, by go_num, by rw [Hsl.out, ← Hcn.out, hc0]; rfl, by rw [Hbn.out]; exact R3.out, R1.out, R2.out, R4.out⟩
            case measure => simp [intOf]; omega
          · have g0 : ((cn : Int) == 0) = false := by simp; omega
            have hbn := Hbs.out
            rw [if_neg (by rw [← Hcn.out]; exact hc0)] at hbn
            have cB := kB4.cell
            have cx := kx.cell
            go_wp2_with (fail)
            refine (compare5_any x best _).mono ?_
            rintro e w5 ⟨rfl, hB5⟩
            have ho5 := own_below ho4 hB5
            have hq5 := own_below hq4 hB5
            have kB5 := kB4.below' hB5
            have kx5 := kx.below' hB5
            have hb5 := hb4.trans (hB5.mono hb4.size)
            clear cB cx ho4 hq4 kB4 hb4 kx hB5
            obtain ⟨cv, hcv⟩ : ∃ cv, cv = cmpF x best := ⟨_, rfl⟩
            rw [← hcv] at hbn ⊢
            clear hcv
            by_cases hw : cv = way
            · have g1 : (cv == way) = true := by simpa using hw
              rw [if_pos hw] at hbn
              have R1 := Lib.hid (ho5.kept (grownBy_setCells _ B 0 (cF x)) (own_ne_blk ho5 kB5 (by decide)))
              have R2 := Lib.hid (hq5.kept (grownBy_setCells _ B 0 (cF x)) (own_ne_blk hq5 kB5 (by decide)))
              have R3 := Lib.hid (show Blk (w5.setCells B 0 (cF x)) B (cF x).toArray 25 from kB5.setCells 0 (cF x))
              have R4 := Lib.hid (below_setCells hb5 hBge 0 (cF x))
              have Hbn := Lib.hid hbn
              have eB := kB5.cell
              have gB := kB5.frozen
              have lB := kB5.lt
              have cx := kx5.cell
              clear ho5 hq5 kB5 hb5 kx5 hbn hw
              go_wp2_with (fail)
              rw [putF]
              go_roundw
              case rel => exact ⟨i + 1, by omega, by go_num, by rw [Hsl.out, ← Hcn.out], by rw [Hbn.out]; exact R3.out, R1.out, R2.out, R4.out⟩
              case measure => simp [intOf]; omega
            · have g1 : (cv == way) = false := by simpa using hw
              rw [if_neg hw] at hbn
              have R1 := Lib.hid ho5
              have R2 := Lib.hid hq5
              have R3 := Lib.hid kB5
              have R4 := Lib.hid hb5
              have Hbn := Lib.hid hbn
              clear ho5 hq5 kB5 hb5 kx5 hbn hw
              go_wp2_with (fail)
              go_roundw
              case rel => exact ⟨i + 1, by omega, by go_num, by rw [Hsl.out, ← Hcn.out], by rw [Hbn.out]; exact R3.out, R1.out, R2.out, R4.out⟩
              case measure => simp [intOf]; omega
      · obtain rfl : i = n := by omega
        have hlz : ¬ (i : Int) < (i : Int) := by omega
        have hls2 : ls = sharesAt xss (P : Int) := by rw [hls, List.take_of_length_le (by have := Hlen.out; omega)]
        have hlsl : ls.length ≤ 1000 := by
          rw [hls2]
          have h1 := shares_len xss (P : Int)
          have := Hlen.out
          omega
        have hout : outG way xss P = if 1 ≤ ls.length then some (⟨(P : Int), bestW way ls⟩, (ls.length : Int)) else none := by rw [hls2]; rfl
        have hsn := outP_snoc way xss P
        rw [hout, ← Hq0.out] at hsn
        clear hls hls2 hout HL
        obtain ⟨best, hbest⟩ : ∃ best, best = bestW way ls := ⟨_, rfl⟩
        rw [← hbest] at kB hsn
        clear hbest
        obtain ⟨cn, hcn⟩ : ∃ cn : Nat, cn = ls.length := ⟨_, rfl⟩
        rw [← hcn] at hlsl hsn ⊢
        clear hcn
        by_cases hc0 : cn = 0
        · have gz : ¬ (0 : Int) < (cn : Int) := by omega
          rw [if_neg (by omega), Option.toList_none, List.append_nil] at hsn
          have Hsn := Lib.hid hsn
          have R1 := Lib.hid ho
          have R2 := Lib.hid hq
          have R4 := Lib.hid hB
          clear hsn ho hq hB kB
          go_wp2_with (fail)
          go_roundw
          case rel => exact ⟨P + 1, by omega, by go_num, by rw [Hsn.out]; exact R1.out, by rw [Hsn.out]; exact R2.out, R4.out⟩
          case measure => simp [intOf]; omega
        · have gz : (0 : Int) < (cn : Int) := by omega
          rw [if_pos (by omega), Option.toList_some] at hsn
          have Hsn := Lib.hid hsn
          have Ho := Lib.hid ho
          have Hq := Lib.hid hq
          have cB := kB.cell
          clear hsn ho hq
          go_upto_region 18 with (first
            | (at_builtin; refine wpList_append_list rfl _ _ _ rfl w.heap.size 66 i1 _ 3 24 Tryz.underlying57 hi1 hy0 hy1 hy2 rfl (by omega) _ _ _ rfl (Ho.out.alloc _) cT (fun _ => rfl) cT_one _ 1 _ [⟨(P : Int), best⟩] rfl (Lst.oneT3 (Blk.new _ _ _)) (by unfold maxLen; omega) (by omega) (by have := hB.size; simp; omega) ?_; intro v5 w5 hown5 hgrow5; have hB5 := below_of_grown (hB.alloc hB.size _) (Nat.le_refl _) hgrow5 (own_ge' Ho.out); have hq5 := (Hq.out.alloc _).kept hgrow5 (own_ne5 Hq.out Ho.out (by decide)))
            | fail)
          have Hq5 := Lib.hid hq5
          have Hown5 := Lib.hid hown5
          clear hq5 hown5 hgrow5 cB kB hB
          go_wp2_with (first
            | (at_builtin; refine wpList_append_list rfl _ _ _ rfl w.heap.size 3 i0 _ 1 8 Tryz.underlying30 hi0 hz0 hz1 hz2 rfl (by omega) _ _ _ rfl (Hq5.out.alloc _) cI (fun _ => rfl) cI_ones _ 1 _ [(cn : Int)] rfl (Lst.one1 (Blk.new _ _ _)) (by unfold maxLen; omega) (by omega) (by have := hB5.size; simp; omega) ?_; intro v6 w6 hown6 hgrow6; have hB6 := below_of_grown (hB5.alloc hB5.size _) (Nat.le_refl _) hgrow6 (own_ge' Hq5.out); have ho6 := (Hown5.out.alloc _).kept hgrow6 (own_ne5 Hown5.out Hq5.out (by decide)))
            | fail)
          go_roundw
          case rel =>
            refine ⟨P + 1, by omega, by go_num, ?_, ?_, hB6⟩
            · rw [Hsn.out, List.length_append, List.map_append, List.flatMap_append]; exact ho6
            · rw [Hsn.out, List.length_append, List.map_append, List.flatMap_append]; exact hown6
          case measure => simp [intOf]; omega

end Go.Proofs.YtmeomhojbobpbaaGreatDoor
