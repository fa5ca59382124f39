import Derived.Test.YtmeomhojbobpbaaGreatDoorPart49
import Derived.Test.YtmeomhojbobpbaaGreatDoorPart07
import Derived.Test.YtmeomhojbobpbaaGreatDoorPart27
import Derived.Test.YtmeomhojbobpbaaGreatDoorPart18
import Derived.BigQuiet
import Derived.Test.YtmeomhojbobpbaaGreatDoorPart43
import Derived.Test.YtmeomhojbobpbaaGreatDoorPart15
import Derived.Test.YtmeomhojbobpbaaGreatDoorPart28
/-
  Walks: the reference's find, voided.
-/
namespace Go.Proofs.YtmeomhojbobpbaaGreatDoor
open Go.RowKit Lg Go.Sort Go.Shelf

theorem find_at {α : Type} {p : α → Bool} {l : List α} {k : Nat} {x : α} (h : (l.take k).find? p = none) (hx : l[k]? = some x) (hp : p x = true) : l.find? p = some x := by
  obtain ⟨h1, h2⟩ := List.getElem?_eq_some_iff.1 hx
  rw [← List.take_append_drop k l, List.find?_append, h, List.drop_eq_getElem_cons h1, h2, List.find?_cons, hp]
  rfl
theorem find_on {α : Type} {p : α → Bool} {l : List α} {k : Nat} {x : α} (h : (l.take k).find? p = none) (hx : l[k]? = some x) (hp : p x = false) : (l.take (k + 1)).find? p = none := by
  obtain ⟨h1, h2⟩ := List.getElem?_eq_some_iff.1 hx
  rw [List.take_succ_eq_append_getElem h1, h2, List.find?_append, h, List.find?_cons, hp]
  rfl

set_option maxRecDepth 100000 in
set_option maxHeartbeats 1600000 in
theorem find5_any (a : Option Addr) (n cap : Nat) (xs : List Deed) (id : Int) (w : World) (hL : Lst w 11 cD a n cap xs) :
    Calls Tryz.prog 146 #[.slice a n cap, .int .i64 id] w (Gives w (.tuple #[aD ((xs.find? fun y => decide (y.id = id)).getD zeroDeed), .bool (xs.find? fun y => decide (y.id = id)).isSome])) := by
  have hm : cap ≤ 9223372036854775807 := by have := hL.max; unfold maxLen at this; omega
  have hle := hL.le
  have hlen := Lib.hid hL.len
  obtain ⟨W0, hW0⟩ : ∃ W0, W0 = w.alloc (.cells #[.int .i64 0, .int .i64 0, .int .i64 0, .int .u8 0, .int .i64 0, .int .i64 0, .int .i64 0, .int .i64 0, .int .i64 0, .int .i64 0, .int .i64 0] 36) := ⟨_, rfl⟩
  have kZ : Blk W0 w.heap.size #[.int .i64 0, .int .i64 0, .int .i64 0, .int .u8 0, .int .i64 0, .int .i64 0, .int .i64 0, .int .i64 0, .int .i64 0, .int .i64 0, .int .i64 0] 36 := hW0 ▸ Blk.new w _ _
  have hB0 : RowKit.Below w.heap.size w W0 := hW0 ▸ (Below.refl _ w).alloc (Nat.le_refl _) _
  have hL0 := hL.below hB0
  obtain ⟨r, hr⟩ : ∃ r, r = xs.find? (fun y => decide (y.id = id)) := ⟨_, rfl⟩
  rw [← hr]
  have Hr := Lib.hid hr
  clear hr hL
  go_enter Tryz.func146, Tryz.ntmps146
  go_upto_region 1 with fail
  rw [← hW0]
  clear hW0
  obtain ⟨bz, hbz⟩ : ∃ b, b = w.heap.size := ⟨_, rfl⟩
  have Hge := Lib.hid (Nat.le_of_eq hbz.symm)
  rw [← hbz] at kZ ⊢
  clear hbz
  go_wp2_with (fail)
  go_loopw [6] (fun i wr => ∃ k : Nat, k ≤ n ∧ i = .int .i64 k ∧ RowKit.Below W0.heap.size W0 wr ∧ Hid ((xs.take k).find? (fun y => decide (y.id = id)) = none)) (fun i _ => n - (intOf i).toNat)
  case atStart => exact ⟨0, Nat.zero_le _, rfl, Below.refl _ _, Lib.hid (by simp)⟩
  case round =>
    obtain ⟨k, hk, rfl, hB, Ht⟩ := hrel
    have kZr := kZ.below' hB
    have hBw := hB0.trans (hB.mono hB0.size)
    by_cases hlt : k < n
    · have hltz : (k : Int) < (n : Int) := by omega
      obtain ⟨x, hx⟩ : ∃ x, xs[k]? = some x := ⟨xs[k]'(by rw [hlen.out]; exact hlt), by simp⟩
      obtain ⟨b, off, rfl, hb, hr⟩ := hL0.at_ k x hx
      have hr' := rangeAt_below hB hb hr
      have m0 := hr' 0 _ rfl
      simp only [Nat.add_zero] at m0
      by_cases e : x.id = id
      · have g : (x.id == id) = true := by simpa using e
        have hf := find_at Ht.out hx (by simpa using e)
        have hrs : r = some x := Hr.out.trans hf
        subst hrs
        have eZ := kZr.cell
        have gZ := kZr.frozen
        have lZ := kZr.lt
        clear hx hr Ht Hr e hf
        go_wp2_with (first
          | (refine wpList_load_mid rfl 36 (.tmp 22) rfl b (off + k * 11) rfl (cD x) _ hr' Tryz.underlying36 rfl (by kernel_rfl) ?_)
          | fail)
        rw [putDD]
        have kF : Blk (wr.setCells bz 0 (cD x)) bz (cD x).toArray 36 := by
          have q := kZr.setCells 0 (cD x)
          rwa [setAll_zeroD x] at q
        (try simp only [Exit.inBlock, Exit.then]); refine bodyPost_ret (results_cell_tmp rfl _ _ bz 36 (cD x) _ rfl kF Tryz.underlying36 rfl (by kernel_rfl)) rfl ?_
        exact ⟨rfl, below_setCells hBw Hge.out 0 _⟩
      · have g : (x.id == id) = false := by simpa using e
        have Hn := Lib.hid (find_on Ht.out hx (by simpa using e))
        clear hx hr hr' Ht Hr e
        go_wp2_with (fail)
        go_roundw
        case rel => exact ⟨k + 1, by omega, by go_num, hB, Hn⟩
        case measure => simp [intOf]; omega
    · obtain rfl : k = n := by omega
      have hn : r = none := by
        have h := Ht.out
        rw [List.take_of_length_le (by rw [hlen.out]; exact Nat.le_refl _)] at h
        exact Hr.out.trans h
      subst hn
      have hz : ¬ (k : Int) < (k : Int) := by omega
      have eZ := kZr.cell
      have gZ := kZr.frozen
      have lZ := kZr.lt
      clear Ht Hr
      go_wp2_with (fail)
      rw [putDD]
      have kF : Blk (wr.setCells bz 0 (cD zeroDeed)) bz (cD zeroDeed).toArray 36 := by
        have q := kZr.setCells 0 (cD zeroDeed)
        rwa [setAll_zeroD zeroDeed] at q
      (try simp only [Exit.inBlock, Exit.then]); refine bodyPost_ret (results_cell_tmp rfl _ _ bz 36 (cD zeroDeed) _ rfl kF Tryz.underlying36 rfl (by kernel_rfl)) rfl ?_
      exact ⟨rfl, below_setCells hBw Hge.out 0 _⟩

/-- Whether a deed voids an Id by an hour. -/
def voidsD5 (id known : Int) (v : Deed) : Bool := decide (v.kind = 6) && decide (v.of_ = id) && decide (v.known ≤ known)

theorem any_take_snoc5 {α : Type} (p : α → Bool) (l : List α) (k : Nat) (x : α) (h : l[k]? = some x) : (l.take (k + 1)).any p = ((l.take k).any p || p x) := by
  obtain ⟨h1, h2⟩ := List.getElem?_eq_some_iff.1 h
  rw [List.take_succ_eq_append_getElem h1, h2, List.any_append]
  simp

set_option maxRecDepth 100000 in
set_option maxHeartbeats 1600000 in
theorem voided5_any (a : Option Addr) (n cap : Nat) (xs : List Deed) (id known : Int) (w : World) (hL : Lst w 11 cD a n cap xs) :
    Calls Tryz.prog 147 #[.slice a n cap, .int .i64 id, .int .i64 known] w (Gives w (.bool (xs.any (voidsD5 id known)))) := by
  have hm : cap ≤ 9223372036854775807 := by have := hL.max; unfold maxLen at this; omega
  have hle := hL.le
  have hlen := Lib.hid hL.len
  obtain ⟨r, hr⟩ : ∃ r, r = xs.any (voidsD5 id known) := ⟨_, rfl⟩
  rw [← hr]
  have Hr := Lib.hid hr
  clear hr
  go_enter Tryz.func147, Tryz.ntmps147
  go_wp2_with (fail)
  go_loopw [7] (fun i wr => ∃ k : Nat, k ≤ n ∧ i = .int .i64 k ∧ RowKit.Below w.heap.size w wr ∧ Hid ((xs.take k).any (voidsD5 id known) = false)) (fun i _ => n - (intOf i).toNat)
  case atStart => exact ⟨0, Nat.zero_le _, rfl, Below.refl _ _, Lib.hid (by simp)⟩
  case round =>
    obtain ⟨k, hk, rfl, hB, Ht⟩ := hrel
    by_cases hlt : k < n
    · have hltz : (k : Int) < (n : Int) := by omega
      obtain ⟨x, hx⟩ : ∃ x, xs[k]? = some x := ⟨xs[k]'(by rw [hlen.out]; exact hlt), by simp⟩
      obtain ⟨b, off, rfl, hb, hr⟩ := hL.at_ k x hx
      have hr' := rangeAt_below hB hb hr
      have m1 := hr' 1 _ rfl
      have m3 := hr' 3 _ rfl
      have m10 := hr' 10 _ rfl
      have hst := any_take_snoc5 (voidsD5 id known) xs k x hx
      rw [Ht.out, Bool.false_or] at hst
      have Hst := Lib.hid hst
      have Hbad := Lib.hid (fun (e : voidsD5 id known x = true) => Hr.out.trans (List.any_eq_true.2 ⟨x, List.mem_of_getElem? hx, e⟩))
      clear hx hr hr' Ht Hr hst
      by_cases e6 : x.kind = 6
      · have g6 : (x.kind == 6) = true := by simpa using e6
        by_cases eo : x.of_ = id
        · have go_ : (x.of_ == id) = true := by simpa using eo
          by_cases ek : x.known ≤ known
          · have gk : decide (x.known ≤ known) = true := decide_eq_true ek
            have hrs := Hbad.out (by unfold voidsD5; rw [decide_eq_true e6, decide_eq_true eo, gk]; rfl)
            subst hrs
            have E6 := Lib.hid e6
            have Eo := Lib.hid eo
            have Ek := Lib.hid ek
            clear e6 eo Hbad
            go_wp2_with (fail)
            go_ret
            exact ⟨rfl, hB⟩
          · have gk : decide (x.known ≤ known) = false := decide_eq_false ek
            have Hn := Lib.hid (show (xs.take (k + 1)).any (voidsD5 id known) = false by rw [Hst.out]; unfold voidsD5; rw [gk, Bool.and_false])
            have E6 := Lib.hid e6
            have Eo := Lib.hid eo
            clear e6 eo Hbad
            go_wp2_with (fail)
            go_roundw
            case rel => exact ⟨k + 1, by omega, by go_num, hB, Hn⟩
            case measure => simp [intOf]; omega
        · have go_ : (x.of_ == id) = false := by simpa using eo
          have Hn := Lib.hid (show (xs.take (k + 1)).any (voidsD5 id known) = false by rw [Hst.out]; unfold voidsD5; rw [decide_eq_false eo, Bool.and_false, Bool.false_and])
          have E6 := Lib.hid e6
          clear e6 eo Hbad
          go_wp2_with (fail)
          go_roundw
          case rel => exact ⟨k + 1, by omega, by go_num, hB, Hn⟩
          case measure => simp [intOf]; omega
      · have g6 : (x.kind == 6) = false := by simpa using e6
        have Hn := Lib.hid (show (xs.take (k + 1)).any (voidsD5 id known) = false by rw [Hst.out]; unfold voidsD5; rw [decide_eq_false e6, Bool.false_and, Bool.false_and])
        clear e6 Hbad
        go_wp2_with (fail)
        go_roundw
        case rel => exact ⟨k + 1, by omega, by go_num, hB, Hn⟩
        case measure => simp [intOf]; omega
    · obtain rfl : k = n := by omega
      have hn : r = false := by
        have h := Ht.out
        rw [List.take_of_length_le (by rw [hlen.out]; exact Nat.le_refl _)] at h
        exact Hr.out.trans h
      subst hn
      have hz : ¬ (k : Int) < (k : Int) := by omega
      clear Ht Hr
      go_wp2_with (fail)
      go_ret
      exact ⟨rfl, hB⟩

end Go.Proofs.YtmeomhojbobpbaaGreatDoor

/-
  Walks: why the reference refuses a deed behind others; its Check and Append.
-/
namespace Go.Proofs.YtmeomhojbobpbaaGreatDoor
open Go.RowKit Lg Go.Sort Go.Shelf

theorem late_cases {a : Option Addr} {n cap : Nat} {xs : List Deed} {w : World} (x : Deed) (hL : Lst w 11 cD a n cap xs) :
    (n = 0 ∧ lateD xs x = false) ∨ (0 < n ∧ ∃ y : Deed, lateD xs x = decide (x.known < y.known) ∧ ∃ b off, a = some ⟨b, off, none⟩ ∧ b < w.heap.size ∧ w.rangeAt b (off + (n - 1) * 11) (cD y)) := by
  have hlen := hL.len
  by_cases h0 : n = 0
  · have hn : xs = [] := List.eq_nil_of_length_eq_zero (by omega)
    subst hn
    exact .inl ⟨h0, rfl⟩
  · obtain ⟨y, hy⟩ : ∃ y, xs[n - 1]? = some y := ⟨xs[n - 1]'(by omega), by simp⟩
    obtain ⟨b, off, ha, hb, hr⟩ := hL.at_ _ y hy
    have hg : xs.getLast? = some y := by rw [List.getLast?_eq_getElem?, hlen]; exact hy
    exact .inr ⟨by omega, y, by unfold lateD; rw [hg], b, off, ha, hb, hr⟩

set_option maxRecDepth 100000 in
set_option maxHeartbeats 6400000 in
theorem refused5_any (a : Option Addr) (n cap : Nat) (xs : List Deed) (x : Deed) (w : World) (hL : Lst w 11 cD a n cap xs) :
    Calls Tryz.prog 90 #[.slice a n cap, aD x] w (Gives w (.int .i64 (refusedD xs x))) := by
  have hm : cap ≤ 9223372036854775807 := by have := hL.max; unfold maxLen at this; omega
  have hle := hL.le
  have hlen := hL.len
  have hlate := late_cases x hL
  obtain ⟨r, hr⟩ : ∃ r, r = refusedD xs x := ⟨_, rfl⟩
  rw [← hr]
  unfold refusedD at hr
  rw [hlen] at hr
  obtain ⟨W0, hW0⟩ : ∃ W0, W0 = w.alloc (.cells #[.int .i64 x.id, .int .i64 x.known, .int .i64 x.hour, .int .u8 x.kind, .int .i64 x.loss, .int .i64 x.pack, .int .i64 x.from_, .int .i64 x.to_, .int .i64 x.share.num, .int .i64 x.share.den, .int .i64 x.of_] 36) := ⟨_, rfl⟩
  have kX : Blk W0 w.heap.size #[.int .i64 x.id, .int .i64 x.known, .int .i64 x.hour, .int .u8 x.kind, .int .i64 x.loss, .int .i64 x.pack, .int .i64 x.from_, .int .i64 x.to_, .int .i64 x.share.num, .int .i64 x.share.den, .int .i64 x.of_] 36 := hW0 ▸ Blk.new w _ _
  have hB0 : RowKit.Below w.heap.size w W0 := hW0 ▸ (Below.refl _ w).alloc (Nat.le_refl _) _
  have HL := Lib.hid (fun W (h : RowKit.Below w.heap.size w W) => hL.below h)
  have Hr := Lib.hid hr
  have Hlate := Lib.hid hlate
  clear hr hL hlate hlen
  go_enter Tryz.func90, Tryz.ntmps90
  go_upto_region 1 with fail
  rw [← hW0]
  clear hW0
  obtain ⟨bx, hbx⟩ : ∃ b, b = w.heap.size := ⟨_, rfl⟩
  rw [← hbx] at kX ⊢
  clear hbx
  by_cases h300 : 300 ≤ n
  · have hz : (300 : Int) ≤ (n : Int) := by omega
    have hr := Hr.out
    rw [if_pos h300] at hr
    subst hr
    go_wp2_with (fail)
    go_ret
    exact ⟨rfl, hB0⟩
  have hz : ¬ (300 : Int) ≤ (n : Int) := by omega
  have hr := Hr.out
  rw [if_neg h300] at hr
  clear h300 Hr
  have hf := fun W => formed5_any x W
  have cX := kX.cell
  obtain ⟨fo, hfo⟩ : ∃ fo, fo = formedD x := ⟨_, rfl⟩
  rw [← hfo] at hf hr
  clear hfo
  cases fo with
  | false =>
    rw [if_pos rfl] at hr
    subst hr
    go_wp2_with (fail)
    refine (hf _).mono ?_
    rintro e w1 ⟨rfl, hB1⟩
    go_wp2_with (fail)
    go_ret
    exact ⟨rfl, hB0.trans (hB1.mono hB0.size)⟩
  | true =>
  rw [if_neg (by simp)] at hr
  have Hr := Lib.hid hr
  clear hr
  go_wp2_with (fail)
  refine (hf _).mono ?_
  clear hf
  rintro e w1 ⟨rfl, hB1⟩
  have kX1 := kX.below' hB1
  have hb1 := hB0.trans (hB1.mono hB0.size)
  clear cX kX hB0 hB1
  have cX := kX1.cell
  go_wp2_with (fail)
  refine (find5_any a n cap xs x.id w1 (HL.out _ hb1)).mono ?_
  rintro e w2 ⟨rfl, hB2⟩
  obtain ⟨f1, hf1⟩ : ∃ f1, f1 = xs.find? (fun y => decide (y.id = x.id)) := ⟨_, rfl⟩
  have hr := Hr.out
  rw [← hf1] at hr ⊢
  clear hf1
  obtain ⟨y1, hy1⟩ : ∃ y1, y1 = f1.getD zeroDeed := ⟨_, rfl⟩
  rw [← hy1]
  clear hy1 Hr
  obtain ⟨b1, hb1'⟩ : ∃ b1, b1 = f1.isSome := ⟨_, rfl⟩
  rw [← hb1'] at hr ⊢
  clear hb1'
  obtain ⟨w3, hw3⟩ : ∃ w3, w3 = w2.alloc (.cells #[.int .i64 y1.id, .int .i64 y1.known, .int .i64 y1.hour, .int .u8 y1.kind, .int .i64 y1.loss, .int .i64 y1.pack, .int .i64 y1.from_, .int .i64 y1.to_, .int .i64 y1.share.num, .int .i64 y1.share.den, .int .i64 y1.of_] 36) := ⟨_, rfl⟩
  have hB3 : RowKit.Below w2.heap.size w2 w3 := hw3 ▸ (Below.refl _ _).alloc (Nat.le_refl _) _
  have hb2 := hb1.trans (hB2.mono hb1.size)
  have hb3 := hb2.trans (hB3.mono hb2.size)
  have kX3 := (kX1.below' hB2).below' hB3
  clear cX kX1 hB2 hB3 hb1 hb2
  go_upto_region 7 with fail
  rw [← hw3]
  clear hw3
  cases b1 with
  | true =>
    rw [if_pos rfl] at hr
    subst hr
    go_wp2_with (fail)
    go_ret
    exact ⟨rfl, hb3⟩
  | false =>
  rw [if_neg (by simp)] at hr
  obtain ⟨lt, hlt⟩ : ∃ lt, lt = lateD xs x := ⟨_, rfl⟩
  have hlate := Hlate.out
  rw [← hlt] at hr hlate
  clear hlt Hlate
  have Hr := Lib.hid hr
  have Hlate := Lib.hid hlate
  clear hr hlate
  go_upto_region 9 with fail
  go_cut [40] from 41 (fun c W' => c = .bool lt ∧ RowKit.Below w3.heap.size w3 W')
  case first =>
    have cX := kX3.cell
    rcases Hlate.out with ⟨h0, hl⟩ | ⟨h0, y, hl, b, off, rfl, hb, hry⟩
    · subst hl
      have u5 : ¬ (0 : Int) < (n : Int) := by omega
      have u6 : decide ((0 : Int) < (n : Int)) = false := decide_eq_false u5
      subst h0
      clear Hr Hlate
      go_quiet (fail)
      go_wp2_with (fail)
      go_meet
      exact ⟨rfl, below_drewN' (Below.refl _ _) _⟩
    · have hry' := rangeAt_below hb3 hb hry
      have m1 := hry' 1 _ rfl
      have u1 : IntKind.i64.wrap ((n : Int) - 1) = (n : Int) - 1 := by rw [IntKind.wrap_i64]; omega
      have u2 : (0 : Int) ≤ (n : Int) - 1 := by omega
      have u3 : (n : Int) - 1 < (n : Int) := by omega
      have u4 : ((n : Int) - 1).toNat = n - 1 := by omega
      have u5 : (0 : Int) < (n : Int) := by omega
      have u7 : decide ((0 : Int) < (n : Int)) = true := decide_eq_true u5
      clear hry hry' Hr Hlate
      by_cases e : x.known < y.known
      · have u6 : decide (x.known < y.known) = true := decide_eq_true e
        rw [u6] at hl
        subst hl
        go_quiet (fail)
        go_wp2_with (fail)
        go_meet
        exact ⟨rfl, below_drewN' (Below.refl _ _) _⟩
      · have u6 : decide (x.known < y.known) = false := decide_eq_false e
        rw [u6] at hl
        subst hl
        go_quiet (fail)
        go_wp2_with (fail)
        go_meet
        exact ⟨rfl, below_drewN' (Below.refl _ _) _⟩
  obtain ⟨rfl, hc0⟩ := hcut
  obtain ⟨w4, hw0⟩ : ∃ x, x = wc := ⟨_, rfl⟩
  subst hw0
  have kX4 := kX3.below' hc0
  have hb4 := hb3.trans (hc0.mono hb3.size)
  clear kX3 hb3 hc0 Hlate
  have hr := Hr.out
  cases lt with
  | true =>
    rw [if_pos rfl] at hr
    subst hr
    go_wp2_with (fail)
    go_ret
    exact ⟨rfl, hb4⟩
  | false =>
  rw [if_neg (by simp)] at hr
  clear Hr
  have Hr := Lib.hid hr
  clear hr
  have cX := kX4.cell
  go_wp2_with (fail)
  refine (find5_any a n cap xs x.of_ w4 (HL.out _ hb4)).mono ?_
  rintro e w5 ⟨rfl, hB5⟩
  obtain ⟨f2, hf2⟩ : ∃ f2, f2 = xs.find? (fun y => decide (y.id = x.of_)) := ⟨_, rfl⟩
  have hr := Hr.out
  rw [← hf2] at hr ⊢
  clear hf2 Hr
  have hbad : badOf x.kind f2 = (if x.kind = 5 then (!f2.isSome || !decide ((f2.getD zeroDeed).kind = 4)) else if x.kind = 6 then (!f2.isSome || decide ((f2.getD zeroDeed).kind = 6)) else false) := by
    unfold badOf; cases f2 <;> simp
  rw [hbad] at hr
  clear hbad
  obtain ⟨y2, hy2⟩ : ∃ y2, y2 = f2.getD zeroDeed := ⟨_, rfl⟩
  rw [← hy2] at hr ⊢
  clear hy2
  obtain ⟨b2, hb2'⟩ : ∃ b2, b2 = f2.isSome := ⟨_, rfl⟩
  rw [← hb2'] at hr ⊢
  clear hb2'
  have Hr := Lib.hid hr
  clear hr
  obtain ⟨w6, hw6⟩ : ∃ w6, w6 = w5.alloc (.cells #[.int .i64 y2.id, .int .i64 y2.known, .int .i64 y2.hour, .int .u8 y2.kind, .int .i64 y2.loss, .int .i64 y2.pack, .int .i64 y2.from_, .int .i64 y2.to_, .int .i64 y2.share.num, .int .i64 y2.share.den, .int .i64 y2.of_] 36) := ⟨_, rfl⟩
  have kY : Blk w6 w5.heap.size #[.int .i64 y2.id, .int .i64 y2.known, .int .i64 y2.hour, .int .u8 y2.kind, .int .i64 y2.loss, .int .i64 y2.pack, .int .i64 y2.from_, .int .i64 y2.to_, .int .i64 y2.share.num, .int .i64 y2.share.den, .int .i64 y2.of_] 36 := hw6 ▸ Blk.new _ _ _
  have hB6 : RowKit.Below w5.heap.size w5 w6 := hw6 ▸ (Below.refl _ _).alloc (Nat.le_refl _) _
  have hb5 := hb4.trans (hB5.mono hb4.size)
  have hb6 := hb5.trans (hB6.mono hb5.size)
  have kX6 := (kX4.below' hB5).below' hB6
  clear cX kX4 hB5 hB6 hb4 hb5
  go_upto_region 12 with fail
  rw [← hw6]
  clear hw6
  obtain ⟨by_, hby⟩ : ∃ b, b = w5.heap.size := ⟨_, rfl⟩
  rw [← hby] at kY ⊢
  clear hby
  obtain ⟨bad, hbad⟩ : ∃ bad, bad = (if x.kind = 5 then (!b2 || !decide (y2.kind = 4)) else if x.kind = 6 then (!b2 || decide (y2.kind = 6)) else false) := ⟨_, rfl⟩
  have hr := Hr.out
  rw [← hbad] at hr
  have Hbad := Lib.hid hbad
  clear hbad Hr
  have Hr := Lib.hid hr
  clear hr
  go_cut [73] from 74 (fun c W' => c = .bool bad ∧ W' = w6)
  case first =>
    have cX := kX6.cell
    have cY := kY.cell
    clear Hr
    by_cases k5 : x.kind = 5
    · have g5 : (x.kind == 5) = true := by simpa using k5
      have g6 : (x.kind == 6) = false := by simp; omega
      have hbad := Hbad.out
      rw [if_pos k5] at hbad
      have K5 := Lib.hid k5
      clear k5 Hbad
      cases b2 with
      | false =>
        subst hbad
        go_wp2_with (fail)
        go_meet
        exact ⟨rfl, rfl⟩
      | true =>
        by_cases k4 : y2.kind = 4
        · have g4 : (y2.kind != 4) = false := by simp [k4]
          rw [decide_eq_true k4] at hbad
          subst hbad
          have K4 := Lib.hid k4
          clear k4
          go_wp2_with (fail)
          go_meet
          exact ⟨rfl, rfl⟩
        · have g4 : (y2.kind != 4) = true := by simp [k4]
          rw [decide_eq_false k4] at hbad
          subst hbad
          clear k4
          go_wp2_with (fail)
          go_meet
          exact ⟨rfl, rfl⟩
    · have g5 : (x.kind == 5) = false := by simpa using k5
      have hbad := Hbad.out
      rw [if_neg k5] at hbad
      have K5 := Lib.hid k5
      clear k5 Hbad
      by_cases k6 : x.kind = 6
      · have g6 : (x.kind == 6) = true := by simpa using k6
        rw [if_pos k6] at hbad
        have K6 := Lib.hid k6
        clear k6
        cases b2 with
        | false =>
          subst hbad
          go_wp2_with (fail)
          go_meet
          exact ⟨rfl, rfl⟩
        | true =>
          by_cases k4 : y2.kind = 6
          · have g4 : (y2.kind == 6) = true := by simp [k4]
            rw [decide_eq_true k4] at hbad
            subst hbad
            have K4 := Lib.hid k4
            clear k4
            go_wp2_with (fail)
            go_meet
            exact ⟨rfl, rfl⟩
          · have g4 : (y2.kind == 6) = false := by simp [k4]
            rw [decide_eq_false k4] at hbad
            subst hbad
            clear k4
            go_wp2_with (fail)
            go_meet
            exact ⟨rfl, rfl⟩
      · have g6 : (x.kind == 6) = false := by simpa using k6
        rw [if_neg k6] at hbad
        subst hbad
        clear k6
        go_wp2_with (fail)
        go_meet
        exact ⟨rfl, rfl⟩
  obtain ⟨rfl, hwc⟩ := hcut
  obtain ⟨w7, hw0⟩ : ∃ x, x = wc := ⟨_, rfl⟩
  rw [← hw0] at hwc ⊢
  subst hwc
  clear hw0 Hbad kY
  have hr := Hr.out
  clear Hr
  cases bad with
  | true =>
    rw [if_pos rfl] at hr
    subst hr
    go_wp2_with (fail)
    go_ret
    exact ⟨rfl, hb6⟩
  | false =>
  rw [if_neg (by simp)] at hr
  have Hr := Lib.hid hr
  clear hr
  have cX := kX6.cell
  go_wp2_with (fail)
  refine (voided5_any a n cap xs x.of_ 1000000 _ (HL.out _ hb6)).mono ?_
  rintro e w8 ⟨rfl, hB8⟩
  have hr := Hr.out
  have hv : xs.any (voidsD5 x.of_ 1000000) = xs.any (fun v => decide (v.kind = 6) && decide (v.of_ = x.of_) && decide (v.known ≤ 1000000)) := rfl
  rw [hv]
  clear hv Hr
  generalize xs.any (fun v => decide (v.kind = 6) && decide (v.of_ = x.of_) && decide (v.known ≤ 1000000)) = vd at *
  have hb8 := hb6.trans (hB8.mono hb6.size)
  have kX8 := kX6.below' hB8
  clear cX kX6 hB8 hb6
  have cX := kX8.cell
  by_cases k6 : x.kind = 6
  · have g6 : (x.kind == 6) = true := by simpa using k6
    cases vd with
    | true =>
      rw [if_pos ⟨k6, rfl⟩] at hr
      subst hr
      have K6 := Lib.hid k6
      clear k6
      go_wp2_with (fail)
      go_ret
      exact ⟨rfl, hb8⟩
    | false =>
      rw [if_neg (by simp)] at hr
      subst hr
      have K6 := Lib.hid k6
      clear k6
      go_wp2_with (fail)
      go_ret
      exact ⟨rfl, hb8⟩
  · have g6 : (x.kind == 6) = false := by simpa using k6
    rw [if_neg (fun h => k6 h.1)] at hr
    subst hr
    clear k6
    go_wp2_with (fail)
    go_ret
    exact ⟨rfl, hb8⟩

end Go.Proofs.YtmeomhojbobpbaaGreatDoor

/-
  Walks: the reference's Check and Append of deeds.
-/
namespace Go.Proofs.YtmeomhojbobpbaaGreatDoor
open Go.RowKit Lg Go.Sort Go.Shelf

theorem checkR_deeds (xs : List Deed) : chkFrom refusedD [] xs = checkDeeds xs := checkR_eq xs [] GoodD.nil

set_option maxRecDepth 100000 in
set_option maxHeartbeats 1600000 in
theorem check5D_any (a : Option Addr) (n cap : Nat) (xs : List Deed) (w : World) (hL : Lst w 11 cD a n cap xs) :
    Calls Tryz.prog 25 #[.slice a n cap] w (Gives w (.tuple #[.int .i64 (checkDeeds xs).1, .int .i64 (checkDeeds xs).2])) := by
  have hm : cap ≤ 9223372036854775807 := by have := hL.max; unfold maxLen at this; omega
  have hle := hL.le
  have hlen := Lib.hid hL.len
  rw [← checkR_deeds]
  obtain ⟨r, hr⟩ : ∃ r, r = chkFrom refusedD [] xs := ⟨_, rfl⟩
  rw [← hr]
  have Hr := Lib.hid hr
  clear hr
  obtain ⟨r1, r2⟩ := r
  go_enter Tryz.func25, Tryz.ntmps25
  go_wp2_with (fail)
  go_loopw [4] (fun i wr => ∃ k : Nat, k ≤ n ∧ i = .int .i64 k ∧ RowKit.Below w.heap.size w wr ∧ Hid ((r1, r2) = chkFrom refusedD (xs.take k) (xs.drop k))) (fun i _ => n - (intOf i).toNat)
  case atStart => exact ⟨0, Nat.zero_le _, rfl, Below.refl _ _, Hr⟩
  case round =>
    obtain ⟨k, hk, rfl, hB, H0⟩ := hrel
    by_cases hlt : k < n
    · have hltz : (k : Int) < (n : Int) := by omega
      obtain ⟨x, hx⟩ : ∃ x, xs[k]? = some x := ⟨xs[k]'(by rw [hlen.out]; exact hlt), by simp⟩
      obtain ⟨b, off, rfl, hb, hrr⟩ := hL.at_ k x hx
      have hr' := rangeAt_below hB hb hrr
      have hdrop : xs.drop k = x :: xs.drop (k + 1) := by
        obtain ⟨h1, h2⟩ := List.getElem?_eq_some_iff.1 hx
        rw [← h2, List.drop_eq_getElem_cons h1]
      have htake : xs.take (k + 1) = xs.take k ++ [x] := by
        obtain ⟨h1, h2⟩ := List.getElem?_eq_some_iff.1 hx
        rw [List.take_succ_eq_append_getElem h1, h2]
      have hlt2 : (xs.take k).length = k := by rw [List.length_take, hlen.out]; omega
      obtain ⟨v, hv⟩ : ∃ v, v = refusedD (xs.take k) x := ⟨_, rfl⟩
      have hstep : (r1, r2) = if v = 0 then chkFrom refusedD (xs.take (k + 1)) (xs.drop (k + 1)) else ((k : Int), v) := by
        rw [H0.out, hdrop, chkFrom, ← hv, htake, hlt2]
      have hf := fun W (h : RowKit.Below wr.heap.size wr W) => refused5_any (some ⟨b, off, none⟩) k cap (xs.take k) x W (((hL.below hB).below h).pref k hk)
      rw [← hv] at hf
      have cF := regrown_call (w := wr) (v := .int .i64 v) hf
      have Hs := Lib.hid hstep
      have c0 := cell_regrown (hr' 0 _ rfl)
      have c1 := cell_regrown (hr' 1 _ rfl)
      have c2 := cell_regrown (hr' 2 _ rfl)
      have c3 := cell_regrown (hr' 3 _ rfl)
      have c4 := cell_regrown (hr' 4 _ rfl)
      have c5 := cell_regrown (hr' 5 _ rfl)
      have c6 := cell_regrown (hr' 6 _ rfl)
      have c7 := cell_regrown (hr' 7 _ rfl)
      have c8 := cell_regrown (hr' 8 _ rfl)
      have c9 := cell_regrown (hr' 9 _ rfl)
      have c10 := cell_regrown (hr' 10 _ rfl)
      simp only [Nat.add_zero] at c0
      have hkz : (0 : Int) ≤ (k : Int) := by omega
      have hkn : (k : Int) ≤ (n : Int) := by omega
      have hkc : (k : Int) ≤ (cap : Int) := by omega
      clear hstep hdrop htake hx H0 Hr hv hf hr' hrr hlt2
      go_wp2_with (fail)
      refine wp_region_quiet_below (by kernel_rfl) (by kernel_rfl) ?_
      repeat (go_big_quiet_step (with_reducible exact cF _ _))
      refine wpQuiet_nil ?_
      intro _ hw'
      obtain ⟨⟨dq, osq⟩, hw''⟩ := hw'
      subst hw''
      have hBn := hB.trans ((below_regrown wr dq osq).mono hB.size)
      clear c0 c1 c2 c3 c4 c5 c6 c7 c8 c9 c10 cF
      by_cases hv0 : v = 0
      · subst hv0
        have hs2 := Hs.out
        rw [if_pos rfl] at hs2
        have Hs2 := Lib.hid hs2; clear hs2
        go_wp2_with (fail)
        go_roundw
        case rel => exact ⟨k + 1, by omega, by go_num, hBn, Hs2⟩
        case measure => simp [intOf]; omega
      · have hs2 := Hs.out
        rw [if_neg hv0] at hs2
        obtain ⟨rfl, rfl⟩ := Prod.mk.inj hs2
        have g1 : (r2 != 0) = true := by simpa using hv0
        clear hs2 Hs
        go_wp2_with (fail)
        go_ret2
        exact ⟨rfl, hBn⟩
    · obtain rfl : k = n := by omega
      have h0 := H0.out
      rw [List.drop_eq_nil_of_le (by rw [hlen.out]; exact Nat.le_refl _), chkFrom] at h0
      obtain ⟨rfl, rfl⟩ := Prod.mk.inj h0
      clear h0 H0 Hr
      go_wp2_with (fail)
      go_ret2
      exact ⟨rfl, hB⟩

end Go.Proofs.YtmeomhojbobpbaaGreatDoor

/-
  Walk: the reference's Append of deeds.
-/
namespace Go.Proofs.YtmeomhojbobpbaaGreatDoor
open Go.RowKit Lg Go.Sort Go.Shelf

theorem step_append_listD {α : Type} (w : World) {ops : Array Oper} {o : Oper} {a : Act} {K : Act → World → Prop} {Q : Exit → Act → World → Prop} {E : Prop} (hgd : o.guard = none) (s x : Operand) (t : TypeId)
    (ho : o.op = .call { callee := .builtin .append, args := #[s, x], argTypes := #[t, t] })
    (base : Nat) (e : TypeId) (i : TypeInfo) (z : Value) (size bytes : Nat) (ht : Tryz.prog.underlying t = some (.slice e)) (hi : Tryz.prog.info? e = some i) (hz : i.zero = some z)
    (hsize : i.size = size) (hby : i.bytes = bytes) (hzs : z.cells.size = size) (hsz : 0 < size) (v : Value) (n : Nat) (xs : List Value) (hs : a.eval s = v) (hown : w.ownsRow base e size v n xs)
    (enc : α → List Value) (hen : ∀ x, (enc x).length = size) (hone : ∀ x, ∀ u ∈ enc x, u.oneCell' = true) (b : Option Addr) (m c : Nat) (zs : List α) (hx : a.eval x = .slice b m c) (hM : Lst w size enc b m c zs)
    (h63 : n + m ≤ maxLen) (hbytes : (n + m) * bytes ≤ 140737488355328) (hbase : base ≤ w.heap.size)
    (h : ∀ v' w', w'.ownsRow base e size v' (n + m) (xs ++ zs.flatMap enc) → w.grownBy w' v.ownBlock → K (a.put o.dst v') w') :
    if Region.wanted o (yielded ops a.tmps) = true then Oper.wp Tryz.prog o a w K Q else E := by
  have hw : Region.wanted o (yielded ops a.tmps) = true := by simp [Region.wanted, hgd]
  rw [if_pos hw]
  obtain ⟨v', w', hr, h2, h3⟩ := run_append_list w t o.type base e i z size bytes ht hi hz hsize hby hzs hsz v n xs hown enc hen hone b m c zs hM h63 hbytes hbase
  unfold Oper.wp execOp
  simp only [ho, resolve, invoke, builtin, Sem.run_bind, Sem.run_pure, Result.andThen_ok, List.map_toArray, List.map_cons, List.map_nil, hs, hx, hr]
  exact h v' w' h2 h3

theorem blkBD {w w' : World} {A X : Array Value} {t : TypeId} {row : Option Nat} (hg : ((w.alloc (.cells A t)).alloc (.cells X t)).drew.grownBy w' row) (hne : some (w.heap.size + 1) ≠ row) : Blk w' (w.heap.size + 1) X t := by
  have h := (Blk.new (w.alloc (.cells A t)) t X).drew
  rw [show (w.alloc (.cells A t)).heap.size = w.heap.size + 1 by simp] at h
  exact h.kept hg hne

theorem blkCD {w w' : World} {A X : Array Value} {t : TypeId} {row : Option Nat} (hg : ((w.alloc (.cells X t)).alloc (.cells A t)).drew.grownBy w' row) (hne : some w.heap.size ≠ row) : Blk w' w.heap.size X t :=
  (((Blk.new w t X).alloc _).drew).kept hg hne

theorem madeCD (w : World) (o : Obj) (t : TypeId) : ((w.alloc o).alloc (.cells #[] t)).drew.ownsRow w.heap.size t 11 (.slice (some ⟨w.heap.size + 1, 0, none⟩) 0 0) 0 [] := by
  have h := (World.ownsRow_made (base := w.heap.size) (e := t) (size := 11) (w.alloc o) #[] 0 (by simp) (Nat.zero_le _) rfl).drew
  rw [show (w.alloc o).heap.size = w.heap.size + 1 by simp] at h
  exact h

set_option maxRecDepth 100000 in
set_option maxHeartbeats 3200000 in
theorem append5D_any (a : Option Addr) (n cap : Nat) (xs : List Deed) (x : Deed) (w : World) (hL : Lst w 11 cD a n cap xs) :
    Calls Tryz.prog 27 #[.slice a n cap, aD x] w (GivesL w 36 11 cD (appendDeed xs x).1 (appendDeed xs x).2) := by
  have hlen := hL.len
  have hB0 : RowKit.Below w.heap.size w (w.alloc (.cells #[.int .i64 x.id, .int .i64 x.known, .int .i64 x.hour, .int .u8 x.kind, .int .i64 x.loss, .int .i64 x.pack, .int .i64 x.from_, .int .i64 x.to_, .int .i64 x.share.num, .int .i64 x.share.den, .int .i64 x.of_] 36)) := (Below.refl _ w).alloc (Nat.le_refl _) _
  have hc1 := check5D_any a n cap xs _ (hL.below hB0)
  obtain ⟨i0, hi0, hz0, hz1, hz2⟩ := info_parts infoD
  by_cases h0 : (checkDeeds xs).2 = 0
  · rw [h0] at hc1
    have hap : appendDeed xs x = if refusedD xs x = 0 then (xs ++ [x], 0) else ([], refusedD xs x) := by
      unfold appendDeed; rw [if_pos h0, refused_eq (good_of_check h0)]
    have hlim : refusedD xs x = 0 → n ≤ 299 := by
      intro h1
      rw [refused_eq (good_of_check h0)] at h1
      have := (followsD_parts h1).1
      omega
    generalize (checkDeeds xs).1 = c1 at hc1
    have hf := fun W (h : Lst W 11 cD a n cap xs) => refused5_any a n cap xs x W h
    generalize refusedD xs x = f at *
    generalize appendDeed xs x = q at *
    have Hap := Lib.hid hap
    have Hlim := Lib.hid hlim
    clear hap h0 hlim
    go_enter Tryz.func27, Tryz.ntmps27
    go_wp2_with (fail)
    refine hc1.mono ?_
    clear hc1
    rintro e w1 ⟨rfl, hB1⟩
    have k1 : Blk w1 w.heap.size #[.int .i64 x.id, .int .i64 x.known, .int .i64 x.hour, .int .u8 x.kind, .int .i64 x.loss, .int .i64 x.pack, .int .i64 x.from_, .int .i64 x.to_, .int .i64 x.share.num, .int .i64 x.share.den, .int .i64 x.of_] 36 := (Blk.new w _ _).below' hB1
    have hB1 := hB0.trans (hB1.mono hB0.size)
    clear hB0
    have c1' := k1.cell
    go_wp2_with (fail)
    refine (hf _ (hL.below hB1)).mono ?_
    clear hf
    rintro e w2 ⟨rfl, hB2⟩
    have k2 := k1.below' hB2
    have hB2 := hB1.trans (hB2.mono hB1.size)
    clear k1 hB1 c1'
    by_cases hf0 : f = 0
    · have hn := Hlim.out hf0
      have hq := Hap.out
      rw [if_pos hf0] at hq
      subst hf0 hq
      clear Hap Hlim
      have HS := Lib.hid (fun W (h : RowKit.Below w2.heap.size w2 W) => (k2.below' h).cell)
      have HLw := Lib.hid (fun W (h : RowKit.Below w2.heap.size w2 W) => (hL.below hB2).below h)
      have HB2 := Lib.hid hB2
      clear hL k2
      go_wp2_with (fail)
      go_region_held3 (fun w' => ∀ j, w'.cell? ⟨w.heap.size, j, none⟩ = #[.int .i64 x.id, .int .i64 x.known, .int .i64 x.hour, .int .u8 x.kind, .int .i64 x.loss, .int .i64 x.pack, .int .i64 x.from_, .int .i64 x.to_, .int .i64 x.share.num, .int .i64 x.share.den, .int .i64 x.of_][j]?)
        (((with_reducible refine HS.out _ ?_); repeat (first | (with_reducible assumption) | (with_reducible exact Below.refl _ _) | (with_reducible refine Below.alloc ?_ ?_ _) | (with_reducible refine Below.setCell ?_ ?_ _) | (with_reducible refine Below.drew ?_) | omega | (simp <;> omega) | (dsimp only; omega))))
        (first
          | (refine step_append_listD _ (by rfl) _ _ _ (by rfl) w2.heap.size 36 i0 _ 11 88 Tryz.underlying42 hi0 hz0 hz1 hz2 rfl (by omega) v4 (0 + n) _ (by rfl) (by first | with_reducible exact (ho4.alloc _).drew | with_reducible exact ho4.alloc _ | with_reducible exact ho4.drew | with_reducible exact ho4) cD (fun _ => rfl) cD_one _ 1 1 [x] (by rfl) (by first | exact Lst.one11 (Blk.new w4 _ _).drew | exact Lst.one11 (blkBD hg4 (fun h => absurd (Option.some.inj h : w2.heap.size + 1 = w2.heap.size) (by omega))) | exact Lst.one11 (blkCD hg4 (fun h => absurd (Option.some.inj h : w2.heap.size = w2.heap.size + 1) (by omega)))) (by unfold maxLen; omega) (by omega) (by have := hB4.size; (try simp); omega) ?_; intro v5 w5 ho5 hg5; have hB5 : RowKit.Below w2.heap.size w2 w5 := below_of_grown (by repeat (first | (with_reducible assumption) | (with_reducible exact Below.refl _ _) | (with_reducible refine Below.alloc ?_ ?_ _) | (with_reducible refine Below.setCell ?_ ?_ _) | (with_reducible refine Below.drew ?_) | omega | (simp <;> omega) | (dsimp only; omega))) (Nat.le_refl _) hg5 (own_ge' ho4); have hs5 := hB5.size)
          | (refine step_append_listD _ (by rfl) _ _ _ (by rfl) w2.heap.size 36 i0 _ 11 88 Tryz.underlying42 hi0 hz0 hz1 hz2 rfl (by omega) _ 0 [] (by rfl) (by first | exact (World.ownsRow_made w2 #[] 0 (Nat.le_refl _) (Nat.zero_le _) rfl).drew | exact ((World.ownsRow_made w2 #[] 0 (Nat.le_refl _) (Nat.zero_le _) rfl).alloc _).drew | exact madeCD w2 _ _) cD (fun _ => rfl) cD_one _ n cap xs (by rfl) (HLw.out _ (by repeat (first | (with_reducible assumption) | (with_reducible exact Below.refl _ _) | (with_reducible refine Below.alloc ?_ ?_ _) | (with_reducible refine Below.setCell ?_ ?_ _) | (with_reducible refine Below.drew ?_) | omega | (simp <;> omega) | (dsimp only; omega)))) (by unfold maxLen; omega) (by omega) (by first | exact Nat.le_refl _ | (simp; done) | (simp; omega)) ?_; intro v4 w4 ho4 hg4; have hB4 : RowKit.Below w2.heap.size w2 w4 := below_of_grown (by repeat (first | (with_reducible assumption) | (with_reducible exact Below.refl _ _) | (with_reducible refine Below.alloc ?_ ?_ _) | (with_reducible refine Below.setCell ?_ ?_ _) | (with_reducible refine Below.drew ?_) | omega | (simp <;> omega) | (dsimp only; omega))) (Nat.le_refl _) hg4 (fun r h => by cases h; (first | exact Nat.le_refl _ | simp)); have hs4 := hB4.size)
          | fail)
      all_goals
        rw [List.nil_append, ← List.flatMap_append, Nat.zero_add] at ho5
        have hB5 := HB2.out.trans (hB5.mono HB2.out.size)
        have ho5 := ho5.mono HB2.out.size
        clear ho4 hg4 hB4 hs4 hg5 hs5
        go_wp2_with (fail)
        go_ret2
        exact ⟨_, rfl, by rw [List.length_append, hlen]; exact ho5, hB5⟩
    · have hq := Hap.out
      rw [if_neg hf0] at hq
      subst hq
      have g0 : (f != 0) = true := by simpa using hf0
      clear hf0 Hap
      go_wp2_with (fail)
      go_ret2
      exact GivesL.nil hB2
  · have hap : appendDeed xs x = ([], (checkDeeds xs).2) := by unfold appendDeed; rw [if_neg h0]
    rw [hap]
    generalize (checkDeeds xs).1 = c1 at *
    generalize (checkDeeds xs).2 = c2 at *
    have g0 : (c2 != 0) = true := by simpa using h0
    clear h0 hap hL
    go_enter Tryz.func27, Tryz.ntmps27
    go_wp2_with (fail)
    refine hc1.mono ?_
    clear hc1
    rintro e w2 ⟨rfl, hB2⟩
    go_wp2_with (fail)
    go_ret2
    exact GivesL.nil (hB0.trans (hB2.mono hB0.size))

end Go.Proofs.YtmeomhojbobpbaaGreatDoor
