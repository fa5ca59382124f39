import Derived.Test.YtmeomhojbobpbaaGreatDoorPart41
import Derived.Test.YtmeomhojbobpbaaGreatDoorPart40
import Derived.Test.YtmeomhojbobpbaaGreatDoorPart56
import Derived.Test.YtmeomhojbobpbaaGreatDoorPart20
import Derived.Test.YtmeomhojbobpbaaGreatDoorPart38
import Derived.Test.YtmeomhojbobpbaaGreatDoorPart39
import Derived.Test.YtmeomhojbobpbaaGreatDoorPart11
/-
  Walks: the law's share (ClaimSure$1) and sum.
-/
namespace Go.Proofs.YtmeomhojbobpbaaGreatDoor
open Go.RowKit Lg Go.Sort Go.Shelf

theorem putF1 (w : World) (B : Nat) : ((w.setCell ⟨B, 0, none⟩ (.int .i64 0)).setCell ⟨B, 1, none⟩ (.int .i64 1)) = w.setCells B 0 (cF ⟨0, 1⟩) := rfl

theorem shareAt_at {xs : List Title} {k : Nat} {x : Title} {p : Int} (h : (xs.take k).find? (fun y => decide (y.party = p)) = none) (hx : xs[k]? = some x) (hp : x.party = p) : shareAt xs p = x.share := by
  unfold shareAt; rw [find_at7 h hx (by simpa using hp)]
theorem shareAt_none {xs : List Title} {p : Int} (h : xs.find? (fun y => decide (y.party = p)) = none) : shareAt xs p = ⟨0, 1⟩ := by
  unfold shareAt; rw [h]

set_option maxRecDepth 100000 in
set_option maxHeartbeats 1600000 in
theorem share_any (a : Option Addr) (n cap : Nat) (xs : List Title) (p : Int) (w : World) (hL : Lst w 3 cT a n cap xs) :
    Calls Tryz.prog 44 #[.slice a n cap, .int .i64 p] w (Gives w (aF (shareAt xs p))) := by
  have hm : cap ≤ 9223372036854775807 := by have := hL.max; unfold maxLen at this; omega
  have hle := hL.le
  have hlen := Lib.hid hL.len
  obtain ⟨W0, hW0⟩ : ∃ W0, W0 = w.alloc (.cells #[.int .i64 0, .int .i64 0] 25) := ⟨_, rfl⟩
  have kZ : Blk W0 w.heap.size #[.int .i64 0, .int .i64 0] 25 := hW0 ▸ Blk.new w _ _
  have hB0 : RowKit.Below w.heap.size w W0 := hW0 ▸ (Below.refl _ w).alloc (Nat.le_refl _) _
  have hL0 := hL.below hB0
  obtain ⟨r, hr⟩ : ∃ r, r = shareAt xs p := ⟨_, rfl⟩
  rw [← hr]
  have Hr := Lib.hid hr
  clear hr hL
  go_enter Tryz.func44, Tryz.ntmps44
  go_upto_region 1 with fail
  rw [← hW0]
  clear hW0
  obtain ⟨bz, hbz⟩ : ∃ b, b = w.heap.size := ⟨_, rfl⟩
  have Hge := Lib.hid (Nat.le_of_eq hbz.symm)
  rw [← hbz] at kZ ⊢
  clear hbz
  go_wp2_with (fail)
  go_loopw [9] (fun i wr => ∃ k : Nat, k ≤ n ∧ i = .int .i64 k ∧ RowKit.Below W0.heap.size W0 wr ∧ Hid ((xs.take k).find? (fun y => decide (y.party = p)) = none)) (fun i _ => n - (intOf i).toNat)
  case atStart => exact ⟨0, Nat.zero_le _, rfl, Below.refl _ _, Lib.hid (by simp)⟩
  case round =>
    obtain ⟨k, hk, rfl, hB, Ht⟩ := hrel
    have kZr := kZ.below' hB
    have hBw := hB0.trans (hB.mono hB0.size)
    by_cases hlt : k < n
    · have hltz : (k : Int) < (n : Int) := by omega
      obtain ⟨x, hx⟩ : ∃ x, xs[k]? = some x := ⟨xs[k]'(by rw [hlen.out]; exact hlt), by simp⟩
      obtain ⟨b, off, rfl, hb, hr⟩ := hL0.at_ k x hx
      have hr' := rangeAt_below hB hb hr
      obtain ⟨w1, hw1⟩ : ∃ w1, w1 = wr.alloc (.cells (cT x).toArray 66) := ⟨_, rfl⟩
      have kx : Blk w1 wr.heap.size (cT x).toArray 66 := hw1 ▸ Blk.new _ _ _
      have kZ1 : Blk w1 bz #[.int .i64 0, .int .i64 0] 25 := hw1 ▸ kZr.alloc _
      have hB1 : RowKit.Below W0.heap.size W0 w1 := hw1 ▸ hB.alloc hB.size _
      have hBw1 := hB0.trans (hB1.mono hB0.size)
      clear hr kZr hBw
      go_upto_region 4 with (first
        | (refine wpList_load_mid rfl 66 (.tmp 11) rfl b (off + k * 3) rfl (cT x) _ hr' Tryz.underlying66 rfl (by kernel_rfl) ?_; clear hr')
        | fail)
      rw [← hw1]
      clear hw1
      have cx := kx.cell
      by_cases e : x.party = p
      · have g : (x.party == p) = true := by simpa using e
        have hrs : r = x.share := Hr.out.trans (shareAt_at Ht.out hx e)
        subst hrs
        have eZ := kZ1.cell
        have gZ := kZ1.frozen
        have lZ := kZ1.lt
        clear hx Ht Hr e
        go_wp2_with (fail)
        rw [putF]
        have kF : Blk (w1.setCells bz 0 (cF x.share)) bz (cF x.share).toArray 25 := kZ1.setCells 0 (cF x.share)
        (try simp only [Exit.inBlock, Exit.then])
        refine bodyPost_ret (results_cell_one rfl _ _ bz 25 (cF x.share) _ rfl kF Tryz.underlying25 rfl (by kernel_rfl)) rfl ?_
        exact ⟨rfl, below_setCells hBw1 Hge.out 0 _⟩
      · have g : (x.party == p) = false := by simpa using e
        have Hn := Lib.hid (find_on7 Ht.out hx (by simpa using e))
        have HB1 := Lib.hid hB1
        clear hx Ht Hr e hB1 hBw1 kZ1 kx
        go_wp2_with (fail)
        go_roundw
        case rel => exact ⟨k + 1, by omega, by go_num, HB1.out, Hn⟩
        case measure => simp [intOf]; omega
    · obtain rfl : k = n := by omega
      have hrs : r = ⟨0, 1⟩ := by
        have h := Ht.out
        rw [List.take_of_length_le (by rw [hlen.out]; exact Nat.le_refl _)] at h
        exact Hr.out.trans (shareAt_none h)
      subst hrs
      have hz : ¬ (k : Int) < (k : Int) := by omega
      have hf := fun W => fD_any 0 1 W
      clear Ht Hr
      go_wp2_with (fail)
      refine (hf _).mono ?_
      rintro e w2 ⟨rfl, hB2⟩
      have kZ2 := kZr.below' hB2
      have hb2 := hBw.trans (hB2.mono hBw.size)
      have eZ := kZ2.cell
      have gZ := kZ2.frozen
      have lZ := kZ2.lt
      clear kZr hBw hB2
      go_wp2_with (fail)
      rw [putF1]
      have kF : Blk (w2.setCells bz 0 (cF ⟨0, 1⟩)) bz (cF ⟨0, 1⟩).toArray 25 := kZ2.setCells 0 (cF ⟨0, 1⟩)
      (try simp only [Exit.inBlock, Exit.then])
      refine bodyPost_ret (results_cell_one rfl _ _ bz 25 (cF ⟨0, 1⟩) _ rfl kF Tryz.underlying25 rfl (by kernel_rfl)) rfl ?_
      exact ⟨rfl, below_setCells hb2 Hge.out 0 _⟩

theorem rangeT_shareV {W : World} {b : Nat} {x : Title} (k : Blk W b (cT x).toArray 66) : W.rangeAt b 1 (cF x.share) := by
  intro j v hv
  rw [show 1 + j = j + 1 by omega]
  have := k.cell (j + 1)
  rw [this]
  rcases j with _ | _ | j <;> simp at hv <;> subst hv <;> rfl

set_option maxRecDepth 100000 in
set_option maxHeartbeats 1600000 in
theorem sumT_any (a : Option Addr) (n cap : Nat) (xs : List Title) (w : World) (hn : n ≤ 60) (hL : Lst w 3 cT a n cap xs) :
    Calls Tryz.prog 46 #[.slice a n cap] w (Gives w (.tuple #[aF (sumOf (xs.map Title.share)).1, .bool (decide ((sumOf (xs.map Title.share)).2 = 0))])) := by
  have hm : cap ≤ 9223372036854775807 := by have := hL.max; unfold maxLen at this; omega
  have hle := hL.le
  have hlen := Lib.hid hL.len
  obtain ⟨i0, hi0, hz0, hz1, hz2⟩ := info_parts infoFr
  obtain ⟨W0, hW0⟩ : ∃ W0, W0 = w.alloc (.cells #[.int .i64 0, .int .i64 0] 25) := ⟨_, rfl⟩
  have kZ : Blk W0 w.heap.size #[.int .i64 0, .int .i64 0] 25 := hW0 ▸ Blk.new w _ _
  have hB0 : RowKit.Below w.heap.size w W0 := hW0 ▸ (Below.refl _ w).alloc (Nat.le_refl _) _
  have hL0 := hL.below hB0
  clear hL
  go_enter Tryz.func46, Tryz.ntmps46
  go_upto_region 1 with fail
  rw [← hW0]
  clear hW0
  obtain ⟨bz, hbz⟩ : ∃ b, b = w.heap.size := ⟨_, rfl⟩
  have Hge := Lib.hid (Nat.le_of_eq hbz.symm)
  rw [← hbz] at kZ ⊢
  clear hbz
  go_wp2_with (fail)
  go_loopw [4, 11] (fun o i wr => ∃ k : Nat, k ≤ n ∧ i = .int .i64 k ∧ wr.ownsRow W0.heap.size 25 2 o k (((xs.take k).map Title.share).flatMap cF) ∧ RowKit.Below W0.heap.size W0 wr) (fun _ i _ => n - (intOf i).toNat)
  case atStart => exact ⟨0, Nat.zero_le _, rfl, ⟨by simp, .inl ⟨rfl, rfl⟩⟩, Below.refl _ _⟩
  case round =>
    obtain ⟨k, hk, rfl, hown, hB⟩ := hrel
    by_cases hlt : k < n
    · have hltz : (k : Int) < (n : Int) := by omega
      obtain ⟨x, hx⟩ : ∃ x, xs[k]? = some x := ⟨xs[k]'(by rw [hlen.out]; exact hlt), by simp⟩
      obtain ⟨b, off, rfl, hb, hr⟩ := hL0.at_ k x hx
      have hr' := rangeAt_below hB hb hr
      have htk : (xs.take (k + 1)).map Title.share = (xs.take k).map Title.share ++ [x.share] := by
        obtain ⟨h1, h2⟩ := List.getElem?_eq_some_iff.1 hx
        rw [List.take_succ_eq_append_getElem h1, h2, List.map_append]; rfl
      have Htk := Lib.hid htk
      obtain ⟨w1, hw1⟩ : ∃ w1, w1 = wr.alloc (.cells (cT x).toArray 66) := ⟨_, rfl⟩
      have kx : Blk w1 wr.heap.size (cT x).toArray 66 := hw1 ▸ Blk.new _ _ _
      have Hown := Lib.hid (show w1.ownsRow W0.heap.size 25 2 _ k (((xs.take k).map Title.share).flatMap cF) from hw1 ▸ hown.alloc _)
      have hB1 : RowKit.Below W0.heap.size W0 w1 := hw1 ▸ hB.alloc hB.size _
      clear hr hx htk hown
      go_upto_region 5 with (first
        | (refine wpList_load_mid rfl 66 (.tmp 13) rfl b (off + k * 3) rfl (cT x) _ hr' Tryz.underlying66 rfl (by kernel_rfl) ?_; clear hr')
        | fail)
      rw [← hw1]
      clear hw1 hB
      have hsh := rangeT_shareV kx
      go_wp2_with (first
        | (refine wpList_load_mid rfl 25 (.tmp 16) rfl wr.heap.size 1 rfl (cF x.share) _ hsh Tryz.underlying25 rfl (by kernel_rfl) ?_; clear hsh)
        | (at_builtin; refine wpList_append_list rfl _ _ _ rfl W0.heap.size 25 i0 _ 2 16 Tryz.underlying22 hi0 hz0 hz1 hz2 rfl (by omega) _ _ _ rfl (Hown.out.alloc _) cF (fun _ => rfl) cF_one _ 1 _ [x.share] rfl (Lst.one (Blk.new _ _ _)) (by unfold maxLen; omega) (by omega) (by have := hB1.size; simp; omega) ?_; intro v5 w5 hown5 hgrow5; have hB5 := below_of_grown (hB1.alloc hB1.size _) (Nat.le_refl _) hgrow5 (own_ge' Hown.out))
        | fail)
      go_roundw
      case rel => exact ⟨k + 1, by omega, by go_num, by rw [Htk.out, List.flatMap_append]; exact hown5, hB5⟩
      case measure => simp [intOf]; omega
    · obtain rfl : k = n := by omega
      have hz : ¬ (k : Int) < (k : Int) := by omega
      rw [List.take_of_length_le (by rw [hlen.out]; exact Nat.le_refl _)] at hown
      obtain ⟨a1, p1, rfl, _, hL1⟩ := Lst.of_owns (xs := xs.map Title.share) (k := 2) (enc := cF) (fun _ => rfl) (by omega) hown (by rw [List.length_map, hlen.out])
      have hs := sum_any _ _ _ _ _ hL1
      have kZr := kZ.below' hB
      have hBw := hB0.trans (hB.mono hB0.size)
      generalize sumOf (xs.map Title.share) = so at *
      obtain ⟨s, es⟩ := so
      dsimp only at hs ⊢
      obtain ⟨eb, heb⟩ : ∃ eb, eb = decide (es = 0) := ⟨_, rfl⟩
      have hee : (es == 0) = eb := by rw [heb]; rfl
      have Heb := Lib.hid heb
      clear hown hL1 hL0 kZ hB heb
      go_wp2_with (fail)
      refine hs.mono ?_
      clear hs
      rintro e w2 ⟨rfl, hB2⟩
      have kZ2 := (kZr.below' hB2).alloc (.cells #[.int .i64 s.num, .int .i64 s.den] 25)
      have hb2 := hBw.trans (hB2.mono hBw.size)
      have hb3 := hb2.alloc hb2.size (.cells #[.int .i64 s.num, .int .i64 s.den] 25)
      have kS := Blk.new w2 25 #[.int .i64 s.num, .int .i64 s.den]
      obtain ⟨w3, hw3⟩ : ∃ w3, w3 = w2.alloc (.cells #[.int .i64 s.num, .int .i64 s.den] 25) := ⟨_, rfl⟩
      rw [← hw3] at kZ2 hb3 kS
      clear kZr hBw hB2 hb2
      go_upto_region 8 with fail
      rw [← hw3]
      clear hw3
      have eZ := kZ2.cell
      have gZ := kZ2.frozen
      have lZ := kZ2.lt
      have cS := kS.cell
      go_wp2_with (fail)
      rw [putF]
      have kF : Blk (w3.setCells bz 0 (cF s)) bz (cF s).toArray 25 := kZ2.setCells 0 (cF s)
      (try simp only [Exit.inBlock, Exit.then]); refine bodyPost_ret (results_cell_tmp rfl _ _ bz 25 (cF s) _ rfl kF Tryz.underlying25 rfl (by kernel_rfl)) rfl ?_
      exact ⟨by rw [Heb.out]; rfl, below_setCells hb3 Hge.out 0 _⟩

end Go.Proofs.YtmeomhojbobpbaaGreatDoor
