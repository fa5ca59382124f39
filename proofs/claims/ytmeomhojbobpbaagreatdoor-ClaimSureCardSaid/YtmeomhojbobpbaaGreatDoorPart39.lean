import Derived.Test.YtmeomhojbobpbaaGreatDoorPart37
import Derived.Test.YtmeomhojbobpbaaGreatDoorPart38
import Derived.Test.YtmeomhojbobpbaaGreatDoorPart08
import Derived.Deep.CutRange
import Derived.Deep.DeepCutAuto
/-
  Walk: claim.ends: the shares of lists of titles, by party, in a map of slices.
-/
namespace Go.Proofs.YtmeomhojbobpbaaGreatDoor
open Go.RowKit Lg Go.Sort Go.Shelf Go.Maps

theorem infoFr : (Tryz.prog.info? 25).map (fun i => (i.zero, i.size, i.bytes)) = some (some (.agg #[.int .i64 0, .int .i64 0]), 2, 16) := by kernel_rfl

/-- What ends gives. -/
def EndsR (w : World) (xss : List (List Title)) (e : Ending) (w' : World) : Prop :=
  RowKit.Below w.heap.size w w' ∧ ((endsE xss = 0 ∧ ∃ nm F, e = .returned (.tuple #[.map (some w.heap.size), .int .i64 0]) ∧ Grp (w.heap.size + 1) w.heap.size nm F xss.flatten w') ∨ (endsE xss ≠ 0 ∧ e = .returned (.tuple #[.map none, .int .i64 (endsE xss)])))

set_option maxRecDepth 100000 in
set_option maxHeartbeats 6400000 in
theorem endsD_any (a : Option Addr) (n cap : Nat) (xss : List (List Title)) (w : World) (hL : LstL w a n cap xss) (h50 : ∀ xs ∈ xss, xs.length ≤ 50) :
    Calls Tryz.prog 153 #[.slice a n cap] w (EndsR w xss) := by
  obtain ⟨i0, hi0, hz0, hz1, hz2⟩ := info_parts infoFr
  obtain ⟨hlen, hle, hmax⟩ := hL.facts
  have hm : cap ≤ 9223372036854775807 := by unfold maxLen at hmax; omega
  by_cases hn : 1000 < n
  · have he : endsE xss = 2 := by unfold endsE; rw [if_pos (by omega)]
    have hz : (1000 : Int) < (n : Int) := by omega
    have He := Lib.hid he
    clear hL he hlen h50
    go_enter Tryz.func153, Tryz.ntmps153
    go_wp2
    go_ret2
    exact ⟨Below.refl _ _, .inr ⟨by rw [He.out]; decide, by rw [He.out]; rfl⟩⟩
  · have hz : ¬ (1000 : Int) < (n : Int) := by omega
    have hmm : ∀ W : World, (Instr.makeMap 166 none).run Tryz.prog W = .ok (.map (some W.heap.size)) (W.alloc (.map #[] 0)) := fun W => run_makeMap _ W
    have hG0 := Grp.made (w.heap.size + 1) w
    have hB0 : RowKit.Below w.heap.size w (w.alloc (.map #[] 0)) := (Below.refl _ w).alloc (Nat.le_refl _) _
    have hs0 : (w.alloc (.map #[] 0)).heap.size = w.heap.size + 1 := by simp
    have Hlen := Lib.hid hlen
    have H50 := Lib.hid h50
    have HL := Lib.hid hL
    clear hL h50 hlen
    obtain ⟨w0, hw0⟩ : ∃ w0, w0 = w.alloc (.map #[] 0) := ⟨_, rfl⟩
    rw [← hw0] at hG0 hB0 hs0
    go_enter Tryz.func153, Tryz.ntmps153
    go_upto_region 4 with fail
    rw [← hw0]
    clear hw0 hmm
    obtain ⟨bmp, hbmp⟩ : ∃ b, b = w.heap.size := ⟨_, rfl⟩
    have Hbe := Lib.hid hbmp
    rw [← hbmp] at hG0 hs0 ⊢
    have hbw : w.heap.size ≤ bmp := by omega
    clear hbmp
    go_wp2
    go_loopw [16] (fun s16 wr => ∃ (i nm : Nat) (F : Int → Value), i ≤ n ∧ s16 = .int .i64 i ∧ Hid (∀ xs ∈ xss.take i, listOk xs = true) ∧ Grp (bmp + 1) bmp nm F (xss.take i).flatten wr ∧ nm ≤ i * 50 ∧ RowKit.Below w.heap.size w wr ∧ bmp + 1 ≤ wr.heap.size) (fun s16 _ => n - (intOf s16).toNat)
    case atStart => exact ⟨0, 0, _, Nat.zero_le _, rfl, Lib.hid (by simp), hG0, Nat.zero_le _, hB0, by omega⟩
    case round =>
      clear hG0 hB0 hs0
      obtain ⟨i, nm0, F0, hi, rfl, HO, hG, hnm0, hB, hbs⟩ := hrel
      by_cases hlt : i < n
      · obtain ⟨xs, hx⟩ : ∃ xs, xss[i]? = some xs := ⟨xss[i]'(by have := Hlen.out; omega), by simp⟩
        obtain ⟨b, off, rfl, hb, ai, m, c2, hci, hLi⟩ := HL.out.at_ i xs hx
        have hxl : xs.length ≤ 50 := H50.out xs (List.mem_of_getElem? hx)
        have hcw : wr.cell? ⟨b, off + i, none⟩ = some (.slice ai m c2) := (hB.cell (p := ⟨b, off + i, none⟩) hb).trans hci
        have Hml := Lib.hid hLi.len
        have hmle := hLi.le
        have hm50 : m ≤ 50 := by have := Hml.out; omega
        have hmm2 : c2 ≤ 9223372036854775807 := by have := hLi.max; unfold maxLen at this; omega
        have hlz : (i : Int) < (n : Int) := by omega
        have hts : (xss.take i).flatten.length ≤ i * 50 := by
          have h1 := flat_le (fun y hy => H50.out y (List.mem_of_mem_take hy) : ∀ y ∈ xss.take i, y.length ≤ 50)
          rw [List.length_take] at h1
          have := Nat.min_le_left i xss.length
          exact Nat.le_trans h1 (Nat.mul_le_mul_right 50 this)
        have Hx := Lib.hid hx
        obtain ⟨ts0, hts0⟩ : ∃ ts0, ts0 = (xss.take i).flatten := ⟨_, rfl⟩
        have Hts0 := Lib.hid hts0
        rw [← hts0] at hG hts
        clear hx hci hts0
        obtain ⟨wo, hwo⟩ : ∃ wo, wo = wr := ⟨_, rfl⟩
        subst hwo
        go_wp2
        clear hcw
        go_loopw [22] (fun s22 wr => ∃ (k nm : Nat) (F : Int → Value), k ≤ m ∧ s22 = .int .i64 k ∧ Hid (∀ q t, q < k → xs[q]? = some t → okAt xs q t = true) ∧ Grp (bmp + 1) bmp nm F (ts0 ++ xs.take k) wr ∧ nm ≤ i * 50 + k ∧ RowKit.Below w.heap.size w wr ∧ bmp + 1 ≤ wr.heap.size) (fun s22 _ => m - (intOf s22).toNat)
        case atStart => exact ⟨0, nm0, F0, Nat.zero_le _, rfl, Lib.hid (fun q t h => absurd h (Nat.not_lt_zero _)), by rw [List.take_zero, List.append_nil]; exact hG, by omega, hB, hbs⟩
        case round =>
          clear hG hB hbs hnm0
          obtain ⟨k, nm, F, hk, rfl, HQ, hG, hnm, hB, hbs⟩ := hrel
          by_cases hkm : k < m
          · obtain ⟨x, hx⟩ : ∃ x, xs[k]? = some x := ⟨xs[k]'(by have := Hml.out; omega), by simp⟩
            obtain ⟨b2, off2, rfl, hb2, hr2⟩ := hLi.at_ k x hx
            have hr := rangeAt_below hB hb2 hr2
            have hkz0 : (k : Int) < (m : Int) := by omega
            have Hxk := Lib.hid hx
            obtain ⟨W1, hW1⟩ : ∃ W1, W1 = wr.alloc (.cells (cT x).toArray 66) := ⟨_, rfl⟩
            have kX : Blk W1 wr.heap.size (cT x).toArray 66 := hW1 ▸ Blk.new _ _ _
            have hBr1 : RowKit.Below wr.heap.size wr W1 := hW1 ▸ (Below.refl _ wr).alloc (Nat.le_refl _) _
            clear hx hr2
            go_upto_region 10 with (first
              | (refine wpList_load_mid rfl 66 (.tmp 25) rfl b2 (off2 + k * 3) rfl (cT x) _ hr Tryz.underlying66 rfl (by kernel_rfl) ?_; clear hr)
              | fail)
            rw [← hW1]
            clear hW1
            obtain ⟨bx, hbx⟩ : ∃ b, b = wr.heap.size := ⟨_, rfl⟩
            rw [← hbx] at kX ⊢
            have hbxs : bmp + 1 ≤ bx := by omega
            clear hbx
            have hb1 : RowKit.Below w.heap.size w W1 := hB.trans (hBr1.mono hB.size)
            have hG1 := hG.below (by omega) hBr1
            have hs1 := hb1.size
            have hl1 := kX.lt
            clear hG hB hbs hBr1
            have HX := Lib.hid (fun W' (h : RowKit.Below W1.heap.size W1 W') => kX.below' h)
            go_cut [9] (fun c9 W' => c9 = .bool (inn x.party 0 40 && (decide (k = 0) || decide ((xs.getD (k - 1) x).party < x.party))) ∧ RowKit.Below W1.heap.size W1 W')
            case first =>
              clear kX hG1 HQ HO H50
              cases hin : inn x.party 0 40 with
              | false =>
                refine wp_region_T (fun W' => RowKit.Below W1.heap.size W1 W') (fun _ => True) 99 (by kernel_rfl) (Below.refl _ _).drew trivial (fun hS hT => ?_)
                refine wpAnyT_takeS (i := 0) (v := .pointer (some ⟨bx, 0, none⟩)) rfl (by kernel_rfl) (by kernel_rfl) (by kernel_rfl) rfl (fun _ _ _ h => h) (Or.inl ⟨by kernel_rfl, fun _ _ => by kernel_rfl⟩) hS (fun _ => trivial) ?_
                try simp only [List.getElem_toArray, List.getElem_cons_zero]
                try dsimp only
                try simp only [Act.put, List.setIfInBounds_toArray, List.set_cons_zero, List.set_cons_succ]
                refine wpAnyT_takeS (i := 1) (v := .int .i64 x.party) rfl (by kernel_rfl) (by kernel_rfl) (by kernel_rfl) rfl (fun _ _ _ h => h) (Or.inl ⟨by kernel_rfl, fun W hW => by have e := (HX.out W hW).cell 0; go_simp⟩) hS (fun _ => trivial) ?_
                try simp only [List.getElem_toArray, List.getElem_cons_succ, List.getElem_cons_zero]
                try dsimp only
                try simp only [Act.put, List.setIfInBounds_toArray, List.set_cons_zero, List.set_cons_succ]
                refine wpAnyT_one (j := 2) rfl (by kernel_rfl) (by kernel_rfl) (fun K hK => ?_)
                go_simp
                refine (within5_any x.party 0 40 _).mono ?_
                rintro e w3 ⟨rfl, rfl⟩
                rw [hin]
                refine hK.out _ _ hS (fun _ => trivial) ?_
                try simp only [List.getElem_toArray, List.getElem_cons_succ, List.getElem_cons_zero]
                try dsimp only
                try simp only [Act.put, List.setIfInBounds_toArray, List.set_cons_zero, List.set_cons_succ]
                refine wpAnyT_takeS (i := 3) (v := .bool false) rfl (by kernel_rfl) (by kernel_rfl) (by kernel_rfl) rfl (fun _ _ _ h => h) (Or.inl ⟨by kernel_rfl, fun _ _ => by kernel_rfl⟩) hS (fun _ => trivial) ?_
                try simp only [List.getElem_toArray, List.getElem_cons_succ, List.getElem_cons_zero]
                try dsimp only
                try simp only [Act.put, List.setIfInBounds_toArray, List.set_cons_zero, List.set_cons_succ]
                refine wpAnyT_takeS (i := 4) (v := undef) rfl (by kernel_rfl) (by kernel_rfl) (by kernel_rfl) rfl (fun _ _ _ h => h) (Or.inr ⟨by kernel_rfl, rfl⟩) hS (fun _ => trivial) ?_
                try simp only [List.getElem_toArray, List.getElem_cons_succ, List.getElem_cons_zero]
                try dsimp only
                try simp only [Act.put, List.setIfInBounds_toArray, List.set_cons_zero, List.set_cons_succ]
                refine wpAnyT_takeS (i := 5) (v := undef) rfl (by kernel_rfl) (by kernel_rfl) (by kernel_rfl) rfl (fun _ _ _ h => h) (Or.inr ⟨by kernel_rfl, rfl⟩) hS (fun _ => trivial) ?_
                try simp only [List.getElem_toArray, List.getElem_cons_succ, List.getElem_cons_zero]
                try dsimp only
                try simp only [Act.put, List.setIfInBounds_toArray, List.set_cons_zero, List.set_cons_succ]
                refine wpAnyT_takeS (i := 6) (v := undef) rfl (by kernel_rfl) (by kernel_rfl) (by kernel_rfl) rfl (fun _ _ _ h => h) (Or.inr ⟨by kernel_rfl, rfl⟩) hS (fun _ => trivial) ?_
                try simp only [List.getElem_toArray, List.getElem_cons_succ, List.getElem_cons_zero]
                try dsimp only
                try simp only [Act.put, List.setIfInBounds_toArray, List.set_cons_zero, List.set_cons_succ]
                refine wpAnyT_takeS (i := 7) (v := undef) rfl (by kernel_rfl) (by kernel_rfl) (by kernel_rfl) rfl (fun _ _ _ h => h) (Or.inr ⟨by kernel_rfl, rfl⟩) hS (fun _ => trivial) ?_
                try simp only [List.getElem_toArray, List.getElem_cons_succ, List.getElem_cons_zero]
                try dsimp only
                try simp only [Act.put, List.setIfInBounds_toArray, List.set_cons_zero, List.set_cons_succ]
                refine wpAnyT_takeS (i := 8) (v := undef) rfl (by kernel_rfl) (by kernel_rfl) (by kernel_rfl) rfl (fun _ _ _ h => h) (Or.inr ⟨by kernel_rfl, rfl⟩) hS (fun _ => trivial) ?_
                try simp only [List.getElem_toArray, List.getElem_cons_succ, List.getElem_cons_zero]
                try dsimp only
                try simp only [Act.put, List.setIfInBounds_toArray, List.set_cons_zero, List.set_cons_succ]
                refine wpAnyT_takeS (i := 9) (v := undef) rfl (by kernel_rfl) (by kernel_rfl) (by kernel_rfl) rfl (fun _ _ _ h => h) (Or.inr ⟨by kernel_rfl, rfl⟩) hS (fun _ => trivial) ?_
                try simp only [List.getElem_toArray, List.getElem_cons_succ, List.getElem_cons_zero]
                try dsimp only
                try simp only [Act.put, List.setIfInBounds_toArray, List.set_cons_zero, List.set_cons_succ]
                refine wpAnyT_takeS (i := 10) (v := undef) rfl (by kernel_rfl) (by kernel_rfl) (by kernel_rfl) rfl (fun _ _ _ h => h) (Or.inr ⟨by kernel_rfl, rfl⟩) hS (fun _ => trivial) ?_
                try simp only [List.getElem_toArray, List.getElem_cons_succ, List.getElem_cons_zero]
                try dsimp only
                try simp only [Act.put, List.setIfInBounds_toArray, List.set_cons_zero, List.set_cons_succ]
                refine wpAnyT_takeS (i := 11) (v := undef) rfl (by kernel_rfl) (by kernel_rfl) (by kernel_rfl) rfl (fun _ _ _ h => h) (Or.inr ⟨by kernel_rfl, rfl⟩) hS (fun _ => trivial) ?_
                try simp only [List.getElem_toArray, List.getElem_cons_succ, List.getElem_cons_zero]
                try dsimp only
                try simp only [Act.put, List.setIfInBounds_toArray, List.set_cons_zero, List.set_cons_succ]
                refine wpAnyT_takeS (i := 12) (v := undef) rfl (by kernel_rfl) (by kernel_rfl) (by kernel_rfl) rfl (fun _ _ _ h => h) (Or.inr ⟨by kernel_rfl, rfl⟩) hS (fun _ => trivial) ?_
                try simp only [List.getElem_toArray, List.getElem_cons_succ, List.getElem_cons_zero]
                try dsimp only
                try simp only [Act.put, List.setIfInBounds_toArray, List.set_cons_zero, List.set_cons_succ]
                refine wpAnyT_takeS (i := 13) (v := undef) rfl (by kernel_rfl) (by kernel_rfl) (by kernel_rfl) rfl (fun _ _ _ h => h) (Or.inr ⟨by kernel_rfl, rfl⟩) hS (fun _ => trivial) ?_
                try simp only [List.getElem_toArray, List.getElem_cons_succ, List.getElem_cons_zero]
                try dsimp only
                try simp only [Act.put, List.setIfInBounds_toArray, List.set_cons_zero, List.set_cons_succ]
                refine wpAnyT_takeS (i := 14) (v := undef) rfl (by kernel_rfl) (by kernel_rfl) (by kernel_rfl) rfl (fun _ _ _ h => h) (Or.inr ⟨by kernel_rfl, rfl⟩) hS (fun _ => trivial) ?_
                try simp only [List.getElem_toArray, List.getElem_cons_succ, List.getElem_cons_zero]
                try dsimp only
                try simp only [Act.put, List.setIfInBounds_toArray, List.set_cons_zero, List.set_cons_succ]
                refine wpAnyT_takeS (i := 15) (v := undef) rfl (by kernel_rfl) (by kernel_rfl) (by kernel_rfl) rfl (fun _ _ _ h => h) (Or.inr ⟨by kernel_rfl, rfl⟩) hS (fun _ => trivial) ?_
                try simp only [List.getElem_toArray, List.getElem_cons_succ, List.getElem_cons_zero]
                try dsimp only
                try simp only [Act.put, List.setIfInBounds_toArray, List.set_cons_zero, List.set_cons_succ]
                refine wpAnyT_takeS (i := 16) (v := undef) rfl (by kernel_rfl) (by kernel_rfl) (by kernel_rfl) rfl (fun _ _ _ h => h) (Or.inr ⟨by kernel_rfl, rfl⟩) hS (fun _ => trivial) ?_
                try simp only [List.getElem_toArray, List.getElem_cons_succ, List.getElem_cons_zero]
                try dsimp only
                try simp only [Act.put, List.setIfInBounds_toArray, List.set_cons_zero, List.set_cons_succ]
                refine wpAnyT_takeS (i := 17) (v := .bool false) rfl (by kernel_rfl) (by kernel_rfl) (by kernel_rfl) rfl (fun _ _ _ h => h) (Or.inl ⟨by kernel_rfl, fun W hW => by go_simp⟩) hS (fun _ => trivial) ?_
                try simp only [List.getElem_toArray, List.getElem_cons_succ, List.getElem_cons_zero]
                try dsimp only
                try simp only [Act.put, List.setIfInBounds_toArray, List.set_cons_zero, List.set_cons_succ]
                refine wpAnyT_takeS (i := 18) (v := .bool false) rfl (by kernel_rfl) (by kernel_rfl) (by kernel_rfl) rfl (fun _ _ _ h => h) (Or.inl ⟨by kernel_rfl, fun _ _ => by kernel_rfl⟩) hS (fun _ => trivial) ?_
                try simp only [List.getElem_toArray, List.getElem_cons_succ, List.getElem_cons_zero]
                try dsimp only
                try simp only [Act.put, List.setIfInBounds_toArray, List.set_cons_zero, List.set_cons_succ]
                refine wpAnyT_done (by kernel_rfl) ?_ _
                go_wp2_with fail
                go_meet
                exact ⟨by rw [hin]; rfl, hS⟩
              | true =>
                by_cases hk0 : k = 0
                · subst hk0
                  refine wp_region_T (fun W' => RowKit.Below W1.heap.size W1 W') (fun _ => True) 99 (by kernel_rfl) (Below.refl _ _).drew trivial (fun hS hT => ?_)
                  refine wpAnyT_takeS (i := 0) (v := .pointer (some ⟨bx, 0, none⟩)) rfl (by kernel_rfl) (by kernel_rfl) (by kernel_rfl) rfl (fun _ _ _ h => h) (Or.inl ⟨by kernel_rfl, fun _ _ => by kernel_rfl⟩) hS (fun _ => trivial) ?_
                  try simp only [List.getElem_toArray, List.getElem_cons_zero]
                  try dsimp only
                  try simp only [Act.put, List.setIfInBounds_toArray, List.set_cons_zero, List.set_cons_succ]
                  refine wpAnyT_takeS (i := 1) (v := .int .i64 x.party) rfl (by kernel_rfl) (by kernel_rfl) (by kernel_rfl) rfl (fun _ _ _ h => h) (Or.inl ⟨by kernel_rfl, fun W hW => by have e := (HX.out W hW).cell 0; go_simp⟩) hS (fun _ => trivial) ?_
                  try simp only [List.getElem_toArray, List.getElem_cons_succ, List.getElem_cons_zero]
                  try dsimp only
                  try simp only [Act.put, List.setIfInBounds_toArray, List.set_cons_zero, List.set_cons_succ]
                  refine wpAnyT_one (j := 2) rfl (by kernel_rfl) (by kernel_rfl) (fun K hK => ?_)
                  go_simp
                  refine (within5_any x.party 0 40 _).mono ?_
                  rintro e w3 ⟨rfl, rfl⟩
                  rw [hin]
                  refine hK.out _ _ hS (fun _ => trivial) ?_
                  try simp only [List.getElem_toArray, List.getElem_cons_succ, List.getElem_cons_zero]
                  try dsimp only
                  try simp only [Act.put, List.setIfInBounds_toArray, List.set_cons_zero, List.set_cons_succ]
                  refine wpAnyT_takeS (i := 3) (v := .bool true) rfl (by kernel_rfl) (by kernel_rfl) (by kernel_rfl) rfl (fun _ _ _ h => h) (Or.inl ⟨by kernel_rfl, fun _ _ => by kernel_rfl⟩) hS (fun _ => trivial) ?_
                  try simp only [List.getElem_toArray, List.getElem_cons_succ, List.getElem_cons_zero]
                  try dsimp only
                  try simp only [Act.put, List.setIfInBounds_toArray, List.set_cons_zero, List.set_cons_succ]
                  refine wpAnyT_takeS (i := 4) (v := .int .i64 (0 : Nat)) rfl (by kernel_rfl) (by kernel_rfl) (by kernel_rfl) rfl (fun _ _ _ h => h) (Or.inl ⟨by kernel_rfl, fun _ _ => by kernel_rfl⟩) hS (fun _ => trivial) ?_
                  try simp only [List.getElem_toArray, List.getElem_cons_succ, List.getElem_cons_zero]
                  try dsimp only
                  try simp only [Act.put, List.setIfInBounds_toArray, List.set_cons_zero, List.set_cons_succ]
                  refine wpAnyT_takeS (i := 5) (v := .bool true) rfl (by kernel_rfl) (by kernel_rfl) (by kernel_rfl) rfl (fun _ _ _ h => h) (Or.inl ⟨by kernel_rfl, fun W hW => by go_simp⟩) hS (fun _ => trivial) ?_
                  try simp only [List.getElem_toArray, List.getElem_cons_succ, List.getElem_cons_zero]
                  try dsimp only
                  try simp only [Act.put, List.setIfInBounds_toArray, List.set_cons_zero, List.set_cons_succ]
                  refine wpAnyT_takeS (i := 6) (v := .bool true) rfl (by kernel_rfl) (by kernel_rfl) (by kernel_rfl) rfl (fun _ _ _ h => h) (Or.inl ⟨by kernel_rfl, fun _ _ => by kernel_rfl⟩) hS (fun _ => trivial) ?_
                  try simp only [List.getElem_toArray, List.getElem_cons_succ, List.getElem_cons_zero]
                  try dsimp only
                  try simp only [Act.put, List.setIfInBounds_toArray, List.set_cons_zero, List.set_cons_succ]
                  refine wpAnyT_takeS (i := 7) (v := undef) rfl (by kernel_rfl) (by kernel_rfl) (by kernel_rfl) rfl (fun _ _ _ h => h) (Or.inr ⟨by kernel_rfl, rfl⟩) hS (fun _ => trivial) ?_
                  try simp only [List.getElem_toArray, List.getElem_cons_succ, List.getElem_cons_zero]
                  try dsimp only
                  try simp only [Act.put, List.setIfInBounds_toArray, List.set_cons_zero, List.set_cons_succ]
                  refine wpAnyT_takeS (i := 8) (v := undef) rfl (by kernel_rfl) (by kernel_rfl) (by kernel_rfl) rfl (fun _ _ _ h => h) (Or.inr ⟨by kernel_rfl, rfl⟩) hS (fun _ => trivial) ?_
                  try simp only [List.getElem_toArray, List.getElem_cons_succ, List.getElem_cons_zero]
                  try dsimp only
                  try simp only [Act.put, List.setIfInBounds_toArray, List.set_cons_zero, List.set_cons_succ]
                  refine wpAnyT_takeS (i := 9) (v := undef) rfl (by kernel_rfl) (by kernel_rfl) (by kernel_rfl) rfl (fun _ _ _ h => h) (Or.inr ⟨by kernel_rfl, rfl⟩) hS (fun _ => trivial) ?_
                  try simp only [List.getElem_toArray, List.getElem_cons_succ, List.getElem_cons_zero]
                  try dsimp only
                  try simp only [Act.put, List.setIfInBounds_toArray, List.set_cons_zero, List.set_cons_succ]
                  refine wpAnyT_takeS (i := 10) (v := undef) rfl (by kernel_rfl) (by kernel_rfl) (by kernel_rfl) rfl (fun _ _ _ h => h) (Or.inr ⟨by kernel_rfl, rfl⟩) hS (fun _ => trivial) ?_
                  try simp only [List.getElem_toArray, List.getElem_cons_succ, List.getElem_cons_zero]
                  try dsimp only
                  try simp only [Act.put, List.setIfInBounds_toArray, List.set_cons_zero, List.set_cons_succ]
                  refine wpAnyT_takeS (i := 11) (v := undef) rfl (by kernel_rfl) (by kernel_rfl) (by kernel_rfl) rfl (fun _ _ _ h => h) (Or.inr ⟨by kernel_rfl, rfl⟩) hS (fun _ => trivial) ?_
                  try simp only [List.getElem_toArray, List.getElem_cons_succ, List.getElem_cons_zero]
                  try dsimp only
                  try simp only [Act.put, List.setIfInBounds_toArray, List.set_cons_zero, List.set_cons_succ]
                  refine wpAnyT_takeS (i := 12) (v := undef) rfl (by kernel_rfl) (by kernel_rfl) (by kernel_rfl) rfl (fun _ _ _ h => h) (Or.inr ⟨by kernel_rfl, rfl⟩) hS (fun _ => trivial) ?_
                  try simp only [List.getElem_toArray, List.getElem_cons_succ, List.getElem_cons_zero]
                  try dsimp only
                  try simp only [Act.put, List.setIfInBounds_toArray, List.set_cons_zero, List.set_cons_succ]
                  refine wpAnyT_takeS (i := 13) (v := undef) rfl (by kernel_rfl) (by kernel_rfl) (by kernel_rfl) rfl (fun _ _ _ h => h) (Or.inr ⟨by kernel_rfl, rfl⟩) hS (fun _ => trivial) ?_
                  try simp only [List.getElem_toArray, List.getElem_cons_succ, List.getElem_cons_zero]
                  try dsimp only
                  try simp only [Act.put, List.setIfInBounds_toArray, List.set_cons_zero, List.set_cons_succ]
                  refine wpAnyT_takeS (i := 14) (v := undef) rfl (by kernel_rfl) (by kernel_rfl) (by kernel_rfl) rfl (fun _ _ _ h => h) (Or.inr ⟨by kernel_rfl, rfl⟩) hS (fun _ => trivial) ?_
                  try simp only [List.getElem_toArray, List.getElem_cons_succ, List.getElem_cons_zero]
                  try dsimp only
                  try simp only [Act.put, List.setIfInBounds_toArray, List.set_cons_zero, List.set_cons_succ]
                  refine wpAnyT_takeS (i := 15) (v := undef) rfl (by kernel_rfl) (by kernel_rfl) (by kernel_rfl) rfl (fun _ _ _ h => h) (Or.inr ⟨by kernel_rfl, rfl⟩) hS (fun _ => trivial) ?_
                  try simp only [List.getElem_toArray, List.getElem_cons_succ, List.getElem_cons_zero]
                  try dsimp only
                  try simp only [Act.put, List.setIfInBounds_toArray, List.set_cons_zero, List.set_cons_succ]
                  refine wpAnyT_takeS (i := 16) (v := .bool true) rfl (by kernel_rfl) (by kernel_rfl) (by kernel_rfl) rfl (fun _ _ _ h => h) (Or.inl ⟨by kernel_rfl, fun W hW => by go_simp⟩) hS (fun _ => trivial) ?_
                  try simp only [List.getElem_toArray, List.getElem_cons_succ, List.getElem_cons_zero]
                  try dsimp only
                  try simp only [Act.put, List.setIfInBounds_toArray, List.set_cons_zero, List.set_cons_succ]
                  refine wpAnyT_takeS (i := 17) (v := .bool true) rfl (by kernel_rfl) (by kernel_rfl) (by kernel_rfl) rfl (fun _ _ _ h => h) (Or.inl ⟨by kernel_rfl, fun W hW => by go_simp⟩) hS (fun _ => trivial) ?_
                  try simp only [List.getElem_toArray, List.getElem_cons_succ, List.getElem_cons_zero]
                  try dsimp only
                  try simp only [Act.put, List.setIfInBounds_toArray, List.set_cons_zero, List.set_cons_succ]
                  refine wpAnyT_takeS (i := 18) (v := .bool true) rfl (by kernel_rfl) (by kernel_rfl) (by kernel_rfl) rfl (fun _ _ _ h => h) (Or.inl ⟨by kernel_rfl, fun _ _ => by kernel_rfl⟩) hS (fun _ => trivial) ?_
                  try simp only [List.getElem_toArray, List.getElem_cons_succ, List.getElem_cons_zero]
                  try dsimp only
                  try simp only [Act.put, List.setIfInBounds_toArray, List.set_cons_zero, List.set_cons_succ]
                  refine wpAnyT_done (by kernel_rfl) ?_ _
                  go_wp2_with fail
                  go_meet
                  exact ⟨by rw [hin]; rfl, hS⟩
                · have hkz : decide (k = 0) = false := by simp [hk0]
                  obtain ⟨j, rfl⟩ : ∃ j, k = j + 1 := ⟨k - 1, by omega⟩
                  obtain ⟨y, hy⟩ : ∃ y, xs[j]? = some y := ⟨xs[j]'(by have := Hml.out; omega), by simp⟩
                  obtain ⟨b3, off3, e3, hb3, hr3⟩ := hLi.at_ j y hy
                  cases e3
                  have HP := Lib.hid (fun W' (h : RowKit.Below W1.heap.size W1 W') => show W'.cell? ⟨b2, off2 + j * 3, none⟩ = some (.int .i64 y.party) from rangeAt_below (hb1.trans (h.mono hs1)) hb3 hr3 0 _ rfl)
                  have hgy : xs.getD (j + 1 - 1) x = y := by rw [Nat.add_sub_cancel, List.getD_eq_getElem?_getD, hy]; rfl
                  have hjz : (j : Int) < (m : Int) := by omega
                  have hjw : IntKind.i64.wrap (j : Int) = (j : Int) := by rw [IntKind.wrap_i64]; omega
                  clear hy hr3
                  refine wp_region_T (fun W' => RowKit.Below W1.heap.size W1 W') (fun _ => True) 99 (by kernel_rfl) (Below.refl _ _).drew trivial (fun hS hT => ?_)
                  refine wpAnyT_takeS (i := 0) (v := .pointer (some ⟨bx, 0, none⟩)) rfl (by kernel_rfl) (by kernel_rfl) (by kernel_rfl) rfl (fun _ _ _ h => h) (Or.inl ⟨by kernel_rfl, fun _ _ => by kernel_rfl⟩) hS (fun _ => trivial) ?_
                  try simp only [List.getElem_toArray, List.getElem_cons_zero]
                  try dsimp only
                  try simp only [Act.put, List.setIfInBounds_toArray, List.set_cons_zero, List.set_cons_succ]
                  refine wpAnyT_takeS (i := 1) (v := .int .i64 x.party) rfl (by kernel_rfl) (by kernel_rfl) (by kernel_rfl) rfl (fun _ _ _ h => h) (Or.inl ⟨by kernel_rfl, fun W hW => by have e := (HX.out W hW).cell 0; go_simp⟩) hS (fun _ => trivial) ?_
                  try simp only [List.getElem_toArray, List.getElem_cons_succ, List.getElem_cons_zero]
                  try dsimp only
                  try simp only [Act.put, List.setIfInBounds_toArray, List.set_cons_zero, List.set_cons_succ]
                  refine wpAnyT_one (j := 2) rfl (by kernel_rfl) (by kernel_rfl) (fun K hK => ?_)
                  go_simp
                  refine (within5_any x.party 0 40 _).mono ?_
                  rintro e w3 ⟨rfl, rfl⟩
                  rw [hin]
                  refine hK.out _ _ hS (fun _ => trivial) ?_
                  try simp only [List.getElem_toArray, List.getElem_cons_succ, List.getElem_cons_zero]
                  try dsimp only
                  try simp only [Act.put, List.setIfInBounds_toArray, List.set_cons_zero, List.set_cons_succ]
                  refine wpAnyT_takeS (i := 3) (v := .bool true) rfl (by kernel_rfl) (by kernel_rfl) (by kernel_rfl) rfl (fun _ _ _ h => h) (Or.inl ⟨by kernel_rfl, fun _ _ => by kernel_rfl⟩) hS (fun _ => trivial) ?_
                  try simp only [List.getElem_toArray, List.getElem_cons_succ, List.getElem_cons_zero]
                  try dsimp only
                  try simp only [Act.put, List.setIfInBounds_toArray, List.set_cons_zero, List.set_cons_succ]
                  refine wpAnyT_takeS (i := 4) (v := .int .i64 ((j + 1 : Nat) : Int)) rfl (by kernel_rfl) (by kernel_rfl) (by kernel_rfl) rfl (fun _ _ _ h => h) (Or.inl ⟨by kernel_rfl, fun _ _ => by kernel_rfl⟩) hS (fun _ => trivial) ?_
                  try simp only [List.getElem_toArray, List.getElem_cons_succ, List.getElem_cons_zero]
                  try dsimp only
                  try simp only [Act.put, List.setIfInBounds_toArray, List.set_cons_zero, List.set_cons_succ]
                  refine wpAnyT_takeS (i := 5) (v := .bool false) rfl (by kernel_rfl) (by kernel_rfl) (by kernel_rfl) rfl (fun _ _ _ h => h) (Or.inl ⟨by kernel_rfl, fun W hW => by go_simp; omega⟩) hS (fun _ => trivial) ?_
                  try simp only [List.getElem_toArray, List.getElem_cons_succ, List.getElem_cons_zero]
                  try dsimp only
                  try simp only [Act.put, List.setIfInBounds_toArray, List.set_cons_zero, List.set_cons_succ]
                  refine wpAnyT_takeS (i := 6) (v := .bool false) rfl (by kernel_rfl) (by kernel_rfl) (by kernel_rfl) rfl (fun _ _ _ h => h) (Or.inl ⟨by kernel_rfl, fun _ _ => by kernel_rfl⟩) hS (fun _ => trivial) ?_
                  try simp only [List.getElem_toArray, List.getElem_cons_succ, List.getElem_cons_zero]
                  try dsimp only
                  try simp only [Act.put, List.setIfInBounds_toArray, List.set_cons_zero, List.set_cons_succ]
                  refine wpAnyT_takeS (i := 7) (v := .slice (some ⟨b2, off2, none⟩) m c2) rfl (by kernel_rfl) (by kernel_rfl) (by kernel_rfl) rfl (fun _ _ _ h => h) (Or.inl ⟨by kernel_rfl, fun _ _ => by kernel_rfl⟩) hS (fun _ => trivial) ?_
                  try simp only [List.getElem_toArray, List.getElem_cons_succ, List.getElem_cons_zero]
                  try dsimp only
                  try simp only [Act.put, List.setIfInBounds_toArray, List.set_cons_zero, List.set_cons_succ]
                  refine wpAnyT_takeS (i := 8) (v := .int .i64 ((j + 1 : Nat) : Int)) rfl (by kernel_rfl) (by kernel_rfl) (by kernel_rfl) rfl (fun _ _ _ h => h) (Or.inl ⟨by kernel_rfl, fun _ _ => by kernel_rfl⟩) hS (fun _ => trivial) ?_
                  try simp only [List.getElem_toArray, List.getElem_cons_succ, List.getElem_cons_zero]
                  try dsimp only
                  try simp only [Act.put, List.setIfInBounds_toArray, List.set_cons_zero, List.set_cons_succ]
                  refine wpAnyT_takeS (i := 9) (v := .int .i64 ((j : Nat) : Int)) rfl (by kernel_rfl) (by kernel_rfl) (by kernel_rfl) rfl (fun _ _ _ h => h) (Or.inl ⟨by kernel_rfl, fun W hW => by go_simp⟩) hS (fun _ => trivial) ?_
                  try simp only [List.getElem_toArray, List.getElem_cons_succ, List.getElem_cons_zero]
                  try dsimp only
                  try simp only [Act.put, List.setIfInBounds_toArray, List.set_cons_zero, List.set_cons_succ]
                  refine wpAnyT_takeS (i := 10) (v := .pointer (some ⟨b2, off2 + j * 3, none⟩)) rfl (by kernel_rfl) (by kernel_rfl) (by kernel_rfl) rfl (fun _ _ _ h => h) (Or.inl ⟨by kernel_rfl, fun W hW => by go_simp⟩) hS (fun _ => trivial) ?_
                  try simp only [List.getElem_toArray, List.getElem_cons_succ, List.getElem_cons_zero]
                  try dsimp only
                  try simp only [Act.put, List.setIfInBounds_toArray, List.set_cons_zero, List.set_cons_succ]
                  refine wpAnyT_takeS (i := 11) (v := .pointer (some ⟨b2, off2 + j * 3, none⟩)) rfl (by kernel_rfl) (by kernel_rfl) (by kernel_rfl) rfl (fun _ _ _ h => h) (Or.inl ⟨by kernel_rfl, fun _ _ => by kernel_rfl⟩) hS (fun _ => trivial) ?_
                  try simp only [List.getElem_toArray, List.getElem_cons_succ, List.getElem_cons_zero]
                  try dsimp only
                  try simp only [Act.put, List.setIfInBounds_toArray, List.set_cons_zero, List.set_cons_succ]
                  refine wpAnyT_takeS (i := 12) (v := .int .i64 y.party) rfl (by kernel_rfl) (by kernel_rfl) (by kernel_rfl) rfl (fun _ _ _ h => h) (Or.inl ⟨by kernel_rfl, fun W hW => by have e := HP.out W hW; go_simp⟩) hS (fun _ => trivial) ?_
                  try simp only [List.getElem_toArray, List.getElem_cons_succ, List.getElem_cons_zero]
                  try dsimp only
                  try simp only [Act.put, List.setIfInBounds_toArray, List.set_cons_zero, List.set_cons_succ]
                  refine wpAnyT_takeS (i := 13) (v := .pointer (some ⟨bx, 0, none⟩)) rfl (by kernel_rfl) (by kernel_rfl) (by kernel_rfl) rfl (fun _ _ _ h => h) (Or.inl ⟨by kernel_rfl, fun _ _ => by kernel_rfl⟩) hS (fun _ => trivial) ?_
                  try simp only [List.getElem_toArray, List.getElem_cons_succ, List.getElem_cons_zero]
                  try dsimp only
                  try simp only [Act.put, List.setIfInBounds_toArray, List.set_cons_zero, List.set_cons_succ]
                  refine wpAnyT_takeS (i := 14) (v := .int .i64 x.party) rfl (by kernel_rfl) (by kernel_rfl) (by kernel_rfl) rfl (fun _ _ _ h => h) (Or.inl ⟨by kernel_rfl, fun W hW => by have e := (HX.out W hW).cell 0; go_simp⟩) hS (fun _ => trivial) ?_
                  try simp only [List.getElem_toArray, List.getElem_cons_succ, List.getElem_cons_zero]
                  try dsimp only
                  try simp only [Act.put, List.setIfInBounds_toArray, List.set_cons_zero, List.set_cons_succ]
                  refine wpAnyT_takeS (i := 15) (v := .bool (decide (y.party < x.party))) rfl (by kernel_rfl) (by kernel_rfl) (by kernel_rfl) rfl (fun _ _ _ h => h) (Or.inl ⟨by kernel_rfl, fun W hW => by go_simp⟩) hS (fun _ => trivial) ?_
                  try simp only [List.getElem_toArray, List.getElem_cons_succ, List.getElem_cons_zero]
                  try dsimp only
                  try simp only [Act.put, List.setIfInBounds_toArray, List.set_cons_zero, List.set_cons_succ]
                  refine wpAnyT_takeS (i := 16) (v := .bool (decide (y.party < x.party))) rfl (by kernel_rfl) (by kernel_rfl) (by kernel_rfl) rfl (fun _ _ _ h => h) (Or.inl ⟨by kernel_rfl, fun W hW => by go_simp⟩) hS (fun _ => trivial) ?_
                  try simp only [List.getElem_toArray, List.getElem_cons_succ, List.getElem_cons_zero]
                  try dsimp only
                  try simp only [Act.put, List.setIfInBounds_toArray, List.set_cons_zero, List.set_cons_succ]
                  refine wpAnyT_takeS (i := 17) (v := .bool (decide (y.party < x.party))) rfl (by kernel_rfl) (by kernel_rfl) (by kernel_rfl) rfl (fun _ _ _ h => h) (Or.inl ⟨by kernel_rfl, fun W hW => by go_simp⟩) hS (fun _ => trivial) ?_
                  try simp only [List.getElem_toArray, List.getElem_cons_succ, List.getElem_cons_zero]
                  try dsimp only
                  try simp only [Act.put, List.setIfInBounds_toArray, List.set_cons_zero, List.set_cons_succ]
                  refine wpAnyT_takeS (i := 18) (v := .bool (decide (y.party < x.party))) rfl (by kernel_rfl) (by kernel_rfl) (by kernel_rfl) rfl (fun _ _ _ h => h) (Or.inl ⟨by kernel_rfl, fun _ _ => by kernel_rfl⟩) hS (fun _ => trivial) ?_
                  try simp only [List.getElem_toArray, List.getElem_cons_succ, List.getElem_cons_zero]
                  try dsimp only
                  try simp only [Act.put, List.setIfInBounds_toArray, List.set_cons_zero, List.set_cons_succ]
                  refine wpAnyT_done (by kernel_rfl) ?_ _
                  go_wp2_with fail
                  go_meet
                  exact ⟨by rw [hin, hkz, hgy]; rfl, hS⟩
            obtain ⟨rfl, hBc⟩ := hcut
            obtain ⟨W2, hW2⟩ : ∃ W2, W2 = wc := ⟨_, rfl⟩
            subst hW2
            have kX2 := kX.below' hBc
            have hb2' := hb1.trans (hBc.mono hs1)
            have hG2 := hG1.below (by omega) hBc
            have hs2 := hBc.size
            clear HX kX hG1 hb1 hBc
            have cX := kX2.cell
            have HX := Lib.hid (fun W' (h : RowKit.Below W2.heap.size W2 W') => kX2.below' h)
            go_upto_region 11 with fail
            go_cut [68] (fun c68 W' => c68 = .bool (!okAt xs k x) ∧ RowKit.Below W2.heap.size W2 W')
            case first =>
              clear hG2 HQ HO H50
              have Hok : Hid (okAt xs k x = ((inn x.party 0 40 && (decide (k = 0) || decide ((xs.getD (k - 1) x).party < x.party))) && (validF x.share && decide (0 < x.share.num) && decide (x.share.num ≤ x.share.den)))) := Lib.hid (by
                unfold okAt titleOk
                cases inn x.party 0 40 <;> cases validF x.share <;> simp [Bool.and_comm, Bool.and_assoc])
              generalize (inn x.party 0 40 && (decide (k = 0) || decide ((xs.getD (k - 1) x).party < x.party))) = fine at *
              obtain ⟨W4, hW4⟩ : ∃ W4, W4 = W2.alloc (.cells #[.int .i64 x.share.num, .int .i64 x.share.den] 25) := ⟨_, rfl⟩
              have hva := valid_any (some ⟨W2.heap.size, 0, none⟩) 1 1 [x.share] W4 (Lst.one (hW4 ▸ Blk.new W2 _ _))
              have hb4 : RowKit.Below W2.heap.size W2 W4 := hW4 ▸ (Below.refl _ W2).alloc (Nat.le_refl _) _
              rw [show (!([x.share].any fun f => !validF f)) = validF x.share from by simp] at hva
              rw [hW4] at hva
              cases fine with
              | false =>
                go_wp2_with (fail)
                go_meet
                exact ⟨by rw [Hok.out]; rfl, Below.refl _ _⟩
              | true =>
                cases hv : validF x.share with
                | false =>
                  rw [hv] at hva Hok
                  go_wp2_with (first
                    | (refine wpList_load_mid rfl 25 (.tmp 48) rfl bx 1 rfl (cF x.share) _ (kX2.range 1 _ (fun j v h => by rcases j with _ | _ | j <;> simp at h <;> subst h <;> rfl)) Tryz.underlying25 rfl (by kernel_rfl) ?_)
                    | fail)
                  refine hva.mono ?_
                  rintro e w5 ⟨rfl, hB5⟩
                  rw [← hW4] at hB5
                  clear cX kX2
                  go_wp2_with (fail)
                  go_meet
                  exact ⟨by rw [Hok.out]; rfl, hb4.trans (hB5.mono hb4.size)⟩
                | true =>
                  rw [hv] at hva Hok
                  by_cases hq1 : x.share.num ≤ 0
                  · have Hq : Hid (decide (0 < x.share.num) = false) := Lib.hid (by simp; omega)
                    go_wp2_with (first
                      | (refine wpList_load_mid rfl 25 (.tmp 48) rfl bx 1 rfl (cF x.share) _ (kX2.range 1 _ (fun j v h => by rcases j with _ | _ | j <;> simp at h <;> subst h <;> rfl)) Tryz.underlying25 rfl (by kernel_rfl) ?_)
                      | fail)
                    refine hva.mono ?_
                    rintro e w5 ⟨rfl, hB5⟩
                    rw [← hW4] at hB5
                    have hB25 := hb4.trans (hB5.mono hb4.size)
                    clear cX kX2
                    have cX := (HX.out _ hB25).cell
                    go_wp2_with (fail)
                    go_meet
                    exact ⟨by rw [Hok.out, Hq.out]; rfl, hB25⟩
                  · have Hq : Hid (decide (0 < x.share.num) = true) := Lib.hid (by simp; omega)
                    have Hq2 : Hid (decide (x.share.num ≤ x.share.den) = !decide (x.share.den < x.share.num)) := Lib.hid (by
                      by_cases h : x.share.den < x.share.num
                      · rw [decide_eq_true h, decide_eq_false (by omega)]; rfl
                      · rw [decide_eq_false h, decide_eq_true (by omega)]; rfl)
                    have hqf : decide (x.share.num ≤ 0) = false := decide_eq_false hq1
                    go_wp2_with (first
                      | (refine wpList_load_mid rfl 25 (.tmp 48) rfl bx 1 rfl (cF x.share) _ (kX2.range 1 _ (fun j v h => by rcases j with _ | _ | j <;> simp at h <;> subst h <;> rfl)) Tryz.underlying25 rfl (by kernel_rfl) ?_)
                      | fail)
                    refine hva.mono ?_
                    rintro e w5 ⟨rfl, hB5⟩
                    rw [← hW4] at hB5
                    have hB25 := hb4.trans (hB5.mono hb4.size)
                    clear cX kX2
                    have cX := (HX.out _ hB25).cell
                    go_wp2_with (fail)
                    go_meet
                    exact ⟨by rw [Hok.out, Hq.out, Hq2.out]; simp, hB25⟩
            obtain ⟨rfl, hBc⟩ := hcut
            obtain ⟨W3, hW3⟩ : ∃ W3, W3 = wc := ⟨_, rfl⟩
            subst hW3
            have kX3 := kX2.below' hBc
            have hb3 := hb2'.trans (hBc.mono (by omega))
            have hG3 := hG2.below (by omega) hBc
            have hs3 := hBc.size
            clear HX kX2 hG2 hb2' hBc cX
            cases hok : okAt xs k x with
            | false =>
              have Hbad := Lib.hid (endsE_bad (by have := Hlen.out; omega) Hx.out Hxk.out hok)
              clear hok hG3
              go_wp2
              go_ret2
              exact ⟨hb3, .inr ⟨by rw [Hbad.out]; decide, by rw [Hbad.out]; rfl⟩⟩
            | true =>
              have Hok := Lib.hid hok
              have hp40 : 0 ≤ x.party ∧ x.party ≤ 40 := by
                unfold okAt titleOk at hok
                simp only [Bool.and_eq_true] at hok
                have := hok.1.1.1.1
                unfold inn at this
                simpa using this
              have hwf : (Lit.int .i64 x.party).wf = true := WalkArith.wf_i64 (by omega)
              have hrow := hG3.row x.party
              have hrl : ((ts0 ++ xs.take k).filter fun t => decide (t.party = x.party)).length ≤ 50050 := by
                have := Hml.out
                have h1 := List.length_filter_le (fun t : Title => decide (t.party = x.party)) (ts0 ++ xs.take k)
                rw [List.length_append, List.length_take] at h1
                omega
              have hnx : ts0 ++ xs.take (k + 1) = (ts0 ++ xs.take k) ++ [x] := by
                obtain ⟨h1, h2⟩ := List.getElem?_eq_some_iff.1 Hxk.out
                rw [List.take_succ_eq_append_getElem h1, h2, List.append_assoc]
              have Hnx := Lib.hid hnx
              clear hok hnx
              go_upto_region 13 with fail
              refine wp_region_T (fun W' => Blk W' bx (cT x).toArray 66 ∧ RowKit.Below w.heap.size w W') (fun W' => OwnV bmp nm F W') 11 (by kernel_rfl) ⟨kX3.drew, hb3.trans ((Below.refl _ _).drew.mono hb3.size)⟩ (hG3.map.below (Below.refl _ _).drew) (fun hS hT => ?_)
              refine wpAnyT_take (i := 0) (v := .map (some bmp)) rfl (by kernel_rfl) (by kernel_rfl) (by kernel_rfl) (by kernel_rfl) rfl (by kernel_rfl) (fun _ _ _ h => h) (Or.inl ⟨by kernel_rfl, fun _ _ => by kernel_rfl⟩) hS hT ?_
              try simp only [List.getElem_toArray, List.getElem_cons_zero]
              try dsimp only
              try simp only [Act.put, List.setIfInBounds_toArray, List.set_cons_zero, List.set_cons_succ]
              refine wpAnyT_take (i := 1) (v := .pointer (some ⟨bx, 0, none⟩)) rfl (by kernel_rfl) (by kernel_rfl) (by kernel_rfl) (by kernel_rfl) rfl (by kernel_rfl) (fun _ _ _ h => h) (Or.inl ⟨by kernel_rfl, fun _ _ => by kernel_rfl⟩) hS hT ?_
              try simp only [List.getElem_toArray, List.getElem_cons_succ, List.getElem_cons_zero]
              try dsimp only
              try simp only [Act.put, List.setIfInBounds_toArray, List.set_cons_zero, List.set_cons_succ]
              refine wpAnyT_take (i := 2) (v := .int .i64 x.party) rfl (by kernel_rfl) (by kernel_rfl) (by kernel_rfl) (by kernel_rfl) rfl (by kernel_rfl) (fun _ _ _ h => h) (Or.inl ⟨by kernel_rfl, fun W hW => by have e := hW.1.1.cell 0; go_simp⟩) hS hT ?_
              try simp only [List.getElem_toArray, List.getElem_cons_succ, List.getElem_cons_zero]
              try dsimp only
              try simp only [Act.put, List.setIfInBounds_toArray, List.set_cons_zero, List.set_cons_succ]
              refine wpAnyT_take (i := 3) (v := .map (some bmp)) rfl (by kernel_rfl) (by kernel_rfl) (by kernel_rfl) (by kernel_rfl) rfl (by kernel_rfl) (fun _ _ _ h => h) (Or.inl ⟨by kernel_rfl, fun _ _ => by kernel_rfl⟩) hS hT ?_
              try simp only [List.getElem_toArray, List.getElem_cons_succ, List.getElem_cons_zero]
              try dsimp only
              try simp only [Act.put, List.setIfInBounds_toArray, List.set_cons_zero, List.set_cons_succ]
              refine wpAnyT_take (i := 4) (v := .pointer (some ⟨bx, 0, none⟩)) rfl (by kernel_rfl) (by kernel_rfl) (by kernel_rfl) (by kernel_rfl) rfl (by kernel_rfl) (fun _ _ _ h => h) (Or.inl ⟨by kernel_rfl, fun _ _ => by kernel_rfl⟩) hS hT ?_
              try simp only [List.getElem_toArray, List.getElem_cons_succ, List.getElem_cons_zero]
              try dsimp only
              try simp only [Act.put, List.setIfInBounds_toArray, List.set_cons_zero, List.set_cons_succ]
              refine wpAnyT_take (i := 5) (v := .int .i64 x.party) rfl (by kernel_rfl) (by kernel_rfl) (by kernel_rfl) (by kernel_rfl) rfl (by kernel_rfl) (fun _ _ _ h => h) (Or.inl ⟨by kernel_rfl, fun W hW => by have e := hW.1.1.cell 0; go_simp⟩) hS hT ?_
              try simp only [List.getElem_toArray, List.getElem_cons_succ, List.getElem_cons_zero]
              try dsimp only
              try simp only [Act.put, List.setIfInBounds_toArray, List.set_cons_zero, List.set_cons_succ]
              refine wpAnyT_take (i := 6) (v := F x.party) rfl (by kernel_rfl) (by kernel_rfl) (by kernel_rfl) (by kernel_rfl) rfl (by kernel_rfl) (fun _ _ _ h => h) (Or.inl ⟨by kernel_rfl, fun W hW => by have e := hW.2.look x.party hwf; go_simp⟩) hS hT ?_
              try simp only [List.getElem_toArray, List.getElem_cons_succ, List.getElem_cons_zero]
              try dsimp only
              try simp only [Act.put, List.setIfInBounds_toArray, List.set_cons_zero, List.set_cons_succ]
              refine wpAnyT_take (i := 7) (v := .pointer (some ⟨bx, 1, none⟩)) rfl (by kernel_rfl) (by kernel_rfl) (by kernel_rfl) (by kernel_rfl) rfl (by kernel_rfl) (fun _ _ _ h => h) (Or.inl ⟨by kernel_rfl, fun _ _ => by kernel_rfl⟩) hS hT ?_
              try simp only [List.getElem_toArray, List.getElem_cons_succ, List.getElem_cons_zero]
              try dsimp only
              try simp only [Act.put, List.setIfInBounds_toArray, List.set_cons_zero, List.set_cons_succ]
              refine wpAnyT_take (i := 8) (v := .agg (cF x.share).toArray) rfl (by kernel_rfl) (by kernel_rfl) (by kernel_rfl) (by kernel_rfl) rfl (by kernel_rfl) (fun _ _ _ h => h) (yields_load 25 (.tmp 76) rfl bx (1) (by kernel_rfl) (cF x.share) _ (by kernel_rfl) (fun W hW => hW.1.1.range 1 _ (fun j v h => by rcases j with _ | _ | j <;> simp at h <;> subst h <;> rfl)) Tryz.underlying25 rfl (by kernel_rfl)) hS hT ?_
              try simp only [List.getElem_toArray, List.getElem_cons_succ, List.getElem_cons_zero]
              try dsimp only
              try simp only [Act.put, List.setIfInBounds_toArray, List.set_cons_zero, List.set_cons_succ]
              refine wpAnyT_one (j := 9) rfl (by kernel_rfl) (by kernel_rfl) (fun K hK => ?_)
              go_simp
              have hSa := hS.2.alloc (by have := hS.2.size; omega) (.cells #[.int .i64 x.share.num, .int .i64 x.share.den] 25)
              refine hK.out _ _ ⟨hS.1.alloc _, hSa⟩ (fun _ => hT.alloc _) ?_
              try simp only [List.getElem_toArray, List.getElem_cons_succ, List.getElem_cons_zero]
              try dsimp only
              try simp only [Act.put, List.setIfInBounds_toArray, List.set_cons_zero, List.set_cons_succ]
              refine wpAnyT_one (j := 10) rfl (by kernel_rfl) (by kernel_rfl) (fun K hK => ?_)
              refine oper_append_at (.tmp 75) (.tmp 78) 22 rfl (bmp + 1) 25 i0 _ 2 16 Tryz.underlying22 hi0 hz0 hz1 hz2 rfl (by omega) (F x.party) _ _ rfl (hrow.alloc _) ⟨W3.heap.size, 0, none⟩ 1 1 (cF x.share) rfl rfl (World.news_of_block (cs := (cF x.share).toArray) (t := 25) (fr := (0, 0)) (heap_alloc_new W3.drew _)) (cF_one x.share) (by unfold maxLen; omega) (by omega) (by simp; omega) ?_
              intro v' w5 hown' hg5 hat5
              have hne5 : some bx ≠ (F x.party).ownBlock := own_ne hrow kX3.drew (by decide)
              have hgeq : ∀ r, (F x.party).ownBlock = some r → bmp + 1 ≤ r := fun r e => own_ge' hrow r e
              have kX5 := (hS.1.alloc (.cells #[.int .i64 x.share.num, .int .i64 x.share.den] 25)).kept hg5 hne5
              have hb5 := hSa.grown hg5 (by have := hSa.size; omega) (fun r e => by have := hgeq r e; omega)
              have hM5 := (hT.alloc (.cells #[.int .i64 x.share.num, .int .i64 x.share.den] 25)).kept hg5 (fun e => by have := hgeq _ e.symm; omega)
              refine hK.out _ _ ⟨kX5, hb5⟩ (fun _ => hM5) ?_
              try simp only [List.getElem_toArray, List.getElem_cons_succ, List.getElem_cons_zero]
              try dsimp only
              try simp only [Act.put, List.setIfInBounds_toArray, List.set_cons_zero, List.set_cons_succ]
              refine wpAnyT_one (j := 11) rfl (by kernel_rfl) (by kernel_rfl) (fun K hK => ?_)
              obtain ⟨w6, hr6, hM6, hg6⟩ := hM5.add x.party v' hwf (by unfold maxLen; omega)
              refine oper_mapUpdate 166 (.tmp 69) (.tmp 71) (.tmp 79) rfl (.map (some bmp)) (.int .i64 x.party) v' rfl rfl rfl hr6 ?_
              have kX6 := kX5.kept hg6 (by simp; omega)
              have hb6 := hb5.grown hg6 (by have := hb5.size; omega) (fun r e => by cases e; omega)
              refine hK.out _ _ ⟨kX6, hb6⟩ (fun q => by cases (show (true : Bool) = false from q)) ?_
              try simp only [List.getElem_toArray, List.getElem_cons_succ, List.getElem_cons_zero]
              try dsimp only
              try simp only [Act.put]
              refine wpAnyT_done (by kernel_rfl) ?_ _
              have hG6 := Grp.put (w := W3.drew) (hG3.below (by omega) (Below.refl _ _).drew) (by omega) ((World.grownBy_alloc _ _ _).trans hg5) hown' (hat5.imp id (fun h => ⟨_, h, by simp⟩)) hM6 hg6
              go_wp2_with fail
              go_roundw
              case rel => exact ⟨k + 1, nm + 1, updV F x.party v', by omega, by go_num, Lib.hid (fun q t hq ht => by
                rcases Nat.lt_or_ge q k with h | h
                · exact HQ.out q t h ht
                · obtain rfl : q = k := by omega
                  rw [Hxk.out] at ht; cases ht; exact Hok.out), by rw [Hnx.out]; exact hG6, by omega, hb6, by have := hg6.size; have := hg5.size; simp at this; omega⟩
              case measure => simp [intOf]; omega
          · obtain rfl : k = m := by omega
            have hxo : listOk xs = true := (listOk_at xs).2 (fun q t ht => HQ.out q t (by have := (List.getElem?_eq_some_iff.1 ht).1; have := Hml.out; omega) ht)
            have hnx : (xss.take (i + 1)).flatten = ts0 ++ xs.take k := by
              obtain ⟨h1, h2⟩ := List.getElem?_eq_some_iff.1 Hx.out
              rw [List.take_succ_eq_append_getElem h1, h2, List.flatten_append, Hts0.out, List.take_of_length_le (show xs.length ≤ k by have := Hml.out; omega)]; simp
            have hno : ∀ ys ∈ xss.take (i + 1), listOk ys = true := by
              intro ys hys
              obtain ⟨h1, h2⟩ := List.getElem?_eq_some_iff.1 Hx.out
              rw [List.take_succ_eq_append_getElem h1, h2] at hys
              rcases List.mem_append.1 hys with h | h
              · exact HO.out ys h
              · obtain rfl : ys = xs := by simpa using h
                exact hxo
            have Hnx := Lib.hid hnx
            have Hno := Lib.hid hno
            clear hnx hno hxo HQ
            go_wp2
            go_roundw
            case rel => exact ⟨i + 1, nm, F, by omega, by go_num, Hno, by rw [Hnx.out]; exact hG, by omega, hB, hbs⟩
            case measure => simp [intOf]; omega
      · obtain rfl : i = n := by omega
        have hall : xss.take i = xss := List.take_of_length_le (by have := Hlen.out; omega)
        rw [hall] at hG HO
        have He := Lib.hid (endsE_good (by have := Hlen.out; omega) HO.out)
        clear hall HO
        go_wp2
        go_ret2
        refine ⟨hB, .inl ⟨He.out, nm0, F0, ?_, ?_⟩⟩
        · rw [← Hbe.out]; rfl
        · rw [← Hbe.out]; exact hG

end Go.Proofs.YtmeomhojbobpbaaGreatDoor
