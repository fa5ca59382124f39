import Derived.Test.YtollegoajlfdiaaGreatPart42
import Derived.Test.YtollegoajlfdiaaGreatPart15
import Derived.Test.YtollegoajlfdiaaGreatPart35
import Derived.Test.YtollegoajlfdiaaGreatPart39
import Derived.Test.YtollegoajlfdiaaGreatPart23
/-
  Walks: how pence are divided by titles, as the reference has it.
-/
namespace Go.Proofs.YtollegoajlfdiaaGreat
open Go.RowKit Lg Go.Sort Go.Shelf

set_option maxRecDepth 100000 in
set_option maxHeartbeats 12800000 in
theorem divideR_any (pence : Int) (a : Option Addr) (n cap : Nat) (xs : List Title) (w : World) (hn : n ≤ 1000) (hL : Lst w 3 cT a n cap xs) :
    Calls Tryz.prog 29 #[.int .i64 pence, .slice a n cap] w (GivesD w (divideOf pence xs)) := by
  obtain ⟨r, hr⟩ : ∃ r, r = divideOf pence xs := ⟨_, rfl⟩
  rw [← hr]
  unfold divideOf at hr
  have Hr := Lib.hid hr; clear hr
  have Hlen := Lib.hid hL.len
  have hm : cap ≤ 9223372036854775807 := by have := hL.max; unfold maxLen at this; omega
  have hle := hL.le
  have hin := fun p W => within6_any p 0 40 W
  obtain ⟨i0, hi0, hz0, hz1, hz2⟩ := info_parts infoF
  go_enter Tryz.func29, Tryz.ntmps29
  go_wp2_with (fail)
  go_loopw [7, 8] (fun ov i wr => ∃ k : Nat, k ≤ n ∧ i = .int .i64 k ∧ wr.ownsRow w.heap.size 24 2 ov k (((xs.take k).map Title.share).flatMap cF) ∧ Hid (titOk (xs.take k) = true) ∧ RowKit.Below w.heap.size w wr) (fun _ i _ => n - (intOf i).toNat)
  case atStart => exact ⟨0, Nat.zero_le _, rfl, ⟨by simp, .inl ⟨rfl, rfl⟩⟩, (by simp [titOk] : titOk (xs.take 0) = true), Below.refl _ _⟩
  case round =>
    obtain ⟨k, hk, rfl, hown, Ht, hB⟩ := hrel
    by_cases hlt : k < n
    · have hltz : (k : Int) < (n : Int) := by omega
      have hkz : (0 : Int) ≤ (k : Int) := by omega
      obtain ⟨x, hx⟩ : ∃ x, xs[k]? = some x := ⟨xs[k]'(by rw [Hlen.out]; exact hlt), by simp⟩
      obtain ⟨bb, off, rfl, hbb, hrg⟩ := hL.at_ k x hx
      have HL := Lib.hid hL
      have htk : xs.take (k + 1) = xs.take k ++ [x] := by
        obtain ⟨h1, h2⟩ := List.getElem?_eq_some_iff.1 hx
        rw [List.take_succ_eq_append_getElem h1, h2]
      have htn : titOk (xs.take (k + 1)) = (inn x.party 0 40 && !decide (x.party ∈ (xs.take k).map Title.party)) := by
        rw [htk, titOk_snoc, Ht.out, Bool.true_and]
      have hbad : titOk (xs.take (k + 1)) = false → r = (([], 0), 1) := fun h => by
        rw [Hr.out, if_neg]
        intro e
        rw [titOk_prefix (k + 1) e] at h; cases h
      have Hbad := Lib.hid hbad; clear hbad
      have Htk := Lib.hid htk; clear htk
      have Htn := Lib.hid htn; clear htn
      have r0 := hrg 0 _ rfl
      have r1 := hrg 1 _ rfl
      have r2 := hrg 2 _ rfl
      simp only [Nat.add_zero] at r0
      have hM : ∀ W, RowKit.Below w.heap.size w W → W.cell? ⟨bb, off + k * 3, none⟩ = some (.int .i64 x.party) ∧ W.cell? ⟨bb, off + k * 3 + 1, none⟩ = some (.int .i64 x.share.num) ∧ W.cell? ⟨bb, off + k * 3 + 2, none⟩ = some (.int .i64 x.share.den) :=
        fun W h => ⟨(h.cell (p := ⟨bb, off + k * 3, none⟩) hbb).trans r0, (h.cell (p := ⟨bb, off + k * 3 + 1, none⟩) hbb).trans r1, (h.cell (p := ⟨bb, off + k * 3 + 2, none⟩) hbb).trans r2⟩
      have HM := Lib.hid hM
      have Hx := Lib.hid hx
      clear r0 r1 r2 hM hrg hL hx
      go_wp2_with (fail)
      go_loopw [9] (fun j wi => ∃ q : Nat, q ≤ k ∧ j = .int .i64 q ∧ Hid (∀ t ∈ xs.take q, t.party ≠ x.party) ∧ RowKit.Below wr.heap.size wr wi) (fun j _ => k - (intOf j).toNat)
      case atStart => exact ⟨0, Nat.zero_le _, rfl, Lib.hid (by simp), Below.refl _ _⟩
      case round =>
        obtain ⟨q, hq, rfl, Hne, hBi⟩ := hrel
        have hBw := hB.trans (hBi.mono hB.size)
        obtain ⟨c0, c1, c2⟩ := HM.out wr hBw
        by_cases hqk : q < k
        · have hqz : (q : Int) < (k : Int) := by omega
          have hqn : (q : Int) < (n : Int) := by omega
          have hqz0 : (0 : Int) ≤ (q : Int) := by omega
          obtain ⟨y, hy⟩ : ∃ y, xs[q]? = some y := ⟨xs[q]'(by rw [Hlen.out]; omega), by simp⟩
          obtain ⟨b2, o2, e, _, hry⟩ := (HL.out.below hBw).at_ q y hy
          obtain ⟨rfl, rfl⟩ : b2 = bb ∧ o2 = off := by injection e with e; injection e with e1 e2; exact ⟨e1.symm, e2.symm⟩
          have cy := hry 0 _ rfl
          simp only [Nat.add_zero] at cy
          have hyt : xs.take (q + 1) = xs.take q ++ [y] := by
            obtain ⟨h1, h2⟩ := List.getElem?_eq_some_iff.1 hy
            rw [List.take_succ_eq_append_getElem h1, h2]
          have hym : y.party ∈ (xs.take k).map Title.party := List.mem_map.2 ⟨y, List.mem_of_getElem? (show (xs.take k)[q]? = some y by rw [List.getElem?_take_of_lt hqk]; exact hy), rfl⟩
          have Hyt := Lib.hid hyt
          have Hym := Lib.hid hym
          clear hry e hy hyt hym
          by_cases hpy : x.party = y.party
          · have b1 : (x.party == y.party) = true := by simpa using hpy
            have hr := Hbad.out (by rw [Htn.out, hpy, decide_eq_true Hym.out, Bool.not_true, Bool.and_false])
            have Hr2 := Lib.hid hr
            clear hr hpy
            go_wp2_with (fail)
            go_quiet (fail)
            go_wp2_with (fail)
            go_ret3
            rw [Hr2.out]
            exact GivesD.nil (below_drewN' hBw _)
          · have b1 : (x.party == y.party) = false := by simpa using hpy
            have Hpy := Lib.hid hpy
            clear hpy
            go_wp2_with (fail)
            go_quiet (fail)
            go_wp2_with (fail)
            go_roundw
            case rel =>
              refine ⟨q + 1, by omega, by go_num, Lib.hid (fun t ht => ?_), below_drewN' hBi _⟩
              rw [Hyt.out, List.mem_append, List.mem_singleton] at ht
              rcases ht with ht | rfl
              · exact Hne.out t ht
              · exact fun e => Hpy.out e.symm
            case measure => simp [intOf]; omega
        · obtain rfl : q = k := by omega
          have hz : ¬ (q : Int) < (q : Int) := by omega
          have hnm : decide (x.party ∈ (xs.take q).map Title.party) = false := by
            refine decide_eq_false (fun h => ?_)
            obtain ⟨t, ht, e⟩ := List.mem_map.1 h
            exact Hne.out t ht e
          have htn := Htn.out
          rw [hnm, Bool.not_false, Bool.and_true] at htn
          have hc := hin x.party wr
          have hown2 := own_below hown hBi
          cases hin1 : inn x.party 0 40 with
          | false =>
            rw [hin1] at hc htn
            have hr := Hbad.out htn
            have Hr2 := Lib.hid hr
            clear hr hin1 htn hnm hown hown2
            go_wp2_with (fail)
            refine hc.mono ?_
            rintro e w3 ⟨rfl, rfl⟩
            go_wp2_with (fail)
            go_ret3
            rw [Hr2.out]
            exact GivesD.nil hBw
          | true =>
            rw [hin1] at hc htn
            have Htn2 := Lib.hid htn
            clear htn hnm hin1 hown
            go_wp2_with (fail)
            refine hc.mono ?_
            clear hc
            rintro e w3 ⟨rfl, rfl⟩
            go_wp2_with (first
              | (at_builtin; refine wpList_append_lies _ rfl _ _ _ rfl w.heap.size 24 i0 _ 2 16 Tryz.underlying97 hi0 hz0 hz1 hz2 rfl (by omega) _ q (((xs.take q).map Title.share).flatMap cF) rfl (hown2.alloc _) ⟨wr.heap.size, 0, none⟩ 1 1 (cF x.share) rfl rfl (World.news_of_block (cs := (cF x.share).toArray) (t := 24) (fr := (0, 0)) (heap_alloc_new wr _)) (by simp [Value.oneCell']) (by omega) (by unfold maxLen; omega) (by omega) (by have := hBw.size; simp; omega) _ rfl ?_; intro g cap1 wn hownn hgrown hat hltn; have hBn := below_of_grown (hBw.alloc hBw.size _) (Nat.le_refl _) hgrown (own_ge' hown2))
              | fail)
            go_roundw
            case rel =>
              refine ⟨q + 1, by omega, by go_num, ?_, Lib.hid Htn2.out, hBn⟩
              rw [Htk.out, List.map_append, List.flatMap_append]
              simpa using hownn
            case measure => simp [intOf]; omega
    · obtain rfl : k = n := by omega
      have htk : xs.take k = xs := List.take_of_length_le (by rw [Hlen.out]; exact Nat.le_refl _)
      rw [htk] at hown
      have ht := Ht.out
      rw [htk] at ht
      have hr := Hr.out
      rw [if_pos ht] at hr
      clear htk Ht Hr hin ht hlt
      obtain ⟨af, capf, rfl, _, hLf⟩ := Lst.of_owns (k := 2) (enc := cF) (fun _ => rfl) (by omega) hown (by rw [List.length_map, Hlen.out])
      have hs := split5_any pence af k capf (xs.map Title.share) wr hLf
      obtain ⟨sp, hsp⟩ : ∃ sp, sp = splitOf pence (xs.map Title.share) := ⟨_, rfl⟩
      rw [← hsp] at hs hr
      have Hr1 := Lib.hid hr
      have Hsp := Lib.hid hsp
      clear hr hsp
      go_wp2_with (fail)
      refine hs.mono ?_
      clear hs hown hLf
      have hr := Hr1.out
      have hsp := Hsp.out
      clear Hr1 Hsp
      rintro e w3 ⟨v3, rfl, hown3, hB3⟩
      have hB03 : RowKit.Below w.heap.size w w3 := hB.trans (hB3.mono hB.size)
      by_cases hz : sp.2 = 0
      · rw [if_pos hz] at hr
        obtain ⟨hl1, hl2, hp0, hp1, hvb⟩ := splitOf_bd (hsp ▸ hz)
        rw [← hsp] at hl1 hvb
        rw [List.length_map, Hlen.out] at hl1 hl2
        obtain ⟨parts, hparts⟩ : ∃ parts, parts = sp.1 := ⟨_, rfl⟩
        rw [← hparts] at hl1 hvb hown3 hr
        rw [hl1] at hown3
        obtain ⟨ap, capp, rfl, _, hLp⟩ := Lst.of_owns (k := 1) (enc := cI) (fun _ => rfl) (by omega) hown3 hl1
        have g0 : (sp.2 != 0) = false := by rw [hz]; rfl
        obtain ⟨zs, hzs⟩ : ∃ zs, zs = List.zipWith Share.mk (xs.map Title.party) parts := ⟨_, rfl⟩
        rw [← hzs] at hr
        have hzl : zs.length = k := by rw [hzs, List.length_zipWith, List.length_map, Hlen.out, hl1]; exact Nat.min_self k
        have hzb := sumI_bound hvb
        obtain ⟨e2, he2⟩ : ∃ e2, e2 = sp.2 := ⟨_, rfl⟩
        rw [← he2] at g0 hz ⊢
        subst hz
        have Hr3 := Lib.hid hr
        have Hl1 := Lib.hid hl1
        have Hzs := Lib.hid hzs
        have Hzl := Lib.hid hzl
        have Hvb := Lib.hid hvb
        clear hr hl1 hzs hzl hvb hparts he2 hsp hown3 hzb hB hB3 hi0 hz0 hz1 hz2
        have hmp : capp ≤ 9223372036854775807 := by have := hLp.max; unfold maxLen at this; omega
        have hlp := hLp.le
        obtain ⟨i1, hj0, hj1, hj2, hj3⟩ := info_parts infoSh
        go_wp2_with (fail)
        go_loopw [0, 12, 13] (fun pn ov i wr => ∃ j : Nat, j ≤ k ∧ i = .int .i64 j ∧ pn = .int .i64 (pence - sumI (parts.take j)) ∧ wr.ownsRow w3.heap.size 69 2 ov j ((zs.take j).flatMap cSh) ∧ RowKit.Below w3.heap.size w3 wr) (fun _ _ i _ => k - (intOf i).toNat)
        case atStart => exact ⟨0, Nat.zero_le _, rfl, by simp [sumI], ⟨by simp, .inl ⟨rfl, rfl⟩⟩, Below.refl _ _⟩
        case round =>
          obtain ⟨j, hj, rfl, rfl, hown, hBr⟩ := hrel
          by_cases hlt : j < k
          · have hjz : (j : Int) < (k : Int) := by omega
            have hj00 : (0 : Int) ≤ (j : Int) := by omega
            obtain ⟨x, hx⟩ : ∃ x, xs[j]? = some x := ⟨xs[j]'(by rw [Hlen.out]; exact hlt), by simp⟩
            obtain ⟨p, hp⟩ : ∃ p, parts[j]? = some p := ⟨parts[j]'(by rw [Hl1.out]; exact hlt), by simp⟩
            obtain ⟨bb, off, rfl, hbb, hrg⟩ := (hL.below hB03).at_ j x hx
            obtain ⟨bp, offp, rfl, hbp, hrp⟩ := hLp.at_ j p hp
            have r0 := hrg 0 _ rfl
            have p0 := hrp 0 _ rfl
            simp only [Nat.mul_one, Nat.add_zero] at r0 p0
            have hS : ∀ W, RowKit.Below w3.heap.size w3 W → W.cell? ⟨bb, off + j * 3, none⟩ = some (.int .i64 x.party) ∧ W.cell? ⟨bp, offp + j, none⟩ = some (.int .i64 p) :=
              fun W h => ⟨(h.cell (p := ⟨bb, off + j * 3, none⟩) hbb).trans r0, (h.cell (p := ⟨bp, offp + j, none⟩) hbp).trans p0⟩
            have HS := Lib.hid hS
            obtain ⟨hpb0, hpb1⟩ := Hvb.out p (List.mem_iff_getElem?.2 ⟨j, hp⟩)
            have htp : sumI (parts.take (j + 1)) = sumI (parts.take j) + p := by
              obtain ⟨h1, h2⟩ := List.getElem?_eq_some_iff.1 hp
              rw [List.take_succ_eq_append_getElem h1, h2, sumI_append]; simp [sumI]
            have htz : zs.take (j + 1) = zs.take j ++ [Share.mk x.party p] := by
              have hz : zs[j]? = some (Share.mk x.party p) := by rw [Hzs.out, List.getElem?_zipWith, List.getElem?_map, hx, hp]; rfl
              obtain ⟨h1, h2⟩ := List.getElem?_eq_some_iff.1 hz
              rw [List.take_succ_eq_append_getElem h1, h2]
            have hsb := sumI_bound (l := parts.take j) (fun v hv => Hvb.out v (List.mem_of_mem_take hv))
            have hsl := List.length_take_le j parts
            obtain ⟨sj, hsj⟩ : ∃ sj, sj = sumI (parts.take j) := ⟨_, rfl⟩
            rw [← hsj] at htp hsb ⊢
            obtain ⟨hsb0, hsb1⟩ := hsb
            have hsb2 : sj ≤ 41000001681 := by omega
            have hw1 : IntKind.i64.wrap (pence - sj - p) = pence - sj - p := by rw [IntKind.wrap_i64]; omega
            have Htp := Lib.hid htp; clear htp
            have Htz := Lib.hid htz; clear htz
            have hsw := hBr.size
            clear hsj hsb1 hsl hx hp hrg hrp r0 p0 hS hL
            generalize zs.take j = zj at *
            go_wp2_with (fail)
            go_region_held3 (fun w' => w'.cell? ⟨bb, off + j * 3, none⟩ = some (.int .i64 x.party) ∧ w'.cell? ⟨bp, offp + j, none⟩ = some (.int .i64 p))
              (((with_reducible refine HS.out _ ?_); repeat (first | (with_reducible assumption) | (with_reducible exact Below.refl _ _) | (with_reducible refine Below.alloc ?_ ?_ _) | (with_reducible refine Below.setCell ?_ ?_ _) | (with_reducible refine Below.drew ?_) | omega | (simp <;> omega) | (dsimp only; omega))))
              (first
                | (refine step_append_lies _ (by rfl) _ _ _ (by rfl) w3.heap.size 69 i1 _ 2 16 Tryz.underlying45 hj0 hj1 hj2 hj3 rfl (by omega) _ j (zj.flatMap cSh) (by rfl) (hown.alloc _).drew ⟨wr.heap.size, 0, none⟩ 1 1 [.int .i64 x.party, .int .i64 p] (by rfl) (by rfl) (World.news_of_block (cs := #[.int .i64 x.party, .int .i64 p]) (t := 69) (fr := (0, 0)) (heap_alloc_new wr _)) (by simp [Value.oneCell']) (by omega) (by unfold maxLen; omega) (by omega) (by simp; omega) _ rfl ?_; intro g cap1 wn hownn hgrow hat hlt1; have hBn := below_of_grown ((hBr.alloc hBr.size _).drew) (Nat.le_refl _) hgrow (own_ge' hown))
                | fail)
            obtain ⟨_, cp⟩ := HS.out _ hBn
            go_wp2_with (fail)
            go_roundw
            case rel =>
              refine ⟨j + 1, by omega, by go_num, by rw [Htp.out]; congr 1; omega, ?_, hBn⟩
              rw [Htz.out, List.flatMap_append]
              exact hownn
            case measure => simp [intOf]; omega
          · obtain rfl : j = k := by omega
            rw [List.take_of_length_le (by rw [Hzl.out]; exact Nat.le_refl _)] at hown
            rw [List.take_of_length_le (by rw [Hl1.out]; exact Nat.le_refl _)]
            go_wp2_with (fail)
            go_ret3
            rw [Hr3.out]
            refine ⟨_, rfl, ?_, hB03.trans (hBr.mono hB03.size)⟩
            have h := ownsRow_base_a hown hB03.size
            dsimp only
            rw [Hzl.out]; exact h
      · rw [if_neg hz] at hr
        have g0 : (sp.2 != 0) = true := by simpa using hz
        have Hz := Lib.hid hz; clear hz
        have Hr3 := Lib.hid hr; clear hr hsp hown3
        go_wp2_with (fail)
        go_ret3
        rw [Hr3.out]
        exact GivesD.nil hB03

end Go.Proofs.YtollegoajlfdiaaGreat

/-
  Walk: the law of parts.
-/
namespace Go.Proofs.YtollegoajlfdiaaGreat
open Go.RowKit Lg Go.Sort Go.Shelf Go.Maps

theorem givesL_lst {w0 W w' : World} {xs : List Int} {m : Int} {en : Ending} (hB : RowKit.Below w0.heap.size w0 W) (h : GivesL W 3 1 cI xs m en w') :
    ∃ av c, en = .returned (.tuple #[.slice av xs.length c, .int .i64 m]) ∧ Lst w' 1 cI av xs.length c xs ∧ RowKit.Below W.heap.size W w' ∧ RowKit.Below w0.heap.size w0 w' := by
  obtain ⟨v, rfl, ho, hb⟩ := h
  obtain ⟨av, cv, rfl, _, hl⟩ := Lst.of_owns (k := 1) (enc := cI) (fun _ => rfl) (by omega) ho rfl
  exact ⟨av, cv, rfl, hl, hb, hB.trans (hb.mono hB.size)⟩

theorem givesD_lst {w0 W w' : World} {r : (List Share × Int) × Int} {en : Ending} (hB : RowKit.Below w0.heap.size w0 W) (h : GivesD W r en w') :
    ∃ av c, en = .returned (.tuple #[.slice av r.1.1.length c, .int .i64 r.1.2, .int .i64 r.2]) ∧ Lst w' 2 cSh av r.1.1.length c r.1.1 ∧ RowKit.Below W.heap.size W w' ∧ RowKit.Below w0.heap.size w0 w' := by
  obtain ⟨v, rfl, ho, hb⟩ := h
  obtain ⟨av, cv, rfl, _, hl⟩ := Lst.of_owns (k := 2) (enc := cSh) (fun _ => rfl) (by omega) ho rfl
  exact ⟨av, cv, rfl, hl, hb, hB.trans (hb.mono hB.size)⟩

set_option maxRecDepth 100000 in
set_option maxHeartbeats 25600000 in
theorem lawParts_any (r : Rate) (s : Sale) (pence : Int) (b : Option Addr) (m capB : Nat) (ps : List Int) (a : Option Addr) (n cap : Nat) (ts : List Title) (w : World) (hM : Lst w 1 cI b m capB ps) (hL : Lst w 3 cT a n cap ts) :
    Calls Tryz.prog 4 #[aR r, aS s, .int .i64 pence, .slice b m capB, .slice a n cap] w (Gives w (.bool true)) := by
  have hp := paid_any
  obtain ⟨w0, hw0⟩ : ∃ w0, w0 = (w.alloc (.cells (cR r).toArray 26)).alloc (.cells (cS s).toArray 39) := ⟨_, rfl⟩
  have kR : Blk w0 w.heap.size (cR r).toArray 26 := hw0 ▸ (Blk.new w _ _).alloc _
  have kS : Blk w0 (w.heap.size + 1) (cS s).toArray 39 := by
    have := Blk.new (w.alloc (.cells (cR r).toArray 26)) 39 (cS s).toArray
    rw [hw0]; simpa using this
  have hB0 : RowKit.Below w.heap.size w w0 := hw0 ▸ ((Below.refl _ w).alloc (Nat.le_refl _) _).alloc (by simp) _
  have cR := kR.cell
  have cS := kS.cell
  by_cases h3 : (100 : Int) < (r.goods.size : Int)
  · clear hL hM
    go_enter Tryz.func4, Tryz.ntmps4
    go_wp2_with (fail)
    rw [← hw0]
    clear hw0
    go_wp2_with (go_at_call 16; refine (hp _).mono ?_; rintro e w5 ⟨rfl, hB5⟩)
    go_ret
    exact ⟨rfl, hB0.trans (hB5.mono hB0.size)⟩
  by_cases h4 : (60 : Int) < (m : Int)
  · clear hL hM
    go_enter Tryz.func4, Tryz.ntmps4
    go_wp2_with (fail)
    rw [← hw0]
    clear hw0
    go_wp2_with (go_at_call 16; refine (hp _).mono ?_; rintro e w5 ⟨rfl, hB5⟩)
    go_ret
    exact ⟨rfl, hB0.trans (hB5.mono hB0.size)⟩
  by_cases h5 : (60 : Int) < (n : Int)
  · clear hL hM
    go_enter Tryz.func4, Tryz.ntmps4
    go_wp2_with (fail)
    rw [← hw0]
    clear hw0
    go_wp2_with (go_at_call 16; refine (hp _).mono ?_; rintro e w5 ⟨rfl, hB5⟩)
    go_ret
    exact ⟨rfl, hB0.trans (hB5.mono hB0.size)⟩
  have hn60 : n ≤ 60 := by omega
  have hF1 := fun W => fees_any r s W
  have hF2 := fun W => feesR_any r s W
  have hE1 := fun W (h : RowKit.Below w0.heap.size w0 W) => (equal_any pence b m capB ps W (hM.below (hB0.trans (h.mono hB0.size)))).mono fun e w' q => givesL_lst h q
  have hE2 := fun W (h : RowKit.Below w0.heap.size w0 W) => (equalR_any pence b m capB ps W (hM.below (hB0.trans (h.mono hB0.size)))).mono fun e w' q => givesL_lst h q
  have hD1 := fun W (h : RowKit.Below w0.heap.size w0 W) => (divide_any pence a n cap ts W (by omega) (hL.below (hB0.trans (h.mono hB0.size)))).mono fun e w' q => givesD_lst h q
  have hD2 := fun W (h : RowKit.Below w0.heap.size w0 W) => (divideR_any pence a n cap ts W (by omega) (hL.below (hB0.trans (h.mono hB0.size)))).mono fun e w' q => givesD_lst h q
  generalize feesOf r s = f at *
  generalize equalOf pence ps = q at *
  generalize divideOf pence ts = d at *
  obtain ⟨⟨f1, f2⟩, f3⟩ := f
  obtain ⟨zs, ze⟩ := q
  obtain ⟨⟨ys, yl⟩, ye⟩ := d
  dsimp only at hF1 hF2 hE1 hE2 hD1 hD2
  have hP : ∀ W, RowKit.Below w0.heap.size w0 W → Calls Tryz.prog 16 #[] W fun e w' => e = .returned (.bool true) ∧ RowKit.Below W.heap.size W w' ∧ RowKit.Below w0.heap.size w0 w' := fun W h => (hp W).mono fun e w' q => ⟨q.1, q.2, h.trans (q.2.mono h.size)⟩
  have hS : ∀ W av c bv d, RowKit.Below w0.heap.size w0 W → Lst W 1 cI av zs.length c zs → Lst W 1 cI bv zs.length d zs → Calls Tryz.prog 21 #[.slice av zs.length c, .slice bv zs.length d] W fun e w' => e = .returned (.bool true) ∧ RowKit.Below W.heap.size W w' ∧ RowKit.Below w0.heap.size w0 w' := fun W av c bv d h h1 h2 => (sameInts_any av _ c zs bv _ d zs W h1 h2).mono fun e w' q => ⟨by rw [q.1]; simp, q.2, h.trans (q.2.mono h.size)⟩
  have hSh : ∀ W av c bv d, RowKit.Below w0.heap.size w0 W → Lst W 2 cSh av ys.length c ys → Lst W 2 cSh bv ys.length d ys → Calls Tryz.prog 30 #[.slice av ys.length c, .slice bv ys.length d] W fun e w' => e = .returned (.bool true) ∧ RowKit.Below W.heap.size W w' ∧ RowKit.Below w0.heap.size w0 w' := fun W av c bv d h h1 h2 => (sameShares_any av _ c ys bv _ d ys W h1 h2).mono fun e w' q => ⟨by rw [q.1]; simp, q.2, h.trans (q.2.mono h.size)⟩
  obtain ⟨zn, hzn⟩ : ∃ zn, zn = zs.length := ⟨_, rfl⟩
  obtain ⟨yn, hyn⟩ : ∃ yn, yn = ys.length := ⟨_, rfl⟩
  rw [← hzn] at hE1 hE2 hS
  rw [← hyn] at hD1 hD2 hSh
  have HF1 := Lib.hid hF1
  have HF2 := Lib.hid hF2
  have HE1 := Lib.hid hE1
  have HE2 := Lib.hid hE2
  have HD1 := Lib.hid hD1
  have HD2 := Lib.hid hD2
  have HP := Lib.hid hP
  have HS := Lib.hid hS
  have HSh := Lib.hid hSh
  have HK : Hid (∀ W, RowKit.Below w0.heap.size w0 W → (∀ j, W.cell? ⟨w.heap.size, j, none⟩ = (Go.Proofs.YtollegoajlfdiaaGreat.cR r).toArray[j]?) ∧ (∀ j, W.cell? ⟨w.heap.size + 1, j, none⟩ = (Go.Proofs.YtollegoajlfdiaaGreat.cS s).toArray[j]?)) := Lib.hid fun W h => ⟨(kR.below' h).cell, (kS.below' h).cell⟩
  have b1 : (f1 == f1) = true := by simp
  have b2 : (f2 == f2) = true := by simp
  have b3 : (f3 == f3) = true := by simp
  have b4 : (ze == ze) = true := by simp
  have b5 : (yl == yl) = true := by simp
  have b6 : (ye == ye) = true := by simp
  clear hF1 hF2 hE1 hE2 hD1 hD2 hP hS hSh hL hM kR kS hp hzn hyn
  go_enter Tryz.func4, Tryz.ntmps4
  go_wp2_with (fail)
  rw [← hw0]
  clear hw0
  go_wp2_with (fail)
  refine (HF1.out w0).mono ?_
  rintro e w1 ⟨rfl, hB1⟩
  clear cR cS
  obtain ⟨cR, cS⟩ := HK.out w1 hB1
  go_wp2_with (fail)
  refine (HF2.out w1).mono ?_
  rintro e w2 ⟨rfl, hB2⟩
  have hB2 := hB1.trans (hB2.mono hB1.size)
  clear cR cS hB1
  go_wp2_with (fail)
  refine (HE1.out w2 hB2).mono ?_
  rintro e w3 ⟨a3, c3, rfl, hl3, -, hB3⟩
  go_wp2_with (fail)
  refine (HE2.out w3 hB3).mono ?_
  rintro e w4 ⟨a4, c4, rfl, hl4, hb4, hB4⟩
  have hl3 := hl3.below hb4
  go_wp2_with (fail)
  refine (HD1.out w4 hB4).mono ?_
  rintro e w5 ⟨a5, c5, rfl, hl5, hb5, hB5⟩
  have hl3 := hl3.below hb5
  have hl4 := hl4.below hb5
  go_wp2_with (fail)
  refine (HD2.out w5 hB5).mono ?_
  rintro e w6 ⟨a6, c6, rfl, hl6, hb6, hB6⟩
  have hl3 := hl3.below hb6
  have hl4 := hl4.below hb6
  have hl5 := hl5.below hb6
  clear hB2 hB3 hB4 hB5 hb4 hb5 hb6
  go_wp2_with (fail)
  refine (HP.out w6 hB6).mono ?_
  rintro e w7 ⟨rfl, hb7, hB7⟩
  have hl3 := hl3.below hb7
  have hl4 := hl4.below hb7
  have hl5 := hl5.below hb7
  have hl6 := hl6.below hb7
  go_wp2_with (fail)
  refine (HS.out w7 a3 c3 a4 c4 hB7 hl3 hl4).mono ?_
  rintro e w8 ⟨rfl, hb8, hB8⟩
  have hl5 := hl5.below hb8
  have hl6 := hl6.below hb8
  go_wp2_with (fail)
  refine (HSh.out w8 a5 c5 a6 c6 hB8 hl5 hl6).mono ?_
  rintro e w9 ⟨rfl, hb9, hB9⟩
  go_wp2_with (fail)
  go_ret
  exact ⟨rfl, hB0.trans (hB9.mono hB0.size)⟩

end Go.Proofs.YtollegoajlfdiaaGreat
