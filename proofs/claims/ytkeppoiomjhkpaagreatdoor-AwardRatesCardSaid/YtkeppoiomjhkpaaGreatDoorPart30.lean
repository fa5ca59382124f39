import Derived.Test.YtkeppoiomjhkpaaGreatDoorPart29
import Derived.Test.YtkeppoiomjhkpaaGreatDoorPart12
import Derived.Test.YtkeppoiomjhkpaaGreatDoorPart20
import Derived.Test.YtkeppoiomjhkpaaGreatDoorPart10
import Derived.Test.YtkeppoiomjhkpaaGreatDoorPart13
import Derived.BigQuiet
import Derived.BigRegion
/-
  Walk: award.Divide.
-/
namespace Go.Proofs.YtkeppoiomjhkpaaGreatDoor
open Go.RowKit Lg Go.Sort Go.Shelf Go.Maps

/-- A call hands back shares of its own, what is left, and an error. -/
def GivesD (w : World) (r : (List Share × Int) × Int) (en : Ending) (w' : World) : Prop :=
  ∃ v, en = .returned (.tuple #[v, .int .i64 r.1.2, .int .i64 r.2]) ∧ w'.ownsRow w.heap.size 76 2 v r.1.1.length (r.1.1.flatMap cSh) ∧ RowKit.Below w.heap.size w w'

theorem GivesD.nil {w w' : World} {m : Int} (h : RowKit.Below w.heap.size w w') : GivesD w (([], 0), m) (.returned (.tuple #[.slice none 0 0, .int .i64 0, .int .i64 m])) w' :=
  ⟨_, rfl, ⟨by simp, .inl ⟨rfl, rfl⟩⟩, h⟩

theorem grown_other {w w1 : World} {b B : Nat} {t : TypeId} {cs : Array Value} (h : Blk w B cs t) (hg : w.grownBy w1 (some b)) (hne : B ≠ b) : Blk w1 B cs t := h.kept hg (by simpa using hne)

set_option maxRecDepth 100000 in
set_option maxHeartbeats 6400000 in
theorem divide_any (pence : Int) (a : Option Addr) (n cap : Nat) (xs : List Title) (w : World) (hn : n ≤ 1000) (hL : Lst w 3 cT a n cap xs) :
    Calls Tryz.prog 36 #[.int .i64 pence, .slice a n cap] w (GivesD w (divideOf pence xs)) := by
  obtain ⟨r, hr⟩ : ∃ r, r = divideOf pence xs := ⟨_, rfl⟩
  rw [← hr]
  unfold divideOf at hr
  have Hr := Lib.hid hr; clear hr
  have Hlen := Lib.hid hL.len
  have hm : cap ≤ 9223372036854775807 := by have := hL.max; unfold maxLen at this; omega
  have hle := hL.le
  have hmm := @run_makeMap Tryz.prog
  have hin := fun p W => in6_any p 0 40 W
  obtain ⟨i0, hi0, hz0, hz1, hz2⟩ := info_parts infoF
  go_enter Tryz.func36, Tryz.ntmps36
  go_wp2_with (fail)
  obtain ⟨b, hb⟩ : ∃ b, b = w.heap.size := ⟨_, rfl⟩
  rw [← hb]
  have hbw : w.heap.size ≤ b := by omega
  have Hb := Lib.hid hb; clear hb
  go_loopw [8, 19] (fun ov i wr => ∃ k : Nat, k ≤ n ∧ i = .int .i64 k ∧ OwnSt b k (fun q => decide (q ∈ (xs.take k).map Title.party)) wr ∧ wr.ownsRow (b + 1) 41 2 ov k (((xs.take k).map Title.share).flatMap cF) ∧ Hid (titOk (xs.take k) = true) ∧ RowKit.Below w.heap.size w wr ∧ b < wr.heap.size) (fun _ i _ => n - (intOf i).toNat)
  case atStart =>
    refine ⟨0, Nat.zero_le _, rfl, ?_, ⟨by simp, .inl ⟨rfl, rfl⟩⟩, (by simp [titOk] : titOk (xs.take 0) = true), (Below.refl _ w).alloc (Nat.le_refl _) _, by rw [Hb.out]; simp⟩
    rw [Hb.out]
    exact OwnSt.made w
  case round =>
    clear hmm
    obtain ⟨k, hk, rfl, hst, hown, Ht, hB, hbl⟩ := hrel
    by_cases hlt : k < n
    · obtain ⟨x, hx⟩ : ∃ x, xs[k]? = some x := ⟨xs[k]'(by rw [Hlen.out]; exact hlt), by simp⟩
      obtain ⟨bb, off, rfl, hbb, hrg⟩ := (hL.below hB).at_ k x hx
      have htk : xs.take (k + 1) = xs.take k ++ [x] := by
        obtain ⟨h1, h2⟩ := List.getElem?_eq_some_iff.1 hx
        rw [List.take_succ_eq_append_getElem h1, h2]
      have htn : titOk (xs.take (k + 1)) = (inn x.party 0 40 && !decide (x.party ∈ (xs.take k).map Title.party)) := by
        rw [htk, titOk_snoc, Ht.out, Bool.true_and]
      have hbad : titOk (xs.take (k + 1)) = false → r = (([], 0), 1) := fun h => by
        rw [Hr.out, if_neg]
        intro e
        rw [titOk_prefix (k + 1) e] at h; cases h
      have Hbad := Lib.hid hbad; clear hbad
      have Htk := Lib.hid htk; clear htk
      have Htn := Lib.hid htn; clear htn
      have Hx := Lib.hid hx; clear hx
      have hc := fun W => hin x.party W
      have k4 : Blk (wr.alloc (.cells #[.int .i64 x.party, .int .i64 x.share.num, .int .i64 x.share.den] 69)) wr.heap.size #[.int .i64 x.party, .int .i64 x.share.num, .int .i64 x.share.den] 69 := Blk.new _ _ _
      have hst4 := hst.alloc (.cells #[.int .i64 x.party, .int .i64 x.share.num, .int .i64 x.share.den] 69)
      have hown4 := hown.alloc (.cells #[.int .i64 x.party, .int .i64 x.share.num, .int .i64 x.share.den] 69)
      have hB4 := hB.alloc hB.size (.cells #[.int .i64 x.party, .int .i64 x.share.num, .int .i64 x.share.den] 69)
      cases hin1 : inn x.party 0 40 with
      | false =>
        rw [hin1] at hc
        have hr := Hbad.out (by rw [Htn.out, hin1, Bool.false_and])
        have Hr2 := Lib.hid hr; clear hr hin1
        go_wp2_with (first
          | (refine wpList_load_mid rfl 69 _ rfl bb (off + k * 3) rfl (cT x) _ hrg Tryz.underlying69 rfl (by kernel_rfl) ?_)
          | (go_at_call 55; refine (hc _).mono ?_; rintro e w3 ⟨rfl, rfl⟩)
          | fail)
        go_ret3
        rw [Hr2.out]
        exact GivesD.nil hB4
      | true =>
        rw [hin1] at hc
        have hpb := (inn_iff _ _ _).1 hin1
        obtain ⟨hp0, hp1⟩ := hpb
        have Hin1 := Lib.hid hin1; clear hin1
        have hlk := hst4.look x.party (WalkArith.wf_i64 (by omega))
        obtain ⟨sn, hsn⟩ : ∃ sn, sn = decide (x.party ∈ (xs.take k).map Title.party) := ⟨_, rfl⟩
        rw [← hsn] at hlk Htn
        rw [Hin1.out, Bool.true_and] at Htn
        cases sn with
        | true =>
          have hr := Hbad.out (by rw [Htn.out]; rfl)
          have Hr2 := Lib.hid hr; clear hr hsn
          go_wp2_with (first
            | (refine wpList_load_mid rfl 69 _ rfl bb (off + k * 3) rfl (cT x) _ hrg Tryz.underlying69 rfl (by kernel_rfl) ?_)
            | (go_at_call 55; refine (hc _).mono ?_; rintro e w3 ⟨rfl, rfl⟩)
            | fail)
          go_ret3
          rw [Hr2.out]
          exact GivesD.nil hB4
        | false =>
          have Hsn := Lib.hid hsn; clear hsn
          obtain ⟨D, hD1, hD2⟩ := hst4
          have hkey := key_small x.party ⟨hp0, hp1⟩
          have HD2 := Lib.hid hD2; clear hD2
          go_wp2_with (first
            | (refine wpList_load_mid rfl 69 _ rfl bb (off + k * 3) rfl (cT x) _ hrg Tryz.underlying69 rfl (by kernel_rfl) ?_)
            | (go_at_call 55; refine (hc _).mono ?_; rintro e w3 ⟨rfl, rfl⟩)
            | (at_mapUpdate; refine wpList_mapUpdate_own _ rfl _ _ _ 116 rfl 3 4 lawI Tryz.underlying116 _ b k _ rfl hD1 (by unfold maxLen; omega) _ _ _ rfl rfl hkey _ [] (plainElem_bool Tryz.underlying4 true) ?_; intro w1 hown1 hgrow1; have kx := grown_other k4 hgrow1 (by omega); have cx := kx.cell; have hw1 := hgrow1.size; have hB5 := below_of_grown hB4 (Nat.le_refl _) hgrow1 (fun q e => by cases e; omega); have hown5 := hown4.kept hgrow1 (.inr (fun e => by have := (hown4.lt b e).1; omega)))
            | (at_builtin; refine wpList_append_lies _ rfl _ _ _ rfl (b + 1) 41 i0 _ 2 16 Tryz.underlying117 hi0 hz0 hz1 hz2 rfl (by omega) _ k (((xs.take k).map Title.share).flatMap cF) rfl (hown5.alloc _) ⟨w1.heap.size, 0, none⟩ 1 1 (cF x.share) rfl rfl (World.news_of_block (cs := (cF x.share).toArray) (t := 41) (fr := (0, 0)) (heap_alloc_new w1 _)) (by simp [Value.oneCell']) (by omega) (by unfold maxLen; omega) (by omega) (by simp at hw1 ⊢; omega) _ rfl ?_; intro g cap1 wn hownn hgrown hat hltn)
            | fail)
          have hs5 : w.heap.size ≤ w1.heap.size := hB5.size
          go_roundw
          case rel =>
            have hu8 : ∀ q, u8.ownBlock = some q → b + 1 ≤ q := fun q e => (hown5.lt q e).1
            refine ⟨k + 1, by omega, by go_num, ?_, ?_, ?_, ?_, ?_⟩
            · refine ⟨_, (hown1.alloc _).kept hgrown (fun e => by have := hu8 b e.symm; omega), (HD2.out.put x.party).congr (fun q => ?_)⟩
              rw [Htk.out, List.map_append, Bool.eq_iff_iff]
              simp only [Bool.or_eq_true, decide_eq_true_eq, List.mem_append, List.map_cons, List.map_nil, List.mem_singleton]
              exact Or.comm
            · rw [Htk.out, List.map_append, List.flatMap_append]
              simpa using hownn
            · show _ = _
              rw [Htn.out]; rfl
            · exact below_of_grown (hB5.alloc hs5 _) (Nat.le_refl _) hgrown (fun q e => by have := hu8 q e; omega)
            · have := hgrown.size
              simp at this hw1; omega
          case measure => simp [intOf]; omega
    · obtain rfl : k = n := by omega
      have htk : xs.take k = xs := List.take_of_length_le (by rw [Hlen.out]; exact Nat.le_refl _)
      rw [htk] at hown
      have ht := Ht.out
      rw [htk] at ht
      have hr := Hr.out
      rw [if_pos ht] at hr
      clear htk Ht Hr hst hin ht hlt
      obtain ⟨af, capf, rfl, _, hLf⟩ := Lst.of_owns (k := 2) (enc := cF) (fun _ => rfl) (by omega) hown (by rw [List.length_map, Hlen.out])
      have hs := split_any pence af k capf (xs.map Title.share) wr hLf
      obtain ⟨sp, hsp⟩ : ∃ sp, sp = splitOf pence (xs.map Title.share) := ⟨_, rfl⟩
      rw [← hsp] at hs hr
      have Hr1 := Lib.hid hr
      have Hsp := Lib.hid hsp
      clear hr hsp
      go_wp2_with (fail)
      refine hs.mono ?_
      clear hs hown hLf
      have hr := Hr1.out
      have hsp := Hsp.out
      clear Hr1 Hsp
      rintro e w3 ⟨v3, rfl, hown3, hB3⟩
      have hB03 : RowKit.Below w.heap.size w w3 := hB.trans (hB3.mono hB.size)
      by_cases hz : sp.2 = 0
      · rw [if_pos hz] at hr
        obtain ⟨hl1, hl2, hp0, hp1, hvb⟩ := splitOf_bd (hsp ▸ hz)
        rw [← hsp] at hl1 hvb
        rw [List.length_map, Hlen.out] at hl1 hl2
        obtain ⟨parts, hparts⟩ : ∃ parts, parts = sp.1 := ⟨_, rfl⟩
        rw [← hparts] at hl1 hvb hown3 hr
        rw [hl1] at hown3
        obtain ⟨ap, capp, rfl, _, hLp⟩ := Lst.of_owns (k := 1) (enc := cI) (fun _ => rfl) (by omega) hown3 hl1
        have g0 : (sp.2 != 0) = false := by rw [hz]; rfl
        obtain ⟨zs, hzs⟩ : ∃ zs, zs = List.zipWith Share.mk (xs.map Title.party) parts := ⟨_, rfl⟩
        rw [← hzs] at hr
        have hzl : zs.length = k := by rw [hzs, List.length_zipWith, List.length_map, Hlen.out, hl1]; exact Nat.min_self k
        have hzb := sumI_bound hvb
        obtain ⟨e2, he2⟩ : ∃ e2, e2 = sp.2 := ⟨_, rfl⟩
        rw [← he2] at g0 hz ⊢
        subst hz
        have Hr3 := Lib.hid hr
        have Hl1 := Lib.hid hl1
        have Hzs := Lib.hid hzs
        have Hzl := Lib.hid hzl
        have Hvb := Lib.hid hvb
        clear hr hl1 hzs hzl hvb hparts he2 hsp hown3 hzb hB hB3 hi0 hz0 hz1 hz2
        have hmp : capp ≤ 9223372036854775807 := by have := hLp.max; unfold maxLen at this; omega
        have hlp := hLp.le
        obtain ⟨i1, hj0, hj1, hj2, hj3⟩ := info_parts infoSh
        go_wp2_with (fail)
        go_loopw [0, 13, 53] (fun pn ov i wr => ∃ j : Nat, j ≤ k ∧ i = .int .i64 j ∧ pn = .int .i64 (pence - sumI (parts.take j)) ∧ wr.ownsRow w3.heap.size 76 2 ov j ((zs.take j).flatMap cSh) ∧ RowKit.Below w3.heap.size w3 wr) (fun _ _ i _ => k - (intOf i).toNat)
        case atStart => exact ⟨0, Nat.zero_le _, rfl, by simp [sumI], ⟨by simp, .inl ⟨rfl, rfl⟩⟩, Below.refl _ _⟩
        case round =>
          obtain ⟨j, hj, rfl, rfl, hown, hBr⟩ := hrel
          by_cases hlt : j < k
          · obtain ⟨x, hx⟩ : ∃ x, xs[j]? = some x := ⟨xs[j]'(by rw [Hlen.out]; exact hlt), by simp⟩
            obtain ⟨p, hp⟩ : ∃ p, parts[j]? = some p := ⟨parts[j]'(by rw [Hl1.out]; exact hlt), by simp⟩
            obtain ⟨bb, off, rfl, hbb, hrg⟩ := (hL.below (hB03.trans (hBr.mono hB03.size))).at_ j x hx
            obtain ⟨bp, offp, rfl, hbp, hrp⟩ := (hLp.below hBr).at_ j p hp
            have cx := hrg 0 _ rfl
            have cp := hrp 0 _ rfl
            simp only [Nat.mul_one, Nat.add_zero] at cx cp
            have hpb := Hvb.out p (List.mem_iff_getElem?.2 ⟨j, hp⟩)
            obtain ⟨hpb0, hpb1⟩ := hpb
            have htp : sumI (parts.take (j + 1)) = sumI (parts.take j) + p := by
              obtain ⟨h1, h2⟩ := List.getElem?_eq_some_iff.1 hp
              rw [List.take_succ_eq_append_getElem h1, h2, sumI_append]; simp [sumI]
            have htz : zs.take (j + 1) = zs.take j ++ [Share.mk x.party p] := by
              have hz : zs[j]? = some (Share.mk x.party p) := by rw [Hzs.out, List.getElem?_zipWith, List.getElem?_map, hx, hp]; rfl
              obtain ⟨h1, h2⟩ := List.getElem?_eq_some_iff.1 hz
              rw [List.take_succ_eq_append_getElem h1, h2]
            have hsb := sumI_bound (l := parts.take j) (fun v hv => Hvb.out v (List.mem_of_mem_take hv))
            have hsl := List.length_take_le j parts
            obtain ⟨sj, hsj⟩ : ∃ sj, sj = sumI (parts.take j) := ⟨_, rfl⟩
            rw [← hsj] at htp hsb ⊢
            obtain ⟨hsb0, hsb1⟩ := hsb
            have hsb2 : sj ≤ 41000001681 := by omega
            have hw1 : IntKind.i64.wrap (pence - sj - p) = pence - sj - p := by rw [IntKind.wrap_i64]; omega
            have Htp := Lib.hid htp; clear htp
            have Htz := Lib.hid htz; clear htz
            have Hsj := Lib.hid hsj; clear hsj hsb1 hsl
            have Hx := Lib.hid hx; clear hx
            have Hp := Lib.hid hp; clear hp hrg hrp
            go_wp2_with (first
              | (at_builtin; refine wpList_append_lies _ rfl _ _ _ rfl w3.heap.size 76 i1 _ 2 16 Tryz.underlying59 hj0 hj1 hj2 hj3 rfl (by omega) _ j ((zs.take j).flatMap cSh) rfl (hown.alloc _) ⟨wr.heap.size, 0, none⟩ 1 1 [.int .i64 x.party, .int .i64 p] rfl rfl (World.news_of_block (cs := #[.int .i64 x.party, .int .i64 p]) (t := 76) (fr := (0, 0)) (heap_alloc_new wr _)) (by simp [Value.oneCell']) (by omega) (by unfold maxLen; omega) (by omega) (by have := hBr.size; simp; omega) _ rfl ?_; intro g cap1 wn hownn hgrown hat hltn)
              | fail)
            go_roundw
            case rel =>
              refine ⟨j + 1, by omega, by go_num, by rw [Htp.out]; congr 1; omega, ?_, ?_⟩
              · rw [Htz.out, List.flatMap_append]
                exact hownn
              · exact below_of_grown (hBr.alloc hBr.size _) (Nat.le_refl _) hgrown (fun q e => (hown.lt q e).1)
            case measure => simp [intOf]; omega
          · obtain rfl : j = k := by omega
            rw [List.take_of_length_le (by rw [Hzl.out]; exact Nat.le_refl _)] at hown
            rw [List.take_of_length_le (by rw [Hl1.out]; exact Nat.le_refl _)]
            go_wp2_with (fail)
            go_ret3
            rw [Hr3.out]
            refine ⟨_, rfl, ?_, hB03.trans (hBr.mono hB03.size)⟩
            have h := ownsRow_base_a hown hB03.size
            dsimp only
            rw [Hzl.out]; exact h
      · rw [if_neg hz] at hr
        have g0 : (sp.2 != 0) = true := by simpa using hz
        have Hz := Lib.hid hz; clear hz
        have Hr3 := Lib.hid hr; clear hr hsp hown3
        go_wp2_with (fail)
        go_ret3
        rw [Hr3.out]
        exact GivesD.nil hB03

end Go.Proofs.YtkeppoiomjhkpaaGreatDoor

/-
  Plain facts: the chapter's examples.
-/
namespace Lg
open Go

def oil : ByteArray := ⟨#[111, 105, 108]⟩
def none0 : ByteArray := ⟨#[]⟩
def rt1 : Rate := ⟨1, 0, 0, ⟨#[]⟩, ⟨1, 4⟩, 20, 5, 0⟩
def rt2 : Rate := ⟨2, 0, 0, ⟨#[111, 105, 108]⟩, ⟨1, 3⟩, 10, 3, 0⟩
def rt3 : Rate := ⟨3, 50, 10, ⟨#[111, 105, 108]⟩, ⟨1, 2⟩, 10, 3, 0⟩
def rt4 : Rate := ⟨4, 90, 0, ⟨#[]⟩, ⟨0, 0⟩, 0, 0, 3⟩
def tableR : List Rate := [rt1, rt2, rt3, rt4]
def sl1 : Sale := ⟨1, 60, 55, 10, 100, 7, 8, 30, 0⟩
def sl2 : Sale := ⟨2, 70, 66, 20, 12, 7, 0, 0, 0⟩
def tableS : List Sale := [sl1, sl2]

theorem ex_rate1 : rateOf tableR oil 12 50 = (rt3, 0) := by decide +kernel
theorem ex_rate2 : rateOf tableR oil 12 90 = (rt2, 0) := by decide +kernel

/-- A list of sums, checked. -/
def listChk (raw ys : List Share) : Bool :=
  decide ((ys.map Share.party).Pairwise (· < ·)) && ys.all (fun x => decide (x.pence = sumP raw x.party) && decide (sumP raw x.party ≠ 0)) && raw.all (fun x => decide (x.party ∈ ys.map Share.party) || decide (sumP raw x.party = 0))

theorem listOf_chk {raw ys : List Share} (h : listChk raw ys = true) : ListOf (sumP raw) ys := by
  unfold listChk at h
  rw [Bool.and_eq_true, Bool.and_eq_true, decide_eq_true_eq, List.all_eq_true, List.all_eq_true] at h
  obtain ⟨⟨h1, h2⟩, h3⟩ := h
  refine ⟨h1, fun x hx => ?_, fun p hp => ?_⟩
  · have := h2 x hx
    rwa [Bool.and_eq_true, decide_eq_true_eq, decide_eq_true_eq] at this
  · obtain ⟨x, hx, rfl⟩ := sumP_party hp
    have := h3 x hx
    rw [Bool.or_eq_true, decide_eq_true_eq, decide_eq_true_eq] at this
    rcases this with h | h
    · exact h
    · exact absurd h hp

theorem ex_aw_ok : awOk rt3 sl1 [4, 5, 4] = true := by decide +kernel
theorem ex_aw : awCart rt3 sl1 = 10 ∧ awStore rt3 sl1 = 3 ∧ awFind rt3 sl1 = 50 ∧ awRest rt3 sl1 = 37 := by decide +kernel
theorem ex_aw_list : ListOf (sumP (awRaw rt3 sl1 [4, 5, 4])) [⟨4, 33⟩, ⟨5, 17⟩, ⟨7, 10⟩, ⟨8, 3⟩] := listOf_chk (by decide +kernel)
theorem ex_pick : awPick tableR tableS 10 oil 5 60 = (0, rt2, sl1) := by decide +kernel
theorem ex_pick_ok : awOk rt2 sl1 [4] = true := by decide +kernel
theorem ex_pick_aw : awFind rt2 sl1 = 33 ∧ awRest rt2 sl1 = 54 := by decide +kernel
theorem ex_equal : equalOf 8 [4, 5, 4] = ([3, 3, 2], 0) := by decide +kernel
theorem ex_change_ok : changeErr [⟨4, 33⟩, ⟨7, 10⟩] [⟨4, 50⟩, ⟨8, 3⟩] = 0 := by decide +kernel
theorem ex_change : ListOf (fun p => sumP [⟨4, 50⟩, ⟨8, 3⟩] p - sumP [⟨4, 33⟩, ⟨7, 10⟩] p) [⟨4, 17⟩, ⟨7, -10⟩, ⟨8, 3⟩] := by
  have e : (fun p => sumP [⟨4, 50⟩, ⟨8, 3⟩] p - sumP [⟨4, 33⟩, ⟨7, 10⟩] p) = sumP [⟨4, 50⟩, ⟨8, 3⟩, ⟨4, -33⟩, ⟨7, -10⟩] := by
    funext p
    simp only [sumP]
    split <;> split <;> split <;> omega
  rw [e]
  exact listOf_chk (by decide +kernel)

theorem ex_sorted : (hoursOf tableR).mergeSort (fun x y => decide (x ≤ y)) = [0, 0, 10] := by
  have e : hoursOf tableR = [0, 0, 10] := by decide +kernel
  rw [e]
  exact List.mergeSort_of_pairwise (by decide)
theorem ex_starts : startsOf tableR = [0, 10] := by
  unfold startsOf; rw [ex_sorted]; decide +kernel
theorem ex_turns : turnsOf tableR oil 50 = [0, 10] := by
  unfold turnsOf; rw [ex_starts]; decide +kernel
theorem ex_sorted3 : (hoursOf ([rt1, rt2] ++ [rt3])).mergeSort (fun x y => decide (x ≤ y)) = [0, 0, 10] := by
  have e : hoursOf ([rt1, rt2] ++ [rt3]) = [0, 0, 10] := by decide +kernel
  rw [e]
  exact List.mergeSort_of_pairwise (by decide)
theorem ex_starts3 : startsOf ([rt1, rt2] ++ [rt3]) = [0, 10] := by
  unfold startsOf; rw [ex_sorted3]; decide +kernel
theorem ex_append : appendRate [rt1, rt2] rt3 = ([rt1, rt2] ++ [rt3], 0) := by decide +kernel
theorem ex_touched : touchedOf [rt1, rt2] rt3 oil = ((10, 1000000, true), 0) := by
  unfold touchedOf
  rw [ex_append]
  dsimp only
  rw [ex_starts3]
  decide +kernel

def ttl : List Title := [⟨0, ⟨1, 2⟩⟩, ⟨3, ⟨1, 3⟩⟩]
theorem ex_split : splitOf 37 [⟨1, 2⟩, ⟨1, 3⟩] = ([18, 12], 0) := by
  have e1 : splitFine 37 [⟨1, 2⟩, ⟨1, 3⟩] = true := by decide +kernel
  have e2 : sumOf [⟨1, 2⟩, ⟨1, 3⟩] = (⟨5, 6⟩, 0) := by decide +kernel
  have e3 : splitLeft 37 [⟨1, 2⟩, ⟨1, 3⟩] = 0 := by decide +kernel
  unfold splitOf
  rw [e1, e2, e3]
  decide +kernel
theorem ex_divide : divideOf 37 ttl = (([⟨0, 18⟩, ⟨3, 12⟩], 7), 0) := by
  have e1 : titOk ttl = true := by decide +kernel
  unfold divideOf
  have e2 : ttl.map Title.share = [⟨1, 2⟩, ⟨1, 3⟩] := rfl
  rw [e1, e2, ex_split]
  decide +kernel

end Lg

/-
  Walk: the rate in force.
-/
namespace Go.Proofs.YtkeppoiomjhkpaaGreatDoor
open Go.RowKit Lg Go.Sort Go.Shelf

attribute [local go_sem] Oper.semAt_some

theorem setAll_lo (x y z : Rate) : setAll (cR x ++ cR y).toArray 0 (cR z) = (cR z ++ cR y).toArray := by kernel_rfl
theorem setAll_zero (z : Rate) : setAll #[.int .i64 0, .int .i64 0, .int .i64 0, .string ⟨#[]⟩, .int .i64 0, .int .i64 0, .int .i64 0, .int .i64 0, .int .i64 0] 0 (cR z) = (cR z).toArray := by kernel_rfl
theorem setAll_hi (x y z : Rate) : setAll (cR x ++ cR y).toArray 9 (cR z) = (cR x ++ cR z).toArray := by kernel_rfl

/-- What holds between two rounds of the search. -/
def IP (w : World) (goods : ByteArray) (hour : Int) (W2 : World) (pre : List Rate) (W : World) : Prop :=
  Blk W w.heap.size #[.string goods] 9 ∧ Blk W (w.heap.size + 1) #[.int .i64 hour] 3 ∧ Blk W (w.heap.size + 1 + 1) #[.int .i64 0, .int .i64 0, .int .i64 0, .string ⟨#[]⟩, .int .i64 0, .int .i64 0, .int .i64 0, .int .i64 0, .int .i64 0] 43 ∧
    Blk W (w.heap.size + 1 + 1 + 1) (cR (pre.foldl (bestStep goods hour) (zeroRate, zeroRate)).1 ++ cR (pre.foldl (bestStep goods hour) (zeroRate, zeroRate)).2).toArray 146 ∧ Below w.heap.size w W ∧ W2.heap.size ≤ W.heap.size

set_option maxRecDepth 100000 in
set_option maxHeartbeats 1600000 in
theorem inForce_any (a : Option Addr) (m cap : Nat) (xs : List Rate) (goods : ByteArray) (hour known : Int) (w : World) (hL : Lst w 9 cR a m cap xs) :
    Calls Tryz.prog 66 #[.slice a m cap, .string goods, .int .i64 hour, .int .i64 known] w (Gives w (.tuple #[aR (inForce xs goods hour known).1, .bool (inForce xs goods hour known).2])) := by
  refine (callsIn_wide (n := 3)).1 ?_
  have hw91 : Fence.wide.fn 96 := trivial
  refine callsIn_of_wp_marks Tryz.func66 rfl trivial ?_ rfl
  simp only [Tryz.ntmps66, List.size_toArray, List.length_cons, List.length_nil, Nat.reduceAdd, Nat.reduceSub, Array.replicate_succ, Array.replicate_zero, List.push_toArray, List.append_toArray, List.nil_append, List.cons_append]
  gi_wp2_with (gi_at_call 96; refine (callsIn_wide.2 (countingR_any _ _ _ _ _)).mono ?_; rintro e w' ⟨rfl, rfl⟩)
  obtain ⟨W0, hW0⟩ : ∃ W0, W0 = (((w.alloc (.cells #[.string goods] 9)).alloc (.cells #[.int .i64 hour] 3)).alloc (.cells #[.int .i64 0, .int .i64 0, .int .i64 0, .string ⟨#[]⟩, .int .i64 0, .int .i64 0, .int .i64 0, .int .i64 0, .int .i64 0] 43)).alloc (.cells #[.int .i64 0, .int .i64 0, .int .i64 0, .string ⟨#[]⟩, .int .i64 0, .int .i64 0, .int .i64 0, .int .i64 0, .int .i64 0, .int .i64 0, .int .i64 0, .int .i64 0, .string ⟨#[]⟩, .int .i64 0, .int .i64 0, .int .i64 0, .int .i64 0, .int .i64 0] 146) := ⟨_, rfl⟩
  rw [← hW0]
  obtain ⟨W2, hW2⟩ : ∃ W2, W2 = (W0.alloc (.cells #[.slice a m cap] 39)).alloc (.cells #[.int .i64 known] 3) := ⟨_, rfl⟩
  rw [← hW2]
  have hsz0 : W0.heap.size = w.heap.size + 1 + 1 + 1 + 1 := by rw [hW0]; simp
  have hsz2 : W2.heap.size = w.heap.size + 6 := by rw [hW2]; simp [hsz0]
  have j1 := Blk.new w 9 #[.string goods]
  have j2 := Blk.new (w.alloc (.cells #[.string goods] 9)) 3 #[.int .i64 hour]
  have j3 := Blk.new ((w.alloc (.cells #[.string goods] 9)).alloc (.cells #[.int .i64 hour] 3)) 43 #[.int .i64 0, .int .i64 0, .int .i64 0, .string ⟨#[]⟩, .int .i64 0, .int .i64 0, .int .i64 0, .int .i64 0, .int .i64 0]
  have j4 := Blk.new (((w.alloc (.cells #[.string goods] 9)).alloc (.cells #[.int .i64 hour] 3)).alloc (.cells #[.int .i64 0, .int .i64 0, .int .i64 0, .string ⟨#[]⟩, .int .i64 0, .int .i64 0, .int .i64 0, .int .i64 0, .int .i64 0] 43)) 146 #[.int .i64 0, .int .i64 0, .int .i64 0, .string ⟨#[]⟩, .int .i64 0, .int .i64 0, .int .i64 0, .int .i64 0, .int .i64 0, .int .i64 0, .int .i64 0, .int .i64 0, .string ⟨#[]⟩, .int .i64 0, .int .i64 0, .int .i64 0, .int .i64 0, .int .i64 0]
  simp only [World.size_alloc] at j2 j3 j4
  have hB0 : Below w.heap.size w W0 := hW0 ▸ ((((Below.refl _ w).alloc (Nat.le_refl _) _).alloc (by simp) _).alloc (by simp; omega) _).alloc (by simp; omega) _
  have hB2 : Below w.heap.size w W2 := hW2 ▸ (hB0.alloc hB0.size _).alloc (by simp; omega) _
  have k1 : Blk W2 w.heap.size #[.string goods] 9 := by rw [hW2, hW0]; exact ((((j1.alloc _).alloc _).alloc _).alloc _).alloc _
  have k2 : Blk W2 (w.heap.size + 1) #[.int .i64 hour] 3 := by rw [hW2, hW0]; exact (((j2.alloc _).alloc _).alloc _).alloc _
  have k3 : Blk W2 (w.heap.size + 1 + 1) #[.int .i64 0, .int .i64 0, .int .i64 0, .string ⟨#[]⟩, .int .i64 0, .int .i64 0, .int .i64 0, .int .i64 0, .int .i64 0] 43 := by rw [hW2, hW0]; exact ((j3.alloc _).alloc _).alloc _
  have k4 : Blk W2 (w.heap.size + 1 + 1 + 1) #[.int .i64 0, .int .i64 0, .int .i64 0, .string ⟨#[]⟩, .int .i64 0, .int .i64 0, .int .i64 0, .int .i64 0, .int .i64 0, .int .i64 0, .int .i64 0, .int .i64 0, .string ⟨#[]⟩, .int .i64 0, .int .i64 0, .int .i64 0, .int .i64 0, .int .i64 0] 146 := by rw [hW2, hW0]; exact (j4.alloc _).alloc _
  have hst := countingR_stops 2 (by omega) a m cap xs known W0 W2 hW2 (hL.below hB0)
  clear j1 j2 j3 j4 hW0 hW2 hB0
  rw [hsz0] at hst
  clear hsz0
  have hSlt : ∀ k, (k = w.heap.size + 1 + 1 + 1 + 1 ∨ k = w.heap.size + 1 + 1 + 1 + 1 + 1 ∨ (xs ≠ [] ∧ ∃ off, a = some ⟨k, off, none⟩)) → k < W2.heap.size := by
    rintro k (rfl | rfl | ⟨hne, off, ha⟩)
    · omega
    · omega
    · obtain ⟨x, xs', rfl⟩ := List.exists_cons_of_ne_nil hne
      obtain ⟨b, off', ha', hlt, _⟩ := hL.at_ 0 x rfl
      rw [ha] at ha'; cases ha'; omega
  refine wpIn_rangeFunc_ownH rfl (by omega) (gf := 132) rfl trivial (enters_of Tryz.func132 (by kernel_rfl) rfl) hst (fun h k => KpOn.trans h k) ?hKb (Below.refl _ _) (fun _ => rfl)
    (IP w goods hour W2)
    (fun _ _ _ => False)
    ?hI (fun _ _ _ _ _ hs _ _ => hs) ⟨k1, k2, k3, k4, hB2, Nat.le_refl _⟩
    (fun x a' W => ∃ Bx, W2.heap.size ≤ Bx ∧ Blk W Bx #[.int .i64 x.id, .int .i64 x.known, .int .i64 x.from_, .string x.goods, .int .i64 x.finder.num, .int .i64 x.finder.den, .int .i64 x.cart, .int .i64 x.store, .int .i64 x.of_] 43 ∧ a' = { tmps := #[.slice a m cap, .string goods, .int .i64 hour, .int .i64 known, undef, .pointer (some ⟨w.heap.size, 0, none⟩), .pointer (some ⟨w.heap.size + 1, 0, none⟩), undef, .pointer (some ⟨w.heap.size + 1 + 1, 0, none⟩), .bool false, .pointer (some ⟨w.heap.size + 1 + 1 + 1, 0, none⟩), .pointer (some ⟨Bx, 0, none⟩), undef, .slice a m cap, .int .i64 known, .func (.func 132) #[] #[.pointer (some ⟨w.heap.size + 1 + 1 + 1 + 1, 0, none⟩), .pointer (some ⟨w.heap.size + 1 + 1 + 1 + 1 + 1, 0, none⟩)], aR x, undef, undef, undef, undef, undef, undef, undef, undef, undef, undef, undef, undef, undef, undef, undef, undef, undef, undef, undef, undef, undef, undef, undef, undef, undef, undef, undef, undef, undef, undef, undef, undef, undef, undef, undef, undef, undef, undef, undef, undef, undef, undef, undef, undef, undef, undef, undef, undef], defers := [] })
    (fun x a' s A B row hs hg hr => hs.imp fun Bx h => ⟨h.1, h.2.1.own hg hr, h.2.2⟩) ?assign ?body ?done ?stop
  case hKb =>
    intro W l o o' hl ho hc hk
    refine ⟨by simp, fun k hS => World.putObj_heap_other (fun e => ?_)⟩
    have := hSlt k hS
    omega
  case hI =>
    rintro pre A B row ⟨h1, h2, h3, h4, hB, hs⟩ hg hr
    exact ⟨h1.own hg hr, h2.own hg hr, h3.own hg hr, h4.own hg hr, hB.grown hg hB.size (fun k e => by have := (hr k e).1; omega), Nat.le_trans hs hg.size⟩
  case assign =>
    rintro l pre x W K ⟨h1, h2, h3, h4, hB, hs⟩ hK
    gi_wp2
    exact hK _ _ ((KeepsOthers.alloc _ _).from _) ⟨by simp, fun k hS => Below.heap_alloc _ _ _ (by have := hSlt k hS; omega)⟩ ⟨h1.alloc _, h2.alloc _, h3.alloc _, h4.alloc _, hB.alloc hB.size _, by simp; omega⟩ ⟨W.heap.size, hs, Blk.new _ _ _, rfl⟩
  case body =>
    rintro l pre x a' W hl ⟨r, hr⟩ ⟨h1, h2, h3, h4, hB, hs⟩ ⟨Bx, hBx, bX, rfl⟩ hlt
    obtain ⟨b, hb⟩ : ∃ b, b = pre.foldl (bestStep goods hour) (zeroRate, zeroRate) := ⟨_, rfl⟩
    rw [← hb] at h4
    have c1 := h1.cell
    have c2 := h2.cell
    have c4 := h4.cell
    have f4 := h4.frozen
    have cX := bX.cell
    have Hb := Lib.hid hb; clear hb
    clear hst k1 k2 k3 k4
    have hSne : ∀ k, (k = w.heap.size + 1 + 1 + 1 + 1 ∨ k = w.heap.size + 1 + 1 + 1 + 1 + 1 ∨ (xs ≠ [] ∧ ∃ off, a = some ⟨k, off, none⟩)) → k ≠ w.heap.size + 1 + 1 + 1 := by
      rintro k (rfl | rfl | ⟨hne, off, ha⟩)
      · omega
      · omega
      · obtain ⟨x, xs', rfl⟩ := List.exists_cons_of_ne_nil hne
        obtain ⟨b, off', ha', hlt, _⟩ := hL.at_ 0 x rfl
        rw [ha] at ha'; cases ha'; omega
    have fin1 : ∀ nq o (A : Act) b', setAll (cR b.1 ++ cR b.2).toArray o (cR x) = (cR (bestStep goods hour b x).1 ++ cR (bestStep goods hour b x).2).toArray → b' = (W.drewN nq).setCells (w.heap.size + 1 + 1 + 1) o (cR x) →
        ownPostG W2.heap.size (KpOn fun k => k = w.heap.size + 1 + 1 + 1 + 1 ∨ k = w.heap.size + 1 + 1 + 1 + 1 + 1 ∨ (xs ≠ [] ∧ ∃ off, a = some ⟨k, off, none⟩)) (IP w goods hour W2) (fun _ _ _ => False) (pre ++ [x]) W .normal A b' := by
      rintro nq o A b' hset rfl
      have hkd : KeepsOthers W (W.drewN nq) := ⟨Nat.le_refl _, fun _ _ h _ => h⟩
      refine ⟨(hkd.trans (keepsOthers_setCells _ _ _ _)).from _, ⟨by rw [size_setCells]; exact Nat.le_refl _, fun k hS => setCells_heap _ _ _ _ _ (hSne k hS)⟩, ?_⟩
      have hfold : (pre ++ [x]).foldl (bestStep goods hour) (zeroRate, zeroRate) = bestStep goods hour b x := by rw [List.foldl_append, ← Hb.out]; rfl
      unfold IP
      rw [hfold, ← hset]
      have h1' : Blk (W.drewN nq) w.heap.size _ _ := h1
      have h2' : Blk (W.drewN nq) (w.heap.size + 1) _ _ := h2
      have h3' : Blk (W.drewN nq) (w.heap.size + 1 + 1) _ _ := h3
      have h4' : Blk (W.drewN nq) (w.heap.size + 1 + 1 + 1) _ _ := h4
      have hB' : Below w.heap.size w (W.drewN nq) := ⟨hB.os, hB.tape, hB.output, hB.size, hB.block⟩
      exact ⟨h1'.setCells_other (by omega) _ _, h2'.setCells_other (by omega) _ _, h3'.setCells_other (by omega) _ _, h4'.setCells _ _, below_setCells hB' (by omega) _ _, by rw [size_setCells]; exact hs⟩
    have fin0 : ∀ nq (A : Act), bestStep goods hour b x = b →
        ownPostG W2.heap.size (KpOn fun k => k = w.heap.size + 1 + 1 + 1 + 1 ∨ k = w.heap.size + 1 + 1 + 1 + 1 + 1 ∨ (xs ≠ [] ∧ ∃ off, a = some ⟨k, off, none⟩)) (IP w goods hour W2) (fun _ _ _ => False) (pre ++ [x]) W .normal A (W.drewN nq) := by
      intro nq A hst
      have hkd : KeepsOthers W (W.drewN nq) := ⟨Nat.le_refl _, fun _ _ h _ => h⟩
      refine ⟨hkd.from _, KpOn.refl _ _, ?_⟩
      have hfold : (pre ++ [x]).foldl (bestStep goods hour) (zeroRate, zeroRate) = b := by rw [List.foldl_append, ← Hb.out]; exact hst
      unfold IP
      rw [hfold]
      exact ⟨h1, h2, h3, h4, ⟨hB.os, hB.tape, hB.output, hB.size, hB.block⟩, hs⟩
    clear hs hB h1 h2 h3 bX hr hl hBx hlt hSlt hsz2 hB2 hw91
    by_cases hg : x.goods = goods
    · have e1 : (x.goods.toList == goods.toList) = true := by rw [toList_beq]; simp [hg]
      have Hg := Lib.hid hg; clear hg
      by_cases q1 : x.from_ ≤ hour
      · by_cases q2 : (b.1.id == 0) = true
        · have H2 : Hid (b.1.id = 0) := Lib.hid (by simpa using q2)
          gi_wp2
          refine wpInRound_region_quiet_lit (by kernel_rfl) (by kernel_rfl) ?_
          repeat (go_big_quiet_step (fail))
          refine wpQuiet_nil ?_
          intro _ hw'
          obtain ⟨nq, hw''⟩ := hw'
          subst hw''
          gi_wp2
          exact fin1 nq 0 _ _ (by rw [show bestStep goods hour b x = (x, b.2) by simp [bestStep, Hg.out, q1, H2.out]]; exact setAll_lo _ _ _) rfl
        · have q2' : (b.1.id == 0) = false := by simpa using q2
          have H2 : Hid (b.1.id ≠ 0) := Lib.hid (by simpa using q2)
          clear q2
          by_cases q3 : b.1.from_ ≤ x.from_
          · gi_wp2
            refine wpInRound_region_quiet_lit (by kernel_rfl) (by kernel_rfl) ?_
            repeat (go_big_quiet_step (fail))
            refine wpQuiet_nil ?_
            intro _ hw'
            obtain ⟨nq, hw''⟩ := hw'
            subst hw''
            gi_wp2
            exact fin1 nq 0 _ _ (by rw [show bestStep goods hour b x = (x, b.2) by simp [bestStep, Hg.out, q1, q3]]; exact setAll_lo _ _ _) rfl
          · have q3' : decide (b.1.from_ ≤ x.from_) = false := by simpa using q3
            gi_wp2
            refine wpInRound_region_quiet_lit (by kernel_rfl) (by kernel_rfl) ?_
            repeat (go_big_quiet_step (fail))
            refine wpQuiet_nil ?_
            intro _ hw'
            obtain ⟨nq, hw''⟩ := hw'
            subst hw''
            gi_wp2
            exact fin0 nq _ (by simp only [bestStep, Hg.out, if_true]; rw [if_neg (by rintro ⟨_, h | h⟩; exact H2.out h; omega)])
      · have q1' : decide (x.from_ ≤ hour) = false := by simpa using q1
        gi_wp2
        refine wpInRound_region_quiet_lit (by kernel_rfl) (by kernel_rfl) ?_
        repeat (go_big_quiet_step (fail))
        refine wpQuiet_nil ?_
        intro _ hw'
        obtain ⟨nq, hw''⟩ := hw'
        subst hw''
        gi_wp2
        exact fin0 nq _ (by simp only [bestStep, Hg.out, if_true]; rw [if_neg (by rintro ⟨h, _⟩; omega)])
    · have e1 : (x.goods.toList == goods.toList) = false := by rw [toList_beq]; simp [hg]
      have Hg := Lib.hid hg; clear hg
      by_cases hz : x.goods = ⟨#[]⟩
      · have e3 : x.goods.toList = [] := by rw [hz, ByteArray.toList_eq]
        have e2 : x.goods.toList.isEmpty = true := by rw [e3]; rfl
        have Hz := Lib.hid hz; clear hz e3
        by_cases q1 : x.from_ ≤ hour
        · by_cases q2 : (b.2.id == 0) = true
          · have H2 : Hid (b.2.id = 0) := Lib.hid (by simpa using q2)
            gi_wp2
            refine wpInRound_region_quiet_lit (by kernel_rfl) (by kernel_rfl) ?_
            repeat (go_big_quiet_step (fail))
            refine wpQuiet_nil ?_
            intro _ hw'
            obtain ⟨nq, hw''⟩ := hw'
            subst hw''
            gi_wp2
            exact fin1 nq 9 _ _ (by rw [show bestStep goods hour b x = (b.1, x) by simp only [bestStep]; rw [if_neg Hg.out, if_pos ⟨Hz.out, by omega, .inl H2.out⟩]]; exact setAll_hi _ _ _) rfl
          · have q2' : (b.2.id == 0) = false := by simpa using q2
            have H2 : Hid (b.2.id ≠ 0) := Lib.hid (by simpa using q2)
            clear q2
            by_cases q3 : b.2.from_ ≤ x.from_
            · gi_wp2
              refine wpInRound_region_quiet_lit (by kernel_rfl) (by kernel_rfl) ?_
              repeat (go_big_quiet_step (fail))
              refine wpQuiet_nil ?_
              intro _ hw'
              obtain ⟨nq, hw''⟩ := hw'
              subst hw''
              gi_wp2
              exact fin1 nq 9 _ _ (by rw [show bestStep goods hour b x = (b.1, x) by simp only [bestStep]; rw [if_neg Hg.out, if_pos ⟨Hz.out, by omega, .inr (by omega)⟩]]; exact setAll_hi _ _ _) rfl
            · have q3' : decide (b.2.from_ ≤ x.from_) = false := by simpa using q3
              gi_wp2
              refine wpInRound_region_quiet_lit (by kernel_rfl) (by kernel_rfl) ?_
              repeat (go_big_quiet_step (fail))
              refine wpQuiet_nil ?_
              intro _ hw'
              obtain ⟨nq, hw''⟩ := hw'
              subst hw''
              gi_wp2
              exact fin0 nq _ (by simp only [bestStep]; rw [if_neg Hg.out, if_neg (by rintro ⟨_, _, h | h⟩; exact H2.out h; omega)])
        · have q1' : decide (x.from_ ≤ hour) = false := by simpa using q1
          gi_wp2
          refine wpInRound_region_quiet_lit (by kernel_rfl) (by kernel_rfl) ?_
          repeat (go_big_quiet_step (fail))
          refine wpQuiet_nil ?_
          intro _ hw'
          obtain ⟨nq, hw''⟩ := hw'
          subst hw''
          gi_wp2
          exact fin0 nq _ (by simp only [bestStep]; rw [if_neg Hg.out, if_neg (by rintro ⟨_, h, _⟩; omega)])
      · have e3 : x.goods.toList ≠ [] := fun h => hz (ByteArray.ext (by rw [ByteArray.toList_eq] at h; simpa using h))
        have e2 : x.goods.toList.isEmpty = false := by simpa using e3
        have Hz := Lib.hid hz; clear hz e3
        gi_wp2
        refine wpInRound_region_quiet_lit (by kernel_rfl) (by kernel_rfl) ?_
        repeat (go_big_quiet_step (fail))
        refine wpQuiet_nil ?_
        intro _ hw'
        obtain ⟨nq, hw''⟩ := hw'
        subst hw''
        gi_wp2
        exact fin0 nq _ (by simp only [bestStep]; rw [if_neg Hg.out, if_neg (by rintro ⟨h, _⟩; exact Hz.out h)])
  case done =>
    rintro D ys W hD rfl ⟨h1, h2, h3, h4, hB, hs⟩ hK
    obtain ⟨b, hb⟩ : ∃ b, b = bestOf xs goods hour known := ⟨_, rfl⟩
    change Blk W (w.heap.size + 1 + 1 + 1) (cR (bestOf xs goods hour known).1 ++ cR (bestOf xs goods hour known).2).toArray _ at h4
    have hf : inForce xs goods hour known = if 0 < b.1.id then (b.1, true) else (b.2, decide (0 < b.2.id)) := by rw [hb]; rfl
    rw [← hb] at h4
    have c3 := h3.cell
    have f3 := h3.frozen
    have c4 := h4.cell
    have Hf := Lib.hid hf; clear hf hb
    have Hst := Lib.hid hst; clear hst
    have hret : ∀ (W1 : World) (r : Rate) (ok : Bool) (tm : Array Value), Blk W1 (w.heap.size + 1 + 1) (cR r).toArray 43 → W1.heap[D]? = some (.deferred (some [])) → Below w.heap.size w W1 → inForce xs goods hour known = (r, ok) →
        tm.getD 8 undef = .pointer (some ⟨w.heap.size + 1 + 1, 0, none⟩) → tm.getD 9 undef = .bool ok →
        bodyPostM Fence.wide 3 Tryz.prog Tryz.f66 (Gives w (.tuple #[aR (inForce xs goods hour known).1, .bool (inForce xs goods hour known).2])) .ret { tmps := tm, defers := [{ target := .collected D, args := #[] }] } W1 := by
      intro W1 r ok tm hb1 hK1 hB1 hfr h8 h9
      refine ⟨by simp, .inl ⟨_, _, rfl, run_takeDeferred hK1, ?_⟩⟩
      refine ⟨_, results_cell_tmp rfl tm _ (w.heap.size + 1 + 1) 43 (cR r) _ h8 (hb1.putObj _ (by omega)) Tryz.underlying43 rfl (by kernel_rfl), ?_⟩
      rw [h9, hfr]
      exact ⟨rfl, hB1.trans (belowK_b (w := w) (Nat.le_refl _) W1 D _ _ (by omega) hK1 rfl rfl)⟩
    clear Hst h1 h2 hSlt k1 k2 k3 k4
    have hfin : ∀ (W1 : World) (r : Rate) (ok : Bool) (tm : Array Value), (W1 = W.setCells (w.heap.size + 1 + 1) 0 (cR r) ∨ W1 = (W.setCells (w.heap.size + 1 + 1) 0 (cR r)).drew) → inForce xs goods hour known = (r, ok) →
        tm.getD 8 undef = .pointer (some ⟨w.heap.size + 1 + 1, 0, none⟩) → tm.getD 9 undef = .bool ok →
        bodyPostM Fence.wide 3 Tryz.prog Tryz.f66 (Gives w (.tuple #[aR (inForce xs goods hour known).1, .bool (inForce xs goods hour known).2])) .ret { tmps := tm, defers := [{ target := .collected D, args := #[] }] } W1 := by
      have hblk : ∀ r, Blk (W.setCells (w.heap.size + 1 + 1) 0 (cR r)) (w.heap.size + 1 + 1) (cR r).toArray 43 := fun r => by
        rw [← setAll_zero]
        exact h3.setCells 0 _
      have hK2 : ∀ r, (W.setCells (w.heap.size + 1 + 1) 0 (cR r)).heap[D]? = some (.deferred (some [])) := fun r => (setCells_heap W (w.heap.size + 1 + 1) 0 (cR r) D (by omega)).trans hK
      have hB2 : ∀ r, Below w.heap.size w (W.setCells (w.heap.size + 1 + 1) 0 (cR r)) := fun r => below_setCells hB (by omega) _ _
      have hdr : ∀ X : World, X.drew.heap = X.heap := fun _ => rfl
      rintro W1 r ok tm (rfl | rfl) hfr h8 h9
      · exact hret _ r ok tm (hblk r) (hK2 r) (hB2 r) hfr h8 h9
      · exact hret _ r ok tm (hblk r).drew (by rw [hdr]; exact hK2 r) (hB2 r).drew hfr h8 h9
    have hfin1 := fun W1 r ok tm h => hfin W1 r ok tm (.inl h)
    have hfin2 := fun W1 r ok tm h => hfin W1 r ok tm (.inr h)
    clear hfin
    by_cases hp : 0 < b.1.id
    · gi_wp2
      refine hfin1 _ b.1 true _ rfl (by rw [Hf.out, if_pos (by omega)]) rfl rfl
    · have hp' : decide (0 < b.1.id) = false := by simpa using hp
      gi_wp2
      refine wpIn_wide.2 ?_
      go_region
      gi_wp2
      refine hfin2 _ b.2 (decide (0 < b.2.id)) _ rfl (by rw [Hf.out, if_neg (by omega)]) rfl rfl
  case stop =>
    rintro D c pre W _ _ h _
    exact h.elim

end Go.Proofs.YtkeppoiomjhkpaaGreatDoor
