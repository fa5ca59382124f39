import Derived.Test.YtmeomhojbobpbaaGreatDoorPart56
import Derived.Test.YtmeomhojbobpbaaGreatDoorPart42
/-
  Walks: the reference's Common and Greatest.
-/
namespace Go.Proofs.YtmeomhojbobpbaaGreatDoor
open Go.RowKit Lg Go.Sort Go.Shelf

theorem shares_valid {xss : List (List Title)} (h : endsE xss = 0) (p : Int) : ∀ f ∈ sharesAt xss p, validF f = true := by
  intro f hf
  have hall : xss.all listOk = true := by
    unfold endsE at h
    by_cases c : 1000 < xss.length
    · rw [if_pos c] at h; cases h
    · rw [if_neg c] at h
      cases hb : xss.all listOk with
      | true => rfl
      | false => rw [hb] at h; cases h
  unfold sharesAt at hf
  obtain ⟨xs, hxs, ht⟩ := List.mem_filterMap.1 hf
  cases hfi : xs.find? (fun x => decide (x.party = p)) with
  | none => rw [hfi] at ht; cases ht
  | some t =>
    rw [hfi] at ht
    obtain rfl : t.share = f := by simpa using ht
    have h1 := (listOk_parts (List.all_eq_true.1 hall xs hxs)).1 t (List.mem_of_find?_eq_some hfi)
    unfold titleOk at h1
    simp only [Bool.and_eq_true] at h1
    exact h1.1.1.2

/-- The titles of those that are in as many lists as there are. -/
def keepT (n : Int) (q : Title × Int) : Option Title := if q.2 = n then some q.1 else none

theorem common_eq {xss : List (List Title)} (h : endsE xss = 0) : commonOf xss = ((outP (-1) xss 41).filterMap (keepT xss.length), 0) := by
  unfold commonOf
  rw [chosen_eq h]
  unfold outP
  rw [List.filterMap_filterMap]
  congr 2
  funext i
  have hl := shares_len xss (i : Int)
  have hb : bestW (-1) (sharesAt xss (i : Int)) = minF (sharesAt xss (i : Int)) := by rw [bestW_min, minC_eq (shares_valid h _)]
  unfold chG outG
  by_cases c : 1 ≤ (sharesAt xss (i : Int)).length
  · rw [if_pos c]
    simp only [Option.bind_some, keepT]
    by_cases d : (sharesAt xss (i : Int)).length = xss.length
    · rw [if_pos (by omega), if_pos (by omega), hb]; rfl
    · rw [if_neg (by omega), if_neg (by omega)]; rfl
  · rw [if_neg c, if_neg (by omega)]; rfl

theorem greatest_eq {xss : List (List Title)} (h : endsE xss = 0) : greatestOf xss = ((outP 1 xss 41).map Prod.fst, 0) := by
  unfold greatestOf
  rw [chosen_eq h]
  unfold outP
  rw [List.map_filterMap]
  congr 2
  funext i
  have hb : bestW 1 (sharesAt xss (i : Int)) = maxF (sharesAt xss (i : Int)) := by rw [bestW_max, maxC_eq (shares_valid h _)]
  unfold chG outG
  by_cases c : 1 ≤ (sharesAt xss (i : Int)).length
  · rw [if_pos c, if_pos c, hb]; rfl
  · rw [if_neg c, if_neg c]; rfl

theorem chosen_bad {xss : List (List Title)} (h : endsE xss ≠ 0) : commonOf xss = ([], endsE xss) ∧ greatestOf xss = ([], endsE xss) := by
  unfold commonOf greatestOf chosenD
  rw [if_neg h, if_neg h]
  exact ⟨rfl, rfl⟩

theorem ends_len {xss : List (List Title)} (h : endsE xss = 0) : xss.length ≤ 1000 := by
  unfold endsE at h
  by_cases c : 1000 < xss.length
  · rw [if_pos c] at h; cases h
  · omega

theorem filterMap_take5 {α β : Type} (f : α → Option β) (l : List α) (k : Nat) (x : α) (h : l[k]? = some x) : (l.take (k + 1)).filterMap f = (l.take k).filterMap f ++ (f x).toList := by
  obtain ⟨h1, h2⟩ := List.getElem?_eq_some_iff.1 h
  rw [List.take_succ_eq_append_getElem h1, h2, List.filterMap_append]
  cases h3 : f x <;> simp [h3]

set_option maxRecDepth 100000 in
set_option maxHeartbeats 3200000 in
theorem greatest5_any (a : Option Addr) (n cap : Nat) (xss : List (List Title)) (w : World) (hL : LstL w a n cap xss) :
    Calls Tryz.prog 43 #[.slice a n cap] w (GivesL w 66 3 cT (greatestOf xss).1 (greatestOf xss).2) := by
  have hlen := hL.facts.1
  have ht := titled5_any a n cap xss w hL
  by_cases h : endsE xss = 0
  · rw [h] at ht
    have hn := ends_len h
    have ho := fun W (hb : RowKit.Below w.heap.size w W) => outmost5_any a n cap xss 1 W (hL.below hb) (by omega)
    rw [greatest_eq h]
    clear h hL
    go_enter Tryz.func43, Tryz.ntmps43
    go_wp2_with (fail)
    refine ht.mono ?_
    rintro e w1 ⟨rfl, hB1⟩
    go_wp2_with (fail)
    refine (ho _ hB1).mono ?_
    rintro e w2 ⟨v1, v2, rfl, h1, h2, hB2⟩
    go_wp2_with (fail)
    go_ret2
    exact ⟨_, rfl, by rw [List.length_map]; exact h1.mono hB1.size, hB1.trans (hB2.mono hB1.size)⟩
  · rw [(chosen_bad h).2]
    generalize endsE xss = er at *
    have g : (er != 0) = true := by simpa using h
    clear h hL
    go_enter Tryz.func43, Tryz.ntmps43
    go_wp2_with (fail)
    refine ht.mono ?_
    rintro e w1 ⟨rfl, hB1⟩
    go_wp2_with (fail)
    go_ret2
    exact GivesL.nil hB1

set_option maxRecDepth 100000 in
set_option maxHeartbeats 6400000 in
theorem common5_any (a : Option Addr) (n cap : Nat) (xss : List (List Title)) (w : World) (hL : LstL w a n cap xss) :
    Calls Tryz.prog 41 #[.slice a n cap] w (GivesL w 66 3 cT (commonOf xss).1 (commonOf xss).2) := by
  have hlen := hL.facts.1
  have ht := titled5_any a n cap xss w hL
  obtain ⟨i1, hi1, hy0, hy1, hy2⟩ := info_parts infoT
  by_cases h : endsE xss = 0
  rotate_left
  · rw [(chosen_bad h).1]
    generalize endsE xss = er at *
    have g : (er != 0) = true := by simpa using h
    clear h hL
    go_enter Tryz.func41, Tryz.ntmps41
    go_wp2_with (fail)
    refine ht.mono ?_
    rintro e w1 ⟨rfl, hB1⟩
    go_wp2_with (fail)
    go_ret2
    exact GivesL.nil hB1
  rw [h] at ht
  have hn := ends_len h
  rw [hlen] at hn
  have ho := fun W (hb : RowKit.Below w.heap.size w W) => outmost5_any a n cap xss (-1) W (hL.below hb) hn
  rw [common_eq h, hlen]
  have hpl := outP_len (-1) xss 41
  clear h hL hlen
  go_enter Tryz.func41, Tryz.ntmps41
  go_wp2_with (fail)
  refine ht.mono ?_
  clear ht
  rintro e w1 ⟨rfl, hB1⟩
  go_wp2_with (fail)
  refine (ho _ hB1).mono ?_
  clear ho
  rintro e w2 ⟨v1, v2, rfl, h1, h2, hB2⟩
  generalize outP (-1) xss 41 = ps at *
  obtain ⟨a1, p1, rfl, hc1, hL1⟩ := Lst.of_owns (xs := ps.map Prod.fst) (k := 3) (enc := cT) (fun _ => rfl) (by omega) h1 (by rw [List.length_map])
  obtain ⟨a2, p2, rfl, hc2, hL2⟩ := Lst.of_owns (xs := ps.map Prod.snd) (k := 1) (enc := cI) (fun _ => rfl) (by omega) h2 (by rw [List.length_map])
  have hb2 := hB1.trans (hB2.mono hB1.size)
  clear h1 h2 hB2 hB1
  obtain ⟨q, hq⟩ : ∃ q, q = ps.length := ⟨_, rfl⟩
  rw [← hq] at hL1 hL2 hpl ⊢
  have Hq := Lib.hid hq
  have HB2 := Lib.hid hb2
  have hm1 : p1 ≤ 9223372036854775807 := by have := hL1.max; unfold maxLen at this; omega
  have hm2 : p2 ≤ 9223372036854775807 := by have := hL2.max; unfold maxLen at this; omega
  have hle1 := hL1.le
  have hle2 := hL2.le
  have HL1 := Lib.hid hL1
  have HL2 := Lib.hid hL2
  clear hq hb2 hL1 hL2
  go_wp2_with (fail)
  go_loopw [7, 8] (fun o s wr => ∃ k : Nat, k ≤ q ∧ s = .int .i64 k ∧ wr.ownsRow w2.heap.size 66 3 o ((ps.take k).filterMap (keepT n)).length (((ps.take k).filterMap (keepT n)).flatMap cT) ∧ RowKit.Below w2.heap.size w2 wr) (fun _ s _ => q - (intOf s).toNat)
  case atStart => exact ⟨0, Nat.zero_le _, rfl, ⟨by simp, .inl ⟨rfl, rfl⟩⟩, Below.refl _ _⟩
  case round =>
    obtain ⟨k, hk, rfl, hown, hB⟩ := hrel
    by_cases hlt : k < q
    · have hltz : (k : Int) < (q : Int) := by omega
      obtain ⟨⟨t, m⟩, hx⟩ : ∃ x, ps[k]? = some x := ⟨ps[k]'(by have := Hq.out; omega), by simp⟩
      obtain ⟨b1, o1, rfl, hb1, hr1⟩ := HL1.out.at_ k t (by rw [List.getElem?_map, hx]; rfl)
      obtain ⟨b2, o2, rfl, hb2, hr2⟩ := HL2.out.at_ k m (by rw [List.getElem?_map, hx]; rfl)
      have hr1' := rangeAt_below hB hb1 hr1
      have m2 := rangeAt_below hB hb2 hr2 0 _ rfl
      simp only [Nat.mul_one, Nat.add_zero] at m2
      have hst := filterMap_take5 (keepT n) ps k (t, m) hx
      have hfl : ((ps.take k).filterMap (keepT n)).length ≤ 41 := by
        have h1 := List.length_filterMap_le (keepT n) (ps.take k)
        rw [List.length_take] at h1
        omega
      obtain ⟨fs, hfs⟩ : ∃ fs, fs = (ps.take k).filterMap (keepT n) := ⟨_, rfl⟩
      rw [← hfs] at hst hfl hown
      clear hfs hx hr1 hr2
      by_cases hm : m = n
      · have g : (m == (n : Int)) = true := by simpa using hm
        have hst2 : (ps.take (k + 1)).filterMap (keepT n) = fs ++ [t] := by rw [hst]; simp [keepT, hm]
        have Hst := Lib.hid hst2
        have Hown := Lib.hid hown
        clear hst hst2 hown hm
        go_wp2_with (first
          | (refine wpList_load_mid rfl 66 (.tmp 35) rfl b1 (o1 + k * 3) rfl (cT t) _ hr1' Tryz.underlying66 rfl (by kernel_rfl) ?_; clear hr1')
          | (at_builtin; refine wpList_append_list rfl _ _ _ rfl w2.heap.size 66 i1 _ 3 24 Tryz.underlying57 hi1 hy0 hy1 hy2 rfl (by omega) _ _ _ rfl (Hown.out.alloc _) cT (fun _ => rfl) cT_one _ 1 _ [t] rfl (Lst.oneT3 (Blk.new _ _ _)) (by unfold maxLen; omega) (by omega) (by have := hB.size; simp; omega) ?_; intro v5 w5 hown5 hgrow5; have hB5 := below_of_grown (hB.alloc hB.size _) (Nat.le_refl _) hgrow5 (own_ge' Hown.out))
          | fail)
        go_roundw
        case rel => exact ⟨k + 1, by omega, by go_num, by rw [Hst.out, List.length_append, List.flatMap_append]; exact hown5, hB5⟩
        case measure => simp [intOf]; omega
      · have g : (m == (n : Int)) = false := by simpa using hm
        have hst2 : (ps.take (k + 1)).filterMap (keepT n) = fs := by rw [hst]; simp [keepT, hm]
        have Hst := Lib.hid hst2
        have Hown := Lib.hid hown
        clear hst hst2 hown hm hr1'
        go_wp2_with (fail)
        go_roundw
        case rel => exact ⟨k + 1, by omega, by go_num, by rw [Hst.out]; exact Hown.out, hB⟩
        case measure => simp [intOf]; omega
    · obtain rfl : k = q := by omega
      have hz : ¬ (k : Int) < (k : Int) := by omega
      rw [List.take_of_length_le (by rw [← Hq.out]; exact Nat.le_refl _)] at hown
      have Hown := Lib.hid hown
      clear hown
      go_wp2_with (fail)
      go_ret2
      exact ⟨_, rfl, Hown.out.mono HB2.out.size, HB2.out.trans (hB.mono HB2.out.size)⟩

end Go.Proofs.YtmeomhojbobpbaaGreatDoor

/-
  Walk: the law ClaimCommon.
-/
namespace Go.Proofs.YtmeomhojbobpbaaGreatDoor
open Go.RowKit Lg Go.Sort Go.Shelf Go.Maps

set_option maxRecDepth 100000 in
set_option maxHeartbeats 6400000 in
theorem lawCommon_any (a : Option Addr) (n cap : Nat) (xss : List (List Title)) (w : World) (hL : LstL w a n cap xss) (hV : Vs w) :
    Calls Tryz.prog 10 #[.slice a n cap] w (Gives w (.bool true)) := by
  have HV := Lib.hid hV
  have HL := Lib.hid (fun W (h : RowKit.Below w.heap.size w W) => hL.below h)
  have hlt := light_any a n cap xss w hL
  have hlen := hL.facts.1
  obtain ⟨lb, hlb⟩ : ∃ lb, lb = lightD xss := ⟨_, rfl⟩
  rw [← hlb] at hlt
  have Hlb := Lib.hid hlb
  clear hL hV hlb
  go_enter Tryz.func10, Tryz.ntmps10
  go_wp2_with (fail)
  refine hlt.mono ?_
  clear hlt
  rintro e w0 ⟨rfl, hw0⟩
  cases lb with
  | false =>
    have hal := alive_any _ (HV.out.below hw0)
    go_wp2_with (fail)
    refine hal.mono ?_
    rintro e w2 ⟨rfl, hB2⟩
    go_wp2_with (fail)
    go_ret
    exact ⟨rfl, hw0.trans (hB2.mono hw0.size)⟩
  | true =>
  have hlb2 := Hlb.out.symm
  unfold lightD at hlb2
  rw [Bool.and_eq_true, List.all_eq_true] at hlb2
  have h50 : ∀ xs ∈ xss, xs.length ≤ 50 := fun xs h => by simpa using hlb2.1 xs h
  have hn : n ≤ 100000 := by
    have h2 := hlb2.2
    simp only [Bool.or_eq_true, Bool.and_eq_true, decide_eq_true_eq] at h2
    omega
  have Hc := Lib.hid (fun W (h : RowKit.Below w.heap.size w W) => commonD_any a n cap xss W (HL.out W h) h50 hn)
  have Hd := Lib.hid (fun W (h : RowKit.Below w.heap.size w W) => common5_any a n cap xss W (HL.out W h))
  have Hg := Lib.hid (fun W (h : RowKit.Below w.heap.size w W) => greatestD_any a n cap xss W (HL.out W h) h50)
  have Hh := Lib.hid (fun W (h : RowKit.Below w.heap.size w W) => greatest5_any a n cap xss W (HL.out W h))
  clear HL Hlb hlb2 h50 hn hlen
  generalize commonOf xss = c at *
  generalize greatestOf xss = d at *
  obtain ⟨l, e1⟩ := c
  obtain ⟨m, e2⟩ := d
  go_wp2_with (fail)
  refine (Hc.out _ hw0).mono ?_
  rintro e w1 ⟨v1, rfl, ho1, hB1⟩
  obtain ⟨a1, p1, rfl, _, hL1⟩ := Lst.of_owns (k := 3) (enc := cT) (fun _ => rfl) (by omega) ho1 rfl
  have hw1 := hw0.trans (hB1.mono hw0.size)
  clear hw0 ho1 hB1 Hc
  go_wp2_with (fail)
  refine (Hd.out _ hw1).mono ?_
  rintro e w2 ⟨v2, rfl, ho2, hB2⟩
  obtain ⟨a2, p2, rfl, _, hL2⟩ := Lst.of_owns (k := 3) (enc := cT) (fun _ => rfl) (by omega) ho2 rfl
  replace hL1 := hL1.below hB2
  have hw2 := hw1.trans (hB2.mono hw1.size)
  clear hw1 ho2 hB2 Hd
  go_wp2_with (fail)
  refine (Hg.out _ hw2).mono ?_
  rintro e w3 ⟨v3, rfl, ho3, hB3⟩
  obtain ⟨a3, p3, rfl, _, hL3⟩ := Lst.of_owns (k := 3) (enc := cT) (fun _ => rfl) (by omega) ho3 rfl
  replace hL1 := hL1.below hB3
  replace hL2 := hL2.below hB3
  have hw3 := hw2.trans (hB3.mono hw2.size)
  clear hw2 ho3 hB3 Hg
  go_wp2_with (fail)
  refine (Hh.out _ hw3).mono ?_
  rintro e w5 ⟨v4, rfl, ho4, hB4⟩
  obtain ⟨a4, p4, rfl, _, hL4⟩ := Lst.of_owns (k := 3) (enc := cT) (fun _ => rfl) (by omega) ho4 rfl
  replace hL1 := hL1.below hB4
  replace hL2 := hL2.below hB4
  replace hL3 := hL3.below hB4
  have hw5 := hw3.trans (hB4.mono hw3.size)
  clear hw3 ho4 hB4 Hh

  have hs1 := fun W (h : RowKit.Below w5.heap.size w5 W) => sameT_any _ _ _ _ _ _ _ _ W (hL1.below h) (hL2.below h)
  have hs2 := fun W (h : RowKit.Below w5.heap.size w5 W) => sameT_any _ _ _ _ _ _ _ _ W (hL3.below h) (hL4.below h)
  rw [decide_eq_true rfl] at hs1 hs2
  have hal := fun W (h : RowKit.Below w5.heap.size w5 W) => alive_any W (HV.out.below (hw5.trans (h.mono hw5.size)))
  have HB := Lib.hid hw5
  clear hL1 hL2 hL3 hL4 hw5 HV
  generalize l.length = ln at *
  generalize m.length = lm at *
  go_upto_region 7 with fail
  go_wp2_with (fail)
  refine (hal _ (Below.refl _ _)).mono ?_
  rintro e wa ⟨rfl, hqa⟩
  go_wp2_with (fail)
  refine (hs1 _ hqa).mono ?_
  rintro e wb ⟨rfl, hqb⟩
  have hb := hqa.trans (hqb.mono hqa.size)
  go_wp2_with (fail)
  refine (hs2 _ hb).mono ?_
  rintro e wd ⟨rfl, hqc⟩
  have hc := hb.trans (hqc.mono hb.size)
  go_wp2_with (fail)
  go_ret
  exact ⟨by first | rfl | simp, HB.out.trans (hc.mono HB.out.size)⟩

end Go.Proofs.YtmeomhojbobpbaaGreatDoor
