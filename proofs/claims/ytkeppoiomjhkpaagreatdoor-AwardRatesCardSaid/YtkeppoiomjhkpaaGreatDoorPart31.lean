import Derived.Test.YtkeppoiomjhkpaaGreatDoorPart11
import Derived.Test.YtkeppoiomjhkpaaGreatDoorPart09
import Derived.Test.YtkeppoiomjhkpaaGreatDoorPart30
import Derived.Deep.RegionHeld3
/-
  Walk: the hours at which the rate in force changes.
-/
namespace Go.Proofs.YtkeppoiomjhkpaaGreatDoor
open Go.RowKit Lg Go.Sort Go.Shelf

set_option maxRecDepth 100000 in
set_option maxHeartbeats 1600000 in
theorem turns_any (a : Option Addr) (n cap : Nat) (xs : List Rate) (goods : ByteArray) (known : Int) (w : World) (hL : Lst w 9 cR a n cap xs) :
    Calls Tryz.prog 40 #[.slice a n cap, .string goods, .int .i64 known] w (GivesI w (turnsOf xs goods known)) := by
  obtain ⟨c, hc⟩ : ∃ c, c = checkRates xs := ⟨_, rfl⟩
  have hcr := checkRates_any a n cap xs w hL
  rw [← hc] at hcr
  have hlen9 : c.2 = 0 → n ≤ 100 := fun h => by have := checkRates_len xs (hc ▸ h); rw [hL.len] at this; exact this
  have Htv : Hid (turnsOf xs goods known = if c.2 = 0 then ((startsOf xs).foldl (turnStep xs goods known) (0, [])).2 else []) := Lib.hid (by rw [hc]; rfl)
  clear hc
  obtain ⟨c1, c2⟩ := c
  obtain ⟨i0, hi0, hz0, hz1, hz2⟩ := info_parts infoI
  go_enter Tryz.func40, Tryz.ntmps40
  go_wp2_with (fail)
  refine hcr.mono ?_
  clear hcr
  rintro e w1 ⟨rfl, hB1⟩
  by_cases hv0 : c2 = 0
  · have hn := hlen9 hv0
    subst hv0
    have htv := Htv.out
    simp only [if_true] at htv
    have Htv2 := Lib.hid htv; clear htv
    go_wp2_with (fail)
    refine (starts_any a n cap xs w1 (by omega) (hL.below hB1)).mono ?_
    rintro e w2 ⟨v, rfl, ho, hB2⟩
    have hsl := startsOf_len xs
    rw [hL.len] at hsl
    obtain ⟨hs, hhs⟩ : ∃ hs, hs = startsOf xs := ⟨_, rfl⟩
    rw [← hhs] at ho hsl
    rw [← hhs] at Htv2
    have Hhs := Lib.hid hhs; clear hhs
    rw [← flat_int] at ho
    obtain ⟨a2, cap2, rfl, hpl, hL2⟩ := Lst.of_owns (k := 1) (enc := cI) (fun _ => rfl) Nat.zero_lt_one ho rfl
    have hm2 : cap2 ≤ 9223372036854775807 := by have := hL2.max; unfold maxLen at this; omega
    have hle2 := hL2.le
    have hb2 := hB1.trans (hB2.mono hB1.size)
    clear ho
    go_wp2
    go_loopw [25, 9, 10] (fun i la o wr => ∃ k : Nat, k ≤ hs.length ∧ i = .int .i64 k ∧ la = .int .i64 ((hs.take k).foldl (turnStep xs goods known) (0, [])).1 ∧
      wr.ownsRow w2.heap.size 3 1 o ((hs.take k).foldl (turnStep xs goods known) (0, [])).2.length (((hs.take k).foldl (turnStep xs goods known) (0, [])).2.map (Value.int .i64)) ∧ RowKit.Below w2.heap.size w2 wr) (fun i _ _ _ => hs.length - (intOf i).toNat)
    case atStart => exact ⟨0, Nat.zero_le _, rfl, rfl, ⟨by simp, .inl ⟨rfl, rfl⟩⟩, Below.refl _ _⟩
    case round =>
      obtain ⟨k, hk, rfl, rfl, ho, hB⟩ := hrel
      by_cases hlt : k < hs.length
      · obtain ⟨h, hx⟩ : ∃ h, hs[k]? = some h := ⟨hs[k], by simp⟩
        obtain ⟨b, off, rfl, hb, hr⟩ := hL2.at_ k h hx
        have hr' := rangeAt_below hB hb hr 0 _ rfl
        simp only [Nat.mul_one, Nat.add_zero] at hr'
        have htake : (hs.take (k + 1)).foldl (turnStep xs goods known) (0, []) = turnStep xs goods known ((hs.take k).foldl (turnStep xs goods known) (0, [])) h := by
          obtain ⟨h1, h2⟩ := List.getElem?_eq_some_iff.1 hx
          rw [List.take_succ_eq_append_getElem h1, h2, List.foldl_append]; rfl
        have hll := turnFold_len xs goods known (hs.take k)
        have hll2 : (hs.take k).length ≤ k := List.length_take_le _ _
        have Hx := Lib.hid hx; clear hx
        generalize (hs.take k).foldl (turnStep xs goods known) (0, []) = s at *
        obtain ⟨s1, s2⟩ := s
        obtain ⟨f, hf⟩ : ∃ f, f = inForce xs goods h known := ⟨_, rfl⟩
        have hfr := inForce_any a n cap xs goods h known wr (hL.below (hb2.trans (hB.mono hb2.size)))
        rw [← hf] at hfr
        have htake2 : (hs.take (k + 1)).foldl (turnStep xs goods known) (0, []) = (f.1.id, if f.1.id = s1 then s2 else s2 ++ [h]) := by rw [htake, hf]; rfl
        have Ht := Lib.hid htake2; clear htake htake2 hf
        obtain ⟨f1, f2⟩ := f
        go_wp2_with (fail)
        refine hfr.mono ?_
        clear hfr
        rintro e w3 ⟨rfl, hB3⟩
        have hb3 : RowKit.Below w2.heap.size w2 w3 := hB.trans (hB3.mono hB.size)
        have ho3 := ho.kept (grownBy_of_below hB3) (Option.eq_none_or_eq_some _ |>.elim .inl fun ⟨_, h⟩ => .inr (by rw [h]; simp))
        clear hr'
        by_cases h0 : f1.id = s1
        · have g0 : (f1.id != s1) = false := by simpa using h0
          have ht := Ht.out
          rw [if_pos h0] at ht
          have Ht2 := Lib.hid ht; clear ht h0
          go_wp2_with (fail)
          go_roundw
          case rel =>
            refine ⟨k + 1, by omega, by go_num, by rw [Ht2.out], ?_, hb3.alloc hb3.size _⟩
            rw [Ht2.out]
            exact ho3.alloc _
          case measure => simp [intOf]; omega
        · have g0 : (f1.id != s1) = true := by simpa using h0
          have ht := Ht.out
          rw [if_neg h0] at ht
          have Ht2 := Lib.hid ht; clear ht h0
          go_wp2_with (at_builtin; refine wpList_append_lies _ rfl _ _ _ rfl w2.heap.size 3 i0 _ 1 8 Tryz.underlying64 hi0 hz0 hz1 hz2 rfl (by omega) _ s2.length (s2.map (Value.int .i64)) rfl ((ho3.alloc _).alloc _) ⟨w3.heap.size + 1, 0, none⟩ 1 1 [.int .i64 h] rfl rfl (World.news_of_block (cs := #[.int .i64 h]) (t := 3) (fr := (0, 0)) (heap_alloc2_new w3 _ _)) (by simp [Value.oneCell']) (by omega) (by unfold maxLen; omega) (by omega) (by have := hb3.size; simp; omega) _ rfl ?_; intro g cap1 w4 hown hgrow hat hlt1; have cX := (((Blk.new w3 43 (cR f1).toArray).alloc _).kept hgrow (fun e => Nat.lt_irrefl _ (ho3.lt _ e.symm).2)).cell)
          go_roundw
          case rel =>
            refine ⟨k + 1, by omega, by go_num, by rw [Ht2.out], ?_, below_of_grown ((hb3.alloc hb3.size _).alloc (by have := hb3.size; simp; omega) _) (Nat.le_refl _) hgrow (own_ge' ho)⟩
            rw [Ht2.out, List.length_append, List.map_append]
            exact hown
          case measure => simp [intOf]; omega
      · obtain rfl : k = hs.length := by omega
        rw [List.take_of_length_le (Nat.le_refl _)] at ho
        go_wp2
        go_ret
        exact ⟨_, rfl, by rw [Htv2.out]; exact ownsRow_base_a ho hb2.size, hb2.trans (hB.mono hb2.size)⟩
  · have g0 : (c2 != 0) = true := by simpa using hv0
    have Hv0 := Lib.hid hv0; clear hv0
    go_wp2_with (fail)
    go_ret
    exact ⟨_, rfl, by rw [Htv.out, if_neg Hv0.out]; exact ⟨rfl, .inl ⟨rfl, rfl⟩⟩, hB1⟩

end Go.Proofs.YtkeppoiomjhkpaaGreatDoor

/-
  Walk: between which hours a record more changes the rate in force.
-/
namespace Go.Proofs.YtkeppoiomjhkpaaGreatDoor
open Go.RowKit Lg Go.Sort Go.Shelf

theorem results_tmp4 {fn : Func} {t u v x : Tmp} (h : fn.results = #[.tmp t, .tmp u, .tmp v, .tmp x]) (tmps : Array Value) (P : Program) (w : World) :
    (results fn tmps).run P w = .ok (.tuple #[tmps.getD t undef, tmps.getD u undef, tmps.getD v undef, tmps.getD x undef]) w := by
  simp [results, h]

set_option maxRecDepth 100000 in
set_option maxHeartbeats 1600000 in
theorem touched_any (a : Option Addr) (n cap : Nat) (xs : List Rate) (x : Rate) (goods : ByteArray) (w : World) (hA : Plain a) (hL : Lst w 9 cR a n cap xs) :
    Calls Tryz.prog 33 #[.slice a n cap, aR x, .string goods] w (Gives w (.tuple #[.int .i64 (touchedOf xs x goods).1.1, .int .i64 (touchedOf xs x goods).1.2.1, .bool (touchedOf xs x goods).1.2.2, .int .i64 (touchedOf xs x goods).2])) := by
  obtain ⟨r, hr⟩ : ∃ r, r = touchedOf xs x goods := ⟨_, rfl⟩
  rw [← hr]
  obtain ⟨m, hmm⟩ : ∃ m, m = appendRate xs x := ⟨_, rfl⟩
  have hB1 : RowKit.Below w.heap.size w (w.alloc (.cells #[.int .i64 x.id, .int .i64 x.known, .int .i64 x.from_, .string x.goods, .int .i64 x.finder.num, .int .i64 x.finder.den, .int .i64 x.cart, .int .i64 x.store, .int .i64 x.of_] 43)) := (Below.refl _ w).alloc (Nat.le_refl _) _
  have har := appendRate_any a n cap xs x _ hA (hL.below hB1)
  rw [← hmm] at har
  have hbd : m.2 = 0 → (∀ t ∈ startsOf m.1, 0 ≤ t ∧ t ≤ 1000000) ∧ m.1.length ≤ 101 := fun h => by
    subst hmm
    refine ⟨starts_bound h, ?_⟩
    obtain ⟨h1, h2, h3⟩ := appendRate_ok h
    rw [h1, List.length_append]
    have := checkRates_len xs h2
    simp; omega
  have Hr : Hid (r = if m.2 = 0 then (touchGo xs m.1 goods x.known (startsOf m.1) (0, 0, false), 0) else ((0, 0, false), m.2)) := Lib.hid (by rw [hr, hmm]; rfl)
  clear hr hmm
  obtain ⟨m1, m2⟩ := m
  go_enter Tryz.func33, Tryz.ntmps33
  go_wp2_with (fail)
  refine har.mono ?_
  clear har
  rintro e w1 ⟨v1, rfl, ho1, hB2⟩
  have k1 : Blk w1 w.heap.size #[.int .i64 x.id, .int .i64 x.known, .int .i64 x.from_, .string x.goods, .int .i64 x.finder.num, .int .i64 x.finder.den, .int .i64 x.cart, .int .i64 x.store, .int .i64 x.of_] 43 := (Blk.new w _ _).below' hB2
  have hb1 : RowKit.Below w.heap.size w w1 := hB1.trans (hB2.mono hB1.size)
  by_cases hv0 : m2 = 0
  · obtain ⟨hbd1, hbd2⟩ := hbd hv0
    subst hv0
    have hrr := Hr.out
    simp only [if_true] at hrr
    have Hr2 := Lib.hid hrr; clear hrr Hr hbd
    obtain ⟨a1, cap1, rfl, hpl1, hL1⟩ := Lst.of_owns (k := 9) (enc := cR) (fun _ => rfl) (by decide) ho1 rfl
    clear ho1
    have hm1 : cap1 ≤ 9223372036854775807 := by have := hL1.max; unfold maxLen at this; omega
    have hle1 := hL1.le
    go_wp2_with (fail)
    refine (starts_any a1 m1.length cap1 m1 w1 (by omega) hL1).mono ?_
    rintro e w2 ⟨v, rfl, ho, hB3⟩
    have hsl := startsOf_len m1
    obtain ⟨hs, hhs⟩ : ∃ hs, hs = startsOf m1 := ⟨_, rfl⟩
    rw [← hhs] at ho hsl hbd1
    rw [← hhs] at Hr2
    clear hhs
    rw [← flat_int] at ho
    obtain ⟨a2, cap2, rfl, hpl, hL2⟩ := Lst.of_owns (k := 1) (enc := cI) (fun _ => rfl) Nat.zero_lt_one ho rfl
    have hm2 : cap2 ≤ 9223372036854775807 := by have := hL2.max; unfold maxLen at this; omega
    have hle2 := hL2.le
    have hb2 := hb1.trans (hB3.mono hb1.size)
    have k2 := k1.below' hB3
    have hlt2 := k2.lt
    have hLm := hL1.below hB3
    clear ho
    go_wp2
    go_loopw [31, 6, 7, 8] (fun i fr un okv wr => ∃ k : Nat, ∃ s : Int × Int × Bool, k ≤ hs.length ∧ i = .int .i64 k ∧ fr = .int .i64 s.1 ∧ un = .int .i64 s.2.1 ∧ okv = .bool s.2.2 ∧
      r.1 = touchGo xs m1 goods x.known (hs.drop k) s ∧ RowKit.Below w2.heap.size w2 wr) (fun i _ _ _ _ => hs.length - (intOf i).toNat)
    case atStart => exact ⟨0, (0, 0, false), Nat.zero_le _, rfl, rfl, rfl, rfl, by rw [Hr2.out]; rfl, Below.refl _ _⟩
    case round =>
      obtain ⟨k, ⟨s1, s2, s3⟩, hk, rfl, rfl, rfl, rfl, hgo, hB⟩ := hrel
      by_cases hlt : k < hs.length
      · obtain ⟨h, hx⟩ : ∃ h, hs[k]? = some h := ⟨hs[k], by simp⟩
        obtain ⟨b, off, rfl, hb, hr⟩ := hL2.at_ k h hx
        have hr' := rangeAt_below hB hb hr 0 _ rfl
        simp only [Nat.mul_one, Nat.add_zero] at hr'
        have hdrop : hs.drop k = h :: hs.drop (k + 1) := by
          obtain ⟨h1, h2⟩ := List.getElem?_eq_some_iff.1 hx
          rw [← h2, List.drop_eq_getElem_cons h1]
        rw [hdrop] at hgo
        obtain ⟨f, hf⟩ : ∃ f, f = inForce xs goods h x.known := ⟨_, rfl⟩
        obtain ⟨g, hg⟩ : ∃ g, g = inForce m1 goods h x.known := ⟨_, rfl⟩
        have hgo2 : r.1 = if f.1.id = g.1.id then touchGo xs m1 goods x.known (hs.drop (k + 1)) (s1, s2, s3) else touchGo xs m1 goods x.known (hs.drop (k + 1)) (if s3 = true then s1 else h, (match hs.drop (k + 1) with | [] => 1000000 | h2 :: _ => h2 - 1), true) := by
          rw [hgo, hf, hg]; rfl
        have hfr := inForce_any a n cap xs goods h x.known wr (hL.below (hb2.trans (hB.mono hb2.size)))
        have hgr := fun W hW => inForce_any a1 m1.length cap1 m1 goods h x.known W hW
        rw [← hf] at hfr
        rw [← hg] at hgr
        have Hg := Lib.hid hgo2; clear hgo hgo2 hf hg hdrop
        have Hx := Lib.hid hx; clear hx
        obtain ⟨f1, f2⟩ := f
        obtain ⟨g1, g2⟩ := g
        have kr := k2.below' hB
        have cr := kr.cell
        go_wp2_with (fail)
        refine hfr.mono ?_
        clear hfr cr
        rintro e w3 ⟨rfl, hB4⟩
        have hb3 : RowKit.Below w2.heap.size w2 w3 := hB.trans (hB4.mono hB.size)
        have k3 := k2.below' hb3
        have c3 : ∀ (cs : Array Value) (j : Nat), (w3.alloc (.cells cs 43)).cell? ⟨w.heap.size, j, none⟩ = #[.int .i64 x.id, .int .i64 x.known, .int .i64 x.from_, .string x.goods, .int .i64 x.finder.num, .int .i64 x.finder.den, .int .i64 x.cart, .int .i64 x.store, .int .i64 x.of_][j]? := fun cs j => (k3.alloc _).cell j
        have hb3' : RowKit.Below w2.heap.size w2 (w3.alloc (.cells (cR f1).toArray 43)) := hb3.alloc hb3.size _
        have hgr1 := hgr (w3.alloc (.cells (cR f1).toArray 43)) (hLm.below hb3')
        go_wp2_with (fail)
        refine hgr1.mono ?_
        clear hgr hgr1
        rintro e w4 ⟨rfl, hB5⟩
        have hb4 : RowKit.Below w2.heap.size w2 w4 := hb3'.trans (hB5.mono hb3'.size)
        have kf : Blk w4 w3.heap.size (cR f1).toArray 43 := (Blk.new w3 _ _).below' hB5
        have hltf := kf.lt
        have cf := kf.cell
        have hb4' : ∀ o, RowKit.Below w2.heap.size w2 (w4.alloc o) := fun o => hb4.alloc hb4.size o
        by_cases h0 : f1.id = g1.id
        · have g0 : (f1.id == g1.id) = true := by simpa using h0
          have ht := Hg.out
          rw [if_pos h0] at ht
          have Hg2 := Lib.hid ht; clear ht h0
          go_wp2_with (fail)
          go_roundw
          case rel => exact ⟨k + 1, (s1, s2, s3), by omega, by go_num, rfl, rfl, rfl, Hg2.out, hb4' _⟩
          case measure => simp [intOf]; omega
        · have g0 : (f1.id == g1.id) = false := by simpa using h0
          have ht := Hg.out
          rw [if_neg h0] at ht
          clear h0
          by_cases hk1 : k + 1 < hs.length
          · obtain ⟨h2, hx2⟩ : ∃ h2, hs[k + 1]? = some h2 := ⟨hs[k + 1], by simp⟩
            obtain ⟨b', off', ha', hb', hr2⟩ := hL2.at_ (k + 1) h2 hx2
            cases ha'
            have hr2' := rangeAt_below hb4 hb' hr2 0 _ rfl
            simp only [Nat.mul_one, Nat.add_zero] at hr2'
            have hr3 := cell_allocs hr2'
            have hbh := hbd1 h2 (List.mem_of_getElem? hx2)
            have hd2 : hs.drop (k + 1) = h2 :: hs.drop (k + 1 + 1) := by
              obtain ⟨h3, h4⟩ := List.getElem?_eq_some_iff.1 hx2
              rw [← h4, List.drop_eq_getElem_cons h3]
            have ht2 : r.1 = touchGo xs m1 goods x.known (hs.drop (k + 1)) (if s3 = true then s1 else h, h2 - 1, true) := by rw [ht, hd2]
            have Hg2 := Lib.hid ht2
            clear ht ht2 hd2 hr2' hr2 hx2 hbd1
            cases s3 with
            | true =>
              go_wp2_with (fail)
              go_roundw
              case rel => exact ⟨k + 1, (s1, h2 - 1, true), by omega, by go_num, rfl, rfl, rfl, Hg2.out, hb4' _⟩
              case measure => simp [intOf]; omega
            | false =>
              go_wp2_with (fail)
              go_roundw
              case rel => exact ⟨k + 1, (h, h2 - 1, true), by omega, by go_num, rfl, rfl, rfl, Hg2.out, hb4' _⟩
              case measure => simp [intOf]; omega
          · have hd2 : hs.drop (k + 1) = [] := List.drop_of_length_le (by omega)
            have ht2 : r.1 = touchGo xs m1 goods x.known (hs.drop (k + 1)) (if s3 = true then s1 else h, 1000000, true) := by rw [ht, hd2]
            have Hg2 := Lib.hid ht2
            clear ht ht2 hd2 hbd1
            cases s3 with
            | true =>
              go_wp2_with (fail)
              go_roundw
              case rel => exact ⟨k + 1, (s1, 1000000, true), by omega, by go_num, rfl, rfl, rfl, Hg2.out, hb4' _⟩
              case measure => simp [intOf]; omega
            | false =>
              go_wp2_with (fail)
              go_roundw
              case rel => exact ⟨k + 1, (h, 1000000, true), by omega, by go_num, rfl, rfl, rfl, Hg2.out, hb4' _⟩
              case measure => simp [intOf]; omega
      · obtain rfl : k = hs.length := by omega
        rw [List.drop_of_length_le (Nat.le_refl _)] at hgo
        have Hgo := Lib.hid hgo; clear hgo
        go_wp2
        refine bodyPost_ret (results_tmp4 rfl _ _ _) rfl ⟨?_, hb2.trans (hB.mono hb2.size)⟩
        have e2 : r.2 = 0 := by rw [Hr2.out]
        rw [Hgo.out, e2]; rfl
  · have g0 : (m2 != 0) = true := by simpa using hv0
    have Hv0 := Lib.hid hv0; clear hv0
    go_wp2_with (fail)
    refine bodyPost_ret (results_tmp4 rfl _ _ _) rfl ⟨?_, hb1⟩
    rw [Hr.out, if_neg Hv0.out]; rfl

end Go.Proofs.YtkeppoiomjhkpaaGreatDoor

/-
  Walk: what the finders get.
-/
namespace Go.Proofs.YtkeppoiomjhkpaaGreatDoor
open Go.RowKit Lg Go.Sort Go.Shelf

set_option maxRecDepth 100000 in
set_option maxHeartbeats 1600000 in
theorem finding_any (B base : Nat) (W0 : World) (price cart store find rest m : Int) (r : Rate) (s : Sale) (a : Option Addr) (n cap : Nat) (fs : List Int) (shs : List Share) (W : World)
    (hP : PotS B base W0 price cart store find rest r s (.slice a n cap) shs W) (hlt : B < base) (hn : shs.length ≤ 100)
    (hL : ∀ W', RowKit.Below B W0 W' → Lst W' 1 cI a n cap fs) (hfs : partiesOk fs = true)
    (hp : 0 ≤ price ∧ price ≤ 1000000000) (hf : 0 ≤ r.finder.num ∧ r.finder.num ≤ r.finder.den ∧ 1 ≤ r.finder.den ∧ r.finder.den ≤ 1000000) (hr : 0 ≤ rest ∧ rest ≤ 1000000000) (hm : m = min ((price * r.finder.num).tdiv r.finder.den) rest) :
    Calls Tryz.prog 72 #[.pointer (some ⟨B, 0, none⟩)] W fun e w' => e = .returned (.tuple #[]) ∧ PotS B base W0 price cart store m (rest - m) r s (.slice a n cap) (shs ++ List.zipWith Share.mk fs ((List.range n).map (eqVal m n))) w' := by
  obtain ⟨vs, hvs⟩ : ∃ vs, vs = (List.range n).map (eqVal m n) := ⟨_, rfl⟩
  rw [← hvs]
  have hvl : vs.length = n := by rw [hvs, List.length_map, List.length_range]
  obtain ⟨zs, hzs⟩ : ∃ zs, zs = List.zipWith Share.mk fs vs := ⟨_, rfl⟩
  rw [← hzs]
  have Hvs := Lib.hid hvs; clear hvs
  have Hzs := Lib.hid hzs; clear hzs
  obtain ⟨lv, hB, ho, hbs, hbel⟩ := hP
  obtain ⟨hp1, hp2⟩ := hp
  obtain ⟨hf1, hf2, hf3, hf4⟩ := hf
  obtain ⟨hr1, hr2⟩ := hr
  have hlen := (hL W hbel).len
  have hn2 : 1 ≤ n ∧ n ≤ 40 := by
    have := hfs
    unfold partiesOk at this
    simp only [Bool.and_eq_true, inn_iff, hlen] at this
    omega
  have hpn : 0 ≤ price * r.finder.num := Int.mul_nonneg hp1 hf1
  have hpn2 : price * r.finder.num ≤ 1000000000000000 := by
    calc price * r.finder.num ≤ 1000000000 * r.finder.num := Int.mul_le_mul_of_nonneg_right hp2 hf1
      _ ≤ 1000000000000000 := by omega
  have hq : 0 ≤ (price * r.finder.num).tdiv r.finder.den ∧ (price * r.finder.num).tdiv r.finder.den ≤ 1000000000000000 := by
    rw [Int.tdiv_eq_ediv_of_nonneg hpn]
    exact ⟨Int.ediv_nonneg hpn (by omega), Int.le_trans (Int.ediv_le_self _ hpn) hpn2⟩
  obtain ⟨q, hqq⟩ : ∃ q, q = (price * r.finder.num).tdiv r.finder.den := ⟨_, rfl⟩
  rw [← hqq] at hm hq
  obtain ⟨hq1, hq2⟩ := hq
  have hm1 : 0 ≤ m ∧ m ≤ 1000000000 := by rw [hm]; omega
  obtain ⟨hm10, hm11⟩ := hm1
  have Hm := Lib.hid hm; clear hm
  have c0 := hB.cell
  have hw1 : IntKind.i64.wrap (price * r.finder.num) = price * r.finder.num := by rw [IntKind.wrap_i64]; omega
  have hw2 : IntKind.i64.wrap ((price * r.finder.num).tdiv r.finder.den) = q := by rw [← hqq, IntKind.wrap_i64]; omega
  have hd0 : (r.finder.den == 0) = false := by simp; omega
  have hd1 : r.finder.den ≠ 0 := by omega
  rw [← hqq] at hw2
  have hqq' : (price * r.finder.num).tdiv r.finder.den = q := hqq.symm
  clear hpn hpn2 hqq
  go_enter Tryz.func72, Tryz.ntmps72
  go_wp2_with (fail)
  have cc := hB.cell
  have ff := hB.frozen
  go_region_held3 (fun w' => w'.cell? ⟨B, 0, none⟩ = some (.int .i64 price) ∧ w'.cell? ⟨B, 10, none⟩ = some (.int .i64 r.finder.num) ∧ w'.cell? ⟨B, 11, none⟩ = some (.int .i64 r.finder.den))
    (first
      | exact ⟨c0 0, c0 10, c0 11⟩
      | exact ⟨(hB.setCell 4 _).cell 0, (hB.setCell 4 _).cell 10, (hB.setCell 4 _).cell 11⟩
      | exact ⟨((hB.setCell 4 _).setCell 3 _).cell 0, ((hB.setCell 4 _).setCell 3 _).cell 10, ((hB.setCell 4 _).setCell 3 _).cell 11⟩
      | fail)
    (first
      | (go_at_call 101; refine (takes_any B price cart store find rest q m r s (.slice a n cap) lv W.drew hB.drew ⟨hq1, Int.le_trans hq2 (by decide)⟩ ⟨hr1, Int.le_trans hr2 (by decide)⟩ Hm.out).mono ?_; rintro e w2 ⟨rfl, rfl⟩)
      | fail)
  rename_i hSx
  clear hSx
  obtain ⟨w3, hw3⟩ : ∃ w3, w3 = ((W.setCell ⟨B, 4, none⟩ (.int .i64 (rest - m))).setCell ⟨B, 3, none⟩ (.int .i64 m)).drew := ⟨_, rfl⟩
  rw [← hw3]
  have e43 : (((#[.int .i64 price, .int .i64 cart, .int .i64 store, .int .i64 find, .int .i64 rest, .slice none 0 0, .int .i64 r.id, .int .i64 r.known, .int .i64 r.from_, .string r.goods, .int .i64 r.finder.num, .int .i64 r.finder.den, .int .i64 r.cart, .int .i64 r.store, .int .i64 r.of_, .int .i64 s.id, .int .i64 s.known, .int .i64 s.hour, .int .i64 s.parcel, .int .i64 s.price, .int .i64 s.carter, .int .i64 s.keeper, .int .i64 s.since, .int .i64 s.of_, .slice a n cap, lv]).setIfInBounds 4 (.int .i64 (rest - m))).setIfInBounds 3 (.int .i64 m)) = #[.int .i64 price, .int .i64 cart, .int .i64 store, .int .i64 m, .int .i64 (rest - m), .slice none 0 0, .int .i64 r.id, .int .i64 r.known, .int .i64 r.from_, .string r.goods, .int .i64 r.finder.num, .int .i64 r.finder.den, .int .i64 r.cart, .int .i64 r.store, .int .i64 r.of_, .int .i64 s.id, .int .i64 s.known, .int .i64 s.hour, .int .i64 s.parcel, .int .i64 s.price, .int .i64 s.carter, .int .i64 s.keeper, .int .i64 s.since, .int .i64 s.of_, .slice a n cap, lv] := by kernel_rfl
  have hB3 : Blk w3 B #[.int .i64 price, .int .i64 cart, .int .i64 store, .int .i64 m, .int .i64 (rest - m), .slice none 0 0, .int .i64 r.id, .int .i64 r.known, .int .i64 r.from_, .string r.goods, .int .i64 r.finder.num, .int .i64 r.finder.den, .int .i64 r.cart, .int .i64 r.store, .int .i64 r.of_, .int .i64 s.id, .int .i64 s.known, .int .i64 s.hour, .int .i64 s.parcel, .int .i64 s.price, .int .i64 s.carter, .int .i64 s.keeper, .int .i64 s.since, .int .i64 s.of_, .slice a n cap, lv] 112 := by
    rw [hw3, ← e43]; exact ((hB.setCell 4 _).setCell 3 _).drew
  have ho3 := (own_set (own_set ho hlt 4 (.int .i64 (rest - m))) hlt 3 (.int .i64 m)).drew
  rw [← hw3] at ho3
  have hbs3 : base ≤ w3.heap.size := by
    have : w3.heap.size = W.heap.size := by rw [hw3]; simp [World.setCell, World.drew]
    rw [this]; exact hbs
  have hbel3 : RowKit.Below B W0 w3 := hw3 ▸ ((hbel.setCell (p := ⟨B, 4, none⟩) (Nat.le_refl _) _).setCell (p := ⟨B, 3, none⟩) (Nat.le_refl _) _).drew
  clear hw3 e43 c0 cc ff hB ho hbs hbel hw1 hw2 hqq' hq1 hq2 Hm
  have c3 := hB3.cell
  go_wp2_with (fail)
  have hE := equal_any m a n cap fs w3.drew (hL _ hbel3.drew)
  rw [equalOf_ok hm10 hm11 hfs, hlen, ← Hvs.out] at hE
  go_region_held3 (fun w' => w'.cell? ⟨B, 3, none⟩ = some (.int .i64 m) ∧ w'.cell? ⟨B, 24, none⟩ = some (.slice a n cap))
    (first
      | exact ⟨c3 3, c3 24⟩
      | exact ⟨(hB3.drew.below' hb4).cell 3, (hB3.drew.below' hb4).cell 24⟩
      | fail)
    (first
      | (go_at_call 37; refine hE.mono ?_; rintro e w4 ⟨v4, rfl, ho4, hb4⟩)
      | fail)
  rename_i hSx
  clear hSx hE
  have hvl2 := hvl
  rw [hvl] at ho4
  obtain ⟨a2, cap2, rfl, hpl2, hL2⟩ := Lst.of_owns (k := 1) (enc := cI) (fun _ => rfl) Nat.zero_lt_one ho4 hvl
  clear ho4
  have hm2 : cap2 ≤ 9223372036854775807 := by have := hL2.max; unfold maxLen at this; omega
  have hle2 := hL2.le
  have hB4 := hB3.drew.below' hb4
  have ho4 := own_below ho3.drew hb4
  have hbs4 := Nat.le_trans hbs3 hb4.size
  have hbel4 := hbel3.drew.trans (hb4.mono (Nat.le_of_lt hB3.lt))
  have hzl : zs.length = n := by rw [Hzs.out, List.length_zipWith, hlen, hvl]; simp
  obtain ⟨gl, rfl, hgl⟩ : ∃ gl, a2 = some ⟨gl, 0, none⟩ ∧ w3.heap.size ≤ gl := by
    obtain ⟨x, hx⟩ : ∃ x, vs[0]? = some x := ⟨vs[0]'(by omega), by simp⟩
    obtain ⟨b, off, rfl, _, _⟩ := hL2.at_ 0 x hx
    obtain ⟨b', h1, h2⟩ := hpl2 _ rfl
    cases h2
    exact ⟨_, rfl, h1⟩
  have hglt : gl < w4.heap.size := by
    obtain ⟨x, hx⟩ : ∃ x, vs[0]? = some x := ⟨vs[0]'(by omega), by simp⟩
    obtain ⟨b, off, h, hb, _⟩ := hL2.at_ 0 x hx
    cases h; exact hb
  have hgB : gl ≠ B := by have := hB3.lt; omega
  have hgo : some gl ≠ lv.ownBlock := fun e => by have := (ho3.lt gl e.symm).2; omega
  clear hpl2 ho3 hbs3 hbel3 hB3 c3 hb4
  go_wp2_with (fail)
  go_loopw [46] (fun i wr => ∃ k : Nat, k ≤ n ∧ i = .int .i64 k ∧ (∃ lv', Blk wr B #[.int .i64 price, .int .i64 cart, .int .i64 store, .int .i64 m, .int .i64 (rest - m), .slice none 0 0, .int .i64 r.id, .int .i64 r.known, .int .i64 r.from_, .string r.goods, .int .i64 r.finder.num, .int .i64 r.finder.den, .int .i64 r.cart, .int .i64 r.store, .int .i64 r.of_, .int .i64 s.id, .int .i64 s.known, .int .i64 s.hour, .int .i64 s.parcel, .int .i64 s.price, .int .i64 s.carter, .int .i64 s.keeper, .int .i64 s.since, .int .i64 s.of_, .slice a n cap, lv'] 112 ∧ wr.ownsRow base 76 2 lv' (shs ++ zs.take k).length ((shs ++ zs.take k).flatMap cSh) ∧ some gl ≠ lv'.ownBlock) ∧
    base ≤ wr.heap.size ∧ RowKit.Below B W0 wr ∧ wr.heap[gl]? = w4.heap[gl]? ∧ w4.heap.size ≤ wr.heap.size) (fun i _ => n - (intOf i).toNat)
  case atStart => exact ⟨0, Nat.zero_le _, rfl, ⟨lv, hB4, by simpa using ho4, hgo⟩, hbs4, hbel4, rfl, Nat.le_refl _⟩
  case round =>
    obtain ⟨k, hk, rfl, ⟨lv', hBr, hor, hgor⟩, hbsr, hbelr, hglr, hszr⟩ := hrel
    by_cases hlt2 : k < n
    · obtain ⟨x, hx⟩ : ∃ x, vs[k]? = some x := ⟨vs[k]'(by omega), by simp⟩
      obtain ⟨b, off, hab, hb, hrg⟩ := hL2.at_ k x hx
      cases hab
      have hcx := hrg 0 _ rfl
      simp only [Nat.mul_one, Nat.add_zero, Nat.zero_add] at hcx
      have hcx2 : wr.cell? ⟨gl, k, none⟩ = some (.int .i64 x) := (World.cell?_of_block (w := w4) (a := ⟨gl, k, none⟩) hglr).trans hcx
      obtain ⟨p, hp⟩ : ∃ p, fs[k]? = some p := ⟨fs[k]'(by omega), by simp⟩
      obtain ⟨b, off, rfl, hb', hrg'⟩ := (hL wr hbelr).at_ k p hp
      have hcp := hrg' 0 _ rfl
      simp only [Nat.mul_one, Nat.add_zero] at hcp
      have htk : zs.take (k + 1) = zs.take k ++ [Share.mk p x] := by
        have hz : zs[k]? = some (Share.mk p x) := by rw [Hzs.out, List.getElem?_zipWith, hp, hx]
        obtain ⟨h1, h2⟩ := List.getElem?_eq_some_iff.1 hz
        rw [List.take_succ_eq_append_getElem h1, h2]
      have hll : (shs ++ zs.take k).length ≤ 1000 := by
        rw [List.length_append]
        have := List.length_take_le k zs
        omega
      have Htk := Lib.hid htk; clear htk
      have Hx := Lib.hid hx; clear hx
      have Hp := Lib.hid hp; clear hp hcx hrg hrg' hb hb'
      have cr := hBr.cell
      have hmc : cap ≤ 9223372036854775807 := by have := (hL wr hbelr).max; unfold maxLen at this; omega
      have hnc := (hL wr hbelr).le
      go_wp2_with (fail)
      refine (gives_any B base price cart store m (rest - m) p x r s (.slice (some ⟨b, off, none⟩) n cap) lv' (shs ++ zs.take k) wr hBr hor hlt hbsr hll).mono ?_
      rintro e w5 ⟨rfl, lv5, hB5, ho5, hbel5, hoth, hown5⟩
      go_wp2_with (fail)
      go_roundw
      case rel =>
        refine ⟨k + 1, by omega, by go_num, ⟨lv5, hB5, ?_, ?_⟩, Nat.le_trans hbsr hbel5.size, hbelr.trans hbel5, ?_, Nat.le_trans hszr hbel5.size⟩
        · rw [Htk.out, ← List.append_assoc]; exact ho5
        · rcases hown5 with h | ⟨g, h, hg⟩
          · rw [h]; exact hgor
          · rw [h]; intro e; cases e; omega
        · rw [hoth gl (by omega) hgB hgor]; exact hglr
      case measure => simp [intOf]; omega
    · obtain rfl : k = n := by omega
      rw [List.take_of_length_le (by omega)] at hor
      go_wp2
      go_end0
      exact ⟨rfl, lv', hBr, hor, hbsr, hbelr⟩

end Go.Proofs.YtkeppoiomjhkpaaGreatDoor
