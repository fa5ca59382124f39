import Derived.Test.YtkeppoiomjhkpaaGreatDoorPart10
import Derived.StillTailTactics
import Derived.BigQuiet
import Derived.Test.YtkeppoiomjhkpaaGreatDoorPart09
import Derived.Test.YtkeppoiomjhkpaaGreatDoorPart03
import Derived.Deep.AppendLies
import Derived.Test.YtkeppoiomjhkpaaGreatDoorPart07
import Derived.Deep.Slices
import Derived.OpenShut
/-
  Walks: what the carter and the keeper get.
-/
namespace Go.Proofs.YtkeppoiomjhkpaaGreatDoor
open Go.RowKit Lg Go.Sort Go.Shelf

theorem Blk.regrown {W : World} {B : Nat} {cs : Array Value} {t : TypeId} (h : Blk W B cs t) : ∀ j d os, (grow (redrawn W d) os).cell? ⟨B, j, none⟩ = cs[j]? := fun j d os => (h.below' (below_regrown W d os)).cell j

theorem own_below {W W' : World} {base : Nat} {e : TypeId} {k : Nat} {v : Value} {n : Nat} {xs : List Value} (h : W.ownsRow base e k v n xs) (hb : RowKit.Below W.heap.size W W') : W'.ownsRow base e k v n xs := by
  refine h.kept (grownBy_of_below hb) ?_
  cases v.ownBlock
  · exact .inl rfl
  · exact .inr (by simp)

theorem own_set {W : World} {base B : Nat} {e : TypeId} {k : Nat} {v : Value} {n : Nat} {xs : List Value} (h : W.ownsRow base e k v n xs) (hB : B < base) (o : Nat) (u : Value) : (W.setCell ⟨B, o, none⟩ u).ownsRow base e k v n xs := by
  refine World.ownsRow.kept h (grownBy_setCells W B o [u]) ?_
  cases hv : v.ownBlock with
  | none => exact .inl rfl
  | some g =>
    have := own_ge h g hv
    exact .inr (by simp; omega)

/-- The pot between two steps. -/
def PotS (B base : Nat) (W0 : World) (price cart store find rest : Int) (r : Rate) (s : Sale) (fv : Value) (shs : List Share) (W : World) : Prop :=
  ∃ lv, Blk W B #[.int .i64 price, .int .i64 cart, .int .i64 store, .int .i64 find, .int .i64 rest, .slice none 0 0, .int .i64 r.id, .int .i64 r.known, .int .i64 r.from_, .string r.goods, .int .i64 r.finder.num, .int .i64 r.finder.den, .int .i64 r.cart, .int .i64 r.store, .int .i64 r.of_, .int .i64 s.id, .int .i64 s.known, .int .i64 s.hour, .int .i64 s.parcel, .int .i64 s.price, .int .i64 s.carter, .int .i64 s.keeper, .int .i64 s.since, .int .i64 s.of_, fv, lv] 112 ∧ W.ownsRow base 76 2 lv shs.length (shs.flatMap cSh) ∧ base ≤ W.heap.size ∧ RowKit.Below B W0 W

set_option maxRecDepth 100000 in
set_option maxHeartbeats 1600000 in
theorem carting_any (B base : Nat) (W0 : World) (price cart store find rest c m : Int) (r : Rate) (s : Sale) (fv : Value) (shs : List Share) (W : World) (hP : PotS B base W0 price cart store find rest r s fv shs W) (hlt : B < base) (hn : shs.length ≤ 1000)
    (hc : (feesOf r s).1.1 = c) (hc1 : 0 ≤ c ∧ c ≤ 4000000000000000000) (hr : 0 ≤ rest ∧ rest ≤ 4000000000000000000) (hm : m = min c rest) :
    Calls Tryz.prog 70 #[.pointer (some ⟨B, 0, none⟩)] W fun e w' => e = .returned (.tuple #[]) ∧ PotS B base W0 price m store find (rest - m) r s fv (shs ++ [Share.mk s.carter m]) w' := by
  obtain ⟨lv, hB, ho, hbs, hbel⟩ := hP
  have c0 := hB.regrown
  have cF := regrown_call (w := W) (v := .tuple #[.int .i64 (feesOf r s).1.1, .int .i64 (feesOf r s).1.2, .int .i64 (feesOf r s).2]) (fun W' _ => fees_any r s W')
  rw [hc] at cF
  have Hc := Lib.hid hc; clear hc
  have Hm := Lib.hid hm; clear hm
  generalize (feesOf r s).1.2 = c2 at *
  generalize (feesOf r s).2 = c3 at *
  go_enter Tryz.func70, Tryz.ntmps70
  go_wp2_with (fail)
  refine wp_region_quiet_below (by kernel_rfl) (by kernel_rfl) ?_
  repeat (go_big_quiet_step (exact cF _ _))
  refine wpQuiet_nil ?_
  intro _ hw'
  obtain ⟨⟨dq, osq⟩, hw''⟩ := hw'
  subst hw''
  have hg := below_regrown W dq osq
  have hB1 := hB.below' hg
  have ho1 := own_below ho hg
  have hbs1 := Nat.le_trans hbs hg.size
  have hbel1 := hbel.trans (hg.mono (Nat.le_of_lt hB.lt))
  clear c0 cF
  change Exit.then _ _ _ _ (grow (redrawn W dq) osq)
  generalize grow (redrawn W dq) osq = w1 at *
  have c1 := hB1.cell
  have f1 := hB1.frozen
  go_wp2_with (fail)
  refine (takes_any B price cart store find rest c m r s fv lv w1 hB1 hc1 hr Hm.out).mono ?_
  rintro e w2 ⟨rfl, rfl⟩
  go_wp2_with (fail)
  obtain ⟨w3, hw3⟩ : ∃ w3, w3 = (w1.setCell ⟨B, 4, none⟩ (.int .i64 (rest - m))).setCell ⟨B, 1, none⟩ (.int .i64 m) := ⟨_, rfl⟩
  rw [← hw3]
  have e41 : (((#[.int .i64 price, .int .i64 cart, .int .i64 store, .int .i64 find, .int .i64 rest, .slice none 0 0, .int .i64 r.id, .int .i64 r.known, .int .i64 r.from_, .string r.goods, .int .i64 r.finder.num, .int .i64 r.finder.den, .int .i64 r.cart, .int .i64 r.store, .int .i64 r.of_, .int .i64 s.id, .int .i64 s.known, .int .i64 s.hour, .int .i64 s.parcel, .int .i64 s.price, .int .i64 s.carter, .int .i64 s.keeper, .int .i64 s.since, .int .i64 s.of_, fv, lv]).setIfInBounds 4 (.int .i64 (rest - m))).setIfInBounds 1 (.int .i64 m)) = #[.int .i64 price, .int .i64 m, .int .i64 store, .int .i64 find, .int .i64 (rest - m), .slice none 0 0, .int .i64 r.id, .int .i64 r.known, .int .i64 r.from_, .string r.goods, .int .i64 r.finder.num, .int .i64 r.finder.den, .int .i64 r.cart, .int .i64 r.store, .int .i64 r.of_, .int .i64 s.id, .int .i64 s.known, .int .i64 s.hour, .int .i64 s.parcel, .int .i64 s.price, .int .i64 s.carter, .int .i64 s.keeper, .int .i64 s.since, .int .i64 s.of_, fv, lv] := by kernel_rfl
  have hB3 : Blk w3 B #[.int .i64 price, .int .i64 m, .int .i64 store, .int .i64 find, .int .i64 (rest - m), .slice none 0 0, .int .i64 r.id, .int .i64 r.known, .int .i64 r.from_, .string r.goods, .int .i64 r.finder.num, .int .i64 r.finder.den, .int .i64 r.cart, .int .i64 r.store, .int .i64 r.of_, .int .i64 s.id, .int .i64 s.known, .int .i64 s.hour, .int .i64 s.parcel, .int .i64 s.price, .int .i64 s.carter, .int .i64 s.keeper, .int .i64 s.since, .int .i64 s.of_, fv, lv] 112 := by
    rw [hw3, ← e41]; exact (hB1.setCell 4 _).setCell 1 _
  have ho3 := own_set (own_set ho1 hlt 4 (.int .i64 (rest - m))) hlt 1 (.int .i64 m)
  rw [← hw3] at ho3
  have hbs3 : base ≤ w3.heap.size := by rw [hw3]; simp [World.setCell]; exact hbs1
  have hbel3 : RowKit.Below B W0 w3 := hw3 ▸ (hbel1.setCell (p := ⟨B, 4, none⟩) (Nat.le_refl _) _).setCell (p := ⟨B, 1, none⟩) (Nat.le_refl _) _
  clear hw3 e41 c1 f1 hB1 ho1 hbs1 hbel1 hg
  have c3 := hB3.cell
  go_still_tail 11, (by kernel_rfl)
  change wpList _ _ _ _ _ w3.drew
  go_wp2_with (fail)
  refine (gives_any B base price m store find (rest - m) s.carter m r s fv lv shs w3.drew hB3.drew ho3.drew hlt hbs3 hn).mono ?_
  rintro e w4 ⟨rfl, lv4, hB4, ho4, hbel4, -, -⟩
  go_wp2_with (fail)
  go_end0
  exact ⟨rfl, lv4, hB4, ho4, Nat.le_trans hbs3 hbel4.size, hbel3.drew.trans (hbel4.mono (Nat.le_refl _))⟩

set_option maxRecDepth 100000 in
set_option maxHeartbeats 1600000 in
theorem storing_any (B base : Nat) (W0 : World) (price cart store find rest c m : Int) (r : Rate) (s : Sale) (fv : Value) (shs : List Share) (W : World) (hP : PotS B base W0 price cart store find rest r s fv shs W) (hlt : B < base) (hn : shs.length ≤ 1000)
    (hc : (feesOf r s).1.2 = c) (hc1 : 0 ≤ c ∧ c ≤ 4000000000000000000) (hr : 0 ≤ rest ∧ rest ≤ 4000000000000000000) (hm : m = min c rest) :
    Calls Tryz.prog 71 #[.pointer (some ⟨B, 0, none⟩)] W fun e w' => e = .returned (.tuple #[]) ∧ PotS B base W0 price cart m find (rest - m) r s fv (shs ++ [Share.mk s.keeper m]) w' := by
  obtain ⟨lv, hB, ho, hbs, hbel⟩ := hP
  have c0 := hB.regrown
  have cF := regrown_call (w := W) (v := .tuple #[.int .i64 (feesOf r s).1.1, .int .i64 (feesOf r s).1.2, .int .i64 (feesOf r s).2]) (fun W' _ => fees_any r s W')
  rw [hc] at cF
  have Hc := Lib.hid hc; clear hc
  have Hm := Lib.hid hm; clear hm
  generalize (feesOf r s).1.1 = c2 at *
  generalize (feesOf r s).2 = c3 at *
  go_enter Tryz.func71, Tryz.ntmps71
  go_wp2_with (fail)
  refine wp_region_quiet_below (by kernel_rfl) (by kernel_rfl) ?_
  repeat (go_big_quiet_step (exact cF _ _))
  refine wpQuiet_nil ?_
  intro _ hw'
  obtain ⟨⟨dq, osq⟩, hw''⟩ := hw'
  subst hw''
  have hg := below_regrown W dq osq
  have hB1 := hB.below' hg
  have ho1 := own_below ho hg
  have hbs1 := Nat.le_trans hbs hg.size
  have hbel1 := hbel.trans (hg.mono (Nat.le_of_lt hB.lt))
  clear c0 cF
  change Exit.then _ _ _ _ (grow (redrawn W dq) osq)
  generalize grow (redrawn W dq) osq = w1 at *
  have c1 := hB1.cell
  have f1 := hB1.frozen
  go_wp2_with (fail)
  refine (takes_any B price cart store find rest c m r s fv lv w1 hB1 hc1 hr Hm.out).mono ?_
  rintro e w2 ⟨rfl, rfl⟩
  go_wp2_with (fail)
  obtain ⟨w3, hw3⟩ : ∃ w3, w3 = (w1.setCell ⟨B, 4, none⟩ (.int .i64 (rest - m))).setCell ⟨B, 2, none⟩ (.int .i64 m) := ⟨_, rfl⟩
  rw [← hw3]
  have e41 : (((#[.int .i64 price, .int .i64 cart, .int .i64 store, .int .i64 find, .int .i64 rest, .slice none 0 0, .int .i64 r.id, .int .i64 r.known, .int .i64 r.from_, .string r.goods, .int .i64 r.finder.num, .int .i64 r.finder.den, .int .i64 r.cart, .int .i64 r.store, .int .i64 r.of_, .int .i64 s.id, .int .i64 s.known, .int .i64 s.hour, .int .i64 s.parcel, .int .i64 s.price, .int .i64 s.carter, .int .i64 s.keeper, .int .i64 s.since, .int .i64 s.of_, fv, lv]).setIfInBounds 4 (.int .i64 (rest - m))).setIfInBounds 2 (.int .i64 m)) = #[.int .i64 price, .int .i64 cart, .int .i64 m, .int .i64 find, .int .i64 (rest - m), .slice none 0 0, .int .i64 r.id, .int .i64 r.known, .int .i64 r.from_, .string r.goods, .int .i64 r.finder.num, .int .i64 r.finder.den, .int .i64 r.cart, .int .i64 r.store, .int .i64 r.of_, .int .i64 s.id, .int .i64 s.known, .int .i64 s.hour, .int .i64 s.parcel, .int .i64 s.price, .int .i64 s.carter, .int .i64 s.keeper, .int .i64 s.since, .int .i64 s.of_, fv, lv] := by kernel_rfl
  have hB3 : Blk w3 B #[.int .i64 price, .int .i64 cart, .int .i64 m, .int .i64 find, .int .i64 (rest - m), .slice none 0 0, .int .i64 r.id, .int .i64 r.known, .int .i64 r.from_, .string r.goods, .int .i64 r.finder.num, .int .i64 r.finder.den, .int .i64 r.cart, .int .i64 r.store, .int .i64 r.of_, .int .i64 s.id, .int .i64 s.known, .int .i64 s.hour, .int .i64 s.parcel, .int .i64 s.price, .int .i64 s.carter, .int .i64 s.keeper, .int .i64 s.since, .int .i64 s.of_, fv, lv] 112 := by
    rw [hw3, ← e41]; exact (hB1.setCell 4 _).setCell 2 _
  have ho3 := own_set (own_set ho1 hlt 4 (.int .i64 (rest - m))) hlt 2 (.int .i64 m)
  rw [← hw3] at ho3
  have hbs3 : base ≤ w3.heap.size := by rw [hw3]; simp [World.setCell]; exact hbs1
  have hbel3 : RowKit.Below B W0 w3 := hw3 ▸ (hbel1.setCell (p := ⟨B, 4, none⟩) (Nat.le_refl _) _).setCell (p := ⟨B, 2, none⟩) (Nat.le_refl _) _
  clear hw3 e41 c1 f1 hB1 ho1 hbs1 hbel1 hg
  have c3 := hB3.cell
  go_still_tail 11, (by kernel_rfl)
  change wpList _ _ _ _ _ w3.drew
  go_wp2_with (fail)
  refine (gives_any B base price cart m find (rest - m) s.keeper m r s fv lv shs w3.drew hB3.drew ho3.drew hlt hbs3 hn).mono ?_
  rintro e w4 ⟨rfl, lv4, hB4, ho4, hbel4, -, -⟩
  go_wp2_with (fail)
  go_end0
  exact ⟨rfl, lv4, hB4, ho4, Nat.le_trans hbs3 hbel4.size, hbel3.drew.trans (hbel4.mono (Nat.le_refl _))⟩

end Go.Proofs.YtkeppoiomjhkpaaGreatDoor

/-
  Walk: the hours from which rates are.
-/
namespace Go.Proofs.YtkeppoiomjhkpaaGreatDoor
open Go.RowKit Lg Go.Sort Go.Shelf

/-- A call hands back a new list of numbers. -/
def GivesI (w : World) (xs : List Int) (en : Ending) (w' : World) : Prop :=
  ∃ v, en = .returned v ∧ w'.ownsRow w.heap.size 3 1 v xs.length (xs.map (Value.int .i64)) ∧ RowKit.Below w.heap.size w w'

theorem own_ge' {W : World} {base : Nat} {e : TypeId} {k : Nat} {v : Value} {n : Nat} {xs : List Value} (h : W.ownsRow base e k v n xs) : ∀ r, v.ownBlock = some r → base ≤ r := fun r hr => (h.lt r hr).1

set_option maxRecDepth 100000 in
set_option maxHeartbeats 1600000 in
theorem starts_any (a : Option Addr) (n cap : Nat) (xs : List Rate) (w : World) (hn : n ≤ 1000) (hL : Lst w 9 cR a n cap xs) :
    Calls Tryz.prog 67 #[.slice a n cap] w (GivesI w (startsOf xs)) := by
  have hm : cap ≤ 9223372036854775807 := by have := hL.max; unfold maxLen at this; omega
  have hle := hL.le
  have hlen := Lib.hid hL.len
  obtain ⟨i0, hi0, hz0, hz1, hz2⟩ := info_parts infoI
  go_enter Tryz.func67, Tryz.ntmps67
  go_wp2
  go_loopw [8, 3] (fun i o wr => ∃ k : Nat, k ≤ n ∧ i = .int .i64 k ∧ wr.ownsRow w.heap.size 3 1 o (hoursOf (xs.take k)).length ((hoursOf (xs.take k)).map (Value.int .i64)) ∧ RowKit.Below w.heap.size w wr) (fun i _ _ => n - (intOf i).toNat)
  case atStart => exact ⟨0, Nat.zero_le _, rfl, ⟨by simp [hoursOf], .inl ⟨rfl, rfl⟩⟩, Below.refl _ _⟩
  case round =>
    obtain ⟨k, hk, rfl, ho, hB⟩ := hrel
    by_cases hlt : k < n
    · obtain ⟨x, hx⟩ : ∃ x, xs[k]? = some x := ⟨xs[k]'(by rw [hlen.out]; exact hlt), by simp⟩
      obtain ⟨b, off, rfl, hb, hr⟩ := hL.at_ k x hx
      have hr' := rangeAt_below hB hb hr
      have htake : hoursOf (xs.take (k + 1)) = hoursOf (xs.take k) ++ (if x.of_ = 0 then [x.from_] else []) := by
        obtain ⟨h1, h2⟩ := List.getElem?_eq_some_iff.1 hx
        unfold hoursOf
        rw [List.take_succ_eq_append_getElem h1, h2, List.filter_append, List.map_append]
        by_cases h : x.of_ = 0 <;> simp [h]
      have hll : (hoursOf (xs.take k)).length ≤ k := by
        unfold hoursOf
        rw [List.length_map]
        exact Nat.le_trans (List.length_filter_le _ _) (List.length_take_le _ _)
      have Hx := Lib.hid hx; clear hx
      have Ht := Lib.hid htake; clear htake
      generalize hoursOf (xs.take k) = hs at *
      by_cases h0 : x.of_ = 0
      · have g0 : (x.of_ == 0) = true := by simpa using h0
        have ht := Ht.out
        rw [if_pos h0] at ht
        have Ht2 := Lib.hid ht; clear ht h0
        go_wp2_with (first
          | (refine wpList_load_mid rfl 43 _ rfl b (off + k * 9) rfl (cR x) _ hr' Tryz.underlying43 rfl (by kernel_rfl) ?_)
          | (at_builtin; refine wpList_append_lies _ rfl _ _ _ rfl w.heap.size 3 i0 _ 1 8 Tryz.underlying64 hi0 hz0 hz1 hz2 rfl (by omega) _ hs.length (hs.map (Value.int .i64)) rfl ((ho.alloc _).alloc _) ⟨wr.heap.size + 1, 0, none⟩ 1 1 [.int .i64 x.from_] rfl rfl (World.news_of_block (cs := #[.int .i64 x.from_]) (t := 3) (fr := (0, 0)) (heap_alloc2_new wr _ _)) (by simp [Value.oneCell']) (by omega) (by unfold maxLen; omega) (by omega) (by have := hB.size; simp; omega) _ rfl ?_; intro g cap1 w1 hown hgrow hat hlt1))
        go_roundw
        case rel =>
          refine ⟨k + 1, by omega, by go_num, ?_, below_of_grown ((hB.alloc hB.size _).alloc (by have := hB.size; simp; omega) _) (Nat.le_refl _) hgrow (own_ge' ho)⟩
          rw [Ht2.out, List.length_append, List.map_append]
          exact hown
        case measure => simp [intOf]; omega
      · have g0 : (x.of_ == 0) = false := by simpa using h0
        have ht := Ht.out
        rw [if_neg h0, List.append_nil] at ht
        have Ht2 := Lib.hid ht; clear ht h0
        go_wp2_with (refine wpList_load_mid rfl 43 _ rfl b (off + k * 9) rfl (cR x) _ hr' Tryz.underlying43 rfl (by kernel_rfl) ?_)
        go_roundw
        case rel =>
          refine ⟨k + 1, by omega, by go_num, ?_, hB.alloc hB.size _⟩
          rw [Ht2.out]
          exact ho.alloc _
        case measure => simp [intOf]; omega
    · obtain rfl : k = n := by omega
      have htake : xs.take k = xs := List.take_of_length_le (by rw [hlen.out]; exact Nat.le_refl _)
      rw [htake] at ho
      have hll : (hoursOf xs).length ≤ k := by
        unfold hoursOf
        rw [List.length_map]
        exact Nat.le_trans (List.length_filter_le _ _) (by rw [hlen.out]; exact Nat.le_refl _)
      have hst : startsOf xs = Lib.compact ((hoursOf xs).mergeSort fun x y => decide (x ≤ y)) := rfl
      have Hst := Lib.hid hst; clear hst htake
      generalize hoursOf xs = hs at *
      go_wp2_with (fail)
      refine (sortOwn w.heap.size hs.length _ hs wr (by omega) ho).mono ?_
      rintro e w2 ⟨rfl, ho2, hg2⟩
      have hB2 := below_of_grown hB (Nat.le_refl _) hg2 (own_ge' ho)
      go_wp2_with (fail)
      refine (compactOwn w.heap.size hs.length _ _ w2 (by omega) ho2).mono ?_
      rintro e w3 ⟨v3, rfl, ho3, hg3, hv3⟩
      have hB3 := below_of_grown hB2 (Nat.le_refl _) hg3 (own_ge' ho)
      go_wp2_with (fail)
      go_ret
      exact ⟨_, rfl, by rw [Hst.out]; exact ho3, hB3⟩

end Go.Proofs.YtkeppoiomjhkpaaGreatDoor

/-
  Walk: sums as shares, by ascending parties.
-/
namespace Go.Proofs.YtkeppoiomjhkpaaGreatDoor
open Go.RowKit Lg Go.Sort Go.Shelf Go.Maps

theorem sortsA (m : Nat) : AnyZI.SortsIn Tryz.prog Tryz.sortedA_ren Fence.wide m :=
  ⟨fun blk off cap ss W hH hblk hsz => callsIn_wide.2 (AnyM.slices_Sort_int Tryz.sortA blk off cap ss W hH hblk hsz),
   fun p cap W => callsIn_wide.2 (AnyM.slices_Sort_int_none Tryz.sortA p cap W)⟩

theorem keys_any (mb : Option Nat) (W : World) : Calls Tryz.prog 113 #[.map mb] W fun e w' => e = .returned (.func (.func 147) #[] #[.pointer (some ⟨W.heap.size, 0, none⟩)]) ∧ w' = W.alloc (.cells #[.map mb] 122) :=
  (callsIn_wide (n := 5)).1 (AnyZI.keys_in Tryz.keysA Fence.wide 5 trivial rfl mb W)

theorem sorted_any (b nn : Nat) (D : DataW Unit) (w : World) (hown : w.ownsMap Tryz.prog 3 (plainElem Tryz.prog 3) b nn D) (hn : Maps.size D ≤ 1000000) :
    Calls Tryz.prog 112 #[.func (.func 147) #[] #[.pointer (some ⟨w.heap.size, 0, none⟩)]] (w.alloc (.cells #[.map (some b)] 122)) fun e w' => ∃ (v : Value) (ss : List Int), e = .returned v ∧ ss.Perm (intKeys D) ∧
      w'.ownsRow w.heap.size 3 1 v ss.length ((ss.mergeSort (fun x y => decide (x ≤ y))).map encZ) ∧ RowKit.Below w.heap.size w w' := by
  have hbl := hown.lt
  have hseq : SeqGives Fence.wide 2 Tryz.prog 147 #[.pointer (some ⟨w.heap.size, 0, none⟩)] encZ (fun ss => ss.Perm (intKeys D)) (Maps.size D) (w.alloc (.cells #[.map (some b)] 122)) :=
    AnyZI.keys_gives (ρ := Tryz.keysA_ren) { Tryz.keysA with } Fence.wide _ trivial rfl (by omega) w.heap.size b nn D _ (by simp) (by simp) (by
      obtain ⟨es, clock, hb, Ft, hs, hD⟩ := hown
      exact ⟨es, clock, (Below.heap_alloc _ _ b hbl).trans hb, Ft, hs, hD⟩)
  have cS := AnyZI.sorted_in Tryz.sortedA Fence.wide 5 trivial trivial trivial trivial rfl (by omega) (sortsA _) (enters_of Tryz.func97 (by kernel_rfl) rfl) 147 #[.pointer (some ⟨w.heap.size, 0, none⟩)] trivial (enters_of Tryz.func147 (by kernel_rfl) rfl) _ _ (by unfold maxLen; omega) (by omega) _ hseq
  refine ((callsIn_wide (n := 5)).1 cS).mono ?_
  rintro e w' ⟨v, ss, rfl, hS, hrow, hnil, hb⟩
  exact ⟨v, ss, rfl, hS, ownsRow_base_a hrow (by simp), ((Below.refl _ w).alloc (Nat.le_refl _) _).trans (hb.mono (by simp))⟩

theorem keys_int {w : World} {b nn : Nat} {D : DataW Unit} (hown : w.ownsMap Tryz.prog 3 (plainElem Tryz.prog 3) b nn D) : ∃ es, D = .map es ∧ es.Pairwise (fun p q => p.1 ≠ q.1) ∧ ∀ p ∈ es, ∃ y, p.1 = .int .i64 y := by
  obtain ⟨es, hD, hpw, _⟩ := hown.entries lawI
  obtain ⟨es', hD', hko⟩ := hown.keysOf
  obtain rfl : es = es' := by rw [hD] at hD'; simpa using hD'
  exact ⟨es, hD, hpw, fun p hp => by
    obtain ⟨v, hv⟩ := hko p hp
    obtain ⟨y, _, hy, _⟩ := Maps.keyOf_i64 Tryz.underlying3 hv
    exact ⟨y, hy⟩⟩

theorem mem_intKeys {es : List (Lit × DataW Unit)} (h : ∀ p ∈ es, ∃ y, p.1 = .int .i64 y) (x : Int) : x ∈ intKeys (.map es) ↔ has (.map es) (.int .i64 x) = true := by
  rw [has_eq, List.any_eq_true]
  show x ∈ es.map _ ↔ _
  rw [List.mem_map]
  constructor
  · rintro ⟨p, hp, rfl⟩
    obtain ⟨y, hy⟩ := h p hp
    exact ⟨p, hp, by rw [hy]; simp [Lit.sameKey]; rfl⟩
  · rintro ⟨p, hp, hs⟩
    obtain ⟨y, hy⟩ := h p hp
    refine ⟨p, hp, ?_⟩
    rw [hy] at hs ⊢
    simp [Lit.sameKey] at hs
    exact hs

theorem nodup_intKeys {es : List (Lit × DataW Unit)} (h : ∀ p ∈ es, ∃ y, p.1 = .int .i64 y) (hp : es.Pairwise (fun p q => p.1 ≠ q.1)) : (intKeys (.map es)).Nodup := by
  show (es.map _).Nodup
  rw [List.Nodup, List.pairwise_map]
  refine hp.imp_of_mem ?_
  intro p q hp hq hne e
  obtain ⟨y, hy⟩ := h p hp
  obtain ⟨z, hz⟩ := h q hq
  rw [hy, hz] at hne e
  exact hne (by rw [show y = z from e])

theorem ownsMap_below {w w' : World} {b nn : Nat} {D : DataW Unit} (h : w.ownsMap Tryz.prog 3 (plainElem Tryz.prog 3) b nn D) (hb : w'.heap[b]? = w.heap[b]?) : w'.ownsMap Tryz.prog 3 (plainElem Tryz.prog 3) b nn D := by
  obtain ⟨es, clock, hb', r⟩ := h
  exact ⟨es, clock, hb.trans hb', r⟩

theorem ownsMap_size {w : World} {b nn : Nat} {D : DataW Unit} (h : w.ownsMap Tryz.prog 3 (plainElem Tryz.prog 3) b nn D) : Maps.size D ≤ nn := by
  obtain ⟨es, clock, hb', hF, hs, rfl⟩ := h
  rw [size_eq]
  refine Nat.le_trans (Nat.le_of_eq ?_) hs
  have : ∀ l : List (Lit × DataW Unit), (l.foldr DataW.insert []).length = l.length := by
    intro l
    induction l with
    | nil => rfl
    | cons x l ih =>
      have hins : ∀ (m : List (Lit × DataW Unit)), (DataW.insert x m).length = m.length + 1 := by
        intro m
        induction m with
        | nil => rfl
        | cons y m ih2 => unfold DataW.insert; split <;> simp [ih2]
      rw [List.foldr_cons, hins, ih, List.length_cons]
  rw [this]; simp

/-- A call hands back a new list of shares: that of f. -/
def GivesF (w : World) (f : Int → Int) (e : Ending) (w' : World) : Prop :=
  ∃ v ys, e = .returned v ∧ ListOf f ys ∧ w'.ownsRow w.heap.size 76 2 v ys.length (ys.flatMap cSh) ∧ RowKit.Below w.heap.size w w'

set_option maxRecDepth 100000 in
set_option maxHeartbeats 1600000 in
theorem listed_any (b nn : Nat) (f : Int → Int) (w : World) (hnn : nn ≤ 3000) (ho : OwnM b nn f w) :
    Calls Tryz.prog 77 #[.map (some b)] w (GivesF w f) := by
  obtain ⟨D, hown, hMF⟩ := ho
  have hbl := hown.lt
  have hsz := ownsMap_size hown
  obtain ⟨i0, hi0, hz0, hz1, hz2⟩ := info_parts infoSh
  have cS := sorted_any b nn D w hown (by omega)
  go_enter Tryz.func77, Tryz.ntmps77
  go_wp2_with (fail)
  refine (keys_any (some b) w).mono ?_
  rintro e w1 ⟨rfl, rfl⟩
  go_wp2_with (fail)
  refine cS.mono ?_
  clear cS
  rintro e w2 ⟨v, ss, rfl, hperm, hrow, hB2⟩
  obtain ⟨es, hDe, hpw, hke⟩ := keys_int hown
  have hnd : ss.Nodup := by rw [hperm.nodup_iff, hDe]; exact nodup_intKeys hke hpw
  have hmem : ∀ p, p ∈ ss ↔ f p ≠ 0 := fun p => by
    rw [hperm.mem_iff, hDe, mem_intKeys hke, ← hDe, (hMF.2 p).2]; simp
  obtain ⟨ks, hks⟩ : ∃ ks, ks = ss.mergeSort fun x y => decide (x ≤ y) := ⟨_, rfl⟩
  have hkl : ks.length = ss.length := by rw [hks]; exact List.length_mergeSort ss
  have hk1 : ks.Pairwise (· < ·) := by rw [hks]; exact sorted_strict hnd
  have hk2 : ∀ p, p ∈ ks ↔ f p ≠ 0 := fun p => by rw [hks, List.mem_mergeSort]; exact hmem p
  have hsl : ks.length ≤ 3000 := by
    rw [hkl, hperm.length_eq, hDe]
    rw [hDe, size_eq] at hsz
    show (es.map _).length ≤ _
    rw [List.length_map]; omega
  have hkw : ∀ p ∈ ks, keyOf Tryz.prog 3 (.int .i64 p) = some (.int .i64 p) := fun p hp => by
    refine keyOf_int_mk Tryz.underlying3 (intKeys_wf hown Tryz.underlying3 p ?_)
    exact hperm.mem_iff.1 (by rw [hks, List.mem_mergeSort] at hp; exact hp)
  rw [← hks, ← hkl] at hrow
  have hLf := listOf_keys hk1 hk2
  have HLf := Lib.hid hLf
  have Hk2 := Lib.hid hk2
  clear hLf hk1 hk2 hks hkl hmem hnd hDe hpw hke hperm hsz
  have hrow2 : w2.ownsRow w.heap.size 3 1 v ks.length (ks.flatMap cI) := by rw [flat_int]; exact hrow
  clear hrow
  obtain ⟨a2, cap2, rfl, hpl, hL2⟩ := Lst.of_owns (k := 1) (enc := cI) (fun _ => rfl) Nat.zero_lt_one hrow2 rfl
  clear hrow2 hpl
  have hm2 : cap2 ≤ 9223372036854775807 := by have := hL2.max; unfold maxLen at this; omega
  have hle2 := hL2.le
  have hs2 := hB2.size
  go_wp2_with (fail)
  go_loopw [10, 3] (fun i o wr => ∃ k : Nat, k ≤ ks.length ∧ i = .int .i64 k ∧
    wr.ownsRow w2.heap.size 76 2 o ((ks.take k).map fun p => Share.mk p (f p)).length (((ks.take k).map fun p => Share.mk p (f p)).flatMap cSh) ∧ RowKit.Below w2.heap.size w2 wr) (fun i _ _ => ks.length - (intOf i).toNat)
  case atStart => exact ⟨0, Nat.zero_le _, rfl, ⟨by simp, .inl ⟨rfl, rfl⟩⟩, Below.refl _ _⟩
  case round =>
    obtain ⟨k, hk, rfl, hor, hB⟩ := hrel
    by_cases hlt : k < ks.length
    · obtain ⟨p, hp⟩ : ∃ p, ks[k]? = some p := ⟨ks[k], by simp⟩
      obtain ⟨bb, off, rfl, hbb, hr⟩ := hL2.at_ k p hp
      have hr' := rangeAt_below hB hbb hr 0 _ rfl
      simp only [Nat.mul_one, Nat.add_zero] at hr'
      have hkey := hkw p (List.mem_of_getElem? hp)
      have htk : (ks.take (k + 1)).map (fun p => Share.mk p (f p)) = (ks.take k).map (fun p => Share.mk p (f p)) ++ [Share.mk p (f p)] := by
        obtain ⟨h1, h2⟩ := List.getElem?_eq_some_iff.1 hp
        rw [List.take_succ_eq_append_getElem h1, h2, List.map_append]; rfl
      have hll : ((ks.take k).map fun p => Share.mk p (f p)).length ≤ 3000 := by
        rw [List.length_map]; exact Nat.le_trans (List.length_take_le _ _) (by omega)
      have hownr : wr.ownsMap Tryz.prog 3 (plainElem Tryz.prog 3) b nn D := ownsMap_below hown ((hB.block b (by omega)).trans (hB2.block b hbl))
      have hat := (hMF.2 p).1
      have Hat := Lib.hid hat
      have Htk := Lib.hid htk
      have Hp := Lib.hid hp
      clear hat htk hp
      generalize (ks.take k).map (fun p => Share.mk p (f p)) = zs at *
      obtain ⟨fp, hfp⟩ : ∃ fp, fp = f p := ⟨_, rfl⟩
      rw [← hfp] at Hat Htk
      clear hfp
      have hsw := hB.size
      go_wp2_with (first
        | (at_lookup; refine wpList_lookup_known _ rfl _ _ rfl b nn D rfl hownr _ _ rfl hkey fp Hat.out ?_)
        | (at_builtin; refine wpList_append_lies _ rfl _ _ _ rfl w2.heap.size 76 i0 _ 2 16 Tryz.underlying59 hi0 hz0 hz1 hz2 rfl (by omega) _ zs.length (zs.flatMap cSh) rfl (hor.alloc _) ⟨wr.heap.size, 0, none⟩ 1 1 [.int .i64 p, .int .i64 fp] rfl rfl (World.news_of_block (cs := #[.int .i64 p, .int .i64 fp]) (t := 76) (fr := (0, 0)) (heap_alloc_new wr _)) (by simp [Value.oneCell']) (by omega) (by unfold maxLen; omega) (by omega) (by simp; omega) _ rfl ?_; intro g cap1 w3 hown3 hgrow hat hlt1)
        | fail)
      go_roundw
      case rel =>
        refine ⟨k + 1, by omega, by go_num, ?_, below_of_grown (hB.alloc hB.size _) (Nat.le_refl _) hgrow (own_ge' hor)⟩
        rw [Htk.out, List.length_append, List.flatMap_append, List.flatMap_singleton]
        exact hown3
      case measure => simp [intOf]; omega
    · obtain rfl : k = ks.length := by omega
      rw [List.take_of_length_le (Nat.le_refl _)] at hor
      go_wp2
      go_ret
      exact ⟨_, _, rfl, HLf.out, ownsRow_base_a hor hs2, hB2.trans (hB.mono hs2)⟩

end Go.Proofs.YtkeppoiomjhkpaaGreatDoor

/-
  Walks: merged, mergeable, Change.
-/
namespace Go.Proofs.YtkeppoiomjhkpaaGreatDoor
open Go.RowKit Lg Go.Sort Go.Shelf Go.Maps

theorem GivesF.congr {w w' : World} {f g : Int → Int} {e : Ending} (h : GivesF w f e w') (hfg : ∀ p, f p = g p) : GivesF w g e w' := by
  rw [show g = f from funext fun p => (hfg p).symm]; exact h

theorem OwnM.made (w : World) : OwnM w.heap.size 0 (fun _ => 0) (w.alloc (.map #[] 0)) := ⟨_, World.ownsMap_made _ _ _ _, MapF.empty⟩

set_option maxRecDepth 100000 in
set_option maxHeartbeats 1600000 in
theorem merged_any (a : Option Addr) (n cap : Nat) (xs : List Share) (w : World) (hn : n ≤ 1100) (hL : Lst w 2 cSh a n cap xs) (hx : ∀ x ∈ xs, 0 ≤ x.party ∧ x.party ≤ 40 ∧ -1000000000 ≤ x.pence ∧ x.pence ≤ 1000000000) :
    Calls Tryz.prog 73 #[.slice a n cap] w (GivesF w (sumP xs)) := by
  have hmm := @run_makeMap Tryz.prog
  have hs := sums1_any a n cap xs w.heap.size 0 (fun _ => 0) (w.alloc (.map #[] 0)) hn (by omega) (OwnM.made w) (fun W' h => hL.below (((Below.refl _ w).alloc (Nat.le_refl _) _).trans h)) hx (fun _ => by omega)
  go_enter Tryz.func73, Tryz.ntmps73
  go_wp2_with (fail)
  refine hs.mono ?_
  rintro e w1 ⟨rfl, ho, hB⟩
  have hb1 : RowKit.Below w.heap.size w w1 := ((Below.refl _ w).alloc (Nat.le_refl _) _).trans hB
  go_wp2_with (fail)
  refine (listed_any w.heap.size (0 + n) _ w1 (by omega) ho).mono ?_
  rintro e w2 ⟨v, ys, rfl, hf, hown, hb2⟩
  go_wp2_with (fail)
  go_ret
  refine GivesF.congr (f := fun p => 0 + 1 * sumP xs p) ⟨v, ys, rfl, hf, ownsRow_base_a hown hb1.size, hb1.trans (hb2.mono hb1.size)⟩ (fun p => by omega)

end Go.Proofs.YtkeppoiomjhkpaaGreatDoor

/-
  What comes in: lists of the program's structs, opened to plain lists.
-/
namespace Go.Proofs.YtkeppoiomjhkpaaGreatDoor
open Go.RowKit Lg Go.ChangeShapes Go.WideShapes Go.Deep

theorem gather {α : Type} {Q : Nat → α → Prop} : ∀ n : Nat, (∀ i, i < n → ∃ z, Q i z) → ∃ zs : List α, zs.length = n ∧ ∀ i x, zs[i]? = some x → Q i x
  | 0, _ => ⟨[], rfl, fun i x h => by simp at h⟩
  | n + 1, h => by
    obtain ⟨zs, hl, hz⟩ := gather n (fun i hi => h i (by omega))
    obtain ⟨z, hq⟩ := h n (by omega)
    refine ⟨zs ++ [z], by simp [hl], fun i x hx => ?_⟩
    by_cases hi : i < n
    · rw [List.getElem?_append_left (by omega)] at hx
      exact hz i x hx
    · rw [List.getElem?_append_right (by omega)] at hx
      obtain rfl : i = n := by
        have := (List.getElem?_eq_some_iff.1 hx).1
        simp at this; omega
      simp [hl] at hx
      subst hx
      exact hq

section
variable {H : Type} {enc : TypeId × Value → H} {w : World} {spare : Nat → Bool} {held : Bool}

theorem one_cell {t : TypeId} {cs : List Value} {x : DataW H × List MemPlace} {n : Nat} {o : Option (DataW H × List MemPlace)} (hu : Tryz.prog.underlying t = some (.int .i64)) (h : DataW.trod enc Tryz.prog w 0 spare held n t cs = o) (ho : o = some x) : ∃ z : Int, cs = [.int .i64 z] ∧ (Lit.int .i64 z).wf = true := by
  obtain ⟨z, h1, _, h3⟩ := DataW.trod_int hu (h.trans ho)
  exact ⟨z, h1, h3⟩

theorem open_lst {α : Type} (en : α → List Value) (ok : α → Prop) {t e : TypeId} {k fuel : Nat} {a : Option Addr} {l c : Nat} {x : DataW H × List MemPlace} (ht : Tryz.prog.underlying t = some (.slice e)) (hk : Tryz.prog.cellsOf e = k) (hk0 : 0 < k) (hen : ∀ z, (en z).length = k)
    (hd : ∀ n cs y, cs.length = k → DataW.trod enc Tryz.prog w 0 spare held n e cs = some y → ∃ z : α, cs = en z ∧ ok z)
    (h : DataW.trod enc Tryz.prog w 0 spare held fuel t [.slice a l c] = some x) : ∃ zs : List α, Lst w k en a l c zs ∧ ∀ z ∈ zs, ok z := by
  rcases open_slice ht h with ⟨hcs, _⟩ | ⟨ad, len, cap, m, n, D, Pl, hcs, _, hl, hm, hmm, _, hi⟩
  · simp at hcs
    obtain ⟨rfl, rfl, rfl⟩ := hcs
    exact ⟨[], Lst.nil _ _ _, fun z hz => by cases hz⟩
  · simp at hcs
    obtain ⟨rfl, rfl, rfl⟩ := hcs
    have hml : l ≤ m := by rw [hmm]; split <;> omega
    rw [hk] at hi
    have hz : ∀ i, i < l → ∃ z, (∀ j v, (en z)[j]? = some v → w.cell? ((ad.add (i * k)).add j) = some v) ∧ ok z := fun i hil => by
      obtain ⟨cs', hc, ht'⟩ := hi i (by omega)
      obtain ⟨_, hcl, hat⟩ := World.cells?_some hc
      obtain ⟨z, rfl, hok⟩ := hd n cs' _ hcl ht'
      refine ⟨z, fun j v hv => ?_, hok⟩
      rw [hat j (by rw [← hcl]; exact (List.getElem?_eq_some_iff.1 hv).1)]
      exact hv
    obtain ⟨zs, hlen, hq⟩ := gather l hz
    refine ⟨zs, ⟨hlen, hl, hm, fun i x hx => ?_⟩, fun z hz => ?_⟩
    · have hil : i < l := by rw [← hlen]; exact (List.getElem?_eq_some_iff.1 hx).1
      have h0 : ∃ z0, zs[0]? = some z0 := ⟨zs[0]'(by omega), by simp⟩
      obtain ⟨z0, hz0⟩ := h0
      obtain ⟨b, off, sp⟩ := ad
      have hsp : sp = none := by
        have h1 := (hq 0 z0 hz0).1 0 ((en z0)[0]'(by rw [hen]; exact hk0)) (by simp)
        simpa [Addr.add] using World.cell?_spot h1
      subst hsp
      have hr : w.rangeAt b (off + i * k) (en x) := fun j v hv => by
        have h1 := (hq i x hx).1 j v hv
        rw [Addr.add_mid, Addr.add_mid] at h1
        exact h1
      refine ⟨b, off, rfl, ?_, hr⟩
      have h1 := (hq i x hx).1 0 ((en x)[0]'(by rw [hen]; exact hk0)) (by simp)
      rw [Addr.add_mid, Addr.add_mid] at h1
      exact block_lt_of_cell h1
    · obtain ⟨i, hi2⟩ := List.getElem?_of_mem hz
      exact (hq i z hi2).2

set_option maxRecDepth 100000 in
theorem dec_Sh (n : Nat) (cs : List Value) (y : DataW H × List MemPlace) (hl : cs.length = 2) (h : DataW.trod enc Tryz.prog w 0 spare held n 76 cs = some y) : ∃ z : Share, cs = cSh z ∧ True := by
  obtain ⟨ys, m, _, _, _, hy, hf⟩ := DataW.trod_struct Tryz.underlying76 h
  have g0 : DataW.trod enc Tryz.prog w 0 spare held m 3 ((cs.drop 0).take (Tryz.prog.cellsOf 3)) = ys[0]? := hf 0 _ rfl
  have g1 : DataW.trod enc Tryz.prog w 0 spare held m 3 ((cs.drop 1).take (Tryz.prog.cellsOf 3)) = ys[1]? := hf 1 _ rfl
  clear hf h
  have e : Tryz.prog.cellsOf 3 = 1 := by kernel_rfl
  simp only [e] at g0 g1
  obtain ⟨z0, h0, _⟩ := one_cell Tryz.underlying3 g0 (List.getElem?_eq_getElem (by rw [hy]; decide))
  obtain ⟨z1, h1, _⟩ := one_cell Tryz.underlying3 g1 (List.getElem?_eq_getElem (by rw [hy]; decide))
  clear g0 g1
  match cs, hl with
  | [c0, c1], _ =>
    simp at h0 h1
    subst h0 h1
    exact ⟨⟨z0, z1⟩, rfl, trivial⟩

set_option maxRecDepth 100000 in
theorem dec_S (n : Nat) (cs : List Value) (y : DataW H × List MemPlace) (hl : cs.length = 9) (h : DataW.trod enc Tryz.prog w 0 spare held n 24 cs = some y) : ∃ z : Sale, cs = cS z ∧ True := by
  obtain ⟨ys, m, _, _, _, hy, hf⟩ := DataW.trod_struct Tryz.underlying24 h
  have g0 : DataW.trod enc Tryz.prog w 0 spare held m 3 ((cs.drop 0).take (Tryz.prog.cellsOf 3)) = ys[0]? := hf 0 _ rfl
  have g1 : DataW.trod enc Tryz.prog w 0 spare held m 3 ((cs.drop 1).take (Tryz.prog.cellsOf 3)) = ys[1]? := hf 1 _ rfl
  have g2 : DataW.trod enc Tryz.prog w 0 spare held m 3 ((cs.drop 2).take (Tryz.prog.cellsOf 3)) = ys[2]? := hf 2 _ rfl
  have g3 : DataW.trod enc Tryz.prog w 0 spare held m 3 ((cs.drop 3).take (Tryz.prog.cellsOf 3)) = ys[3]? := hf 3 _ rfl
  have g4 : DataW.trod enc Tryz.prog w 0 spare held m 3 ((cs.drop 4).take (Tryz.prog.cellsOf 3)) = ys[4]? := hf 4 _ rfl
  have g5 : DataW.trod enc Tryz.prog w 0 spare held m 3 ((cs.drop 5).take (Tryz.prog.cellsOf 3)) = ys[5]? := hf 5 _ rfl
  have g6 : DataW.trod enc Tryz.prog w 0 spare held m 3 ((cs.drop 6).take (Tryz.prog.cellsOf 3)) = ys[6]? := hf 6 _ rfl
  have g7 : DataW.trod enc Tryz.prog w 0 spare held m 3 ((cs.drop 7).take (Tryz.prog.cellsOf 3)) = ys[7]? := hf 7 _ rfl
  have g8 : DataW.trod enc Tryz.prog w 0 spare held m 3 ((cs.drop 8).take (Tryz.prog.cellsOf 3)) = ys[8]? := hf 8 _ rfl
  clear hf h
  have e : Tryz.prog.cellsOf 3 = 1 := by kernel_rfl
  simp only [e] at g0 g1 g2 g3 g4 g5 g6 g7 g8
  obtain ⟨z0, h0, _⟩ := one_cell Tryz.underlying3 g0 (List.getElem?_eq_getElem (by rw [hy]; decide))
  obtain ⟨z1, h1, _⟩ := one_cell Tryz.underlying3 g1 (List.getElem?_eq_getElem (by rw [hy]; decide))
  obtain ⟨z2, h2, _⟩ := one_cell Tryz.underlying3 g2 (List.getElem?_eq_getElem (by rw [hy]; decide))
  obtain ⟨z3, h3, _⟩ := one_cell Tryz.underlying3 g3 (List.getElem?_eq_getElem (by rw [hy]; decide))
  obtain ⟨z4, h4, _⟩ := one_cell Tryz.underlying3 g4 (List.getElem?_eq_getElem (by rw [hy]; decide))
  obtain ⟨z5, h5, _⟩ := one_cell Tryz.underlying3 g5 (List.getElem?_eq_getElem (by rw [hy]; decide))
  obtain ⟨z6, h6, _⟩ := one_cell Tryz.underlying3 g6 (List.getElem?_eq_getElem (by rw [hy]; decide))
  obtain ⟨z7, h7, _⟩ := one_cell Tryz.underlying3 g7 (List.getElem?_eq_getElem (by rw [hy]; decide))
  obtain ⟨z8, h8, _⟩ := one_cell Tryz.underlying3 g8 (List.getElem?_eq_getElem (by rw [hy]; decide))
  clear g0 g1 g2 g3 g4 g5 g6 g7 g8
  match cs, hl with
  | [c0, c1, c2, c3, c4, c5, c6, c7, c8], _ =>
    simp at h0 h1 h2 h3 h4 h5 h6 h7 h8
    subst h0 h1 h2 h3 h4 h5 h6 h7 h8
    exact ⟨⟨z0, z1, z2, z3, z4, z5, z6, z7, z8⟩, rfl, trivial⟩

set_option maxRecDepth 100000 in
theorem dec_F (n : Nat) (cs : List Value) (y : DataW H × List MemPlace) (hl : cs.length = 2) (h : DataW.trod enc Tryz.prog w 0 spare held n 41 cs = some y) : ∃ z : Frac, cs = cF z := by
  obtain ⟨ys, m, _, _, _, hy, hf⟩ := DataW.trod_struct Tryz.underlying41 h
  have g0 : DataW.trod enc Tryz.prog w 0 spare held m 3 ((cs.drop 0).take (Tryz.prog.cellsOf 3)) = ys[0]? := hf 0 _ rfl
  have g1 : DataW.trod enc Tryz.prog w 0 spare held m 3 ((cs.drop 1).take (Tryz.prog.cellsOf 3)) = ys[1]? := hf 1 _ rfl
  clear hf h
  have e : Tryz.prog.cellsOf 3 = 1 := by kernel_rfl
  simp only [e] at g0 g1
  obtain ⟨z0, h0, _⟩ := one_cell Tryz.underlying3 g0 (List.getElem?_eq_getElem (by rw [hy]; decide))
  obtain ⟨z1, h1, _⟩ := one_cell Tryz.underlying3 g1 (List.getElem?_eq_getElem (by rw [hy]; decide))
  clear g0 g1
  match cs, hl with
  | [c0, c1], _ =>
    simp at h0 h1
    subst h0 h1
    exact ⟨⟨z0, z1⟩, rfl⟩

set_option maxRecDepth 100000 in
theorem dec_R (n : Nat) (cs : List Value) (y : DataW H × List MemPlace) (hl : cs.length = 9) (h : DataW.trod enc Tryz.prog w 0 spare held n 43 cs = some y) : ∃ z : Rate, cs = cR z ∧ True := by
  obtain ⟨ys, m, _, _, _, hy, hf⟩ := DataW.trod_struct Tryz.underlying43 h
  have g0 : DataW.trod enc Tryz.prog w 0 spare held m 3 ((cs.drop 0).take (Tryz.prog.cellsOf 3)) = ys[0]? := hf 0 _ rfl
  have g1 : DataW.trod enc Tryz.prog w 0 spare held m 3 ((cs.drop 1).take (Tryz.prog.cellsOf 3)) = ys[1]? := hf 1 _ rfl
  have g2 : DataW.trod enc Tryz.prog w 0 spare held m 3 ((cs.drop 2).take (Tryz.prog.cellsOf 3)) = ys[2]? := hf 2 _ rfl
  have g3 : DataW.trod enc Tryz.prog w 0 spare held m 9 ((cs.drop 3).take (Tryz.prog.cellsOf 9)) = ys[3]? := hf 3 _ rfl
  have g4 : DataW.trod enc Tryz.prog w 0 spare held m 41 ((cs.drop 4).take (Tryz.prog.cellsOf 41)) = ys[4]? := hf 4 _ rfl
  have g5 : DataW.trod enc Tryz.prog w 0 spare held m 3 ((cs.drop 6).take (Tryz.prog.cellsOf 3)) = ys[5]? := hf 5 _ rfl
  have g6 : DataW.trod enc Tryz.prog w 0 spare held m 3 ((cs.drop 7).take (Tryz.prog.cellsOf 3)) = ys[6]? := hf 6 _ rfl
  have g7 : DataW.trod enc Tryz.prog w 0 spare held m 3 ((cs.drop 8).take (Tryz.prog.cellsOf 3)) = ys[7]? := hf 7 _ rfl
  clear hf h
  have e : Tryz.prog.cellsOf 3 = 1 := by kernel_rfl
  have e2 : Tryz.prog.cellsOf 9 = 1 := by kernel_rfl
  have e3 : Tryz.prog.cellsOf 41 = 2 := by kernel_rfl
  simp only [e, e2, e3] at g0 g1 g2 g3 g4 g5 g6 g7
  obtain ⟨z0, h0, _⟩ := one_cell Tryz.underlying3 g0 (List.getElem?_eq_getElem (by rw [hy]; decide))
  obtain ⟨z1, h1, _⟩ := one_cell Tryz.underlying3 g1 (List.getElem?_eq_getElem (by rw [hy]; decide))
  obtain ⟨z2, h2, _⟩ := one_cell Tryz.underlying3 g2 (List.getElem?_eq_getElem (by rw [hy]; decide))
  obtain ⟨z5, h5, _⟩ := one_cell Tryz.underlying3 g5 (List.getElem?_eq_getElem (by rw [hy]; decide))
  obtain ⟨z6, h6, _⟩ := one_cell Tryz.underlying3 g6 (List.getElem?_eq_getElem (by rw [hy]; decide))
  obtain ⟨z7, h7, _⟩ := one_cell Tryz.underlying3 g7 (List.getElem?_eq_getElem (by rw [hy]; decide))
  obtain ⟨z3, h3, _, _⟩ := DataW.trod_string Tryz.underlying9 (g3.trans (List.getElem?_eq_getElem (by rw [hy]; decide)))
  obtain ⟨z4, h4⟩ := dec_F _ _ _ (by simp [hl]) (g4.trans (List.getElem?_eq_getElem (by rw [hy]; decide)))
  clear g0 g1 g2 g3 g4 g5 g6 g7
  match cs, hl with
  | [c0, c1, c2, c3, c4, c5, c6, c7, c8], _ =>
    simp at h0 h1 h2 h3 h4 h5 h6 h7
    obtain ⟨h41, h42⟩ := h4
    subst h0 h1 h2 h3 h41 h42 h5 h6 h7
    exact ⟨⟨z0, z1, z2, z3, z4, z5, z6, z7⟩, rfl, trivial⟩

set_option maxRecDepth 100000 in
theorem dec_T (n : Nat) (cs : List Value) (y : DataW H × List MemPlace) (hl : cs.length = 3) (h : DataW.trod enc Tryz.prog w 0 spare held n 69 cs = some y) : ∃ z : Title, cs = cT z ∧ True := by
  obtain ⟨ys, m, _, _, _, hy, hf⟩ := DataW.trod_struct Tryz.underlying69 h
  have g0 : DataW.trod enc Tryz.prog w 0 spare held m 3 ((cs.drop 0).take (Tryz.prog.cellsOf 3)) = ys[0]? := hf 0 _ rfl
  have g1 : DataW.trod enc Tryz.prog w 0 spare held m 41 ((cs.drop 1).take (Tryz.prog.cellsOf 41)) = ys[1]? := hf 1 _ rfl
  clear hf h
  have e : Tryz.prog.cellsOf 3 = 1 := by kernel_rfl
  have e3 : Tryz.prog.cellsOf 41 = 2 := by kernel_rfl
  simp only [e, e3] at g0 g1
  obtain ⟨z0, h0, _⟩ := one_cell Tryz.underlying3 g0 (List.getElem?_eq_getElem (by rw [hy]; decide))
  obtain ⟨z1, h1⟩ := dec_F _ _ _ (by simp [hl]) (g1.trans (List.getElem?_eq_getElem (by rw [hy]; decide)))
  clear g0 g1
  match cs, hl with
  | [c0, c1, c2], _ =>
    simp at h0 h1
    obtain ⟨h11, h12⟩ := h1
    subst h0 h11 h12
    exact ⟨⟨z0, z1⟩, rfl, trivial⟩

theorem dec_I (n : Nat) (cs : List Value) (y : DataW H × List MemPlace) (_ : cs.length = 1) (h : DataW.trod enc Tryz.prog w 0 spare held n 3 cs = some y) : ∃ z : Int, cs = cI z ∧ True := by
  obtain ⟨z0, h0, _⟩ := one_cell Tryz.underlying3 h rfl
  exact ⟨z0, h0, trivial⟩
end
end Go.Proofs.YtkeppoiomjhkpaaGreatDoor
