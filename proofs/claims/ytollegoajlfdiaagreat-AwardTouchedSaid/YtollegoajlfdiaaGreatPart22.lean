import Derived.Test.YtollegoajlfdiaaGreatPart20
import Derived.Test.YtollegoajlfdiaaGreatPart21
import Derived.Test.YtollegoajlfdiaaGreatPart04
import Derived.Test.YtollegoajlfdiaaGreatPart19
import Derived.Test.YtollegoajlfdiaaGreatPart10
import Derived.Test.YtollegoajlfdiaaGreatPart06
import Derived.Test.YtollegoajlfdiaaGreatPart07
import Derived.BigQuiet
/-
  Walk: why a sale is refused behind others.
-/
namespace Go.Proofs.YtollegoajlfdiaaGreat
open Go.RowKit Lg Go.Sort Go.Shelf

set_option maxRecDepth 100000 in
set_option maxHeartbeats 1600000 in
theorem sells_any (a : Option Addr) (n cap : Nat) (xs : List Sale) (x : Sale) (w : World) (hL : Lst w 9 cS a n cap xs) :
    Calls Tryz.prog 74 #[.slice a n cap, aS x] w (Gives w (.int .i64 (sellsS xs x))) := by
  obtain ⟨r, hr⟩ : ∃ r, r = sellsS xs x := ⟨_, rfl⟩
  rw [← hr]
  unfold sellsS at hr
  obtain ⟨v, hv⟩ : ∃ v, v = followsS xs x := ⟨_, rfl⟩
  have hf := fun W hW => followsS_any a n cap xs x W hW
  rw [← hv] at hr hf
  have Hv := Lib.hid hv; clear hv
  have Hr := Lib.hid hr; clear hr
  obtain ⟨s, hs⟩ : ∃ s, s = soldIn xs x.parcel x.known := ⟨_, rfl⟩
  have hsd := fun W hW => sold_any a n cap xs x.parcel x.known W hW
  rw [← hs] at hsd
  have Hr2 : Hid (r = if v = 0 then if (s.isSome && decide (x.of_ = 0)) = true then 61 else 0 else v) := Lib.hid (by rw [hs]; exact Hr.out)
  clear Hr hs
  have hB1 : RowKit.Below w.heap.size w (w.alloc (.cells #[.int .i64 x.id, .int .i64 x.known, .int .i64 x.hour, .int .i64 x.parcel, .int .i64 x.price, .int .i64 x.carter, .int .i64 x.keeper, .int .i64 x.since, .int .i64 x.of_] 39)) := (Below.refl _ w).alloc (Nat.le_refl _) _
  have hf1 := hf _ (hL.below hB1)
  go_enter Tryz.func74, Tryz.ntmps74
  go_wp2_with (fail)
  refine hf1.mono ?_
  clear hf1 hf
  rintro e w2 ⟨rfl, hB2⟩
  have k2 : Blk w2 w.heap.size #[.int .i64 x.id, .int .i64 x.known, .int .i64 x.hour, .int .i64 x.parcel, .int .i64 x.price, .int .i64 x.carter, .int .i64 x.keeper, .int .i64 x.since, .int .i64 x.of_] 39 := (Blk.new w _ _).below' hB2
  have hb2 : RowKit.Below w.heap.size w w2 := hB1.trans (hB2.mono hB1.size)
  have c2 := k2.cell
  by_cases hv0 : v = 0
  · subst hv0
    go_wp2_with (fail)
    refine (hsd w2 (hL.below hb2)).mono ?_
    rintro e w3 ⟨rfl, hB3⟩
    have k3 := k2.below' hB3
    have hb3 := hb2.trans (hB3.mono hb2.size)
    have hs3 := k3.lt
    have c3 : ∀ (cs : Array Value) (j : Nat), (w3.alloc (.cells cs 39)).cell? ⟨w.heap.size, j, none⟩ = #[.int .i64 x.id, .int .i64 x.known, .int .i64 x.hour, .int .i64 x.parcel, .int .i64 x.price, .int .i64 x.carter, .int .i64 x.keeper, .int .i64 x.since, .int .i64 x.of_][j]? := fun cs j => (k3.alloc _).cell j
    have hb4 : ∀ o, RowKit.Below w.heap.size w (w3.alloc o) := fun o => hb3.alloc hb3.size o
    clear hsd
    cases s with
    | none =>
      go_wp2_with (fail)
      go_ret
      exact ⟨ret_int (by rw [Hr2.out]; rfl), hb4 _⟩
    | some y =>
      by_cases h0 : x.of_ = 0
      · have g0 : (x.of_ == 0) = true := by simpa using h0
        have H0 := Lib.hid h0; clear h0
        go_wp2_with (fail)
        go_ret
        exact ⟨ret_int (by rw [Hr2.out]; simp [H0.out]), hb4 _⟩
      · have g0 : (x.of_ == 0) = false := by simpa using h0
        have H0 := Lib.hid h0; clear h0
        go_wp2_with (fail)
        go_ret
        exact ⟨ret_int (by rw [Hr2.out]; simp [H0.out]), hb4 _⟩
  · have g0 : (v != 0) = true := by simpa using hv0
    have Hv0 := Lib.hid hv0; clear hv0
    go_wp2_with (fail)
    go_ret
    exact ⟨ret_int (by rw [Hr2.out, if_neg Hv0.out]), hb2⟩

end Go.Proofs.YtollegoajlfdiaaGreat

/-
  Walk: the first record that is refused.
-/
namespace Go.Proofs.YtollegoajlfdiaaGreat
open Go.RowKit Lg Go.Sort Go.Shelf

set_option maxRecDepth 100000 in
set_option maxHeartbeats 1600000 in
theorem checkSales_any (a : Option Addr) (n cap : Nat) (xs : List Sale) (w : World) (hL : Lst w 9 cS a n cap xs) :
    Calls Tryz.prog 33 #[.slice a n cap] w (Gives w (.tuple #[.int .i64 (checkSales xs).1, .int .i64 (checkSales xs).2])) := by
  have hm : cap ≤ 9223372036854775807 := by have := hL.max; unfold maxLen at this; omega
  have hle := hL.le
  have hlen := Lib.hid hL.len
  go_enter Tryz.func33, Tryz.ntmps33
  go_wp2
  go_loopw [9] (fun i wr => ∃ k : Nat, k ≤ n ∧ i = .int .i64 k ∧ Below w.heap.size w wr ∧ checkSales xs = chkFrom sellsS (xs.take k) (xs.drop k)) (fun i _ => n - (intOf i).toNat)
  case atStart => exact ⟨0, Nat.zero_le _, rfl, Below.refl _ _, rfl⟩
  case round =>
    obtain ⟨k, hk, rfl, hB, h0⟩ := hrel
    by_cases hlt : k < n
    · obtain ⟨x, hx⟩ : ∃ x, xs[k]? = some x := ⟨xs[k]'(by rw [hlen.out]; exact hlt), by simp⟩
      obtain ⟨b, off, rfl, hb, hr⟩ := hL.at_ k x hx
      have hr' := rangeAt_below hB hb hr
      have hL2 := (hL.below hB).take k hk
      have hdrop : xs.drop k = x :: xs.drop (k + 1) := by
        obtain ⟨h1, h2⟩ := List.getElem?_eq_some_iff.1 hx
        rw [← h2, List.drop_eq_getElem_cons h1]
      have htake : xs.take (k + 1) = xs.take k ++ [x] := by
        obtain ⟨h1, h2⟩ := List.getElem?_eq_some_iff.1 hx
        rw [List.take_succ_eq_append_getElem h1, h2]
      have hlt2 : (xs.take k).length = k := by rw [List.length_take, hlen.out]; omega
      obtain ⟨v, hv⟩ : ∃ v, v = sellsS (xs.take k) x := ⟨_, rfl⟩
      have hf := fun W hW => sells_any (some ⟨b, off, none⟩) k k (xs.take k) x W hW
      rw [← hv] at hf
      have hstep : checkSales xs = if v = 0 then chkFrom sellsS (xs.take (k + 1)) (xs.drop (k + 1)) else ((k : Int), v) := by
        rw [h0, hdrop, chkFrom, ← hv, htake, hlt2]
      have Hs := Lib.hid hstep; clear hstep h0 hdrop htake hv hx
      obtain ⟨A, hA⟩ : ∃ A, A = wr.alloc (.cells #[.int .i64 x.id, .int .i64 x.known, .int .i64 x.hour, .int .i64 x.parcel, .int .i64 x.price, .int .i64 x.carter, .int .i64 x.keeper, .int .i64 x.since, .int .i64 x.of_] 39) := ⟨_, rfl⟩
      have kA : Blk A wr.heap.size #[.int .i64 x.id, .int .i64 x.known, .int .i64 x.hour, .int .i64 x.parcel, .int .i64 x.price, .int .i64 x.carter, .int .i64 x.keeper, .int .i64 x.since, .int .i64 x.of_] 39 := hA ▸ Blk.new _ _ _
      have hBA : RowKit.Below w.heap.size w A := hA ▸ hB.alloc hB.size _
      have hLA := hL2.below (hA ▸ (Below.refl _ wr).alloc (Nat.le_refl _) _ : RowKit.Below wr.heap.size wr A)
      have cA := box_regrown hA
      have cF := regrown_call (w := A) (v := .int .i64 v) (fun W' hW' => hf W' (hLA.below hW'))
      go_wp2_with (refine wpList_load_mid rfl 39 _ rfl b (off + k * 9) rfl (cS x) _ hr' Tryz.underlying39 rfl (by kernel_rfl) ?_)
      rw [← hA]; clear hA
      refine wp_region_quiet_below (by kernel_rfl) (by kernel_rfl) ?_
      repeat (go_big_quiet_step (exact cF _ _))
      refine wpQuiet_nil ?_
      intro _ hw'
      obtain ⟨⟨dq, osq⟩, hw''⟩ := hw'
      subst hw''
      have hBn := hBA.trans ((below_regrown A dq osq).mono hBA.size)
      clear cA cF
      by_cases hv0 : v = 0
      · subst hv0
        have hs2 := Hs.out
        rw [if_pos rfl] at hs2
        have Hs2 := Lib.hid hs2; clear hs2
        go_wp2
        go_roundw
        case rel => exact ⟨k + 1, by omega, by go_num, hBn, Hs2.out⟩
        case measure => simp [intOf]; omega
      · have hs2 := Hs.out
        rw [if_neg hv0] at hs2
        have Hs2 := Lib.hid hs2; clear hs2
        have g0 : (v != 0) = true := by simpa using hv0
        go_wp2
        go_ret2
        exact ⟨by rw [Hs2.out]; rfl, hBn⟩
    · obtain rfl : k = n := by omega
      have hs2 : checkSales xs = (0, 0) := by rw [h0, List.drop_of_length_le (by rw [hlen.out]; exact Nat.le_refl _)]; rfl
      have Hs2 := Lib.hid hs2; clear hs2 h0
      go_wp2
      go_ret2
      exact ⟨by rw [Hs2.out]; rfl, hB⟩

end Go.Proofs.YtollegoajlfdiaaGreat

/-
  Walk: the record in force, or the error.
-/
namespace Go.Proofs.YtollegoajlfdiaaGreat
open Go.RowKit Lg Go.Sort Go.Shelf

set_option maxRecDepth 100000 in
set_option maxHeartbeats 1600000 in
theorem saleOf_any (a : Option Addr) (n cap : Nat) (xs : List Sale) (parcel known : Int) (w : World) (hL : Lst w 9 cS a n cap xs) :
    Calls Tryz.prog 47 #[.slice a n cap, .int .i64 parcel, .int .i64 known] w (Gives w (.tuple #[aS (saleOf xs parcel known).1, .int .i64 (saleOf xs parcel known).2])) := by
  obtain ⟨r, hr⟩ : ∃ r, r = saleOf xs parcel known := ⟨_, rfl⟩
  rw [← hr]
  obtain ⟨c, hc⟩ : ∃ c, c = checkSales xs := ⟨_, rfl⟩
  obtain ⟨f, hf⟩ : ∃ f, f = soldPair (soldIn xs parcel known) := ⟨_, rfl⟩
  have hcr := fun W hW => checkSales_any a n cap xs W hW
  have hfr := fun W hW => sold_any a n cap xs parcel known W hW
  rw [← hc] at hcr
  rw [← hf] at hfr
  have Hr : Hid (r = if c.2 = 0 then (if f.2 = true then (f.1, 0) else (zeroSale, 61)) else (zeroSale, c.2)) := Lib.hid (by rw [hr, hc, hf]; unfold saleOf; split <;> (try rfl); cases soldIn xs parcel known <;> rfl)
  clear hr hc hf
  obtain ⟨c1, c2⟩ := c
  obtain ⟨f1, f2⟩ := f
  have hB1 : RowKit.Below w.heap.size w (w.alloc (.cells #[.int .i64 0, .int .i64 0, .int .i64 0, .int .i64 0, .int .i64 0, .int .i64 0, .int .i64 0, .int .i64 0, .int .i64 0] 39)) := (Below.refl _ w).alloc (Nat.le_refl _) _
  have hcr1 := hcr _ (hL.below hB1)
  clear hcr
  go_enter Tryz.func47, Tryz.ntmps47
  go_wp2_with (fail)
  refine hcr1.mono ?_
  clear hcr1
  rintro e w2 ⟨rfl, hB2⟩
  have k2 : Blk w2 w.heap.size #[.int .i64 0, .int .i64 0, .int .i64 0, .int .i64 0, .int .i64 0, .int .i64 0, .int .i64 0, .int .i64 0, .int .i64 0] 39 := (Blk.new w _ _).below' hB2
  have hb2 : RowKit.Below w.heap.size w w2 := hB1.trans (hB2.mono hB1.size)
  have e2 := k2.cell
  have g2 := k2.frozen
  by_cases hv0 : c2 = 0
  · subst hv0
    go_wp2_with (fail)
    refine (hfr w2 (hL.below hb2)).mono ?_
    clear hfr
    rintro e w3 ⟨rfl, hB3⟩
    have k3 := k2.below' hB3
    have hb3 := hb2.trans (hB3.mono hb2.size)
    have hs3 := k3.lt
    have e3 := k3.cell
    have g3 := k3.frozen
    cases f2 with
    | true =>
      go_wp2_with (fail)
      have hbl : Blk ((w3.setCells w.heap.size 0 (cS f1)).alloc (.cells (cS f1).toArray 39)) w.heap.size (cS f1).toArray 39 := by
        refine Blk.alloc ?_ _
        rw [← setAll_zeroS f1]
        exact k3.setCells 0 (cS f1)
      rw [putS]
      (try simp only [Exit.inBlock, Exit.then]); refine bodyPost_ret (results_cell_tmp rfl _ _ w.heap.size 39 (cS f1) _ rfl hbl Tryz.underlying39 rfl (by kernel_rfl)) rfl ?_
      exact ⟨by rw [Hr.out]; rfl, (below_setCells hb3 (Nat.le_refl _) _ _).alloc (by rw [size_setCells]; omega) _⟩
    | false =>
      go_wp2_with (fail)
      have hbl : Blk ((w3.setCells w.heap.size 0 (cS zeroSale)).alloc (.cells (cS f1).toArray 39)) w.heap.size (cS zeroSale).toArray 39 := by
        refine Blk.alloc ?_ _
        rw [← setAll_zeroS zeroSale]
        exact k3.setCells 0 (cS zeroSale)
      rw [putS0]
      (try simp only [Exit.inBlock, Exit.then]); refine bodyPost_ret (results_cell_tmp rfl _ _ w.heap.size 39 (cS zeroSale) _ rfl hbl Tryz.underlying39 rfl (by kernel_rfl)) rfl ?_
      exact ⟨by rw [Hr.out]; rfl, (below_setCells hb3 (Nat.le_refl _) _ _).alloc (by rw [size_setCells]; omega) _⟩
  · have g0 : (c2 != 0) = true := by simpa using hv0
    have Hv0 := Lib.hid hv0; clear hv0
    go_wp2_with (fail)
    have hbl : Blk (w2.setCells w.heap.size 0 (cS zeroSale)) w.heap.size (cS zeroSale).toArray 39 := by
      rw [← setAll_zeroS zeroSale]
      exact k2.setCells 0 (cS zeroSale)
    rw [putS0]
    (try simp only [Exit.inBlock, Exit.then]); refine bodyPost_ret (results_cell_tmp rfl _ _ w.heap.size 39 (cS zeroSale) _ rfl hbl Tryz.underlying39 rfl (by kernel_rfl)) rfl ?_
    exact ⟨by rw [Hr.out, if_neg Hv0.out]; rfl, below_setCells hb2 (Nat.le_refl _) _ _⟩

end Go.Proofs.YtollegoajlfdiaaGreat

/-
  Walk: the award of a parcel.
-/
namespace Go.Proofs.YtollegoajlfdiaaGreat
open Go.RowKit Lg Go.Sort Go.Shelf

def GivesO (w : World) (pk : Int × Rate × Sale) (fs : List Int) (e : Ending) (w' : World) : Prop :=
  RowKit.Below w.heap.size w w' ∧ if pk.1 = 0 then
    if awOk pk.2.1 pk.2.2 fs = true then
      ∃ v ys, e = .returned (.tuple #[.agg #[.int .i64 pk.2.2.price, .int .i64 (awCart pk.2.1 pk.2.2), .int .i64 (awStore pk.2.1 pk.2.2), .int .i64 (awFind pk.2.1 pk.2.2), .int .i64 (awRest pk.2.1 pk.2.2), v], .int .i64 0]) ∧
        ListOf (sumP (awRaw pk.2.1 pk.2.2 fs)) ys ∧ w'.ownsRow w.heap.size 69 2 v ys.length (ys.flatMap cSh)
    else e = .returned (.tuple #[.agg #[.int .i64 0, .int .i64 0, .int .i64 0, .int .i64 0, .int .i64 0, .slice none 0 0], .int .i64 1])
  else e = .returned (.tuple #[.agg #[.int .i64 0, .int .i64 0, .int .i64 0, .int .i64 0, .int .i64 0, .slice none 0 0], .int .i64 pk.1])

theorem awardOf_err {w w' : World} {pk : Int × Rate × Sale} {fs : List Int} {tm : Array Value} (hA : Blk w' w.heap.size cA0.toArray 59) (hb : RowKit.Below w.heap.size w w') (ho : pk.1 ≠ 0) (h6 : tm.getD 14 undef = .pointer (some ⟨w.heap.size, 0, none⟩)) (h7 : tm.getD 15 undef = .int .i64 pk.1) :
    bodyPost Tryz.prog Tryz.f34 (GivesO w pk fs) .ret { tmps := tm, defers := [] } (w'.setCells w.heap.size 0 cA0) := by
  have hbl : Blk (w'.setCells w.heap.size 0 cA0) w.heap.size cA0.toArray 59 := by
    have := hA.setCells 0 cA0
    rw [setAll_A0] at this
    exact this
  refine bodyPost_ret (results_cell_tmp rfl tm _ w.heap.size 59 cA0 _ h6 hbl Tryz.underlying59 rfl (by kernel_rfl)) rfl ?_
  refine ⟨below_setCells hb (Nat.le_refl _) _ _, ?_⟩
  rw [if_neg ho, h7]

theorem awardOf_err_alloc {w w' : World} {pk : Int × Rate × Sale} {fs : List Int} {tm : Array Value} {o : Obj} (hA : Blk w' w.heap.size cA0.toArray 59) (hb : RowKit.Below w.heap.size w w') (ho : pk.1 ≠ 0) (h6 : tm.getD 14 undef = .pointer (some ⟨w.heap.size, 0, none⟩)) (h7 : tm.getD 15 undef = .int .i64 pk.1) :
    bodyPost Tryz.prog Tryz.f34 (GivesO w pk fs) .ret { tmps := tm, defers := [] } ((w'.setCells w.heap.size 0 cA0).alloc o) := by
  have hbl : Blk ((w'.setCells w.heap.size 0 cA0).alloc o) w.heap.size cA0.toArray 59 := by
    have := hA.setCells 0 cA0
    rw [setAll_A0] at this
    exact this.alloc _
  refine bodyPost_ret (results_cell_tmp rfl tm _ w.heap.size 59 cA0 _ h6 hbl Tryz.underlying59 rfl (by kernel_rfl)) rfl ?_
  refine ⟨(below_setCells hb (Nat.le_refl _) _ _).alloc (by rw [size_setCells]; exact hb.size) _, ?_⟩
  rw [if_neg ho, h7]

theorem awardOf_no {w w' : World} {pk : Int × Rate × Sale} {fs : List Int} {tm : Array Value} (hA : Blk w' w.heap.size cA0.toArray 59) (hb : RowKit.Below w.heap.size w w') (ho : pk.1 = 0) (hok : awOk pk.2.1 pk.2.2 fs = false) (h6 : tm.getD 14 undef = .pointer (some ⟨w.heap.size, 0, none⟩)) (h7 : tm.getD 15 undef = .int .i64 1) :
    bodyPost Tryz.prog Tryz.f34 (GivesO w pk fs) .ret { tmps := tm, defers := [] } (w'.setCells w.heap.size 0 cA0) := by
  have hbl : Blk (w'.setCells w.heap.size 0 cA0) w.heap.size cA0.toArray 59 := by
    have := hA.setCells 0 cA0
    rw [setAll_A0] at this
    exact this
  refine bodyPost_ret (results_cell_tmp rfl tm _ w.heap.size 59 cA0 _ h6 hbl Tryz.underlying59 rfl (by kernel_rfl)) rfl ?_
  refine ⟨below_setCells hb (Nat.le_refl _) _ _, ?_⟩
  rw [if_pos ho, if_neg (by rw [hok]; simp), h7]

theorem awardOf_fin {w w6 : World} {pk : Int × Rate × Sale} {fs : List Int} {tm : Array Value} {base : Nat} {v : Value} {ys : List Share} {c0 c1 c2 c3 rest : Int} (hA : Blk w6 w.heap.size cA0.toArray 59) (hb : RowKit.Below w.heap.size w w6) (hz : pk.1 = 0) (ho : awOk pk.2.1 pk.2.2 fs = true)
    (hbase : w.heap.size < base) (h0 : c0 = pk.2.2.price) (h1 : c1 = awCart pk.2.1 pk.2.2) (h2 : c2 = awStore pk.2.1 pk.2.2) (h3 : c3 = awFind pk.2.1 pk.2.2) (h4 : rest = awRest pk.2.1 pk.2.2) (hl : ListOf (sumP (awRaw pk.2.1 pk.2.2 fs)) ys) (hown : w6.ownsRow base 69 2 v ys.length (ys.flatMap cSh))
    (h6 : tm.getD 14 undef = .pointer (some ⟨w.heap.size, 0, none⟩)) (h7 : tm.getD 15 undef = .int .i64 0) :
    bodyPost Tryz.prog Tryz.f34 (GivesO w pk fs) .ret { tmps := tm, defers := [] } (w6.setCells w.heap.size 0 [.int .i64 c0, .int .i64 c1, .int .i64 c2, .int .i64 c3, .int .i64 rest, v]) := by
  have hbl : Blk (w6.setCells w.heap.size 0 [.int .i64 c0, .int .i64 c1, .int .i64 c2, .int .i64 c3, .int .i64 rest, v]) w.heap.size (#[.int .i64 c0, .int .i64 c1, .int .i64 c2, .int .i64 c3, .int .i64 rest, v] : Array Value) 59 := by
    have := hA.setCells 0 [.int .i64 c0, .int .i64 c1, .int .i64 c2, .int .i64 c3, .int .i64 rest, v]
    rw [setAll_A] at this
    exact this
  refine bodyPost_ret (results_cell_tmp rfl tm _ w.heap.size 59 [.int .i64 c0, .int .i64 c1, .int .i64 c2, .int .i64 c3, .int .i64 rest, v] _ h6 hbl Tryz.underlying59 rfl (by kernel_rfl)) rfl ?_
  refine ⟨below_setCells hb (Nat.le_refl _) _ _, ?_⟩
  rw [if_pos hz, if_pos ho, h7, h0, h1, h2, h3, h4]
  exact ⟨v, ys, rfl, hl, ownsRow_base_a (own_setCells hown hbase _ _) (by omega)⟩

set_option maxRecDepth 100000 in
set_option maxHeartbeats 1600000 in
theorem awardOf_any (a : Option Addr) (n cap : Nat) (rs : List Rate) (b : Option Addr) (m capS : Nat) (ss : List Sale) (parcel : Int) (goods : ByteArray) (hour known : Int) (c : Option Addr) (k capF : Nat) (fs : List Int) (w : World)
    (hL : Lst w 9 cR a n cap rs) (hS : Lst w 9 cS b m capS ss) (hFi : Lst w 1 cI c k capF fs) :
    Calls Tryz.prog 34 #[.slice a n cap, .slice b m capS, .int .i64 parcel, .string goods, .int .i64 hour, .int .i64 known, .slice c k capF] w (GivesO w (awPick rs ss parcel goods hour known) fs) := by
  obtain ⟨pk, hpk⟩ : ∃ pk, pk = awPick rs ss parcel goods hour known := ⟨_, rfl⟩
  rw [← hpk]
  obtain ⟨cr, hcr⟩ : ∃ c, c = checkRates rs := ⟨_, rfl⟩
  obtain ⟨so, hso⟩ : ∃ c, c = saleOf ss parcel known := ⟨_, rfl⟩
  obtain ⟨ro, hro⟩ : ∃ c, c = rateOf rs goods hour known := ⟨_, rfl⟩
  have h1 := fun W hW => checkRates_any a n cap rs W hW
  have h2 := fun W hW => saleOf_any b m capS ss parcel known W hW
  have h3 := fun W hW => rateOf_any a n cap rs goods hour known W hW
  rw [← hcr] at h1
  rw [← hso] at h2
  rw [← hro] at h3
  have Hpk : Hid (pk = if cr.2 = 0 then if so.2 = 0 then if ro.2 = 0 then (0, ro.1, so.1) else (ro.2, zeroRate, zeroSale) else (so.2, zeroRate, zeroSale) else (cr.2, zeroRate, zeroSale)) := Lib.hid (by rw [hpk, hcr, hso, hro]; rfl)
  clear hpk hcr hso hro
  obtain ⟨cr1, cr2⟩ := cr
  obtain ⟨so1, so2⟩ := so
  obtain ⟨ro1, ro2⟩ := ro
  have hB1 : RowKit.Below w.heap.size w (w.alloc (.cells #[.int .i64 0, .int .i64 0, .int .i64 0, .int .i64 0, .int .i64 0, .slice none 0 0] 59)) := (Below.refl _ w).alloc (Nat.le_refl _) _
  have h1' := h1 _ (hL.below hB1)
  clear h1
  go_enter Tryz.func34, Tryz.ntmps34
  go_wp2_with (fail)
  refine h1'.mono ?_
  clear h1'
  rintro e w2 ⟨rfl, hB2⟩
  have kA2 : Blk w2 w.heap.size cA0.toArray 59 := (Blk.new w _ _).below' hB2
  have hb2 : RowKit.Below w.heap.size w w2 := hB1.trans (hB2.mono hB1.size)
  by_cases g1 : cr2 = 0
  · subst g1
    go_wp2_with (fail)
    refine (h2 w2 (hS.below hb2)).mono ?_
    clear h2
    rintro e w3 ⟨rfl, hB3⟩
    have kA3 := kA2.below' hB3
    have hb3 := hb2.trans (hB3.mono hb2.size)
    clear kA2
    by_cases g2 : so2 = 0
    · subst g2
      have hb3' : RowKit.Below w.heap.size w (w3.alloc (.cells (cS so1).toArray 39)) := hb3.alloc hb3.size _
      have h3' := h3 _ (hL.below hb3')
      clear h3
      go_wp2_with (fail)
      refine h3'.mono ?_
      clear h3'
      rintro e w4 ⟨rfl, hB4⟩
      have kS4 : Blk w4 w3.heap.size (cS so1).toArray 39 := (Blk.new w3 _ _).below' hB4
      have kA4 := (kA3.alloc (.cells (cS so1).toArray 39)).below' hB4
      have hb4 := hb3'.trans (hB4.mono hb3'.size)
      have hltS := kS4.lt
      have hltA := kA4.lt
      by_cases g3 : ro2 = 0
      · subst g3
        have hpk2 := Hpk.out
        simp only [if_true] at hpk2
        have Hpk2 := Lib.hid hpk2
        clear hpk2 Hpk
        have cS4 := kS4.cell
        have hb4' : RowKit.Below w.heap.size w (w4.alloc (.cells (cR ro1).toArray 26)) := hb4.alloc hb4.size _
        have h5 := awarded_any ro1 so1 c k capF fs (w4.alloc (.cells (cR ro1).toArray 26)) (hFi.below hb4')
        go_wp2_with (fail)
        refine h5.mono ?_
        clear h5
        rintro e w5 ⟨hB5, hres⟩
        have kA5 := (kA4.alloc (.cells (cR ro1).toArray 26)).below' hB5
        have hb5 := hb4'.trans (hB5.mono hb4'.size)
        have hs5 : w.heap.size < (w4.alloc (.cells (cR ro1).toArray 26)).heap.size := by simp; omega
        clear cS4 kS4 kA4 kA3
        have cA := kA5.cell
        have fA := kA5.frozen
        rcases Bool.eq_false_or_eq_true (awOk ro1 so1 fs) with hok | hok
        · rw [if_pos hok] at hres
          obtain ⟨v, ys, rfl, hl, ho⟩ := hres
          have Hok := Lib.hid hok; clear hok
          have ho' := ho
          obtain ⟨a6, cap6, rfl, _, _⟩ := Lst.of_owns (k := 2) (enc := cSh) (fun _ => rfl) (by decide) ho' rfl
          clear ho'
          have Hl := Lib.hid hl; clear hl
          obtain ⟨c1, hc1⟩ : ∃ x, x = awCart ro1 so1 := ⟨_, rfl⟩
          obtain ⟨c2, hc2⟩ : ∃ x, x = awStore ro1 so1 := ⟨_, rfl⟩
          obtain ⟨c3, hc3⟩ : ∃ x, x = awFind ro1 so1 := ⟨_, rfl⟩
          obtain ⟨c4, hc4⟩ : ∃ x, x = awRest ro1 so1 := ⟨_, rfl⟩
          rw [← hc1, ← hc2, ← hc3, ← hc4]
          have Hc1 := Lib.hid hc1
          have Hc2 := Lib.hid hc2
          have Hc3 := Lib.hid hc3
          have Hc4 := Lib.hid hc4
          clear hc1 hc2 hc3 hc4
          go_wp2_with (fail)
          rw [putA]
          (try simp only [Exit.inBlock, Exit.then])
          exact awardOf_fin kA5 hb5 (by rw [Hpk2.out]) (by rw [Hpk2.out]; exact Hok.out) hs5 (by rw [Hpk2.out]) (by rw [Hpk2.out]; exact Hc1.out) (by rw [Hpk2.out]; exact Hc2.out) (by rw [Hpk2.out]; exact Hc3.out) (by rw [Hpk2.out]; exact Hc4.out) (by rw [Hpk2.out]; exact Hl.out) ho rfl rfl
        · rw [if_neg (by rw [hok]; simp)] at hres
          subst hres
          have Hok := Lib.hid hok; clear hok
          go_wp2_with (fail)
          rw [putA0]
          (try simp only [Exit.inBlock, Exit.then])
          exact awardOf_no kA5 hb5 (by rw [Hpk2.out]) (by rw [Hpk2.out]; exact Hok.out) rfl rfl
      · have g0 : (ro2 != 0) = true := by simpa using g3
        have G3 := Lib.hid g3; clear g3
        have hpk2 := Hpk.out
        simp only [if_true, if_neg G3.out] at hpk2
        have cA := kA4.cell
        have fA := kA4.frozen
        have Hpk2 := Lib.hid hpk2
        clear hpk2 Hpk
        go_wp2_with (fail)
        rw [putA0]
        (try simp only [Exit.inBlock, Exit.then])
        exact awardOf_err_alloc kA4 hb4 (by rw [Hpk2.out]; exact G3.out) rfl (by rw [Hpk2.out]; rfl)
    · have g0 : (so2 != 0) = true := by simpa using g2
      have G2 := Lib.hid g2; clear g2
      have hpk2 := Hpk.out
      simp only [if_true, if_neg G2.out] at hpk2
      have cA := kA3.cell
      have fA := kA3.frozen
      have hltA := kA3.lt
      have Hpk2 := Lib.hid hpk2
      clear hpk2 Hpk
      go_wp2_with (fail)
      rw [putA0]
      (try simp only [Exit.inBlock, Exit.then])
      exact awardOf_err_alloc kA3 hb3 (by rw [Hpk2.out]; exact G2.out) rfl (by rw [Hpk2.out]; rfl)
  · have g0 : (cr2 != 0) = true := by simpa using g1
    have G1 := Lib.hid g1; clear g1
    have hpk2 := Hpk.out
    simp only [if_neg G1.out] at hpk2
    have cA := kA2.cell
    have fA := kA2.frozen
    have Hpk2 := Lib.hid hpk2
    clear hpk2 Hpk
    go_wp2_with (fail)
    rw [putA0]
    (try simp only [Exit.inBlock, Exit.then])
    exact awardOf_err kA2 hb2 (by rw [Hpk2.out]; exact G1.out) rfl (by rw [Hpk2.out]; rfl)

end Go.Proofs.YtollegoajlfdiaaGreat

/-
  Walks: which shares can be merged; the change between two lists.
-/
namespace Go.Proofs.YtollegoajlfdiaaGreat
open Go.RowKit Lg Go.Sort Go.Shelf Go.Maps

set_option maxRecDepth 100000 in
set_option maxHeartbeats 400000 in
theorem bad_any (x : Share) (w : World) : Calls Tryz.prog 124 #[aSh x] w (Gives w (.bool (badShare x))) := by
  have h1 := fun W => in6_any x.party 0 40 W
  have h2 := fun W => in6_any x.pence (-1000000000) 1000000000 W
  have hbx : badShare x = (!inn x.party 0 40 || !inn x.pence (-1000000000) 1000000000) := rfl
  rw [hbx]
  clear hbx
  generalize inn x.party 0 40 = q1 at *
  generalize inn x.pence (-1000000000) 1000000000 = q2 at *
  cases q1 with
  | false =>
    go_enter Tryz.func124, Tryz.ntmps124
    go_wp2_with (go_at_call 66; refine (h1 _).mono ?_; rintro e w3 ⟨rfl, rfl⟩)
    go_ret
    exact ⟨rfl, (Below.refl _ w).alloc (Nat.le_refl _) _⟩
  | true =>
    cases q2 <;>
    · go_enter Tryz.func124, Tryz.ntmps124
      go_wp2_with (fail)
      refine (h1 _).mono ?_
      rintro e w3 ⟨rfl, rfl⟩
      go_wp2_with (fail)
      refine (h2 _).mono ?_
      rintro e w3 ⟨rfl, rfl⟩
      go_wp2_with (fail)
      go_ret
      exact ⟨rfl, (Below.refl _ w).alloc (Nat.le_refl _) _⟩

set_option maxRecDepth 100000 in
set_option maxHeartbeats 400000 in
theorem mergeable_any (a : Option Addr) (n cap : Nat) (xs : List Share) (w : World) (hL : Lst w 2 cSh a n cap xs) :
    Calls Tryz.prog 82 #[.slice a n cap] w (Gives w (.int .i64 (mergeableOf xs))) := by
  have eg : ∀ args w, (callFunc 124 args).run Tryz.prog w = .ok (.enter 124 args) w := enters_of Tryz.func124 (by kernel_rfl) rfl
  have hc := contSh_any badShare 124 #[] eg a n cap xs w hL (fun W x _ => bad_any x W)
  unfold mergeableOf
  rw [hL.len]
  generalize xs.any badShare = q at *
  by_cases h1 : 1000 < n
  · rw [if_pos h1]
    go_enter Tryz.func82, Tryz.ntmps82
    go_wp2_with (fail)
    go_ret
    exact ⟨rfl, Below.refl _ _⟩
  · rw [if_neg h1]
    cases q <;>
    · go_enter Tryz.func82, Tryz.ntmps82
      go_wp2_with (go_at_call 123; refine hc.mono ?_; rintro e w3 ⟨rfl, hB⟩)
      go_ret
      exact ⟨rfl, hB⟩

def GivesC (w : World) (l m : List Share) (e : Ending) (w' : World) : Prop :=
  RowKit.Below w.heap.size w w' ∧ if changeErr l m = 0 then
    ∃ v ys, e = .returned (.tuple #[v, .int .i64 0]) ∧ ListOf (fun p => sumP m p - sumP l p) ys ∧ w'.ownsRow w.heap.size 69 2 v ys.length (ys.flatMap cSh)
  else e = .returned (.tuple #[.slice none 0 0, .int .i64 (changeErr l m)])

set_option maxRecDepth 100000 in
set_option maxHeartbeats 1600000 in
theorem change_any (a : Option Addr) (n cap : Nat) (xs : List Share) (b : Option Addr) (m capB : Nat) (zs : List Share) (w : World) (hL : Lst w 2 cSh a n cap xs) (hM : Lst w 2 cSh b m capB zs) :
    Calls Tryz.prog 42 #[.slice a n cap, .slice b m capB] w (GivesC w xs zs) := by
  have h1 := fun W hW => mergeable_any a n cap xs W hW
  have h2 := fun W hW => mergeable_any b m capB zs W hW
  have hmm := @run_makeMap Tryz.prog
  obtain ⟨e1, he1⟩ : ∃ e, e = mergeableOf xs := ⟨_, rfl⟩
  obtain ⟨e2, he2⟩ : ∃ e, e = mergeableOf zs := ⟨_, rfl⟩
  rw [← he1] at h1
  rw [← he2] at h2
  have hce : changeErr xs zs = if e1 = 0 then e2 else e1 := by rw [he1, he2]; rfl
  have He1 := Lib.hid he1
  have He2 := Lib.hid he2
  have Hce := Lib.hid hce
  clear he1 he2 hce
  have hB1 : RowKit.Below w.heap.size w (w.alloc (.cells #[.slice a n cap, .slice b m capB] 45)) := (Below.refl _ w).alloc (Nat.le_refl _) _
  have k1 := Blk.new w 45 #[.slice a n cap, .slice b m capB]
  go_enter Tryz.func42, Tryz.ntmps42
  go_wp2_with (fail)
  go_loopw [13] (fun i wr => ∃ k : Nat, k ≤ 2 ∧ i = .int .i64 k ∧ Blk wr w.heap.size #[.slice a n cap, .slice b m capB] 45 ∧ RowKit.Below w.heap.size w wr ∧ (1 ≤ k → e1 = 0) ∧ (2 ≤ k → e2 = 0)) (fun i _ => 2 - (intOf i).toNat)
  case atStart => exact ⟨0, by omega, rfl, k1, hB1, fun h => by omega, fun h => by omega⟩
  case round =>
    obtain ⟨k, hk, rfl, kr, hBr, hk1, hk2⟩ := hrel
    have cr := kr.cell
    have hkc : k = 0 ∨ k = 1 ∨ k = 2 := by omega
    rcases hkc with rfl | rfl | rfl
    · clear hk1 hk2
      go_wp2_with (fail)
      refine (h1 wr (hL.below hBr)).mono ?_
      rintro e w2 ⟨rfl, hB2⟩
      have k2 := kr.below' hB2
      have hb2 := hBr.trans (hB2.mono hBr.size)
      by_cases hz : e1 = 0
      · subst hz
        go_wp2_with (fail)
        go_roundw
        case rel => exact ⟨1, by omega, by go_num, k2, hb2, (fun _ => by first | trivial | rfl), fun h => by omega⟩
        case measure => simp [intOf]
      · have g0 : (e1 != 0) = true := by simpa using hz
        have Hz := Lib.hid hz; clear hz
        go_wp2_with (fail)
        go_ret2
        refine ⟨hb2, ?_⟩
        have h := Hce.out
        rw [if_neg Hz.out] at h
        rw [if_neg (by rw [h]; exact Hz.out), h]
        rfl
    · have h0 := hk1 (by omega)
      subst h0
      clear hk1 hk2
      go_wp2_with (fail)
      refine (h2 wr (hM.below hBr)).mono ?_
      rintro e w2 ⟨rfl, hB2⟩
      have k2 := kr.below' hB2
      have hb2 := hBr.trans (hB2.mono hBr.size)
      by_cases hz : e2 = 0
      · subst hz
        go_wp2_with (fail)
        go_roundw
        case rel => exact ⟨2, by omega, by go_num, k2, hb2, (fun _ => by first | trivial | rfl), (fun _ => by first | trivial | rfl)⟩
        case measure => simp [intOf]
      · have g0 : (e2 != 0) = true := by simpa using hz
        have Hz := Lib.hid hz; clear hz
        go_wp2_with (fail)
        go_ret2
        refine ⟨hb2, ?_⟩
        have h := Hce.out
        simp only [if_true] at h
        rw [if_neg (by rw [h]; exact Hz.out), h]
        rfl
    · have h0 := hk1 (by omega)
      subst h0
      have h3 := hk2 (by omega)
      subst h3
      clear hk1 hk2 h1 h2
      obtain ⟨hl1, hx1⟩ := mergeable_ok He1.out.symm
      obtain ⟨hl2, hx2⟩ := mergeable_ok He2.out.symm
      rw [hL.len] at hl1
      rw [hM.len] at hl2
      have hs1 := sumsN_any a n cap xs wr.heap.size 0 (fun _ => 0) (wr.alloc (.map #[] 0)) (by omega) (by omega) (OwnM.made wr) (fun W' h => hL.below (hBr.trans ((((Below.refl _ wr).alloc (Nat.le_refl _) _).trans h).mono hBr.size))) hx1 (fun _ => by omega)
      go_wp2_with (fail)
      refine hs1.mono ?_
      clear hs1
      rintro e w2 ⟨rfl, ho2, hB2⟩
      have hB2' : RowKit.Below wr.heap.size wr w2 := ((Below.refl _ wr).alloc (Nat.le_refl _) _).trans hB2
      have hsb := fun p => sumP_bound xs p 1000000000 (by omega) (fun y hy => (hx1 y hy).2.2)
      have hs2 := sums1_any b m capB zs wr.heap.size (0 + n) _ w2 (by omega) (by omega) ho2 (fun W' h => hM.below (hBr.trans ((hB2'.trans h).mono hBr.size))) hx2 (fun p => by have := hsb p; have := hL.len; omega)
      go_wp2_with (fail)
      refine hs2.mono ?_
      clear hs2
      rintro e w3 ⟨rfl, ho3, hB3⟩
      have hB3' := hB2'.trans hB3
      go_wp2_with (fail)
      refine (listed_any wr.heap.size (0 + n + m) _ w3 (by omega) ho3).mono ?_
      rintro e w4 ⟨v, ys, rfl, hf, hown, hb4⟩
      go_wp2_with (fail)
      go_ret2
      have hb3 := hBr.trans (hB3'.mono hBr.size)
      refine ⟨hb3.trans (hb4.mono hb3.size), ?_⟩
      have h := Hce.out
      simp only [if_true] at h
      rw [if_pos h]
      refine ⟨v, ys, rfl, ?_, ownsRow_base_a hown hb3.size⟩
      have e : (fun p => sumP zs p - sumP xs p) = fun p => 0 + -1 * sumP xs p + 1 * sumP zs p := funext fun p => by omega
      rw [e]
      exact hf

end Go.Proofs.YtollegoajlfdiaaGreat

/-
  Walks: the comparisons of lists.
-/
namespace Go.Proofs.YtollegoajlfdiaaGreat
open Go.RowKit Lg Go.Sort Go.Shelf

theorem below_drewN' {n : Nat} {a w : World} (h : RowKit.Below n a w) (q : Nat) : RowKit.Below n a (w.drewN q) := ⟨h.os, h.tape, h.output, h.size, h.block⟩

set_option maxRecDepth 100000 in
set_option maxHeartbeats 1600000 in
theorem sameInts_any (a : Option Addr) (n cap : Nat) (xs : List Int) (b : Option Addr) (m capB : Nat) (ys : List Int) (w : World) (hL : Lst w 1 cI a n cap xs) (hM : Lst w 1 cI b m capB ys) :
    Calls Tryz.prog 21 #[.slice a n cap, .slice b m capB] w (Gives w (.bool (decide (xs = ys)))) := by
  have hma : cap ≤ 9223372036854775807 := by have := hL.max; unfold maxLen at this; omega
  have hmb : capB ≤ 9223372036854775807 := by have := hM.max; unfold maxLen at this; omega
  have hlea := hL.le
  have hleb := hM.le
  obtain ⟨q, hq⟩ : ∃ q, q = decide (xs = ys) := ⟨_, rfl⟩
  rw [← hq]
  have Hq := Lib.hid hq; clear hq
  by_cases hnm : n = m
  · subst hnm
    go_enter Tryz.func21, Tryz.ntmps21
    go_wp2
    go_loopw [5] (fun i wr => ∃ k : Nat, k ≤ n ∧ i = .int .i64 k ∧ RowKit.Below w.heap.size w wr ∧ xs.take k = ys.take k) (fun i _ => n - (intOf i).toNat)
    case atStart => exact ⟨0, Nat.zero_le _, rfl, Below.refl _ _, by simp⟩
    case round =>
      obtain ⟨k, hk, rfl, hB, htk⟩ := hrel
      by_cases hlt : k < n
      · obtain ⟨x, hx⟩ : ∃ x, xs[k]? = some x := ⟨xs[k]'(by rw [hL.len]; exact hlt), by simp⟩
        obtain ⟨y, hy⟩ : ∃ y, ys[k]? = some y := ⟨ys[k]'(by rw [hM.len]; exact hlt), by simp⟩
        obtain ⟨b1, o1, rfl, hb1, hr1⟩ := hL.at_ k x hx
        obtain ⟨b2, o2, rfl, hb2, hr2⟩ := hM.at_ k y hy
        have l1 := rangeAt_below hB hb1 hr1 0 _ rfl
        have l2 := rangeAt_below hB hb2 hr2 0 _ rfl
        simp only [Nat.mul_one, Nat.add_zero] at l1 l2
        have Hx := Lib.hid hx
        have Hy := Lib.hid hy
        have Htk := Lib.hid htk
        clear hx hy htk hr1 hr2
        by_cases hxy : x = y
        · have g0 : (x != y) = false := by simpa using hxy
          have Hxy := Lib.hid hxy; clear hxy
          go_wp2
          go_quiet (fail)
          go_wp2
          go_roundw
          case rel => exact ⟨k + 1, by omega, by go_num, below_drewN' hB _, take_eq_step Htk.out Hx.out Hy.out Hxy.out⟩
          case measure => simp [intOf]; omega
        · have g0 : (x != y) = true := by simpa using hxy
          have Hxy := Lib.hid hxy; clear hxy
          go_wp2
          go_quiet (fail)
          go_wp2
          go_ret
          refine ⟨ret_bool ?_, below_drewN' hB _⟩
          rw [Hq.out, decide_eq_false (fun e => Hxy.out ?_)]
          have h1 := Hx.out
          rw [e, Hy.out] at h1
          exact (Option.some.inj h1).symm
      · obtain rfl : k = n := by omega
        have e : xs = ys := by
          rw [List.take_of_length_le (by rw [hL.len]; exact Nat.le_refl _), List.take_of_length_le (by rw [hM.len]; exact Nat.le_refl _)] at htk
          exact htk
        have He := Lib.hid e
        clear e htk
        go_wp2
        go_ret
        exact ⟨ret_bool (by rw [Hq.out, decide_eq_true He.out]), hB⟩
  · have hne : xs ≠ ys := fun e => hnm (by rw [← hL.len, ← hM.len, e])
    have Hne := Lib.hid hne; clear hne
    go_enter Tryz.func21, Tryz.ntmps21
    go_wp2
    go_ret
    exact ⟨ret_bool (by rw [Hq.out, decide_eq_false Hne.out]), Below.refl _ _⟩

set_option maxRecDepth 100000 in
theorem neqSh (x y : Share) (w : World) : (binOp .neq 69 (aSh x) (aSh y)).run Tryz.prog w = .ok (.bool (!decide (x = y))) w := by
  have h := eqSh x y w
  rw [run_eql_struct] at h
  rw [run_neq_struct]
  generalize (Op.equalIn 10000 69 (aSh x) (aSh y)).run Tryz.prog w = r at h ⊢
  cases r with
  | ok v w' =>
    simp only [Result.andThen] at h ⊢
    injection h with h1 h2
    injection h1 with h1
    rw [h1, h2]
  | halt v w' =>
    simp only [Result.andThen] at h
    cases h

set_option maxRecDepth 100000 in
set_option maxHeartbeats 1600000 in
theorem sameShares_any (a : Option Addr) (n cap : Nat) (xs : List Share) (b : Option Addr) (m capB : Nat) (ys : List Share) (w : World) (hL : Lst w 2 cSh a n cap xs) (hM : Lst w 2 cSh b m capB ys) :
    Calls Tryz.prog 30 #[.slice a n cap, .slice b m capB] w (Gives w (.bool (decide (xs = ys)))) := by
  have hma : cap ≤ 9223372036854775807 := by have := hL.max; unfold maxLen at this; omega
  have hmb : capB ≤ 9223372036854775807 := by have := hM.max; unfold maxLen at this; omega
  have hlea := hL.le
  have hleb := hM.le
  obtain ⟨q, hq⟩ : ∃ q, q = decide (xs = ys) := ⟨_, rfl⟩
  rw [← hq]
  have Hq := Lib.hid hq; clear hq
  by_cases hnm : n = m
  · subst hnm
    go_enter Tryz.func30, Tryz.ntmps30
    go_wp2
    go_loopw [5] (fun i wr => ∃ k : Nat, k ≤ n ∧ i = .int .i64 k ∧ RowKit.Below w.heap.size w wr ∧ xs.take k = ys.take k) (fun i _ => n - (intOf i).toNat)
    case atStart => exact ⟨0, Nat.zero_le _, rfl, Below.refl _ _, by simp⟩
    case round =>
      obtain ⟨k, hk, rfl, hB, htk⟩ := hrel
      by_cases hlt : k < n
      · obtain ⟨x, hx⟩ : ∃ x, xs[k]? = some x := ⟨xs[k]'(by rw [hL.len]; exact hlt), by simp⟩
        obtain ⟨y, hy⟩ : ∃ y, ys[k]? = some y := ⟨ys[k]'(by rw [hM.len]; exact hlt), by simp⟩
        obtain ⟨b1, o1, rfl, hb1, hr1⟩ := hL.at_ k x hx
        obtain ⟨b2, o2, rfl, hb2, hr2⟩ := hM.at_ k y hy
        have l1 := show wr.cell? ⟨b1, o1 + k * 2, none⟩ = some (.int .i64 x.party) from rangeAt_below hB hb1 hr1 0 _ rfl
        have l2 := show wr.cell? ⟨b1, o1 + k * 2 + 1, none⟩ = some (.int .i64 x.pence) from rangeAt_below hB hb1 hr1 1 _ rfl
        have l3 := show wr.cell? ⟨b2, o2 + k * 2, none⟩ = some (.int .i64 y.party) from rangeAt_below hB hb2 hr2 0 _ rfl
        have l4 := show wr.cell? ⟨b2, o2 + k * 2 + 1, none⟩ = some (.int .i64 y.pence) from rangeAt_below hB hb2 hr2 1 _ rfl
        have Hx := Lib.hid hx
        have Hy := Lib.hid hy
        have Htk := Lib.hid htk
        clear hx hy htk hr1 hr2
        by_cases hxy : x = y
        · have g0 : ∀ w, (binOp .neq 69 (aSh x) (aSh y)).run Tryz.prog w = .ok (.bool false) w := fun w => by rw [neqSh, decide_eq_true hxy]; rfl
          have gg := guardSh
          have Hxy := Lib.hid hxy; clear hxy
          go_wp2
          go_quiet (fail)
          go_wp2
          go_roundw
          case rel => exact ⟨k + 1, by omega, by go_num, below_drewN' hB _, take_eq_step Htk.out Hx.out Hy.out Hxy.out⟩
          case measure => simp [intOf]; omega
        · have g0 : ∀ w, (binOp .neq 69 (aSh x) (aSh y)).run Tryz.prog w = .ok (.bool true) w := fun w => by rw [neqSh, decide_eq_false hxy]; rfl
          have gg := guardSh
          have Hxy := Lib.hid hxy; clear hxy
          go_wp2
          go_quiet (fail)
          go_wp2
          go_ret
          refine ⟨ret_bool ?_, below_drewN' hB _⟩
          rw [Hq.out, decide_eq_false (fun e => Hxy.out ?_)]
          have h1 := Hx.out
          rw [e, Hy.out] at h1
          exact (Option.some.inj h1).symm
      · obtain rfl : k = n := by omega
        have e : xs = ys := by
          rw [List.take_of_length_le (by rw [hL.len]; exact Nat.le_refl _), List.take_of_length_le (by rw [hM.len]; exact Nat.le_refl _)] at htk
          exact htk
        have He := Lib.hid e
        clear e htk
        go_wp2
        go_ret
        exact ⟨ret_bool (by rw [Hq.out, decide_eq_true He.out]), hB⟩
  · have hne : xs ≠ ys := fun e => hnm (by rw [← hL.len, ← hM.len, e])
    have Hne := Lib.hid hne; clear hne
    go_enter Tryz.func30, Tryz.ntmps30
    go_wp2
    go_ret
    exact ⟨ret_bool (by rw [Hq.out, decide_eq_false Hne.out]), Below.refl _ _⟩

end Go.Proofs.YtollegoajlfdiaaGreat
