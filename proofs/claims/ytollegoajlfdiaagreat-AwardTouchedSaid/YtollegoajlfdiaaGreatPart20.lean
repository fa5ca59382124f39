import Derived.Test.YtollegoajlfdiaaGreatPart10
import Derived.Test.YtollegoajlfdiaaGreatPart18
import Derived.Test.YtollegoajlfdiaaGreatPart04
import Derived.Test.YtollegoajlfdiaaGreatPart11
import Derived.BigQuiet
import Derived.BigRegion
/-
  Walk: the record in force, or the error.
-/
namespace Go.Proofs.YtollegoajlfdiaaGreat
open Go.RowKit Lg Go.Sort Go.Shelf

set_option maxRecDepth 100000 in
set_option maxHeartbeats 1600000 in
theorem rateOf_any (a : Option Addr) (n cap : Nat) (xs : List Rate) (goods : ByteArray) (hour known : Int) (w : World) (hL : Lst w 9 cR a n cap xs) :
    Calls Tryz.prog 17 #[.slice a n cap, .string goods, .int .i64 hour, .int .i64 known] w (Gives w (.tuple #[aR (rateOf xs goods hour known).1, .int .i64 (rateOf xs goods hour known).2])) := by
  obtain ⟨r, hr⟩ : ∃ r, r = rateOf xs goods hour known := ⟨_, rfl⟩
  rw [← hr]
  obtain ⟨c, hc⟩ : ∃ c, c = checkRates xs := ⟨_, rfl⟩
  obtain ⟨f, hf⟩ : ∃ f, f = inForce xs goods hour known := ⟨_, rfl⟩
  have hcr := fun W hW => checkRates_any a n cap xs W hW
  have hfr := fun W hW => inForce_any a n cap xs goods hour known W hW
  rw [← hc] at hcr
  rw [← hf] at hfr
  have Hr : Hid (r = if c.2 = 0 then (if f.2 = true then (f.1, 0) else (zeroRate, 60)) else (zeroRate, c.2)) := Lib.hid (by rw [hr, hc, hf]; rfl)
  clear hr hc hf
  obtain ⟨c1, c2⟩ := c
  obtain ⟨f1, f2⟩ := f
  have hB1 : RowKit.Below w.heap.size w (w.alloc (.cells #[.int .i64 0, .int .i64 0, .int .i64 0, .string ⟨#[]⟩, .int .i64 0, .int .i64 0, .int .i64 0, .int .i64 0, .int .i64 0] 26)) := (Below.refl _ w).alloc (Nat.le_refl _) _
  have hcr1 := hcr _ (hL.below hB1)
  clear hcr
  go_enter Tryz.func17, Tryz.ntmps17
  go_wp2_with (fail)
  refine hcr1.mono ?_
  clear hcr1
  rintro e w2 ⟨rfl, hB2⟩
  have k2 : Blk w2 w.heap.size #[.int .i64 0, .int .i64 0, .int .i64 0, .string ⟨#[]⟩, .int .i64 0, .int .i64 0, .int .i64 0, .int .i64 0, .int .i64 0] 26 := (Blk.new w _ _).below' hB2
  have hb2 : RowKit.Below w.heap.size w w2 := hB1.trans (hB2.mono hB1.size)
  have e2 := k2.cell
  have g2 := k2.frozen
  by_cases hv0 : c2 = 0
  · subst hv0
    go_wp2_with (fail)
    refine (hfr w2 (hL.below hb2)).mono ?_
    clear hfr
    rintro e w3 ⟨rfl, hB3⟩
    have k3 := k2.below' hB3
    have hb3 := hb2.trans (hB3.mono hb2.size)
    have hs3 := k3.lt
    have e3 := k3.cell
    have g3 := k3.frozen
    cases f2 with
    | true =>
      go_wp2_with (fail)
      have hbl : Blk ((w3.setCells w.heap.size 0 (cR f1)).alloc (.cells (cR f1).toArray 26)) w.heap.size (cR f1).toArray 26 := by
        refine Blk.alloc ?_ _
        rw [← setAll_zero f1]
        exact k3.setCells 0 (cR f1)
      rw [putR]
      (try simp only [Exit.inBlock, Exit.then]); refine bodyPost_ret (results_cell_tmp rfl _ _ w.heap.size 26 (cR f1) _ rfl hbl Tryz.underlying26 rfl (by kernel_rfl)) rfl ?_
      exact ⟨by rw [Hr.out]; rfl, (below_setCells hb3 (Nat.le_refl _) _ _).alloc (by rw [size_setCells]; omega) _⟩
    | false =>
      go_wp2_with (fail)
      have hbl : Blk ((w3.setCells w.heap.size 0 (cR zeroRate)).alloc (.cells (cR f1).toArray 26)) w.heap.size (cR zeroRate).toArray 26 := by
        refine Blk.alloc ?_ _
        rw [← setAll_zero zeroRate]
        exact k3.setCells 0 (cR zeroRate)
      rw [putR0]
      (try simp only [Exit.inBlock, Exit.then]); refine bodyPost_ret (results_cell_tmp rfl _ _ w.heap.size 26 (cR zeroRate) _ rfl hbl Tryz.underlying26 rfl (by kernel_rfl)) rfl ?_
      exact ⟨by rw [Hr.out]; rfl, (below_setCells hb3 (Nat.le_refl _) _ _).alloc (by rw [size_setCells]; omega) _⟩
  · have g0 : (c2 != 0) = true := by simpa using hv0
    have Hv0 := Lib.hid hv0; clear hv0
    go_wp2_with (fail)
    have hbl : Blk (w2.setCells w.heap.size 0 (cR zeroRate)) w.heap.size (cR zeroRate).toArray 26 := by
      rw [← setAll_zero zeroRate]
      exact k2.setCells 0 (cR zeroRate)
    rw [putR0]
    (try simp only [Exit.inBlock, Exit.then]); refine bodyPost_ret (results_cell_tmp rfl _ _ w.heap.size 26 (cR zeroRate) _ rfl hbl Tryz.underlying26 rfl (by kernel_rfl)) rfl ?_
    exact ⟨by rw [Hr.out, if_neg Hv0.out]; rfl, below_setCells hb2 (Nat.le_refl _) _ _⟩

end Go.Proofs.YtollegoajlfdiaaGreat

/-
  Walks: the predicate inside counting, at sales.
-/
namespace Go.Proofs.YtollegoajlfdiaaGreat
open Go.RowKit Lg Go.Sort

set_option maxRecDepth 100000 in
set_option maxHeartbeats 400000 in
theorem voidS_any (x : Sale) (h : Head) (known : Int) (B1 B2 : Nat) (w : World) (c1 : w.cell? ⟨B1, 0, none⟩ = some (.int .i64 h.id)) (c2 : w.cell? ⟨B2, 0, none⟩ = some (.int .i64 known)) :
    Calls Tryz.prog 130 #[aS x, .pointer (some ⟨B1, 0, none⟩), .pointer (some ⟨B2, 0, none⟩)] w (Gives w (.bool (voids h x.head known))) := by
  obtain ⟨W, hW⟩ : ∃ W, W = w.alloc (.cells #[.int .i64 x.id, .int .i64 x.known, .int .i64 x.hour, .int .i64 x.parcel, .int .i64 x.price, .int .i64 x.carter, .int .i64 x.keeper, .int .i64 x.since, .int .i64 x.of_] 39) := ⟨_, rfl⟩
  have b1 : _ < _ := block_lt_of_cell c1
  have b2 : _ < _ := block_lt_of_cell c2
  have hB : Below w.heap.size w W := hW ▸ (Below.refl _ w).alloc (Nat.le_refl _) _
  have k1 := cell_regrown ((hB.cell (p := ⟨B1, 0, none⟩) b1).trans c1)
  have k2 := cell_regrown ((hB.cell (p := ⟨B2, 0, none⟩) b2).trans c2)
  have k3 := box_regrown hW
  have fh := fieldH
  have cH := regrown_call (w := W) (v := .agg #[.int .i64 x.id, .int .i64 x.known, .int .i64 x.of_]) (fun W' _ => headS_any x W')
  go_enter Tryz.func130, Tryz.ntmps130
  go_wp2
  rw [← hW]; clear hW
  by_cases hid : x.of_ = h.id
  · have g1 : (x.of_ == h.id) = true := by simp [hid]
    have H := Lib.hid hid; clear hid
    refine wp_region_quiet_below (by kernel_rfl) (by kernel_rfl) ?_
    repeat (quiet_step (first | exact cH _ _))
    refine wpQuiet_nil ?_
    intro _ hw'
    obtain ⟨⟨dq, osq⟩, hw''⟩ := hw'
    subst hw''
    go_wp2
    go_ret
    exact ⟨by simp [voids, Sale.head, H.out], hB.trans ((below_regrown W dq osq).mono hB.size)⟩
  · have g1 : (x.of_ == h.id) = false := by simp [hid]
    have H := Lib.hid hid; clear hid
    refine wp_region_quiet_below (by kernel_rfl) (by kernel_rfl) ?_
    repeat (quiet_step (first | exact cH _ _))
    refine wpQuiet_nil ?_
    intro _ hw'
    obtain ⟨⟨dq, osq⟩, hw''⟩ := hw'
    subst hw''
    go_wp2
    go_ret
    exact ⟨by simp [voids, Sale.head, H.out], hB.trans ((below_regrown W dq osq).mono hB.size)⟩

end Go.Proofs.YtollegoajlfdiaaGreat

/-
  The iterator over what counts, at sales.
-/
namespace Go.Proofs.YtollegoajlfdiaaGreat
open Go.RowKit Lg Go.Sort Go.Shelf

attribute [local go_sem] Oper.semAt_some

theorem any_headS (l : List Sale) (h : Head) (known : Int) : l.any (fun v => voids h v.head known) = (l.map Sale.head).any (fun v => voids h v known) := by
  rw [List.any_map]; rfl

set_option maxRecDepth 100000 in
set_option maxHeartbeats 1000000 in
theorem countingS1 (n : Nat) (hn : 1 ≤ n) (l Bl Bk : Nat) (S : Nat → Prop) (a : Option Addr) (m cap : Nat) (xs : List Sale) (known : Int) (J Jx : List Sale → World → Prop)
    (W : World) (hJ : AbidesFrom W.heap.size J) (hBl : W.cell? ⟨Bl, 0, none⟩ = some (.slice a m cap)) (hBk : W.cell? ⟨Bk, 0, none⟩ = some (.int .i64 known)) (hS1 : S Bl) (hS2 : S Bk) (hSlt : ∀ k, S k → k < W.heap.size)
    (hL : Lst W 9 cS a m cap xs) (hLb : ∀ b off, xs ≠ [] → a = some ⟨b, off, none⟩ → S b)
    (hY : ∀ pre x W1, J pre W1 → pre.length < xs.length → YieldAt Fence.wide (n - 1) Tryz.prog l #[aS x] W1 fun e W' =>
      (e = .returned (.bool true) ∧ J (pre ++ [x]) W' ∧ KpOn S W1 W') ∨ (e = .returned (.bool false) ∧ Jx (pre ++ [x]) W'))
    (h0 : J [] W) :
    CallsIn Fence.wide n Tryz.prog 127 #[.func (.yield l) #[] #[], .pointer (some ⟨Bl, 0, none⟩), .pointer (some ⟨Bk, 0, none⟩)] W fun e W' => (∃ v, e = .returned v) ∧
      ((∃ ys, ys = cntS xs known ∧ J ys W') ∨ (∃ pre, pre <+: cntS xs known ∧ Jx pre W')) := by
  have hm : cap ≤ 9223372036854775807 := by have := hL.max; unfold maxLen at this; omega
  have hle := hL.le
  have hlen := Lib.hid hL.len
  have hw115 : Fence.wide.fn 128 := trivial
  have hw116 : Fence.wide.fn 129 := trivial
  refine callsIn_of_wp Tryz.func127 rfl trivial ?_ rfl
  simp only [Tryz.ntmps127, List.size_toArray, List.length_cons, List.length_nil, Nat.reduceAdd, Nat.reduceSub, Array.replicate_succ, Array.replicate_zero, List.push_toArray, List.append_toArray, List.nil_append, List.cons_append]
  gi_wp2
  gi_loopw [10] (fun i wr => ∃ k : Nat, k ≤ m ∧ i = .int .i64 k ∧ KpOn S W wr ∧ J ((xs.take k).filter fun x => counts (xs.map Sale.head) known x.head) wr) (fun i _ => m - (intOf i).toNat)
  case atStart => exact ⟨0, Nat.zero_le _, rfl, KpOn.refl _ _, h0⟩
  case round =>
    obtain ⟨k, hk, rfl, hB, hJk⟩ := hrel
    have hsz := hB.1
    have hlt1 := hSlt _ hS1
    have hlt2 := hSlt _ hS2
    by_cases hlt : k < m
    · obtain ⟨x, hx⟩ : ∃ x, xs[k]? = some x := ⟨xs[k]'(by rw [hlen.out]; exact hlt), by simp⟩
      obtain ⟨b, off, rfl, hb, hr⟩ := hL.at_ k x hx
      have hne : xs ≠ [] := fun h => by rw [h] at hx; simp at hx
      have hr' := rangeAt_kp hB (hLb b off hne rfl) hr
      have hX := Lib.hid hx; clear hx
      have HJ := Lib.hid hJk; clear hJk
      gi_wp2_with (refine wpListIn_load_mid rfl 39 _ rfl b (off + k * 9) rfl (cS x) _ hr' Tryz.underlying39 rfl (by kernel_rfl) ?_)
      refine (callsIn_wide.2 (headS_any x _)).mono ?_
      rintro e w2 ⟨rfl, hB2⟩
      obtain ⟨A1, hA1⟩ : ∃ A1, A1 = wr.alloc (.cells #[.int .i64 x.id, .int .i64 x.known, .int .i64 x.hour, .int .i64 x.parcel, .int .i64 x.price, .int .i64 x.carter, .int .i64 x.keeper, .int .i64 x.since, .int .i64 x.of_] 39) := ⟨_, rfl⟩
      rw [← hA1] at hB2
      have hBA : Below wr.heap.size wr A1 := hA1 ▸ (Below.refl _ wr).alloc (Nat.le_refl _) _
      have hszA : A1.heap.size = wr.heap.size + 1 := by rw [hA1]; simp
      have hb2 : Below wr.heap.size wr w2 := hBA.trans (hB2.mono hBA.size)
      have hsz2 : wr.heap.size + 1 ≤ w2.heap.size := by have := hB2.size; omega
      have hbox : ∀ j, w2.cell? ⟨wr.heap.size, j, none⟩ = #[Value.int .i64 x.id, .int .i64 x.known, .int .i64 x.hour, .int .i64 x.parcel, .int .i64 x.price, .int .i64 x.carter, .int .i64 x.keeper, .int .i64 x.since, .int .i64 x.of_][j]? := fun j => by
        rw [hB2.cell (p := ⟨wr.heap.size, j, none⟩) (by rw [hszA]; exact Nat.lt_succ_self _), hA1]
        exact cell_of_row _ _ _ _ _ _ (heap_alloc_new wr _)
      clear hA1
      have hBl2 : w2.cell? ⟨Bl, 0, none⟩ = some (.slice (some ⟨b, off, none⟩) m cap) := ((hb2.cell (p := ⟨Bl, 0, none⟩) (show Bl < wr.heap.size by omega)).trans (hB.cell (p := ⟨Bl, 0, none⟩) hS1)).trans hBl
      have hBk2 : w2.cell? ⟨Bk, 0, none⟩ = some (.int .i64 known) := ((hb2.cell (p := ⟨Bk, 0, none⟩) (show Bk < wr.heap.size by omega)).trans (hB.cell (p := ⟨Bk, 0, none⟩) hS2)).trans hBk
      have hBl3 := cell_allocs hBl2
      have hBk3 := cell_allocs hBk2
      have hmf : ∀ (fn : Fn) (first cap : Array Value) (w : World), (Instr.makeFunc fn first cap).run Tryz.prog w = .ok (.func fn first cap) w := fun _ _ _ _ => rfl
      gi_wp2
      have eg : ∀ args w, (callFunc 130 args).run Tryz.prog w = .ok (.enter 130 args) w := enters_of Tryz.func130 (by kernel_rfl) rfl
      obtain ⟨A3, hA3⟩ : ∃ A3, A3 = w2.alloc (.cells #[.int .i64 x.head.id, .int .i64 x.head.known, .int .i64 x.head.of_] 143) := ⟨_, rfl⟩
      have hBA3 : Below w2.heap.size w2 A3 := hA3 ▸ (Below.refl _ w2).alloc (Nat.le_refl _) _
      have hszA3 : A3.heap.size = w2.heap.size + 1 := by rw [hA3]; simp
      have hent : ∀ j, A3.cell? ⟨w2.heap.size, j, none⟩ = #[Value.int .i64 x.head.id, .int .i64 x.head.known, .int .i64 x.head.of_][j]? := fun j => by
        rw [hA3]; exact cell_of_row _ _ _ _ _ _ (heap_alloc_new w2 _)
      have hB23 : Below wr.heap.size wr A3 := hb2.trans (hBA3.mono hb2.size)
      have hL3 : Lst A3 9 cS (some ⟨b, off, none⟩) m cap xs := ⟨hL.len, hL.le, hL.max, fun i y hy => by
        obtain ⟨b', off', ha, hlt', hr⟩ := hL.at_ i y hy
        cases ha
        exact ⟨b, off, rfl, by have := hB23.size; omega, rangeAt_below hB23 (by omega) (rangeAt_kp hB (hLb _ _ hne rfl) hr)⟩⟩
      rw [← hA3]; clear hA3
      refine (callsIn_wide.2 (contS_any (fun v => voids x.head v.head known) 130 #[.pointer (some ⟨w2.heap.size, 0, none⟩), .pointer (some ⟨Bk, 0, none⟩)] eg (some ⟨b, off, none⟩) m cap xs A3 hL3 (fun W' v hW' => voidS_any v x.head known w2.heap.size Bk W' ?_ ?_))).mono ?_
      · rw [hW'.cell (p := ⟨w2.heap.size, 0, none⟩) (by rw [hszA3]; exact Nat.lt_succ_self _), hent]; rfl
      · rw [hW'.cell (p := ⟨Bk, 0, none⟩) (show Bk < _ by rw [hszA3]; omega), hBA3.cell (p := ⟨Bk, 0, none⟩) (show Bk < _ by omega)]; exact hBk2
      rintro e w4 ⟨rfl, hB4⟩
      have hb4 : Below wr.heap.size wr w4 := hB23.trans (hB4.mono hB23.size)
      have hent4 : ∀ j, w4.cell? ⟨w2.heap.size, j, none⟩ = #[Value.int .i64 x.head.id, .int .i64 x.head.known, .int .i64 x.head.of_][j]? := fun j => by
        rw [hB4.cell (p := ⟨w2.heap.size, j, none⟩) (by rw [hszA3]; exact Nat.lt_succ_self _)]; exact hent j
      have hbox4 : ∀ j, w4.cell? ⟨wr.heap.size, j, none⟩ = #[Value.int .i64 x.id, .int .i64 x.known, .int .i64 x.hour, .int .i64 x.parcel, .int .i64 x.price, .int .i64 x.carter, .int .i64 x.keeper, .int .i64 x.since, .int .i64 x.of_][j]? := fun j => by
        rw [hB4.cell (p := ⟨wr.heap.size, j, none⟩) (show wr.heap.size < _ by omega), hBA3.cell (p := ⟨wr.heap.size, j, none⟩) (show wr.heap.size < _ by omega)]; exact hbox j
      have hBk4 : w4.cell? ⟨Bk, 0, none⟩ = some (.int .i64 known) := by
        rw [hB4.cell (p := ⟨Bk, 0, none⟩) (show Bk < _ by omega), hBA3.cell (p := ⟨Bk, 0, none⟩) (show Bk < _ by omega)]; exact hBk2
      have hJ4 := abides_below hJ HJ.out hb4
      have hcnt : counts (xs.map Sale.head) known x.head = (decide (x.head.of_ = 0) && decide (x.head.known ≤ known) && !(xs.any fun v => voids x.head v.head known)) := by
        rw [any_headS]; rfl
      have Hcnt := Lib.hid hcnt; clear hcnt
      have hlp : ((xs.take k).filter fun x => counts (xs.map Sale.head) known x.head).length < xs.length := by
        have h1 := List.length_filter_le (fun x => counts (xs.map Sale.head) known x.head) (xs.take k)
        have h2 := List.length_take_le k xs
        rw [hlen.out]; omega
      clear hbox hent hBl hBk hBl2 hBk2 hBl3 hBk3 hB2 hb2 hBA hr hr' hBA3 hL3 eg hmf
      have htake : (xs.take (k + 1)).filter (fun x => counts (xs.map Sale.head) known x.head) = ((xs.take k).filter fun x => counts (xs.map Sale.head) known x.head) ++ (if counts (xs.map Sale.head) known x.head then [x] else []) := by
        obtain ⟨h1, h2⟩ := List.getElem?_eq_some_iff.1 hX.out
        rw [List.take_succ_eq_append_getElem h1, h2, List.filter_append, List.filter_cons, List.filter_nil]
      have Htake := Lib.hid htake; clear htake
      generalize (xs.any fun v => voids x.head v.head known) = vd at *
      have hgo : counts (xs.map Sale.head) known x.head = false → ∀ w5, Below wr.heap.size wr w5 → J ((xs.take (k + 1)).filter fun x => counts (xs.map Sale.head) known x.head) w5 := fun hf w5 hb => by
        rw [Htake.out, hf]; simpa using abides_below hJ HJ.out hb
      have hBn : KpOn S W w4 := hB.trans (KpOn.of_below hb4 (fun k hk => by have := hSlt k hk; omega))
      by_cases g1 : (x.head.of_ == 0) = true
      · by_cases g2 : x.head.known ≤ known
        · cases vd with
          | true =>
            have Hf : Hid (counts (xs.map Sale.head) known x.head = false) := Lib.hid (by rw [Hcnt.out]; simp)
            gi_wp2
            refine ⟨fun _ h => (by cases h), ?_⟩
            gi_wp2
            go_roundw
            case rel => exact ⟨k + 1, by omega, by go_num, hBn, hgo Hf.out _ hb4⟩
            case measure => simp [intOf]; omega
          | false =>
            have Hf : Hid (counts (xs.map Sale.head) known x.head = true) := Lib.hid (by rw [Hcnt.out]; simp at g1; simp [g1, g2])
            obtain ⟨fn, tmps, assign, body, hy, hR⟩ := hY _ x w4 hJ4 hlp
            have htk : (xs.take (k + 1)).filter (fun x => counts (xs.map Sale.head) known x.head) = ((xs.take k).filter fun x => counts (xs.map Sale.head) known x.head) ++ [x] := by rw [Htake.out, Hf.out]; rfl
            have Htk := Lib.hid htk; clear htk
            gi_wp2
            refine hR.mono ?_
            rintro e w5 (⟨rfl, hJ5, hk5⟩ | ⟨rfl, hJx5⟩)
            · gi_wp2
              go_roundw
              case rel => exact ⟨k + 1, by omega, by go_num, hBn.trans hk5, by rw [Htk.out]; exact hJ5⟩
              case measure => simp [intOf]; omega
            · gi_wp2
              refine bodyPost_ret (results_none rfl _ _ _) rfl ?_
              refine ⟨⟨_, rfl⟩, .inr ⟨_, ?_, hJx5⟩⟩
              rw [← Htk.out]
              unfold cntS
              exact ⟨(xs.drop (k + 1)).filter fun x => counts (xs.map Sale.head) known x.head, by rw [← List.filter_append, List.take_append_drop]⟩
        · have Hf : Hid (counts (xs.map Sale.head) known x.head = false) := Lib.hid (by rw [Hcnt.out]; simp [g2])
          gi_wp2
          refine ⟨fun _ h => (by cases h), ?_⟩
          gi_wp2
          go_roundw
          case rel => exact ⟨k + 1, by omega, by go_num, hBn, hgo Hf.out _ hb4⟩
          case measure => simp [intOf]; omega
      · have g1' : (x.head.of_ == 0) = false := by simpa using g1
        clear g1
        have Hf : Hid (counts (xs.map Sale.head) known x.head = false) := Lib.hid (by rw [Hcnt.out]; simp at g1'; simp [g1'])
        gi_wp2
        refine ⟨fun _ h => (by cases h), ?_⟩
        gi_wp2
        go_roundw
        case rel => exact ⟨k + 1, by omega, by go_num, hBn, hgo Hf.out _ hb4⟩
        case measure => simp [intOf]; omega
    · obtain rfl : k = m := by omega
      have HJ := Lib.hid hJk; clear hJk
      gi_wp2
      go_end0
      refine ⟨⟨_, rfl⟩, .inl ⟨_, rfl, ?_⟩⟩
      have := HJ.out
      rw [List.take_of_length_le (by rw [hlen.out]; exact Nat.le_refl _)] at this
      exact this


/-- counting: the list and the hour are boxed; the function value captures the boxes. -/
theorem countingS_any (a : Option Addr) (m cap : Nat) (known : Int) (w : World) :
    Calls Tryz.prog 89 #[.slice a m cap, .int .i64 known] w fun e w' => e = .returned (.func (.func 127) #[] #[.pointer (some ⟨w.heap.size, 0, none⟩), .pointer (some ⟨w.heap.size + 1, 0, none⟩)]) ∧
      (w.alloc (.cells #[.slice a m cap] 54)).alloc (.cells #[.int .i64 known] 3) = w' := by
  have hmf : ∀ (fn : Fn) (first cap : Array Value) (w : World), (Instr.makeFunc fn first cap).run Tryz.prog w = .ok (.func fn first cap) w := fun _ _ _ _ => rfl
  go_enter Tryz.func89, Tryz.ntmps89
  go_wp2
  go_ret
  exact ⟨rfl, rfl⟩

/-- The iterator that counting hands back, in the world behind the call. -/
theorem countingS_stops (n : Nat) (hn : 1 ≤ n) (a : Option Addr) (m cap : Nat) (xs : List Sale) (known : Int) (w w2 : World) (hw : w2 = (w.alloc (.cells #[.slice a m cap] 54)).alloc (.cells #[.int .i64 known] 3)) (hL : Lst w 9 cS a m cap xs) :
    SeqStopsK Fence.wide n Tryz.prog 127 #[.pointer (some ⟨w.heap.size, 0, none⟩), .pointer (some ⟨w.heap.size + 1, 0, none⟩)] (fun x : Sale => #[aS x])
      (KpOn fun k => k = w.heap.size ∨ k = w.heap.size + 1 ∨ (xs ≠ [] ∧ ∃ off, a = some ⟨k, off, none⟩)) (fun ys => ys = cntS xs known) (fun pre => pre <+: cntS xs known) xs.length w2 := by
  intro l J Jx W hW hJ hJx hY h0
  have hsz : w2.heap.size = w.heap.size + 2 := by rw [hw]; simp
  have hB : Below w.heap.size w w2 := hw ▸ ((Below.refl _ w).alloc (Nat.le_refl _) _).alloc (by simp) _
  have hBW : Below w.heap.size w W := hB.trans (hW.mono hB.size)
  have hxs : xs ≠ [] → ∀ b off, a = some ⟨b, off, none⟩ → b < w.heap.size := by
    intro hne
    obtain ⟨x, xs', rfl⟩ := List.exists_cons_of_ne_nil hne
    obtain ⟨b, off, ha, hlt, _⟩ := hL.at_ 0 x rfl
    exact fun b' off' h => by rw [ha] at h; cases h; exact hlt
  have hc1 : W.cell? ⟨w.heap.size, 0, none⟩ = some (.slice a m cap) := by
    rw [hW.cell (p := ⟨w.heap.size, 0, none⟩) (show w.heap.size < _ by omega), hw]
    exact cell_allocs (by exact cell_of_row _ _ _ _ _ _ (heap_alloc_new w _)) _
  have hc2 : W.cell? ⟨w.heap.size + 1, 0, none⟩ = some (.int .i64 known) := by
    rw [hW.cell (p := ⟨w.heap.size + 1, 0, none⟩) (show w.heap.size + 1 < _ by omega), hw]
    exact cell_of_row _ _ _ _ _ _ (heap_alloc2_new w _ _)
  refine countingS1 n hn l w.heap.size (w.heap.size + 1) _ a m cap xs known J Jx W hJ hc1 hc2 (.inl rfl) (.inr (.inl rfl)) ?_ (hL.below hBW) (fun b off hne h => .inr (.inr ⟨hne, off, h⟩)) hY h0
  rintro k (rfl | rfl | ⟨hne, off, h⟩)
  · have := hW.size; omega
  · have := hW.size; omega
  · have := hxs hne k off h; have := hBW.size; omega

end Go.Proofs.YtollegoajlfdiaaGreat

/-
  Walk: the counting sale of a parcel.
-/
namespace Go.Proofs.YtollegoajlfdiaaGreat
open Go.RowKit Lg Go.Sort Go.Shelf

attribute [local go_sem] Oper.semAt_some

theorem setAll_zeroS (z : Sale) : setAll #[.int .i64 0, .int .i64 0, .int .i64 0, .int .i64 0, .int .i64 0, .int .i64 0, .int .i64 0, .int .i64 0, .int .i64 0] 0 (cS z) = (cS z).toArray := by kernel_rfl

/-- What holds between two rounds of the search. -/
def SP (w : World) (parcel : Int) (W2 : World) (pre : List Sale) (W : World) : Prop :=
  Blk W w.heap.size #[.int .i64 parcel] 3 ∧ Blk W (w.heap.size + 1) #[.int .i64 0, .int .i64 0, .int .i64 0, .int .i64 0, .int .i64 0, .int .i64 0, .int .i64 0, .int .i64 0, .int .i64 0] 39 ∧ Blk W (w.heap.size + 1 + 1) #[.bool false] 4 ∧
    Below w.heap.size w W ∧ W2.heap.size ≤ W.heap.size ∧ pre.find? (fun x => decide (x.parcel = parcel)) = none
/-- What holds where it has found one. -/
def SX (w : World) (parcel : Int) (W2 : World) (c : Code) (pre : List Sale) (W : World) : Prop :=
  c = .ret ∧ ∃ x, Blk W (w.heap.size + 1) (cS x).toArray 39 ∧ Blk W (w.heap.size + 1 + 1) #[.bool true] 4 ∧
    Below w.heap.size w W ∧ W2.heap.size ≤ W.heap.size ∧ pre.find? (fun x => decide (x.parcel = parcel)) = some x

theorem results_cell_cellB {P : Program} {fn : Func} {p q : Tmp} {ty tb : TypeId} (h : fn.results = #[.cell p ty, .cell q tb]) (tmps : Array Value) (w : World) (g g2 : Nat) (T _T2 : TypeId) (cs : List Value) (d : TypeDesc) (b : Bool)
    (hp : tmps.getD p undef = .pointer (some ⟨g, 0, none⟩)) (hg : Blk w g cs.toArray T) (hu : P.underlying ty = some d) (hd : d.isRow = true) (hi : (P.info? ty).map (·.size) = some cs.length)
    (hq : tmps.getD q undef = .pointer (some ⟨g2, 0, none⟩)) (hl : (loadVar tb ⟨g2, 0, none⟩).run P w = .ok (.bool b) w) :
    (results fn tmps).run P w = .ok (.tuple #[.agg cs.toArray, .bool b]) w := by
  have hp' : tmps[p]?.getD undef = .pointer (some ⟨g, 0, none⟩) := by simpa using hp
  have hq' : tmps[q]?.getD undef = .pointer (some ⟨g2, 0, none⟩) := by simpa using hq
  simp [results, h, hp', hq', asAddr, run_loadVar_blk w g T ty cs d hg hu hd hi, hl]

theorem loadB {w : World} {g : Nat} {b : Bool} (h : Blk w g #[.bool b] 4) : (loadVar 4 ⟨g, 0, none⟩).run Tryz.prog w = .ok (.bool b) w := by
  have c := h.cell 0
  have a := Tryz.isAgg4
  have z := Tryz.sizeOf4
  have u := Tryz.underlying4
  unfold loadVar
  simp [go_sem, c, a, z]

theorem soldRet (xs : List Sale) (parcel known : Int) (w : World) (D : Nat) (hD : w.heap.size + 5 ≤ D) (W1 : World) (r : Sale) (ok : Bool) (tm : Array Value) (hb1 : Blk W1 (w.heap.size + 1) (cS r).toArray 39) (hb2 : Blk W1 (w.heap.size + 1 + 1) #[.bool ok] 4)
    (hK1 : W1.heap[D]? = some (.deferred (some []))) (hB1 : Below w.heap.size w W1) (hfr : soldPair (soldIn xs parcel known) = (r, ok)) (h6 : tm.getD 6 undef = .pointer (some ⟨w.heap.size + 1, 0, none⟩)) (h7 : tm.getD 7 undef = .pointer (some ⟨w.heap.size + 1 + 1, 0, none⟩)) :
    bodyPostM Fence.wide 3 Tryz.prog Tryz.f86 (Gives w (.tuple #[aS (soldPair (soldIn xs parcel known)).1, .bool (soldPair (soldIn xs parcel known)).2])) .ret { tmps := tm, defers := [{ target := .collected D, args := #[] }] } W1 := by
  refine ⟨by simp, .inl ⟨_, _, rfl, run_takeDeferred hK1, ?_⟩⟩
  refine ⟨_, results_cell_cellB rfl tm _ (w.heap.size + 1) (w.heap.size + 1 + 1) 39 4 (cS r) _ ok h6 (hb1.putObj _ (by omega)) Tryz.underlying39 rfl (by kernel_rfl) h7 (loadB (hb2.putObj _ (by omega))), ?_⟩
  rw [hfr]
  exact ⟨rfl, hB1.trans (belowK_b (w := w) (Nat.le_refl _) W1 D _ _ (by omega) hK1 rfl rfl)⟩

set_option maxRecDepth 100000 in
set_option maxHeartbeats 1600000 in
theorem sold_any (a : Option Addr) (m cap : Nat) (xs : List Sale) (parcel known : Int) (w : World) (hL : Lst w 9 cS a m cap xs) :
    Calls Tryz.prog 86 #[.slice a m cap, .int .i64 parcel, .int .i64 known] w (Gives w (.tuple #[aS (soldPair (soldIn xs parcel known)).1, .bool (soldPair (soldIn xs parcel known)).2])) := by
  refine (callsIn_wide (n := 3)).1 ?_
  have hw91 : Fence.wide.fn 89 := trivial
  refine callsIn_of_wp_marks Tryz.func86 rfl trivial ?_ rfl
  simp only [Tryz.ntmps86, List.size_toArray, List.length_cons, List.length_nil, Nat.reduceAdd, Nat.reduceSub, Array.replicate_succ, Array.replicate_zero, List.push_toArray, List.append_toArray, List.nil_append, List.cons_append]
  gi_wp2_with (gi_at_call 89; refine (callsIn_wide.2 (countingS_any _ _ _ _ _)).mono ?_; rintro e w' ⟨rfl, rfl⟩)
  obtain ⟨W0, hW0⟩ : ∃ W0, W0 = ((w.alloc (.cells #[.int .i64 parcel] 3)).alloc (.cells #[.int .i64 0, .int .i64 0, .int .i64 0, .int .i64 0, .int .i64 0, .int .i64 0, .int .i64 0, .int .i64 0, .int .i64 0] 39)).alloc (.cells #[.bool false] 4) := ⟨_, rfl⟩
  rw [← hW0]
  obtain ⟨W2, hW2⟩ : ∃ W2, W2 = (W0.alloc (.cells #[.slice a m cap] 54)).alloc (.cells #[.int .i64 known] 3) := ⟨_, rfl⟩
  rw [← hW2]
  have hsz0 : W0.heap.size = w.heap.size + 1 + 1 + 1 := by rw [hW0]; simp
  have hsz2 : W2.heap.size = w.heap.size + 5 := by rw [hW2]; simp [hsz0]
  have j1 := Blk.new w 3 #[.int .i64 parcel]
  have j2 := Blk.new (w.alloc (.cells #[.int .i64 parcel] 3)) 39 #[.int .i64 0, .int .i64 0, .int .i64 0, .int .i64 0, .int .i64 0, .int .i64 0, .int .i64 0, .int .i64 0, .int .i64 0]
  have j3 := Blk.new ((w.alloc (.cells #[.int .i64 parcel] 3)).alloc (.cells #[.int .i64 0, .int .i64 0, .int .i64 0, .int .i64 0, .int .i64 0, .int .i64 0, .int .i64 0, .int .i64 0, .int .i64 0] 39)) 4 #[.bool false]
  simp only [World.size_alloc] at j2 j3
  have hB0 : Below w.heap.size w W0 := hW0 ▸ (((Below.refl _ w).alloc (Nat.le_refl _) _).alloc (by simp) _).alloc (by simp; omega) _
  have hB2 : Below w.heap.size w W2 := hW2 ▸ (hB0.alloc hB0.size _).alloc (by simp; omega) _
  have k1 : Blk W2 w.heap.size #[.int .i64 parcel] 3 := by rw [hW2, hW0]; exact (((j1.alloc _).alloc _).alloc _).alloc _
  have k2 : Blk W2 (w.heap.size + 1) #[.int .i64 0, .int .i64 0, .int .i64 0, .int .i64 0, .int .i64 0, .int .i64 0, .int .i64 0, .int .i64 0, .int .i64 0] 39 := by rw [hW2, hW0]; exact ((j2.alloc _).alloc _).alloc _
  have k3 : Blk W2 (w.heap.size + 1 + 1) #[.bool false] 4 := by rw [hW2, hW0]; exact (j3.alloc _).alloc _
  have hst := countingS_stops 2 (by omega) a m cap xs known W0 W2 hW2 (hL.below hB0)
  clear j1 j2 j3 hW0 hW2 hB0
  rw [hsz0] at hst
  clear hsz0
  have hSlt : ∀ k, (k = w.heap.size + 1 + 1 + 1 ∨ k = w.heap.size + 1 + 1 + 1 + 1 ∨ (xs ≠ [] ∧ ∃ off, a = some ⟨k, off, none⟩)) → k < W2.heap.size := by
    rintro k (rfl | rfl | ⟨hne, off, ha⟩)
    · omega
    · omega
    · obtain ⟨x, xs', rfl⟩ := List.exists_cons_of_ne_nil hne
      obtain ⟨b, off', ha', hlt, _⟩ := hL.at_ 0 x rfl
      rw [ha] at ha'; cases ha'; omega
  refine wpIn_rangeFunc_ownH rfl (by omega) (gf := 127) rfl trivial (enters_of Tryz.func127 (by kernel_rfl) rfl) hst (fun h k => KpOn.trans h k) ?hKb (Below.refl _ _) (fun _ => rfl)
    (SP w parcel W2) (SX w parcel W2)
    ?hI ?hIx ⟨k1, k2, k3, hB2, Nat.le_refl _, rfl⟩
    (fun x a' W => ∃ Bx, W2.heap.size ≤ Bx ∧ Blk W Bx #[.int .i64 x.id, .int .i64 x.known, .int .i64 x.hour, .int .i64 x.parcel, .int .i64 x.price, .int .i64 x.carter, .int .i64 x.keeper, .int .i64 x.since, .int .i64 x.of_] 39 ∧ a' = { tmps := #[.slice a m cap, .int .i64 parcel, .int .i64 known, undef, .pointer (some ⟨w.heap.size, 0, none⟩), undef, .pointer (some ⟨w.heap.size + 1, 0, none⟩), .pointer (some ⟨w.heap.size + 1 + 1, 0, none⟩), .pointer (some ⟨Bx, 0, none⟩), .slice a m cap, .int .i64 known, .func (.func 127) #[] #[.pointer (some ⟨w.heap.size + 1 + 1 + 1, 0, none⟩), .pointer (some ⟨w.heap.size + 1 + 1 + 1 + 1, 0, none⟩)], aS x, undef, undef, undef, undef, undef, undef], defers := [] })
    (fun x a' s A B row hs hg hr => hs.imp fun Bx h => ⟨h.1, h.2.1.own hg hr, h.2.2⟩) ?assign ?body ?done ?stop
  case hKb =>
    intro W l o o' hl ho hc hk
    refine ⟨by simp, fun k hS => World.putObj_heap_other (fun e => ?_)⟩
    have := hSlt k hS
    omega
  case hI =>
    rintro pre A B row ⟨h1, h2, h3, hB, hs, hf⟩ hg hr
    exact ⟨h1.own hg hr, h2.own hg hr, h3.own hg hr, hB.grown hg hB.size (fun k e => by have := (hr k e).1; omega), Nat.le_trans hs hg.size, hf⟩
  case hIx =>
    rintro c pre A B row ⟨hc, x, h2, h3, hB, hs, hf⟩ hg hr
    exact ⟨hc, x, h2.own hg hr, h3.own hg hr, hB.grown hg hB.size (fun k e => by have := (hr k e).1; omega), Nat.le_trans hs hg.size, hf⟩
  case assign =>
    rintro l pre x W K ⟨h1, h2, h3, hB, hs, hf⟩ hK
    gi_wp2
    exact hK _ _ ((KeepsOthers.alloc _ _).from _) ⟨by simp, fun k hS => Below.heap_alloc _ _ _ (by have := hSlt k hS; omega)⟩ ⟨h1.alloc _, h2.alloc _, h3.alloc _, hB.alloc hB.size _, by simp; omega, hf⟩ ⟨W.heap.size, hs, Blk.new _ _ _, rfl⟩
  case body =>
    rintro l pre x a' W hl ⟨r, hr⟩ ⟨h1, h2, h3, hB, hs, hf⟩ ⟨Bx, hBx, bX, rfl⟩ hlt
    have c1 := h1.cell
    have f2 := h2.frozen
    have f3 := h3.frozen
    have c2 := h2.cell
    have c3 := h3.cell
    have cX := bX.cell
    have Hst := Lib.hid hst; clear hst k1 k2 k3
    have HSlt := Lib.hid hSlt; clear hSlt
    have Hf := Lib.hid hf; clear hf
    by_cases hp : x.parcel = parcel
    · have g1 : (x.parcel == parcel) = true := by simpa using hp
      have Hp := Lib.hid hp; clear hp
      gi_wp2
      have hb1 : Blk ((W.setCells (w.heap.size + 1) 0 (cS x)).setCell ⟨w.heap.size + 1 + 1, 0, none⟩ (.bool true)) (w.heap.size + 1) (cS x).toArray 39 := by
        refine Blk.setCell_other ?_ (by omega) _ _
        rw [← setAll_zeroS]; exact h2.setCells 0 _
      have hb2 : Blk ((W.setCells (w.heap.size + 1) 0 (cS x)).setCell ⟨w.heap.size + 1 + 1, 0, none⟩ (.bool true)) (w.heap.size + 1 + 1) #[.bool true] 4 :=
        (h3.setCells_other (by omega) _ _).setCell 0 _
      have hb3 : Below w.heap.size w ((W.setCells (w.heap.size + 1) 0 (cS x)).setCell ⟨w.heap.size + 1 + 1, 0, none⟩ (.bool true)) := (below_setCells hB (by omega) _ _).setCell (p := ⟨w.heap.size + 1 + 1, 0, none⟩) (by simp; omega) _
      exact ⟨((keepsOthers_setCells W (w.heap.size + 1) 0 (cS x)).trans (KeepsOthers.setCell _ _ _)).from _, rfl, x, hb1, hb2, hb3, by simp [World.setCell]; exact hs, by rw [List.find?_append, Hf.out]; simp [Hp.out]⟩
    · have g1 : (x.parcel == parcel) = false := by simpa using hp
      have Hp := Lib.hid hp; clear hp
      gi_wp2
      exact ⟨(KeepsOthers.refl W).from _, KpOn.refl _ _, h1, h2, h3, hB, hs, by rw [List.find?_append, Hf.out]; simp [Hp.out]⟩
  case done =>
    rintro D ys W hD rfl ⟨h1, h2, h3, hB, hs, hf⟩ hK
    have hfr : soldPair (soldIn xs parcel known) = (zeroSale, false) := by unfold soldIn; rw [hf]; rfl
    have Hst := Lib.hid hst; clear hst k1 k2 k3
    have HSlt := Lib.hid hSlt; clear hSlt
    have f2 := h2.frozen
    have f3 := h3.frozen
    have c2 := h2.cell
    have c3 := h3.cell
    have hret := soldRet xs parcel known w D (by omega)
    have Hfr := Lib.hid hfr
    have Hf := Lib.hid hf; clear hf hfr
    have Hret := Lib.hid hret; clear hret
    gi_wp2
    have hset : setAll #[.int .i64 0, .int .i64 0, .int .i64 0, .int .i64 0, .int .i64 0, .int .i64 0, .int .i64 0, .int .i64 0, .int .i64 0] 0 (cS zeroSale) = #[.int .i64 0, .int .i64 0, .int .i64 0, .int .i64 0, .int .i64 0, .int .i64 0, .int .i64 0, .int .i64 0, .int .i64 0] := by kernel_rfl
    refine Hret.out ((W.setCells (w.heap.size + 1) 0 (cS zeroSale)).setCell ⟨w.heap.size + 1 + 1, 0, none⟩ (.bool false)) zeroSale false _ ?_ ((h3.setCells_other (by omega) _ _).setCell 0 _) ((setCells_heap W (w.heap.size + 1) 0 (cS zeroSale) D (by omega) |> fun h => (Below.heap_setCell _ ⟨w.heap.size + 1 + 1, 0, none⟩ _ D (by simp; omega)).trans (h.trans hK))) ((below_setCells hB (by omega) _ _).setCell (p := ⟨w.heap.size + 1 + 1, 0, none⟩) (by simp; omega) _) Hfr.out rfl rfl
    refine Blk.setCell_other ?_ (by omega) _ _
    have := h2.setCells 0 (cS zeroSale)
    rw [hset] at this
    exact this
  case stop =>
    rintro D c pre W hD hpre ⟨rfl, x, h2, h3, hB, hs, hf⟩ hK
    have hfr : soldPair (soldIn xs parcel known) = (x, true) := by
      obtain ⟨t, ht⟩ := hpre
      unfold soldIn; rw [← ht, List.find?_append, hf]; rfl
    have Hst := Lib.hid hst; clear hst k1 k2 k3
    have HSlt := Lib.hid hSlt; clear hSlt
    have hret := soldRet xs parcel known w D (by omega)
    have Hfr := Lib.hid hfr
    have Hf := Lib.hid hf; clear hf hfr
    have Hret := Lib.hid hret; clear hret
    gi_wp2
    exact Hret.out W x true _ h2 h3 hK hB Hfr.out rfl rfl

end Go.Proofs.YtollegoajlfdiaaGreat
