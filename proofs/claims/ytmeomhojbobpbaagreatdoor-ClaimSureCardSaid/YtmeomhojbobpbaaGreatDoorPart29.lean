import Derived.Test.YtmeomhojbobpbaaGreatDoorPart26
import Derived.Test.YtmeomhojbobpbaaGreatDoorPart05
/-
  The iterator over the deeds that count: its contract.
-/
namespace Go.Proofs.YtmeomhojbobpbaaGreatDoor
open Go.RowKit Lg Go.Sort Go.Shelf

attribute [local go_sem] Oper.semAt_some

set_option maxRecDepth 100000 in
set_option maxHeartbeats 800000 in
theorem voidD_any (v x : Deed) (known : Int) (B Bk : Nat) (w : World) (k : Blk w B #[.int .i64 x.id, .int .i64 x.known, .int .i64 x.hour, .int .u8 x.kind, .int .i64 x.loss, .int .i64 x.pack, .int .i64 x.from_, .int .i64 x.to_, .int .i64 x.share.num, .int .i64 x.share.den, .int .i64 x.of_] 36) (hk : w.cell? ⟨Bk, 0, none⟩ = some (.int .i64 known)) :
    Calls Tryz.prog 159 #[aD v, .pointer (some ⟨B, 0, none⟩), .pointer (some ⟨Bk, 0, none⟩)] w (Gives w (.bool (voidsD x known v))) := by
  obtain ⟨W, hW⟩ : ∃ W, W = w.alloc (.cells (cD v).toArray 36) := ⟨_, rfl⟩
  have hB : RowKit.Below w.heap.size w W := hW ▸ (Below.refl _ w).alloc (Nat.le_refl _) _
  have kX : Blk W B #[.int .i64 x.id, .int .i64 x.known, .int .i64 x.hour, .int .u8 x.kind, .int .i64 x.loss, .int .i64 x.pack, .int .i64 x.from_, .int .i64 x.to_, .int .i64 x.share.num, .int .i64 x.share.den, .int .i64 x.of_] 36 := hW ▸ k.alloc _
  have kV : Blk W w.heap.size (cD v).toArray 36 := hW ▸ Blk.new _ _ _
  have ck : W.cell? ⟨Bk, 0, none⟩ = some (.int .i64 known) := hW ▸ cell_allocs hk _
  obtain ⟨r, hr⟩ : ∃ r, r = voidsD x known v := ⟨_, rfl⟩
  rw [← hr]
  unfold voidsD at hr
  have cX := kX.cell
  have cV := kV.cell
  clear hk
  by_cases h6 : v.kind = 6
  · have g6 : (v.kind == 6) = true := by simp [h6]
    rw [decide_eq_true h6] at hr
    by_cases hi : v.of_ = x.id
    · have gi : (v.of_ == x.id) = true := by simp [hi]
      rw [decide_eq_true hi] at hr
      have Hr := Lib.hid hr
      clear hr h6 hi
      go_enter Tryz.func159, Tryz.ntmps159
      go_upto_region 1 with fail
      rw [← hW]; clear hW
      go_wp2_with (fail)
      go_ret
      exact ⟨ret_bool (by rw [Hr.out]; simp), hB⟩
    · have gi : (v.of_ == x.id) = false := by simp [hi]
      rw [decide_eq_false hi] at hr
      have Hr := Lib.hid hr
      clear hr h6 hi
      go_enter Tryz.func159, Tryz.ntmps159
      go_upto_region 1 with fail
      rw [← hW]; clear hW
      go_wp2_with (fail)
      go_ret
      exact ⟨ret_bool (by rw [Hr.out]; simp), hB⟩
  · have g6 : (v.kind == 6) = false := by simp [h6]
    rw [decide_eq_false h6] at hr
    have Hr := Lib.hid hr
    clear hr h6
    go_enter Tryz.func159, Tryz.ntmps159
    go_upto_region 1 with fail
    rw [← hW]; clear hW
    go_wp2_with (fail)
    go_ret
    exact ⟨ret_bool (by rw [Hr.out]; simp), hB⟩

set_option maxRecDepth 100000 in
set_option maxHeartbeats 3200000 in
theorem countingD1 (n : Nat) (hn : 1 ≤ n) (l Bl Bk : Nat) (S : Nat → Prop) (a : Option Addr) (m cap : Nat) (xs : List Deed) (known : Int) (J Jx : List Deed → World → Prop)
    (W : World) (hJ : AbidesFrom W.heap.size J) (hBl : W.cell? ⟨Bl, 0, none⟩ = some (.slice a m cap)) (hBk : W.cell? ⟨Bk, 0, none⟩ = some (.int .i64 known)) (hS1 : S Bl) (hS2 : S Bk) (hSlt : ∀ k, S k → k < W.heap.size)
    (hL : Lst W 11 cD a m cap xs) (hLb : ∀ b off, xs ≠ [] → a = some ⟨b, off, none⟩ → S b)
    (hY : ∀ pre x W1, x ∈ xs → J pre W1 → pre.length < xs.length → YieldAt Fence.wide (n - 1) Tryz.prog l #[aD x] W1 fun e W' =>
      (e = .returned (.bool true) ∧ J (pre ++ [x]) W' ∧ KpOn S W1 W') ∨ (e = .returned (.bool false) ∧ Jx (pre ++ [x]) W'))
    (h0 : J [] W) :
    CallsIn Fence.wide n Tryz.prog 158 #[.func (.yield l) #[] #[], .pointer (some ⟨Bl, 0, none⟩), .pointer (some ⟨Bk, 0, none⟩)] W fun e W' => (∃ v, e = .returned v) ∧
      ((∃ ys, ys = cntD xs known ∧ J ys W') ∨ (∃ pre, pre <+: cntD xs known ∧ Jx pre W')) := by
  have hm : cap ≤ 9223372036854775807 := by have := hL.max; unfold maxLen at this; omega
  have hle := hL.le
  have hlen := Lib.hid hL.len
  have hw116 : Fence.wide.fn 143 := trivial
  refine callsIn_of_wp Tryz.func158 rfl trivial ?_ rfl
  simp only [Tryz.ntmps158, List.size_toArray, List.length_cons, List.length_nil, Nat.reduceAdd, Nat.reduceSub, Array.replicate_succ, Array.replicate_zero, List.push_toArray, List.append_toArray, List.nil_append, List.cons_append]
  gi_wp2
  gi_loopw [9] (fun i wr => ∃ k : Nat, k ≤ m ∧ i = .int .i64 k ∧ KpOn S W wr ∧ J ((xs.take k).filter (countsD xs known)) wr) (fun i _ => m - (intOf i).toNat)
  case atStart => exact ⟨0, Nat.zero_le _, rfl, KpOn.refl _ _, h0⟩
  case round =>
    obtain ⟨k, hk, rfl, hB, hJk⟩ := hrel
    have hsz := hB.1
    have hlt1 := hSlt _ hS1
    have hlt2 := hSlt _ hS2
    by_cases hlt : k < m
    · obtain ⟨x, hx⟩ : ∃ x, xs[k]? = some x := ⟨xs[k]'(by rw [hlen.out]; exact hlt), by simp⟩
      obtain ⟨b, off, rfl, hb, hr⟩ := hL.at_ k x hx
      have hne : xs ≠ [] := fun h => by rw [h] at hx; simp at hx
      have hr' := rangeAt_kp hB (hLb b off hne rfl) hr
      have hX := Lib.hid hx; clear hx
      have HJ := Lib.hid hJk; clear hJk
      have hBl1 : wr.cell? ⟨Bl, 0, none⟩ = some (.slice (some ⟨b, off, none⟩) m cap) := (hB.cell (p := ⟨Bl, 0, none⟩) hS1).trans hBl
      have hBk1 : wr.cell? ⟨Bk, 0, none⟩ = some (.int .i64 known) := (hB.cell (p := ⟨Bk, 0, none⟩) hS2).trans hBk
      have hBl3 := cell_allocs hBl1
      have hBk3 := cell_allocs hBk1
      have hmf : ∀ (fn : Fn) (first cap : Array Value) (w : World), (Instr.makeFunc fn first cap).run Tryz.prog w = .ok (.func fn first cap) w := fun _ _ _ _ => rfl
      gi_wp2_with (refine wpListIn_load_mid rfl 36 _ rfl b (off + k * 11) rfl (cD x) _ hr' Tryz.underlying36 rfl (by kernel_rfl) ?_)
      have eg : ∀ args w, (callFunc 159 args).run Tryz.prog w = .ok (.enter 159 args) w := enters_of Tryz.func159 (by kernel_rfl) rfl
      obtain ⟨A3, hA3⟩ : ∃ A3, A3 = wr.alloc (.cells #[.int .i64 x.id, .int .i64 x.known, .int .i64 x.hour, .int .u8 x.kind, .int .i64 x.loss, .int .i64 x.pack, .int .i64 x.from_, .int .i64 x.to_, .int .i64 x.share.num, .int .i64 x.share.den, .int .i64 x.of_] 36) := ⟨_, rfl⟩
      have hBA3 : RowKit.Below wr.heap.size wr A3 := hA3 ▸ (Below.refl _ wr).alloc (Nat.le_refl _) _
      have kA : Blk A3 wr.heap.size #[.int .i64 x.id, .int .i64 x.known, .int .i64 x.hour, .int .u8 x.kind, .int .i64 x.loss, .int .i64 x.pack, .int .i64 x.from_, .int .i64 x.to_, .int .i64 x.share.num, .int .i64 x.share.den, .int .i64 x.of_] 36 := hA3 ▸ Blk.new _ _ _
      have hBkA : A3.cell? ⟨Bk, 0, none⟩ = some (.int .i64 known) := hA3 ▸ hBk3 _
      have hL3 : Lst A3 11 cD (some ⟨b, off, none⟩) m cap xs := ⟨hL.len, hL.le, hL.max, fun i y hy => by
        obtain ⟨b', off', ha, hlt', hr⟩ := hL.at_ i y hy
        cases ha
        exact ⟨b, off, rfl, by have := hBA3.size; omega, rangeAt_below hBA3 (by omega) (rangeAt_kp hB (hLb _ _ hne rfl) hr)⟩⟩
      rw [← hA3]; clear hA3
      have hBkb : Bk < A3.heap.size := block_lt_of_cell hBkA
      refine (callsIn_wide.2 (someD_any (voidsD x known) 159 #[.pointer (some ⟨wr.heap.size, 0, none⟩), .pointer (some ⟨Bk, 0, none⟩)] eg (some ⟨b, off, none⟩) m cap xs A3 hL3 (fun W' v hW' => voidD_any v x known wr.heap.size Bk W' (kA.below' hW') ((hW'.cell (p := ⟨Bk, 0, none⟩) hBkb).trans hBkA)))).mono ?_
      rintro e w4 ⟨rfl, hB4⟩
      have hb4 : RowKit.Below wr.heap.size wr w4 := hBA3.trans (hB4.mono hBA3.size)
      have kA4 := kA.below' hB4
      have cA4 := kA4.cell
      have hBk4 : w4.cell? ⟨Bk, 0, none⟩ = some (.int .i64 known) := (hB4.cell (p := ⟨Bk, 0, none⟩) hBkb).trans hBkA
      have hJ4 := abides_below hJ HJ.out hb4
      obtain ⟨vd, hvd⟩ : ∃ vd, vd = xs.any (voidsD x known) := ⟨_, rfl⟩
      rw [← hvd]
      have Hcnt : Hid (countsD xs known x = (!decide (x.kind = 6) && decide (x.known ≤ known) && !vd)) := Lib.hid (by rw [hvd]; rfl)
      clear hvd
      have hlp : ((xs.take k).filter (countsD xs known)).length < xs.length := by
        have h1 := List.length_filter_le (countsD xs known) (xs.take k)
        have h2 := List.length_take_le k xs
        rw [hlen.out]; omega
      clear hBl hBk hBl1 hBk1 hBl3 hBk3 hB4 hr hr' hBA3 hL3 eg hmf kA hBkA hBkb
      have htake : (xs.take (k + 1)).filter (countsD xs known) = ((xs.take k).filter (countsD xs known)) ++ (if countsD xs known x then [x] else []) := by
        obtain ⟨h1, h2⟩ := List.getElem?_eq_some_iff.1 hX.out
        rw [List.take_succ_eq_append_getElem h1, h2, List.filter_append, List.filter_cons, List.filter_nil]
      have Htake := Lib.hid htake; clear htake
      have hgo : countsD xs known x = false → ∀ w5, RowKit.Below wr.heap.size wr w5 → J ((xs.take (k + 1)).filter (countsD xs known)) w5 := fun hf w5 hb => by
        rw [Htake.out, hf]; simpa using abides_below hJ HJ.out hb
      have hBn : KpOn S W w4 := hB.trans (KpOn.of_below hb4 (fun k hk => by have := hSlt k hk; omega))
      by_cases g1 : x.kind = 6
      · have g1' : (x.kind != 6) = false := by simp [g1]
        have Hf : Hid (countsD xs known x = false) := Lib.hid (by rw [Hcnt.out, g1]; simp)
        clear g1
        gi_wp2
        refine ⟨fun _ h => (by cases h), ?_⟩
        gi_wp2
        go_roundw
        case rel => exact ⟨k + 1, by omega, by go_num, hBn, hgo Hf.out _ hb4⟩
        case measure => simp [intOf]; omega
      have g1' : (x.kind != 6) = true := by simp [g1]
      by_cases g2 : x.known ≤ known
      · cases vd with
        | true =>
          have Hf : Hid (countsD xs known x = false) := Lib.hid (by rw [Hcnt.out]; simp)
          clear g1
          gi_wp2
          refine ⟨fun _ h => (by cases h), ?_⟩
          gi_wp2
          go_roundw
          case rel => exact ⟨k + 1, by omega, by go_num, hBn, hgo Hf.out _ hb4⟩
          case measure => simp [intOf]; omega
        | false =>
          have Hf : Hid (countsD xs known x = true) := Lib.hid (by rw [Hcnt.out]; simp [g1, g2])
          clear g1
          obtain ⟨fn, tmps, assign, body, hy, hR⟩ := hY _ x w4 (List.mem_of_getElem? hX.out) hJ4 hlp
          have htk : (xs.take (k + 1)).filter (countsD xs known) = ((xs.take k).filter (countsD xs known)) ++ [x] := by rw [Htake.out, Hf.out]; rfl
          have Htk := Lib.hid htk; clear htk
          gi_wp2
          refine hR.mono ?_
          rintro e w5 (⟨rfl, hJ5, hk5⟩ | ⟨rfl, hJx5⟩)
          · gi_wp2
            go_roundw
            case rel => exact ⟨k + 1, by omega, by go_num, hBn.trans hk5, by rw [Htk.out]; exact hJ5⟩
            case measure => simp [intOf]; omega
          · gi_wp2
            refine bodyPost_ret (results_none rfl _ _ _) rfl ?_
            refine ⟨⟨_, rfl⟩, .inr ⟨_, ?_, hJx5⟩⟩
            rw [← Htk.out]
            unfold cntD
            exact ⟨(xs.drop (k + 1)).filter (countsD xs known), by rw [← List.filter_append, List.take_append_drop]⟩
      · have Hf : Hid (countsD xs known x = false) := Lib.hid (by rw [Hcnt.out]; simp [g2])
        clear g1
        gi_wp2
        refine ⟨fun _ h => (by cases h), ?_⟩
        gi_wp2
        go_roundw
        case rel => exact ⟨k + 1, by omega, by go_num, hBn, hgo Hf.out _ hb4⟩
        case measure => simp [intOf]; omega
    · obtain rfl : k = m := by omega
      have HJ := Lib.hid hJk; clear hJk
      gi_wp2
      go_end0
      refine ⟨⟨_, rfl⟩, .inl ⟨_, rfl, ?_⟩⟩
      have := HJ.out
      rw [List.take_of_length_le (by rw [hlen.out]; exact Nat.le_refl _)] at this
      exact this

theorem countingD_any (a : Option Addr) (m cap : Nat) (known : Int) (w : World) :
    Calls Tryz.prog 107 #[.slice a m cap, .int .i64 known] w fun e w' => e = .returned (.func (.func 158) #[] #[.pointer (some ⟨w.heap.size, 0, none⟩), .pointer (some ⟨w.heap.size + 1, 0, none⟩)]) ∧
      (w.alloc (.cells #[.slice a m cap] 42)).alloc (.cells #[.int .i64 known] 3) = w' := by
  have hmf : ∀ (fn : Fn) (first cap : Array Value) (w : World), (Instr.makeFunc fn first cap).run Tryz.prog w = .ok (.func fn first cap) w := fun _ _ _ _ => rfl
  go_enter Tryz.func107, Tryz.ntmps107
  go_wp2
  go_ret
  exact ⟨rfl, rfl⟩

/-- The iterator that counting hands back, in the world behind the call; each deed that it hands on is one of the list. -/
theorem countingD_mem (n : Nat) (hn : 1 ≤ n) (a : Option Addr) (m cap : Nat) (xs : List Deed) (known : Int) (w w2 : World) (hw : w2 = (w.alloc (.cells #[.slice a m cap] 42)).alloc (.cells #[.int .i64 known] 3)) (hL : Lst w 11 cD a m cap xs)
    (l : Nat) (J Jx : List Deed → World → Prop) (W : World) (hW : Below w2.heap.size w2 W) (hJ : AbidesFrom W.heap.size J)
    (hY : ∀ pre x W1, x ∈ xs → J pre W1 → pre.length < xs.length → YieldAt Fence.wide (n - 1) Tryz.prog l #[aD x] W1 fun e W' =>
      (e = .returned (.bool true) ∧ J (pre ++ [x]) W' ∧ KpOn (fun k => k = w.heap.size ∨ k = w.heap.size + 1 ∨ (xs ≠ [] ∧ ∃ off, a = some ⟨k, off, none⟩)) W1 W') ∨ (e = .returned (.bool false) ∧ Jx (pre ++ [x]) W'))
    (h0 : J [] W) :
    CallsIn Fence.wide n Tryz.prog 158 (#[.func (.yield l) #[] #[]] ++ #[.pointer (some ⟨w.heap.size, 0, none⟩), .pointer (some ⟨w.heap.size + 1, 0, none⟩)]) W fun e W' => (∃ v, e = .returned v) ∧ ((∃ ys, ys = cntD xs known ∧ J ys W') ∨ (∃ pre, pre <+: cntD xs known ∧ Jx pre W')) := by
  have hsz : w2.heap.size = w.heap.size + 2 := by rw [hw]; simp
  have hB : RowKit.Below w.heap.size w w2 := hw ▸ ((Below.refl _ w).alloc (Nat.le_refl _) _).alloc (by simp) _
  have hBW : RowKit.Below w.heap.size w W := hB.trans (hW.mono hB.size)
  have hxs : xs ≠ [] → ∀ b off, a = some ⟨b, off, none⟩ → b < w.heap.size := by
    intro hne
    obtain ⟨x, xs', rfl⟩ := List.exists_cons_of_ne_nil hne
    obtain ⟨b, off, ha, hlt, _⟩ := hL.at_ 0 x rfl
    exact fun b' off' h => by rw [ha] at h; cases h; exact hlt
  have hc1 : W.cell? ⟨w.heap.size, 0, none⟩ = some (.slice a m cap) := by
    rw [hW.cell (p := ⟨w.heap.size, 0, none⟩) (show w.heap.size < _ by omega), hw]
    exact cell_allocs (by exact cell_of_row _ _ _ _ _ _ (heap_alloc_new w _)) _
  have hc2 : W.cell? ⟨w.heap.size + 1, 0, none⟩ = some (.int .i64 known) := by
    rw [hW.cell (p := ⟨w.heap.size + 1, 0, none⟩) (show w.heap.size + 1 < _ by omega), hw]
    exact cell_of_row _ _ _ _ _ _ (heap_alloc2_new w _ _)
  refine countingD1 n hn l w.heap.size (w.heap.size + 1) _ a m cap xs known J Jx W hJ hc1 hc2 (.inl rfl) (.inr (.inl rfl)) ?_ (hL.below hBW) (fun b off hne h => .inr (.inr ⟨hne, off, h⟩)) hY h0
  rintro k (rfl | rfl | ⟨hne, off, h⟩)
  · have := hW.size; omega
  · have := hW.size; omega
  · have := hxs hne k off h; have := hBW.size; omega

theorem countingD_stops (n : Nat) (hn : 1 ≤ n) (a : Option Addr) (m cap : Nat) (xs : List Deed) (known : Int) (w w2 : World) (hw : w2 = (w.alloc (.cells #[.slice a m cap] 42)).alloc (.cells #[.int .i64 known] 3)) (hL : Lst w 11 cD a m cap xs) :
    SeqStopsK Fence.wide n Tryz.prog 158 #[.pointer (some ⟨w.heap.size, 0, none⟩), .pointer (some ⟨w.heap.size + 1, 0, none⟩)] (fun x : Deed => #[aD x])
      (KpOn fun k => k = w.heap.size ∨ k = w.heap.size + 1 ∨ (xs ≠ [] ∧ ∃ off, a = some ⟨k, off, none⟩)) (fun ys => ys = cntD xs known) (fun pre => pre <+: cntD xs known) xs.length w2 := by
  intro l J Jx W hW hJ hJx hY h0
  exact countingD_mem n hn a m cap xs known w w2 hw hL l J Jx W hW hJ (fun pre x W1 _ => hY pre x W1) h0

/-- The same, of deeds that are known to be well-formed. -/
abbrev FDeed := { x : Deed // formedD x = true }

theorem countingF_stops (n : Nat) (hn : 1 ≤ n) (a : Option Addr) (m cap : Nat) (xs : List Deed) (known : Int) (w w2 : World) (hw : w2 = (w.alloc (.cells #[.slice a m cap] 42)).alloc (.cells #[.int .i64 known] 3)) (hL : Lst w 11 cD a m cap xs) (hf : ∀ x ∈ xs, formedD x = true) :
    SeqStopsK Fence.wide n Tryz.prog 158 #[.pointer (some ⟨w.heap.size, 0, none⟩), .pointer (some ⟨w.heap.size + 1, 0, none⟩)] (fun x : FDeed => #[aD x.1])
      (KpOn fun k => k = w.heap.size ∨ k = w.heap.size + 1 ∨ (xs ≠ [] ∧ ∃ off, a = some ⟨k, off, none⟩)) (fun ys => ys.map Subtype.val = cntD xs known) (fun pre => pre.map Subtype.val <+: cntD xs known) xs.length w2 := by
  intro l J Jx W hW hJ hJx hY h0
  refine (countingD_mem n hn a m cap xs known w w2 hw hL l (fun ys W => ∃ zs : List FDeed, zs.map Subtype.val = ys ∧ J zs W) (fun ys W => ∃ zs : List FDeed, zs.map Subtype.val = ys ∧ Jx zs W) W hW
    (fun s W W' row hs hg hr => hs.imp fun zs q => ⟨q.1, hJ zs W W' row q.2 hg hr⟩) ?_ ⟨[], rfl, h0⟩).mono ?_
  · rintro pre x W1 hx ⟨zs, rfl, hz⟩ hlt
    obtain ⟨fn, tmps, assign, body, hy, hR⟩ := hY zs ⟨x, hf x hx⟩ W1 hz (by simpa using hlt)
    refine ⟨fn, tmps, assign, body, hy, hR.mono ?_⟩
    rintro e W' (⟨h1, h2, h3⟩ | ⟨h1, h2⟩)
    · exact .inl ⟨h1, ⟨_, by simp, h2⟩, h3⟩
    · exact .inr ⟨h1, ⟨_, by simp, h2⟩⟩
  · rintro e W' ⟨hv, ⟨ys, hy, zs, hz, hJz⟩ | ⟨pre, hp, zs, hz, hJz⟩⟩
    · exact ⟨hv, .inl ⟨zs, hz.trans hy, hJz⟩⟩
    · exact ⟨hv, .inr ⟨zs, by show zs.map Subtype.val <+: _; rw [hz]; exact hp, hJz⟩⟩

end Go.Proofs.YtmeomhojbobpbaaGreatDoor

/-
  Sets of numbers, in a map of the call's own.
-/
namespace Go.Proofs.YtmeomhojbobpbaaGreatDoor
open Go.RowKit Lg Go.Sort Go.Shelf Go.Maps

/-- D says of each number whether it is there. -/
def SetF (D : DataW Unit) (f : Int → Bool) : Prop := IsMap D ∧ ∀ k : Int, D.atKey (.int .i64 k) (.lit (.bool false)) = .lit (.bool (f k))

theorem SetF.empty : SetF (.map []) (fun _ => false) := ⟨⟨[], rfl⟩, fun _ => rfl⟩
theorem SetF.congr {D : DataW Unit} {f g : Int → Bool} (h : SetF D f) (e : ∀ p, f p = g p) : SetF D g := by
  rw [show g = f from funext fun p => (e p).symm]; exact h
theorem SetF.put {D : DataW Unit} {f : Int → Bool} (h : SetF D f) (p : Int) : SetF (D.put (.int .i64 p) (.lit (.bool true))) (fun q => decide (q = p) || f q) := by
  refine ⟨h.1.put _ _, fun k => ?_⟩
  by_cases hk : k = p
  · subst hk
    rw [atKey_put_same h.1 (isKeyI _)]; simp
  · have hne : (Lit.int .i64 k) ≠ .int .i64 p := by simpa using hk
    rw [atKey_put_other hne, h.2 k]; simp [hk]

theorem zeroB (w : World) : (zeroValue 4).run Tryz.prog w = .ok (.bool false) w := by kernel_rfl

/-- The call's own set. -/
def OwnSt (b n : Nat) (f : Int → Bool) (w : World) : Prop := ∃ D : DataW Unit, w.ownsMap Tryz.prog 3 (plainElem Tryz.prog 4) b n D ∧ SetF D f

theorem OwnSt.made (w : World) : OwnSt w.heap.size 0 (fun _ => false) (w.alloc (.map #[] 0)) := ⟨_, World.ownsMap_made _ _ _ _, SetF.empty⟩
theorem OwnSt.lt {b n : Nat} {f : Int → Bool} {w : World} (h : OwnSt b n f w) : b < w.heap.size := by obtain ⟨D, h, _⟩ := h; exact h.lt
theorem OwnSt.kept {b n : Nat} {f : Int → Bool} {w w' : World} {row : Option Nat} (h : OwnSt b n f w) (hg : w.grownBy w' row) (hne : some b ≠ row) : OwnSt b n f w' := by
  obtain ⟨D, h1, h2⟩ := h
  exact ⟨D, h1.kept hg hne, h2⟩
theorem OwnSt.alloc {b n : Nat} {f : Int → Bool} {w : World} (h : OwnSt b n f w) (o : Obj) : OwnSt b n f (w.alloc o) := h.kept (World.grownBy_alloc w o none) (by simp)
theorem OwnSt.below {b n : Nat} {f : Int → Bool} {w w' : World} (h : OwnSt b n f w) (hb : RowKit.Below w.heap.size w w') : OwnSt b n f w' := h.kept (row := none) ⟨hb.os, hb.tape, hb.output, hb.size, fun k hk _ => hb.block k hk⟩ (by simp)

set_option maxRecDepth 100000 in
theorem plainElem_bool_inv {v : Value} {z : DataW Unit × List MemPlace} (h : plainElem Tryz.prog 4 v = some z) : ∃ x, v = .bool x ∧ z = (.lit (.bool x), []) := by
  unfold plainElem at h
  rw [Tryz.underlying4] at h
  cases v <;> simp at h
  exact ⟨_, rfl, h.symm⟩

set_option maxRecDepth 100000 in
/-- What a look-up gives. -/
theorem OwnSt.look {b n : Nat} {f : Int → Bool} {w : World} (h : OwnSt b n f w) (p : Int) (hw : (Lit.int .i64 p).wf = true) : (Instr.lookup 192 (.map (some b)) (.int .i64 p) false).run Tryz.prog w = .ok (.bool (f p)) w := by
  obtain ⟨D, h1, h2⟩ := h
  obtain ⟨v, ps, hrun, hv⟩ := h1.lookup lawI Tryz.underlying192 (zeroB w) (plainElem_bool Tryz.underlying4 false) (keyOf_int_mk Tryz.underlying3 hw)
  obtain ⟨x, rfl, hz⟩ := plainElem_bool_inv hv
  simp only [Prod.mk.injEq] at hz
  rw [h2.2 p] at hz
  obtain ⟨hz, _⟩ := hz
  have : f p = x := by injection hz with hz; injection hz
  rw [hrun, this]

end Go.Proofs.YtmeomhojbobpbaaGreatDoor
