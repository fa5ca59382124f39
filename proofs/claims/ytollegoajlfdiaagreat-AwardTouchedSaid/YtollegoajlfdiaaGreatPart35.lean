import Derived.Test.YtollegoajlfdiaaGreatPart34
import Derived.Test.YtollegoajlfdiaaGreatPart27
import Derived.Deep.AppendLies
import Derived.Deep.RegionHeld3
import Derived.Test.YtollegoajlfdiaaGreatPart10
import Derived.Test.YtollegoajlfdiaaGreatPart04
import Derived.Test.YtollegoajlfdiaaGreatPart17
import Derived.Test.YtollegoajlfdiaaGreatPart18
/-
  Walks: the reference's Turns.
-/
namespace Go.Proofs.YtollegoajlfdiaaGreat
open Go.RowKit Lg Go.Sort Go.Shelf

def turnsI (xs : List Rate) (goods : ByteArray) (known : Int) : List Int :=
  if (checkRates xs).2 = 0 then (hoursI xs).filter (fun h => decide (fidI xs goods h known ≠ fidI xs goods (h - 1) known)) else []

theorem take_filter_snoc (p : Int → Bool) (S : List Int) (k : Nat) (t : Int) (h : S[k]? = some t) : (S.take (k + 1)).filter p = (S.take k).filter p ++ (if p t = true then [t] else []) := by
  obtain ⟨h1, h2⟩ := List.getElem?_eq_some_iff.1 h
  rw [List.take_succ_eq_append_getElem h1, h2, List.filter_append]
  congr 1
  by_cases hp : p t = true
  · rw [if_pos hp]; simp [hp]
  · rw [if_neg hp]; simp [hp]

set_option maxRecDepth 100000 in
set_option maxHeartbeats 3200000 in
theorem turnsR_any (a : Option Addr) (n cap : Nat) (xs : List Rate) (goods : ByteArray) (known : Int) (w : World) (hn : n ≤ 300) (hL : Lst w 9 cR a n cap xs) (hb : (checkRates xs).2 = 0 → ∀ t ∈ hoursI xs, 0 ≤ t ∧ t ≤ 1000000) :
    Calls Tryz.prog 23 #[.slice a n cap, .string goods, .int .i64 known] w (GivesI w (turnsI xs goods known)) := by
  have hcr := checkRatesR_any a n cap xs _ hn hL
  by_cases h0 : (checkRates xs).2 = 0
  · have hb := hb h0
    rw [h0] at hcr
    have Hq : Hid (turnsI xs goods known = (hoursI xs).filter (fun h => decide (fidI xs goods h known ≠ fidI xs goods (h - 1) known))) := Lib.hid (by unfold turnsI; rw [if_pos h0])
    have hH := (hoursI_len xs).2
    rw [hL.len] at hH
    obtain ⟨i0, hi0, hz0, hz1, hz2⟩ := info_parts infoI
    have hh := fun W (hB : RowKit.Below w.heap.size w W) => hoursR_any a n cap xs W hn (hL.below hB)
    have HF := Lib.hid (fun t W (hB : RowKit.Below w.heap.size w W) => forceIdR_any a n cap xs goods t known W hn (hL.below hB))
    generalize (checkRates xs).1 = c1 at *
    generalize turnsI xs goods known = q at *
    generalize hoursI xs = S at *
    generalize fidI xs goods = fi at *
    clear h0 hL
    go_enter Tryz.func23, Tryz.ntmps23
    go_wp2_with (fail)
    refine hcr.mono ?_
    clear hcr
    rintro e w1 ⟨rfl, hB1⟩
    go_wp2_with (fail)
    refine (hh w1 hB1).mono ?_
    clear hh
    rintro e w2 ⟨v, rfl, ho, hB2⟩
    have hB2 := hB1.trans (hB2.mono hB1.size)
    obtain ⟨av, cv, rfl, _, hl⟩ := Lst.of_owns (k := 1) (enc := cI) (fun _ => rfl) (by omega) ho rfl
    obtain ⟨H, hHn⟩ : ∃ H, H = S.length := ⟨_, rfl⟩
    rw [← hHn] at hl hH ⊢
    have HHn := Lib.hid hHn
    have hmv : cv ≤ 9223372036854775807 := by have := hl.max; unfold maxLen at this; omega
    have hlv := hl.le
    have Hl := Lib.hid hl
    clear ho hHn hl
    go_wp2_with (fail)
    go_loopw [9, 11] (fun o i wr => ∃ k : Nat, k ≤ H ∧ i = .int .i64 k ∧ wr.ownsRow w2.heap.size 3 1 o ((S.take k).filter (fun h => decide (fi h known ≠ fi (h - 1) known))).length (((S.take k).filter (fun h => decide (fi h known ≠ fi (h - 1) known))).flatMap cI) ∧ RowKit.Below w2.heap.size w2 wr) (fun _ i _ => H - (intOf i).toNat)
    case atStart => exact ⟨0, Nat.zero_le _, rfl, ⟨by simp, .inl ⟨rfl, rfl⟩⟩, Below.refl _ _⟩
    case round =>
      obtain ⟨k, hk, rfl, hor, hB⟩ := hrel
      have hBw := hB2.trans (hB.mono hB2.size)
      by_cases hlt : k < H
      · have hltz : (k : Int) < (H : Int) := by omega
        obtain ⟨t, ht⟩ : ∃ t, S[k]? = some t := ⟨S[k]'(by rw [← HHn.out]; exact hlt), by simp⟩
        obtain ⟨hb1, hb2⟩ := hb t (List.mem_of_getElem? ht)
        have hsn := take_filter_snoc (fun h => decide (fi h known ≠ fi (h - 1) known)) S k t ht
        have hll : ((S.take k).filter (fun h => decide (fi h known ≠ fi (h - 1) known))).length ≤ k := Nat.le_trans (List.length_filter_le _ _) (List.length_take_le _ _)
        have Hsn := Lib.hid hsn
        obtain ⟨bb, off, rfl, hbb, hrg⟩ := (Hl.out.below hB).at_ k t ht
        have c0' := hrg 0 _ rfl
        have c0 := cell_regrown (hrg 0 _ rfl)
        simp only [Nat.mul_one, Nat.add_zero] at c0 c0'
        have cF1 := regrown_call (w := wr) (v := .int .i64 (fi t known)) (fun W' h => HF.out t W' (hBw.trans (h.mono hBw.size)))
        have cF2 := regrown_call (w := wr) (v := .int .i64 (fi (t - 1) known)) (fun W' h => HF.out (t - 1) W' (hBw.trans (h.mono hBw.size)))
        have hwr : IntKind.i64.wrap (t - 1) = t - 1 := by rw [IntKind.wrap_i64]; omega
        have hdr : ∀ d os, RowKit.Below wr.heap.size wr (grow (redrawn wr d) os) := fun d os => below_regrown wr d os
        have Hdr := Lib.hid hdr
        generalize (S.take k).filter (fun h => decide (fi h known ≠ fi (h - 1) known)) = ts at *
        clear hrg ht hsn hdr
        by_cases hne : fi t known = fi (t - 1) known
        · have g1 : (fi t known != fi (t - 1) known) = false := by simpa using hne
          have Hne := Lib.hid hne
          clear hne
          generalize fi t known = f1 at *
          generalize fi (t - 1) known = f2 at *
          go_wp2_with (fail)
          refine wp_region_quiet_below (by kernel_rfl) (by kernel_rfl) ?_
          repeat (go_big_quiet_step (with_reducible first | exact cF1 _ _ | exact cF2 _ _))
          refine wpQuiet_nil ?_
          intro _ hw'
          obtain ⟨⟨dq, osq⟩, hw''⟩ := hw'
          subst hw''
          go_wp2_with (fail)
          go_roundw
          case rel => exact ⟨k + 1, by omega, by go_num, by rw [Hsn.out, if_neg (by simpa using Hne.out), List.append_nil]; exact own_below hor (Hdr.out _ _), hB.trans ((Hdr.out _ _).mono hB.size)⟩
          case measure => simp [intOf]; omega
        · have g1 : (fi t known != fi (t - 1) known) = true := by simpa using hne
          have Hne := Lib.hid hne
          clear hne
          generalize fi t known = f1 at *
          generalize fi (t - 1) known = f2 at *
          go_wp2_with (fail)
          refine wp_region_quiet_below (by kernel_rfl) (by kernel_rfl) ?_
          repeat (go_big_quiet_step (with_reducible first | exact cF1 _ _ | exact cF2 _ _))
          refine wpQuiet_nil ?_
          intro _ hw'
          obtain ⟨⟨dq, osq⟩, hw''⟩ := hw'
          subst hw''
          have c3 := c0 dq osq
          have hBg := hB.trans ((Hdr.out dq osq).mono hB.size)
          have hog := own_below hor (Hdr.out dq osq)
          generalize grow (redrawn wr dq) osq = Wg at *
          go_wp2_with (first
            | (at_builtin; refine wpList_append_list rfl _ _ _ rfl w2.heap.size 3 i0 _ 1 8 Tryz.underlying35 hi0 hz0 hz1 hz2 rfl (by omega) _ _ _ rfl (hog.alloc _) cI (fun _ => rfl) cI_one _ 1 _ [t] rfl (Lst.oneI (Blk.new _ _ _)) (by unfold maxLen; omega) (by omega) (by have := hBg.size; simp; omega) ?_; intro v2 w4 hown4 hgrow4; have hB4 := below_of_grown (hBg.alloc hBg.size _) (Nat.le_refl _) hgrow4 (own_ge' hog))
            | fail)
          go_roundw
          case rel =>
            refine ⟨k + 1, by omega, by go_num, ?_, hB4⟩
            rw [Hsn.out, if_pos (by simpa using Hne.out), List.length_append, List.flatMap_append]
            exact hown4
          case measure => simp [intOf]; omega
      · obtain rfl : k = H := by omega
        have ht : S.take k = S := List.take_of_length_le (by rw [HHn.out]; exact Nat.le_refl _)
        rw [ht, ← Hq.out] at hor
        go_wp2_with (fail)
        go_ret
        exact ⟨_, rfl, by rw [← flat_int]; exact hor.mono hB2.size, hBw⟩
  · have hq : turnsI xs goods known = [] := by unfold turnsI; rw [if_neg h0]
    rw [hq]
    clear hL
    generalize (checkRates xs).1 = c1 at *
    generalize (checkRates xs).2 = c2 at *
    have g0 : (c2 != 0) = true := by simpa using h0
    clear h0
    go_enter Tryz.func23, Tryz.ntmps23
    go_wp2_with (fail)
    refine hcr.mono ?_
    clear hcr
    rintro e w1 ⟨rfl, hB1⟩
    go_wp2_with (fail)
    go_ret
    exact ⟨_, rfl, ⟨by simp, .inl ⟨rfl, rfl⟩⟩, hB1⟩

end Go.Proofs.YtollegoajlfdiaaGreat

/-
  Walk: a copy of a list of rates, wherever it lies.
-/
namespace Go.Proofs.YtollegoajlfdiaaGreat
open Go.RowKit Lg Go.Sort Go.Shelf

set_option maxRecDepth 100000 in
theorem cloneR0_any (a : Option Addr) (n cap : Nat) (xs : List Rate) (w : World) (hn : n ≤ 1000) (hL : Lst w 9 cR a n cap xs) :
    Calls Tryz.prog 73 #[.slice a n cap] w fun e w' => ∃ v', e = .returned v' ∧ w'.ownsRow w.heap.size 26 9 v' n (xs.flatMap cR) ∧ RowKit.Below w.heap.size w w' := by
  obtain ⟨i0, hi0, hz0, hz1, hz2⟩ := info_parts infoR
  cases a with
  | none => exact cloneR_any none n cap xs w (fun ad h => (by cases h)) hn hL
  | some ad =>
    have ho : (w.alloc (.cells #[] 26)).ownsRow w.heap.size 26 9 (.slice (some ⟨w.heap.size, 0, none⟩) 0 0) 0 [] := World.ownsRow_made w #[] 0 (Nat.le_refl _) (Nat.zero_le _) rfl
    have hB : RowKit.Below w.heap.size w (w.alloc (.cells #[] 26)) := (Below.refl _ w).alloc (Nat.le_refl _) _
    have hL2 := hL.below hB
    have hnil : ∀ w : World, (binOp .eql 22 (.slice (some ad) n cap) (.slice none 0 0)).run Tryz.prog w = .ok (.bool false) w := fun w => Lib.run_eql_slice_nil w 22 26 (some ad) n cap 0 0 Tryz.underlying22
    go_enter Tryz.func73, Tryz.ntmps73
    go_wp2_with (first
      | (at_builtin; refine wpList_append_list rfl _ _ _ rfl w.heap.size 26 i0 _ 9 80 Tryz.underlying22 hi0 hz0 hz1 hz2 rfl (by omega) _ 0 [] rfl ho cR (fun _ => rfl) cR_one (some ad) n cap xs rfl hL2 (by unfold maxLen; omega) (by omega) (by simp) ?_; intro v1 w1 hown1 hgrow1)
      | fail)
    go_ret
    rw [List.nil_append, Nat.zero_add] at hown1
    exact ⟨_, rfl, hown1, below_of_grown hB (Nat.le_refl _) hgrow1 (fun r h => by cases h; exact Nat.le_refl _)⟩

set_option maxRecDepth 100000 in
set_option maxHeartbeats 1600000 in
theorem appendRate0_any (a : Option Addr) (n cap : Nat) (xs : List Rate) (x : Rate) (w : World) (hL : Lst w 9 cR a n cap xs) :
    Calls Tryz.prog 31 #[.slice a n cap, aR x] w (GivesL w 26 9 cR (appendRate xs x).1 (appendRate xs x).2) := by
  obtain ⟨r, hr⟩ : ∃ r, r = appendRate xs x := ⟨_, rfl⟩
  rw [← hr]
  obtain ⟨c, hc⟩ : ∃ c, c = checkRates xs := ⟨_, rfl⟩
  obtain ⟨f, hf⟩ : ∃ f, f = followsR xs x := ⟨_, rfl⟩
  have hcr := fun W hW => checkRates_any a n cap xs W hW
  have hfr := fun W hW => followsR_any a n cap xs x W hW
  have hlim : f = 0 → n ≤ 1000 := by
    intro h0; rw [hf, followsR_eq] at h0
    by_cases h : 100 ≤ xs.length
    · rw [if_pos h] at h0; cases h0
    · rw [hL.len] at h; omega
  rw [← hc] at hcr
  rw [← hf] at hfr
  have Hr : Hid (r = if c.2 = 0 then (if f = 0 then (xs ++ [x], 0) else ([], f)) else ([], c.2)) := Lib.hid (by rw [hr, hc, hf]; rfl)
  clear hr hc hf
  obtain ⟨c1, c2⟩ := c
  have hB1 : RowKit.Below w.heap.size w (w.alloc (.cells #[.int .i64 x.id, .int .i64 x.known, .int .i64 x.from_, .string x.goods, .int .i64 x.finder.num, .int .i64 x.finder.den, .int .i64 x.cart, .int .i64 x.store, .int .i64 x.of_] 26)) := (Below.refl _ w).alloc (Nat.le_refl _) _
  have hcr1 := hcr _ (hL.below hB1)
  clear hcr
  go_enter Tryz.func31, Tryz.ntmps31
  go_wp2_with (fail)
  refine hcr1.mono ?_
  clear hcr1
  rintro e w2 ⟨rfl, hB2⟩
  have k2 : Blk w2 w.heap.size #[.int .i64 x.id, .int .i64 x.known, .int .i64 x.from_, .string x.goods, .int .i64 x.finder.num, .int .i64 x.finder.den, .int .i64 x.cart, .int .i64 x.store, .int .i64 x.of_] 26 := (Blk.new w _ _).below' hB2
  have hb2 : RowKit.Below w.heap.size w w2 := hB1.trans (hB2.mono hB1.size)
  have e2 := k2.cell
  by_cases hv0 : c2 = 0
  · subst hv0
    go_wp2_with (fail)
    refine (hfr w2 (hL.below hb2)).mono ?_
    clear hfr
    rintro e w3 ⟨rfl, hB3⟩
    have k3 := k2.below' hB3
    have hb3 := hb2.trans (hB3.mono hb2.size)
    clear e2
    have e3 := k3.cell
    by_cases hf0 : f = 0
    · have hn := hlim hf0
      subst hf0
      go_wp2_with (fail)
      have hL3 := hL.below hb3
      obtain ⟨i0, hi0, hz0, hz1, hz2⟩ := info_parts infoR
      have hS3 : ApS w x w3 := ⟨k3, hb3⟩
      have hlt3 := k3.lt
      clear e3
      go_region_held3 (fun w' => (∀ j, w'.cell? ⟨w.heap.size, j, none⟩ = #[.int .i64 x.id, .int .i64 x.known, .int .i64 x.from_, .string x.goods, .int .i64 x.finder.num, .int .i64 x.finder.den, .int .i64 x.cart, .int .i64 x.store, .int .i64 x.of_][j]?) ∧ ApS w x w')
        (first
          | exact ApS.all hS3 (Below.refl _ _).drew
          | exact ApS.all hS3 ((Below.refl _ w3).drew.trans hBc)
          | exact ApS.all hS3 (((Below.refl _ w3).alloc (Nat.le_refl _) _).drew)
          | exact ApS.all hS3 ((((Below.refl _ w3).alloc (Nat.le_refl _) _).drew).trans (hBc.mono (by simp)))
          | exact ApS.all hS3 (((Below.refl _ w3).drew.trans hBc).alloc hBc.size _)
          | exact ApS.grown ((ApS.all hS3 (((Below.refl _ w3).drew.trans hBc).alloc hBc.size _)).2) hgrow (fun r e => Nat.lt_of_lt_of_le hlt3 (own_ge ho r e))
          | exact ApS.grown ((ApS.all hS3 ((((Below.refl _ w3).alloc (Nat.le_refl _) _).drew).trans (hBc.mono (by simp)))).2) hgrow (fun r e => Nat.lt_of_lt_of_le (ap_lt hlt3 _) (own_ge ho r e))
          | fail)
        (first
          | (go_at_call 73; refine (cloneR0_any a n cap xs _ hn (by first | exact hL3.below (Below.refl _ _).drew | exact hL3.below ((Below.refl _ w3).alloc (Nat.le_refl _) _).drew)).mono ?_; rintro e w4 ⟨v4, rfl, ho, hBc⟩)
          | (refine step_append_lies _ (by rfl) _ _ _ (by rfl) w3.heap.size 26 i0 _ 9 80 Tryz.underlying22 hi0 hz0 hz1 hz2 rfl (by omega) v4 n (xs.flatMap cR) (by rfl) (ho.alloc _)
              ⟨w4.heap.size, 0, none⟩ 1 1 (cR x) (by rfl) (by rfl) (World.news_of_block (cs := (cR x).toArray) (t := 26) (fr := (0, 0)) (heap_alloc_new w4 _)) (cR_one x)
              (by omega) (by unfold maxLen; omega) (by omega) (ap_base1 hBc _) (w4.heap.size + 1) (by simp) ?_; intro gg cap1 w5 hown5 hgrow hat hlt)
          | (refine step_append_lies _ (by rfl) _ _ _ (by rfl) w3.heap.size 26 i0 _ 9 80 Tryz.underlying22 hi0 hz0 hz1 hz2 rfl (by omega) v4 n (xs.flatMap cR) (by rfl) (ownsRow_base_a ho (by simp))
              ⟨w3.heap.size, 0, none⟩ 1 1 (cR x) (by rfl) (by rfl) (World.news_of_block ((Blk.drew (Blk.new w3 26 (cR x).toArray)).below' hBc)) (cR_one x)
              (by omega) (by unfold maxLen; omega) (by omega) (ap_base2 hBc) _ rfl ?_; intro gg cap1 w5 hown5 hgrow hat hlt)
          | fail)
      · have hf := (ApS.grown ((ApS.all hS3 (((Below.refl _ w3).drew.trans hBc).alloc hBc.size _)).2) hgrow (fun r e => Nat.lt_of_lt_of_le hlt3 (own_ge ho r e))).2.2
        go_wp2_with (fail)
        go_ret2
        have e := Hr.out
        simp only [if_true] at e
        rw [e]
        refine ⟨_, rfl, ?_, hf⟩
        rw [List.length_append, hL.len, List.flatMap_append, List.flatMap_singleton]
        exact ownsRow_base_a hown5 (Nat.le_of_lt hlt3)
      · have hf := (ApS.grown ((ApS.all hS3 ((((Below.refl _ w3).alloc (Nat.le_refl _) _).drew).trans (hBc.mono (by simp)))).2) hgrow (fun r e => Nat.lt_of_lt_of_le (ap_lt hlt3 _) (own_ge ho r e))).2.2
        go_wp2_with (fail)
        go_ret2
        have e := Hr.out
        simp only [if_true] at e
        rw [e]
        refine ⟨_, rfl, ?_, hf⟩
        rw [List.length_append, hL.len, List.flatMap_append, List.flatMap_singleton]
        exact ownsRow_base_a hown5 (Nat.le_of_lt hlt3)
    · have g0 : (f != 0) = true := by simpa using hf0
      have Hf0 := Lib.hid hf0; clear hf0
      go_wp2_with (fail)
      go_ret2
      have e := Hr.out
      simp only [if_true, if_neg Hf0.out] at e
      rw [e]
      exact GivesL.nil hb3
  · have g0 : (c2 != 0) = true := by simpa using hv0
    have Hv0 := Lib.hid hv0; clear hv0
    go_wp2_with (fail)
    go_ret2
    have e := Hr.out
    rw [if_neg Hv0.out] at e
    rw [e]
    exact GivesL.nil hb2


end Go.Proofs.YtollegoajlfdiaaGreat

/-
  Walks: the reference's AppendRate.
-/
namespace Go.Proofs.YtollegoajlfdiaaGreat
open Go.RowKit Lg Go.Sort Go.Shelf

theorem step_append_list {α : Type} (w : World) {ops : Array Oper} {o : Oper} {a : Act} {K : Act → World → Prop} {Q : Exit → Act → World → Prop} {E : Prop} (hgd : o.guard = none) (s x : Operand) (t : TypeId)
    (ho : o.op = .call { callee := .builtin .append, args := #[s, x], argTypes := #[t, t] })
    (base : Nat) (e : TypeId) (i : TypeInfo) (z : Value) (size bytes : Nat) (ht : Tryz.prog.underlying t = some (.slice e)) (hi : Tryz.prog.info? e = some i) (hz : i.zero = some z)
    (hsize : i.size = size) (hby : i.bytes = bytes) (hzs : z.cells.size = size) (hsz : 0 < size) (v : Value) (n : Nat) (xs : List Value) (hs : a.eval s = v) (hown : w.ownsRow base e size v n xs)
    (enc : α → List Value) (hen : ∀ x, (enc x).length = size) (hone : ∀ x, ∀ u ∈ enc x, u.oneCell' = true) (b : Option Addr) (m c : Nat) (zs : List α) (hx : a.eval x = .slice b m c) (hM : Lst w size enc b m c zs)
    (h63 : n + m ≤ maxLen) (hbytes : (n + m) * bytes ≤ 140737488355328) (hbase : base ≤ w.heap.size)
    (h : ∀ v' w', w'.ownsRow base e size v' (n + m) (xs ++ zs.flatMap enc) → w.grownBy w' v.ownBlock → K (a.put o.dst v') w') :
    if Region.wanted o (yielded ops a.tmps) = true then Oper.wp Tryz.prog o a w K Q else E := by
  have hw : Region.wanted o (yielded ops a.tmps) = true := by simp [Region.wanted, hgd]
  rw [if_pos hw]
  obtain ⟨v', w', hr, h2, h3⟩ := run_append_list w t o.type base e i z size bytes ht hi hz hsize hby hzs hsz v n xs hown enc hen hone b m c zs hM h63 hbytes hbase
  unfold Oper.wp execOp
  simp only [ho, resolve, invoke, builtin, Sem.run_bind, Sem.run_pure, Result.andThen_ok, List.map_toArray, List.map_cons, List.map_nil, hs, hx, hr]
  exact h v' w' h2 h3

theorem Lst.oneR {W : World} {B : Nat} {x : Rate} (k : Blk W B (cR x).toArray 26) : Lst W 9 cR (some ⟨B, 0, none⟩) 1 1 [x] :=
  ⟨rfl, Nat.le_refl _, by unfold maxLen; omega, fun i y hx => by
    have hi : i = 0 := by have := (List.getElem?_eq_some_iff.1 hx).1; simp at this; exact this
    subst hi
    obtain rfl : x = y := by simpa using hx
    refine ⟨B, 0, rfl, k.lt, fun j u hu => ?_⟩
    rw [show 0 + 0 * 9 + j = j by omega, k.cell j]
    simpa using hu⟩

theorem blkB {w w' : World} {A X : Array Value} {t : TypeId} {row : Option Nat} (hg : ((w.alloc (.cells A t)).alloc (.cells X t)).drew.grownBy w' row) (hne : some (w.heap.size + 1) ≠ row) : Blk w' (w.heap.size + 1) X t := by
  have h := (Blk.new (w.alloc (.cells A t)) t X).drew
  rw [show (w.alloc (.cells A t)).heap.size = w.heap.size + 1 by simp] at h
  exact h.kept hg hne

theorem blkC {w w' : World} {A X : Array Value} {t : TypeId} {row : Option Nat} (hg : ((w.alloc (.cells X t)).alloc (.cells A t)).drew.grownBy w' row) (hne : some w.heap.size ≠ row) : Blk w' w.heap.size X t :=
  (((Blk.new w t X).alloc _).drew).kept hg hne

theorem madeC (w : World) (o : Obj) (t : TypeId) : ((w.alloc o).alloc (.cells #[] t)).drew.ownsRow w.heap.size t 9 (.slice (some ⟨w.heap.size + 1, 0, none⟩) 0 0) 0 [] := by
  have h := (World.ownsRow_made (base := w.heap.size) (e := t) (size := 9) (w.alloc o) #[] 0 (by simp) (Nat.zero_le _) rfl).drew
  rw [show (w.alloc o).heap.size = w.heap.size + 1 by simp] at h
  exact h

set_option maxRecDepth 100000 in
set_option maxHeartbeats 3200000 in
theorem appendRateR_any (a : Option Addr) (n cap : Nat) (xs : List Rate) (x : Rate) (w : World) (hn : n ≤ 299) (hL : Lst w 9 cR a n cap xs) :
    Calls Tryz.prog 59 #[.slice a n cap, aR x] w (GivesL w 26 9 cR (appendRate xs x).1 (appendRate xs x).2) := by
  have hlen := hL.len
  have hB0 : RowKit.Below w.heap.size w (w.alloc (.cells #[.int .i64 x.id, .int .i64 x.known, .int .i64 x.from_, .string x.goods, .int .i64 x.finder.num, .int .i64 x.finder.den, .int .i64 x.cart, .int .i64 x.store, .int .i64 x.of_] 26)) := (Below.refl _ w).alloc (Nat.le_refl _) _
  have hc1 := checkRatesR_any a n cap xs _ (by omega) (hL.below hB0)
  obtain ⟨i0, hi0, hz0, hz1, hz2⟩ := info_parts infoR
  by_cases h0 : (checkRates xs).2 = 0
  · rw [h0] at hc1
    generalize (checkRates xs).1 = c1 at hc1
    go_enter Tryz.func59, Tryz.ntmps59
    go_wp2_with (fail)
    refine hc1.mono ?_
    clear hc1
    rintro e w2 ⟨rfl, hB2⟩
    have k2 : Blk w2 w.heap.size #[.int .i64 x.id, .int .i64 x.known, .int .i64 x.from_, .string x.goods, .int .i64 x.finder.num, .int .i64 x.finder.den, .int .i64 x.cart, .int .i64 x.store, .int .i64 x.of_] 26 := (Blk.new w _ _).below' hB2
    have hB2 := hB0.trans (hB2.mono hB0.size)
    have HS := Lib.hid (fun W (h : RowKit.Below w2.heap.size w2 W) => (k2.below' h).cell)
    have HLw := Lib.hid (fun W (h : RowKit.Below w2.heap.size w2 W) => (hL.below hB2).below h)
    clear hL hB0
    go_wp2_with (fail)
    go_region_held3 (fun w' => ∀ j, w'.cell? ⟨w.heap.size, j, none⟩ = #[.int .i64 x.id, .int .i64 x.known, .int .i64 x.from_, .string x.goods, .int .i64 x.finder.num, .int .i64 x.finder.den, .int .i64 x.cart, .int .i64 x.store, .int .i64 x.of_][j]?)
      (((with_reducible refine HS.out _ ?_); repeat (first | (with_reducible assumption) | (with_reducible exact Below.refl _ _) | (with_reducible refine Below.alloc ?_ ?_ _) | (with_reducible refine Below.setCell ?_ ?_ _) | (with_reducible refine Below.drew ?_) | omega | (simp <;> omega) | (dsimp only; omega))))
      (first
        | (refine step_append_list _ (by rfl) _ _ _ (by rfl) w2.heap.size 26 i0 _ 9 80 Tryz.underlying22 hi0 hz0 hz1 hz2 rfl (by omega) v4 (0 + n) _ (by rfl) (by first | with_reducible exact (ho4.alloc _).drew | with_reducible exact ho4.alloc _ | with_reducible exact ho4.drew | with_reducible exact ho4) cR (fun _ => rfl) cR_one _ 1 1 [x] (by rfl) (by first | exact Lst.oneR (Blk.new w4 _ _).drew | exact Lst.oneR (blkB hg4 (fun h => absurd (Option.some.inj h : w2.heap.size + 1 = w2.heap.size) (by omega))) | exact Lst.oneR (blkC hg4 (fun h => absurd (Option.some.inj h : w2.heap.size = w2.heap.size + 1) (by omega)))) (by unfold maxLen; omega) (by omega) (by have := hB4.size; (try simp); omega) ?_; intro v5 w5 ho5 hg5; have hB5 : RowKit.Below w2.heap.size w2 w5 := below_of_grown (by repeat (first | (with_reducible assumption) | (with_reducible exact Below.refl _ _) | (with_reducible refine Below.alloc ?_ ?_ _) | (with_reducible refine Below.setCell ?_ ?_ _) | (with_reducible refine Below.drew ?_) | omega | (simp <;> omega) | (dsimp only; omega))) (Nat.le_refl _) hg5 (own_ge' ho4); have hs5 := hB5.size)
        | (refine step_append_list _ (by rfl) _ _ _ (by rfl) w2.heap.size 26 i0 _ 9 80 Tryz.underlying22 hi0 hz0 hz1 hz2 rfl (by omega) _ 0 [] (by rfl) (by first | exact (World.ownsRow_made w2 #[] 0 (Nat.le_refl _) (Nat.zero_le _) rfl).drew | exact ((World.ownsRow_made w2 #[] 0 (Nat.le_refl _) (Nat.zero_le _) rfl).alloc _).drew | exact madeC w2 _ _) cR (fun _ => rfl) cR_one _ n cap xs (by rfl) (HLw.out _ (by repeat (first | (with_reducible assumption) | (with_reducible exact Below.refl _ _) | (with_reducible refine Below.alloc ?_ ?_ _) | (with_reducible refine Below.setCell ?_ ?_ _) | (with_reducible refine Below.drew ?_) | omega | (simp <;> omega) | (dsimp only; omega)))) (by unfold maxLen; omega) (by omega) (by first | exact Nat.le_refl _ | (simp; done) | (simp; omega)) ?_; intro v4 w4 ho4 hg4; have hB4 : RowKit.Below w2.heap.size w2 w4 := below_of_grown (by repeat (first | (with_reducible assumption) | (with_reducible exact Below.refl _ _) | (with_reducible refine Below.alloc ?_ ?_ _) | (with_reducible refine Below.setCell ?_ ?_ _) | (with_reducible refine Below.drew ?_) | omega | (simp <;> omega) | (dsimp only; omega))) (Nat.le_refl _) hg4 (fun r h => by cases h; (first | exact Nat.le_refl _ | simp)); have hs4 := hB4.size)
        | fail)
    all_goals
      rw [List.nil_append, ← List.flatMap_append, Nat.zero_add] at ho5
      obtain ⟨a5, c5, rfl, _, hl5⟩ := Lst.of_owns (k := 9) (enc := cR) (fun _ => rfl) (by omega) ho5 (by rw [List.length_append, hlen]; rfl)
      have hB5 := hB2.trans (hB5.mono hB2.size)
      have ho5 := ho5.mono hB2.size
      have hc2 := checkRatesR_any a5 (n + 1) c5 (xs ++ [x]) w5 (by omega) hl5
      have hsn := chkFrom_snoc followsR [] xs x h0
      rw [List.nil_append] at hsn
      have hck : checkRates (xs ++ [x]) = if followsR xs x = 0 then ((0 : Int), (0 : Int)) else ((xs.length : Int), followsR xs x) := hsn
      have hap : appendRate xs x = if followsR xs x = 0 then (xs ++ [x], 0) else ([], followsR xs x) := by unfold appendRate; rw [if_pos h0]
      rw [hck] at hc2
      generalize appendRate xs x = q at *
      have Hap := Lib.hid hap
      clear hap hsn hck hl5 ho4 hg4 hB4 hs4 hg5 hs5
      by_cases hf : followsR xs x = 0
      · rw [if_pos hf] at hc2
        have hq := Hap.out
        rw [if_pos hf] at hq
        subst hq
        clear hf
        go_wp2_with (fail)
        refine hc2.mono ?_
        clear hc2
        rintro e w6 ⟨rfl, hB6⟩
        go_wp2_with (fail)
        go_ret2
        exact ⟨_, rfl, by rw [List.length_append, hlen]; exact own_below ho5 hB6, hB5.trans (hB6.mono hB5.size)⟩
      · rw [if_neg hf] at hc2
        have hq := Hap.out
        rw [if_neg hf] at hq
        subst hq
        generalize followsR xs x = f at *
        have g0 : (f != 0) = true := by simpa using hf
        clear hf
        go_wp2_with (fail)
        refine hc2.mono ?_
        clear hc2
        rintro e w6 ⟨rfl, hB6⟩
        go_wp2_with (fail)
        go_ret2
        exact GivesL.nil (hB5.trans (hB6.mono hB5.size))
  · have hap : appendRate xs x = ([], (checkRates xs).2) := by unfold appendRate; rw [if_neg h0]
    rw [hap]
    generalize (checkRates xs).1 = c1 at *
    generalize (checkRates xs).2 = c2 at *
    have g0 : (c2 != 0) = true := by simpa using h0
    clear h0 hap hL
    go_enter Tryz.func59, Tryz.ntmps59
    go_wp2_with (fail)
    refine hc1.mono ?_
    clear hc1
    rintro e w2 ⟨rfl, hB2⟩
    go_wp2_with (fail)
    go_ret2
    exact GivesL.nil (hB0.trans (hB2.mono hB0.size))

end Go.Proofs.YtollegoajlfdiaaGreat

/-
  Walks: the reference's Touched.
-/
namespace Go.Proofs.YtollegoajlfdiaaGreat
open Go.RowKit Lg Go.Sort Go.Shelf

def tI (l m : List Rate) (goods : ByteArray) (known : Int) (A : List Int) : Nat → Int × Int × Bool
  | 0 => (0, 0, false)
  | k + 1 =>
    if fidI l goods (A.getD k 0) known = fidI m goods (A.getD k 0) known then tI l m goods known A k
    else ((if (tI l m goods known A k).2.2 = true then (tI l m goods known A k).1 else A.getD k 0), A.getD (k + 1) 0 - 1, true)

def touchedI (xs : List Rate) (x : Rate) (goods : ByteArray) : (Int × Int × Bool) × Int :=
  if (appendRate xs x).2 = 0 then (tI xs (xs ++ [x]) goods x.known (hoursI (xs ++ [x]) ++ [1000001]) (hoursI (xs ++ [x])).length, 0) else ((0, 0, false), (appendRate xs x).2)

set_option maxRecDepth 100000 in
set_option maxHeartbeats 3200000 in
theorem touchedR_any (a : Option Addr) (n cap : Nat) (xs : List Rate) (x : Rate) (goods : ByteArray) (w : World) (hn : n ≤ 299) (hL : Lst w 9 cR a n cap xs) (hb : (appendRate xs x).2 = 0 → ∀ t ∈ hoursI (xs ++ [x]), 0 ≤ t ∧ t ≤ 1000000) :
    Calls Tryz.prog 20 #[.slice a n cap, aR x, .string goods] w (Gives w (.tuple #[.int .i64 (touchedI xs x goods).1.1, .int .i64 (touchedI xs x goods).1.2.1, .bool (touchedI xs x goods).1.2.2, .int .i64 (touchedI xs x goods).2])) := by
  have hlen := hL.len
  have hB0 : RowKit.Below w.heap.size w (w.alloc (.cells #[.int .i64 x.id, .int .i64 x.known, .int .i64 x.from_, .string x.goods, .int .i64 x.finder.num, .int .i64 x.finder.den, .int .i64 x.cart, .int .i64 x.store, .int .i64 x.of_] 26)) := (Below.refl _ w).alloc (Nat.le_refl _) _
  have hA := appendRateR_any a n cap xs x _ hn (hL.below hB0)
  obtain ⟨i0, hi0, hz0, hz1, hz2⟩ := info_parts infoI
  by_cases h0 : (appendRate xs x).2 = 0
  · have hb := hb h0
    have hm := (appendRate_ok h0).1
    have Hq : Hid (touchedI xs x goods = (tI xs (xs ++ [x]) goods x.known (hoursI (xs ++ [x]) ++ [1000001]) (hoursI (xs ++ [x])).length, 0)) := Lib.hid (by unfold touchedI; rw [if_pos h0])
    generalize touchedI xs x goods = q at *
    rw [h0, hm] at hA
    clear h0 hm
    have hlm : (xs ++ [x]).length = n + 1 := by rw [List.length_append, hlen]; rfl
    have hHb := (hoursI_len (xs ++ [x])).2
    have HF := Lib.hid (fun t W (hB : RowKit.Below w.heap.size w W) => forceIdR_any a n cap xs goods t x.known W (by omega) (hL.below hB))
    have HF2 := Lib.hid (fun (a' : Option Addr) (c' : Nat) t W (h : Lst W 9 cR a' (n + 1) c' (xs ++ [x])) => forceIdR_any a' (n + 1) c' (xs ++ [x]) goods t x.known W (by omega) h)
    have HH := Lib.hid (fun (a' : Option Addr) (c' : Nat) W (h : Lst W 9 cR a' (n + 1) c' (xs ++ [x])) => hoursR_any a' (n + 1) c' (xs ++ [x]) W (by omega) h)
    have Hb := Lib.hid hb
    rw [hlm] at hHb
    clear hL hb
    go_enter Tryz.func20, Tryz.ntmps20
    go_wp2_with (fail)
    have k0 := Blk.new w 26 #[.int .i64 x.id, .int .i64 x.known, .int .i64 x.from_, .string x.goods, .int .i64 x.finder.num, .int .i64 x.finder.den, .int .i64 x.cart, .int .i64 x.store, .int .i64 x.of_]
    refine hA.mono ?_
    clear hA
    rintro e w1 ⟨v, rfl, ho, hB1⟩
    have k1 := k0.below' hB1
    have hB1 := hB0.trans (hB1.mono hB0.size)
    rw [hlm] at ho
    obtain ⟨am, cm, rfl, _, hM⟩ := Lst.of_owns (k := 9) (enc := cR) (fun _ => rfl) (by omega) ho hlm
    have hmm : cm ≤ 9223372036854775807 := by have := hM.max; unfold maxLen at this; omega
    have hlm2 := hM.le
    clear ho k0 hB0
    have e1 := k1.cell
    have hHc := HH.out am cm w1 hM
    obtain ⟨H, hHn⟩ : ∃ H, H = (hoursI (xs ++ [x])).length := ⟨_, rfl⟩
    rw [← hHn] at hHb hHc
    go_wp2_with (fail)
    refine hHc.mono ?_
    clear hHc
    rintro e w2 ⟨v2, rfl, ho2, hB2⟩
    have k2 := k1.below' hB2
    have hM2 := hM.below hB2
    clear e1
    go_wp2_with (first
      | (at_builtin; refine wpList_append_list rfl _ _ _ rfl w1.heap.size 3 i0 _ 1 8 Tryz.underlying35 hi0 hz0 hz1 hz2 rfl (by omega) _ _ _ rfl (ho2.alloc _) cI (fun _ => rfl) cI_one _ 1 _ [1000001] rfl (Lst.oneI (Blk.new _ _ _)) (by unfold maxLen; omega) (by omega) (by have := hB2.size; simp; omega) ?_; intro v3 w3 ho3 hg3; have hB3 : RowKit.Below w1.heap.size w1 w3 := below_of_grown (hB2.alloc hB2.size _) (Nat.le_refl _) hg3 (own_ge' ho2))
      | fail)
    rw [← List.flatMap_append] at ho3
    obtain ⟨av, cv, rfl, _, hlA⟩ := Lst.of_owns (k := 1) (enc := cI) (fun _ => rfl) (by omega) ho3 (by rw [List.length_append, ← hHn]; rfl)
    have hb2 : ∀ t ∈ hoursI (xs ++ [x]) ++ [1000001], 0 ≤ t ∧ t ≤ 1000001 := fun t ht => by
      rcases List.mem_append.1 ht with ht | ht
      · have := Hb.out t ht; omega
      · rcases List.mem_singleton.1 ht with rfl; omega
    have hq := Hq.out
    rw [← hHn] at hq
    have Hq2 := Lib.hid hq
    clear hq Hq Hb ho3 k2 hM2 hg3 ho2 HH
    generalize hoursI (xs ++ [x]) ++ [1000001] = A at *
    obtain ⟨N, hN⟩ : ∃ N, N = H + 1 := ⟨_, rfl⟩
    rw [← hN] at hlA ⊢
    have k3 := k1.below' hB3
    have hM3 := hM.below hB3
    have hB3 := hB1.trans (hB3.mono hB1.size)
    have hlN := Lib.hid hlA.len
    have hmv : cv ≤ 9223372036854775807 := by have := hlA.max; unfold maxLen at this; omega
    have hlv := hlA.le
    have Hl := Lib.hid hlA
    have HM := Lib.hid hM3
    have Hk := Lib.hid k3
    have Hb2 := Lib.hid hb2
    obtain ⟨bx, hbx⟩ : ∃ bx, bx = w.heap.size := ⟨_, rfl⟩
    rw [← hbx] at Hk ⊢
    have HN := Lib.hid hN
    have hN1 : N ≤ 1000 := by omega
    clear hlA hM3 k3 hb2 hM k1 hB2 hbx hHn hN
    go_wp2_with (fail)
    go_loopw [13, 14, 15, 16] (fun f u o i wr => ∃ k : Nat, k ≤ H ∧ i = .int .i64 k ∧ f = .int .i64 (tI xs (xs ++ [x]) goods x.known A k).1 ∧ u = .int .i64 (tI xs (xs ++ [x]) goods x.known A k).2.1 ∧ o = .bool (tI xs (xs ++ [x]) goods x.known A k).2.2 ∧ RowKit.Below w3.heap.size w3 wr) (fun _ _ _ i _ => H - (intOf i).toNat)
    case atStart => exact ⟨0, Nat.zero_le _, rfl, rfl, rfl, rfl, Below.refl _ _⟩
    case round =>
      obtain ⟨k, hk, rfl, rfl, rfl, rfl, hB⟩ := hrel
      have hBw := hB3.trans (hB.mono hB3.size)
      have w1k : IntKind.i64.wrap ((k : Int) + 1) = (k : Int) + 1 := by rw [IntKind.wrap_i64]; omega
      by_cases hlt : k < H
      · have hltz : (k : Int) + 1 < (N : Int) := by have := HN.out; omega
        have hltz2 : (k : Int) < (N : Int) := by have := HN.out; omega
        obtain ⟨t, ht⟩ : ∃ t, A[k]? = some t := ⟨A[k]'(by have := HN.out; rw [hlN.out]; omega), by simp⟩
        obtain ⟨t2, ht2⟩ : ∃ t2, A[k + 1]? = some t2 := ⟨A[k + 1]'(by have := HN.out; rw [hlN.out]; omega), by simp⟩
        obtain ⟨hb3, hb4⟩ := Hb2.out t2 (List.mem_of_getElem? ht2)
        have hd1 : A.getD k 0 = t := by rw [List.getD_eq_getElem?_getD, ht]; rfl
        have hd2 : A.getD (k + 1) 0 = t2 := by rw [List.getD_eq_getElem?_getD, ht2]; rfl
        have hl := Hl.out.below hB
        obtain ⟨bb, off, rfl, hbb, hrg⟩ := hl.at_ k t ht
        obtain ⟨bb2, off2, e, _, hrg2⟩ := hl.at_ (k + 1) t2 ht2
        obtain ⟨rfl, rfl⟩ : bb2 = bb ∧ off2 = off := by injection e with e; injection e with e1 e2; exact ⟨e1.symm, e2.symm⟩
        have c0 := cell_regrown (hrg 0 _ rfl)
        have c4 := cell_regrown (hrg2 0 _ rfl)
        have kx := (Hk.out.below' hB).regrown 1
        have cF1 := regrown_call (w := wr) (v := .int .i64 (fidI xs goods t x.known)) (fun W' h => HF.out t W' (hBw.trans (h.mono hBw.size)))
        have cF2 := regrown_call (w := wr) (v := .int .i64 (fidI (xs ++ [x]) goods t x.known)) (fun W' h => HF2.out am cm t W' ((HM.out.below hB).below h))
        simp only [Nat.mul_one, Nat.add_zero] at c0 c4
        have hdr : ∀ d os, RowKit.Below w3.heap.size w3 (grow (redrawn wr d) os) := fun d os => hB.trans ((below_regrown wr d os).mono hB.size)
        have Hdr := Lib.hid hdr
        have hst : tI xs (xs ++ [x]) goods x.known A (k + 1) = if fidI xs goods t x.known = fidI (xs ++ [x]) goods t x.known then tI xs (xs ++ [x]) goods x.known A k
            else ((if (tI xs (xs ++ [x]) goods x.known A k).2.2 = true then (tI xs (xs ++ [x]) goods x.known A k).1 else t), t2 - 1, true) := by rw [tI, hd1, hd2]
        obtain ⟨s2, hs2⟩ : ∃ s2, s2 = tI xs (xs ++ [x]) goods x.known A (k + 1) := ⟨_, rfl⟩
        rw [← hs2] at hst
        have Hs2 := Lib.hid hs2
        have Hst := Lib.hid hst
        have u1 : IntKind.i64.wrap (t2 - 1) = t2 - 1 := by rw [IntKind.wrap_i64]; omega
        have u2 : (0 : Int) ≤ (k : Int) + 1 := by omega
        have u3 : ((k : Int) + 1).toNat = k + 1 := by omega
        clear hrg hrg2 ht ht2 hdr hst hs2 e hl hd1 hd2
        generalize tI xs (xs ++ [x]) goods x.known A k = s1 at *
        generalize fidI xs goods t x.known = f1 at *
        generalize fidI (xs ++ [x]) goods t x.known = f2 at *
        by_cases hne : f1 = f2
        · have g1 : (f1 != f2) = false := by simpa using hne
          have hs := Hst.out
          rw [if_pos hne] at hs
          have Hs := Lib.hid hs
          clear hne hs Hst
          go_wp2_with (fail)
          refine wp_region_quiet_below (by kernel_rfl) (by kernel_rfl) ?_
          repeat (go_big_quiet_step (with_reducible first | exact cF1 _ _ | exact cF2 _ _))
          refine wpQuiet_nil ?_
          intro _ hw'
          obtain ⟨⟨dq, osq⟩, hw''⟩ := hw'
          subst hw''
          go_wp2_with (fail)
          go_roundw
          case rel => exact ⟨k + 1, by omega, by go_num, by rw [← Hs2.out, Hs.out], by rw [← Hs2.out, Hs.out], by rw [← Hs2.out, Hs.out], Hdr.out _ _⟩
          case measure => simp [intOf]; omega
        · have g1 : (f1 != f2) = true := by simpa using hne
          have hs := Hst.out
          rw [if_neg hne] at hs
          obtain ⟨sf, su, so⟩ := s1
          cases so
          all_goals
            dsimp only at hs
            first | rw [if_pos rfl] at hs | rw [if_neg (by simp)] at hs
            have Hs := Lib.hid hs
            clear hs
            go_wp2_with (fail)
            refine wp_region_quiet_below (by kernel_rfl) (by kernel_rfl) ?_
            repeat (go_big_quiet_step (with_reducible first | exact cF1 _ _ | exact cF2 _ _))
            refine wpQuiet_nil ?_
            intro _ hw'
            obtain ⟨⟨dq, osq⟩, hw''⟩ := hw'
            subst hw''
            have d0 := c0 dq osq
            have d4 := c4 dq osq
            clear c0 c4
            go_wp2_with (fail)
            go_roundw
            case rel => first | exact ⟨k + 1, by omega, by go_num, by rw [← Hs2.out, Hs.out], by rw [← Hs2.out, Hs.out], by rw [← Hs2.out, Hs.out], Hdr.out _ _⟩ | ((repeat apply Exists.intro); exact ⟨⟨k + 1, by omega, by go_num, by rw [← Hs2.out, Hs.out], by rw [← Hs2.out, Hs.out], by rw [← Hs2.out, Hs.out], Hdr.out _ _⟩, rfl⟩)
            case measure => simp [intOf]; omega
      · obtain rfl : k = H := by omega
        have hz : ¬ (k : Int) + 1 < (N : Int) := by have := HN.out; omega
        go_wp2_with (fail)
        refine bodyPost_ret (results_tmp4 rfl _ _ _) rfl ⟨?_, hBw⟩
        rw [Hq2.out]; rfl
  · have hq : touchedI xs x goods = ((0, 0, false), (appendRate xs x).2) := by unfold touchedI; rw [if_neg h0]
    rw [hq]
    clear hL hb
    generalize (appendRate xs x).1 = c1 at *
    generalize (appendRate xs x).2 = c2 at *
    have g0 : (c2 != 0) = true := by simpa using h0
    clear h0 hq
    go_enter Tryz.func20, Tryz.ntmps20
    go_wp2_with (fail)
    refine hA.mono ?_
    clear hA
    rintro e w1 ⟨v, rfl, ho, hB1⟩
    go_wp2_with (fail)
    refine bodyPost_ret (results_tmp4 rfl _ _ _) rfl ⟨?_, hB0.trans (hB1.mono hB0.size)⟩
    rfl

end Go.Proofs.YtollegoajlfdiaaGreat
