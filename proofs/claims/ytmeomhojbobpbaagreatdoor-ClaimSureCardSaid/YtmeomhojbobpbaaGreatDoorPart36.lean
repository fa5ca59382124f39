import Derived.Test.YtmeomhojbobpbaaGreatDoorPart35
import Derived.Test.YtmeomhojbobpbaaGreatDoorPart33
import Derived.Test.YtmeomhojbobpbaaGreatDoorPart09
import Derived.Sort.CutIn
import Derived.Laws.StructEq
/-
  Walk: Lineage, at deeds none of whose parts leaves the range.
-/
namespace Go.Proofs.YtmeomhojbobpbaaGreatDoor
open Go.RowKit Lg Go.Sort Go.Shelf

attribute [local go_sem] Oper.semAt_some

/-- A list of deeds is done in range. -/
def okLine (l : List Deed) (oo : Nat) (dl hour : Int) : Bool :=
  calmD (claimedD l dl) dl hour (byHourD l ++ [farD]) (startR oo dl hour) && (match doneD l oo dl hour with | some r => decide (r.s.length = 41) | none => false)

theorem okLine_spec {l : List Deed} {oo : Nat} {dl hour : Int} (h : okLine l oo dl hour = true) : calmD (claimedD l dl) dl hour (byHourD l ++ [farD]) (startR oo dl hour) = true ∧ ∃ r, doneD l oo dl hour = some r ∧ r.s.length = 41 := by
  unfold okLine at h
  rw [Bool.and_eq_true] at h
  refine ⟨h.1, ?_⟩
  have h2 := h.2
  cases hd : doneD l oo dl hour with
  | none => rw [hd] at h2; cases h2
  | some r => rw [hd] at h2; exact ⟨r, rfl, by simpa using h2⟩

set_option maxRecDepth 100000 in
theorem cloneI_any (a : Option Addr) (n cap : Nat) (xs : List Int) (w : World) (hn : n ≤ 1000) (hL : Lst w 1 cI a n cap xs) :
    Calls Tryz.prog 120 #[.slice a n cap] w fun e w' => ∃ v', e = .returned v' ∧ w'.ownsRow w.heap.size 3 1 v' n (xs.flatMap cI) ∧ RowKit.Below w.heap.size w w' := by
  obtain ⟨i0, hi0, hz0, hz1, hz2⟩ := info_parts infoI
  cases a with
  | none =>
    have h0 : xs = [] := by
      cases xs with
      | nil => rfl
      | cons x xs => obtain ⟨b, off, ha, _⟩ := hL.at_ 0 x rfl; cases ha
    subst h0
    have hl := hL.len
    simp at hl; subst hl
    have hnil : ∀ w : World, (binOp .eql 30 (.slice none 0 cap) (.slice none 0 0)).run Tryz.prog w = .ok (.bool true) w := fun w => Lib.run_eql_slice_nil w 30 3 none 0 cap 0 0 Tryz.underlying30
    clear hL hn
    go_enter Tryz.func120, Tryz.ntmps120
    go_wp2
    go_ret
    exact ⟨_, rfl, ⟨rfl, .inl ⟨rfl, rfl⟩⟩, Below.refl _ _⟩
  | some ad =>
    have ho : (w.alloc (.cells #[] 3)).ownsRow w.heap.size 3 1 (.slice (some ⟨w.heap.size, 0, none⟩) 0 0) 0 [] := World.ownsRow_made w #[] 0 (Nat.le_refl _) (Nat.zero_le _) rfl
    have hB : RowKit.Below w.heap.size w (w.alloc (.cells #[] 3)) := (Below.refl _ w).alloc (Nat.le_refl _) _
    have hL2 := hL.below hB
    have hnil : ∀ w : World, (binOp .eql 30 (.slice (some ad) n cap) (.slice none 0 0)).run Tryz.prog w = .ok (.bool false) w := fun w => Lib.run_eql_slice_nil w 30 3 (some ad) n cap 0 0 Tryz.underlying30
    go_enter Tryz.func120, Tryz.ntmps120
    go_wp2_with (first
      | (at_builtin; refine wpList_append_list rfl _ _ _ rfl w.heap.size 3 i0 _ 1 8 Tryz.underlying30 hi0 hz0 hz1 hz2 rfl (by omega) _ 0 [] rfl ho cI (fun _ => rfl) (fun x => by simp [cI, Value.oneCell']) (some ad) n cap xs rfl hL2 (by unfold maxLen; omega) (by omega) (by simp) ?_; intro v1 w1 hown1 hgrow1)
      | fail)
    go_ret
    rw [List.nil_append, Nat.zero_add] at hown1
    exact ⟨_, rfl, hown1, below_of_grown hB (Nat.le_refl _) hgrow1 (fun r h => by cases h; exact Nat.le_refl _)⟩

set_option maxRecDepth 100000 in
theorem lineage1_any (x id : Int) (B : Nat) (w : World) (hc : w.cell? ⟨B, 0, none⟩ = some (.int .i64 id)) :
    Calls Tryz.prog 122 #[.int .i64 x, .pointer (some ⟨B, 0, none⟩)] w (Gives w (.bool (decide (x = id)))) := by
  go_enter Tryz.func122, Tryz.ntmps122
  go_wp2
  go_ret
  exact ⟨by first | rfl | simp [ieq], Below.refl _ _⟩

/-- What is left of the Ids behind some of them. -/
def lnS (own : List Deed) (oo : Nat) (dl hour : Int) (pp : Nat) (want : Frac) (ids : List Int) (pre : List (Int × Int)) : List Int := (pre.map Prod.snd).foldl (lineStep own oo dl hour pp want) ids
theorem lineStep_sub (own : List Deed) (ow dl hour pp : Int) (want : Frac) (out : List Int) (id : Int) : (lineStep own ow dl hour pp want out id).Sublist out := by
  unfold lineStep
  split
  · split
    · exact List.filter_sublist
    · exact List.Sublist.refl _
  · exact List.Sublist.refl _
theorem fold_sub (own : List Deed) (ow dl hour pp : Int) (want : Frac) : ∀ (l : List Int) (ids : List Int), (l.foldl (lineStep own ow dl hour pp want) ids).Sublist ids
  | [], _ids => List.Sublist.refl _
  | x :: l, ids => (fold_sub own ow dl hour pp want l _).trans (lineStep_sub own ow dl hour pp want ids x)
theorem lnS_sub (own : List Deed) (oo : Nat) (dl hour : Int) (pp : Nat) (want : Frac) (ids : List Int) (pre : List (Int × Int)) : (lnS own oo dl hour pp want ids pre).Sublist ids := fold_sub own oo dl hour pp want _ ids
theorem lnS_snoc (own : List Deed) (oo : Nat) (dl hour : Int) (pp : Nat) (want : Frac) (ids : List Int) (pre : List (Int × Int)) (x : Int × Int) : lnS own oo dl hour pp want ids (pre ++ [x]) = lineStep own oo dl hour pp want (lnS own oo dl hour pp want ids pre) x.2 := by
  unfold lnS; rw [List.map_append, List.foldl_append]; rfl

set_option maxHeartbeats 800000 in
theorem eqCF (x y : Frac) (w : World) : (binOp .eql 83 (aF x) (aF y)).run Tryz.prog w = .ok (.bool (decide (x = y))) w := by
  have u3 := Tryz.underlying3
  have a3 := Tryz.isAgg3
  have z3 := Tryz.sizeOf3
  have hS : Tryz.prog.underlying 83 = some (.struct (Tryz.prog.fieldsOf 83)) := by kernel_rfl
  have hp : Tryz.prog.stoodInHeld 83 = false := by kernel_rfl
  obtain ⟨a1, a2⟩ := x
  obtain ⟨b1, b2⟩ := y
  rw [run_eql_struct, show (10000 : Nat) = 9999 + 1 from rfl, run_equalIn_agg w 9999 83 _ _ hS hp]
  simp only [Program.fieldsOf, Tryz.underlying83]
  go_simp
  iterate 2 (split; rotate_left; · simp [*])
  simp [*]

theorem frac_iff (a b : Frac) : a = b ↔ a.num = b.num ∧ a.den = b.den := by cases a; cases b; simp

theorem idOne (n : Int) : ∀ v ∈ [Value.int .i64 n], v.oneCell' = true := fun v hv => by
  obtain rfl : v = .int .i64 n := by simpa using hv
  rfl

set_option maxRecDepth 100000 in
set_option maxHeartbeats 6400000 in
theorem lineageOf_ok (lo pa : Int) (oo pp : Nat) (known hour dl : Int) (a : Option Addr) (n cap : Nat) (xs : List Deed) (w : World) (hL : Lst w 11 cD a n cap xs) (ho : oo ≤ 40) (hpp : pp ≤ 40) (he : askedE xs lo pa (oo : Int) dl (pp : Int) = 0) (hn : (ofPack xs lo pa known).length ≤ 18)
    (hc : ∀ l, l.Sublist (ofPack xs lo pa known) → okLine l oo dl hour = true) :
    Calls Tryz.prog 63 #[.slice a n cap, .int .i64 lo, .int .i64 pa, .int .i64 oo, .int .i64 known, .int .i64 hour, .int .i64 dl, .int .i64 pp] w (fun e w' => ∃ v, e = .returned (.tuple #[v, .int .i64 0]) ∧ w'.ownsRow w.heap.size 3 1 v (lineageOf xs lo pa oo known hour dl pp).1.length ((lineageOf xs lo pa oo known hour dl pp).1.map (Value.int .i64)) ∧ RowKit.Below w.heap.size w w') := by
  have hc0 : (checkDeeds xs).2 = 0 := by
    unfold askedE at he
    by_cases h : (checkDeeds xs).2 = 0
    · exact h
    · rw [if_neg h] at he; exact absurd he h
  have hmv := of_move (good_of_check hc0).1 (lo := lo) (pa := pa) (known := known)
  obtain ⟨w0, hw0⟩ : ∃ w0, w0 = ((w.alloc (.cells #[.int .i64 hour] 3)).alloc (.cells #[.int .i64 pp] 3)).alloc (.cells #[.int .i64 lo, .int .i64 pa, .int .i64 oo, .int .i64 dl] 110) := ⟨_, rfl⟩
  have kH : Blk w0 w.heap.size #[.int .i64 hour] 3 := hw0 ▸ ((Blk.new w _ _).alloc _).alloc _
  have kQ : Blk w0 (w.heap.size + 1) #[.int .i64 pp] 3 := hw0 ▸ (Blk.nw1 w _ _ _).alloc _
  have kP : Blk w0 (w.heap.size + 1 + 1) #[.int .i64 lo, .int .i64 pa, .int .i64 oo, .int .i64 dl] 110 := hw0 ▸ Blk.nw2 w _ _ _ _
  have hB0 : RowKit.Below w.heap.size w w0 := hw0 ▸ (((Below.refl _ w).alloc (Nat.le_refl _) _).alloc (by simp) _).alloc (by simp; omega) _
  have ha := askedD_any lo pa oo dl known pp a n cap xs w0 (hL.below hB0)
  have hcal := hc _ (List.Sublist.refl _)
  obtain ⟨hca, rf, hrf, hrl⟩ := okLine_spec hcal
  unfold askedL at ha
  rw [he, if_pos rfl] at ha
  obtain ⟨own, hown⟩ : ∃ own, own = ofPack xs lo pa known := ⟨_, rfl⟩
  have hlin : (lineageOf xs lo pa oo known hour dl pp).1 = sortI ((own.map Deed.id).reverse.foldl (lineStep own oo dl hour pp (fr rf.s pp)) (own.map Deed.id)) := by
    unfold lineageOf
    rw [he, if_pos rfl, hrf, ← hown]
  rw [← hown] at ha hn hc hca hrf hmv
  rw [hlin]
  have Hc := Lib.hid hc
  have Hca := Lib.hid hca
  have Hrf := Lib.hid hrf
  have Hmv := Lib.hid hmv
  have Hrl := Lib.hid hrl
  clear hlin hown he hc0 hc hca hrf hmv hrl hL hcal
  refine (callsIn_wide (n := 3)).1 ?_
  have hwa : Fence.wide.fn 96 := trivial
  have hwd : Fence.wide.fn 97 := trivial
  have hwc : Fence.wide.fn 120 := trivial
  have hwb : Fence.wide.fn 119 := trivial
  have hwf : Fence.wide.fn 121 := trivial
  have hwo : Fence.wide.fn 123 := trivial
  have hws : Fence.wide.fn 124 := trivial
  refine callsIn_of_wp_marks Tryz.func63 rfl trivial ?_ rfl
  simp only [Tryz.ntmps63, List.size_toArray, List.length_cons, List.length_nil, Nat.reduceAdd, Nat.reduceSub, Array.replicate_succ, Array.replicate_zero, List.push_toArray, List.append_toArray, List.nil_append, List.cons_append]
  gi_upto_region 2 with fail
  rw [← hw0]
  clear hw0
  obtain ⟨bh, hbh⟩ : ∃ b, b = w.heap.size := ⟨_, rfl⟩
  obtain ⟨bq, hbq⟩ : ∃ b, b = w.heap.size + 1 := ⟨_, rfl⟩
  obtain ⟨bp, hbp⟩ : ∃ b, b = w.heap.size + 1 + 1 := ⟨_, rfl⟩
  rw [← hbp] at kP ⊢
  rw [← hbq] at kQ ⊢
  rw [← hbh] at kH ⊢
  have hnn : bh ≠ bq ∧ bh ≠ bp ∧ bq ≠ bp := by omega
  have hwb : w.heap.size ≤ bh ∧ w.heap.size ≤ bq ∧ w.heap.size ≤ bp := by omega
  clear hbh hbq hbp
  have cH := kH.cell
  have cQ := kQ.cell
  gi_wp2_with (first
    | (refine wpListIn_load_mid rfl 110 _ rfl bp 0 rfl [.int .i64 lo, .int .i64 pa, .int .i64 oo, .int .i64 dl] _ (kP.range 0 _ (fun j v h => by simpa using h)) Tryz.underlying110 rfl (by kernel_rfl) ?_)
    | fail)
  refine (callsIn_wide.2 ha).mono ?_
  clear ha
  rintro e w1 ⟨v1, rfl, ho1, hB1⟩
  obtain ⟨a1, c1, rfl, _, hL1⟩ := Lst.of_owns (k := 11) (enc := cD) (fun _ => rfl) (by omega) ho1 rfl
  obtain ⟨w2, hw2⟩ : ∃ w2, w2 = w1.alloc (.cells #[.slice a1 own.length c1] 42) := ⟨_, rfl⟩
  have hB2 : RowKit.Below w1.heap.size w1 w2 := hw2 ▸ (Below.refl _ w1).alloc (Nat.le_refl _) _
  have kO2 : Blk w2 w1.heap.size #[.slice a1 own.length c1] 42 := hw2 ▸ Blk.new _ _ _
  have hL2 := hL1.below hB2
  have kH2 := (kH.below' hB1).below' hB2
  have kQ2 := (kQ.below' hB1).below' hB2
  have kP2 := (kP.below' hB1).below' hB2
  have hd := doneD_ok lo pa oo dl hour a1 own.length c1 own w2 hL2 hn ho Hmv.out Hca.out rf Hrf.out
  clear cH cQ ho1 kH kQ kP
  have cH := kH2.cell
  have cQ := kQ2.cell
  have cO := kO2.cell
  gi_upto_region 5 with fail
  rw [← hw2]
  clear hw2
  gi_wp2_with (first
    | (refine wpListIn_load_mid rfl 110 _ rfl bp 0 rfl [.int .i64 lo, .int .i64 pa, .int .i64 oo, .int .i64 dl] _ (kP2.range 0 _ (fun j v h => by simpa using h)) Tryz.underlying110 rfl (by kernel_rfl) ?_)
    | fail)
  refine (callsIn_wide.2 hd).mono ?_
  clear hd
  rintro e w3 ⟨v3, rfl, _, hB3⟩
  have hl41 := Hrl.out
  have hsz2 : (Tryz.prog.info? 113).map (·.size) = some (cSs rf.s).size := by rw [cSs_size rf.s hl41]; kernel_rfl
  have kz := Blk.new w3 113 Tryz.zeroCells113
  have hz82 : Tryz.zeroCells113.size = 82 := by kernel_rfl
  obtain ⟨W4, hW4⟩ : ∃ W4, W4 = (w3.alloc (.cells Tryz.zeroCells113 113)).setCells w3.heap.size 0 (rf.s.flatMap cF) := ⟨_, rfl⟩
  have kW : Blk W4 w3.heap.size (cSs rf.s) 113 := by
    rw [hW4]
    have q := kz.setCells 0 (rf.s.flatMap cF)
    have e : setAll Tryz.zeroCells113 0 (rf.s.flatMap cF) = cSs rf.s := by
      have := setAll_whole Tryz.zeroCells113.toList (rf.s.flatMap cF) (by rw [flat_len cF 2 (fun _ => rfl), hl41, Array.length_toList, hz82])
      rwa [Array.toArray_toList] at this
    rwa [e] at q
  have hB4 : RowKit.Below w3.heap.size w3 W4 := hW4 ▸ below_setCells ((Below.refl w3.heap.size w3).alloc (Nat.le_refl _) (.cells Tryz.zeroCells113 113)) (Nat.le_refl w3.heap.size) 0 (rf.s.flatMap cF)
  clear cH cQ cO
  gi_upto_region 6 with (first
    | (refine wpListIn_store_mid rfl 113 (.tmp 21) (.tmp 53) rfl w3.heap.size 0 (cSs rf.s) rfl rfl (kz.there 0 _ (by rw [cSs_size rf.s hl41, hz82]; omega)) hsz2 (cSs_one rf.s) ?_; rw [← hW4]; clear hW4 kz)
    | fail)
  have hB24 : RowKit.Below w2.heap.size w2 W4 := hB3.trans (hB4.mono hB3.size)
  have kH4 := kH2.below' hB24
  have kQ4 := kQ2.below' hB24
  have kP4 := kP2.below' hB24
  have kO4 := kO2.below' hB24
  have hL4 := hL2.below hB24
  have hb4 : RowKit.Below w.heap.size w W4 := hB0.trans ((hB1.trans ((hB2.trans (hB24.mono hB2.size)).mono hB1.size)).mono hB0.size)
  obtain ⟨bw, hbw⟩ : ∃ b, b = w3.heap.size := ⟨_, rfl⟩
  obtain ⟨bn, hbn⟩ : ∃ b, b = w1.heap.size := ⟨_, rfl⟩
  rw [← hbw] at kW ⊢
  rw [← hbn] at kO4 ⊢
  have hd1 := kH4.lt
  have hd2 := kQ4.lt
  have hd3 := kP4.lt
  have hd4 := kO4.lt
  have hd5 := kW.lt
  have hd6 := hb4.size
  clear hbw hbn hB3 hB4 hB24 hB2 kH2 kQ2 kP2 kO2 hL2 hL1 hB1 hB0 hz82 hsz2
  obtain ⟨bo, hbo⟩ : ∃ b, b = W4.heap.size := ⟨_, rfl⟩
  have kU := Blk.new W4 30 #[.slice none 0 0]
  obtain ⟨W5, hW5⟩ : ∃ W5, W5 = W4.alloc (.cells #[.slice none 0 0] 30) := ⟨_, rfl⟩
  have hB5 : RowKit.Below W4.heap.size W4 W5 := hW5 ▸ (Below.refl _ W4).alloc (Nat.le_refl _) _
  have hs5 : W5.heap.size = W4.heap.size + 1 := by rw [hW5]; simp
  rw [← hW5] at kU
  gi_upto_region 9 with fail
  rw [← hW5]
  clear hW5
  rw [← hbo] at kU hB5 hs5 ⊢
  have hle4 : W4.heap.size ≤ bo := by omega
  have hLn4 : Lst W4 11 cD a1 own.length c1 own := hL4
  have hge4 : bo ≤ W4.heap.size := by omega
  clear hbo
  obtain ⟨i0, hi0, hz0, hz1, hz2⟩ := info_parts infoI
  have cO := (kO4.below hB5 (by omega)).cell
  gi_wp2
  clear cO
  gi_loopw [61] (fun i wr => ∃ (k : Nat) (v : Value), k ≤ own.length ∧ i = .int .i64 k ∧ Blk wr bo #[v] 30 ∧ wr.ownsRow (bo + 1) 3 1 v k (((own.take k).map Deed.id).flatMap cI) ∧ RowKit.Below bo W4 wr ∧ bo < wr.heap.size) (fun i _ => own.length - (intOf i).toNat)
  case atStart => exact ⟨0, _, Nat.zero_le _, rfl, kU, ⟨rfl, .inl ⟨rfl, rfl⟩⟩, hB5, by omega⟩
  case round =>
    clear hB5 hs5 kU
    obtain ⟨k, v, hk, rfl, kU, hor, hB, hbs⟩ := hrel
    have cU := kU.cell
    have fU := kU.frozen
    by_cases hlt : k < own.length
    · obtain ⟨x, hx⟩ : ∃ x, own[k]? = some x := ⟨own[k]'hlt, by simp⟩
      obtain ⟨b, off, rfl, hb, hr⟩ := hL4.at_ k x hx
      have hrr := rangeAt_below hB (by omega) hr
      have hnx : ((own.take (k + 1)).map Deed.id).flatMap cI = ((own.take k).map Deed.id).flatMap cI ++ [.int .i64 x.id] := by
        obtain ⟨h1, h2⟩ := List.getElem?_eq_some_iff.1 hx
        rw [List.take_succ_eq_append_getElem h1, h2]; simp
      have Hnx := Lib.hid hnx
      have hlz : (k : Int) < (own.length : Int) := by omega
      clear hnx hx hr
      gi_wp2_with (first
        | (refine wpListIn_load_mid rfl 36 (.tmp 63) rfl b (off + k * 11) rfl (cD x) _ hrr Tryz.underlying36 rfl (by kernel_rfl) ?_)
        | (gi_at_builtin; refine wpListIn_append_lies _ rfl _ _ _ rfl (bo + 1) 3 i0 _ 1 8 Tryz.underlying30 hi0 hz0 hz1 hz2 rfl (by omega) _ k (((own.take k).map Deed.id).flatMap cI) rfl ((hor.alloc _).alloc _) ⟨wr.heap.size + 1, 0, none⟩ 1 1 [.int .i64 x.id] rfl rfl (World.news_of_block (cs := #[.int .i64 x.id]) (t := 3) (fr := (0, 0)) (heap_alloc2_new wr _ _)) (idOne x.id) (by omega) (by unfold maxLen; omega) (by omega) (by simp; omega) ?_; intro g cap1 w9 hown9 hgrow; have hne : some bo ≠ v.ownBlock := (fun e => by have := own_ge' hor _ e.symm; omega); have h3 := ((kU.alloc _).alloc _).kept hgrow hne; have c3 := h3.cell; have f3 := h3.frozen; have l3 := h3.lt)
        | fail)
      go_roundw
      case rel =>
        refine ⟨k + 1, .slice (some ⟨g, 0, none⟩) (k + 1) cap1, by omega, by go_num, h3.setCell 0 _, ?_, ?_, by have := hgrow.size; simp at this ⊢; omega⟩
        · rw [Hnx.out]
          exact own_set hown9 (by omega) 0 _
        · have hA := (hB.alloc (by omega) (.cells (cD x).toArray 36)).alloc (by simp; omega) (.cells #[.int .i64 x.id] 3)
          exact (below_of_grown hA hge4 hgrow (fun q e => by have := own_ge' hor q e; omega)).setCell (p := ⟨bo, 0, none⟩) (Nat.le_refl _) _
      case measure => simp [intOf]; omega
    · obtain rfl : k = own.length := by omega
      rw [List.take_of_length_le (Nat.le_refl _)] at hor
      obtain ⟨ids, hids⟩ : ∃ ids, ids = own.map Deed.id := ⟨_, rfl⟩
      have hil : ids.length = own.length := by rw [hids]; simp
      rw [← hids] at hor
      obtain ⟨av, cv, rfl, _, hLo⟩ := Lst.of_owns (k := 1) (enc := cI) (fun _ => rfl) (by omega) hor hil
      have hcl := cloneI_any av own.length cv ids wr (by omega) hLo
      gi_wp2
      refine (callsIn_wide.2 hcl).mono ?_
      clear hcl
      rintro e w6 ⟨v6, rfl, ho6, hB6⟩
      obtain ⟨a6, c6, rfl, hA6, hL6⟩ := Lst.of_owns (k := 1) (enc := cI) (fun _ => rfl) (by omega) ho6 hil
      gi_wp2
      refine (callsIn_wide.2 (backward_any _ _ _ _)).mono ?_
      rintro e W7 ⟨rfl, hW7⟩
      gi_wp2
      have hst := backward_stops 2 (by omega) a6 own.length c6 ids w6 W7 hW7.symm hL6
      have hB67 : RowKit.Below w6.heap.size w6 W7 := hW7 ▸ (Below.refl _ w6).alloc (Nat.le_refl _) _
      have hs7 : W7.heap.size = w6.heap.size + 1 := by rw [← hW7]; simp
      have hs6 := hB6.size
      have hB7 : RowKit.Below bo W4 W7 := hB.trans ((hB6.trans (hB67.mono hB6.size)).mono (by omega))
      have kU7 := (kU.below' hB6).below' hB67
      have ho7 := own_below (own_below hor hB6) hB67
      have hSlt : ∀ k, (k = w6.heap.size ∨ (ids ≠ [] ∧ ∃ off, a6 = some ⟨k, off, none⟩)) → k < W7.heap.size ∧ k ≠ bo := by
        rintro k (rfl | ⟨hne, off, hk⟩)
        · omega
        · obtain ⟨b, hb, he⟩ := hA6 _ hk
          cases he
          obtain ⟨y, ys, hy⟩ := List.exists_cons_of_ne_nil hne
          obtain ⟨b', off', ha', hlt, _⟩ := hL6.at_ 0 y (by rw [hy]; rfl)
          cases hk.symm.trans ha'
          omega
      have Hids := Lib.hid hids
      clear hids hL6 hB6 hB67 hW7 cU fU kU hor hB
      refine wpIn_rangeFunc_ownH rfl (by omega) (gf := 163) rfl trivial (enters_of Tryz.func163 (by kernel_rfl) rfl) hst (fun h k => KpOn.trans h k) ?hKb (Below.refl _ _) (fun _ => rfl)
        (fun pre W => ∃ (v : Value), Blk W bo #[v] 30 ∧ W.ownsRow (bo + 1) 3 1 v (lnS own oo dl hour pp (fr rf.s pp) ids pre).length ((lnS own oo dl hour pp (fr rf.s pp) ids pre).flatMap cI) ∧ RowKit.Below bo W4 W ∧ W7.heap.size ≤ W.heap.size) (fun _ _ _ => False) ?hI (fun _ _ _ _ _ hs _ _ => hs) ⟨_, kU7, by rw [show lnS own oo dl hour pp (fr rf.s pp) ids [] = ids from rfl, hil]; exact ho7, hB7, Nat.le_refl _⟩
        (fun x a' W => ∃ Bx, W7.heap.size ≤ Bx ∧ Blk W Bx #[.int .i64 x.2] 3 ∧ a' = { tmps := #[.slice a n cap, .int .i64 lo, .int .i64 pa, .int .i64 oo, .int .i64 known, .int .i64 hour, .int .i64 dl, .int .i64 pp, undef, undef, undef, undef, undef, .pointer (some ⟨bh, 0, none⟩), undef, .pointer (some ⟨bq, 0, none⟩), .slice none 0 0, .int .i64 0, .pointer (some ⟨bp, 0, none⟩), .pointer (some ⟨bn, 0, none⟩), .int .i64 0, .pointer (some ⟨bw, 0, none⟩), v3, .pointer (some ⟨bo, 0, none⟩), undef, u25, undef, .pointer (some ⟨Bx, 0, none⟩), undef, undef, undef, undef, .int .i64 lo, .int .i64 pa, .int .i64 oo, .int .i64 dl, .agg #[.int .i64 lo, .int .i64 pa, .int .i64 oo, .int .i64 dl], .tuple #[.slice a1 own.length c1, .int .i64 0], .agg #[.int .i64 lo, .int .i64 pa, .int .i64 oo, .int .i64 dl], .slice a n cap, .int .i64 known, .int .i64 pp, .tuple #[.slice a1 own.length c1, .int .i64 0], .slice a1 own.length c1, .int .i64 0, .int .i64 0, .bool false, undef, .tuple #[.agg (cSs rf.s), v3, .int .i64 0], .agg #[.int .i64 lo, .int .i64 pa, .int .i64 oo, .int .i64 dl], .slice a1 own.length c1, .int .i64 hour, .tuple #[.agg (cSs rf.s), v3, .int .i64 0], .agg (cSs rf.s), v3, .int .i64 0, .int .i64 0, .bool false, undef, .slice a1 own.length c1, .int .i64 own.length, .int .i64 own.length, .bool false, u63, u64, u65, u66, u67, u68, u69, u70, .slice av own.length cv, .slice a6 own.length c6, .func (.func 163) #[] #[.pointer (some ⟨w6.heap.size, 0, none⟩)], .int .i64 x.1, .int .i64 x.2, undef, undef, undef, undef, undef, undef, undef, undef, undef, undef, undef, undef, undef, undef, undef, undef, undef, undef, undef, undef, undef, undef, undef, undef, undef, undef, undef, undef, undef], defers := [] })
        (fun x a' s A B row hs hg hr => hs.imp fun Bx h => ⟨h.1, h.2.1.own hg hr, h.2.2⟩) ?assign ?body ?done ?stop
      case hKb =>
        intro W l o o' hl ho hc hk
        refine ⟨by simp, fun k hS => World.putObj_heap_other (fun e => ?_)⟩
        have := hSlt k hS
        omega
      case hI =>
        rintro pre A B row ⟨v, h1, h2, h3, h4⟩ hg hr
        exact ⟨v, h1.own hg hr, own_own h2 hg hr, h3.grown hg (by omega) (fun k e => by have := (hr k e).1; omega), Nat.le_trans h4 hg.size⟩
      case assign =>
        rintro l pre x W K ⟨v, h1, h2, h3, h4⟩ hK
        gi_wp2
        exact hK _ _ ((KeepsOthers.alloc _ _).from _) ⟨by simp, fun k hS => Below.heap_alloc _ _ _ (by have := hSlt k hS; omega)⟩ ⟨v, h1.alloc _, h2.alloc _, h3.alloc (by omega) _, by simp; omega⟩ ⟨W.heap.size, h4, Blk.new _ _ _, rfl⟩
      case body =>
        rintro l pre x a' W hl ⟨r, hr⟩ ⟨v, hU, hO, hBW, hsW⟩ ⟨Bx, hBx, bX, rfl⟩ hlt
        obtain ⟨st1, hst1⟩ : ∃ s, s = lnS own oo dl hour pp (fr rf.s pp) ids pre := ⟨_, rfl⟩
        have hsub : st1.Sublist ids := hst1 ▸ lnS_sub _ _ _ _ _ _ _ _
        have hsl : st1.length ≤ 18 := by have := hsub.length_le; omega
        have Hnx : Hid (lnS own oo dl hour pp (fr rf.s pp) ids (pre ++ [x]) = lineStep own oo dl hour pp (fr rf.s pp) st1 x.2) := Lib.hid (by rw [hst1]; exact lnS_snoc _ _ _ _ _ _ _ _ _)
        rw [← hst1] at hO
        obtain ⟨av, cv, rfl, hAv, hLv⟩ := Lst.of_owns (k := 1) (enc := cI) (fun _ => rfl) (by omega) hO rfl
        have hcl := cloneI_any av st1.length cv st1 W (by omega) hLv
        have HSlt := Lib.hid hSlt
        have hBxl := bX.lt
        have cU := hU.cell
        obtain ⟨rest, hrest⟩ : ∃ rest, rest = st1.filter (fun n => !decide (n = x.2)) := ⟨_, rfl⟩
        have hrl : rest.length ≤ st1.length := hrest ▸ List.length_filter_le _ _
        clear hst hst1 hsub hSlt hr hl hlt kU7 ho7 hB7 hLo ho6 hL4
        gi_upto_region 16 with fail
        dsimp only
        gi_cut [28] from 32 (fun c28 W' => W'.ownsRow W.heap.size 3 1 c28 rest.length (rest.flatMap cI) ∧ RowKit.Below W.heap.size W W')
        case first =>
          clear hO hBW hAv hLv kH4 kQ4 kP4 kO4 kW hLn4
          gi_wp2
          refine (CallsIn.inRound l (callsIn_wide.2 hcl)).mono ?_
          clear hcl
          rintro e w8 ⟨v8, rfl, ho8, hB8⟩
          have bX8 := bX.below' hB8
          have eg : ∀ args w, (callFunc 122 args).run Tryz.prog w = .ok (.enter 122 args) w := enters_of Tryz.func122 (by kernel_rfl) rfl
          have hmf : ∀ (fn : Fn) (first cap : Array Value) (w : World), (Instr.makeFunc fn first cap).run Tryz.prog w = .ok (.func fn first cap) w := fun _ _ _ _ => rfl
          have hdl := delI_own (fun n => decide (n = x.2)) 122 #[.pointer (some ⟨Bx, 0, none⟩)] eg W.heap.size st1.length v8 st1 w8 (by omega) hB8.size ho8 (fun W' y hW' => lineage1_any y x.2 Bx W' (by
            have := (bX8.below hW' hBxl).cell 0
            simpa using this))
          gi_wp2
          refine (CallsIn.inRound l (callsIn_wide.2 hdl)).mono ?_
          clear hdl eg hmf
          rintro e w9 ⟨v9, rfl, ho9, hB9⟩
          rw [← hrest] at ho9
          gi_wp2
          gi_meet
          exact ⟨ho9, hB8.trans hB9⟩
        clear hcl cU
        obtain ⟨ho9, hB79⟩ := hcut
        obtain ⟨w9, hw9⟩ : ∃ w9, w9 = wc := ⟨_, rfl⟩
        subst hw9
        obtain ⟨a9, c9, rfl, _, hL9⟩ := Lst.of_owns (k := 1) (enc := cI) (fun _ => rfl) (by omega) ho9 rfl
        have hB49 : RowKit.Below bo W4 w9 := hBW.trans (hB79.mono (by omega))
        have hs9 := hB79.size
        have hU9 := hU.below' hB79
        have hO9 := own_below hO hB79
        have kH9 := kH4.below hB49 (by omega)
        have kQ9 := kQ4.below hB49 (by omega)
        have kP9 := kP4.below hB49 (by omega)
        have kN9 := kO4.below hB49 (by omega)
        have kW9 := kW.below hB49 (by omega)
        have hLn9 : Lst w9 11 cD a1 own.length c1 own := hLn4.below (hB49.mono hle4)
        obtain ⟨sub, hsub⟩ : ∃ sub, sub = onlyD own rest := ⟨_, rfl⟩
        have hss : sub.Sublist own := hsub ▸ List.filter_sublist
        obtain ⟨hca2, r2, hr2, hrl2⟩ := okLine_spec (Hc.out sub hss)
        have hsl2 : sub.length ≤ 18 := by have := hss.length_le; omega
        have Hmv2 : Hid (∀ y ∈ sub, MoveOk y) := Lib.hid (fun y hy => Hmv.out y (hss.mem hy))
        have Hstep : Hid (lineStep own oo dl hour pp (fr rf.s pp) st1 x.2 = if fr r2.s pp = fr rf.s pp then rest else st1) := Lib.hid (by unfold lineStep; rw [← hrest, ← hsub, hr2])
        have HON := Lib.hid (fun W' (hW' : RowKit.Below w9.heap.size w9 W') => by
          have := only_any a1 own.length c1 own a9 rest.length c9 rest W' (by omega) (hLn9.below hW') (hL9.below hW')
          rwa [← hsub] at this)
        have HDN := Lib.hid (fun (W' : World) (a' : Option Addr) (c' : Nat) (hL' : Lst W' 11 cD a' sub.length c' sub) => doneD_ok lo pa oo dl hour a' sub.length c' sub W' hL' hsl2 ho Hmv2.out hca2 r2 hr2)
        have HF := Lib.hid (fun W' (hW' : RowKit.Below w9.heap.size w9 W') => (⟨kH9.below' hW', kP9.below' hW', kN9.below' hW'⟩ : Blk W' bh #[.int .i64 hour] 3 ∧ Blk W' bp #[.int .i64 lo, .int .i64 pa, .int .i64 oo, .int .i64 dl] 110 ∧ Blk W' bn #[.slice a1 own.length c1] 42))
        have hz82 : Tryz.zeroCells113.size = 82 := by kernel_rfl
        have hsz2 : (Tryz.prog.info? 113).map (·.size) = some (cSs r2.s).size := by rw [cSs_size r2.s hrl2]; kernel_rfl
        have hwhole : setAll Tryz.zeroCells113 0 (r2.s.flatMap cF) = cSs r2.s := by
          have := setAll_whole Tryz.zeroCells113.toList (r2.s.flatMap cF) (by rw [flat_len cF 2 (fun _ => rfl), hrl2, Array.length_toList, hz82])
          rwa [Array.toArray_toList] at this
        have Hw := Lib.hid hwhole
        have hth : ∀ W' b, Blk W' b Tryz.zeroCells113 113 → W'.there b 0 (cSs r2.s).size := fun W' b k => k.there 0 _ (by rw [cSs_size r2.s hrl2, hz82]; omega)
        have Hth := Lib.hid hth
        clear hwhole hth hss hca2 hr2 hrest hsub hLn9
        gi_upto_region 17 with fail
        gi_cut [29, 31] from 999 (fun c29 c31 W' => ∃ bs, c29 = .pointer (some ⟨bs, 0, none⟩) ∧ c31 = .int .i64 0 ∧ Blk W' bs (cSs r2.s) 113 ∧ RowKit.Below w9.heap.size w9 W')
        case first =>
          clear kH9 kQ9 kP9 kN9 kW9 hO9 hU9 hB49 hB79 hLv hO hU bX hL9 hBW hAv
          refine wpInRound_region_T (fun W' => RowKit.Below w9.heap.size w9 W') (fun _ => True) 11 (by kernel_rfl) (by kernel_rfl) (fun ⟨_, _, h⟩ => h) (Below.refl _ _).drew trivial (fun hS hT => ?_)
          refine wpAnyT_takeS (i := 0) (v := .agg #[.int .i64 lo, .int .i64 pa, .int .i64 oo, .int .i64 dl]) rfl (by kernel_rfl) (by kernel_rfl) (by kernel_rfl) rfl (fun _ _ _ h => h) (yields_load 110 (.tmp 18) rfl bp (0) (by kernel_rfl) [.int .i64 lo, .int .i64 pa, .int .i64 oo, .int .i64 dl] _ (by kernel_rfl) (fun W hW => (HF.out W hW).2.1.range 0 _ (fun j v h => by simpa using h)) Tryz.underlying110 rfl (by kernel_rfl)) hS (fun _ => trivial) ?_
          try dsimp only
          try simp only [Act.put, List.setIfInBounds_toArray]
          refine wpAnyT_takeS (i := 1) (v := .slice a1 own.length c1) rfl (by kernel_rfl) (by kernel_rfl) (by kernel_rfl) rfl (fun _ _ _ h => h) (Or.inl ⟨by kernel_rfl, fun W hW => by have e := (HF.out W hW).2.2.cell 0; go_simp⟩) hS (fun _ => trivial) ?_
          try dsimp only
          try simp only [Act.put]
          refine wpAnyT_takeS (i := 2) (v := .slice a9 rest.length c9) rfl (by kernel_rfl) (by kernel_rfl) (by kernel_rfl) rfl (fun _ _ _ h => h) (Or.inl ⟨by kernel_rfl, fun _ _ => by kernel_rfl⟩) hS (fun _ => trivial) ?_
          try dsimp only
          try simp only [Act.put]
          refine wpAnyT_takeS (i := 4) (v := .int .i64 hour) rfl (by kernel_rfl) (by kernel_rfl) (by kernel_rfl) rfl (fun _ _ _ h => h) (Or.inl ⟨by kernel_rfl, fun W hW => by have e := (HF.out W hW).1.cell 0; go_simp⟩) hS (fun _ => trivial) ?_
          try dsimp only
          try simp only [Act.put]
          refine wpAnyT_two (j := 3) (k := 10) rfl rfl (by kernel_rfl) (by kernel_rfl) (by kernel_rfl) (fun K hK => ?_) (fun K hK => ?_)
          · go_simp
            refine (HON.out _ hS).mono ?_
            rintro e w10 ⟨v10, rfl, ho10, hB10⟩
            obtain ⟨a10, c10, rfl, _, hL10⟩ := Lst.of_owns (k := 11) (enc := cD) (fun _ => rfl) (by omega) ho10 rfl
            have hS2 := hS.trans (hB10.mono hS.size)
            have hq10 := hS2.size
            refine hK.out _ _ hS2 (fun _ => trivial) ?_
            try dsimp only
            try simp only [Act.put, List.setIfInBounds_toArray, List.set_cons_zero, List.set_cons_succ]
            refine wpAnyT_two (j := 5) (k := 10) rfl rfl (by kernel_rfl) (by kernel_rfl) (by kernel_rfl) (fun K hK => ?_) (fun K hK => ?_)
            · go_simp
              refine (HDN.out _ a10 c10 (hL10)).mono ?_
              rintro e w11 ⟨v11, rfl, _, hB11⟩
              have hS3 := hS2.trans (hB11.mono hS2.size)
              have hq11 := hS3.size
              refine hK.out _ _ hS3 (fun _ => trivial) ?_
              try dsimp only
              try simp only [Act.put, List.setIfInBounds_toArray, List.set_cons_zero, List.set_cons_succ]
              refine wpAnyT_takeS (i := 6) (v := .tuple #[.agg (cSs r2.s), v11, .int .i64 0]) rfl (by kernel_rfl) (by kernel_rfl) (by kernel_rfl) rfl (fun _ _ _ h => h) (Or.inl ⟨by kernel_rfl, fun _ _ => by kernel_rfl⟩) hS3 (fun _ => trivial) ?_
              try dsimp only
              try simp only [Act.put, List.setIfInBounds_toArray]
              refine wpAnyT_takeS (i := 7) (v := .agg (cSs r2.s)) rfl (by kernel_rfl) (by kernel_rfl) (by kernel_rfl) rfl (fun _ _ _ h => h) (Or.inl ⟨by kernel_rfl, fun _ _ => by kernel_rfl⟩) hS3 (fun _ => trivial) ?_
              try dsimp only
              try simp only [Act.put]
              refine wpAnyT_takeS (i := 8) (v := v11) rfl (by kernel_rfl) (by kernel_rfl) (by kernel_rfl) rfl (fun _ _ _ h => h) (Or.inl ⟨by kernel_rfl, fun _ _ => by kernel_rfl⟩) hS3 (fun _ => trivial) ?_
              try dsimp only
              try simp only [Act.put]
              refine wpAnyT_takeS (i := 9) (v := .int .i64 0) rfl (by kernel_rfl) (by kernel_rfl) (by kernel_rfl) rfl (fun _ _ _ h => h) (Or.inl ⟨by kernel_rfl, fun _ _ => by kernel_rfl⟩) hS3 (fun _ => trivial) ?_
              try dsimp only
              try simp only [Act.put]
              refine wpAnyT_one (j := 10) rfl (by kernel_rfl) (by kernel_rfl) (fun K hK => ?_)
              go_simp
              have kz := Blk.new (w11) 113 Tryz.zeroCells113
              have hS4 := (hS3).alloc (hS3).size (.cells Tryz.zeroCells113 113)
              refine hK.out _ _ hS4 (fun _ => trivial) ?_
              try dsimp only
              try simp only [Act.put, List.setIfInBounds_toArray, List.set_cons_zero, List.set_cons_succ]
              refine wpAnyT_one (j := 11) rfl (by kernel_rfl) (by kernel_rfl) (fun K hK => ?_)
              refine oper_store_mid 113 _ _ rfl (w11.heap.size) 0 (cSs r2.s) rfl rfl (Hth.out _ _ kz) hsz2 (cSs_one r2.s) ?_
              have hS9 := below_setCells (hS4) (show w9.heap.size ≤ w11.heap.size by first | exact (Nat.le_refl _) | omega) 0 (r2.s.flatMap cF)
              refine hK.out _ _ hS9 (fun _ => trivial) ?_
              try simp only [List.getElem_toArray, List.getElem_cons_succ, List.getElem_cons_zero]
              try dsimp only
              try simp only [Act.put]
              refine wpAnyT_takeS (i := 12) (v := v11) rfl (by kernel_rfl) (by kernel_rfl) (by kernel_rfl) rfl (fun _ _ _ h => h) (Or.inl ⟨by kernel_rfl, fun _ _ => by kernel_rfl⟩) hS9 (fun _ => trivial) ?_
              try simp only [List.getElem_toArray, List.getElem_cons_succ, List.getElem_cons_zero]
              try dsimp only
              try simp only [Act.put, List.setIfInBounds_toArray, List.set_cons_zero, List.set_cons_succ]
              refine wpAnyT_takeS (i := 13) (v := .int .i64 0) rfl (by kernel_rfl) (by kernel_rfl) (by kernel_rfl) rfl (fun _ _ _ h => h) (Or.inl ⟨by kernel_rfl, fun _ _ => by kernel_rfl⟩) hS9 (fun _ => trivial) ?_
              try simp only [List.getElem_toArray, List.getElem_cons_succ, List.getElem_cons_zero]
              try dsimp only
              try simp only [Act.put, List.setIfInBounds_toArray, List.set_cons_zero, List.set_cons_succ]
              refine wpAnyT_done (by kernel_rfl) ?_ _
              gi_wp2_with fail
              gi_meet
              refine ⟨_, rfl, rfl, ?_, hS9⟩
              have q := Blk.setCells kz 0 (r2.s.flatMap cF)
              rwa [Hw.out] at q
            · go_simp
              have kz := Blk.new (w10) 113 Tryz.zeroCells113
              have hS3 := (hS2).alloc (hS2).size (.cells Tryz.zeroCells113 113)
              refine hK.out _ _ hS3 (fun _ => trivial) ?_
              try dsimp only
              try simp only [Act.put, List.setIfInBounds_toArray, List.set_cons_zero, List.set_cons_succ]
              refine wpAnyT_one (j := 5) rfl (by kernel_rfl) (by kernel_rfl) (fun K hK => ?_)
              go_simp
              refine (HDN.out _ a10 c10 (hL10.below ((Below.refl _ w10).alloc (Nat.le_refl _) _))).mono ?_
              rintro e w11 ⟨v11, rfl, _, hB11⟩
              have hS4 := hS3.trans (hB11.mono hS3.size)
              have hq11 := hS4.size
              have kz2 := kz.below' hB11
              refine hK.out _ _ hS4 (fun _ => trivial) ?_
              try dsimp only
              try simp only [Act.put, List.setIfInBounds_toArray, List.set_cons_zero, List.set_cons_succ]
              refine wpAnyT_takeS (i := 6) (v := .tuple #[.agg (cSs r2.s), v11, .int .i64 0]) rfl (by kernel_rfl) (by kernel_rfl) (by kernel_rfl) rfl (fun _ _ _ h => h) (Or.inl ⟨by kernel_rfl, fun _ _ => by kernel_rfl⟩) hS4 (fun _ => trivial) ?_
              try dsimp only
              try simp only [Act.put, List.setIfInBounds_toArray]
              refine wpAnyT_takeS (i := 7) (v := .agg (cSs r2.s)) rfl (by kernel_rfl) (by kernel_rfl) (by kernel_rfl) rfl (fun _ _ _ h => h) (Or.inl ⟨by kernel_rfl, fun _ _ => by kernel_rfl⟩) hS4 (fun _ => trivial) ?_
              try dsimp only
              try simp only [Act.put]
              refine wpAnyT_takeS (i := 8) (v := v11) rfl (by kernel_rfl) (by kernel_rfl) (by kernel_rfl) rfl (fun _ _ _ h => h) (Or.inl ⟨by kernel_rfl, fun _ _ => by kernel_rfl⟩) hS4 (fun _ => trivial) ?_
              try dsimp only
              try simp only [Act.put]
              refine wpAnyT_takeS (i := 9) (v := .int .i64 0) rfl (by kernel_rfl) (by kernel_rfl) (by kernel_rfl) rfl (fun _ _ _ h => h) (Or.inl ⟨by kernel_rfl, fun _ _ => by kernel_rfl⟩) hS4 (fun _ => trivial) ?_
              try dsimp only
              try simp only [Act.put]
              refine wpAnyT_one (j := 11) rfl (by kernel_rfl) (by kernel_rfl) (fun K hK => ?_)
              refine oper_store_mid 113 _ _ rfl (w10.heap.size) 0 (cSs r2.s) rfl rfl (Hth.out _ _ kz2) hsz2 (cSs_one r2.s) ?_
              have hS9 := below_setCells (hS4) (show w9.heap.size ≤ w10.heap.size by first | exact (Nat.le_refl _) | omega) 0 (r2.s.flatMap cF)
              refine hK.out _ _ hS9 (fun _ => trivial) ?_
              try simp only [List.getElem_toArray, List.getElem_cons_succ, List.getElem_cons_zero]
              try dsimp only
              try simp only [Act.put, List.setIfInBounds_toArray, List.set_cons_zero, List.set_cons_succ]
              refine wpAnyT_takeS (i := 12) (v := v11) rfl (by kernel_rfl) (by kernel_rfl) (by kernel_rfl) rfl (fun _ _ _ h => h) (Or.inl ⟨by kernel_rfl, fun _ _ => by kernel_rfl⟩) hS9 (fun _ => trivial) ?_
              try simp only [List.getElem_toArray, List.getElem_cons_succ, List.getElem_cons_zero]
              try dsimp only
              try simp only [Act.put, List.setIfInBounds_toArray, List.set_cons_zero, List.set_cons_succ]
              refine wpAnyT_takeS (i := 13) (v := .int .i64 0) rfl (by kernel_rfl) (by kernel_rfl) (by kernel_rfl) rfl (fun _ _ _ h => h) (Or.inl ⟨by kernel_rfl, fun _ _ => by kernel_rfl⟩) hS9 (fun _ => trivial) ?_
              try simp only [List.getElem_toArray, List.getElem_cons_succ, List.getElem_cons_zero]
              try dsimp only
              try simp only [Act.put, List.setIfInBounds_toArray, List.set_cons_zero, List.set_cons_succ]
              refine wpAnyT_done (by kernel_rfl) ?_ _
              gi_wp2_with fail
              gi_meet
              refine ⟨_, rfl, rfl, ?_, hS9⟩
              have q := Blk.setCells kz2 0 (r2.s.flatMap cF)
              rwa [Hw.out] at q
          · go_simp
            have kz := Blk.new w9.drew 113 Tryz.zeroCells113
            have hS2 := hS.alloc hS.size (.cells Tryz.zeroCells113 113)
            refine hK.out _ _ hS2 (fun _ => trivial) ?_
            try dsimp only
            try simp only [Act.put, List.setIfInBounds_toArray, List.set_cons_zero, List.set_cons_succ]
            refine wpAnyT_one (j := 3) rfl (by kernel_rfl) (by kernel_rfl) (fun K hK => ?_)
            go_simp
            refine (HON.out _ hS2).mono ?_
            rintro e w10 ⟨v10, rfl, ho10, hB10⟩
            obtain ⟨a10, c10, rfl, _, hL10⟩ := Lst.of_owns (k := 11) (enc := cD) (fun _ => rfl) (by omega) ho10 rfl
            have hS3 := hS2.trans (hB10.mono hS2.size)
            have hq10 := hS3.size
            have kz1 := kz.below' hB10
            refine hK.out _ _ hS3 (fun _ => trivial) ?_
            try dsimp only
            try simp only [Act.put, List.setIfInBounds_toArray, List.set_cons_zero, List.set_cons_succ]
            refine wpAnyT_one (j := 5) rfl (by kernel_rfl) (by kernel_rfl) (fun K hK => ?_)
            go_simp
            refine (HDN.out _ a10 c10 (hL10)).mono ?_
            rintro e w11 ⟨v11, rfl, _, hB11⟩
            have hS4 := hS3.trans (hB11.mono hS3.size)
            have hq11 := hS4.size
            have kz2 := kz1.below' hB11
            refine hK.out _ _ hS4 (fun _ => trivial) ?_
            try dsimp only
            try simp only [Act.put, List.setIfInBounds_toArray, List.set_cons_zero, List.set_cons_succ]
            refine wpAnyT_takeS (i := 6) (v := .tuple #[.agg (cSs r2.s), v11, .int .i64 0]) rfl (by kernel_rfl) (by kernel_rfl) (by kernel_rfl) rfl (fun _ _ _ h => h) (Or.inl ⟨by kernel_rfl, fun _ _ => by kernel_rfl⟩) hS4 (fun _ => trivial) ?_
            try dsimp only
            try simp only [Act.put, List.setIfInBounds_toArray]
            refine wpAnyT_takeS (i := 7) (v := .agg (cSs r2.s)) rfl (by kernel_rfl) (by kernel_rfl) (by kernel_rfl) rfl (fun _ _ _ h => h) (Or.inl ⟨by kernel_rfl, fun _ _ => by kernel_rfl⟩) hS4 (fun _ => trivial) ?_
            try dsimp only
            try simp only [Act.put]
            refine wpAnyT_takeS (i := 8) (v := v11) rfl (by kernel_rfl) (by kernel_rfl) (by kernel_rfl) rfl (fun _ _ _ h => h) (Or.inl ⟨by kernel_rfl, fun _ _ => by kernel_rfl⟩) hS4 (fun _ => trivial) ?_
            try dsimp only
            try simp only [Act.put]
            refine wpAnyT_takeS (i := 9) (v := .int .i64 0) rfl (by kernel_rfl) (by kernel_rfl) (by kernel_rfl) rfl (fun _ _ _ h => h) (Or.inl ⟨by kernel_rfl, fun _ _ => by kernel_rfl⟩) hS4 (fun _ => trivial) ?_
            try dsimp only
            try simp only [Act.put]
            refine wpAnyT_one (j := 11) rfl (by kernel_rfl) (by kernel_rfl) (fun K hK => ?_)
            refine oper_store_mid 113 _ _ rfl (w9.heap.size) 0 (cSs r2.s) rfl rfl (Hth.out _ _ kz2) hsz2 (cSs_one r2.s) ?_
            have hS9 := below_setCells (hS4) (show w9.heap.size ≤ w9.heap.size by first | exact (Nat.le_refl _) | omega) 0 (r2.s.flatMap cF)
            refine hK.out _ _ hS9 (fun _ => trivial) ?_
            try simp only [List.getElem_toArray, List.getElem_cons_succ, List.getElem_cons_zero]
            try dsimp only
            try simp only [Act.put, List.setIfInBounds_toArray, List.set_cons_zero, List.set_cons_succ]
            refine wpAnyT_takeS (i := 12) (v := v11) rfl (by kernel_rfl) (by kernel_rfl) (by kernel_rfl) rfl (fun _ _ _ h => h) (Or.inl ⟨by kernel_rfl, fun _ _ => by kernel_rfl⟩) hS9 (fun _ => trivial) ?_
            try simp only [List.getElem_toArray, List.getElem_cons_succ, List.getElem_cons_zero]
            try dsimp only
            try simp only [Act.put, List.setIfInBounds_toArray, List.set_cons_zero, List.set_cons_succ]
            refine wpAnyT_takeS (i := 13) (v := .int .i64 0) rfl (by kernel_rfl) (by kernel_rfl) (by kernel_rfl) rfl (fun _ _ _ h => h) (Or.inl ⟨by kernel_rfl, fun _ _ => by kernel_rfl⟩) hS9 (fun _ => trivial) ?_
            try simp only [List.getElem_toArray, List.getElem_cons_succ, List.getElem_cons_zero]
            try dsimp only
            try simp only [Act.put, List.setIfInBounds_toArray, List.set_cons_zero, List.set_cons_succ]
            refine wpAnyT_done (by kernel_rfl) ?_ _
            gi_wp2_with fail
            gi_meet
            refine ⟨_, rfl, rfl, ?_, hS9⟩
            have q := Blk.setCells kz2 0 (r2.s.flatMap cF)
            rwa [Hw.out] at q
        case rest =>
          clear HON HDN HF Hw Hth hsz2 hz82
          obtain ⟨bs, rfl, rfl, kS, hBc⟩ := hcut
          have hUc := hU9.below' hBc
          have kQc := kQ9.below' hBc
          have kWc := kW9.below' hBc
          have hOc := own_below hO9 hBc
          have hsc := hBc.size
          have hpz : (0 : Int) ≤ (pp : Int) := by omega
          have hpz1 : (pp : Int) < 41 := by omega
          have HS2 := Lib.hid (fun W' (h : RowKit.Below wc.heap.size wc W') => (⟨kS.below' h, kWc.below' h, kQc.below' h⟩ : Blk W' bs (cSs r2.s) 113 ∧ Blk W' bw (cSs rf.s) 113 ∧ Blk W' bq #[.int .i64 pp] 3))
          obtain ⟨f1, hf1⟩ : ∃ f, f = fr r2.s pp := ⟨_, rfl⟩
          obtain ⟨f2, hf2⟩ : ∃ f, f = fr rf.s pp := ⟨_, rfl⟩
          have R1 := Lib.hid (fun W' (h : RowKit.Below wc.heap.size wc W') => show W'.rangeAt bs (pp * 2) (cF f1) from hf1 ▸ cell_share (HS2.out W' h).1 pp (by omega))
          have R2 := Lib.hid (fun W' (h : RowKit.Below wc.heap.size wc W') => show W'.rangeAt bw (pp * 2) (cF f2) from hf2 ▸ cell_share (HS2.out W' h).2.1 pp (by omega))
          have Hq : Hid (lineStep own oo dl hour pp (fr rf.s pp) st1 x.2 = if f1 = f2 then rest else st1) := Lib.hid (by rw [hf1, hf2]; exact Hstep.out)
          have Heq := Lib.hid (fun W' => eqCF f1 f2 W')
          clear hf1 hf2 Hstep kS kWc kQc
          gi_upto_region 18 with fail
          try dsimp only
          gi_cut [100] from 999 (fun c100 W' => c100 = .bool (decide (f1 = f2)) ∧ RowKit.Below wc.heap.size wc W')
          case first =>
            clear hUc hOc hU9 hO9 kH9 kQ9 kP9 kN9 kW9 hBc hB49 hB79 hL9 hU hO hLv bX
            refine wpInRound_region_T (fun W' => RowKit.Below wc.heap.size wc W') (fun _ => True) 99 (by kernel_rfl) (by kernel_rfl) (fun ⟨_, _, h⟩ => h) (Below.refl _ _).drew trivial (fun hS hT => ?_)
            refine wpAnyT_takeS (i := 0) (v := .int .i64 0) rfl (by kernel_rfl) (by kernel_rfl) (by kernel_rfl) rfl (fun _ _ _ h => h) (Or.inl ⟨by kernel_rfl, fun _ _ => by kernel_rfl⟩) hS (fun _ => trivial) ?_
            try dsimp only
            try simp only [Act.put, List.setIfInBounds_toArray]
            refine wpAnyT_takeS (i := 1) (v := .bool true) rfl (by kernel_rfl) (by kernel_rfl) (by kernel_rfl) rfl (fun _ _ _ h => h) (Or.inl ⟨by kernel_rfl, fun W hW => by go_simp⟩) hS (fun _ => trivial) ?_
            try dsimp only
            try simp only [Act.put]
            refine wpAnyT_takeS (i := 2) (v := .bool true) rfl (by kernel_rfl) (by kernel_rfl) (by kernel_rfl) rfl (fun _ _ _ h => h) (Or.inl ⟨by kernel_rfl, fun _ _ => by kernel_rfl⟩) hS (fun _ => trivial) ?_
            try dsimp only
            try simp only [Act.put]
            refine wpAnyT_takeS (i := 3) (v := .int .i64 pp) rfl (by kernel_rfl) (by kernel_rfl) (by kernel_rfl) rfl (fun _ _ _ h => h) (Or.inl ⟨by kernel_rfl, fun W hW => by have e := (HS2.out W hW).2.2.cell 0; go_simp⟩) hS (fun _ => trivial) ?_
            try dsimp only
            try simp only [Act.put]
            refine wpAnyT_takeS (i := 4) (v := .pointer (some ⟨bs, pp * 2, none⟩)) rfl (by kernel_rfl) (by kernel_rfl) (by kernel_rfl) rfl (fun _ _ _ h => h) (Or.inl ⟨by kernel_rfl, fun W _ => by go_simp⟩) hS (fun _ => trivial) ?_
            try dsimp only
            try simp only [Act.put]
            refine wpAnyT_takeS (i := 5) (v := .agg (cF f1).toArray) rfl (by kernel_rfl) (by kernel_rfl) (by kernel_rfl) rfl (fun _ _ _ h => h) (yields_load 83 (.tmp 94) rfl bs (pp * 2) (by kernel_rfl) (cF f1) _ (by kernel_rfl) (fun W hW => R1.out W hW) Tryz.underlying83 rfl (by kernel_rfl)) hS (fun _ => trivial) ?_
            try dsimp only
            try simp only [Act.put]
            refine wpAnyT_takeS (i := 6) (v := .int .i64 pp) rfl (by kernel_rfl) (by kernel_rfl) (by kernel_rfl) rfl (fun _ _ _ h => h) (Or.inl ⟨by kernel_rfl, fun W hW => by have e := (HS2.out W hW).2.2.cell 0; go_simp⟩) hS (fun _ => trivial) ?_
            try dsimp only
            try simp only [Act.put]
            refine wpAnyT_takeS (i := 7) (v := .pointer (some ⟨bw, pp * 2, none⟩)) rfl (by kernel_rfl) (by kernel_rfl) (by kernel_rfl) rfl (fun _ _ _ h => h) (Or.inl ⟨by kernel_rfl, fun W _ => by go_simp⟩) hS (fun _ => trivial) ?_
            try dsimp only
            try simp only [Act.put]
            refine wpAnyT_takeS (i := 8) (v := .agg (cF f2).toArray) rfl (by kernel_rfl) (by kernel_rfl) (by kernel_rfl) rfl (fun _ _ _ h => h) (yields_load 83 (.tmp 97) rfl bw (pp * 2) (by kernel_rfl) (cF f2) _ (by kernel_rfl) (fun W hW => R2.out W hW) Tryz.underlying83 rfl (by kernel_rfl)) hS (fun _ => trivial) ?_
            try dsimp only
            try simp only [Act.put]
            refine wpAnyT_takeS (i := 9) (v := .bool (decide (f1 = f2))) rfl (by kernel_rfl) (by kernel_rfl) (by kernel_rfl) rfl (fun _ _ _ h => h) (Or.inl ⟨by kernel_rfl, fun W hW => by
                go_simp
                simp only [frac_iff]
                by_cases h1 : f1.num = f2.num <;> by_cases h2 : f1.den = f2.den <;> simp [h1, h2]⟩) hS (fun _ => trivial) ?_
            try dsimp only
            try simp only [Act.put]
            refine wpAnyT_takeS (i := 10) (v := .bool (decide (f1 = f2))) rfl (by kernel_rfl) (by kernel_rfl) (by kernel_rfl) rfl (fun _ _ _ h => h) (Or.inl ⟨by kernel_rfl, fun W hW => by go_simp⟩) hS (fun _ => trivial) ?_
            try simp only [List.getElem_toArray, List.getElem_cons_succ, List.getElem_cons_zero]
            try dsimp only
            try simp only [Act.put, List.setIfInBounds_toArray, List.set_cons_zero, List.set_cons_succ]
            refine wpAnyT_done (by kernel_rfl) ?_ _
            gi_wp2_with fail
            gi_meet
            exact ⟨rfl, hS⟩
          case rest =>
            clear HS2 R1 R2 Heq
            obtain ⟨rfl, hBd⟩ := hcut
            have hUd := hUc.below' hBd
            have hOd := own_below hOc hBd
            have hB9d := hBc.trans (hBd.mono hsc)
            have hBWd := hB79.trans (hB9d.mono hs9)
            have hB4d : RowKit.Below bo W4 _ := hB49.trans (hB9d.mono (by omega))
            have hsd := hBd.size
            have cU := hUd.cell
            have fU := hUd.frozen
            have lU := hUd.lt
            have hL9d := hL9.below hB9d
            by_cases hq : f1 = f2
            · rw [decide_eq_true hq]
              have Hlin := Lib.hid (Hq.out.trans (if_pos hq))
              clear hq
              gi_wp2
              refine ⟨((KeepsOthers.of_grownBy (grownBy_of_below hBWd) (fun j o e => by cases e)).trans (KeepsOthers.setCell _ _ _)).from _, ⟨by have := hBWd.size; simpa using this, fun k hS => ?_⟩, .slice a9 rest.length c9, hUd.setCell 0 _, ?_, hB4d.setCell (p := ⟨bo, 0, none⟩) (Nat.le_refl _) _, by have := hBWd.size; simp; omega⟩
              · have h4 := HSlt.out k hS
                exact (Below.heap_setCell _ ⟨bo, 0, none⟩ _ k h4.2).trans (hBWd.block k (by omega))
              · rw [Hnx.out, Hlin.out]
                exact own_set (ownsRow_base_a (own_below ho9 hB9d) (by omega)) (by omega) 0 _
            · rw [decide_eq_false hq]
              have Hlin := Lib.hid (Hq.out.trans (if_neg hq))
              clear hq
              gi_wp2
              refine ⟨(KeepsOthers.of_grownBy (grownBy_of_below hBWd) (fun j o e => by cases e)).from _, KpOn.of_below hBWd (fun k hS => by have := HSlt.out k hS; omega), .slice av st1.length cv, hUd, ?_, hB4d, by have := hBWd.size; omega⟩
              rw [Hnx.out, Hlin.out]
              exact hOd
      case done =>
        rintro D ys W hD rfl ⟨v, h1, h2, h3, h4⟩ hK
        obtain ⟨out, hout⟩ : ∃ out, out = lnS own oo dl hour pp (fr rf.s pp) ids (backs ids) := ⟨_, rfl⟩
        have hsl : out.length ≤ 18 := by have := (lnS_sub own oo dl hour pp (fr rf.s pp) ids (backs ids)).length_le; rw [hout]; omega
        rw [← hout] at h2
        have Hfin : Hid (sortI ((own.map Deed.id).reverse.foldl (lineStep own oo dl hour pp (fr rf.s pp)) (own.map Deed.id)) = out.mergeSort fun x y => decide (x ≤ y)) := Lib.hid (by
          rw [sortI_merge, hout]; unfold lnS; rw [backs_snd, ← Hids.out])
        have hso := sortOwn (bo + 1) out.length v out W (by omega) (by rw [← flat_int]; exact h2)
        have c1 := h1.cell
        have hDl : D < W.heap.size := (Array.getElem?_eq_some_iff.1 hK).1
        have hneD : some D ≠ v.ownBlock := fun q => by
          have := own_cells h2 D _ q.symm hK
          cases this
        have hneb : some bo ≠ v.ownBlock := fun e => by have := own_ge' h2 _ e.symm; omega
        have hgeb := own_ge' h2
        clear hst hSlt hout h2 hLn4 hL4 hLo ho6 ho7 kU7
        gi_wp2
        refine (callsIn_wide.2 hso).mono ?_
        clear hso c1
        rintro e w5 ⟨rfl, ho5, hg5⟩
        have h15 := h1.kept hg5 hneb
        have c1 := h15.cell
        have hKd : w5.heap[D]? = some (.deferred (some [])) := (hg5.block D hDl hneD).trans hK
        gi_wp2
        refine ⟨by simp, .inl ⟨_, _, rfl, run_takeDeferred hKd, ?_⟩⟩
        refine ⟨_, results_tmp2 rfl _ _ _, ?_⟩
        refine ⟨v, rfl, ?_, ?_⟩
        · rw [Hfin.out, List.length_mergeSort]
          exact ownsRow_base_a (ho5.kept (grownBy_putObj' w5 D (.deferred none)) (.inr (fun q => hneD q.symm))) (by omega)
        · have hBf : RowKit.Below w.heap.size w w5 := hb4.trans ((below_of_grown h3 (by omega) hg5 (fun r e => by have := hgeb r e; omega)).mono (by omega))
          exact hBf.trans (belowK_b (w := w) (Nat.le_refl _) w5 D _ _ (by omega) hKd rfl rfl)
      case stop =>
        rintro D c pre W _ _ h _
        exact h.elim

end Go.Proofs.YtmeomhojbobpbaaGreatDoor
