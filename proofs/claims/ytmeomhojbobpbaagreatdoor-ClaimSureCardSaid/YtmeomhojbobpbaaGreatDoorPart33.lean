import Derived.Test.YtmeomhojbobpbaaGreatDoorPart28
import Derived.Test.YtmeomhojbobpbaaGreatDoorPart32
import Derived.Test.YtmeomhojbobpbaaGreatDoorPart27
/-
  Walks: titles, asked, Titles, Idle, Claimed of package claim.
-/
namespace Go.Proofs.YtmeomhojbobpbaaGreatDoor
open Go.RowKit Lg Go.Sort Go.Shelf

theorem cT_one (x : Title) : ∀ u ∈ cT x, u.oneCell' = true := by simp [cT, Value.oneCell']
theorem infoT : (Tryz.prog.info? 66).map (fun i => (i.zero, i.size, i.bytes)) = some (some (.agg #[.int .i64 0, .int .i64 0, .int .i64 0]), 3, 24) := by kernel_rfl
theorem aggF (w : World) : (isAgg 83).run Tryz.prog w = .ok true w := by kernel_rfl
theorem sizeF (w : World) : (Go.sizeOf 83).run Tryz.prog w = .ok 2 w := by kernel_rfl
theorem undS (w : World) : (Go.underlying 113).run Tryz.prog w = .ok (.array 41 83) w := by kernel_rfl

theorem share_extract (s : List Frac) (k : Nat) (h : k < s.length) : (cSs s).extract (k * 2) (k * 2 + 2) = (cF (fr s (k : Int))).toArray := by
  refine Array.ext (by simp only [Array.size_extract, List.size_toArray]; rw [flat_len cF 2 (fun _ => rfl)]; simp; omega) fun j h1 h2 => ?_
  have hj : j < 2 := by simpa using h2
  have hu : (cF (fr s (k : Int)))[j]? = some ((cF (fr s (k : Int)))[j]'(by simpa using hj)) := by simp
  have := flat_put cF 2 (fun _ => rfl) s k j _ _ (fr_get s k h) hu
  simp only [Array.getElem_extract, List.getElem_toArray]
  exact (List.getElem?_eq_some_iff.1 this).2

theorem run_index_share (s : List Frac) (k : Nat) (hs : s.length = 41) (h : k < 41) (w : World) : (Instr.index 113 (.agg (cSs s)) (.int .i64 k)).run Tryz.prog w = .ok (aF (fr s (k : Int))) w := by
  have h1 : (0 : Int) ≤ (k : Int) := by omega
  have h2 : (k : Int) < ((41 : Nat) : Int) := by omega
  have he := share_extract s k (by omega)
  have he2 : List.take 2 (List.drop (k * 2) (s.flatMap cF)) = [.int .i64 (fr s (k : Int)).num, .int .i64 (fr s (k : Int)).den] := by
    have := congrArg Array.toList he
    simpa using this
  unfold Instr.index
  simp [asIntOf, Sem.run_bind, part, h1, h, he2]

theorem Lst.oneT3 {W : World} {B : Nat} {x : Title} {t : TypeId} (k : Blk W B #[.int .i64 x.party, .int .i64 x.share.num, .int .i64 x.share.den] t) : Lst W 3 cT (some ⟨B, 0, none⟩) 1 1 [x] :=
  ⟨rfl, Nat.le_refl _, by unfold maxLen; omega, fun i y hx => by
    have hi : i = 0 := by have := (List.getElem?_eq_some_iff.1 hx).1; simp at this; exact this
    subst hi
    obtain rfl : x = y := by simpa using hx
    exact ⟨B, 0, rfl, k.lt, fun j u hu => by have := k.cell j; simp only [Nat.zero_mul, Nat.zero_add]; rw [this]; simpa using hu⟩⟩

/-- A title of a party that has something. -/
def titleAt (s : List Frac) (i : Nat) : Option Title := if (fr s (i : Int)).num = 0 then none else some ⟨(i : Int), fr s (i : Int)⟩
theorem titlesD_eq (s : List Frac) : titlesD s = (List.range 41).filterMap (titleAt s) := rfl
theorem range_snoc {α : Type} (f : Nat → Option α) (k : Nat) : (List.range (k + 1)).filterMap f = (List.range k).filterMap f ++ (f k).toList := by
  rw [List.range_succ, List.filterMap_append]
  cases h : f k <;> simp [h]

set_option maxRecDepth 100000 in
set_option maxHeartbeats 3200000 in
theorem titlesD_any (s : List Frac) (hs : s.length = 41) (w : World) :
    Calls Tryz.prog 99 #[.agg (cSs s)] w fun e w' => ∃ v, e = .returned v ∧ w'.ownsRow w.heap.size 66 3 v (titlesD s).length ((titlesD s).flatMap cT) ∧ RowKit.Below w.heap.size w w' := by
  obtain ⟨i0, hi0, hz0, hz1, hz2⟩ := info_parts infoT
  rw [titlesD_eq]
  obtain ⟨w0, hw0⟩ : ∃ w0, w0 = w.alloc (.cells (cSs s) 113) := ⟨_, rfl⟩
  have k0 : Blk w0 w.heap.size (cSs s) 113 := hw0 ▸ Blk.new _ _ _
  have hB0 : RowKit.Below w.heap.size w w0 := hw0 ▸ (Below.refl _ w).alloc (Nat.le_refl _) _
  have hsz : (Tryz.prog.info? 113).map (·.size) = some (s.flatMap cF).length := by rw [flat_len cF 2 (fun _ => rfl), hs]; kernel_rfl
  have HI := Lib.hid (fun k h w => run_index_share s k hs h w)
  go_enter Tryz.func99, Tryz.ntmps99
  go_upto_region 1 with fail
  rw [← hw0]
  clear hw0
  obtain ⟨b0, hb0⟩ : ∃ b, b = w.heap.size := ⟨_, rfl⟩
  rw [← hb0] at k0 ⊢
  clear hb0
  go_wp2_with (first
    | (refine wpList_load_mid rfl 113 _ rfl b0 0 rfl (s.flatMap cF) _ (k0.range 0 _ (fun j v h => by simpa using h)) Tryz.underlying113 rfl hsz ?_)
    | fail)
  go_loopw [3, 7] (fun o i wr => ∃ k : Nat, k ≤ 41 ∧ i = .int .i64 k ∧ wr.ownsRow w0.heap.size 66 3 o ((List.range k).filterMap (titleAt s)).length (((List.range k).filterMap (titleAt s)).flatMap cT) ∧ RowKit.Below w0.heap.size w0 wr) (fun _ i _ => 41 - (intOf i).toNat)
  case atStart => exact ⟨0, Nat.zero_le _, rfl, ⟨by simp, .inl ⟨rfl, rfl⟩⟩, Below.refl _ _⟩
  case round =>
    obtain ⟨k, hk, rfl, hor, hB⟩ := hrel
    by_cases hlt : k < 41
    · have hltz : (k : Int) < 41 := by omega
      have hix := fun w => HI.out k hlt w
      obtain ⟨ys, hys⟩ : ∃ ys, ys = (List.range k).filterMap (titleAt s) := ⟨_, rfl⟩
      have hyl : ys.length ≤ 41 := by
        have := List.length_filterMap_le (titleAt s) (List.range k)
        rw [List.length_range] at this
        rw [hys]; omega
      rw [← hys] at hor
      have hsn : (List.range (k + 1)).filterMap (titleAt s) = ys ++ (titleAt s k).toList := by rw [range_snoc, ← hys]
      obtain ⟨f, hf⟩ : ∃ f, f = fr s (k : Int) := ⟨_, rfl⟩
      rw [← hf] at hix
      have hta : titleAt s k = if f.num = 0 then none else some ⟨(k : Int), f⟩ := by unfold titleAt; rw [← hf]
      have Hsn := Lib.hid hsn
      have Hta := Lib.hid hta
      have Hor := Lib.hid hor
      clear hsn hta hf hys hor
      by_cases h0 : f.num = 0
      · have g0 : (f.num != 0) = false := by simp [h0]
        have H0 := Lib.hid h0
        clear h0
        go_wp2_with (fail)
        go_roundw
        case rel =>
          have hB2 := (hB.alloc hB.size (.cells #[.int .i64 f.num, .int .i64 f.den] 83))
          refine ⟨k + 1, by omega, by go_num, ?_, hB2⟩
          rw [Hsn.out, Hta.out, if_pos H0.out]
          simpa using Hor.out.alloc _
        case measure => simp [intOf]; omega
      · have g0 : (f.num != 0) = true := by simp [h0]
        have H0 := Lib.hid h0
        clear h0
        go_wp2_with (first
          | (at_builtin; refine wpList_append_list rfl _ _ _ rfl w0.heap.size 66 i0 _ 3 24 Tryz.underlying57 hi0 hz0 hz1 hz2 rfl (by omega) _ _ _ rfl ((Hor.out.alloc _).alloc _) cT (fun _ => rfl) cT_one _ 1 _ [⟨(k : Int), f⟩] rfl (Lst.oneT3 (Blk.nw1 _ _ _ _)) (by unfold maxLen; omega) (by omega) (by have := hB.size; simp; omega) ?_; intro v2 w5 hown2 hgrow2)
          | fail)
        have hB5 := below_of_grown ((hB.alloc hB.size (.cells #[.int .i64 f.num, .int .i64 f.den] 83)).alloc (by have := hB.size; simp; omega) _) (Nat.le_refl _) hgrow2 (own_ge' Hor.out)
        go_roundw
        case rel =>
          refine ⟨k + 1, by omega, by go_num, ?_, hB5⟩
          rw [Hsn.out, Hta.out, if_neg H0.out]
          simp only [Option.toList_some, List.length_append, List.flatMap_append]
          exact hown2
        case measure => simp [intOf]; omega
    · obtain rfl : k = 41 := by omega
      go_wp2_with (fail)
      go_ret
      exact ⟨_, rfl, ownsRow_base_a hor hB0.size, hB0.trans (hB.mono hB0.size)⟩

end Go.Proofs.YtmeomhojbobpbaaGreatDoor

/-
  Walks: questions about a package: asked, Titles, Idle, Claimed of package claim.
-/
namespace Go.Proofs.YtmeomhojbobpbaaGreatDoor
open Go.RowKit Lg Go.Sort Go.Shelf

theorem check_len {l : List Deed} (h : (checkDeeds l).2 = 0) : l.length ≤ 300 := by
  by_cases h0 : l.length = 0
  · omega
  · have hx : l[l.length - 1]? = some (l[l.length - 1]'(by omega)) := by simp
    have := chkFrom_ok followsD [] l h _ _ hx
    have h2 := (followsD_parts this).1
    rw [List.nil_append, List.length_take] at h2
    omega

/-- What a question about a package finds. -/
def askedL (l : List Deed) (lo pa ow dl known party : Int) : List Deed := if askedE l lo pa ow dl party = 0 then ofPack l lo pa known else []

set_option maxRecDepth 100000 in
set_option maxHeartbeats 1600000 in
theorem askedD_any (lo pa ow dl known party : Int) (a : Option Addr) (n cap : Nat) (xs : List Deed) (w : World) (hL : Lst w 11 cD a n cap xs) :
    Calls Tryz.prog 96 #[aPk lo pa ow dl, .slice a n cap, .int .i64 known, .int .i64 party] w (GivesL w 36 11 cD (askedL xs lo pa ow dl known party) (askedE xs lo pa ow dl party)) := by
  obtain ⟨w0, hw0⟩ : ∃ w0, w0 = w.alloc (.cells #[.int .i64 lo, .int .i64 pa, .int .i64 ow, .int .i64 dl] 110) := ⟨_, rfl⟩
  have k0 : Blk w0 w.heap.size #[.int .i64 lo, .int .i64 pa, .int .i64 ow, .int .i64 dl] 110 := hw0 ▸ Blk.new _ _ _
  have hB0 : RowKit.Below w.heap.size w w0 := hw0 ▸ (Below.refl _ w).alloc (Nat.le_refl _) _
  have hL0 := hL.below hB0
  have hck := checkDeeds_any a n cap xs w0 hL0
  have hlen := hL.len
  by_cases hc0 : (checkDeeds xs).2 = 0
  · have he : askedE xs lo pa ow dl party = rightD lo pa ow dl party := by unfold askedE; rw [if_pos hc0]
    have hln := check_len hc0
    have hg := (good_of_check hc0).1
    unfold askedL
    rw [he]
    rw [hc0] at hck
    generalize (checkDeeds xs).1 = ci at hck
    clear he hc0
    have hrt := fun W => right_any lo pa ow dl party W
    have hof := fun W hW => ofD_any lo pa ow dl a n cap xs known W hW (by omega) hg
    generalize hrr : rightD lo pa ow dl party = rr at *
    clear hrr
    by_cases hr0 : rr = 0
    · subst hr0
      rw [if_pos rfl]
      clear hg hln
      generalize ofPack xs lo pa known = ys at *
      go_enter Tryz.func96, Tryz.ntmps96
      go_upto_region 1 with fail
      rw [← hw0]
      clear hw0
      obtain ⟨b0, hb0⟩ : ∃ b, b = w.heap.size := ⟨_, rfl⟩
      rw [← hb0] at k0 ⊢
      clear hb0
      go_wp2_with (fail)
      refine hck.mono ?_
      clear hck
      rintro e w1 ⟨rfl, hB1⟩
      have k1 := k0.below' hB1
      have c1 := k1.cell
      go_wp2_with (first
        | (refine wpList_load_mid rfl 110 _ rfl b0 0 rfl [.int .i64 lo, .int .i64 pa, .int .i64 ow, .int .i64 dl] _ (k1.range 0 _ (fun j v h => by simpa using h)) Tryz.underlying110 rfl (by kernel_rfl) ?_)
        | fail)
      refine (hrt w1).mono ?_
      clear hrt c1
      rintro e w2 ⟨rfl, hB2⟩
      have k2 := k1.below' hB2
      have c2 := k2.cell
      have hb2 := hB0.trans ((hB1.trans (hB2.mono hB1.size)).mono hB0.size)
      go_wp2_with (first
        | (refine wpList_load_mid rfl 110 _ rfl b0 0 rfl [.int .i64 lo, .int .i64 pa, .int .i64 ow, .int .i64 dl] _ (k2.range 0 _ (fun j v h => by simpa using h)) Tryz.underlying110 rfl (by kernel_rfl) ?_)
        | fail)
      refine (hof w2 (hL.below hb2)).mono ?_
      clear hof
      rintro e w3 ⟨v, rfl, ho3, hB3⟩
      go_wp2_with (fail)
      go_ret2
      exact ⟨v, rfl, ownsRow_base_a ho3 hb2.size, hb2.trans (hB3.mono hb2.size)⟩
    · rw [if_neg hr0]
      have g0 : (rr != 0) = true := by simpa using hr0
      clear hr0 hof hg
      go_enter Tryz.func96, Tryz.ntmps96
      go_upto_region 1 with fail
      rw [← hw0]
      clear hw0
      obtain ⟨b0, hb0⟩ : ∃ b, b = w.heap.size := ⟨_, rfl⟩
      rw [← hb0] at k0 ⊢
      clear hb0
      go_wp2_with (fail)
      refine hck.mono ?_
      clear hck
      rintro e w1 ⟨rfl, hB1⟩
      have k1 := k0.below' hB1
      have c1 := k1.cell
      go_wp2_with (first
        | (refine wpList_load_mid rfl 110 _ rfl b0 0 rfl [.int .i64 lo, .int .i64 pa, .int .i64 ow, .int .i64 dl] _ (k1.range 0 _ (fun j v h => by simpa using h)) Tryz.underlying110 rfl (by kernel_rfl) ?_)
        | fail)
      refine (hrt w1).mono ?_
      clear hrt c1
      rintro e w2 ⟨rfl, hB2⟩
      go_wp2_with (fail)
      go_ret2
      exact GivesL.nil (hB0.trans ((hB1.trans (hB2.mono hB1.size)).mono hB0.size))
  · have he : askedE xs lo pa ow dl party = (checkDeeds xs).2 := by unfold askedE; rw [if_neg hc0]
    unfold askedL
    rw [he, if_neg hc0]
    generalize (checkDeeds xs).1 = ci at *
    generalize (checkDeeds xs).2 = ce at *
    have g0 : (ce != 0) = true := by simpa using hc0
    clear hc0 he
    go_enter Tryz.func96, Tryz.ntmps96
    go_upto_region 1 with fail
    rw [← hw0]
    clear hw0
    go_wp2_with (fail)
    refine hck.mono ?_
    clear hck
    rintro e w1 ⟨rfl, hB1⟩
    go_wp2_with (fail)
    go_ret2
    exact GivesL.nil (hB0.trans (hB1.mono hB0.size))

/-- Deeds of a register are done as they may. -/
theorem of_move {xs : List Deed} (hg : ∀ x ∈ xs, formedD x = true) {lo pa known : Int} : ∀ x ∈ ofPack xs lo pa known, MoveOk x := fun x hx => formed_move (hg x (ofPack_sub x hx))

set_option maxRecDepth 100000 in
set_option maxHeartbeats 3200000 in
theorem titlesOf_ok (lo pa : Int) (oo : Nat) (known hour dl : Int) (a : Option Addr) (n cap : Nat) (xs : List Deed) (w : World) (hL : Lst w 11 cD a n cap xs) (ho : oo ≤ 40) (he : askedE xs lo pa (oo : Int) dl 0 = 0) (hn : (ofPack xs lo pa known).length ≤ 18)
    (hc : calmD (claimedD (ofPack xs lo pa known) dl) dl hour (byHourD (ofPack xs lo pa known) ++ [farD]) (startR oo dl hour) = true) (rf : Run) (hr : doneD (ofPack xs lo pa known) oo dl hour = some rf) (hl : rf.s.length = 41) :
    Calls Tryz.prog 37 #[.slice a n cap, .int .i64 lo, .int .i64 pa, .int .i64 oo, .int .i64 known, .int .i64 hour, .int .i64 dl] w (GivesL w 66 3 cT (titlesD rf.s) 0) := by
  have hc0 : (checkDeeds xs).2 = 0 := by
    unfold askedE at he
    by_cases h : (checkDeeds xs).2 = 0
    · exact h
    · rw [if_neg h] at he; exact absurd he h
  have hmv := of_move (good_of_check hc0).1 (lo := lo) (pa := pa) (known := known)
  obtain ⟨w0, hw0⟩ : ∃ w0, w0 = w.alloc (.cells #[.int .i64 lo, .int .i64 pa, .int .i64 oo, .int .i64 dl] 110) := ⟨_, rfl⟩
  have k0 : Blk w0 w.heap.size #[.int .i64 lo, .int .i64 pa, .int .i64 oo, .int .i64 dl] 110 := hw0 ▸ Blk.new _ _ _
  have hB0 : RowKit.Below w.heap.size w w0 := hw0 ▸ (Below.refl _ w).alloc (Nat.le_refl _) _
  have ha := askedD_any lo pa oo dl known 0 a n cap xs w0 (hL.below hB0)
  unfold askedL at ha
  rw [he, if_pos rfl] at ha
  obtain ⟨own, hown⟩ : ∃ own, own = ofPack xs lo pa known := ⟨_, rfl⟩
  rw [← hown] at ha hn hc hr hmv
  have Hc := Lib.hid hc
  have Hr := Lib.hid hr
  have Hmv := Lib.hid hmv
  have Hl := Lib.hid hl
  clear hown he hc0 hc hr hmv hl hL
  go_enter Tryz.func37, Tryz.ntmps37
  go_upto_region 2 with fail
  rw [← hw0]
  clear hw0
  obtain ⟨b0, hb0⟩ : ∃ b, b = w.heap.size := ⟨_, rfl⟩
  rw [← hb0] at k0 ⊢
  clear hb0
  have c0 := k0.cell
  go_wp2_with (first
    | (refine wpList_load_mid rfl 110 _ rfl b0 0 rfl [.int .i64 lo, .int .i64 pa, .int .i64 oo, .int .i64 dl] _ (k0.range 0 _ (fun j v h => by simpa using h)) Tryz.underlying110 rfl (by kernel_rfl) ?_)
    | fail)
  refine ha.mono ?_
  clear ha
  rintro e w1 ⟨v1, rfl, ho1, hB1⟩
  obtain ⟨a1, c1, rfl, _, hL1⟩ := Lst.of_owns (k := 11) (enc := cD) (fun _ => rfl) (by omega) ho1 rfl
  have hd := doneD_ok lo pa oo dl hour a1 own.length c1 own w1 hL1 hn ho Hmv.out Hc.out rf Hr.out
  have k1 := k0.below' hB1
  clear c0 ho1
  have c1' := k1.cell
  go_wp2_with (first
    | (refine wpList_load_mid rfl 110 _ rfl b0 0 rfl [.int .i64 lo, .int .i64 pa, .int .i64 oo, .int .i64 dl] _ (k1.range 0 _ (fun j v h => by simpa using h)) Tryz.underlying110 rfl (by kernel_rfl) ?_)
    | fail)
  refine hd.mono ?_
  clear hd
  rintro e w2 ⟨v2, rfl, ho2, hB2⟩
  have hb2 := hB0.trans ((hB1.trans (hB2.mono hB1.size)).mono hB0.size)
  have ht := fun W => titlesD_any rf.s Hl.out W
  have hl41 := Hl.out
  have hsz2 : (Tryz.prog.info? 113).map (·.size) = some (cSs rf.s).size := by rw [cSs_size rf.s hl41]; kernel_rfl
  have hsz : (Tryz.prog.info? 113).map (·.size) = some (rf.s.flatMap cF).length := by rw [flat_len cF 2 (fun _ => rfl), hl41]; kernel_rfl
  have kz := Blk.new w2 113 Tryz.zeroCells113
  have hz82 : Tryz.zeroCells113.size = 82 := by kernel_rfl
  have kN : Blk ((w2.alloc (.cells Tryz.zeroCells113 113)).setCells w2.heap.size 0 (rf.s.flatMap cF)) w2.heap.size (cSs rf.s) 113 := by
    have q := kz.setCells 0 (rf.s.flatMap cF)
    have e : setAll Tryz.zeroCells113 0 (rf.s.flatMap cF) = cSs rf.s := by
      have := setAll_whole Tryz.zeroCells113.toList (rf.s.flatMap cF) (by rw [flat_len cF 2 (fun _ => rfl), hl41, Array.length_toList, hz82])
      rwa [Array.toArray_toList] at this
    rwa [e] at q
  have hBN := below_setCells ((Below.refl w2.heap.size w2).alloc (Nat.le_refl _) (.cells Tryz.zeroCells113 113)) (Nat.le_refl w2.heap.size) 0 (rf.s.flatMap cF)
  clear c1'
  go_wp2_with (first
    | (refine wpList_store_mid rfl 113 _ _ rfl w2.heap.size 0 (cSs rf.s) rfl rfl (kz.there 0 _ (by rw [cSs_size rf.s hl41, hz82]; omega)) hsz2 (cSs_one rf.s) ?_)
    | (refine wpList_load_mid rfl 113 _ rfl w2.heap.size 0 rfl (rf.s.flatMap cF) _ (kN.range 0 _ (fun j v h => by simpa using h)) Tryz.underlying113 rfl hsz ?_)
    | fail)
  refine (ht _).mono ?_
  clear ht
  rintro e w3 ⟨v3, rfl, ho3, hB3⟩
  go_wp2_with (fail)
  go_ret2
  have hb3 := hb2.trans ((hBN.trans (hB3.mono hBN.size)).mono hb2.size)
  exact ⟨v3, rfl, ownsRow_base_a ho3 (by have := hb2.size; have := hBN.size; omega), hb3⟩

end Go.Proofs.YtmeomhojbobpbaaGreatDoor

/-
  Walks: Idle, Claimed, Possible of package claim.
-/
namespace Go.Proofs.YtmeomhojbobpbaaGreatDoor
open Go.RowKit Lg Go.Sort Go.Shelf

set_option maxRecDepth 100000 in
set_option maxHeartbeats 3200000 in
theorem idleOf_ok (lo pa : Int) (oo : Nat) (known dl : Int) (a : Option Addr) (n cap : Nat) (xs : List Deed) (w : World) (hL : Lst w 11 cD a n cap xs) (ho : oo ≤ 40) (he : askedE xs lo pa (oo : Int) dl 0 = 0) (hn : (ofPack xs lo pa known).length ≤ 18)
    (hc : calmD (claimedD (ofPack xs lo pa known) dl) dl 1000001 (byHourD (ofPack xs lo pa known) ++ [farD]) (startR oo dl 1000001) = true) (rf : Run) (hr : doneD (ofPack xs lo pa known) oo dl 1000001 = some rf) (hl : rf.s.length = 41) :
    Calls Tryz.prog 35 #[.slice a n cap, .int .i64 lo, .int .i64 pa, .int .i64 oo, .int .i64 known, .int .i64 dl] w fun e w' => ∃ v, e = .returned (.tuple #[v, .int .i64 0]) ∧ w'.ownsRow w.heap.size 3 1 v rf.idle.length ((sortI rf.idle).map (Value.int .i64)) ∧ RowKit.Below w.heap.size w w' := by
  have hc0 : (checkDeeds xs).2 = 0 := by
    unfold askedE at he
    by_cases h : (checkDeeds xs).2 = 0
    · exact h
    · rw [if_neg h] at he; exact absurd he h
  have hmv := of_move (good_of_check hc0).1 (lo := lo) (pa := pa) (known := known)
  obtain ⟨w0, hw0⟩ : ∃ w0, w0 = w.alloc (.cells #[.int .i64 lo, .int .i64 pa, .int .i64 oo, .int .i64 dl] 110) := ⟨_, rfl⟩
  have k0 : Blk w0 w.heap.size #[.int .i64 lo, .int .i64 pa, .int .i64 oo, .int .i64 dl] 110 := hw0 ▸ Blk.new _ _ _
  have hB0 : RowKit.Below w.heap.size w w0 := hw0 ▸ (Below.refl _ w).alloc (Nat.le_refl _) _
  have ha := askedD_any lo pa oo dl known 0 a n cap xs w0 (hL.below hB0)
  unfold askedL at ha
  rw [he, if_pos rfl] at ha
  obtain ⟨own, hown⟩ : ∃ own, own = ofPack xs lo pa known := ⟨_, rfl⟩
  rw [← hown] at ha hn hc hr hmv
  have Hc := Lib.hid hc
  have Hr := Lib.hid hr
  have Hmv := Lib.hid hmv
  have Hl := Lib.hid hl
  clear hown he hc0 hc hr hmv hl hL
  go_enter Tryz.func35, Tryz.ntmps35
  go_upto_region 2 with fail
  rw [← hw0]
  clear hw0
  obtain ⟨b0, hb0⟩ : ∃ b, b = w.heap.size := ⟨_, rfl⟩
  rw [← hb0] at k0 ⊢
  clear hb0
  have c0 := k0.cell
  go_wp2_with (first
    | (refine wpList_load_mid rfl 110 _ rfl b0 0 rfl [.int .i64 lo, .int .i64 pa, .int .i64 oo, .int .i64 dl] _ (k0.range 0 _ (fun j v h => by simpa using h)) Tryz.underlying110 rfl (by kernel_rfl) ?_)
    | fail)
  refine ha.mono ?_
  clear ha
  rintro e w1 ⟨v1, rfl, ho1, hB1⟩
  obtain ⟨a1, c1, rfl, _, hL1⟩ := Lst.of_owns (k := 11) (enc := cD) (fun _ => rfl) (by omega) ho1 rfl
  have hd := doneD_ok lo pa oo dl 1000001 a1 own.length c1 own w1 hL1 hn ho Hmv.out Hc.out rf Hr.out
  have k1 := k0.below' hB1
  clear c0 ho1
  have c1' := k1.cell
  go_wp2_with (first
    | (refine wpList_load_mid rfl 110 _ rfl b0 0 rfl [.int .i64 lo, .int .i64 pa, .int .i64 oo, .int .i64 dl] _ (k1.range 0 _ (fun j v h => by simpa using h)) Tryz.underlying110 rfl (by kernel_rfl) ?_)
    | fail)
  refine hd.mono ?_
  clear hd
  rintro e w2 ⟨v2, rfl, ho2, hB2⟩
  have hb2 := hB0.trans ((hB1.trans (hB2.mono hB1.size)).mono hB0.size)
  have hl41 := Hl.out
  have hsz2 : (Tryz.prog.info? 113).map (·.size) = some (cSs rf.s).size := by rw [cSs_size rf.s hl41]; kernel_rfl
  have kz := Blk.new w2 113 Tryz.zeroCells113
  have hz82 : Tryz.zeroCells113.size = 82 := by kernel_rfl
  have kN : Blk ((w2.alloc (.cells Tryz.zeroCells113 113)).setCells w2.heap.size 0 (rf.s.flatMap cF)) w2.heap.size (cSs rf.s) 113 := by
    have q := kz.setCells 0 (rf.s.flatMap cF)
    have e : setAll Tryz.zeroCells113 0 (rf.s.flatMap cF) = cSs rf.s := by
      have := setAll_whole Tryz.zeroCells113.toList (rf.s.flatMap cF) (by rw [flat_len cF 2 (fun _ => rfl), hl41, Array.length_toList, hz82])
      rwa [Array.toArray_toList] at this
    rwa [e] at q
  have hBN := below_setCells ((Below.refl w2.heap.size w2).alloc (Nat.le_refl _) (.cells Tryz.zeroCells113 113)) (Nat.le_refl w2.heap.size) 0 (rf.s.flatMap cF)
  clear c1'
  go_wp2_with (first
    | (refine wpList_store_mid rfl 113 _ _ rfl w2.heap.size 0 (cSs rf.s) rfl rfl (kz.there 0 _ (by rw [cSs_size rf.s hl41, hz82]; omega)) hsz2 (cSs_one rf.s) ?_)
    | fail)
  go_ret2
  refine ⟨v2, rfl, ?_, hb2.trans (hBN.mono hb2.size)⟩
  exact ownsRow_base_a (own_below ho2 hBN) (hB0.trans (hB1.mono hB0.size)).size

set_option maxRecDepth 100000 in
set_option maxHeartbeats 1600000 in
theorem claimedOf_ok (lo pa known hour : Int) (a : Option Addr) (n cap : Nat) (xs : List Deed) (w : World) (hL : Lst w 11 cD a n cap xs) (he : askedE xs lo pa 1 (-1) 0 = 0) :
    Calls Tryz.prog 65 #[.slice a n cap, .int .i64 lo, .int .i64 pa, .int .i64 known, .int .i64 hour] w (GivesI w (claimedD (ofPack xs lo pa known) hour)) := by
  have hc0 : (checkDeeds xs).2 = 0 := by
    unfold askedE at he
    by_cases h : (checkDeeds xs).2 = 0
    · exact h
    · rw [if_neg h] at he; exact absurd he h
  have hln : (ofPack xs lo pa known).length ≤ 1000 := by
    have h1 := stO_len lo pa (cntD xs known) ([], [])
    have h2 : (cntD xs known).length ≤ xs.length := List.length_filter_le _ _
    have h3 := check_len hc0
    unfold ofPack
    simp only [List.length_nil] at h1
    omega
  obtain ⟨w0, hw0⟩ : ∃ w0, w0 = w.alloc (.cells #[.int .i64 lo, .int .i64 pa, .int .i64 1, .int .i64 (-1)] 110) := ⟨_, rfl⟩
  have k0 : Blk w0 w.heap.size #[.int .i64 lo, .int .i64 pa, .int .i64 1, .int .i64 (-1)] 110 := hw0 ▸ Blk.new _ _ _
  have hB0 : RowKit.Below w.heap.size w w0 := hw0 ▸ (Below.refl _ w).alloc (Nat.le_refl _) _
  have ha := askedD_any lo pa 1 (-1) known 0 a n cap xs w0 (hL.below hB0)
  unfold askedL at ha
  rw [he, if_pos rfl] at ha
  generalize ofPack xs lo pa known = own at *
  clear he hc0 hL
  go_enter Tryz.func65, Tryz.ntmps65
  go_upto_region 2 with fail
  rw [← hw0]
  clear hw0
  obtain ⟨b0, hb0⟩ : ∃ b, b = w.heap.size := ⟨_, rfl⟩
  rw [← hb0] at k0 ⊢
  clear hb0
  have c0 := k0.cell
  go_wp2_with (first
    | (refine wpList_load_mid rfl 110 _ rfl b0 0 rfl [.int .i64 lo, .int .i64 pa, .int .i64 1, .int .i64 (-1)] _ (k0.range 0 _ (fun j v h => by simpa using h)) Tryz.underlying110 rfl (by kernel_rfl) ?_)
    | fail)
  refine ha.mono ?_
  clear ha
  rintro e w1 ⟨v1, rfl, ho1, hB1⟩
  obtain ⟨a1, c1, rfl, _, hL1⟩ := Lst.of_owns (k := 11) (enc := cD) (fun _ => rfl) (by omega) ho1 rfl
  have hd := claimedD_any a1 own.length c1 own hour w1 hL1 hln
  clear c0 ho1
  go_wp2_with (fail)
  refine hd.mono ?_
  clear hd
  rintro e w2 ⟨v2, rfl, ho2, hB2⟩
  go_wp2_with (fail)
  go_ret
  have hb1 := hB0.trans (hB1.mono hB0.size)
  exact ⟨v2, rfl, ownsRow_base_a ho2 hb1.size, hb1.trans (hB2.mono hb1.size)⟩

set_option maxRecDepth 100000 in
set_option maxHeartbeats 3200000 in
/-- A further deed that would be idle. -/
theorem possible_idle (oo : Nat) (dl : Int) (a : Option Addr) (n cap : Nat) (xs : List Deed) (x : Deed) (w : World) (hL : Lst w 11 cD a n cap xs) (ho : oo ≤ 40) (hap : appendDeed xs x = (xs ++ [x], 0)) (hm : movesD x.kind = true) (he : askedE (xs ++ [x]) x.loss x.pack (oo : Int) dl 0 = 0) (hn : (ofPack (xs ++ [x]) x.loss x.pack x.known).length ≤ 18)
    (hc : calmD (claimedD (ofPack (xs ++ [x]) x.loss x.pack x.known) dl) dl 1000001 (byHourD (ofPack (xs ++ [x]) x.loss x.pack x.known) ++ [farD]) (startR oo dl 1000001) = true) (rf : Run) (hr : doneD (ofPack (xs ++ [x]) x.loss x.pack x.known) oo dl 1000001 = some rf) (hl : rf.s.length = 41) (hi : (sortI rf.idle).contains x.id = true) (hil : (sortI rf.idle).length = rf.idle.length) :
    Calls Tryz.prog 64 #[.slice a n cap, aD x, .int .i64 oo, .int .i64 dl] w (Gives w (.int .i64 50)) := by
  obtain ⟨w0, hw0⟩ : ∃ w0, w0 = w.alloc (.cells #[.int .i64 x.id, .int .i64 x.known, .int .i64 x.hour, .int .u8 x.kind, .int .i64 x.loss, .int .i64 x.pack, .int .i64 x.from_, .int .i64 x.to_, .int .i64 x.share.num, .int .i64 x.share.den, .int .i64 x.of_] 36) := ⟨_, rfl⟩
  have k0 : Blk w0 w.heap.size #[.int .i64 x.id, .int .i64 x.known, .int .i64 x.hour, .int .u8 x.kind, .int .i64 x.loss, .int .i64 x.pack, .int .i64 x.from_, .int .i64 x.to_, .int .i64 x.share.num, .int .i64 x.share.den, .int .i64 x.of_] 36 := hw0 ▸ Blk.new _ _ _
  have hB0 : RowKit.Below w.heap.size w w0 := hw0 ▸ (Below.refl _ w).alloc (Nat.le_refl _) _
  have hA := appendD_any a n cap xs x w0 (hL.below hB0)
  rw [hap] at hA
  have hmk := fun W => movesK_any x.kind W
  rw [hm] at hmk
  have hI := fun a2 n2 c2 W hW => idleOf_ok x.loss x.pack oo x.known dl a2 n2 c2 (xs ++ [x]) W hW ho he hn hc rf hr hl
  have Hi := Lib.hid hi
  have Hil := Lib.hid hil
  clear hap he hn hc hr hl hi hm hil hL
  go_enter Tryz.func64, Tryz.ntmps64
  go_upto_region 1 with fail
  rw [← hw0]
  clear hw0
  obtain ⟨b0, hb0⟩ : ∃ b, b = w.heap.size := ⟨_, rfl⟩
  rw [← hb0] at k0 ⊢
  clear hb0
  have c0 := k0.cell
  go_wp2_with (first
    | (refine wpList_load_mid rfl 36 _ rfl b0 0 rfl (cD x) _ (k0.range 0 _ (fun j v h => by simpa using h)) Tryz.underlying36 rfl (by kernel_rfl) ?_)
    | fail)
  refine hA.mono ?_
  clear hA
  rintro e w1 ⟨v1, rfl, ho1, hB1⟩
  obtain ⟨a1, c1, rfl, _, hL1⟩ := Lst.of_owns (k := 11) (enc := cD) (fun _ => rfl) (by omega) ho1 rfl
  have k1 := k0.below' hB1
  clear c0 ho1
  have d1 := k1.cell
  have l1 := k1.lt
  obtain ⟨m, hmm⟩ : ∃ m, m = (xs ++ [x]).length := ⟨_, rfl⟩
  rw [← hmm] at hL1 ⊢
  clear hmm
  go_wp2_with (first
    | (go_at_call 125; refine (hmk _).mono ?_; rintro e w9 ⟨rfl, rfl⟩)
    | fail)
  have hB2 := (Below.refl w1.heap.size w1).alloc (Nat.le_refl _) (.cells #[.int .i64 x.loss, .int .i64 x.pack, .int .i64 oo, .int .i64 dl] 110)
  refine (hI a1 m c1 _ (hL1.below hB2)).mono ?_
  clear hI
  rintro e w3 ⟨v3, rfl, ho3, hB3⟩
  have hb1 := hB0.trans (hB1.mono hB0.size)
  have hb2 := hb1.trans (hB2.mono hb1.size)
  have hb3 := hb2.trans (hB3.mono hb2.size)
  rw [← flat_int] at ho3
  obtain ⟨a3, c3, rfl, _, hL3⟩ := Lst.of_owns (k := 1) (enc := cI) (fun _ => rfl) (by omega) ho3 Hil.out
  have k3 := (k1.alloc (.cells #[.int .i64 x.loss, .int .i64 x.pack, .int .i64 oo, .int .i64 dl] 110)).below' hB3
  have d3 := k3.cell
  have hct := containsI_any a3 rf.idle.length c3 (sortI rf.idle) x.id w3 hL3
  rw [Hi.out] at hct
  clear d1 l1 ho3
  go_wp2_with (fail)
  refine hct.mono ?_
  clear hct
  rintro e w4 ⟨rfl, rfl⟩
  go_wp2_with (fail)
  go_ret
  exact ⟨rfl, hb3⟩

end Go.Proofs.YtmeomhojbobpbaaGreatDoor
