import Derived.Test.YtollegoajlfdiaaGreatPart32
import Derived.Test.YtollegoajlfdiaaGreatPart35
import Derived.Test.YtollegoajlfdiaaGreatPart10
import Derived.Test.YtollegoajlfdiaaGreatPart02
import Derived.Sort.LotA
/-
  Walks: the reference's Fees, parties, Equal.
-/
namespace Go.Proofs.YtollegoajlfdiaaGreat
open Go.RowKit Lg Go.Sort Go.Shelf

theorem rateOk_of {x : Rate} (h : rateOk x = true) (h0 : x.of_ ≠ 0) : 1 ≤ x.of_ := by
  unfold rateOk at h
  rw [if_pos h0] at h
  simp only [Bool.and_eq_true, inn_iff] at h
  omega

theorem saleOk_of {x : Sale} (h : saleOk x = true) (h0 : x.of_ ≠ 0) : 1 ≤ x.of_ := by
  unfold saleOk at h
  rw [if_pos h0] at h
  simp only [Bool.and_eq_true, inn_iff] at h
  omega

set_option maxRecDepth 100000 in
set_option maxHeartbeats 1600000 in
theorem feesR_any (r : Rate) (s : Sale) (w : World) :
    Calls Tryz.prog 25 #[aR r, aS s] w (Gives w (.tuple #[.int .i64 (feesOf r s).1.1, .int .i64 (feesOf r s).1.2, .int .i64 (feesOf r s).2])) := by
  have e99 : s.hour - s.since + 100 - 1 = s.hour - s.since + 99 := by omega
  obtain ⟨v, hv⟩ : ∃ v, v = feesOf r s := ⟨_, rfl⟩
  rw [← hv]
  unfold feesOf at hv
  rw [e99] at hv
  have Hv := Lib.hid hv; clear hv
  have kR : Blk ((w.alloc (.cells (cR r).toArray 26)).alloc (.cells (cS s).toArray 39)) w.heap.size (cR r).toArray 26 := (Blk.new w _ _).alloc _
  have kS : Blk ((w.alloc (.cells (cR r).toArray 26)).alloc (.cells (cS s).toArray 39)) (w.heap.size + 1) (cS s).toArray 39 := by
    have := Blk.new (w.alloc (.cells (cR r).toArray 26)) 39 (cS s).toArray
    simpa using this
  have hb1 : RowKit.Below w.heap.size w ((w.alloc (.cells (cR r).toArray 26)).alloc (.cells (cS s).toArray 39)) := ((Below.refl _ w).alloc (Nat.le_refl _) _).alloc (by simp) _
  have hC := fun W => checkRateR_any r W
  have hD := fun W => checkSaleR_any s W
  rcases Bool.eq_false_or_eq_true (rateOk r) with hr | hr <;> simp only [hr, if_true, if_false, Bool.false_eq_true] at hC <;> have Hr := Lib.hid hr <;> clear hr
  · rcases Bool.eq_false_or_eq_true (saleOk s) with hs | hs <;> simp only [hs, if_true, if_false, Bool.false_eq_true] at hD <;> have Hs := Lib.hid hs <;> clear hs
    · by_cases hro : r.of_ = 0
      · have gro : (r.of_ != 0) = false := by simpa using hro
        have Hro := Lib.hid hro; clear hro
        by_cases hso : s.of_ = 0
        · have gso : (s.of_ != 0) = false := by simpa using hso
          have Hso := Lib.hid hso; clear hso
          obtain ⟨-, -, -, hst1, hst2, -⟩ := rateOk_bounds Hr.out (by have := Hro.out; omega)
          obtain ⟨-, h1, h2, h3, -⟩ := saleOk_bounds Hs.out (by have := Hso.out; omega)
          have hq := fee_bound h1 h2 h3 hst1 hst2
          rw [e99] at hq
          clear e99
          by_cases hc : 0 < s.carter
          · have gc : decide (0 < s.carter) = true := by simpa using hc
            have Hc := Lib.hid hc; clear hc
            by_cases hk : 0 < s.keeper
            · have gk : decide (0 < s.keeper) = true := by simpa using hk
              have Hk := Lib.hid hk; clear hk
              go_enter Tryz.func25, Tryz.ntmps25; go_wp2_with (first | (go_at_call 64; refine (hC _).mono ?_; rintro e w2 ⟨rfl, hB2⟩; have kS2 := kS.below' hB2; have kR2 := kR.below' hB2; have cS2 := kS2.cell; have cR2 := kR2.cell; have hb2 := hb1.trans (hB2.mono hb1.size)) | (go_at_call 65; refine (hD _).mono ?_; rintro e w3 ⟨rfl, hB3⟩; have kS3 := kS2.below' hB3; have kR3 := kR2.below' hB3; clear cS2 cR2; have cS3 := kS3.cell; have cR3 := kR3.cell; have hb3 := hb2.trans (hB3.mono hb2.size))); refine bodyPost_ret (results_tmp3 rfl _ _ _) rfl ⟨?_, hb3⟩; rw [Hv.out]; simp [Hr.out, Hs.out, Hro.out, Hso.out, if_pos Hc.out, if_pos Hk.out]
            · have gk : decide (0 < s.keeper) = false := by simpa using hk
              have Hk := Lib.hid hk; clear hk
              go_enter Tryz.func25, Tryz.ntmps25; go_wp2_with (first | (go_at_call 64; refine (hC _).mono ?_; rintro e w2 ⟨rfl, hB2⟩; have kS2 := kS.below' hB2; have kR2 := kR.below' hB2; have cS2 := kS2.cell; have cR2 := kR2.cell; have hb2 := hb1.trans (hB2.mono hb1.size)) | (go_at_call 65; refine (hD _).mono ?_; rintro e w3 ⟨rfl, hB3⟩; have kS3 := kS2.below' hB3; have kR3 := kR2.below' hB3; clear cS2 cR2; have cS3 := kS3.cell; have cR3 := kR3.cell; have hb3 := hb2.trans (hB3.mono hb2.size))); refine bodyPost_ret (results_tmp3 rfl _ _ _) rfl ⟨?_, hb3⟩; rw [Hv.out]; simp [Hr.out, Hs.out, Hro.out, Hso.out, if_pos Hc.out, if_neg (Int.not_lt.2 Hk.out)]
          · have gc : decide (0 < s.carter) = false := by simpa using hc
            have Hc := Lib.hid hc; clear hc
            by_cases hk : 0 < s.keeper
            · have gk : decide (0 < s.keeper) = true := by simpa using hk
              have Hk := Lib.hid hk; clear hk
              go_enter Tryz.func25, Tryz.ntmps25; go_wp2_with (first | (go_at_call 64; refine (hC _).mono ?_; rintro e w2 ⟨rfl, hB2⟩; have kS2 := kS.below' hB2; have kR2 := kR.below' hB2; have cS2 := kS2.cell; have cR2 := kR2.cell; have hb2 := hb1.trans (hB2.mono hb1.size)) | (go_at_call 65; refine (hD _).mono ?_; rintro e w3 ⟨rfl, hB3⟩; have kS3 := kS2.below' hB3; have kR3 := kR2.below' hB3; clear cS2 cR2; have cS3 := kS3.cell; have cR3 := kR3.cell; have hb3 := hb2.trans (hB3.mono hb2.size))); refine bodyPost_ret (results_tmp3 rfl _ _ _) rfl ⟨?_, hb3⟩; rw [Hv.out]; simp [Hr.out, Hs.out, Hro.out, Hso.out, if_neg (Int.not_lt.2 Hc.out), if_pos Hk.out]
            · have gk : decide (0 < s.keeper) = false := by simpa using hk
              have Hk := Lib.hid hk; clear hk
              go_enter Tryz.func25, Tryz.ntmps25; go_wp2_with (first | (go_at_call 64; refine (hC _).mono ?_; rintro e w2 ⟨rfl, hB2⟩; have kS2 := kS.below' hB2; have kR2 := kR.below' hB2; have cS2 := kS2.cell; have cR2 := kR2.cell; have hb2 := hb1.trans (hB2.mono hb1.size)) | (go_at_call 65; refine (hD _).mono ?_; rintro e w3 ⟨rfl, hB3⟩; have kS3 := kS2.below' hB3; have kR3 := kR2.below' hB3; clear cS2 cR2; have cS3 := kS3.cell; have cR3 := kR3.cell; have hb3 := hb2.trans (hB3.mono hb2.size))); refine bodyPost_ret (results_tmp3 rfl _ _ _) rfl ⟨?_, hb3⟩; rw [Hv.out]; simp [Hr.out, Hs.out, Hro.out, Hso.out, if_neg (Int.not_lt.2 Hc.out), if_neg (Int.not_lt.2 Hk.out)]
        · have gso : (s.of_ != 0) = true := by simpa using hso
          have Hso : Hid (¬ s.of_ ≤ 0) := Lib.hid (by have := saleOk_of Hs.out hso; omega)
          clear hso e99
          go_enter Tryz.func25, Tryz.ntmps25; go_wp2_with (first | (go_at_call 64; refine (hC _).mono ?_; rintro e w2 ⟨rfl, hB2⟩; have kS2 := kS.below' hB2; have kR2 := kR.below' hB2; have cS2 := kS2.cell; have cR2 := kR2.cell; have hb2 := hb1.trans (hB2.mono hb1.size)) | (go_at_call 65; refine (hD _).mono ?_; rintro e w3 ⟨rfl, hB3⟩; have kS3 := kS2.below' hB3; have kR3 := kR2.below' hB3; clear cS2 cR2; have cS3 := kS3.cell; have cR3 := kR3.cell; have hb3 := hb2.trans (hB3.mono hb2.size))); refine bodyPost_ret (results_tmp3 rfl _ _ _) rfl ⟨?_, hb3⟩; rw [Hv.out]; simp [Hr.out, Hs.out, Hro.out, Int.not_le.2 Hso.out]
      · have gro : (r.of_ != 0) = true := by simpa using hro
        have Hro : Hid (¬ r.of_ ≤ 0) := Lib.hid (by have := rateOk_of Hr.out hro; omega)
        clear hro e99
        go_enter Tryz.func25, Tryz.ntmps25; go_wp2_with (first | (go_at_call 64; refine (hC _).mono ?_; rintro e w2 ⟨rfl, hB2⟩; have kS2 := kS.below' hB2; have kR2 := kR.below' hB2; have cS2 := kS2.cell; have cR2 := kR2.cell; have hb2 := hb1.trans (hB2.mono hb1.size)) | (go_at_call 65; refine (hD _).mono ?_; rintro e w3 ⟨rfl, hB3⟩; have kS3 := kS2.below' hB3; have kR3 := kR2.below' hB3; clear cS2 cR2; have cS3 := kS3.cell; have cR3 := kR3.cell; have hb3 := hb2.trans (hB3.mono hb2.size))); refine bodyPost_ret (results_tmp3 rfl _ _ _) rfl ⟨?_, hb3⟩; rw [Hv.out]; simp [Hr.out, Hs.out, Int.not_le.2 Hro.out]
    · clear e99
      go_enter Tryz.func25, Tryz.ntmps25; go_wp2_with (first | (go_at_call 64; refine (hC _).mono ?_; rintro e w2 ⟨rfl, hB2⟩; have kS2 := kS.below' hB2; have kR2 := kR.below' hB2; have cS2 := kS2.cell; have cR2 := kR2.cell; have hb2 := hb1.trans (hB2.mono hb1.size)) | (go_at_call 65; refine (hD _).mono ?_; rintro e w3 ⟨rfl, hB3⟩; have kS3 := kS2.below' hB3; have kR3 := kR2.below' hB3; clear cS2 cR2; have cS3 := kS3.cell; have cR3 := kR3.cell; have hb3 := hb2.trans (hB3.mono hb2.size))); refine bodyPost_ret (results_tmp3 rfl _ _ _) rfl ⟨?_, hb3⟩; rw [Hv.out]; simp [Hr.out, Hs.out]
  · clear e99
    go_enter Tryz.func25, Tryz.ntmps25; go_wp2_with (first | (go_at_call 64; refine (hC _).mono ?_; rintro e w2 ⟨rfl, hB2⟩; have kS2 := kS.below' hB2; have kR2 := kR.below' hB2; have cS2 := kS2.cell; have cR2 := kR2.cell; have hb2 := hb1.trans (hB2.mono hb1.size)) | (go_at_call 65; refine (hD _).mono ?_; rintro e w3 ⟨rfl, hB3⟩; have kS3 := kS2.below' hB3; have kR3 := kR2.below' hB3; clear cS2 cR2; have cS3 := kS3.cell; have cR3 := kR3.cell; have hb3 := hb2.trans (hB3.mono hb2.size))); refine bodyPost_ret (results_tmp3 rfl _ _ _) rfl ⟨?_, hb2⟩; rw [Hv.out]; simp [Hr.out]

set_option maxRecDepth 100000 in
set_option maxHeartbeats 1600000 in
theorem partiesR_any (a : Option Addr) (n cap : Nat) (xs : List Int) (w : World) (hL : Lst w 1 cI a n cap xs) :
    Calls Tryz.prog 69 #[.slice a n cap] w (Gives w (.bool (partiesOk xs))) := by
  have hm : cap ≤ 9223372036854775807 := by have := hL.max; unfold maxLen at this; omega
  have hle := hL.le
  have Hlen := Lib.hid hL.len
  obtain ⟨q, hq⟩ : ∃ q, q = partiesOk xs := ⟨_, rfl⟩
  rw [← hq]
  unfold partiesOk at hq
  rw [hL.len] at hq
  have Hq := Lib.hid hq
  clear hq
  go_enter Tryz.func69, Tryz.ntmps69
  go_wp2_with (fail)
  go_loopw [3] (fun i wr => ∃ k : Nat, k ≤ n ∧ i = .int .i64 k ∧ Hid (∀ p ∈ xs.take k, inn p 1 40 = true) ∧ RowKit.Below w.heap.size w wr) (fun i _ => n - (intOf i).toNat)
  case atStart => exact ⟨0, Nat.zero_le _, rfl, Lib.hid (by simp), Below.refl _ _⟩
  case round =>
    obtain ⟨k, hk, rfl, Hall, hB⟩ := hrel
    by_cases hlt : k < n
    · have hltz : (k : Int) < (n : Int) := by omega
      obtain ⟨p, hp⟩ : ∃ p, xs[k]? = some p := ⟨xs[k]'(by rw [Hlen.out]; exact hlt), by simp⟩
      obtain ⟨bb, off, rfl, hbb, hrg⟩ := (hL.below hB).at_ k p hp
      have c0 := hrg 0 _ rfl
      simp only [Nat.mul_one, Nat.add_zero] at c0
      have hin := within6_any p 1 40 wr
      have hall : inn p 1 40 = true → ∀ y ∈ xs.take (k + 1), inn y 1 40 = true := fun h y hy => by
        obtain ⟨h1, h2⟩ := List.getElem?_eq_some_iff.1 hp
        rw [List.take_succ_eq_append_getElem h1, h2, List.mem_append, List.mem_singleton] at hy
        rcases hy with hy | rfl
        · exact Hall.out y hy
        · exact h
      have hany : inn p 1 40 = false → (xs.any fun p => !inn p 1 40) = true := fun h => List.any_eq_true.2 ⟨p, List.mem_of_getElem? hp, by rw [h]; rfl⟩
      have Hall2 := Lib.hid hall
      have Hany := Lib.hid hany
      clear hrg hp hall hany Hall
      generalize inn p 1 40 = z at *
      cases z with
      | false =>
        have hq := Hq.out
        rw [Hany.out rfl, Bool.not_true, Bool.and_false] at hq
        subst hq
        clear Hq Hany Hall2
        go_wp2_with (fail)
        refine hin.mono ?_
        rintro e w3 ⟨rfl, rfl⟩
        go_wp2_with (fail)
        go_ret
        exact ⟨rfl, hB⟩
      | true =>
        go_wp2_with (fail)
        refine hin.mono ?_
        rintro e w3 ⟨rfl, rfl⟩
        go_wp2_with (fail)
        go_roundw
        case rel => exact ⟨k + 1, by omega, by go_num, Lib.hid (Hall2.out (by first | rfl | trivial)), hB⟩
        case measure => simp [intOf]; omega
    · obtain rfl : k = n := by omega
      have hall := Hall.out
      rw [List.take_of_length_le (by rw [Hlen.out]; exact Nat.le_refl _)] at hall
      have hq := Hq.out
      have hany : (xs.any fun p => !inn p 1 40) = false := by
        rw [Bool.eq_false_iff]
        intro h
        obtain ⟨y, hy, h2⟩ := List.any_eq_true.1 h
        rw [hall y hy] at h2; cases h2
      rw [hany, Bool.not_false, Bool.and_true] at hq
      clear Hall hall hany Hq
      by_cases h1 : (1 : Int) ≤ (k : Int)
      · by_cases h2 : (k : Int) ≤ 40
        · have : q = true := by rw [hq]; exact (inn_iff _ _ _).2 ⟨h1, h2⟩
          subst this
          clear hq
          go_wp2_with (fail)
          go_ret
          exact ⟨rfl, hB⟩
        · have : q = false := by rw [hq]; exact Bool.eq_false_iff.2 (fun e => h2 ((inn_iff _ _ _).1 e).2)
          subst this
          clear hq
          go_wp2_with (fail)
          go_ret
          exact ⟨rfl, hB⟩
      · have : q = false := by rw [hq]; exact Bool.eq_false_iff.2 (fun e => h1 ((inn_iff _ _ _).1 e).1)
        subst this
        clear hq
        go_wp2_with (fail)
        go_ret
        exact ⟨rfl, hB⟩

theorem eqMap_snoc (pence : Int) (n k : Nat) : (List.range (k + 1)).map (eqVal pence n) = (List.range k).map (eqVal pence n) ++ [eqVal pence n k] := by
  rw [List.range_succ, List.map_append]; rfl

set_option maxRecDepth 100000 in
set_option maxHeartbeats 1600000 in
theorem equalR_any (pence : Int) (a : Option Addr) (n cap : Nat) (xs : List Int) (w : World) (hL : Lst w 1 cI a n cap xs) :
    Calls Tryz.prog 27 #[.int .i64 pence, .slice a n cap] w (GivesL w 3 1 cI (equalOf pence xs).1 (equalOf pence xs).2) := by
  obtain ⟨r, hr⟩ : ∃ r, r = equalOf pence xs := ⟨_, rfl⟩
  rw [← hr]
  unfold equalOf at hr
  have hp := partiesR_any a n cap xs w hL
  have hin := within6_any pence 0 1000000000 w
  rcases Bool.eq_false_or_eq_true (inn pence 0 1000000000) with h1 | h1
  · rw [h1] at hin
    rcases Bool.eq_false_or_eq_true (partiesOk xs) with h2 | h2
    · rw [h2] at hp
      have hb1 := (inn_iff _ _ _).1 h1
      have hb2 : 1 ≤ n ∧ n ≤ 40 := by
        unfold partiesOk at h2
        simp only [Bool.and_eq_true, inn_iff, hL.len] at h2
        omega
      rw [h1, h2, hL.len] at hr
      simp only [Bool.and_self, if_true] at hr
      have Hr := Lib.hid hr; clear hr h1 h2
      obtain ⟨hb10, hb11⟩ := hb1
      obtain ⟨hb20, hb21⟩ := hb2
      have hq : 0 ≤ pence.tdiv n ∧ pence.tdiv n ≤ 1000000000 := by
        rw [Int.tdiv_eq_ediv_of_nonneg hb10]
        exact ⟨Int.ediv_nonneg hb10 (by omega), Int.le_trans (Int.ediv_le_self _ hb10) hb11⟩
      obtain ⟨hq1, hq2⟩ := hq
      have htm : pence.tmod (n : Int) = pence % (n : Int) := Int.tmod_eq_emod_of_nonneg hb10
      obtain ⟨i0, hi0, hz0, hz1, hz2⟩ := info_parts infoI
      go_enter Tryz.func27, Tryz.ntmps27
      go_wp2_with (first | (go_at_call 68; refine hin.mono ?_; rintro e w3 ⟨rfl, rfl⟩) | (go_at_call 69; refine hp.mono ?_; rintro e w4 ⟨rfl, hB⟩))
      clear hp hin
      go_loopw [6, 7] (fun o i wr => ∃ k : Nat, k ≤ n ∧ i = .int .i64 k ∧ wr.ownsRow w.heap.size 3 1 o k (((List.range k).map (eqVal pence n)).flatMap cI) ∧ RowKit.Below w.heap.size w wr) (fun _ i _ => n - (intOf i).toNat)
      case atStart => exact ⟨0, Nat.zero_le _, rfl, ⟨by simp, .inl ⟨rfl, rfl⟩⟩, hB⟩
      case round =>
        obtain ⟨k, hk, rfl, ho, hBr⟩ := hrel
        by_cases hlt : k < n
        · have hsn := eqMap_snoc pence n k
          have Hsn := Lib.hid hsn
          have Ho := Lib.hid ho
          clear hsn ho
          by_cases hm : (k : Int) < pence % (n : Int)
          · have hv : eqVal pence n k = pence.tdiv n + 1 := by unfold eqVal; rw [if_pos hm]
            have Hv := Lib.hid hv; clear hv
            go_wp2_with (first
              | (at_builtin; refine wpList_append_list rfl _ _ _ rfl w.heap.size 3 i0 _ 1 8 Tryz.underlying35 hi0 hz0 hz1 hz2 rfl (by omega) _ _ _ rfl (Ho.out.alloc _) cI (fun _ => rfl) cI_one _ 1 _ [pence.tdiv n + 1] rfl (Lst.oneI (Blk.new _ _ _)) (by unfold maxLen; omega) (by omega) (by have := hBr.size; simp; omega) ?_; intro v2 w2 hown2 hgrow2; have hB2 := below_of_grown (hBr.alloc hBr.size _) (Nat.le_refl _) hgrow2 (own_ge' Ho.out))
              | fail)
            go_roundw
            case rel =>
              refine ⟨k + 1, by omega, by go_num, ?_, hB2⟩
              rw [Hsn.out, List.flatMap_append, Hv.out]
              exact hown2
            case measure => simp [intOf]; omega
          · have hv : eqVal pence n k = pence.tdiv n := by unfold eqVal; rw [if_neg hm, Int.add_zero]
            have Hv := Lib.hid hv; clear hv
            go_wp2_with (first
              | (at_builtin; refine wpList_append_list rfl _ _ _ rfl w.heap.size 3 i0 _ 1 8 Tryz.underlying35 hi0 hz0 hz1 hz2 rfl (by omega) _ _ _ rfl (Ho.out.alloc _) cI (fun _ => rfl) cI_one _ 1 _ [pence.tdiv n] rfl (Lst.oneI (Blk.new _ _ _)) (by unfold maxLen; omega) (by omega) (by have := hBr.size; simp; omega) ?_; intro v2 w2 hown2 hgrow2; have hB2 := below_of_grown (hBr.alloc hBr.size _) (Nat.le_refl _) hgrow2 (own_ge' Ho.out))
              | fail)
            go_roundw
            case rel =>
              refine ⟨k + 1, by omega, by go_num, ?_, hB2⟩
              rw [Hsn.out, List.flatMap_append, Hv.out]
              exact hown2
            case measure => simp [intOf]; omega
        · obtain rfl : k = n := by omega
          have Ho := Lib.hid ho; clear ho
          go_wp2_with (fail)
          go_ret2
          rw [Hr.out]
          refine ⟨_, rfl, ?_, hBr⟩
          have h := Ho.out
          rw [List.length_map, List.length_range]
          exact h
    · rw [h2] at hp
      rw [h1, h2] at hr
      have Hr := Lib.hid hr; clear hr h1 h2
      go_enter Tryz.func27, Tryz.ntmps27
      go_wp2_with (first | (go_at_call 68; refine hin.mono ?_; rintro e w3 ⟨rfl, rfl⟩) | (go_at_call 69; refine hp.mono ?_; rintro e w4 ⟨rfl, hB⟩))
      go_ret2
      rw [Hr.out]
      exact GivesL.nil hB
  · rw [h1] at hin
    rw [h1] at hr
    have Hr := Lib.hid hr; clear hr h1
    go_enter Tryz.func27, Tryz.ntmps27
    go_wp2_with (go_at_call 68; refine hin.mono ?_; rintro e w3 ⟨rfl, rfl⟩)
    go_ret2
    rw [Hr.out]
    exact GivesL.nil (Below.refl _ _)

end Go.Proofs.YtollegoajlfdiaaGreat

/-
  Plain laws: the library's stable sort sorts, and equals keep their order.
-/
namespace Lg
open Go Go.Sort

theorem at_eq (d : Array Nat) {i j : Nat} (h : i = j) : d[i]! = d[j]! := by rw [h]

theorem swapRange_get (d : Array Nat) (a b n : Nat) (ha : a + n ≤ b) (hb : b + n ≤ d.size) : ∀ k,
    (swapRange d a b n)[k]! = if a ≤ k ∧ k < a + n then d[k + b - a]! else if b ≤ k ∧ k < b + n then d[k + a - b]! else d[k]! := by
  induction n with
  | zero => intro k; rw [swapRange, if_neg (by omega), if_neg (by omega)]
  | succ n ih =>
    intro k
    have ih := ih (by omega) (by omega)
    have e1 : (swapRange d a b n)[a + n]! = d[a + n]! := by rw [ih, if_neg (by omega), if_neg (by omega)]
    have e2 : (swapRange d a b n)[b + n]! = d[b + n]! := by rw [ih, if_neg (by omega), if_neg (by omega)]
    rw [swapRange, swp_get _ (by rw [swapRange_size]; omega) (by rw [swapRange_size]; omega), e1, e2, ih k]
    clear ih e1 e2
    (repeat' split) <;> first | exact at_eq d (by omega) | (exfalso; omega)

theorem swapRange_perm {lo hi : Nat} (d : Array Nat) (a b n : Nat) (h1 : lo ≤ a) (h2 : a + n ≤ hi) (h3 : lo ≤ b) (h4 : b + n ≤ hi) (h5 : hi ≤ d.size) : PermIn lo hi d (swapRange d a b n) := by
  induction n with
  | zero => exact permIn_refl d lo hi
  | succ n ih =>
    exact permIn_trans _ _ _ lo hi (ih (by omega) (by omega)) (swp_permIn _ lo hi (a + n) (b + n) (by omega) (by omega) (by omega) (by omega) (by rw [swapRange_size]; exact h5))

theorem rotL_get (m i j : Nat) (d : Array Nat) : i ≤ m → m + j ≤ d.size → ∀ k,
    (rotL m i j d)[k]! = if m - i ≤ k ∧ k < m - i + j then d[k + i]! else if m - i + j ≤ k ∧ k < m + j then d[k - j]! else d[k]! := by
  fun_induction rotL m i j d with
  | case1 j d =>
    intro h1 h2 k
    rw [swapRange_get d _ _ _ (by omega) (by omega)]
    (repeat' split) <;> first | exact at_eq d (by omega) | (exfalso; omega)
  | case2 i j d h0 hlt hj ih =>
    intro h1 h2 k
    have g := swapRange_get d (m - i) m j (by omega) (by omega)
    rw [ih (by omega) (by rw [swapRange_size]; omega), g, g, g]
    clear ih g
    (repeat' split) <;> first | exact at_eq d (by omega) | (exfalso; omega)
  | case3 i j d h0 hlt hj =>
    intro h1 h2 k
    (repeat' split) <;> first | exact at_eq d (by omega) | (exfalso; omega)
  | case4 i j d h0 hlt hi ih =>
    intro h1 h2 k
    have g := swapRange_get d (m - i) (m + j - i) i (by omega) (by omega)
    rw [ih (by omega) (by rw [swapRange_size]; omega), g, g, g]
    clear ih g
    (repeat' split) <;> first | exact at_eq d (by omega) | (exfalso; omega)
  | case5 i j d h0 hlt hi =>
    intro h1 h2 k
    (repeat' split) <;> first | exact at_eq d (by omega) | (exfalso; omega)

theorem rotL_perm {lo hi : Nat} (m i j : Nat) (d : Array Nat) : lo + i ≤ m → m + j ≤ hi → hi ≤ d.size → PermIn lo hi d (rotL m i j d) := by
  fun_induction rotL m i j d with
  | case1 j d => intro h1 h2 h3; exact swapRange_perm d _ _ _ (by omega) (by omega) (by omega) (by omega) h3
  | case2 i j d h0 hlt hj ih =>
    intro h1 h2 h3
    exact permIn_trans _ _ _ lo hi (swapRange_perm d _ _ _ (by omega) (by omega) (by omega) (by omega) h3) (ih (by omega) (by omega) (by rw [swapRange_size]; exact h3))
  | case3 i j d h0 hlt hj => intro h1 h2 h3; exact permIn_refl d lo hi
  | case4 i j d h0 hlt hi ih =>
    intro h1 h2 h3
    exact permIn_trans _ _ _ lo _ (swapRange_perm d _ _ _ (by omega) (by omega) (by omega) (by omega) h3) (ih (by omega) (by omega) (by rw [swapRange_size]; exact h3))
  | case5 i j d h0 hlt hi => intro h1 h2 h3; exact permIn_refl d lo _

theorem shUp_get (d : Array Nat) (a n : Nat) (h : a + n < d.size) : ∀ k,
    (shUp d a n)[k]! = if a ≤ k ∧ k < a + n then d[k + 1]! else if k = a + n then d[a]! else d[k]! := by
  induction n with
  | zero => intro k; rw [shUp]; (repeat' split) <;> first | exact at_eq d (by omega) | (exfalso; omega)
  | succ n ih =>
    intro k
    have ih := ih (by omega)
    have e1 : (shUp d a n)[a + n]! = d[a]! := by rw [ih, if_neg (by omega), if_pos rfl]
    have e2 : (shUp d a n)[a + n + 1]! = d[a + n + 1]! := by rw [ih, if_neg (by omega), if_neg (by omega)]
    rw [shUp, swp_get _ (by rw [shUp_size]; omega) (by rw [shUp_size]; omega), e1, e2, ih k]
    clear ih e1 e2
    (repeat' split) <;> first | exact at_eq d (by omega) | (exfalso; omega)

theorem shUp_perm {lo hi : Nat} (d : Array Nat) (a n : Nat) (h1 : lo ≤ a) (h2 : a + n < hi) (h3 : hi ≤ d.size) : PermIn lo hi d (shUp d a n) := by
  induction n with
  | zero => exact permIn_refl d lo hi
  | succ n ih => exact permIn_trans _ _ _ lo hi (ih (by omega)) (swp_permIn _ lo hi _ _ (by omega) (by omega) (by omega) (by omega) (by rw [shUp_size]; exact h3))

theorem shDn_get (d : Array Nat) (m n : Nat) (h : m < d.size) (hn : n ≤ m) : ∀ k,
    (shDn d m n)[k]! = if m - n < k ∧ k ≤ m then d[k - 1]! else if k = m - n then d[m]! else d[k]! := by
  induction n with
  | zero => intro k; rw [shDn]; (repeat' split) <;> first | exact at_eq d (by omega) | (exfalso; omega)
  | succ n ih =>
    intro k
    have ih := ih (by omega)
    have e1 : (shDn d m n)[m - n]! = d[m]! := by rw [ih, if_neg (by omega), if_pos rfl]
    have e2 : (shDn d m n)[m - n - 1]! = d[m - n - 1]! := by rw [ih, if_neg (by omega), if_neg (by omega)]
    rw [shDn, swp_get _ (by rw [shDn_size]; omega) (by rw [shDn_size]; omega), e1, e2, ih k]
    clear ih e1 e2
    (repeat' split) <;> first | exact at_eq d (by omega) | (exfalso; omega)

theorem shDn_perm {lo hi : Nat} (d : Array Nat) (m n : Nat) (h1 : lo + n ≤ m) (h2 : m < hi) (h3 : hi ≤ d.size) : PermIn lo hi d (shDn d m n) := by
  induction n with
  | zero => exact permIn_refl d lo hi
  | succ n ih => exact permIn_trans _ _ _ lo hi (ih (by omega)) (swp_permIn _ lo hi _ _ (by omega) (by omega) (by omega) (by omega) (by rw [shDn_size]; exact h3))

/-- A binary search for the end of what holds from the start on. -/
theorem bsc_spec (p : Nat → Bool) (i j : Nat) : i ≤ j → (∀ k k', i ≤ k → k ≤ k' → k' < j → p k' = true → p k = true) →
    (∀ k, i ≤ k → k < bsc p i j → p k = true) ∧ (∀ k, bsc p i j ≤ k → k < j → p k = false) := by
  fun_induction bsc p i j with
  | case1 i j h1 h2 ih =>
    intro hij hm
    obtain ⟨a, b⟩ := ih (by omega) (fun k k' q1 q2 q3 q4 => hm k k' (by omega) q2 q3 q4)
    refine ⟨fun k q1 q2 => ?_, b⟩
    by_cases q : k ≤ (i + j) / 2
    · exact hm k _ q1 q (by omega) h2
    · exact a k (by omega) q2
  | case2 i j h1 h2 ih =>
    intro hij hm
    obtain ⟨a, b⟩ := ih (by omega) (fun k k' q1 q2 q3 q4 => hm k k' (by omega) q2 (by omega) q4)
    refine ⟨a, fun k q1 q2 => ?_⟩
    by_cases q : k < (i + j) / 2
    · exact b k q1 q
    · cases hp : p k with
      | false => rfl
      | true => exact absurd (hm _ k (by omega) (by omega) q2 hp) h2
  | case3 i j h1 =>
    intro hij hm
    exact ⟨fun k q1 q2 => by omega, fun k q1 q2 => by omega⟩

section
variable {lt lt' : Nat → Nat → Bool}

theorem sortedL (hS : SWO lt') {a b : Nat} {d : Array Nat} (h : SortedIn lt' a b d) {i j : Nat} (h1 : a ≤ i) (h2 : i ≤ j) (h3 : j < b) : lt' d[j]! d[i]! = false := by
  by_cases e : i = j
  · subst e; exact hS.irrefl _
  · exact h i j h1 (by omega) h3

/-- The last element of the first range into the second one. -/
theorem merge_first (hS : SWO lt') {a m b : Nat} {d : Array Nat} (hm : m = a + 1) (hmb : m < b) (hb : b ≤ d.size) (hR : SortedIn lt' m b d)
    (hC : ∀ i j, a ≤ i → i < m → m ≤ j → j < b → lt d[j]! d[i]! = lt' d[j]! d[i]!) :
    PermIn a b d (shUp d a (bsc (fun h => lt d[h]! d[a]!) m b - 1 - a)) ∧ SortedIn lt' a b (shUp d a (bsc (fun h => lt d[h]! d[a]!) m b - 1 - a)) := by
  have hc : ∀ j, m ≤ j → j < b → lt d[j]! d[a]! = lt' d[j]! d[a]! := fun j h1 h2 => hC a j (Nat.le_refl _) (by omega) h1 h2
  obtain ⟨t1, t2⟩ := bsc_bd (fun h => lt d[h]! d[a]!) m b (by omega)
  obtain ⟨p1, p2⟩ := bsc_spec (fun h => lt d[h]! d[a]!) m b (by omega) (fun k k' q1 q2 q3 q4 => by
    rw [hc k' (by omega) q3] at q4
    rw [hc k q1 (by omega)]
    cases e : lt' d[k]! d[a]! with
    | true => rfl
    | false => rw [hS.ntrans _ _ _ (sortedL hS hR q1 q2 q3) e] at q4; cases q4)
  generalize bsc (fun h => lt d[h]! d[a]!) m b = t at *
  have g := shUp_get d a (t - 1 - a) (by omega)
  refine ⟨shUp_perm d a _ (Nat.le_refl _) (by omega) hb, fun i j h1 h2 h3 => ?_⟩
  rw [g, g]
  by_cases c1 : i < t - 1
  · rw [if_pos (show a ≤ i ∧ i < a + (t - 1 - a) by omega)]
    by_cases c2 : j < t - 1
    · rw [if_pos (by omega)]; exact hR _ _ (by omega) (by omega) (by omega)
    rw [if_neg (by omega)]
    by_cases c3 : j = t - 1
    · rw [if_pos (by omega)]
      have := p1 (i + 1) (by omega) (by omega)
      rw [hc _ (by omega) (by omega)] at this
      exact hS.asymmA this
    · rw [if_neg (by omega)]; exact hR _ _ (by omega) (by omega) (by omega)
  rw [if_neg (show ¬ (a ≤ i ∧ i < a + (t - 1 - a)) by omega), if_neg (show ¬ (a ≤ j ∧ j < a + (t - 1 - a)) by omega), if_neg (show ¬ j = a + (t - 1 - a) by omega)]
  by_cases c2 : i = t - 1
  · rw [if_pos (by omega)]
    have := p2 j (by omega) h3
    rw [hc _ (by omega) h3] at this
    exact this
  · rw [if_neg (by omega)]; exact hR _ _ (by omega) h2 h3

/-- The first element of the second range into the first one. -/
theorem merge_last (hS : SWO lt') {a m b : Nat} {d : Array Nat} (hm : b = m + 1) (ham : a < m) (hb : b ≤ d.size) (hL : SortedIn lt' a m d)
    (hC : ∀ i j, a ≤ i → i < m → m ≤ j → j < b → lt d[j]! d[i]! = lt' d[j]! d[i]!) :
    PermIn a b d (shDn d m (m - bsc (fun h => !lt d[m]! d[h]!) a m)) ∧ SortedIn lt' a b (shDn d m (m - bsc (fun h => !lt d[m]! d[h]!) a m)) := by
  have hc : ∀ i, a ≤ i → i < m → lt d[m]! d[i]! = lt' d[m]! d[i]! := fun i h1 h2 => hC i m h1 h2 (Nat.le_refl _) (by omega)
  obtain ⟨t1, t2⟩ := bsc_bd (fun h => !lt d[m]! d[h]!) a m (by omega)
  obtain ⟨p1, p2⟩ := bsc_spec (fun h => !lt d[m]! d[h]!) a m (by omega) (fun k k' q1 q2 q3 q4 => by
    rw [hc k' (by omega) q3, Bool.not_eq_true'] at q4
    rw [hc k q1 (by omega), Bool.not_eq_true']
    exact hS.ntrans _ _ _ q4 (sortedL hS hL q1 q2 q3))
  generalize bsc (fun h => !lt d[m]! d[h]!) a m = t at *
  have g := shDn_get d m (m - t) (by omega) (by omega)
  refine ⟨shDn_perm d m _ (by omega) (by omega) hb, fun i j h1 h2 h3 => ?_⟩
  rw [g, g]
  by_cases c1 : i < t
  · rw [if_neg (show ¬ (m - (m - t) < i ∧ i ≤ m) by omega), if_neg (show ¬ i = m - (m - t) by omega)]
    by_cases c2 : j < t
    · rw [if_neg (by omega), if_neg (by omega)]; exact hL _ _ h1 h2 (by omega)
    by_cases c3 : j = t
    · rw [if_neg (by omega), if_pos (by omega)]
      have := p1 i h1 c1
      rw [hc _ h1 (by omega), Bool.not_eq_true'] at this
      exact this
    · rw [if_pos (by omega)]; exact hL _ _ h1 (by omega) (by omega)
  rw [if_pos (show m - (m - t) < j ∧ j ≤ m by omega)]
  by_cases c2 : i = t
  · rw [if_neg (by omega), if_pos (by omega)]
    have := p2 (j - 1) (by omega) (by omega)
    rw [hc _ (by omega) (by omega), Bool.not_eq_false'] at this
    exact hS.asymmA this
  · rw [if_pos (by omega)]; exact hL _ _ (by omega) (by omega) (by omega)

/-- The merge of two neighbouring ranges. -/
theorem symM_spec (hS : SWO lt') : ∀ (f a m b : Nat) (d : Array Nat), b - a ≤ f → a < m → m < b → b ≤ d.size → SortedIn lt' a m d → SortedIn lt' m b d →
    (∀ i j, a ≤ i → i < m → m ≤ j → j < b → lt d[j]! d[i]! = lt' d[j]! d[i]!) →
    PermIn a b d (symM lt f a m b d) ∧ SortedIn lt' a b (symM lt f a m b d) := by
  intro f
  induction f with
  | zero => intro a m b d hf; omega
  | succ f ih =>
    intro a m b d hf ham hmb hb hL hR hC
    rw [symM]
    by_cases q1 : m - a = 1
    · rw [if_pos q1]; exact merge_first hS (by omega) hmb hb hR hC
    rw [if_neg q1]
    by_cases q2 : b - m = 1
    · rw [if_pos q2]; exact merge_last hS (by omega) ham hb hL hC
    rw [if_neg q2]
    dsimp only
    obtain ⟨mid, hmid⟩ : ∃ mid, mid = (a + b) / 2 := ⟨_, rfl⟩
    rw [← hmid]
    have hst : symStart lt a m b d = bsc (fun c => !lt d[mid + m - 1 - c]! d[c]!) (if mid < m then mid + m - b else a) (if mid < m then mid else m) := by unfold symStart; rw [← hmid]
    rw [hst]
    have hlo : a ≤ (if mid < m then mid + m - b else a) ∧ (if mid < m then mid + m - b else a) ≤ (if mid < m then mid else m) := by split <;> omega
    have hhi : (if mid < m then mid else m) ≤ m ∧ (if mid < m then mid else m) ≤ mid := by split <;> omega
    have hrng : ∀ c, (if mid < m then mid + m - b else a) ≤ c → c < (if mid < m then mid else m) → m ≤ mid + m - 1 - c ∧ mid + m - 1 - c < b := by intro c; split <;> omega
    have hend : (mid < m → ((if mid < m then mid + m - b else a) = mid + m - b ∧ (if mid < m then mid else m) = mid)) ∧ (¬ mid < m → ((if mid < m then mid + m - b else a) = a ∧ (if mid < m then mid else m) = m)) := by
      refine ⟨fun h => ?_, fun h => ?_⟩
      · rw [if_pos h, if_pos h]; exact ⟨rfl, rfl⟩
      · rw [if_neg h, if_neg h]; exact ⟨rfl, rfl⟩
    generalize (if mid < m then mid + m - b else a) = lo at *
    generalize (if mid < m then mid else m) = hi at *
    have hc : ∀ c, lo ≤ c → c < hi → lt d[mid + m - 1 - c]! d[c]! = lt' d[mid + m - 1 - c]! d[c]! := fun c h1 h2 => hC c _ (by omega) (by omega) (hrng c h1 h2).1 (hrng c h1 h2).2
    obtain ⟨s1, s2⟩ := bsc_bd (fun c => !lt d[mid + m - 1 - c]! d[c]!) lo hi hlo.2
    obtain ⟨p1, p2⟩ := bsc_spec (fun c => !lt d[mid + m - 1 - c]! d[c]!) lo hi hlo.2 (fun k k' k1 k2 k3 k4 => by
      rw [hc k' (by omega) k3, Bool.not_eq_true'] at k4
      rw [hc k k1 (by omega), Bool.not_eq_true']
      exact hS.ntrans _ _ _ (hS.ntrans _ _ _ (sortedL hS hR (hrng k' (by omega) k3).1 (by omega) (hrng k k1 (by omega)).2) k4) (sortedL hS hL (by omega) k2 (by omega)))
    have pA : ∀ c, lo ≤ c → c < bsc (fun c => !lt d[mid + m - 1 - c]! d[c]!) lo hi → lt' d[mid + m - 1 - c]! d[c]! = false := fun c h1 h2 => by
      have := p1 c h1 h2
      rw [hc c h1 (by omega), Bool.not_eq_true'] at this
      exact this
    have pB : ∀ c, bsc (fun c => !lt d[mid + m - 1 - c]! d[c]!) lo hi ≤ c → c < hi → lt' d[mid + m - 1 - c]! d[c]! = true := fun c h1 h2 => by
      have := p2 c h1 h2
      rw [hc c (by omega) h2, Bool.not_eq_false'] at this
      exact this
    clear p1 p2 hst
    generalize bsc (fun c => !lt d[mid + m - 1 - c]! d[c]!) lo hi = s at *
    obtain ⟨e, he⟩ : ∃ e, e = mid + m - s := ⟨_, rfl⟩
    rw [← he]
    have heb : m ≤ e ∧ e ≤ b := by
      by_cases hq : mid < m
      · have := hend.1 hq; omega
      · have := hend.2 hq; omega
    obtain ⟨d1, hd1⟩ : ∃ d1, d1 = if s < m ∧ m < e then rotate d s m e else d := ⟨_, rfl⟩
    rw [← hd1]
    have g1 : ∀ k, d1[k]! = if s ≤ k ∧ k < mid then d[k + m - s]! else if mid ≤ k ∧ k < e then d[k + s - mid]! else d[k]! := by
      intro k
      rw [hd1]
      by_cases hq : s < m ∧ m < e
      · rw [if_pos hq]
        unfold rotate
        rw [rotL_get m (m - s) (e - m) d (by omega) (by omega)]
        clear hd1
        (repeat' split) <;> first | exact at_eq d (by omega) | (exfalso; omega)
      · rw [if_neg hq]
        clear hd1
        (repeat' split) <;> first | exact at_eq d (by omega) | (exfalso; omega)
    have P1 : PermIn a b d d1 := by
      rw [hd1]
      by_cases hq : s < m ∧ m < e
      · rw [if_pos hq]; exact rotL_perm m (m - s) (e - m) d (by omega) (by omega) hb
      · rw [if_neg hq]; exact permIn_refl d a b
    have z1 : d1.size = d.size := P1.1
    -- what lies where
    have w1 : ∀ k, a ≤ k → k < s → d1[k]! = d[k]! := fun k h1 h2 => by rw [g1, if_neg (by omega), if_neg (by omega)]
    have w2 : ∀ k, s ≤ k → k < mid → d1[k]! = d[k + m - s]! := fun k h1 h2 => by rw [g1, if_pos ⟨h1, h2⟩]
    have w3 : ∀ k, mid ≤ k → k < e → d1[k]! = d[k + s - mid]! := fun k h1 h2 => by rw [g1, if_neg (by omega), if_pos ⟨h1, h2⟩]
    have w4 : ∀ k, e ≤ k → k < b → d1[k]! = d[k]! := fun k h1 h2 => by rw [g1, if_neg (by omega), if_neg (by omega)]
    have X : ∀ i j, a ≤ i → i < mid → mid ≤ j → j < b → lt' d1[j]! d1[i]! = false := by
      intro i j i1 i2 j1 j2
      by_cases ci : i < s
      · rw [w1 i i1 ci]
        by_cases cj : j < e
        · rw [w3 j j1 cj]; exact hL _ _ i1 (by omega) (by omega)
        · rw [w4 j (by omega) j2]
          by_cases hq : lo ≤ s - 1
          · have h := pA (s - 1) hq (by omega)
            rw [show mid + m - 1 - (s - 1) = e by omega] at h
            exact hS.ntrans _ _ _ (hS.ntrans _ _ _ (sortedL hS hR (by omega) (by omega) j2) h) (sortedL hS hL i1 (by omega) (by omega))
          · exfalso
            by_cases hq2 : mid < m
            · have := hend.1 hq2; omega
            · have := hend.2 hq2; omega
      · rw [w2 i (by omega) i2]
        by_cases cj : j < e
        · rw [w3 j j1 cj]
          by_cases hq : s < hi
          · have h := hS.asymmA (pB s (Nat.le_refl _) hq)
            rw [show mid + m - 1 - s = e - 1 by omega] at h
            exact hS.ntrans _ _ _ (hS.ntrans _ _ _ (sortedL hS hL (by omega) (by omega) (by omega)) h) (sortedL hS hR (by omega) (by omega) (by omega))
          · exfalso
            by_cases hq2 : mid < m
            · have := hend.1 hq2; omega
            · have := hend.2 hq2; omega
        · rw [w4 j (by omega) j2]; exact hR _ _ (by omega) (by omega) j2
    have S1 : SortedIn lt' a s d1 := fun i j h1 h2 h3 => by rw [w1 i h1 (by omega), w1 j (by omega) h3]; exact hL _ _ h1 h2 (by omega)
    have S2 : SortedIn lt' s mid d1 := fun i j h1 h2 h3 => by rw [w2 i h1 (by omega), w2 j (by omega) h3]; exact hR _ _ (by omega) (by omega) (by omega)
    have S3 : SortedIn lt' mid e d1 := fun i j h1 h2 h3 => by rw [w3 i h1 (by omega), w3 j (by omega) h3]; exact hL _ _ (by omega) (by omega) (by omega)
    have S4 : SortedIn lt' e b d1 := fun i j h1 h2 h3 => by rw [w4 i h1 (by omega), w4 j (by omega) h3]; exact hR _ _ (by omega) h2 h3
    have C1 : ∀ i j, a ≤ i → i < s → s ≤ j → j < mid → lt d1[j]! d1[i]! = lt' d1[j]! d1[i]! := fun i j h1 h2 h3 h4 => by
      rw [w1 i h1 h2, w2 j h3 h4]; exact hC _ _ h1 (by omega) (by omega) (by omega)
    have C2 : ∀ i j, mid ≤ i → i < e → e ≤ j → j < b → lt d1[j]! d1[i]! = lt' d1[j]! d1[i]! := fun i j h1 h2 h3 h4 => by
      rw [w3 i h1 h2, w4 j h3 h4]; exact hC _ _ (by omega) (by omega) (by omega) h4
    have hsm : a ≤ s ∧ s ≤ mid ∧ mid ≤ e := by omega
    clear w1 w2 w3 w4 g1 pA pB hC hL hR hd1 hrng hc
    obtain ⟨d2, hd2⟩ : ∃ d2, d2 = if a < s ∧ s < mid then symM lt f a s mid d1 else d1 := ⟨_, rfl⟩
    rw [← hd2]
    obtain ⟨P2, T2⟩ : PermIn a mid d1 d2 ∧ SortedIn lt' a mid d2 := by
      rw [hd2]
      by_cases hq : a < s ∧ s < mid
      · rw [if_pos hq]; exact ih a s mid d1 (by omega) hq.1 hq.2 (by omega) S1 S2 C1
      · rw [if_neg hq]
        refine ⟨permIn_refl d1 a mid, ?_⟩
        by_cases hq2 : s = a
        · subst hq2; exact S2
        · obtain rfl : s = mid := by omega
          exact S1
    have z2 : d2.size = d1.size := P2.1
    have v2 : ∀ k, mid ≤ k → d2[k]! = d1[k]! := fun k h => P2.2.1 k (.inr h)
    obtain ⟨d3, hd3⟩ : ∃ d3, d3 = if mid < e ∧ e < b then symM lt f mid e b d2 else d2 := ⟨_, rfl⟩
    rw [← hd3]
    have S3' : SortedIn lt' mid e d2 := fun i j h1 h2 h3 => by rw [v2 i h1, v2 j (by omega)]; exact S3 _ _ h1 h2 h3
    have S4' : SortedIn lt' e b d2 := fun i j h1 h2 h3 => by rw [v2 i (by omega), v2 j (by omega)]; exact S4 _ _ h1 h2 h3
    obtain ⟨P3, T3⟩ : PermIn mid b d2 d3 ∧ SortedIn lt' mid b d3 := by
      rw [hd3]
      by_cases hq : mid < e ∧ e < b
      · rw [if_pos hq]
        exact ih mid e b d2 (by omega) hq.1 hq.2 (by omega) S3' S4' (fun i j h1 h2 h3 h4 => by rw [v2 i h1, v2 j (by omega)]; exact C2 _ _ h1 h2 h3 h4)
      · rw [if_neg hq]
        refine ⟨permIn_refl d2 mid b, ?_⟩
        by_cases hq2 : e = mid
        · subst hq2; exact S4'
        · obtain rfl : e = b := by omega
          exact S3'
    have v3 : ∀ k, k < mid → d3[k]! = d2[k]! := fun k h => P3.2.1 k (.inl h)
    refine ⟨permIn_trans _ _ _ a b (permIn_trans _ _ _ a b P1 (permIn_mono d1 d2 a mid a b (Nat.le_refl _) (by omega) (by omega) P2)) (permIn_mono d2 d3 mid b a b (by omega) (Nat.le_refl _) (by omega) P3), fun i j h1 h2 h3 => ?_⟩
    by_cases ci : mid ≤ i
    · exact T3 i j ci h2 h3
    by_cases cj : j < mid
    · rw [v3 i (by omega), v3 j cj]; exact T2 i j h1 h2 cj
    rw [v3 i (by omega)]
    refine permIn_all d1 d2 a mid (fun x => lt' d3[j]! x = false) (by omega) P2 (fun i' i1 i2 => ?_) i h1 (by omega)
    exact permIn_all d2 d3 mid b (fun y => lt' y d1[i']! = false) (by omega) P3 (fun j' j1 j2 => by rw [v2 j' j1]; exact X i' j' i1 i2 j1 j2) j (by omega) h3
end
end Lg
