import Derived.Test.YtollegoajlfdiaaGreatPart37
import Derived.Test.YtollegoajlfdiaaGreatPart35
import Derived.Test.YtollegoajlfdiaaGreatPart29
import Derived.Test.YtollegoajlfdiaaGreatPart31
import Derived.Test.YtollegoajlfdiaaGreatPart23
import Derived.Test.YtollegoajlfdiaaGreatPart24
/-
  Walks: the reference's Sold.
-/
namespace Go.Proofs.YtollegoajlfdiaaGreat
open Go.RowKit Lg Go.Sort Go.Shelf

theorem maxLen_of {c : Nat} (h : c ≤ 9223372036854775807) : c ≤ maxLen := by unfold maxLen; omega

theorem sold_snoc (P : Sale → Bool) (l : List Sale) (k : Nat) (x : Sale) (h : l[k]? = some x) :
    (((l.take (k + 1)).filter P).map Sale.parcel).foldl insD [] = if P x = true then insD ((((l.take k).filter P).map Sale.parcel).foldl insD []) x.parcel else (((l.take k).filter P).map Sale.parcel).foldl insD [] := by
  obtain ⟨h1, h2⟩ := List.getElem?_eq_some_iff.1 h
  rw [List.take_succ_eq_append_getElem h1, h2, List.filter_append, List.map_append, List.foldl_append]
  cases hp : P x <;> simp [hp]

set_option maxRecDepth 100000 in
set_option maxHeartbeats 6400000 in
theorem soldR_any (a : Option Addr) (n cap : Nat) (xs : List Sale) (known : Int) (w : World) (hn : n ≤ 300) (hL : Lst w 9 cS a n cap xs) :
    Calls Tryz.prog 52 #[.slice a n cap, .int .i64 known] w (GivesI w (soldI xs known)) := by
  have hm : cap ≤ 9223372036854775807 := by have := hL.max; unfold maxLen at this; omega
  have hle := hL.le
  have hlen := Lib.hid hL.len
  have hcr := checkSalesR_any a n cap xs _ hn hL
  by_cases h0 : (checkSales xs).2 = 0
  · rw [h0] at hcr
    obtain ⟨P, hP⟩ : ∃ P : Sale → Bool, P = fun y => counts (xs.map Sale.head) known y.head := ⟨_, rfl⟩
    have Hq : Hid (soldI xs known = ((xs.filter P).map Sale.parcel).foldl insD []) := Lib.hid (by unfold soldI cntS; rw [if_pos h0, hP])
    have HSl := Lib.hid (fun W (hB : RowKit.Below w.heap.size w W) => salesR_any a n cap xs W hn (hL.below hB))
    have HL := Lib.hid hL
    have HP := Lib.hid hP
    obtain ⟨i0, hi0, hz0, hz1, hz2⟩ := info_parts infoI
    generalize (checkSales xs).1 = c1 at *
    generalize soldI xs known = qs at *
    clear h0 hL hP
    go_enter Tryz.func52, Tryz.ntmps52
    go_wp2_with (fail)
    refine hcr.mono ?_
    clear hcr
    rintro e w2 ⟨rfl, hb2⟩
    go_wp2_with (fail)
    refine (HSl.out w2 hb2).mono ?_
    rintro e w3 ⟨ah, ch, rfl, hLh, hB3⟩
    have hb3 := hb2.trans (hB3.mono hb2.size)
    have hmh : ch ≤ 9223372036854775807 := by have := hLh.max; unfold maxLen at this; omega
    have hlh := hLh.le
    have HLh := Lib.hid hLh
    clear hLh hB3 hb2 HSl
    go_wp2_with (fail)
    go_loopw [8, 9] (fun o i wr => ∃ k : Nat, k ≤ n ∧ i = .int .i64 k ∧ ∃ S : List Int, Hid (S = (((xs.take k).filter P).map Sale.parcel).foldl insD []) ∧ (S = [] → o = .slice none 0 0) ∧ S.length ≤ k ∧ wr.ownsRow w.heap.size 3 1 o S.length (S.flatMap cI) ∧ RowKit.Below w3.heap.size w3 wr) (fun _ i _ => n - (intOf i).toNat)
    case atStart => exact ⟨0, Nat.zero_le _, rfl, [], Lib.hid rfl, fun _ => rfl, Nat.le_refl _, ⟨by simp, .inl ⟨rfl, rfl⟩⟩, Below.refl _ _⟩
    case round =>
      obtain ⟨k, hk, rfl, S, HS, hSn, hS2, hor, hB⟩ := hrel
      have hBw := hb3.trans (hB.mono hb3.size)
      by_cases hlt : k < n
      · have hltz : (k : Int) < (n : Int) := by omega
        have hkz : (0 : Int) ≤ (k : Int) := by omega
        obtain ⟨x, hx⟩ : ∃ x, xs[k]? = some x := ⟨xs[k]'(by rw [hlen.out]; exact hlt), by simp⟩
        have hhx : (xs.map Sale.head)[k]? = some x.head := by rw [List.getElem?_map, hx]; rfl
        have hsn := sold_snoc P xs k x hx
        rw [← HS.out] at hsn
        have hLw := HLh.out.below hB
        have hLr := HL.out.below hBw
        obtain ⟨bh, oh, rfl, hbh, hrh⟩ := hLw.at_ k _ hhx
        have c0 := hrh 0 _ rfl
        have c1 := hrh 1 _ rfl
        have c2 := hrh 2 _ rfl
        simp only [Nat.add_zero] at c0
        obtain ⟨bb, off, rfl, hbb, hr⟩ := HL.out.at_ k x hx
        have hr3 := hr 3 _ rfl
        have HM := Lib.hid (fun W (h : RowKit.Below w.heap.size w W) => (h.cell (p := ⟨bb, off + k * 9 + 3, none⟩) hbb).trans hr3)
        have cF := countsR_any (some ⟨bh, oh, none⟩) n ch (xs.map Sale.head) x.head known wr hLw
        have hPx : P x = counts (xs.map Sale.head) known x.head := by rw [HP.out]
        rw [hPx] at hsn
        generalize counts (xs.map Sale.head) known x.head = cb at *
        have Hsn := Lib.hid hsn
        clear hrh hr hr3 hLw hLr hhx hx hPx hsn
        cases cb with
        | false =>
          go_wp2_with (fail)
          refine cF.mono ?_
          rintro e W5 ⟨rfl, hB5⟩
          go_wp2_with (fail)
          go_roundw
          case rel => exact ⟨k + 1, by omega, by go_num, S, Lib.hid (by rw [Hsn.out]; rfl), hSn, by omega, own_below hor hB5, hB.trans (hB5.mono hB.size)⟩
          case measure => simp [intOf]; omega
        | true =>
          have hsn := Hsn.out
          rw [if_pos rfl] at hsn
          have Hsn2 := Lib.hid hsn
          clear hsn Hsn
          go_wp2_with (fail)
          refine cF.mono ?_
          rintro e W5 ⟨rfl, hB5⟩
          have hor5 := own_below hor hB5
          have hBw5 := hBw.trans (hB5.mono hBw.size)
          have hB35 := hB.trans (hB5.mono hB.size)
          clear c0 c1 c2 cF hor hB5 hBw hB
          by_cases hne : S = []
          · obtain rfl := hSn hne
            subst hne
            clear hSn
            go_wp2_with (fail)
            go_loopw [10] (fun j wi' => j = .int .i64 0 ∧ RowKit.Below W5.heap.size W5 wi') (fun j _ => 0)
            case atStart => exact ⟨rfl, Below.refl _ _⟩
            case round =>
              obtain ⟨rfl, hBi⟩ := hrel
              have hBw := hBw5.trans (hBi.mono hBw5.size)
              have hB3w := hB35.trans (hBi.mono hB35.size)
              have c2 := HM.out _ hBw
              have hdr : ∀ d, RowKit.Below wr.heap.size wr (wr.drewN d) := fun d => below_drewN' (Below.refl _ wr) d
              have Hdr := Lib.hid hdr
              clear hdr
              go_wp2_with (fail)
              go_quiet (fail)
              go_wp2_with (first
                | (at_builtin; refine wpList_append_list rfl _ _ _ rfl wr.heap.size 3 i0 _ 1 8 Tryz.underlying35 hi0 hz0 hz1 hz2 rfl (by omega) (.slice none 0 0) 0 [] rfl ⟨by simp, .inl ⟨rfl, rfl⟩⟩ cI (fun _ => rfl) cI_one _ 0 _ [] rfl (Lst.zero _ _ _ _ _ (maxLen_of (by omega))) (by unfold maxLen; omega) (by omega) (Nat.le_refl _) ?_; intro v1 w1 hown1 hgrow1; have hB1 := below_of_grown (Hdr.out _) (Nat.le_refl _) hgrow1 (fun r h => by cases h); have c3 := HM.out _ (hBw.trans (hB1.mono hBw.size)))
                | (at_builtin; refine wpList_append_list rfl _ _ _ rfl wr.heap.size 3 i0 _ 1 8 Tryz.underlying35 hi0 hz0 hz1 hz2 rfl (by omega) _ _ _ rfl (hown1.alloc _) cI (fun _ => rfl) cI_one _ 1 _ [x.parcel] rfl (Lst.oneI (Blk.new _ _ _)) (by unfold maxLen; omega) (by omega) (by have := hB1.size; simp; omega) ?_; intro v2 w2 hown2 hgrow2; have hB2 := below_of_grown (hB1.alloc hB1.size _) (Nat.le_refl _) hgrow2 (own_ge' hown1))
                | (at_builtin; refine wpList_append_list rfl _ _ _ rfl wr.heap.size 3 i0 _ 1 8 Tryz.underlying35 hi0 hz0 hz1 hz2 rfl (by omega) _ _ _ rfl hown2 cI (fun _ => rfl) cI_one _ 0 _ [] rfl (Lst.zero _ _ _ _ _ (maxLen_of (by omega))) (by unfold maxLen; omega) (by omega) hB2.size ?_; intro v3 w3 hown3 hgrow3; have hB3 := below_of_grown hB2 (Nat.le_refl _) hgrow3 (own_ge' hown2))
                | fail)
              go_roundw
              case rel => exact ⟨k + 1, by omega, by go_num, [x.parcel], Lib.hid (by rw [Hsn2.out]; rfl), (fun h => by cases h), by simp, hown3.mono hBw.size, hB3w.trans (hB3.mono hB3w.size)⟩
              case measure => simp [intOf]; omega
          · have hS1 : 1 ≤ S.length := by
              cases S with
              | nil => exact absurd rfl hne
              | cons _ _ => simp
            clear hSn hne
            obtain ⟨g, cv, rfl, hg, hgl⟩ := hor5.form (by omega)
            obtain ⟨av, cv', e, _, hl⟩ := Lst.of_owns (k := 1) (enc := cI) (fun _ => rfl) (by omega) hor5 rfl
            obtain ⟨rfl, rfl⟩ : av = some ⟨g, 0, none⟩ ∧ cv' = cv := by injection e with e1 e2 e3; exact ⟨e1.symm, e3.symm⟩
            have hmv : cv' ≤ 9223372036854775807 := by have := hl.max; unfold maxLen at this; omega
            have hlv := hl.le
            have Hl := Lib.hid hl
            clear e hl hor5
            obtain ⟨m, hmS⟩ : ∃ m, m = S.length := ⟨_, rfl⟩
            rw [← hmS] at hlv hS1 hS2 ⊢
            have HmS := Lib.hid hmS
            clear hmS HS
            go_wp2_with (fail)
            go_loopw [10] (fun j wi' => ∃ q : Nat, q ≤ m ∧ j = .int .i64 q ∧ RowKit.Below W5.heap.size W5 wi' ∧ Hid (∀ i t, i < q → S[i]? = some t → t < x.parcel)) (fun j _ => m - (intOf j).toNat)
            case atStart => exact ⟨0, Nat.zero_le _, rfl, Below.refl _ _, Lib.hid (fun i t h => absurd h (Nat.not_lt_zero _))⟩
            case round =>
              obtain ⟨q, hq, rfl, hBi, Hq5⟩ := hrel
              have hBw := hBw5.trans (hBi.mono hBw5.size)
              have hB3w := hB35.trans (hBi.mono hB35.size)
              have c2 := HM.out _ hBw
              have hl := Hl.out.below hBi
              have hdr : ∀ d, RowKit.Below wr.heap.size wr (wr.drewN d) := fun d => below_drewN' (Below.refl _ wr) d
              have hpre : ∀ d, Lst (wr.drewN d) 1 cI (some ⟨g, 0, none⟩) q cv' (S.take q) := fun d => (hl.below (hdr d)).pre q (by rw [← HmS.out]; exact hq)
              have hsuf : ∀ W, RowKit.Below wr.heap.size wr W → Lst W 1 cI (some ⟨g, q, none⟩) (m - q) (cv' - q) (S.drop q) := fun W h => by rw [HmS.out]; exact (hl.below h).suf q (by rw [← HmS.out]; exact hq)
              have Hpre := Lib.hid hpre
              have Hsuf := Lib.hid hsuf
              have Hdr := Lib.hid hdr
              clear hdr hpre hsuf
              have hl3 := insD_len S x.parcel
              rw [← HmS.out] at hl3
              have Hl3 := Lib.hid hl3
              clear hl3
              by_cases hqm : q < m
              · have hqz : (q : Int) < (m : Int) := by omega
                obtain ⟨t, ht⟩ : ∃ t, S[q]? = some t := ⟨S[q]'(by rw [← HmS.out]; exact hqm), by simp⟩
                obtain ⟨b', o', e, _, hrt⟩ := hl.at_ q t ht
                obtain ⟨rfl, rfl⟩ : b' = g ∧ o' = 0 := by injection e with e; injection e with e1 e2; exact ⟨e1.symm, e2.symm⟩
                have ct := hrt 0 _ rfl
                simp only [Nat.mul_one, Nat.add_zero, Nat.zero_add] at ct
                have HTq := Lib.hid ht
                clear hrt e ht
                by_cases hlt2 : t < x.parcel
                · have d1 : decide (t < x.parcel) = true := decide_eq_true hlt2
                  go_wp2_with (fail)
                  go_quiet (fail)
                  go_wp2_with (fail)
                  go_roundw
                  case rel =>
                    refine ⟨q + 1, by omega, by go_num, below_drewN' hBi _, Lib.hid (fun i u hi hu => ?_)⟩
                    by_cases hiq : i = q
                    · subst hiq; rw [HTq.out] at hu; cases hu; exact hlt2
                    · exact Hq5.out i u (by omega) hu
                  case measure => simp [intOf]; omega
                · have d1 : decide (t < x.parcel) = false := decide_eq_false hlt2
                  have Hat := Lib.hid (atI_eq S x.parcel q Hq5.out (.inr ⟨t, HTq.out, hlt2⟩))
                  have hq0 : (0 : Int) ≤ (q : Int) := by omega
                  have hqc : (q : Int) ≤ (cv' : Int) := by omega
                  have hqm2 : (q : Int) ≤ (m : Int) := by omega
                  go_wp2_with (fail)
                  go_quiet (fail)
                  go_wp2_with (first
                    | (at_builtin; refine wpList_append_list rfl _ _ _ rfl wr.heap.size 3 i0 _ 1 8 Tryz.underlying35 hi0 hz0 hz1 hz2 rfl (by omega) (.slice none 0 0) 0 [] rfl ⟨by simp, .inl ⟨rfl, rfl⟩⟩ cI (fun _ => rfl) cI_one _ q _ (S.take q) rfl (Hpre.out _) (by unfold maxLen; omega) (by omega) (Nat.le_refl _) ?_; intro v1 w1 hown1 hgrow1; have hB1 := below_of_grown (Hdr.out _) (Nat.le_refl _) hgrow1 (fun r h => by cases h); have c3 := HM.out _ (hBw.trans (hB1.mono hBw.size)))
                    | (at_builtin; refine wpList_append_list rfl _ _ _ rfl wr.heap.size 3 i0 _ 1 8 Tryz.underlying35 hi0 hz0 hz1 hz2 rfl (by omega) _ _ _ rfl (hown1.alloc _) cI (fun _ => rfl) cI_one _ 1 _ [x.parcel] rfl (Lst.oneI (Blk.new _ _ _)) (by unfold maxLen; omega) (by omega) (by have := hB1.size; simp; omega) ?_; intro v2 w2 hown2 hgrow2; have hB2 := below_of_grown (hB1.alloc hB1.size _) (Nat.le_refl _) hgrow2 (own_ge' hown1))
                    | (at_builtin; refine wpList_append_list rfl _ _ _ rfl wr.heap.size 3 i0 _ 1 8 Tryz.underlying35 hi0 hz0 hz1 hz2 rfl (by omega) _ _ _ rfl hown2 cI (fun _ => rfl) cI_one _ (m - q) _ (S.drop q) rfl (Hsuf.out _ hB2) (by unfold maxLen; omega) (by omega) hB2.size ?_; intro v3 w3 hown3 hgrow3; have hB3 := below_of_grown hB2 (Nat.le_refl _) hgrow3 (own_ge' hown2))
                    | fail)
                  go_roundw
                  case rel =>
                    have hl3 := Hl3.out
                    refine ⟨k + 1, by omega, by go_num, insD S x.parcel, Lib.hid Hsn2.out.symm, (fun h => by rw [h] at hl3; simp at hl3), by omega, ?_, hB3w.trans (hB3.mono hB3w.size)⟩
                    rw [hl3, show m + 1 = 0 + q + 1 + (m - q) by omega]
                    have e : (insD S x.parcel).flatMap cI = [] ++ (S.take q).flatMap cI ++ [x.parcel].flatMap cI ++ (S.drop q).flatMap cI := by unfold insD; rw [Hat.out]; simp
                    rw [e]
                    exact hown3.mono hBw.size
                  case measure => simp [intOf]; omega
              · obtain rfl : q = m := by omega
                have Hat := Lib.hid (atI_eq S x.parcel q Hq5.out (.inl HmS.out))
                have hz : ¬ (q : Int) < (q : Int) := by omega
                have hq0 : (0 : Int) ≤ (q : Int) := by omega
                have hqc : (q : Int) ≤ (cv' : Int) := by omega
                clear hqm
                by_cases hcq : cv' = q
                · subst hcq
                  go_wp2_with (fail)
                  go_quiet (fail)
                  go_wp2_with (first
                    | (at_builtin; refine wpList_append_list rfl _ _ _ rfl wr.heap.size 3 i0 _ 1 8 Tryz.underlying35 hi0 hz0 hz1 hz2 rfl (by omega) (.slice none 0 0) 0 [] rfl ⟨by simp, .inl ⟨rfl, rfl⟩⟩ cI (fun _ => rfl) cI_one _ cv' _ (S.take cv') rfl (Hpre.out _) (by unfold maxLen; omega) (by omega) (Nat.le_refl _) ?_; intro v1 w1 hown1 hgrow1; have hB1 := below_of_grown (Hdr.out _) (Nat.le_refl _) hgrow1 (fun r h => by cases h); have c3 := HM.out _ (hBw.trans (hB1.mono hBw.size)))
                    | (at_builtin; refine wpList_append_list rfl _ _ _ rfl wr.heap.size 3 i0 _ 1 8 Tryz.underlying35 hi0 hz0 hz1 hz2 rfl (by omega) _ _ _ rfl (hown1.alloc _) cI (fun _ => rfl) cI_one _ 1 _ [x.parcel] rfl (Lst.oneI (Blk.new _ _ _)) (by unfold maxLen; omega) (by omega) (by have := hB1.size; simp; omega) ?_; intro v2 w2 hown2 hgrow2; have hB2 := below_of_grown (hB1.alloc hB1.size _) (Nat.le_refl _) hgrow2 (own_ge' hown1))
                    | (at_builtin; refine wpList_append_list rfl _ _ _ rfl wr.heap.size 3 i0 _ 1 8 Tryz.underlying35 hi0 hz0 hz1 hz2 rfl (by omega) _ _ _ rfl hown2 cI (fun _ => rfl) cI_one _ 0 _ [] rfl (Lst.zero _ _ _ _ _ (maxLen_of (by omega))) (by unfold maxLen; omega) (by omega) hB2.size ?_; intro v3 w3 hown3 hgrow3; have hB3 := below_of_grown hB2 (Nat.le_refl _) hgrow3 (own_ge' hown2))
                    | fail)
                  go_roundw
                  case rel =>
                    have hl3 := Hl3.out
                    refine ⟨k + 1, by omega, by go_num, insD S x.parcel, Lib.hid Hsn2.out.symm, (fun h => by rw [h] at hl3; simp at hl3), by omega, ?_, hB3w.trans (hB3.mono hB3w.size)⟩
                    rw [hl3, show cv' + 1 = 0 + cv' + 1 + 0 by omega]
                    have e : (insD S x.parcel).flatMap cI = [] ++ (S.take cv').flatMap cI ++ [x.parcel].flatMap cI ++ ([] : List Int).flatMap cI := by unfold insD; rw [Hat.out, List.drop_eq_nil_of_le (by rw [← HmS.out]; exact Nat.le_refl _)]; simp
                    rw [e]
                    exact hown3.mono hBw.size
                  case measure => simp [intOf]; omega
                · have hcq2 : q < cv' := by omega
                  have hcqz : (q : Int) < (cv' : Int) := by omega
                  have hcq3 : ¬ q = cv' := by omega
                  go_wp2_with (fail)
                  go_quiet (fail)
                  go_wp2_with (first
                    | (at_builtin; refine wpList_append_list rfl _ _ _ rfl wr.heap.size 3 i0 _ 1 8 Tryz.underlying35 hi0 hz0 hz1 hz2 rfl (by omega) (.slice none 0 0) 0 [] rfl ⟨by simp, .inl ⟨rfl, rfl⟩⟩ cI (fun _ => rfl) cI_one _ q _ (S.take q) rfl (Hpre.out _) (by unfold maxLen; omega) (by omega) (Nat.le_refl _) ?_; intro v1 w1 hown1 hgrow1; have hB1 := below_of_grown (Hdr.out _) (Nat.le_refl _) hgrow1 (fun r h => by cases h); have c3 := HM.out _ (hBw.trans (hB1.mono hBw.size)))
                    | (at_builtin; refine wpList_append_list rfl _ _ _ rfl wr.heap.size 3 i0 _ 1 8 Tryz.underlying35 hi0 hz0 hz1 hz2 rfl (by omega) _ _ _ rfl (hown1.alloc _) cI (fun _ => rfl) cI_one _ 1 _ [x.parcel] rfl (Lst.oneI (Blk.new _ _ _)) (by unfold maxLen; omega) (by omega) (by have := hB1.size; simp; omega) ?_; intro v2 w2 hown2 hgrow2; have hB2 := below_of_grown (hB1.alloc hB1.size _) (Nat.le_refl _) hgrow2 (own_ge' hown1))
                    | (at_builtin; refine wpList_append_list rfl _ _ _ rfl wr.heap.size 3 i0 _ 1 8 Tryz.underlying35 hi0 hz0 hz1 hz2 rfl (by omega) _ _ _ rfl hown2 cI (fun _ => rfl) cI_one _ 0 _ [] rfl (Lst.zero _ _ _ _ _ (maxLen_of (by omega))) (by unfold maxLen; omega) (by omega) hB2.size ?_; intro v3 w3 hown3 hgrow3; have hB3 := below_of_grown hB2 (Nat.le_refl _) hgrow3 (own_ge' hown2))
                    | fail)
                  go_roundw
                  case rel =>
                    have hl3 := Hl3.out
                    refine ⟨k + 1, by omega, by go_num, insD S x.parcel, Lib.hid Hsn2.out.symm, (fun h => by rw [h] at hl3; simp at hl3), by omega, ?_, hB3w.trans (hB3.mono hB3w.size)⟩
                    rw [hl3, show q + 1 = 0 + q + 1 + 0 by omega]
                    have e : (insD S x.parcel).flatMap cI = [] ++ (S.take q).flatMap cI ++ [x.parcel].flatMap cI ++ ([] : List Int).flatMap cI := by unfold insD; rw [Hat.out, List.drop_eq_nil_of_le (by rw [← HmS.out]; exact Nat.le_refl _)]; simp
                    rw [e]
                    exact hown3.mono hBw.size
                  case measure => simp [intOf]; omega
      · obtain rfl : k = n := by omega
        have hs := HS.out
        rw [List.take_of_length_le (by rw [hlen.out]; exact Nat.le_refl _), ← Hq.out] at hs
        subst hs
        clear Hq HS hSn
        go_wp2_with (fail)
        go_ret
        exact ⟨_, rfl, by rw [← flat_int]; exact hor, hBw⟩
  · have hq : soldI xs known = [] := by unfold soldI; rw [if_neg h0]
    rw [hq]
    clear hL
    generalize (checkSales xs).1 = c1 at *
    generalize (checkSales xs).2 = c2 at *
    have g0 : (c2 != 0) = true := by simpa using h0
    clear h0
    go_enter Tryz.func52, Tryz.ntmps52
    go_wp2_with (fail)
    refine hcr.mono ?_
    clear hcr
    rintro e w1 ⟨rfl, hB1⟩
    go_wp2_with (fail)
    go_ret
    exact ⟨_, rfl, ⟨by simp, .inl ⟨rfl, rfl⟩⟩, hB1⟩

end Go.Proofs.YtollegoajlfdiaaGreat

/-
  Walks: the reference's Value.
-/
namespace Go.Proofs.YtollegoajlfdiaaGreat
open Go.RowKit Lg Go.Sort Go.Shelf

set_option maxRecDepth 100000 in
set_option maxHeartbeats 6400000 in
theorem valueR_any (a : Option Addr) (m capS : Nat) (ss : List Sale) (b : Option Addr) (n cap : Nat) (ps : List Int) (known : Int) (w : World) (hm3 : m ≤ 300) (hS : Lst w 9 cS a m capS ss) (hL : Lst w 1 cI b n cap ps) :
    Calls Tryz.prog 50 #[.slice a m capS, .slice b n cap, .int .i64 known] w (Gives w (.tuple #[.int .i64 (valueOf ss ps known).1, .int .i64 (valueOf ss ps known).2])) := by
  have hc := checkSalesR_any a m capS ss w hm3 hS
  obtain ⟨r, hr⟩ : ∃ r, r = valueOf ss ps known := ⟨_, rfl⟩
  rw [← hr]
  unfold valueOf at hr
  rw [hL.len] at hr
  have Hlen := Lib.hid hL.len
  have hm : cap ≤ 9223372036854775807 := by have := hL.max; unfold maxLen at this; omega
  have hle := hL.le
  have HS := Lib.hid hS
  by_cases h0 : (checkSales ss).2 = 0
  · rw [if_pos h0] at hr
    have H0 := Lib.hid h0
    rw [h0] at hc
    clear h0
    generalize (checkSales ss).1 = ci at hc
    by_cases h1 : 200 < n
    · rw [if_pos h1] at hr
      subst hr
      have h1z : (200 : Int) < (n : Int) := by omega
      clear hS hL
      go_enter Tryz.func50, Tryz.ntmps50
      go_wp2_with (fail)
      refine hc.mono ?_
      rintro e w2 ⟨rfl, hB2⟩
      go_wp2_with (fail)
      go_ret2
      exact ⟨rfl, hB2⟩
    · rw [if_neg h1] at hr
      have h1z : ¬ (200 : Int) < (n : Int) := by omega
      have Hr := Lib.hid hr; clear hr
      have HL := Lib.hid hL
      clear hS hL
      go_enter Tryz.func50, Tryz.ntmps50
      go_wp2_with (fail)
      refine hc.mono ?_
      clear hc
      rintro e w2 ⟨rfl, hB2⟩
      go_wp2_with (fail)
      go_loopw [10] (fun i wr => ∃ k : Nat, k ≤ n ∧ i = .int .i64 k ∧ Hid ((ps.take k).Nodup) ∧ RowKit.Below w2.heap.size w2 wr) (fun i _ => n - (intOf i).toNat)
      case atStart => exact ⟨0, Nat.zero_le _, rfl, Lib.hid (by simp), Below.refl _ _⟩
      case round =>
        obtain ⟨k, hk, rfl, Hnd, hB⟩ := hrel
        by_cases hlt : k < n
        · have hltz : (k : Int) < (n : Int) := by omega
          obtain ⟨p, hp⟩ : ∃ p, ps[k]? = some p := ⟨ps[k]'(by rw [Hlen.out]; exact hlt), by simp⟩
          have hbw := hB2.trans (hB.mono hB2.size)
          obtain ⟨bb, off, rfl, hbb, hrg⟩ := (HL.out.below hbw).at_ k p hp
          have c0 := hrg 0 _ rfl
          simp only [Nat.mul_one, Nat.add_zero] at c0
          have htk : ps.take (k + 1) = ps.take k ++ [p] := by
            obtain ⟨h1, h2⟩ := List.getElem?_eq_some_iff.1 hp
            rw [List.take_succ_eq_append_getElem h1, h2]
          have Htk := Lib.hid htk
          have Hc0 := Lib.hid c0
          clear hrg htk hp c0
          go_wp2_with (fail)
          go_loopw [11] (fun j wi => ∃ q : Nat, q ≤ k ∧ j = .int .i64 q ∧ Hid (∀ i t, i < q → ps[i]? = some t → t ≠ p) ∧ RowKit.Below wr.heap.size wr wi) (fun j _ => k - (intOf j).toNat)
          case atStart => exact ⟨0, Nat.zero_le _, rfl, Lib.hid (fun i t h => absurd h (Nat.not_lt_zero _)), Below.refl _ _⟩
          case round =>
            obtain ⟨q, hq, rfl, Hne, hBi⟩ := hrel
            have hBo := hB.trans (hBi.mono hB.size)
            have hBw := hB2.trans (hBo.mono hB2.size)
            by_cases hqk : q < k
            · have hqz : (q : Int) < (k : Int) := by omega
              have hqn : (q : Int) < (n : Int) := by omega
              have hkz : (0 : Int) ≤ (k : Int) := by omega
              have hqz0 : (0 : Int) ≤ (q : Int) := by omega
              have c0 := (hBi.cell (p := ⟨bb, off + k, none⟩) hbb).trans Hc0.out
              obtain ⟨y, hy⟩ : ∃ y, ps[q]? = some y := ⟨ps[q]'(by rw [Hlen.out]; omega), by simp⟩
              obtain ⟨b2, o2, e, _, hry⟩ := (HL.out.below hBw).at_ q y hy
              obtain ⟨rfl, rfl⟩ : b2 = bb ∧ o2 = off := by injection e with e; injection e with e1 e2; exact ⟨e1.symm, e2.symm⟩
              have cy := hry 0 _ rfl
              simp only [Nat.mul_one, Nat.add_zero] at cy
              have Hy := Lib.hid hy
              clear hry e hy
              by_cases hpy : p = y
              · have b1 : (p == y) = true := by simpa using hpy
                have hr := Hr.out
                rw [if_pos (fun e => by
                  have e2 : (ps.take (k + 1)).Nodup := e.sublist (List.take_sublist _ _)
                  rw [Htk.out, List.nodup_append] at e2
                  have hmem : y ∈ ps.take k := List.mem_of_getElem? (show (ps.take k)[q]? = some y by rw [List.getElem?_take_of_lt hqk]; exact Hy.out)
                  exact e2.2.2 y hmem p (by simp) hpy.symm)] at hr
                subst hr
                clear Hr hpy
                go_wp2_with (fail)
                go_quiet (fail)
                go_wp2_with (fail)
                go_ret2
                exact ⟨rfl, below_drewN' hBw _⟩
              · have b1 : (p == y) = false := by simpa using hpy
                have Hpy := Lib.hid hpy
                clear hpy
                go_wp2_with (fail)
                go_quiet (fail)
                go_wp2_with (fail)
                go_roundw
                case rel =>
                  refine ⟨q + 1, by omega, by go_num, Lib.hid (fun i t hi ht => ?_), below_drewN' hBi _⟩
                  by_cases hiq : i = q
                  · subst hiq; rw [Hy.out] at ht; cases ht; exact fun e => Hpy.out e.symm
                  · exact Hne.out i t (by omega) ht
                case measure => simp [intOf]; omega
            · obtain rfl : q = k := by omega
              have hz : ¬ (q : Int) < (q : Int) := by omega
              have hnd2 : (ps.take (q + 1)).Nodup := by
                rw [Htk.out, List.nodup_append]
                refine ⟨Hnd.out, by simp, fun x hx y hy e => ?_⟩
                rw [List.mem_singleton] at hy
                subst hy e
                obtain ⟨i, hi⟩ := List.getElem?_of_mem hx
                have hiq : i < q := by have := (List.getElem?_eq_some_iff.1 hi).1; rw [List.length_take] at this; omega
                rw [List.getElem?_take_of_lt hiq] at hi
                exact Hne.out i x hiq hi rfl
              have Hnd2 := Lib.hid hnd2
              clear hnd2
              go_wp2_with (fail)
              go_roundw
              case rel => exact ⟨q + 1, by omega, by go_num, Hnd2, hBo⟩
              case measure => simp [intOf]; omega
        · obtain rfl : k = n := by omega
          have hnd := Hnd.out
          rw [List.take_of_length_le (by rw [Hlen.out]; exact Nat.le_refl _)] at hnd
          have hr := Hr.out
          rw [if_neg (by simpa using hnd)] at hr
          have Hr2 := Lib.hid hr
          have hBw0 := hB2.trans (hB.mono hB2.size)
          clear hr hnd Hr hlt
          go_wp2_with (fail)
          go_loopw [12, 13] (fun s i wr2 => ∃ q : Nat, q ≤ k ∧ i = .int .i64 q ∧ s = .int .i64 (priceSum ss known (ps.take q)) ∧ Hid (∀ p ∈ ps.take q, (soldIn ss p known).isNone = false) ∧ RowKit.Below wr.heap.size wr wr2) (fun _ i _ => k - (intOf i).toNat)
          case atStart => exact ⟨0, Nat.zero_le _, rfl, rfl, Lib.hid (by simp), Below.refl _ _⟩
          case round =>
            obtain ⟨q, hq, rfl, rfl, Hall, hBr⟩ := hrel
            have hBw := hBw0.trans (hBr.mono hBw0.size)
            by_cases hlt : q < k
            · have hltz : (q : Int) < (k : Int) := by omega
              obtain ⟨p, hp⟩ : ∃ p, ps[q]? = some p := ⟨ps[q]'(by rw [Hlen.out]; exact hlt), by simp⟩
              obtain ⟨bb, off, rfl, hbb, hrg⟩ := HL.out.at_ q p hp
              have c0 := rangeAt_below hBw hbb hrg 0 _ rfl
              simp only [Nat.mul_one, Nat.add_zero] at c0
              have hpr := price_one H0.out (p := p) (K := known)
              have hsn := priceSum_snoc ss known ps q p hp
              have hsb := priceSum_bound H0.out known (ps.take q)
              have hlk : (ps.take q).length ≤ 200 := Nat.le_trans (List.length_take_le _ _) (by omega)
              obtain ⟨S, hS0⟩ : ∃ S, S = priceSum ss known (ps.take q) := ⟨_, rfl⟩
              rw [← hS0] at hsb hsn ⊢
              obtain ⟨sb1, sb2⟩ := hsb
              have sb3 : S ≤ 200000000000 := by omega
              have hall : (soldIn ss p known).isNone = false → ∀ y ∈ ps.take (q + 1), (soldIn ss y known).isNone = false := fun h y hy => by
                obtain ⟨h1, h2⟩ := List.getElem?_eq_some_iff.1 hp
                rw [List.take_succ_eq_append_getElem h1, h2, List.mem_append, List.mem_singleton] at hy
                rcases hy with hy | rfl
                · exact Hall.out y hy
                · exact h
              have hcs := fun W (h : RowKit.Below w.heap.size w W) => saleOfR_any a m capS ss p known W hm3 (HS.out.below h)
              rw [saleOf_res H0.out] at hcs
              have hany : (soldIn ss p known).isNone = true → (ps.any fun p => (soldIn ss p known).isNone) = true := fun h => List.any_eq_true.2 ⟨p, List.mem_of_getElem? hp, h⟩
              have Hhall := Lib.hid hall
              have Hany := Lib.hid hany
              clear hrg hp hlk sb2 hS0 hall hany Hall
              cases ho : soldIn ss p known with
              | none =>
                have hr := Hr2.out
                rw [if_pos (Hany.out (by rw [ho]; rfl))] at hr
                subst hr
                rw [ho] at hcs
                simp only [show saleRes none = (zeroSale, 61) from rfl] at hcs
                clear Hr2 hsn ho Hany Hhall
                go_wp2_with (fail)
                refine (hcs _ hBw).mono ?_
                rintro e w3 ⟨rfl, hB3⟩
                go_wp2_with (fail)
                go_ret2
                exact ⟨rfl, (hBw.trans (hB3.mono hBw.size)).alloc (by have := hBw.size; have := hB3.size; omega) _⟩
              | some x =>
                rw [ho] at hcs hsn hpr
                simp only [show saleRes (some x) = (x, 0) from rfl] at hcs
                dsimp only at hsn hpr
                obtain ⟨x1, x2⟩ := hpr
                have Hsn := Lib.hid hsn
                have Ho := Lib.hid ho
                clear hsn ho Hany
                go_wp2_with (fail)
                refine (hcs _ hBw).mono ?_
                rintro e w3 ⟨rfl, hB3⟩
                have k3 := Blk.new w3 39 (cS x).toArray
                have e3 := k3.cell
                go_wp2_with (fail)
                go_roundw
                case rel => exact ⟨q + 1, by omega, by go_num, by rw [Hsn.out], Lib.hid (Hhall.out (by rw [Ho.out]; rfl)), (hBr.trans (hB3.mono hBr.size)).alloc (by have := hBr.size; have := hB3.size; omega) _⟩
                case measure => simp [intOf]; omega
            · obtain rfl : q = k := by omega
              have hall := Hall.out
              rw [List.take_of_length_le (by rw [Hlen.out]; exact Nat.le_refl _)] at hall ⊢
              have hr := Hr2.out
              rw [if_neg (fun e => by
                obtain ⟨y, hy, h⟩ := List.any_eq_true.1 e
                rw [hall y hy] at h; cases h)] at hr
              generalize priceSum ss known ps = S at *
              by_cases hS : 1000000000000 < S
              · rw [if_pos hS] at hr
                subst hr
                clear Hr2 hall Hall
                go_wp2_with (fail)
                go_ret2
                exact ⟨rfl, hBw⟩
              · rw [if_neg hS] at hr
                subst hr
                clear Hr2 hall Hall
                go_wp2_with (fail)
                go_ret2
                exact ⟨rfl, hBw⟩
  · rw [if_neg h0] at hr
    subst hr
    generalize (checkSales ss).2 = q at *
    have g0 : (q != 0) = true := by simpa using h0
    clear h0 hS hL
    go_enter Tryz.func50, Tryz.ntmps50
    go_wp2_with (fail)
    refine hc.mono ?_
    rintro e w2 ⟨rfl, hB2⟩
    go_wp2_with (fail)
    go_ret2
    exact ⟨rfl, hB2⟩

end Go.Proofs.YtollegoajlfdiaaGreat

/-
  Walk: the law of values.
-/
namespace Go.Proofs.YtollegoajlfdiaaGreat
open Go.RowKit Lg Go.Sort Go.Shelf Go.Maps

theorem some_len {n : Nat} (h : someOf n = true) : n ≤ 203 := by
  unfold someOf at h
  simp only [Bool.and_eq_true, Bool.or_eq_true, decide_eq_true_eq] at h
  omega

set_option maxRecDepth 100000 in
set_option maxHeartbeats 25600000 in
theorem lawValues_any (a : Option Addr) (n cap : Nat) (xs : List Sale) (p : Int) (b : Option Addr) (m capB : Nat) (ps : List Int) (known : Int) (w : World) (hL : Lst w 9 cS a n cap xs) (hM : Lst w 1 cI b m capB ps) (hwf : ∀ p ∈ ps, (Lit.int .i64 p).wf = true) :
    Calls Tryz.prog 13 #[.slice a n cap, .int .i64 p, .slice b m capB, .int .i64 known] w (Gives w (.bool true)) := by
  have hp := paid_any
  have hm1 : cap ≤ 9223372036854775807 := by have := hL.max; unfold maxLen at this; omega
  have hle := hL.le
  have hf := some_any a n cap w (by omega)
  cases h3 : someOf n
  · rw [h3] at hf
    clear hL hM
    go_enter Tryz.func13, Tryz.ntmps13
    go_wp2_with (first | (go_at_call 36; (with_reducible refine hf.mono ?_); rintro e w5 ⟨rfl, rfl⟩) | (go_at_call 16; refine (hp _).mono ?_; rintro e w5 ⟨rfl, hB5⟩))
    go_ret
    exact ⟨rfl, hB5⟩
  have hn := some_len h3
  rw [h3] at hf
  clear h3
  by_cases h56 : ((40 : Int) < (m : Int) ∧ (m : Int) ≤ 200) ∨ (205 : Int) < (m : Int)
  · clear hL hM
    rcases h56 with ⟨h4, h5⟩ | h6
    · go_enter Tryz.func13, Tryz.ntmps13
      go_wp2_with (first | (go_at_call 36; (with_reducible refine hf.mono ?_); rintro e w5 ⟨rfl, rfl⟩) | (go_at_call 16; refine (hp _).mono ?_; rintro e w5 ⟨rfl, hB5⟩))
      go_ret
      exact ⟨rfl, hB5⟩
    · have h4 : (40 : Int) < (m : Int) := by omega
      have h5 : ¬ (m : Int) ≤ 200 := by omega
      go_enter Tryz.func13, Tryz.ntmps13
      go_wp2_with (first | (go_at_call 36; (with_reducible refine hf.mono ?_); rintro e w5 ⟨rfl, rfl⟩) | (go_at_call 16; refine (hp _).mono ?_; rintro e w5 ⟨rfl, hB5⟩))
      go_ret
      exact ⟨rfl, hB5⟩
  have h6 : ¬ (205 : Int) < (m : Int) := by omega
  have h45 : ¬ (40 : Int) < (m : Int) ∨ ((40 : Int) < (m : Int) ∧ ¬ (m : Int) ≤ 200) := by omega
  clear h56
  have hS1 := fun W (hB : RowKit.Below w.heap.size w W) => saleOf_any a n cap xs p known W (hL.below hB)
  have hS2 := fun W (hB : RowKit.Below w.heap.size w W) => saleOfR_any a n cap xs p known W (by omega) (hL.below hB)
  have hV1 := fun W (hB : RowKit.Below w.heap.size w W) => value_any a n cap xs b m capB ps known W (hL.below hB) (hM.below hB) hwf
  have hV2 := fun W (hB : RowKit.Below w.heap.size w W) => valueR_any a n cap xs b m capB ps known W (by omega) (hL.below hB) (hM.below hB)
  have hU1 := fun W (hB : RowKit.Below w.heap.size w W) => Sold_any a n cap xs known W (hL.below hB)
  have hU2 := fun W (hB : RowKit.Below w.heap.size w W) => soldR_any a n cap xs known W (by omega) (hL.below hB)
  rw [soldI_eq] at hU2
  generalize valueOf xs ps known = vv at *
  generalize soldOf xs known = ts at *
  generalize saleOf xs p known = rv at *
  obtain ⟨ra, ga⟩ := rv
  obtain ⟨va, ve⟩ := vv
  dsimp only at hS1 hS2 hV1 hV2
  have HR1 := Lib.hid hS1
  have HR2 := Lib.hid hS2
  have HT1 := Lib.hid hV1
  have HT2 := Lib.hid hV2
  have HU1 := Lib.hid hU1
  have HU2 := Lib.hid hU2
  clear hS1 hS2 hV1 hV2 hU1 hU2 hL hM hwf
  have hB0 := Below.refl w.heap.size w
  rcases h45 with h4 | ⟨h4, h5⟩
  all_goals
    go_enter Tryz.func13, Tryz.ntmps13
    go_wp2_with (first | (go_at_call 36; (with_reducible refine hf.mono ?_); rintro e w5 ⟨rfl, rfl⟩) | fail)
    clear hf
    refine (HR1.out _ hB0).mono ?_
    rintro e w1 ⟨rfl, hB1⟩
    have kA := Blk.new w1 39 (cS ra).toArray
    have hz1 : RowKit.Below w1.heap.size w1 (w1.alloc (.cells (cS ra).toArray 39)) := (Below.refl _ w1).alloc (Nat.le_refl _) _
    have hB2 := hB0.trans (hB1.mono hB0.size)
    have hB2 := hB2.trans (hz1.mono hB2.size)
    clear hB1 hz1
    go_wp2_with (fail)
    refine (HR2.out _ hB2).mono ?_
    rintro e w2 ⟨rfl, hB3⟩
    have kB := Blk.new w2 39 (cS ra).toArray
    have hz2 : RowKit.Below w2.heap.size w2 (w2.alloc (.cells (cS ra).toArray 39)) := (Below.refl _ w2).alloc (Nat.le_refl _) _
    have kA := (kA.below' hB3).below' hz2
    have hB4 := hB2.trans (hB3.mono hB2.size)
    have hB4 := hB4.trans (hz2.mono hB4.size)
    clear hB3 hz2
    go_wp2_with (fail)
    refine (HT1.out _ hB4).mono ?_
    rintro e w3 ⟨rfl, hB5⟩
    have kA := kA.below' hB5
    have kB := kB.below' hB5
    have hB6 := hB4.trans (hB5.mono hB4.size)
    clear hB5
    go_wp2_with (fail)
    refine (HT2.out _ hB6).mono ?_
    rintro e w4 ⟨rfl, hB7⟩
    have kA := kA.below' hB7
    have kB := kB.below' hB7
    have hB8 := hB6.trans (hB7.mono hB6.size)
    obtain ⟨bA, hbA⟩ : ∃ bA, bA = w1.heap.size := ⟨_, rfl⟩
    obtain ⟨bB, hbB⟩ : ∃ bB, bB = w2.heap.size := ⟨_, rfl⟩
    rw [← hbA] at kA ⊢
    rw [← hbB] at kB ⊢
    clear hB7 hB2 hB4 hB6 hbA hbB
    have hU1 : ∀ W, RowKit.Below w4.heap.size w4 W → Calls Tryz.prog 51 #[.slice a n cap, .int .i64 known] W fun e w' => ∃ av c, e = .returned (.slice av ts.length c) ∧ Lst w' 1 cI av ts.length c ts ∧ RowKit.Below W.heap.size W w' ∧ RowKit.Below w4.heap.size w4 w' := fun W h => (HU1.out W (hB8.trans (h.mono hB8.size))).mono fun e w' q => by
      obtain ⟨v, rfl, ho, hq⟩ := q
      rw [← flat_int] at ho
      obtain ⟨av, cv, rfl, _, hl⟩ := Lst.of_owns (k := 1) (enc := cI) (fun _ => rfl) (by omega) ho rfl
      exact ⟨av, cv, rfl, hl, hq, h.trans (hq.mono h.size)⟩
    have hU2 : ∀ W, RowKit.Below w4.heap.size w4 W → Calls Tryz.prog 52 #[.slice a n cap, .int .i64 known] W fun e w' => ∃ av c, e = .returned (.slice av ts.length c) ∧ Lst w' 1 cI av ts.length c ts ∧ RowKit.Below W.heap.size W w' ∧ RowKit.Below w4.heap.size w4 w' := fun W h => (HU2.out W (hB8.trans (h.mono hB8.size))).mono fun e w' q => by
      obtain ⟨v, rfl, ho, hq⟩ := q
      rw [← flat_int] at ho
      obtain ⟨av, cv, rfl, _, hl⟩ := Lst.of_owns (k := 1) (enc := cI) (fun _ => rfl) (by omega) ho rfl
      exact ⟨av, cv, rfl, hl, hq, h.trans (hq.mono h.size)⟩
    have hP : ∀ W, RowKit.Below w4.heap.size w4 W → Calls Tryz.prog 16 #[] W fun e w' => e = .returned (.bool true) ∧ RowKit.Below w4.heap.size w4 w' := fun W h => (hp W).mono fun e w' q => ⟨q.1, h.trans (q.2.mono h.size)⟩
    have hS : ∀ W av c bv d, RowKit.Below w4.heap.size w4 W → Lst W 1 cI av ts.length c ts → Lst W 1 cI bv ts.length d ts → Calls Tryz.prog 21 #[.slice av ts.length c, .slice bv ts.length d] W fun e w' => e = .returned (.bool true) ∧ RowKit.Below w4.heap.size w4 w' := fun W av c bv d h h1 h2 => (sameInts_any av _ c ts bv _ d ts W h1 h2).mono fun e w' q => ⟨by rw [q.1]; simp, h.trans (q.2.mono h.size)⟩
    have HU1' := Lib.hid hU1
    have HU2' := Lib.hid hU2
    have HP := Lib.hid hP
    have HS := Lib.hid hS
    have hK : ∀ W, RowKit.Below w4.heap.size w4 W → (∀ j, W.cell? ⟨bA, j, none⟩ = (cS ra).toArray[j]?) ∧ (∀ j, W.cell? ⟨bB, j, none⟩ = (cS ra).toArray[j]?) := fun W h => ⟨(kA.below' h).cell, (kB.below' h).cell⟩
    have HK := Lib.hid hK
    clear hU1 hU2 hP hS hK kA kB HU1 HU2 HR1 HR2 HT1 HT2 hp
    have hq := eqS ra ra
    have b1 : decide (ra = ra) = true := by simp
    have b2 : (ga == ga) = true := by simp
    have b3 : (va == va) = true := by simp
    have b4 : (ve == ve) = true := by simp
    obtain ⟨T, hT⟩ : ∃ T, T = ts.length := ⟨_, rfl⟩
    rw [← hT] at HU1' HU2' HS
    clear hT
    go_wp2_with (fail)
    refine (HP.out _ (Below.refl _ _)).mono ?_
    rintro e w5 ⟨rfl, hB5⟩
    obtain ⟨m1, m2⟩ := HK.out w5 hB5
    go_wp2_with (fail)
    refine (HU1'.out w5 hB5).mono ?_
    rintro e w6 ⟨a6, c6, rfl, hl6, _, hB6⟩
    go_wp2_with (fail)
    refine (HU2'.out w6 hB6).mono ?_
    rintro e w7 ⟨a7, c7, rfl, hl7, hb7, hB7⟩
    go_wp2_with (fail)
    refine (HS.out w7 a6 c6 a7 c7 hB7 (hl6.below hb7) hl7).mono ?_
    rintro e w8 ⟨rfl, hB9⟩
    go_wp2_with (fail)
    go_ret
    exact ⟨rfl, hB8.trans (hB9.mono hB8.size)⟩

end Go.Proofs.YtollegoajlfdiaaGreat

/-
  What comes in: lists of numbers, each in its range.
-/
namespace Go.Proofs.YtollegoajlfdiaaGreat
open Go.RowKit Lg Go.ChangeShapes Go.WideShapes Go.Deep

section
variable {H : Type} {enc : TypeId × Value → H} {w : World} {spare : Nat → Bool} {held : Bool}
theorem dec_Iw (n : Nat) (cs : List Value) (y : DataW H × List MemPlace) (_ : cs.length = 1) (h : DataW.trod enc Tryz.prog w 0 spare held n 3 cs = some y) : ∃ z : Int, cs = cI z ∧ (Lit.int .i64 z).wf = true := by
  obtain ⟨z0, h0, h1⟩ := one_cell Tryz.underlying3 h rfl
  exact ⟨z0, h0, h1⟩
end
end Go.Proofs.YtollegoajlfdiaaGreat
