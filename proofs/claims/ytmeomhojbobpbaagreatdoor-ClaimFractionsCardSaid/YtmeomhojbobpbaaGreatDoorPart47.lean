import Derived.Test.YtmeomhojbobpbaaGreatDoorPart46
import Derived.Test.YtmeomhojbobpbaaGreatDoorPart21
import Derived.Test.YtmeomhojbobpbaaGreatDoorPart19
import Derived.Test.YtmeomhojbobpbaaGreatDoorPart22
/-
  Walk: the reference's Mul.
-/
namespace Go.Proofs.YtmeomhojbobpbaaGreatDoor
open Go.RowKit Lg Go.Sort Go.Shelf

theorem over_swap {m n : Int} (hm : m ≠ 0) (hn : n ≠ 0) : (Int.tdiv 1000000000000 (max n (-n)) < max m (-m)) ↔ (m ≠ 0 ∧ Int.tdiv 1000000000000 (max m (-m)) < max n (-n)) := by
  have p : 0 < max m (-m) := by omega
  have q : 0 < max n (-n) := by omega
  rw [over_iff (by decide) q p, over_iff (by decide) p q, Int.mul_comm]
  exact ⟨fun h => ⟨hm, h⟩, fun h => h.2⟩
theorem over_zero {m n : Int} (h : m = 0 ∨ n = 0) : ¬ (m ≠ 0 ∧ Int.tdiv 1000000000000 (max m (-m)) < max n (-n)) := by
  rintro ⟨hm, hlt⟩
  rcases h with h | h
  · exact hm h
  · subst h
    have : (0 : Int) ≤ Int.tdiv 1000000000000 (max m (-m)) := Int.tdiv_nonneg (by decide) (by omega)
    have e : max (0 : Int) (-0) = 0 := rfl
    rw [e] at hlt
    omega

set_option maxRecDepth 100000 in
set_option maxHeartbeats 3200000 in
theorem mul5_any (a b : Frac) (w : World) : Calls Tryz.prog 61 #[aF a, aF b] w (Gives w (.tuple #[aF (mulF a b).1, .int .i64 (mulF a b).2])) := by
  obtain ⟨w1, hw1⟩ : ∃ w1, w1 = ((w.alloc (.cells #[.int .i64 a.num, .int .i64 a.den] 25)).alloc (.cells #[.int .i64 b.num, .int .i64 b.den] 25)).alloc (.cells #[.int .i64 0, .int .i64 0] 25) := ⟨_, rfl⟩
  have kA : Blk w1 w.heap.size #[.int .i64 a.num, .int .i64 a.den] 25 := hw1 ▸ ((Blk.new w _ _).alloc _).alloc _
  have kB : Blk w1 (w.heap.size + 1) #[.int .i64 b.num, .int .i64 b.den] 25 := hw1 ▸ (Blk.nw1 w _ _ _).alloc _
  have kR : Blk w1 (w.heap.size + 1 + 1) #[.int .i64 0, .int .i64 0] 25 := hw1 ▸ Blk.nw2 w _ _ _ _
  have hb1 : RowKit.Below w.heap.size w w1 := hw1 ▸ (((Below.refl _ w).alloc (Nat.le_refl _) _).alloc (by simp) _).alloc (by simp; omega) _
  have hbo := both5_any a b w1
  obtain ⟨r, hr⟩ : ∃ r, r = mulF a b := ⟨_, rfl⟩
  rw [← hr]
  unfold mulF at hr
  have Hr := Lib.hid hr
  clear hr
  go_enter Tryz.func61, Tryz.ntmps61
  go_upto_region 1 with fail
  rw [← hw1]
  clear hw1
  obtain ⟨bA, hbA⟩ : ∃ b, b = w.heap.size := ⟨_, rfl⟩
  obtain ⟨bB, hbB⟩ : ∃ b, b = w.heap.size + 1 := ⟨_, rfl⟩
  obtain ⟨bz, hbz⟩ : ∃ b, b = w.heap.size + 1 + 1 := ⟨_, rfl⟩
  have hge : w.heap.size ≤ bz ∧ bA < bz ∧ bB < bz := by omega
  rw [← hbz] at kR ⊢
  rw [← hbB] at kB ⊢
  rw [← hbA] at kA ⊢
  clear hbz hbA hbB
  have cA := kA.cell
  have cB := kB.cell
  go_wp2_with (fail)
  refine hbo.mono ?_
  clear hbo
  rintro e w2 ⟨rfl, hB2⟩
  have kA2 := kA.below' hB2
  have kB2 := kB.below' hB2
  have kR2 := kR.below' hB2
  have hb2 := hb1.trans (hB2.mono hb1.size)
  clear cA cB kA kB kR hb1 hB2
  have cR := kR2.cell
  have fR := kR2.frozen
  have lR := kR2.lt
  cases hv : (validF a && validF b) with
  | false =>
    have hr := Hr.out
    rw [hv] at hr
    simp only [Bool.false_eq_true, if_false] at hr
    rw [hr]
    simp only [Bool.false_eq_true, if_false]
    go_wp2_with (fail)
    rw [putF0]
    have hbl : Blk (w2.setCells bz 0 (cF ⟨0, 0⟩)) bz (cF ⟨0, 0⟩).toArray 25 := kR2.setCells 0 (cF ⟨0, 0⟩)
    (try simp only [Exit.inBlock, Exit.then]); refine bodyPost_ret (results_cell_tmp rfl _ _ bz 25 (cF ⟨0, 0⟩) _ rfl hbl Tryz.underlying25 rfl (by kernel_rfl)) rfl ?_
    exact ⟨by rw [hr]; rfl, below_setCells hb2 (by omega) 0 _⟩
  | true =>
    have hr := Hr.out
    rw [hv] at hr
    simp only [if_true] at hr ⊢
    rw [Bool.and_eq_true] at hv
    have ha := validF_ok hv.1
    have hb := validF_ok hv.2
    obtain ⟨c, d, m, n, p, q, hc, hd, c1, d1, hm, hn, hp, hq, mb, nb, pb, qb, hout⟩ := tms_of ha hb
    obtain ⟨a1, a2, a3, a4⟩ := ha
    obtain ⟨b1, b2, b3, b4⟩ := hb
    have g1 : (Int.gcd a.num b.den : Int) = c := by
      have : 0 < Int.gcd a.num b.den := gcd_pos_of_den (by omega)
      rw [hc]; unfold mulC; omega
    have g2 : (Int.gcd b.num a.den : Int) = d := by
      have : 0 < Int.gcd b.num a.den := gcd_pos_of_den (by omega)
      rw [hd]; unfold mulC; omega
    have hD1 := fun W => divisor5_any a.num b.den W ⟨by omega, by omega⟩ ⟨by omega, by omega⟩
    have hD2 := fun W => divisor5_any b.num a.den W ⟨by omega, by omega⟩ ⟨by omega, by omega⟩
    rw [g1] at hD1
    rw [g2] at hD2
    rw [hout] at hr
    have n1 : IntKind.i64.wrap m = m := by rw [IntKind.wrap_i64]; omega
    have n2 : IntKind.i64.wrap n = n := by rw [IntKind.wrap_i64]; omega
    have n3 : IntKind.i64.wrap (-m) = -m := by rw [IntKind.wrap_i64]; omega
    have n4 : IntKind.i64.wrap (-n) = -n := by rw [IntKind.wrap_i64]; omega
    have n5 : IntKind.i64.wrap p = p := by rw [IntKind.wrap_i64]; omega
    have n6 : IntKind.i64.wrap q = q := by rw [IntKind.wrap_i64]; omega
    have cz : c ≠ 0 := by omega
    have dz : d ≠ 0 := by omega
    have cz2 : (c == 0) = false := by simp; omega
    have dz2 : (d == 0) = false := by simp; omega
    have cA := kA2.cell
    have cB := kB2.cell
    have hmul := tms_mul m n
    clear hc hd hout g1 g2 hv
    have Hr2 := Lib.hid hr
    clear hr
    by_cases big : m ≠ 0 ∧ Int.tdiv 1000000000000 (max m (-m)) < max n (-n)
    · have hr := Hr2.out
      rw [if_pos big] at hr
      have hm0 := big.1
      have hn0 : n ≠ 0 := fun e => over_zero (.inr e) big
      have hsw := (over_swap hm0 hn0).2 big
      have u1 : (m != 0) = true := by simpa using hm0
      have u2 : (n != 0) = true := by simpa using hn0
      obtain ⟨q1, hq1⟩ : ∃ q1, max m (-m) = q1 := ⟨_, rfl⟩
      obtain ⟨q2, hq2⟩ : ∃ q2, max n (-n) = q2 := ⟨_, rfl⟩
      have q2z : q2 ≠ 0 := by omega
      have q2y : (q2 == 0) = false := by simp; omega
      rw [hq1, hq2] at hsw
      obtain ⟨zt, hzt⟩ : ∃ zt, Int.tdiv 1000000000000 q2 = zt := ⟨_, rfl⟩
      rw [hzt] at hsw
      have zb := tdiv_bd 1000000000000 q2 1000000000000 ⟨by omega, by omega⟩
      rw [hzt] at zb
      have w3 : IntKind.i64.wrap zt = zt := by rw [IntKind.wrap_i64]; omega
      clear big hm0 hn0 hmul Hr Hr2
      have HR := Lib.hid hr
      clear hr
      go_wp2_with (first
        | (go_at_call 118; (first | (with_reducible refine (hD1 _).mono ?_) | (with_reducible refine (hD2 _).mono ?_)); rintro e w9 ⟨rfl, rfl⟩)
        | fail)
      rw [putF0]
      have hbl : Blk (w2.setCells bz 0 (cF ⟨0, 0⟩)) bz (cF ⟨0, 0⟩).toArray 25 := kR2.setCells 0 (cF ⟨0, 0⟩)
      (try simp only [Exit.inBlock, Exit.then]); refine bodyPost_ret (results_cell_tmp rfl _ _ bz 25 (cF ⟨0, 0⟩) _ rfl hbl Tryz.underlying25 rfl (by kernel_rfl)) rfl ?_
      exact ⟨by rw [HR.out]; rfl, below_setCells hb2 (by omega) 0 _⟩
    · have hr := Hr2.out
      rw [if_neg big] at hr
      have hmn : -1000000000000 ≤ m * n ∧ m * n ≤ 1000000000000 := hmul.resolve_left big
      have mpq := mul_6_6 pb qb
      obtain ⟨mn, hmn2⟩ : ∃ mn, m * n = mn := ⟨_, rfl⟩
      obtain ⟨pq, hpq2⟩ : ∃ pq, p * q = pq := ⟨_, rfl⟩
      rw [hmn2, hpq2] at hr
      rw [hmn2] at hmn
      rw [hpq2] at mpq
      have n7 : IntKind.i64.wrap mn = mn := by rw [IntKind.wrap_i64]; omega
      have n8 : IntKind.i64.wrap pq = pq := by rw [IntKind.wrap_i64]; omega
      have hlow := fun W => lowest5_any mn pq W ⟨by omega, by omega⟩ ⟨by omega, by omega⟩
      have hrl : r = lowF mn pq := by
        rw [hr]; unfold lowF; (repeat' split) <;> simp_all
      rw [← hrl] at hlow
      obtain ⟨f, er⟩ := r
      dsimp only at hlow ⊢
      have Hbig := Lib.hid big
      clear hr hrl Hr Hr2 hmul big
      by_cases hm0 : m = 0
      · have u1 : (m != 0) = false := by simpa using hm0
        clear hm0
        go_upto_region 10 with (first
        | (go_at_call 118; (first | (with_reducible refine (hD1 _).mono ?_) | (with_reducible refine (hD2 _).mono ?_)); rintro e w9 ⟨rfl, rfl⟩)
        | fail)
        refine wp_region_T (fun W' => Blk W' bA #[.int .i64 a.num, .int .i64 a.den] 25 ∧ Blk W' bB #[.int .i64 b.num, .int .i64 b.den] 25 ∧ RowKit.Below w.heap.size w W') (fun W' => Blk W' bz #[.int .i64 0, .int .i64 0] 25) 15 (by kernel_rfl) ⟨kA2.drew, kB2.drew, hb2.trans ((Below.refl _ _).drew.mono hb2.size)⟩ kR2.drew (fun hS hT => ?_)
        refine wpAnyT_takeS (i := 0) (v := .int .i64 m) rfl (by kernel_rfl) (by kernel_rfl) (by kernel_rfl) rfl (fun _ _ _ h => h) (Or.inl ⟨by kernel_rfl, fun _ _ => by kernel_rfl⟩) hS (fun _ => hT) ?_
        try simp only [List.getElem_toArray, List.getElem_cons_zero]
        try dsimp only
        try simp only [Act.put, List.setIfInBounds_toArray, List.set_cons_zero, List.set_cons_succ]
        refine wpAnyT_takeS (i := 1) (v := .int .i64 n) rfl (by kernel_rfl) (by kernel_rfl) (by kernel_rfl) rfl (fun _ _ _ h => h) (Or.inl ⟨by kernel_rfl, fun _ _ => by kernel_rfl⟩) hS (fun _ => hT) ?_
        try simp only [List.getElem_toArray, List.getElem_cons_succ, List.getElem_cons_zero]
        try dsimp only
        try simp only [Act.put, List.setIfInBounds_toArray, List.set_cons_zero, List.set_cons_succ]
        refine wpAnyT_takeS (i := 2) (v := .int .i64 mn) rfl (by kernel_rfl) (by kernel_rfl) (by kernel_rfl) rfl (fun _ _ _ h => h) (Or.inl ⟨by kernel_rfl, fun W hW => by go_simp⟩) hS (fun _ => hT) ?_
        try simp only [List.getElem_toArray, List.getElem_cons_succ, List.getElem_cons_zero]
        try dsimp only
        try simp only [Act.put, List.setIfInBounds_toArray, List.set_cons_zero, List.set_cons_succ]
        refine wpAnyT_takeS (i := 3) (v := .pointer (some ⟨bA, 1, none⟩)) rfl (by kernel_rfl) (by kernel_rfl) (by kernel_rfl) rfl (fun _ _ _ h => h) (Or.inl ⟨by kernel_rfl, fun _ _ => by kernel_rfl⟩) hS (fun _ => hT) ?_
        try simp only [List.getElem_toArray, List.getElem_cons_succ, List.getElem_cons_zero]
        try dsimp only
        try simp only [Act.put, List.setIfInBounds_toArray, List.set_cons_zero, List.set_cons_succ]
        refine wpAnyT_takeS (i := 4) (v := .int .i64 a.den) rfl (by kernel_rfl) (by kernel_rfl) (by kernel_rfl) rfl (fun _ _ _ h => h) (Or.inl ⟨by kernel_rfl, fun W hW => by have e := hW.1.cell 1; go_simp⟩) hS (fun _ => hT) ?_
        try simp only [List.getElem_toArray, List.getElem_cons_succ, List.getElem_cons_zero]
        try dsimp only
        try simp only [Act.put, List.setIfInBounds_toArray, List.set_cons_zero, List.set_cons_succ]
        refine wpAnyT_takeS (i := 5) (v := .int .i64 d) rfl (by kernel_rfl) (by kernel_rfl) (by kernel_rfl) rfl (fun _ _ _ h => h) (Or.inl ⟨by kernel_rfl, fun _ _ => by kernel_rfl⟩) hS (fun _ => hT) ?_
        try simp only [List.getElem_toArray, List.getElem_cons_succ, List.getElem_cons_zero]
        try dsimp only
        try simp only [Act.put, List.setIfInBounds_toArray, List.set_cons_zero, List.set_cons_succ]
        refine wpAnyT_takeS (i := 6) (v := .int .i64 p) rfl (by kernel_rfl) (by kernel_rfl) (by kernel_rfl) rfl (fun _ _ _ h => h) (Or.inl ⟨by kernel_rfl, fun W hW => by go_simp⟩) hS (fun _ => hT) ?_
        try simp only [List.getElem_toArray, List.getElem_cons_succ, List.getElem_cons_zero]
        try dsimp only
        try simp only [Act.put, List.setIfInBounds_toArray, List.set_cons_zero, List.set_cons_succ]
        refine wpAnyT_takeS (i := 7) (v := .pointer (some ⟨bB, 1, none⟩)) rfl (by kernel_rfl) (by kernel_rfl) (by kernel_rfl) rfl (fun _ _ _ h => h) (Or.inl ⟨by kernel_rfl, fun _ _ => by kernel_rfl⟩) hS (fun _ => hT) ?_
        try simp only [List.getElem_toArray, List.getElem_cons_succ, List.getElem_cons_zero]
        try dsimp only
        try simp only [Act.put, List.setIfInBounds_toArray, List.set_cons_zero, List.set_cons_succ]
        refine wpAnyT_takeS (i := 8) (v := .int .i64 b.den) rfl (by kernel_rfl) (by kernel_rfl) (by kernel_rfl) rfl (fun _ _ _ h => h) (Or.inl ⟨by kernel_rfl, fun W hW => by have e := hW.2.1.cell 1; go_simp⟩) hS (fun _ => hT) ?_
        try simp only [List.getElem_toArray, List.getElem_cons_succ, List.getElem_cons_zero]
        try dsimp only
        try simp only [Act.put, List.setIfInBounds_toArray, List.set_cons_zero, List.set_cons_succ]
        refine wpAnyT_takeS (i := 9) (v := .int .i64 c) rfl (by kernel_rfl) (by kernel_rfl) (by kernel_rfl) rfl (fun _ _ _ h => h) (Or.inl ⟨by kernel_rfl, fun _ _ => by kernel_rfl⟩) hS (fun _ => hT) ?_
        try simp only [List.getElem_toArray, List.getElem_cons_succ, List.getElem_cons_zero]
        try dsimp only
        try simp only [Act.put, List.setIfInBounds_toArray, List.set_cons_zero, List.set_cons_succ]
        refine wpAnyT_takeS (i := 10) (v := .int .i64 q) rfl (by kernel_rfl) (by kernel_rfl) (by kernel_rfl) rfl (fun _ _ _ h => h) (Or.inl ⟨by kernel_rfl, fun W hW => by go_simp⟩) hS (fun _ => hT) ?_
        try simp only [List.getElem_toArray, List.getElem_cons_succ, List.getElem_cons_zero]
        try dsimp only
        try simp only [Act.put, List.setIfInBounds_toArray, List.set_cons_zero, List.set_cons_succ]
        refine wpAnyT_takeS (i := 11) (v := .int .i64 pq) rfl (by kernel_rfl) (by kernel_rfl) (by kernel_rfl) rfl (fun _ _ _ h => h) (Or.inl ⟨by kernel_rfl, fun W hW => by go_simp⟩) hS (fun _ => hT) ?_
        try simp only [List.getElem_toArray, List.getElem_cons_succ, List.getElem_cons_zero]
        try dsimp only
        try simp only [Act.put, List.setIfInBounds_toArray, List.set_cons_zero, List.set_cons_succ]
        refine wpAnyT_one (j := 12) rfl (by kernel_rfl) (by kernel_rfl) (fun K hK => ?_)
        go_simp
        refine (hlow _).mono ?_
        rintro e w3 ⟨rfl, hB3⟩
        have hS3 : Blk w3 bA #[.int .i64 a.num, .int .i64 a.den] 25 ∧ Blk w3 bB #[.int .i64 b.num, .int .i64 b.den] 25 ∧ RowKit.Below w.heap.size w w3 := ⟨hS.1.below' hB3, hS.2.1.below' hB3, hS.2.2.trans (hB3.mono hS.2.2.size)⟩
        have hT3 := hT.below' hB3
        refine hK.out _ _ hS3 (fun _ => hT3) ?_
        try simp only [List.getElem_toArray, List.getElem_cons_succ, List.getElem_cons_zero]
        try dsimp only
        try simp only [Act.put, List.setIfInBounds_toArray, List.set_cons_zero, List.set_cons_succ]
        refine wpAnyT_takeS (i := 13) (v := .agg (cF f).toArray) rfl (by kernel_rfl) (by kernel_rfl) (by kernel_rfl) rfl (fun _ _ _ h => h) (Or.inl ⟨by kernel_rfl, fun _ _ => by kernel_rfl⟩) hS3 (fun _ => hT3) ?_
        try simp only [List.getElem_toArray, List.getElem_cons_succ, List.getElem_cons_zero]
        try dsimp only
        try simp only [Act.put, List.setIfInBounds_toArray, List.set_cons_zero, List.set_cons_succ]
        refine wpAnyT_takeS (i := 14) (v := .int .i64 er) rfl (by kernel_rfl) (by kernel_rfl) (by kernel_rfl) rfl (fun _ _ _ h => h) (Or.inl ⟨by kernel_rfl, fun _ _ => by kernel_rfl⟩) hS3 (fun _ => hT3) ?_
        try simp only [List.getElem_toArray, List.getElem_cons_succ, List.getElem_cons_zero]
        try dsimp only
        try simp only [Act.put, List.setIfInBounds_toArray, List.set_cons_zero, List.set_cons_succ]
        refine wpAnyT_one (j := 15) rfl (by kernel_rfl) (by kernel_rfl) (fun K hK => ?_)
        refine oper_store_mid 25 _ _ rfl bz 0 (cF f).toArray rfl rfl (hT3.there 0 _ (by simp)) (by kernel_rfl) (by simp [Value.oneCell']) ?_
        have kF : Blk (w3.setCells bz 0 (cF f)) bz (cF f).toArray 25 := hT3.setCells 0 (cF f)
        have hS4 : Blk (w3.setCells bz 0 (cF f)) bA #[.int .i64 a.num, .int .i64 a.den] 25 ∧ Blk (w3.setCells bz 0 (cF f)) bB #[.int .i64 b.num, .int .i64 b.den] 25 ∧ RowKit.Below w.heap.size w (w3.setCells bz 0 (cF f)) := ⟨hS3.1.setCells_other (by omega) _ _, hS3.2.1.setCells_other (by omega) _ _, below_setCells hS3.2.2 (by omega) _ _⟩
        refine hK.out _ _ hS4 (fun q => by cases (show (true : Bool) = false from q)) ?_
        try simp only [List.getElem_toArray, List.getElem_cons_succ, List.getElem_cons_zero]
        try dsimp only
        try simp only [Act.put]
        refine wpAnyT_takeS (i := 16) (v := .int .i64 er) rfl (by kernel_rfl) (by kernel_rfl) (by kernel_rfl) rfl (fun _ _ _ h => h) (Or.inl ⟨by kernel_rfl, fun _ _ => by kernel_rfl⟩) hS4 (fun q => by cases (show (true : Bool) = false from q)) ?_
        try simp only [List.getElem_toArray, List.getElem_cons_succ, List.getElem_cons_zero]
        try dsimp only
        try simp only [Act.put, List.setIfInBounds_toArray, List.set_cons_zero, List.set_cons_succ]
        refine wpAnyT_done (by kernel_rfl) ?_ _
        go_wp2_with fail
        (try simp only [Exit.inBlock, Exit.then]); refine bodyPost_ret (results_cell_tmp rfl _ _ bz 25 (cF f) _ rfl kF Tryz.underlying25 rfl (by kernel_rfl)) rfl ?_
        exact ⟨rfl, hS4.2.2⟩
      · have u1 : (m != 0) = true := by simpa using hm0
        by_cases hn0 : n = 0
        · have u2 : (n != 0) = false := by simpa using hn0
          clear hm0 hn0
          go_upto_region 10 with (first
        | (go_at_call 118; (first | (with_reducible refine (hD1 _).mono ?_) | (with_reducible refine (hD2 _).mono ?_)); rintro e w9 ⟨rfl, rfl⟩)
        | fail)
          refine wp_region_T (fun W' => Blk W' bA #[.int .i64 a.num, .int .i64 a.den] 25 ∧ Blk W' bB #[.int .i64 b.num, .int .i64 b.den] 25 ∧ RowKit.Below w.heap.size w W') (fun W' => Blk W' bz #[.int .i64 0, .int .i64 0] 25) 15 (by kernel_rfl) ⟨kA2.drew, kB2.drew, hb2.trans ((Below.refl _ _).drew.mono hb2.size)⟩ kR2.drew (fun hS hT => ?_)
          refine wpAnyT_takeS (i := 0) (v := .int .i64 m) rfl (by kernel_rfl) (by kernel_rfl) (by kernel_rfl) rfl (fun _ _ _ h => h) (Or.inl ⟨by kernel_rfl, fun _ _ => by kernel_rfl⟩) hS (fun _ => hT) ?_
          try simp only [List.getElem_toArray, List.getElem_cons_zero]
          try dsimp only
          try simp only [Act.put, List.setIfInBounds_toArray, List.set_cons_zero, List.set_cons_succ]
          refine wpAnyT_takeS (i := 1) (v := .int .i64 n) rfl (by kernel_rfl) (by kernel_rfl) (by kernel_rfl) rfl (fun _ _ _ h => h) (Or.inl ⟨by kernel_rfl, fun _ _ => by kernel_rfl⟩) hS (fun _ => hT) ?_
          try simp only [List.getElem_toArray, List.getElem_cons_succ, List.getElem_cons_zero]
          try dsimp only
          try simp only [Act.put, List.setIfInBounds_toArray, List.set_cons_zero, List.set_cons_succ]
          refine wpAnyT_takeS (i := 2) (v := .int .i64 mn) rfl (by kernel_rfl) (by kernel_rfl) (by kernel_rfl) rfl (fun _ _ _ h => h) (Or.inl ⟨by kernel_rfl, fun W hW => by go_simp⟩) hS (fun _ => hT) ?_
          try simp only [List.getElem_toArray, List.getElem_cons_succ, List.getElem_cons_zero]
          try dsimp only
          try simp only [Act.put, List.setIfInBounds_toArray, List.set_cons_zero, List.set_cons_succ]
          refine wpAnyT_takeS (i := 3) (v := .pointer (some ⟨bA, 1, none⟩)) rfl (by kernel_rfl) (by kernel_rfl) (by kernel_rfl) rfl (fun _ _ _ h => h) (Or.inl ⟨by kernel_rfl, fun _ _ => by kernel_rfl⟩) hS (fun _ => hT) ?_
          try simp only [List.getElem_toArray, List.getElem_cons_succ, List.getElem_cons_zero]
          try dsimp only
          try simp only [Act.put, List.setIfInBounds_toArray, List.set_cons_zero, List.set_cons_succ]
          refine wpAnyT_takeS (i := 4) (v := .int .i64 a.den) rfl (by kernel_rfl) (by kernel_rfl) (by kernel_rfl) rfl (fun _ _ _ h => h) (Or.inl ⟨by kernel_rfl, fun W hW => by have e := hW.1.cell 1; go_simp⟩) hS (fun _ => hT) ?_
          try simp only [List.getElem_toArray, List.getElem_cons_succ, List.getElem_cons_zero]
          try dsimp only
          try simp only [Act.put, List.setIfInBounds_toArray, List.set_cons_zero, List.set_cons_succ]
          refine wpAnyT_takeS (i := 5) (v := .int .i64 d) rfl (by kernel_rfl) (by kernel_rfl) (by kernel_rfl) rfl (fun _ _ _ h => h) (Or.inl ⟨by kernel_rfl, fun _ _ => by kernel_rfl⟩) hS (fun _ => hT) ?_
          try simp only [List.getElem_toArray, List.getElem_cons_succ, List.getElem_cons_zero]
          try dsimp only
          try simp only [Act.put, List.setIfInBounds_toArray, List.set_cons_zero, List.set_cons_succ]
          refine wpAnyT_takeS (i := 6) (v := .int .i64 p) rfl (by kernel_rfl) (by kernel_rfl) (by kernel_rfl) rfl (fun _ _ _ h => h) (Or.inl ⟨by kernel_rfl, fun W hW => by go_simp⟩) hS (fun _ => hT) ?_
          try simp only [List.getElem_toArray, List.getElem_cons_succ, List.getElem_cons_zero]
          try dsimp only
          try simp only [Act.put, List.setIfInBounds_toArray, List.set_cons_zero, List.set_cons_succ]
          refine wpAnyT_takeS (i := 7) (v := .pointer (some ⟨bB, 1, none⟩)) rfl (by kernel_rfl) (by kernel_rfl) (by kernel_rfl) rfl (fun _ _ _ h => h) (Or.inl ⟨by kernel_rfl, fun _ _ => by kernel_rfl⟩) hS (fun _ => hT) ?_
          try simp only [List.getElem_toArray, List.getElem_cons_succ, List.getElem_cons_zero]
          try dsimp only
          try simp only [Act.put, List.setIfInBounds_toArray, List.set_cons_zero, List.set_cons_succ]
          refine wpAnyT_takeS (i := 8) (v := .int .i64 b.den) rfl (by kernel_rfl) (by kernel_rfl) (by kernel_rfl) rfl (fun _ _ _ h => h) (Or.inl ⟨by kernel_rfl, fun W hW => by have e := hW.2.1.cell 1; go_simp⟩) hS (fun _ => hT) ?_
          try simp only [List.getElem_toArray, List.getElem_cons_succ, List.getElem_cons_zero]
          try dsimp only
          try simp only [Act.put, List.setIfInBounds_toArray, List.set_cons_zero, List.set_cons_succ]
          refine wpAnyT_takeS (i := 9) (v := .int .i64 c) rfl (by kernel_rfl) (by kernel_rfl) (by kernel_rfl) rfl (fun _ _ _ h => h) (Or.inl ⟨by kernel_rfl, fun _ _ => by kernel_rfl⟩) hS (fun _ => hT) ?_
          try simp only [List.getElem_toArray, List.getElem_cons_succ, List.getElem_cons_zero]
          try dsimp only
          try simp only [Act.put, List.setIfInBounds_toArray, List.set_cons_zero, List.set_cons_succ]
          refine wpAnyT_takeS (i := 10) (v := .int .i64 q) rfl (by kernel_rfl) (by kernel_rfl) (by kernel_rfl) rfl (fun _ _ _ h => h) (Or.inl ⟨by kernel_rfl, fun W hW => by go_simp⟩) hS (fun _ => hT) ?_
          try simp only [List.getElem_toArray, List.getElem_cons_succ, List.getElem_cons_zero]
          try dsimp only
          try simp only [Act.put, List.setIfInBounds_toArray, List.set_cons_zero, List.set_cons_succ]
          refine wpAnyT_takeS (i := 11) (v := .int .i64 pq) rfl (by kernel_rfl) (by kernel_rfl) (by kernel_rfl) rfl (fun _ _ _ h => h) (Or.inl ⟨by kernel_rfl, fun W hW => by go_simp⟩) hS (fun _ => hT) ?_
          try simp only [List.getElem_toArray, List.getElem_cons_succ, List.getElem_cons_zero]
          try dsimp only
          try simp only [Act.put, List.setIfInBounds_toArray, List.set_cons_zero, List.set_cons_succ]
          refine wpAnyT_one (j := 12) rfl (by kernel_rfl) (by kernel_rfl) (fun K hK => ?_)
          go_simp
          refine (hlow _).mono ?_
          rintro e w3 ⟨rfl, hB3⟩
          have hS3 : Blk w3 bA #[.int .i64 a.num, .int .i64 a.den] 25 ∧ Blk w3 bB #[.int .i64 b.num, .int .i64 b.den] 25 ∧ RowKit.Below w.heap.size w w3 := ⟨hS.1.below' hB3, hS.2.1.below' hB3, hS.2.2.trans (hB3.mono hS.2.2.size)⟩
          have hT3 := hT.below' hB3
          refine hK.out _ _ hS3 (fun _ => hT3) ?_
          try simp only [List.getElem_toArray, List.getElem_cons_succ, List.getElem_cons_zero]
          try dsimp only
          try simp only [Act.put, List.setIfInBounds_toArray, List.set_cons_zero, List.set_cons_succ]
          refine wpAnyT_takeS (i := 13) (v := .agg (cF f).toArray) rfl (by kernel_rfl) (by kernel_rfl) (by kernel_rfl) rfl (fun _ _ _ h => h) (Or.inl ⟨by kernel_rfl, fun _ _ => by kernel_rfl⟩) hS3 (fun _ => hT3) ?_
          try simp only [List.getElem_toArray, List.getElem_cons_succ, List.getElem_cons_zero]
          try dsimp only
          try simp only [Act.put, List.setIfInBounds_toArray, List.set_cons_zero, List.set_cons_succ]
          refine wpAnyT_takeS (i := 14) (v := .int .i64 er) rfl (by kernel_rfl) (by kernel_rfl) (by kernel_rfl) rfl (fun _ _ _ h => h) (Or.inl ⟨by kernel_rfl, fun _ _ => by kernel_rfl⟩) hS3 (fun _ => hT3) ?_
          try simp only [List.getElem_toArray, List.getElem_cons_succ, List.getElem_cons_zero]
          try dsimp only
          try simp only [Act.put, List.setIfInBounds_toArray, List.set_cons_zero, List.set_cons_succ]
          refine wpAnyT_one (j := 15) rfl (by kernel_rfl) (by kernel_rfl) (fun K hK => ?_)
          refine oper_store_mid 25 _ _ rfl bz 0 (cF f).toArray rfl rfl (hT3.there 0 _ (by simp)) (by kernel_rfl) (by simp [Value.oneCell']) ?_
          have kF : Blk (w3.setCells bz 0 (cF f)) bz (cF f).toArray 25 := hT3.setCells 0 (cF f)
          have hS4 : Blk (w3.setCells bz 0 (cF f)) bA #[.int .i64 a.num, .int .i64 a.den] 25 ∧ Blk (w3.setCells bz 0 (cF f)) bB #[.int .i64 b.num, .int .i64 b.den] 25 ∧ RowKit.Below w.heap.size w (w3.setCells bz 0 (cF f)) := ⟨hS3.1.setCells_other (by omega) _ _, hS3.2.1.setCells_other (by omega) _ _, below_setCells hS3.2.2 (by omega) _ _⟩
          refine hK.out _ _ hS4 (fun q => by cases (show (true : Bool) = false from q)) ?_
          try simp only [List.getElem_toArray, List.getElem_cons_succ, List.getElem_cons_zero]
          try dsimp only
          try simp only [Act.put]
          refine wpAnyT_takeS (i := 16) (v := .int .i64 er) rfl (by kernel_rfl) (by kernel_rfl) (by kernel_rfl) rfl (fun _ _ _ h => h) (Or.inl ⟨by kernel_rfl, fun _ _ => by kernel_rfl⟩) hS4 (fun q => by cases (show (true : Bool) = false from q)) ?_
          try simp only [List.getElem_toArray, List.getElem_cons_succ, List.getElem_cons_zero]
          try dsimp only
          try simp only [Act.put, List.setIfInBounds_toArray, List.set_cons_zero, List.set_cons_succ]
          refine wpAnyT_done (by kernel_rfl) ?_ _
          go_wp2_with fail
          (try simp only [Exit.inBlock, Exit.then]); refine bodyPost_ret (results_cell_tmp rfl _ _ bz 25 (cF f) _ rfl kF Tryz.underlying25 rfl (by kernel_rfl)) rfl ?_
          exact ⟨rfl, hS4.2.2⟩
        · have u2 : (n != 0) = true := by simpa using hn0
          have hsw : ¬ (Int.tdiv 1000000000000 (max n (-n)) < max m (-m)) := fun h => Hbig.out ((over_swap hm0 hn0).1 h)
          obtain ⟨q1, hq1⟩ : ∃ q1, max m (-m) = q1 := ⟨_, rfl⟩
          obtain ⟨q2, hq2⟩ : ∃ q2, max n (-n) = q2 := ⟨_, rfl⟩
          have q2z : q2 ≠ 0 := by omega
          have q2y : (q2 == 0) = false := by simp; omega
          rw [hq1, hq2] at hsw
          obtain ⟨zt, hzt⟩ : ∃ zt, Int.tdiv 1000000000000 q2 = zt := ⟨_, rfl⟩
          rw [hzt] at hsw
          have zb := tdiv_bd 1000000000000 q2 1000000000000 ⟨by omega, by omega⟩
          rw [hzt] at zb
          have w3 : IntKind.i64.wrap zt = zt := by rw [IntKind.wrap_i64]; omega
          have hle : q1 ≤ zt := by omega
          clear hm0 hn0
          go_upto_region 10 with (first
        | (go_at_call 118; (first | (with_reducible refine (hD1 _).mono ?_) | (with_reducible refine (hD2 _).mono ?_)); rintro e w9 ⟨rfl, rfl⟩)
        | fail)
          refine wp_region_T (fun W' => Blk W' bA #[.int .i64 a.num, .int .i64 a.den] 25 ∧ Blk W' bB #[.int .i64 b.num, .int .i64 b.den] 25 ∧ RowKit.Below w.heap.size w W') (fun W' => Blk W' bz #[.int .i64 0, .int .i64 0] 25) 15 (by kernel_rfl) ⟨kA2.drew, kB2.drew, hb2.trans ((Below.refl _ _).drew.mono hb2.size)⟩ kR2.drew (fun hS hT => ?_)
          refine wpAnyT_takeS (i := 0) (v := .int .i64 m) rfl (by kernel_rfl) (by kernel_rfl) (by kernel_rfl) rfl (fun _ _ _ h => h) (Or.inl ⟨by kernel_rfl, fun _ _ => by kernel_rfl⟩) hS (fun _ => hT) ?_
          try simp only [List.getElem_toArray, List.getElem_cons_zero]
          try dsimp only
          try simp only [Act.put, List.setIfInBounds_toArray, List.set_cons_zero, List.set_cons_succ]
          refine wpAnyT_takeS (i := 1) (v := .int .i64 n) rfl (by kernel_rfl) (by kernel_rfl) (by kernel_rfl) rfl (fun _ _ _ h => h) (Or.inl ⟨by kernel_rfl, fun _ _ => by kernel_rfl⟩) hS (fun _ => hT) ?_
          try simp only [List.getElem_toArray, List.getElem_cons_succ, List.getElem_cons_zero]
          try dsimp only
          try simp only [Act.put, List.setIfInBounds_toArray, List.set_cons_zero, List.set_cons_succ]
          refine wpAnyT_takeS (i := 2) (v := .int .i64 mn) rfl (by kernel_rfl) (by kernel_rfl) (by kernel_rfl) rfl (fun _ _ _ h => h) (Or.inl ⟨by kernel_rfl, fun W hW => by go_simp⟩) hS (fun _ => hT) ?_
          try simp only [List.getElem_toArray, List.getElem_cons_succ, List.getElem_cons_zero]
          try dsimp only
          try simp only [Act.put, List.setIfInBounds_toArray, List.set_cons_zero, List.set_cons_succ]
          refine wpAnyT_takeS (i := 3) (v := .pointer (some ⟨bA, 1, none⟩)) rfl (by kernel_rfl) (by kernel_rfl) (by kernel_rfl) rfl (fun _ _ _ h => h) (Or.inl ⟨by kernel_rfl, fun _ _ => by kernel_rfl⟩) hS (fun _ => hT) ?_
          try simp only [List.getElem_toArray, List.getElem_cons_succ, List.getElem_cons_zero]
          try dsimp only
          try simp only [Act.put, List.setIfInBounds_toArray, List.set_cons_zero, List.set_cons_succ]
          refine wpAnyT_takeS (i := 4) (v := .int .i64 a.den) rfl (by kernel_rfl) (by kernel_rfl) (by kernel_rfl) rfl (fun _ _ _ h => h) (Or.inl ⟨by kernel_rfl, fun W hW => by have e := hW.1.cell 1; go_simp⟩) hS (fun _ => hT) ?_
          try simp only [List.getElem_toArray, List.getElem_cons_succ, List.getElem_cons_zero]
          try dsimp only
          try simp only [Act.put, List.setIfInBounds_toArray, List.set_cons_zero, List.set_cons_succ]
          refine wpAnyT_takeS (i := 5) (v := .int .i64 d) rfl (by kernel_rfl) (by kernel_rfl) (by kernel_rfl) rfl (fun _ _ _ h => h) (Or.inl ⟨by kernel_rfl, fun _ _ => by kernel_rfl⟩) hS (fun _ => hT) ?_
          try simp only [List.getElem_toArray, List.getElem_cons_succ, List.getElem_cons_zero]
          try dsimp only
          try simp only [Act.put, List.setIfInBounds_toArray, List.set_cons_zero, List.set_cons_succ]
          refine wpAnyT_takeS (i := 6) (v := .int .i64 p) rfl (by kernel_rfl) (by kernel_rfl) (by kernel_rfl) rfl (fun _ _ _ h => h) (Or.inl ⟨by kernel_rfl, fun W hW => by go_simp⟩) hS (fun _ => hT) ?_
          try simp only [List.getElem_toArray, List.getElem_cons_succ, List.getElem_cons_zero]
          try dsimp only
          try simp only [Act.put, List.setIfInBounds_toArray, List.set_cons_zero, List.set_cons_succ]
          refine wpAnyT_takeS (i := 7) (v := .pointer (some ⟨bB, 1, none⟩)) rfl (by kernel_rfl) (by kernel_rfl) (by kernel_rfl) rfl (fun _ _ _ h => h) (Or.inl ⟨by kernel_rfl, fun _ _ => by kernel_rfl⟩) hS (fun _ => hT) ?_
          try simp only [List.getElem_toArray, List.getElem_cons_succ, List.getElem_cons_zero]
          try dsimp only
          try simp only [Act.put, List.setIfInBounds_toArray, List.set_cons_zero, List.set_cons_succ]
          refine wpAnyT_takeS (i := 8) (v := .int .i64 b.den) rfl (by kernel_rfl) (by kernel_rfl) (by kernel_rfl) rfl (fun _ _ _ h => h) (Or.inl ⟨by kernel_rfl, fun W hW => by have e := hW.2.1.cell 1; go_simp⟩) hS (fun _ => hT) ?_
          try simp only [List.getElem_toArray, List.getElem_cons_succ, List.getElem_cons_zero]
          try dsimp only
          try simp only [Act.put, List.setIfInBounds_toArray, List.set_cons_zero, List.set_cons_succ]
          refine wpAnyT_takeS (i := 9) (v := .int .i64 c) rfl (by kernel_rfl) (by kernel_rfl) (by kernel_rfl) rfl (fun _ _ _ h => h) (Or.inl ⟨by kernel_rfl, fun _ _ => by kernel_rfl⟩) hS (fun _ => hT) ?_
          try simp only [List.getElem_toArray, List.getElem_cons_succ, List.getElem_cons_zero]
          try dsimp only
          try simp only [Act.put, List.setIfInBounds_toArray, List.set_cons_zero, List.set_cons_succ]
          refine wpAnyT_takeS (i := 10) (v := .int .i64 q) rfl (by kernel_rfl) (by kernel_rfl) (by kernel_rfl) rfl (fun _ _ _ h => h) (Or.inl ⟨by kernel_rfl, fun W hW => by go_simp⟩) hS (fun _ => hT) ?_
          try simp only [List.getElem_toArray, List.getElem_cons_succ, List.getElem_cons_zero]
          try dsimp only
          try simp only [Act.put, List.setIfInBounds_toArray, List.set_cons_zero, List.set_cons_succ]
          refine wpAnyT_takeS (i := 11) (v := .int .i64 pq) rfl (by kernel_rfl) (by kernel_rfl) (by kernel_rfl) rfl (fun _ _ _ h => h) (Or.inl ⟨by kernel_rfl, fun W hW => by go_simp⟩) hS (fun _ => hT) ?_
          try simp only [List.getElem_toArray, List.getElem_cons_succ, List.getElem_cons_zero]
          try dsimp only
          try simp only [Act.put, List.setIfInBounds_toArray, List.set_cons_zero, List.set_cons_succ]
          refine wpAnyT_one (j := 12) rfl (by kernel_rfl) (by kernel_rfl) (fun K hK => ?_)
          go_simp
          refine (hlow _).mono ?_
          rintro e w3 ⟨rfl, hB3⟩
          have hS3 : Blk w3 bA #[.int .i64 a.num, .int .i64 a.den] 25 ∧ Blk w3 bB #[.int .i64 b.num, .int .i64 b.den] 25 ∧ RowKit.Below w.heap.size w w3 := ⟨hS.1.below' hB3, hS.2.1.below' hB3, hS.2.2.trans (hB3.mono hS.2.2.size)⟩
          have hT3 := hT.below' hB3
          refine hK.out _ _ hS3 (fun _ => hT3) ?_
          try simp only [List.getElem_toArray, List.getElem_cons_succ, List.getElem_cons_zero]
          try dsimp only
          try simp only [Act.put, List.setIfInBounds_toArray, List.set_cons_zero, List.set_cons_succ]
          refine wpAnyT_takeS (i := 13) (v := .agg (cF f).toArray) rfl (by kernel_rfl) (by kernel_rfl) (by kernel_rfl) rfl (fun _ _ _ h => h) (Or.inl ⟨by kernel_rfl, fun _ _ => by kernel_rfl⟩) hS3 (fun _ => hT3) ?_
          try simp only [List.getElem_toArray, List.getElem_cons_succ, List.getElem_cons_zero]
          try dsimp only
          try simp only [Act.put, List.setIfInBounds_toArray, List.set_cons_zero, List.set_cons_succ]
          refine wpAnyT_takeS (i := 14) (v := .int .i64 er) rfl (by kernel_rfl) (by kernel_rfl) (by kernel_rfl) rfl (fun _ _ _ h => h) (Or.inl ⟨by kernel_rfl, fun _ _ => by kernel_rfl⟩) hS3 (fun _ => hT3) ?_
          try simp only [List.getElem_toArray, List.getElem_cons_succ, List.getElem_cons_zero]
          try dsimp only
          try simp only [Act.put, List.setIfInBounds_toArray, List.set_cons_zero, List.set_cons_succ]
          refine wpAnyT_one (j := 15) rfl (by kernel_rfl) (by kernel_rfl) (fun K hK => ?_)
          refine oper_store_mid 25 _ _ rfl bz 0 (cF f).toArray rfl rfl (hT3.there 0 _ (by simp)) (by kernel_rfl) (by simp [Value.oneCell']) ?_
          have kF : Blk (w3.setCells bz 0 (cF f)) bz (cF f).toArray 25 := hT3.setCells 0 (cF f)
          have hS4 : Blk (w3.setCells bz 0 (cF f)) bA #[.int .i64 a.num, .int .i64 a.den] 25 ∧ Blk (w3.setCells bz 0 (cF f)) bB #[.int .i64 b.num, .int .i64 b.den] 25 ∧ RowKit.Below w.heap.size w (w3.setCells bz 0 (cF f)) := ⟨hS3.1.setCells_other (by omega) _ _, hS3.2.1.setCells_other (by omega) _ _, below_setCells hS3.2.2 (by omega) _ _⟩
          refine hK.out _ _ hS4 (fun q => by cases (show (true : Bool) = false from q)) ?_
          try simp only [List.getElem_toArray, List.getElem_cons_succ, List.getElem_cons_zero]
          try dsimp only
          try simp only [Act.put]
          refine wpAnyT_takeS (i := 16) (v := .int .i64 er) rfl (by kernel_rfl) (by kernel_rfl) (by kernel_rfl) rfl (fun _ _ _ h => h) (Or.inl ⟨by kernel_rfl, fun _ _ => by kernel_rfl⟩) hS4 (fun q => by cases (show (true : Bool) = false from q)) ?_
          try simp only [List.getElem_toArray, List.getElem_cons_succ, List.getElem_cons_zero]
          try dsimp only
          try simp only [Act.put, List.setIfInBounds_toArray, List.set_cons_zero, List.set_cons_succ]
          refine wpAnyT_done (by kernel_rfl) ?_ _
          go_wp2_with fail
          (try simp only [Exit.inBlock, Exit.then]); refine bodyPost_ret (results_cell_tmp rfl _ _ bz 25 (cF f) _ rfl kF Tryz.underlying25 rfl (by kernel_rfl)) rfl ?_
          exact ⟨rfl, hS4.2.2⟩

end Go.Proofs.YtmeomhojbobpbaaGreatDoor

/-
  Walks: rounding down and up (claim.Floor, claim.Ceil).
-/
namespace Go.Proofs.YtmeomhojbobpbaaGreatDoor
open Go.RowKit Lg Go.Sort Go.Shelf

set_option maxRecDepth 100000 in
set_option maxHeartbeats 1600000 in
theorem floorK_any (x : Frac) (hx : frOk x) (w : World) : Calls Tryz.prog 116 #[aF x] w (Gives w (.int .i64 (x.num / x.den))) := by
  obtain ⟨x1, x2, x3, x4⟩ := hx
  have hfl := floor_step (a := x.num) (b := x.den) (by omega)
  have zb := tdiv_bd x.num x.den 1000000000000 ⟨x1, x2⟩
  have r1 := Int.tmod_lt_of_pos x.num (show 0 < x.den by omega)
  have r2 := Int.lt_tmod_of_pos x.num (show 0 < x.den by omega)
  obtain ⟨z, hz⟩ : ∃ z, x.num.tdiv x.den = z := ⟨_, rfl⟩
  obtain ⟨r, hr⟩ : ∃ r, x.num.tmod x.den = r := ⟨_, rfl⟩
  rw [hz] at hfl zb
  rw [hr] at hfl r1 r2
  have h0 : (x.den == 0) = false := by simp; omega
  have hn0 : x.den ≠ 0 := by omega
  have hB : RowKit.Below w.heap.size w (w.alloc (.cells #[.int .i64 x.num, .int .i64 x.den] 83)) := (Below.refl _ w).alloc (Nat.le_refl _) _
  by_cases hn : r < 0
  · rw [if_pos hn] at hfl
    rw [← hfl]
    have Hf := Lib.hid hfl
    clear hfl
    have dr : decide (r < 0) = true := decide_eq_true hn
    go_enter Tryz.func116, Tryz.ntmps116
    go_wp2_with (fail)
    go_ret
    exact ⟨rfl, hB⟩
  · rw [if_neg hn] at hfl
    rw [← hfl]
    have Hf := Lib.hid hfl
    clear hfl
    have dr : decide (r < 0) = false := decide_eq_false hn
    go_enter Tryz.func116, Tryz.ntmps116
    go_wp2_with (fail)
    go_ret
    exact ⟨rfl, hB⟩

set_option maxRecDepth 100000 in
set_option maxHeartbeats 1600000 in
theorem floorD_any (x : Frac) (w : World) : Calls Tryz.prog 55 #[aF x] w (Gives w (.int .i64 (floorF x))) := by
  have hv1 := fun W B (k : Blk W B #[.int .i64 x.num, .int .i64 x.den] 25) => valid_any (some ⟨B, 0, none⟩) 1 1 [x] W (Lst.one k)
  have ev : (!([x].any fun f => !validF f)) = validF x := by simp
  rw [ev] at hv1
  obtain ⟨w1, hw1⟩ : ∃ w1, w1 = (w.alloc (.cells #[.int .i64 x.num, .int .i64 x.den] 25)) := ⟨_, rfl⟩
  have k1 : Blk w1 w.heap.size #[.int .i64 x.num, .int .i64 x.den] 25 := hw1 ▸ Blk.new w _ _
  have hB : RowKit.Below w.heap.size w w1 := hw1 ▸ (Below.refl _ w).alloc (Nat.le_refl _) _
  have hB2 : RowKit.Below w.heap.size w (w1.alloc (.cells #[.int .i64 x.num, .int .i64 x.den] 25)) := hB.alloc hB.size _
  have hv := hv1 _ _ (Blk.new w1 _ _)
  have k2 := k1.alloc (.cells #[.int .i64 x.num, .int .i64 x.den] 25)
  unfold floorF
  rw [hw1] at hv k2 hB2
  rw [show (w.alloc (.cells #[.int .i64 x.num, .int .i64 x.den] 25)).heap.size = w.heap.size + 1 by simp] at hv
  clear ev hv1 k1 hB hw1
  cases hx : validF x with
  | false =>
    rw [hx] at hv
    clear hx k2
    rw [if_neg (by simp)]
    go_enter Tryz.func55, Tryz.ntmps55
    go_wp2_with (fail)
    refine hv.mono ?_
    clear hv
    rintro e w2 ⟨rfl, hB3⟩
    go_wp2_with (fail)
    go_ret
    exact ⟨rfl, hB2.trans (hB3.mono hB2.size)⟩
  | true =>
    rw [hx] at hv
    have hf := floorK_any x (validF_ok hx)
    clear hx
    rw [if_pos rfl]
    generalize x.num / x.den = z at *
    go_enter Tryz.func55, Tryz.ntmps55
    go_wp2_with (fail)
    refine hv.mono ?_
    clear hv
    rintro e w2 ⟨rfl, hB3⟩
    have k3 := k2.below' hB3
    have c3 := k3.cell
    have hB4 := hB2.trans (hB3.mono hB2.size)
    clear k2 hB2 hB3
    go_wp2_with (fail)
    refine (hf _).mono ?_
    rintro e w5 ⟨rfl, hB5⟩
    go_wp2_with (fail)
    go_ret
    exact ⟨rfl, hB4.trans (hB5.mono hB4.size)⟩

set_option maxRecDepth 100000 in
set_option maxHeartbeats 1600000 in
theorem ceilD_any (x : Frac) (w : World) : Calls Tryz.prog 57 #[aF x] w (Gives w (.int .i64 (ceilF x))) := by
  have hv1 := fun W B (k : Blk W B #[.int .i64 x.num, .int .i64 x.den] 25) => valid_any (some ⟨B, 0, none⟩) 1 1 [x] W (Lst.one k)
  have ev : (!([x].any fun f => !validF f)) = validF x := by simp
  rw [ev] at hv1
  obtain ⟨w1, hw1⟩ : ∃ w1, w1 = (w.alloc (.cells #[.int .i64 x.num, .int .i64 x.den] 25)) := ⟨_, rfl⟩
  have k1 : Blk w1 w.heap.size #[.int .i64 x.num, .int .i64 x.den] 25 := hw1 ▸ Blk.new w _ _
  have hB : RowKit.Below w.heap.size w w1 := hw1 ▸ (Below.refl _ w).alloc (Nat.le_refl _) _
  have hB2 : RowKit.Below w.heap.size w (w1.alloc (.cells #[.int .i64 x.num, .int .i64 x.den] 25)) := hB.alloc hB.size _
  have hv := hv1 _ _ (Blk.new w1 _ _)
  have k2 := k1.alloc (.cells #[.int .i64 x.num, .int .i64 x.den] 25)
  unfold ceilF
  rw [hw1] at hv k2 hB2
  rw [show (w.alloc (.cells #[.int .i64 x.num, .int .i64 x.den] 25)).heap.size = w.heap.size + 1 by simp] at hv
  clear ev hv1 k1 hB hw1
  cases hx : validF x with
  | false =>
    rw [hx] at hv
    clear hx k2
    rw [if_neg (by simp)]
    go_enter Tryz.func57, Tryz.ntmps57
    go_wp2_with (fail)
    refine hv.mono ?_
    clear hv
    rintro e w2 ⟨rfl, hB3⟩
    go_wp2_with (fail)
    go_ret
    exact ⟨rfl, hB2.trans (hB3.mono hB2.size)⟩
  | true =>
    rw [hx] at hv
    obtain ⟨x1, x2, x3, x4⟩ := validF_ok hx
    have hf := floorK_any ⟨-x.num, x.den⟩ ⟨by dsimp only; omega, by dsimp only; omega, x3, x4⟩
    have zb : -1000000000000 ≤ (-x.num) / x.den ∧ (-x.num) / x.den ≤ 1000000000000 := by
      constructor
      · exact Int.le_ediv_of_mul_le (by omega) (by
          have : -1000000000000 * x.den ≤ -1000000000000 * 1 := Int.mul_le_mul_of_nonpos_left (by omega) (by omega)
          omega)
      · have h1 := Int.ediv_mul_le (-x.num) (show x.den ≠ 0 by omega)
        rcases Int.lt_or_le 0 ((-x.num) / x.den) with h | h
        · have : (-x.num) / x.den * 1 ≤ (-x.num) / x.den * x.den := Int.mul_le_mul_of_nonneg_left x3 (by omega)
          omega
        · omega
    clear hx
    rw [if_pos rfl]
    dsimp only at hf
    generalize (-x.num) / x.den = z at *
    go_enter Tryz.func57, Tryz.ntmps57
    go_wp2_with (fail)
    refine hv.mono ?_
    clear hv
    rintro e w2 ⟨rfl, hB3⟩
    have k3 := k2.below' hB3
    have c3 := k3.cell
    have hB4 := hB2.trans (hB3.mono hB2.size)
    clear k2 hB2 hB3
    go_wp2_with (fail)
    refine (hf _).mono ?_
    rintro e w5 ⟨rfl, hB5⟩
    go_wp2_with (fail)
    go_ret
    exact ⟨rfl, hB4.trans (hB5.mono hB4.size)⟩

end Go.Proofs.YtmeomhojbobpbaaGreatDoor
