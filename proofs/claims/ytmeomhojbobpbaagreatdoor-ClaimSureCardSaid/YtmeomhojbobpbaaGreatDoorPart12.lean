import Derived.Test.YtmeomhojbobpbaaGreatDoorPart11
/-
  Walk: the comparison of two parts of the chapter's example.
-/
namespace Go.Proofs.YtmeomhojbobpbaaGreatDoor
open Go.RowKit Lg Go.Sort Go.Shelf

set_option maxRecDepth 100000 in
set_option maxHeartbeats 3200000 in
theorem cmp_any (Bt Bp Bc : Nat) (total : Int) (a : Option Addr) (n cap : Nat) (xs : List Frac) (i j : Nat) (x y : Frac) (w : World) (hBt : Blk w Bt #[.int .i64 total] 3) (hBp : Blk w Bp #[.slice a n cap] 22)
    (hBc : Blk w Bc #[.func (.func 72) #[] #[.pointer (some ⟨Bt, 0, none⟩), .pointer (some ⟨Bp, 0, none⟩)]] 88) (hL : Lst w 2 cF a n cap xs)
    (hx : xs[i]? = some x) (hy : xs[j]? = some y) (ht : 0 ≤ total ∧ total ≤ 1000000000) (h0 : 0 ≤ x.num ∧ x.num ≤ x.den) (hb : 1 ≤ x.den ∧ x.den ≤ 1000000) (k0 : 0 ≤ y.num ∧ y.num ≤ y.den) (kb : 1 ≤ y.den ∧ y.den ≤ 1000000) :
    Calls Tryz.prog 74 #[.int .i64 i, .int .i64 j, .pointer (some ⟨Bc, 0, none⟩)] w (Gives w (.int .i64 (Lib.compareInt (total * y.num % y.den * x.den) (total * x.num % x.den * y.den)))) := by
  have eg : ∀ args w, (callFunc 72 args).run Tryz.prog w = .ok (.enter 72 args) w := enters_of Tryz.func72 (by kernel_rfl) rfl
  have h1 : ∀ W', RowKit.Below w.heap.size w W' → Calls Tryz.prog 72 #[.int .i64 (i : Int), .pointer (some ⟨Bt, 0, none⟩), .pointer (some ⟨Bp, 0, none⟩)] W' fun e w' => e = .returned (aF ⟨total * x.num % x.den, x.den⟩) ∧ RowKit.Below W'.heap.size W' w' ∧ RowKit.Below w.heap.size w w' := fun W' h => by
    refine (cut_any Bt Bp total a n cap _ i x W' (hBt.below' h) (hBp.below' h) (hL.below h) hx ht h0 hb).mono ?_
    rintro e w' ⟨rfl, hb⟩
    exact ⟨rfl, hb, h.trans (hb.mono h.size)⟩
  have h2 : ∀ W', RowKit.Below w.heap.size w W' → Calls Tryz.prog 72 #[.int .i64 (j : Int), .pointer (some ⟨Bt, 0, none⟩), .pointer (some ⟨Bp, 0, none⟩)] W' fun e w' => e = .returned (aF ⟨total * y.num % y.den, y.den⟩) ∧ RowKit.Below W'.heap.size W' w' ∧ RowKit.Below w.heap.size w w' := fun W' h => by
    refine (cut_any Bt Bp total a n cap _ j y W' (hBt.below' h) (hBp.below' h) (hL.below h) hy ht k0 kb).mono ?_
    rintro e w' ⟨rfl, hb⟩
    exact ⟨rfl, hb, h.trans (hb.mono h.size)⟩
  have hlen := hL.len
  have hle := hL.le
  have hmx := hL.max
  unfold maxLen at hmx
  have hi : (i : Int) ≤ 9223372036854775807 := by have := (List.getElem?_eq_some_iff.1 hx).1; omega
  have hj : (j : Int) ≤ 9223372036854775807 := by have := (List.getElem?_eq_some_iff.1 hy).1; omega
  have hr1 : 0 ≤ total * x.num % x.den ∧ total * x.num % x.den < x.den := ⟨Int.emod_nonneg _ (by omega), Int.emod_lt_of_pos _ (by omega)⟩
  have hr2 : 0 ≤ total * y.num % y.den ∧ total * y.num % y.den < y.den := ⟨Int.emod_nonneg _ (by omega), Int.emod_lt_of_pos _ (by omega)⟩
  have hsame : i = j → total * x.num % x.den = total * y.num % y.den ∧ x.den = y.den := by
    intro h; subst h; rw [hx] at hy; cases hy; exact ⟨rfl, rfl⟩
  obtain ⟨xn, xd⟩ := x
  obtain ⟨yn, yd⟩ := y
  simp only [aF] at *
  generalize total * xn % xd = r1 at *
  generalize total * yn % yd = r2 at *
  have hw1 : IntKind.i64.wrap (r2 * xd) = r2 * xd := by
    have p1 : 0 ≤ r2 * xd := Int.mul_nonneg (by omega) (by omega)
    have p2 : r2 * xd ≤ 1000000 * 1000000 := Int.mul_le_mul (by omega) (by omega) (by omega) (by omega)
    rw [IntKind.wrap_i64]; omega
  have hw2 : IntKind.i64.wrap (r1 * yd) = r1 * yd := by
    have p1 : 0 ≤ r1 * yd := Int.mul_nonneg (by omega) (by omega)
    have p2 : r1 * yd ≤ 1000000 * 1000000 := Int.mul_le_mul (by omega) (by omega) (by omega) (by omega)
    rw [IntKind.wrap_i64]; omega
  have hC : ∀ W', RowKit.Below w.heap.size w W' → W'.cell? ⟨Bc, 0, none⟩ = some (.func (.func 72) #[] #[.pointer (some ⟨Bt, 0, none⟩), .pointer (some ⟨Bp, 0, none⟩)]) := fun W' h => (hBc.below' h).cell 0
  have hcm := fun W => Tryz.cmp_Compare_int (r2 * xd) (r1 * yd) W
  obtain ⟨vc, hvc⟩ : ∃ vc, vc = Lib.compareInt (r2 * xd) (r1 * yd) := ⟨_, rfl⟩
  rw [← hvc] at hcm ⊢
  obtain ⟨vv, hv0, hv1⟩ : ∃ vv : Int → Value, vv i = .agg #[.int .i64 r1, .int .i64 xd] ∧ vv j = .agg #[.int .i64 r2, .int .i64 yd] := by
    by_cases hij : i = j
    · obtain ⟨e1, e2⟩ := hsame hij
      refine ⟨fun _ => .agg #[.int .i64 r1, .int .i64 xd], rfl, ?_⟩
      rw [e1, e2]
    · refine ⟨fun k => if k = i then .agg #[.int .i64 r1, .int .i64 xd] else .agg #[.int .i64 r2, .int .i64 yd], by simp, ?_⟩
      have : ¬ ((j : Int) = i) := by omega
      simp [this]
  have hcut : ∀ (k : Int) (hk : k = i ∨ k = j) W', RowKit.Below w.heap.size w W' → Calls Tryz.prog 72 #[.int .i64 k, .pointer (some ⟨Bt, 0, none⟩), .pointer (some ⟨Bp, 0, none⟩)] W' fun e w' => e = .returned (vv k) ∧ RowKit.Below W'.heap.size W' w' ∧ RowKit.Below w.heap.size w w' := by
    rintro k (rfl | rfl) W' h
    · rw [hv0]; exact h1 W' h
    · rw [hv1]; exact h2 W' h
  clear h1 h2 hsame
  obtain ⟨ii, hii⟩ : ∃ ii : Int, ii = i := ⟨_, rfl⟩
  obtain ⟨jj, hjj⟩ : ∃ jj : Int, jj = j := ⟨_, rfl⟩
  rw [← hii] at hv0 hcut hi
  rw [← hjj] at hv1 hcut hj
  rw [← hii, ← hjj]
  clear hvc hBt hBp hBc hL hii hjj hx hy hlen hle hmx
  go_enter Tryz.func74, Tryz.ntmps74
  go_wp2_with (fail)
  go_region_held3 (fun w' => w'.cell? ⟨Bc, 0, none⟩ = some (.func (.func 72) #[] #[.pointer (some ⟨Bt, 0, none⟩), .pointer (some ⟨Bp, 0, none⟩)]))
    (exact hC _ (by repeat (first | assumption | exact Below.refl _ _ | refine Below.alloc ?_ (by first | omega | simp <;> omega) _ | refine Below.setCell ?_ (by simp <;> omega) _ | refine Below.drew ?_)))
    (first
      | (go_at_call 72; refine (hcut _ (by omega) _ (by repeat (first | assumption | exact Below.refl _ _ | refine Below.alloc ?_ (by first | omega | simp <;> omega) _ | refine Below.setCell ?_ (by simp <;> omega) _ | refine Below.drew ?_))).mono ?_; rintro e w5 ⟨rfl, hB5, hb5⟩; have hs5 := hb5.size; have hs55 := hB5.size; (try simp only [World.size_alloc] at hs55);
          (first | (have mka := ka.below' hB5; have mkac := mka.cell; have mkaf := mka.frozen; have mkal := mka.lt) | (have mka := (ka.alloc _).below' hB5; have mkac := mka.cell; have mkaf := mka.frozen; have mkal := mka.lt) | skip);
          (first | (have mkb := kb.below' hB5; have mkbc := mkb.cell; have mkbf := mkb.frozen; have mkbl := mkb.lt) | (have mkb := (kb.alloc _).below' hB5; have mkbc := mkb.cell; have mkbf := mkb.frozen; have mkbl := mkb.lt) | skip);
          (first | (have kb := (((Blk.new _ 25 #[.int .i64 0, .int .i64 0]).alloc _).drew).below' hB5; (try simp only [World.size_alloc, World.size_drew] at kb); have kbc := kb.cell; have kbf := kb.frozen; have kbl := kb.lt) | (have kb := ((Blk.new _ 25 #[.int .i64 0, .int .i64 0]).alloc _).below' hB5; (try simp only [World.size_alloc, World.size_drew] at kb); have kbc := kb.cell; have kbf := kb.frozen; have kbl := kb.lt) | skip);
          (first | (have ka := (Blk.new _ 25 #[.int .i64 0, .int .i64 0]).drew.below' hB5; (try simp only [World.size_alloc] at ka); have kac := ka.cell; have kaf := ka.frozen; have kal := ka.lt) | (have ka := (Blk.new _ 25 #[.int .i64 0, .int .i64 0]).below' hB5; (try simp only [World.size_alloc] at ka); have kac := ka.cell; have kaf := ka.frozen; have kal := ka.lt) | skip))
      | fail)
  all_goals (rename_i hSx; clear hSx; go_wp2_with (go_at_call 75; refine (hcm _).mono ?_; rintro e w3 ⟨rfl, rfl⟩))
  all_goals (go_ret; refine ⟨rfl, ?_⟩; repeat (first | assumption | exact Below.refl _ _ | refine Below.alloc ?_ (by first | omega | simp <;> omega) _ | refine Below.setCell ?_ (by simp <;> omega) _ | refine Below.drew ?_))
  all_goals done

end Go.Proofs.YtmeomhojbobpbaaGreatDoor
