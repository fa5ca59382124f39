import Derived.Test.YtmeomhojbobpbaaGreatDoorPart19
import Derived.Test.YtmeomhojbobpbaaGreatDoorPart20
import Derived.Test.YtmeomhojbobpbaaGreatDoorPart22
/-
  Plain laws of fractions: lowest terms and rounding, as the reference has them.
-/
namespace Lg
open Go

/-- What the reference's Norm gives. -/
def normR (num den : Int) : Frac × Int :=
  if decide (den = 0) || !inn num (-1000000000000000) 1000000000000000 || !inn den (-1000000000000000) 1000000000000000 then (⟨0, 0⟩, 1)
  else if den < 0 then lowF (-num) (-den) else lowF num den

theorem normN_negs (num den : Int) (hd : den < 0) : normN (-num) (-den) = normN num den := by
  unfold normN normD
  rw [if_neg (by omega), if_pos hd]
  have hg : Int.gcd (-num) (-den) = Int.gcd num den := by unfold Int.gcd; rw [Int.natAbs_neg, Int.natAbs_neg]
  rw [hg, Int.neg_tdiv, Int.neg_tdiv, Int.tdiv_neg, Int.tdiv_neg]

theorem normR_eq (num den : Int) : normR num den = normF num den := by
  unfold normR normF
  split
  · rfl
  · split
    · rename_i hd
      unfold lowF normOk
      rw [normN_negs num den hd]
    · rfl

/-- Rounding down, and up. -/
def floorF (a : Frac) : Int := if validF a = true then a.num / a.den else 0
def ceilF (a : Frac) : Int := if validF a = true then -((-a.num) / a.den) else 0

theorem floor_step {a b : Int} (hb : 0 < b) : (if a.tmod b < 0 then a.tdiv b - 1 else a.tdiv b) = a / b := by
  rw [Int.tdiv_eq_ediv, Int.tmod_eq_emod]
  have h1 := Int.emod_nonneg a (show b ≠ 0 by omega)
  have h2 := Int.emod_lt_of_pos a hb
  have hs : b.sign = 1 := Int.sign_eq_one_of_pos hb
  by_cases c : 0 ≤ a ∨ b ∣ a
  · rw [if_pos c, if_pos c, if_neg (by omega)]; omega
  · rw [if_neg c, if_neg c, hs]
    have h3 : a % b ≠ 0 := fun e => c (.inr (Int.dvd_of_emod_eq_zero e))
    have h4 : (b.natAbs : Int) = b := by omega
    rw [if_pos (by omega)]
    omega

theorem floor_step2 {a b : Int} (hb : 0 < b) : (if a < a.tdiv b * b then a.tdiv b - 1 else a.tdiv b) = a / b := by
  rw [← floor_step hb]
  have h := Int.tmod_add_tdiv_mul a b
  by_cases c : a.tmod b < 0
  · rw [if_pos c, if_pos (by omega)]
  · rw [if_neg c, if_neg (by omega)]

end Lg

/-
  Walks: the reference's floor, Floor, Ceil, Sub, Norm.
-/
namespace Go.Proofs.YtmeomhojbobpbaaGreatDoor
open Go.RowKit Lg Go.Sort Go.Shelf

set_option maxRecDepth 100000 in
set_option maxHeartbeats 800000 in
theorem floor5_any (a b : Int) (ha : -1000000000000 ≤ a ∧ a ≤ 1000000000000) (hb : 1 ≤ b ∧ b ≤ 1000000) (w : World) : Calls Tryz.prog 117 #[.int .i64 a, .int .i64 b] w (Gives w (.int .i64 (a / b))) := by
  have hfl := floor_step2 (a := a) (b := b) (by omega)
  have zb := tdiv_bd a b 1000000000000 ha
  have r1 := Int.tmod_lt_of_pos a (show 0 < b by omega)
  have r2 := Int.lt_tmod_of_pos a (show 0 < b by omega)
  have r3 := Int.tmod_add_tdiv_mul a b
  obtain ⟨z, hz⟩ : ∃ z, a.tdiv b = z := ⟨_, rfl⟩
  rw [hz] at hfl zb r3
  obtain ⟨zm, hzm⟩ : ∃ zm, z * b = zm := ⟨_, rfl⟩
  rw [hzm] at hfl r3
  have h0 : (b == 0) = false := by simp; omega
  have hn0 : b ≠ 0 := by omega
  have w1 : IntKind.i64.wrap z = z := by rw [IntKind.wrap_i64]; omega
  have w2 : IntKind.i64.wrap zm = zm := by rw [IntKind.wrap_i64]; omega
  have w3 : IntKind.i64.wrap (z - 1) = z - 1 := by rw [IntKind.wrap_i64]; omega
  by_cases hn : a < zm
  · rw [if_pos hn] at hfl
    rw [← hfl]
    have Hf := Lib.hid hfl
    clear hfl r1 r2 r3
    go_enter Tryz.func117, Tryz.ntmps117
    go_wp2_with (fail)
    go_ret
    exact ⟨rfl, Below.refl _ _⟩
  · rw [if_neg hn] at hfl
    rw [← hfl]
    have Hf := Lib.hid hfl
    clear hfl r1 r2 r3
    go_enter Tryz.func117, Tryz.ntmps117
    go_wp2_with (fail)
    go_ret
    exact ⟨rfl, Below.refl _ _⟩

set_option maxRecDepth 100000 in
set_option maxHeartbeats 800000 in
theorem floor5D_any (x : Frac) (w : World) : Calls Tryz.prog 56 #[aF x] w (Gives w (.int .i64 (floorF x))) := by
  obtain ⟨w1, hw1⟩ : ∃ w1, w1 = (w.alloc (.cells #[.int .i64 x.num, .int .i64 x.den] 25)) := ⟨_, rfl⟩
  have k1 : Blk w1 w.heap.size #[.int .i64 x.num, .int .i64 x.den] 25 := hw1 ▸ Blk.new w _ _
  have hB : RowKit.Below w.heap.size w w1 := hw1 ▸ (Below.refl _ w).alloc (Nat.le_refl _) _
  have hv := valid5_any x w1
  unfold floorF
  have c1 := k1.cell
  cases hx : validF x with
  | false =>
    rw [hx] at hv
    go_enter Tryz.func56, Tryz.ntmps56
    go_upto_region 1 with fail
    rw [← hw1]
    clear hw1
    go_wp2_with (fail)
    refine hv.mono ?_
    rintro e w2 ⟨rfl, hB2⟩
    go_wp2_with (fail)
    go_ret
    exact ⟨rfl, hB.trans (hB2.mono hB.size)⟩
  | true =>
    rw [hx] at hv
    obtain ⟨x1, x2, x3, x4⟩ := validF_ok hx
    have hf := fun W => floor5_any x.num x.den ⟨x1, x2⟩ ⟨x3, x4⟩ W
    rw [if_pos rfl]
    generalize x.num / x.den = q at *
    clear hx
    go_enter Tryz.func56, Tryz.ntmps56
    go_upto_region 1 with fail
    rw [← hw1]
    clear hw1
    go_wp2_with (fail)
    refine hv.mono ?_
    rintro e w2 ⟨rfl, hB2⟩
    have c2 := (k1.below' hB2).cell
    clear c1
    go_wp2_with (fail)
    refine (hf w2).mono ?_
    rintro e w3 ⟨rfl, hB3⟩
    go_wp2_with (fail)
    go_ret
    have hb2 := hB.trans (hB2.mono hB.size)
    exact ⟨rfl, hb2.trans (hB3.mono hb2.size)⟩

set_option maxRecDepth 100000 in
set_option maxHeartbeats 800000 in
theorem ceil5D_any (x : Frac) (w : World) : Calls Tryz.prog 58 #[aF x] w (Gives w (.int .i64 (ceilF x))) := by
  obtain ⟨w1, hw1⟩ : ∃ w1, w1 = (w.alloc (.cells #[.int .i64 x.num, .int .i64 x.den] 25)) := ⟨_, rfl⟩
  have k1 : Blk w1 w.heap.size #[.int .i64 x.num, .int .i64 x.den] 25 := hw1 ▸ Blk.new w _ _
  have hB : RowKit.Below w.heap.size w w1 := hw1 ▸ (Below.refl _ w).alloc (Nat.le_refl _) _
  have hv := valid5_any x w1
  unfold ceilF
  have c1 := k1.cell
  cases hx : validF x with
  | false =>
    rw [hx] at hv
    go_enter Tryz.func58, Tryz.ntmps58
    go_upto_region 1 with fail
    rw [← hw1]
    clear hw1
    go_wp2_with (fail)
    refine hv.mono ?_
    rintro e w2 ⟨rfl, hB2⟩
    go_wp2_with (fail)
    go_ret
    exact ⟨rfl, hB.trans (hB2.mono hB.size)⟩
  | true =>
    rw [hx] at hv
    obtain ⟨x1, x2, x3, x4⟩ := validF_ok hx
    have hf := fun W => floor5_any (-x.num) x.den ⟨by omega, by omega⟩ ⟨x3, x4⟩ W
    rw [if_pos rfl]
    have hq1 : -1000000000001 ≤ (-x.num) / x.den ∧ (-x.num) / x.den ≤ 1000000000001 := by
      have h1 := floor_step2 (a := -x.num) (b := x.den) (by omega)
      have h2 := tdiv_bd (-x.num) x.den 1000000000000 ⟨by omega, by omega⟩
      rw [← h1]; split <;> omega
    have w5 : IntKind.i64.wrap (-x.num) = -x.num := by rw [IntKind.wrap_i64]; omega
    generalize (-x.num) / x.den = q at *
    have w6 : IntKind.i64.wrap (-q) = -q := by rw [IntKind.wrap_i64]; omega
    clear hx
    go_enter Tryz.func58, Tryz.ntmps58
    go_upto_region 1 with fail
    rw [← hw1]
    clear hw1
    go_wp2_with (fail)
    refine hv.mono ?_
    rintro e w2 ⟨rfl, hB2⟩
    have c2 := (k1.below' hB2).cell
    clear c1
    go_wp2_with (fail)
    refine (hf w2).mono ?_
    rintro e w3 ⟨rfl, hB3⟩
    go_wp2_with (fail)
    go_ret
    have hb2 := hB.trans (hB2.mono hB.size)
    exact ⟨rfl, hb2.trans (hB3.mono hb2.size)⟩

end Go.Proofs.YtmeomhojbobpbaaGreatDoor

/-
  Walks: the reference's Sub and Norm.
-/
namespace Go.Proofs.YtmeomhojbobpbaaGreatDoor
open Go.RowKit Lg Go.Sort Go.Shelf

theorem addF_least {a b : Frac} {d : Int} (h : (⟨-9223372036854775808, d⟩ : Frac) = b) : addF a b = addF a (negF b) := by
  subst h
  unfold addF
  rw [validF_neg]
  have : validF ⟨-9223372036854775808, d⟩ = false := by
    cases hv : validF ⟨-9223372036854775808, d⟩ with
    | false => rfl
    | true => have := (validF_parts hv).2.2.1; simp at this
  rw [this]; simp

set_option maxRecDepth 100000 in
set_option maxHeartbeats 800000 in
theorem sub5_any (a b : Frac) (hb : -9223372036854775808 ≤ b.num ∧ b.num ≤ 9223372036854775807) (w : World) : Calls Tryz.prog 60 #[aF a, aF b] w (Gives w (.tuple #[aF (subF a b).1, .int .i64 (subF a b).2])) := by
  obtain ⟨w1, hw1⟩ : ∃ w1, w1 = ((w.alloc (.cells #[.int .i64 a.num, .int .i64 a.den] 25)).alloc (.cells #[.int .i64 b.num, .int .i64 b.den] 25)).alloc (.cells #[.int .i64 0, .int .i64 0] 25) := ⟨_, rfl⟩
  have kA : Blk w1 w.heap.size #[.int .i64 a.num, .int .i64 a.den] 25 := hw1 ▸ ((Blk.new w _ _).alloc _).alloc _
  have kB : Blk w1 (w.heap.size + 1) #[.int .i64 b.num, .int .i64 b.den] 25 := hw1 ▸ (Blk.nw1 w _ _ _).alloc _
  have kR : Blk w1 (w.heap.size + 1 + 1) #[.int .i64 0, .int .i64 0] 25 := hw1 ▸ Blk.nw2 w _ _ _ _
  have hb1 : RowKit.Below w.heap.size w w1 := hw1 ▸ (((Below.refl _ w).alloc (Nat.le_refl _) _).alloc (by simp) _).alloc (by simp; omega) _
  obtain ⟨nb, hnb⟩ : ∃ nb, IntKind.i64.wrap (-b.num) = nb := ⟨_, rfl⟩
  have hadd : Calls Tryz.prog 59 #[aF a, aF ⟨nb, b.den⟩] w1 (Gives w1 (.tuple #[aF (subF a b).1, .int .i64 (subF a b).2])) := by
    have h := add5_any a ⟨nb, b.den⟩ w1
    have e : addF a ⟨nb, b.den⟩ = subF a b := by
      unfold subF
      rw [← hnb]
      by_cases hm : b.num = -9223372036854775808
      · have e1 : IntKind.i64.wrap (-b.num) = -9223372036854775808 := by rw [IntKind.wrap_i64]; omega
        rw [e1]
        rw [addF_least (b := b) (d := b.den) (by rw [← hm])|>.symm]
        rw [show (⟨-9223372036854775808, b.den⟩ : Frac) = b by rw [← hm]]
      · have e1 : IntKind.i64.wrap (-b.num) = -b.num := by rw [IntKind.wrap_i64]; omega
        rw [e1]; rfl
    rwa [e] at h
  generalize subF a b = r at hadd ⊢
  obtain ⟨f, er⟩ := r
  dsimp only at hadd ⊢
  have cA := kA.cell
  have cB := kB.cell
  go_enter Tryz.func60, Tryz.ntmps60
  go_upto_region 1 with fail
  rw [← hw1]
  clear hw1
  obtain ⟨bz, hbz⟩ : ∃ b, b = w.heap.size + 1 + 1 := ⟨_, rfl⟩
  have hge : w.heap.size ≤ bz := by omega
  rw [← hbz] at kR ⊢
  clear hbz
  go_wp2_with (fail)
  refine hadd.mono ?_
  clear hadd
  rintro e w2 ⟨rfl, hB2⟩
  have k2 := kR.below' hB2
  have hb2 := hb1.trans (hB2.mono hb1.size)
  clear cA cB kA kB kR hb1 hB2
  have cR := k2.cell
  have fR := k2.frozen
  have lR := k2.lt
  go_wp2_with (fail)
  rw [putF]
  have hbl : Blk (w2.setCells bz 0 (cF f)) bz (cF f).toArray 25 := k2.setCells 0 (cF f)
  (try simp only [Exit.inBlock, Exit.then]); refine bodyPost_ret (results_cell_tmp rfl _ _ bz 25 (cF f) _ rfl hbl Tryz.underlying25 rfl (by kernel_rfl)) rfl ?_
  exact ⟨rfl, below_setCells hb2 hge 0 _⟩

set_option maxRecDepth 100000 in
set_option maxHeartbeats 1600000 in
theorem norm5_any (num den : Int) (w : World) : Calls Tryz.prog 53 #[.int .i64 num, .int .i64 den] w (Gives w (.tuple #[aF (normR num den).1, .int .i64 (normR num den).2])) := by
  obtain ⟨w1, hw1⟩ : ∃ w1, w1 = w.alloc (.cells #[.int .i64 0, .int .i64 0] 25) := ⟨_, rfl⟩
  have kR : Blk w1 w.heap.size #[.int .i64 0, .int .i64 0] 25 := hw1 ▸ Blk.new w _ _
  have hb1 : RowKit.Below w.heap.size w w1 := hw1 ▸ (Below.refl _ w).alloc (Nat.le_refl _) _
  have h1 := fun W => withinr5_any num (-1000000000000000) 1000000000000000 W
  have h2 := fun W => withinr5_any den (-1000000000000000) 1000000000000000 W
  obtain ⟨r, hr⟩ : ∃ r, r = normR num den := ⟨_, rfl⟩
  rw [← hr]
  unfold normR at hr
  by_cases bad : (decide (den = 0) || !inn num (-1000000000000000) 1000000000000000 || !inn den (-1000000000000000) 1000000000000000) = true
  · rw [if_pos bad] at hr
    subst hr
    have bad2 : den = 0 ∨ (den ≠ 0 ∧ inn num (-1000000000000000) 1000000000000000 = false) ∨ (den ≠ 0 ∧ inn num (-1000000000000000) 1000000000000000 = true ∧ inn den (-1000000000000000) 1000000000000000 = false) := by
      by_cases h : den = 0
      · exact .inl h
      · cases h3 : inn num (-1000000000000000) 1000000000000000 with
        | false => exact .inr (.inl ⟨h, rfl⟩)
        | true => rw [h3] at bad; simp [h] at bad; exact .inr (.inr ⟨h, rfl, bad⟩)
    clear bad
    rcases bad2 with h | ⟨h, q1⟩ | ⟨h, q1, q2⟩
    · have g0 : (den == 0) = true := by simpa using h
      subst h
      go_enter Tryz.func53, Tryz.ntmps53
      go_upto_region 1 with fail
      rw [← hw1]
      clear hw1
      obtain ⟨bz, hbz⟩ : ∃ b, b = w.heap.size := ⟨_, rfl⟩
      have hge : w.heap.size ≤ bz := Nat.le_of_eq hbz.symm
      rw [← hbz] at kR ⊢
      clear hbz
      have cR := kR.cell
      have fR := kR.frozen
      have lR := kR.lt
      go_wp2_with (fail)
      rw [putF0]
      have hbl : Blk (w1.setCells bz 0 (cF ⟨0, 0⟩)) bz (cF ⟨0, 0⟩).toArray 25 := kR.setCells 0 (cF ⟨0, 0⟩)
      (try simp only [Exit.inBlock, Exit.then]); refine bodyPost_ret (results_cell_tmp rfl _ _ bz 25 (cF ⟨0, 0⟩) _ rfl hbl Tryz.underlying25 rfl (by kernel_rfl)) rfl ?_
      exact ⟨rfl, below_setCells hb1 (by omega) 0 _⟩
    · have g0 : (den == 0) = false := by simpa using h
      rw [q1] at h1
      go_enter Tryz.func53, Tryz.ntmps53
      go_upto_region 1 with fail
      rw [← hw1]
      clear hw1
      obtain ⟨bz, hbz⟩ : ∃ b, b = w.heap.size := ⟨_, rfl⟩
      have hge : w.heap.size ≤ bz := Nat.le_of_eq hbz.symm
      rw [← hbz] at kR ⊢
      clear hbz
      have cR := kR.cell
      have fR := kR.frozen
      have lR := kR.lt
      go_wp2_with (go_at_call 76; (with_reducible refine (h1 _).mono ?_); rintro e w3 ⟨rfl, rfl⟩)
      rw [putF0]
      have hbl : Blk (w1.setCells bz 0 (cF ⟨0, 0⟩)) bz (cF ⟨0, 0⟩).toArray 25 := kR.setCells 0 (cF ⟨0, 0⟩)
      (try simp only [Exit.inBlock, Exit.then]); refine bodyPost_ret (results_cell_tmp rfl _ _ bz 25 (cF ⟨0, 0⟩) _ rfl hbl Tryz.underlying25 rfl (by kernel_rfl)) rfl ?_
      exact ⟨rfl, below_setCells hb1 (by omega) 0 _⟩
    · have g0 : (den == 0) = false := by simpa using h
      rw [q1] at h1
      rw [q2] at h2
      go_enter Tryz.func53, Tryz.ntmps53
      go_upto_region 1 with fail
      rw [← hw1]
      clear hw1
      obtain ⟨bz, hbz⟩ : ∃ b, b = w.heap.size := ⟨_, rfl⟩
      have hge : w.heap.size ≤ bz := Nat.le_of_eq hbz.symm
      rw [← hbz] at kR ⊢
      clear hbz
      have cR := kR.cell
      have fR := kR.frozen
      have lR := kR.lt
      go_wp2_with (go_at_call 76; (first | (with_reducible refine (h1 _).mono ?_) | (with_reducible refine (h2 _).mono ?_)); rintro e w3 ⟨rfl, rfl⟩)
      rw [putF0]
      have hbl : Blk (w1.setCells bz 0 (cF ⟨0, 0⟩)) bz (cF ⟨0, 0⟩).toArray 25 := kR.setCells 0 (cF ⟨0, 0⟩)
      (try simp only [Exit.inBlock, Exit.then]); refine bodyPost_ret (results_cell_tmp rfl _ _ bz 25 (cF ⟨0, 0⟩) _ rfl hbl Tryz.underlying25 rfl (by kernel_rfl)) rfl ?_
      exact ⟨rfl, below_setCells hb1 (by omega) 0 _⟩
  · rw [if_neg bad] at hr
    have hok : den ≠ 0 ∧ inn num (-1000000000000000) 1000000000000000 = true ∧ inn den (-1000000000000000) 1000000000000000 = true := by
      simp only [Bool.or_eq_true, decide_eq_true_eq, Bool.not_eq_true', not_or, Bool.not_eq_false] at bad
      exact ⟨bad.1.1, bad.1.2, bad.2⟩
    obtain ⟨hz, q1, q2⟩ := hok
    rw [q1] at h1
    rw [q2] at h2
    have i1 := (inn_iff _ _ _).1 q1
    have i2 := (inn_iff _ _ _).1 q2
    have g0 : (den == 0) = false := by simpa using hz
    clear bad q1 q2
    by_cases hneg : den < 0
    · rw [if_pos hneg] at hr
      have hl := fun W => lowest5_any (-num) (-den) W ⟨by omega, by omega⟩ ⟨by omega, by omega⟩
      rw [← hr] at hl
      obtain ⟨f, er⟩ := r
      dsimp only at hl ⊢
      have n1 : IntKind.i64.wrap (-num) = -num := by rw [IntKind.wrap_i64]; omega
      have n2 : IntKind.i64.wrap (-den) = -den := by rw [IntKind.wrap_i64]; omega
      clear hr
      go_enter Tryz.func53, Tryz.ntmps53
      go_upto_region 1 with fail
      rw [← hw1]
      clear hw1
      obtain ⟨bz, hbz⟩ : ∃ b, b = w.heap.size := ⟨_, rfl⟩
      have hge : w.heap.size ≤ bz := Nat.le_of_eq hbz.symm
      rw [← hbz] at kR ⊢
      clear hbz
      have cR := kR.cell
      have fR := kR.frozen
      have lR := kR.lt
      go_wp2_with (go_at_call 76; (first | (with_reducible refine (h1 _).mono ?_) | (with_reducible refine (h2 _).mono ?_)); rintro e w3 ⟨rfl, rfl⟩)
      refine (hl _).mono ?_
      rintro e w2 ⟨rfl, hB2⟩
      have k2 := kR.below' hB2
      clear cR fR lR
      have cR := k2.cell
      have fR := k2.frozen
      have lR := k2.lt
      go_wp2_with (fail)
      rw [putF]
      have hbl : Blk (w2.setCells bz 0 (cF f)) bz (cF f).toArray 25 := k2.setCells 0 (cF f)
      (try simp only [Exit.inBlock, Exit.then]); refine bodyPost_ret (results_cell_tmp rfl _ _ bz 25 (cF f) _ rfl hbl Tryz.underlying25 rfl (by kernel_rfl)) rfl ?_
      exact ⟨rfl, below_setCells (hb1.trans (hB2.mono hb1.size)) (by omega) 0 _⟩
    · rw [if_neg hneg] at hr
      have hl := fun W => lowest5_any num den W ⟨by omega, by omega⟩ ⟨by omega, by omega⟩
      rw [← hr] at hl
      obtain ⟨f, er⟩ := r
      dsimp only at hl ⊢
      clear hr
      go_enter Tryz.func53, Tryz.ntmps53
      go_upto_region 1 with fail
      rw [← hw1]
      clear hw1
      obtain ⟨bz, hbz⟩ : ∃ b, b = w.heap.size := ⟨_, rfl⟩
      have hge : w.heap.size ≤ bz := Nat.le_of_eq hbz.symm
      rw [← hbz] at kR ⊢
      clear hbz
      have cR := kR.cell
      have fR := kR.frozen
      have lR := kR.lt
      go_wp2_with (go_at_call 76; (first | (with_reducible refine (h1 _).mono ?_) | (with_reducible refine (h2 _).mono ?_)); rintro e w3 ⟨rfl, rfl⟩)
      refine (hl _).mono ?_
      rintro e w2 ⟨rfl, hB2⟩
      have k2 := kR.below' hB2
      clear cR fR lR
      have cR := k2.cell
      have fR := k2.frozen
      have lR := k2.lt
      go_wp2_with (fail)
      rw [putF]
      have hbl : Blk (w2.setCells bz 0 (cF f)) bz (cF f).toArray 25 := k2.setCells 0 (cF f)
      (try simp only [Exit.inBlock, Exit.then]); refine bodyPost_ret (results_cell_tmp rfl _ _ bz 25 (cF f) _ rfl hbl Tryz.underlying25 rfl (by kernel_rfl)) rfl ?_
      exact ⟨rfl, below_setCells (hb1.trans (hB2.mono hb1.size)) (by omega) 0 _⟩

end Go.Proofs.YtmeomhojbobpbaaGreatDoor
