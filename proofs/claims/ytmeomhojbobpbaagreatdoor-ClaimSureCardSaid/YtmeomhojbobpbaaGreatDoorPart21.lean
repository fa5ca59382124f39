import Derived.Test.YtmeomhojbobpbaaGreatDoorPart20
import Derived.BigQuiet
import Derived.Test.YtmeomhojbobpbaaGreatDoorPart05
/-
  Walks: products of fractions.
-/
namespace Go.Proofs.YtmeomhojbobpbaaGreatDoor
open Go.RowKit Lg Go.Sort Go.Shelf

/-- What the walk of a product needs to know. -/
structure Tms (a b : Frac) (c d m n p q : Int) : Prop where
  hc : c = mulC a b
  hd : d = mulC b a
  c1 : 1 ≤ c
  d1 : 1 ≤ d
  hm : a.num.tdiv c = m
  hn : b.num.tdiv d = n
  hp : a.den.tdiv d = p
  hq : b.den.tdiv c = q
  mb : -1000000000000 ≤ m ∧ m ≤ 1000000000000
  nb : -1000000000000 ≤ n ∧ n ≤ 1000000000000
  pb : 1 ≤ p ∧ p ≤ 1000000
  qb : 1 ≤ q ∧ q ≤ 1000000
  out : timesO a b = if m ≠ 0 ∧ Int.tdiv 1000000000000 (max m (-m)) < max n (-n) then none else if normOk (m * n) (p * q) = true then some (normN (m * n) (p * q)) else none

theorem tms_of {a b : Frac} (ha : frOk a) (hb : frOk b) : ∃ c d m n p q, Tms a b c d m n p q := by
  obtain ⟨a1, a2, a3, a4⟩ := ha
  obtain ⟨b1, b2, b3, b4⟩ := hb
  have gp : ∀ {x y : Int}, 1 ≤ y → (max 1 (Int.gcd x y : Int)) = (Int.gcd x y : Int) ∧ 0 < (Int.gcd x y : Int) := fun {x y} hy => by
    have : 0 < Int.gcd x y := gcd_pos_of_den (by omega)
    omega
  obtain ⟨g1, g2⟩ := gp (x := a.num) (y := b.den) b3
  obtain ⟨k1, k2⟩ := gp (x := b.num) (y := a.den) a3
  have ep : ∀ {x g : Int}, g ∣ x → 0 < g → 1 ≤ x → x ≤ 1000000 → 1 ≤ x.tdiv g ∧ x.tdiv g ≤ 1000000 := fun {x g} hx hg h1 h2 => by
    obtain ⟨t, ht⟩ := hx
    have e : x.tdiv g = t := by rw [ht]; exact Int.mul_tdiv_cancel_left t (by omega)
    rw [e]
    have ht1 : 1 ≤ t := by
      rcases Int.lt_or_le 0 t with h | h
      · omega
      · have : g * t ≤ 0 := Int.mul_nonpos_of_nonneg_of_nonpos (by omega) h
        omega
    refine ⟨ht1, ?_⟩
    have : 1 * t ≤ g * t := Int.mul_le_mul_of_nonneg_right (by omega) (by omega)
    omega
  have e1 : mulC a b = (Int.gcd a.num b.den : Int) := g1
  have e2 : mulC b a = (Int.gcd b.num a.den : Int) := k1
  refine ⟨_, _, _, _, _, _, rfl, rfl, by rw [e1]; omega, by rw [e2]; omega, rfl, rfl, rfl, rfl, tdiv_bd _ _ 1000000000000 ⟨a1, a2⟩, tdiv_bd _ _ 1000000000000 ⟨b1, b2⟩, ?_, ?_, rfl⟩
  · rw [e2]; exact ep (Int.gcd_dvd_right _ _) k2 a3 a4
  · rw [e1]; exact ep (Int.gcd_dvd_right _ _) g2 b3 b4

theorem tms_mul (m n : Int) : (m ≠ 0 ∧ Int.tdiv 1000000000000 (max m (-m)) < max n (-n)) ∨ (-1000000000000 ≤ m * n ∧ m * n ≤ 1000000000000) := by
  by_cases h : m ≠ 0 ∧ Int.tdiv 1000000000000 (max m (-m)) < max n (-n)
  · exact .inl h
  · right
    by_cases hm : m = 0
    · subst hm; simp
    have h2 : ¬ Int.tdiv 1000000000000 (max m (-m)) < max n (-n) := fun q => h ⟨hm, q⟩
    have hp : 0 < max m (-m) := by omega
    by_cases hn : n = 0
    · subst hn; simp
    have hq : 0 < max n (-n) := by omega
    rw [over_iff (by decide) hp hq] at h2
    have e : max m (-m) * max n (-n) = ((m * n).natAbs : Int) := by
      have e1 : max m (-m) = (m.natAbs : Int) := by omega
      have e2 : max n (-n) = (n.natAbs : Int) := by omega
      rw [e1, e2, Int.natAbs_mul]; rfl
    rw [e] at h2
    omega

set_option maxRecDepth 100000 in
set_option maxHeartbeats 6400000 in
theorem timesO_ok (a b r : Frac) (w : World) (ha : frOk a) (hb : frOk b) (h : timesO a b = some r) : Calls Tryz.prog 93 #[aF a, aF b] w (Gives w (aF r)) := by
  obtain ⟨c, d, m, n, p, q, ht⟩ := tms_of ha hb
  obtain ⟨hc, hd, c1, d1, hm, hn, hp, hq, mb, nb, pb, qb, hout⟩ := ht
  rw [hout] at h
  clear hout
  obtain ⟨a1, a2, a3, a4⟩ := ha
  obtain ⟨b1, b2, b3, b4⟩ := hb
  obtain ⟨w0, hw0⟩ : ∃ w0, w0 = ((w.alloc (.cells #[.int .i64 a.num, .int .i64 a.den] 83)).alloc (.cells #[.int .i64 b.num, .int .i64 b.den] 83)).alloc (.cells #[.int .i64 0, .int .i64 0] 83) := ⟨_, rfl⟩
  have k2 : Blk w0 w.heap.size #[.int .i64 a.num, .int .i64 a.den] 83 := hw0 ▸ ((Blk.new w _ _).alloc _).alloc _
  have k3 : Blk w0 (w.heap.size + 1) #[.int .i64 b.num, .int .i64 b.den] 83 := hw0 ▸ (Blk.nw1 w _ _ _).alloc _
  have k4 : Blk w0 (w.heap.size + 1 + 1) #[.int .i64 0, .int .i64 0] 83 := hw0 ▸ Blk.nw2 w _ _ _ _
  have hB : RowKit.Below w.heap.size w w0 := hw0 ▸ (((Below.refl _ w).alloc (Nat.le_refl _) _).alloc (by simp) _).alloc (by simp; omega) _
  have hD := fun x y W => divisor_any x y W
  go_enter Tryz.func93, Tryz.ntmps93
  go_upto_region 1 with fail
  rw [← hw0]
  clear hw0
  obtain ⟨x2, hx2⟩ : ∃ b, b = w.heap.size := ⟨_, rfl⟩
  obtain ⟨x3, hx3⟩ : ∃ b, b = w.heap.size + 1 := ⟨_, rfl⟩
  obtain ⟨x4, hx4⟩ : ∃ b, b = w.heap.size + 1 + 1 := ⟨_, rfl⟩
  rw [← hx4] at k4 ⊢
  rw [← hx3] at k3 ⊢
  rw [← hx2] at k2 ⊢
  have hx4l : w.heap.size ≤ x4 := by omega
  clear hx2 hx3 hx4
  have r2 := k2.regrown
  have r3 := k3.regrown
  have cF := regrown_call (w := w0) (v := .int .i64 (Int.gcd a.num b.den)) (fun W' _ => hD a.num b.den W' (by omega) (by omega))
  have cG := regrown_call (w := w0) (v := .int .i64 (Int.gcd b.num a.den)) (fun W' _ => hD b.num a.den W' (by omega) (by omega))
  clear hD
  have Hc := Lib.hid hc
  have Hd := Lib.hid hd
  have Hh := Lib.hid h
  have Hm := Lib.hid hm
  have Hn := Lib.hid hn
  have Hp := Lib.hid hp
  have Hq := Lib.hid hq
  clear hc hd h hm hn hp hq
  go_cut [5, 6] (fun c5 c6 W => c5 = .int .i64 c ∧ c6 = .int .i64 d ∧ RowKit.Below w0.heap.size w0 W)
  case first =>
    refine wp_region_quiet_below (by kernel_rfl) (by kernel_rfl) ?_
    repeat (go_big_quiet_step (first | (with_reducible exact cF _ _) | (with_reducible exact cG _ _)))
    refine wpQuiet_nil ?_
    intro _ hw'
    obtain ⟨⟨dq, osq⟩, hw''⟩ := hw'
    subst hw''
    clear cF cG r2 r3
    go_wp2_with fail
    go_meet
    exact ⟨by rw [Hc.out]; rfl, by rw [Hd.out]; rfl, below_regrown _ _ _⟩
  case rest =>
    obtain ⟨rfl, rfl, hb1⟩ := hcut
    obtain ⟨w1, hw1⟩ : ∃ w1, w1 = wc := ⟨_, rfl⟩
    rw [← hw1] at hb1 ⊢
    clear hw1 r2 r3 cF cG
    have k2 := k2.below' hb1
    have k3 := k3.below' hb1
    have k4 := k4.below' hb1
    have hB := hB.trans (hb1.mono hB.size)
    have hc0 : (c == 0) = false := by simp; omega
    have hd0 : (d == 0) = false := by simp; omega
    have hcn : c ≠ 0 := by omega
    have hdn : d ≠ 0 := by omega
    have r2 := k2.regrown
    have r3 := k3.regrown
    go_upto_region 2 with fail
    go_cut [7, 8] (fun c7 c8 W => c7 = .int .i64 m ∧ c8 = .int .i64 n ∧ RowKit.Below w1.heap.size w1 W)
    case first =>
      have hm := Hm.out
      have hn := Hn.out
      refine wp_region_quiet_below (by kernel_rfl) (by kernel_rfl) ?_
      repeat (go_big_quiet_step (fail))
      refine wpQuiet_nil ?_
      intro _ hw'
      obtain ⟨⟨dq, osq⟩, hw''⟩ := hw'
      subst hw''
      clear r2 r3
      go_wp2_with fail
      go_meet
      exact ⟨rfl, rfl, below_regrown _ _ _⟩
    case rest =>
      obtain ⟨rfl, rfl, hb2⟩ := hcut
      obtain ⟨w2, hw2⟩ : ∃ w2, w2 = wc := ⟨_, rfl⟩
      rw [← hw2] at hb2 ⊢
      clear hw2 r2 r3
      have k2 := k2.below' hb2
      have k3 := k3.below' hb2
      have k4 := k4.below' hb2
      have hB := hB.trans (hb2.mono hB.size)
      have r2 := k2.regrown
      have r3 := k3.regrown
      have hpq : 1 ≤ p * q ∧ p * q ≤ 1000000000000 := mul_6_6 pb qb
      go_upto_region 3 with fail
      go_cut [9] (fun c9 W => c9 = .int .i64 (p * q) ∧ RowKit.Below w2.heap.size w2 W)
      case first =>
        have hp := Hp.out
        have hq := Hq.out
        refine wp_region_quiet_below (by kernel_rfl) (by kernel_rfl) ?_
        repeat (go_big_quiet_step (fail))
        refine wpQuiet_nil ?_
        intro _ hw'
        obtain ⟨⟨dq, osq⟩, hw''⟩ := hw'
        subst hw''
        clear r2 r3
        go_wp2_with fail
        go_meet
        exact ⟨rfl, below_regrown _ _ _⟩
      case rest =>
        obtain ⟨rfl, hb3⟩ := hcut
        obtain ⟨w3, hw3⟩ : ∃ w3, w3 = wc := ⟨_, rfl⟩
        rw [← hw3] at hb3 ⊢
        clear hw3 r2 r3 k2 k3
        have k4 := k4.below' hb3
        have hB := hB.trans (hb3.mono hB.size)
        clear hb1 hb2 hb3 Hm Hn Hp Hq Hc Hd hc0 hd0 hcn hdn c1 d1 a1 a2 a3 a4 b1 b2 b3 b4 pb qb
        obtain ⟨D, hD⟩ : ∃ D, D = p * q := ⟨_, rfl⟩
        rw [← hD] at Hh hpq ⊢
        clear hD
        have hmn : (m ≠ 0 ∧ Int.tdiv 1000000000000 (max m (-m)) < max n (-n)) ∨ (-1000000000000 ≤ m * n ∧ m * n ≤ 1000000000000) := tms_mul m n
        by_cases hm0 : m = 0
        · have g0 : (m != 0) = false := by simp [hm0]
          have hno : ¬ (m ≠ 0 ∧ Int.tdiv 1000000000000 (max m (-m)) < max n (-n)) := fun q => q.1 hm0
          have hb := hmn.resolve_left hno
          have hh := Hh.out
          rw [if_neg hno] at hh
          have H0 := Lib.hid hm0
          clear hm0 hno hmn Hh mb nb
          obtain ⟨N, hN⟩ : ∃ N, N = m * n := ⟨_, rfl⟩
          rw [← hN] at hh hb
          have hN' : m * n = N := hN.symm
          clear hN
          split at hh
          rotate_left
          · cases hh
          rename_i hok
          injection hh with hh
          have hnm := fun W => norm_ok N D W (by omega) (by omega) (by omega) hok
          rw [hh] at hnm
          clear hok hh
          go_wp2_with (fail)
          refine (hnm _).mono ?_
          clear hnm
          rintro e w4 ⟨rfl, hb4⟩
          have k4 := k4.below' hb4
          have hB := hB.trans (hb4.mono hB.size)
          have c4 := k4.cell
          have f4 := k4.frozen
          go_wp2_with (fail)
          refine bodyPost_ret (results_cell_row rfl _ _ x4 83 _ _ _ rfl ((k4.setCell 0 _).setCell 1 _) Tryz.underlying83 rfl (by kernel_rfl)) rfl ⟨?_, (hB.setCell (p := ⟨x4, 0, none⟩) hx4l _).setCell (p := ⟨x4, 1, none⟩) hx4l _⟩
          rfl
        have g0 : (m != 0) = true := by simp [hm0]
        obtain ⟨z, hz⟩ : ∃ z, Int.tdiv 1000000000000 (max m (-m)) = z := ⟨_, rfl⟩
        have hzb : 0 ≤ z ∧ z ≤ 1000000000000 := by rw [← hz]; exact ⟨Int.tdiv_nonneg (by decide) (by omega), (tdiv_bd 1000000000000 _ 1000000000000 (by omega)).2⟩
        have hmx1 : 1 ≤ max m (-m) := by omega
        have hmx2 : max m (-m) ≤ 1000000000000 := by omega
        have hnx2 : max n (-n) ≤ 1000000000000 := by omega
        have hnx1 : 0 ≤ max n (-n) := by omega
        have hmxz : (max m (-m) == 0) = false := by simp; omega
        have hmxn : max m (-m) ≠ 0 := by omega
        by_cases hov : z < max n (-n)
        · have dov : decide (z < max n (-n)) = true := decide_eq_true hov
          have hh := Hh.out
          rw [hz, if_pos ⟨hm0, hov⟩] at hh
          cases hh
        · have dov : decide (z < max n (-n)) = false := decide_eq_false hov
          have hno : ¬ (m ≠ 0 ∧ Int.tdiv 1000000000000 (max m (-m)) < max n (-n)) := fun q => hov (hz ▸ q.2)
          have hb := hmn.resolve_left hno
          have hh := Hh.out
          rw [if_neg hno] at hh
          clear hmn Hh hno hov hm0
          obtain ⟨N, hN⟩ : ∃ N, N = m * n := ⟨_, rfl⟩
          rw [← hN] at hh hb
          have hN' : m * n = N := hN.symm
          clear hN
          split at hh
          rotate_left
          · cases hh
          rename_i hok
          injection hh with hh
          have hnm := fun W => norm_ok N D W (by omega) (by omega) (by omega) hok
          rw [hh] at hnm
          clear hok hh
          go_wp2_with (fail)
          refine (hnm _).mono ?_
          clear hnm
          rintro e w4 ⟨rfl, hb4⟩
          have k4 := k4.below' hb4
          have hB := hB.trans (hb4.mono hB.size)
          have c4 := k4.cell
          have f4 := k4.frozen
          go_wp2_with (fail)
          refine bodyPost_ret (results_cell_row rfl _ _ x4 83 _ _ _ rfl ((k4.setCell 0 _).setCell 1 _) Tryz.underlying83 rfl (by kernel_rfl)) rfl ⟨?_, (hB.setCell (p := ⟨x4, 0, none⟩) hx4l _).setCell (p := ⟨x4, 1, none⟩) hx4l _⟩
          rfl

set_option maxRecDepth 100000 in
set_option maxHeartbeats 6400000 in
theorem timesO_up (a b : Frac) (w : World) (ha : frOk a) (hb : frOk b) (h : timesO a b = none) : Calls Tryz.prog 93 #[aF a, aF b] w fun e w' => e = .panicked [{ v := upV, recovered := false }] ∧ RowKit.Below w.heap.size w w' := by
  obtain ⟨c, d, m, n, p, q, ht⟩ := tms_of ha hb
  obtain ⟨hc, hd, c1, d1, hm, hn, hp, hq, mb, nb, pb, qb, hout⟩ := ht
  rw [hout] at h
  clear hout
  obtain ⟨a1, a2, a3, a4⟩ := ha
  obtain ⟨b1, b2, b3, b4⟩ := hb
  obtain ⟨w0, hw0⟩ : ∃ w0, w0 = ((w.alloc (.cells #[.int .i64 a.num, .int .i64 a.den] 83)).alloc (.cells #[.int .i64 b.num, .int .i64 b.den] 83)).alloc (.cells #[.int .i64 0, .int .i64 0] 83) := ⟨_, rfl⟩
  have k2 : Blk w0 w.heap.size #[.int .i64 a.num, .int .i64 a.den] 83 := hw0 ▸ ((Blk.new w _ _).alloc _).alloc _
  have k3 : Blk w0 (w.heap.size + 1) #[.int .i64 b.num, .int .i64 b.den] 83 := hw0 ▸ (Blk.nw1 w _ _ _).alloc _
  have k4 : Blk w0 (w.heap.size + 1 + 1) #[.int .i64 0, .int .i64 0] 83 := hw0 ▸ Blk.nw2 w _ _ _ _
  have hB : RowKit.Below w.heap.size w w0 := hw0 ▸ (((Below.refl _ w).alloc (Nat.le_refl _) _).alloc (by simp) _).alloc (by simp; omega) _
  have hD := fun x y W => divisor_any x y W
  go_enter Tryz.func93, Tryz.ntmps93
  go_upto_region 1 with fail
  rw [← hw0]
  clear hw0
  obtain ⟨x2, hx2⟩ : ∃ b, b = w.heap.size := ⟨_, rfl⟩
  obtain ⟨x3, hx3⟩ : ∃ b, b = w.heap.size + 1 := ⟨_, rfl⟩
  obtain ⟨x4, hx4⟩ : ∃ b, b = w.heap.size + 1 + 1 := ⟨_, rfl⟩
  rw [← hx4] at k4 ⊢
  rw [← hx3] at k3 ⊢
  rw [← hx2] at k2 ⊢
  have hx4l : w.heap.size ≤ x4 := by omega
  clear hx2 hx3 hx4
  have r2 := k2.regrown
  have r3 := k3.regrown
  have cF := regrown_call (w := w0) (v := .int .i64 (Int.gcd a.num b.den)) (fun W' _ => hD a.num b.den W' (by omega) (by omega))
  have cG := regrown_call (w := w0) (v := .int .i64 (Int.gcd b.num a.den)) (fun W' _ => hD b.num a.den W' (by omega) (by omega))
  clear hD
  have Hc := Lib.hid hc
  have Hd := Lib.hid hd
  have Hh := Lib.hid h
  have Hm := Lib.hid hm
  have Hn := Lib.hid hn
  have Hp := Lib.hid hp
  have Hq := Lib.hid hq
  clear hc hd h hm hn hp hq
  go_cut [5, 6] (fun c5 c6 W => c5 = .int .i64 c ∧ c6 = .int .i64 d ∧ RowKit.Below w0.heap.size w0 W)
  case first =>
    refine wp_region_quiet_below (by kernel_rfl) (by kernel_rfl) ?_
    repeat (go_big_quiet_step (first | (with_reducible exact cF _ _) | (with_reducible exact cG _ _)))
    refine wpQuiet_nil ?_
    intro _ hw'
    obtain ⟨⟨dq, osq⟩, hw''⟩ := hw'
    subst hw''
    clear cF cG r2 r3
    go_wp2_with fail
    go_meet
    exact ⟨by rw [Hc.out]; rfl, by rw [Hd.out]; rfl, below_regrown _ _ _⟩
  case rest =>
    obtain ⟨rfl, rfl, hb1⟩ := hcut
    obtain ⟨w1, hw1⟩ : ∃ w1, w1 = wc := ⟨_, rfl⟩
    rw [← hw1] at hb1 ⊢
    clear hw1 r2 r3 cF cG
    have k2 := k2.below' hb1
    have k3 := k3.below' hb1
    have k4 := k4.below' hb1
    have hB := hB.trans (hb1.mono hB.size)
    have hc0 : (c == 0) = false := by simp; omega
    have hd0 : (d == 0) = false := by simp; omega
    have hcn : c ≠ 0 := by omega
    have hdn : d ≠ 0 := by omega
    have r2 := k2.regrown
    have r3 := k3.regrown
    go_upto_region 2 with fail
    go_cut [7, 8] (fun c7 c8 W => c7 = .int .i64 m ∧ c8 = .int .i64 n ∧ RowKit.Below w1.heap.size w1 W)
    case first =>
      have hm := Hm.out
      have hn := Hn.out
      refine wp_region_quiet_below (by kernel_rfl) (by kernel_rfl) ?_
      repeat (go_big_quiet_step (fail))
      refine wpQuiet_nil ?_
      intro _ hw'
      obtain ⟨⟨dq, osq⟩, hw''⟩ := hw'
      subst hw''
      clear r2 r3
      go_wp2_with fail
      go_meet
      exact ⟨rfl, rfl, below_regrown _ _ _⟩
    case rest =>
      obtain ⟨rfl, rfl, hb2⟩ := hcut
      obtain ⟨w2, hw2⟩ : ∃ w2, w2 = wc := ⟨_, rfl⟩
      rw [← hw2] at hb2 ⊢
      clear hw2 r2 r3
      have k2 := k2.below' hb2
      have k3 := k3.below' hb2
      have k4 := k4.below' hb2
      have hB := hB.trans (hb2.mono hB.size)
      have r2 := k2.regrown
      have r3 := k3.regrown
      have hpq : 1 ≤ p * q ∧ p * q ≤ 1000000000000 := mul_6_6 pb qb
      go_upto_region 3 with fail
      go_cut [9] (fun c9 W => c9 = .int .i64 (p * q) ∧ RowKit.Below w2.heap.size w2 W)
      case first =>
        have hp := Hp.out
        have hq := Hq.out
        refine wp_region_quiet_below (by kernel_rfl) (by kernel_rfl) ?_
        repeat (go_big_quiet_step (fail))
        refine wpQuiet_nil ?_
        intro _ hw'
        obtain ⟨⟨dq, osq⟩, hw''⟩ := hw'
        subst hw''
        clear r2 r3
        go_wp2_with fail
        go_meet
        exact ⟨rfl, below_regrown _ _ _⟩
      case rest =>
        obtain ⟨rfl, hb3⟩ := hcut
        obtain ⟨w3, hw3⟩ : ∃ w3, w3 = wc := ⟨_, rfl⟩
        rw [← hw3] at hb3 ⊢
        clear hw3 r2 r3 k2 k3
        have k4 := k4.below' hb3
        have hB := hB.trans (hb3.mono hB.size)
        clear hb1 hb2 hb3 Hm Hn Hp Hq Hc Hd hc0 hd0 hcn hdn c1 d1 a1 a2 a3 a4 b1 b2 b3 b4 pb qb
        obtain ⟨D, hD⟩ : ∃ D, D = p * q := ⟨_, rfl⟩
        rw [← hD] at Hh hpq ⊢
        clear hD
        have hmn : (m ≠ 0 ∧ Int.tdiv 1000000000000 (max m (-m)) < max n (-n)) ∨ (-1000000000000 ≤ m * n ∧ m * n ≤ 1000000000000) := tms_mul m n
        by_cases hm0 : m = 0
        · have g0 : (m != 0) = false := by simp [hm0]
          have hno : ¬ (m ≠ 0 ∧ Int.tdiv 1000000000000 (max m (-m)) < max n (-n)) := fun q => q.1 hm0
          have hb := hmn.resolve_left hno
          have hh := Hh.out
          rw [if_neg hno] at hh
          have H0 := Lib.hid hm0
          clear hm0 hno hmn Hh mb nb
          obtain ⟨N, hN⟩ : ∃ N, N = m * n := ⟨_, rfl⟩
          rw [← hN] at hh hb
          have hN' : m * n = N := hN.symm
          clear hN
          split at hh
          · cases hh
          rename_i hok
          have hnm := fun W => norm_up N D W (by omega) (by omega) (by omega) (by simpa using hok)
          clear hok hh
          go_wp2_with (fail)
          refine (hnm _).mono ?_
          clear hnm
          rintro e w4 ⟨rfl, hb4⟩
          exact ⟨rfl, rfl, hB.trans (hb4.mono hB.size)⟩
        have g0 : (m != 0) = true := by simp [hm0]
        obtain ⟨z, hz⟩ : ∃ z, Int.tdiv 1000000000000 (max m (-m)) = z := ⟨_, rfl⟩
        have hzb : 0 ≤ z ∧ z ≤ 1000000000000 := by rw [← hz]; exact ⟨Int.tdiv_nonneg (by decide) (by omega), (tdiv_bd 1000000000000 _ 1000000000000 (by omega)).2⟩
        have hmx1 : 1 ≤ max m (-m) := by omega
        have hmx2 : max m (-m) ≤ 1000000000000 := by omega
        have hnx2 : max n (-n) ≤ 1000000000000 := by omega
        have hnx1 : 0 ≤ max n (-n) := by omega
        have hmxz : (max m (-m) == 0) = false := by simp; omega
        have hmxn : max m (-m) ≠ 0 := by omega
        by_cases hov : z < max n (-n)
        · have dov : decide (z < max n (-n)) = true := decide_eq_true hov
          have hh := Hh.out
          rw [hz, if_pos ⟨hm0, hov⟩] at hh
          clear hh Hh hmn hov hm0
          go_wp2_with (fail)
          exact ⟨rfl, rfl, by repeat (first | (with_reducible assumption) | (with_reducible exact Below.refl _ _) | (with_reducible refine Below.alloc ?_ ?_ _) | (with_reducible refine Below.setCell ?_ ?_ _) | (with_reducible refine Below.drew ?_) | omega | (simp <;> omega) | (dsimp only; omega))⟩
        · have dov : decide (z < max n (-n)) = false := decide_eq_false hov
          have hno : ¬ (m ≠ 0 ∧ Int.tdiv 1000000000000 (max m (-m)) < max n (-n)) := fun q => hov (hz ▸ q.2)
          have hb := hmn.resolve_left hno
          have hh := Hh.out
          rw [if_neg hno] at hh
          clear hmn Hh hno hov hm0
          obtain ⟨N, hN⟩ : ∃ N, N = m * n := ⟨_, rfl⟩
          rw [← hN] at hh hb
          have hN' : m * n = N := hN.symm
          clear hN
          split at hh
          · cases hh
          rename_i hok
          have hnm := fun W => norm_up N D W (by omega) (by omega) (by omega) (by simpa using hok)
          clear hok hh
          go_wp2_with (fail)
          refine (hnm _).mono ?_
          clear hnm
          rintro e w4 ⟨rfl, hb4⟩
          exact ⟨rfl, rfl, hB.trans (hb4.mono hB.size)⟩

end Go.Proofs.YtmeomhojbobpbaaGreatDoor
