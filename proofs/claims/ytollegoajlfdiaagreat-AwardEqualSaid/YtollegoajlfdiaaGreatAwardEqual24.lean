import Derived.Test.YtollegoajlfdiaaGreatAwardEqual23
/-
  Walk: the law of equal parts.
-/
namespace Go.Proofs.YtollegoajlfdiaaGreat
open Go.RowKit Lg Go.Sort Go.Shelf Go.Maps

theorem equalOf_cases (pence : Int) (l : List Int) : equalOf pence l = ([], 1) ∨ (0 ≤ pence ∧ pence ≤ 1000000000 ∧ 1 ≤ l.length ∧ l.length ≤ 40 ∧ equalOf pence l = ((List.range l.length).map (eqVal pence l.length), 0)) := by
  unfold equalOf
  by_cases h : (inn pence 0 1000000000 && partiesOk l) = true
  · right
    rw [if_pos h]
    rw [Bool.and_eq_true, inn_iff] at h
    have h2 := h.2
    unfold partiesOk at h2
    rw [Bool.and_eq_true, inn_iff] at h2
    exact ⟨h.1.1, h.1.2, by omega, by omega, rfl⟩
  · left; rw [if_neg h]

set_option maxRecDepth 100000 in
set_option maxHeartbeats 3200000 in
theorem lawEqual_any (pence : Int) (a : Option Addr) (n cap : Nat) (xs : List Int) (w : World) (hL : Lst w 1 cI a n cap xs) :
    Calls Tryz.prog 5 #[.int .i64 pence, .slice a n cap] w (Gives w (.bool true)) := by
  have hp := paid_any
  have hE := equal_any pence a n cap xs w hL
  have hlen := hL.len
  by_cases h60 : 60 < n
  · have hz : (60 : Int) < (n : Int) := by omega
    clear hE hlen hL
    go_enter Tryz.func5, Tryz.ntmps5
    go_wp2_with (go_at_call 16; refine (hp _).mono ?_; rintro e w2 ⟨rfl, hB2⟩)
    go_ret
    exact ⟨rfl, hB2⟩
  · have hz : ¬ (60 : Int) < (n : Int) := by omega
    have hn : n ≤ 60 := by omega
    rcases equalOf_cases pence xs with h | ⟨p0, p1, n1, n2, h⟩
    · rw [h] at hE
      clear h hlen hL
      go_enter Tryz.func5, Tryz.ntmps5
      go_wp2_with (fail)
      refine hE.mono ?_
      clear hE
      rintro e w2 ⟨v, rfl, ho, hB⟩
      obtain ⟨_, ⟨rfl, _⟩ | ⟨g, c, cur, rfl, _⟩⟩ := ho
      all_goals
        go_wp2_with (go_at_call 16; refine (hp _).mono ?_; rintro e w3 ⟨rfl, hB3⟩)
        go_ret
        exact ⟨rfl, hB.trans (hB3.mono hB.size)⟩
    · rw [h, hlen] at hE
      rw [hlen] at n1 n2
      clear h hlen hL hz h60
      go_enter Tryz.func5, Tryz.ntmps5
      have hz : (n : Int) ≤ 60 := by omega
      go_wp2_with (fail)
      refine hE.mono ?_
      clear hE
      rintro e w2 ⟨v, rfl, ho, hB⟩
      have hvl : ((List.range n).map (eqVal pence n)).length = n := by simp
      have hvg : ∀ k, k < n → ((List.range n).map (eqVal pence n))[k]? = some (eqVal pence n k) := fun k hk => by simp [hk]
      obtain ⟨av, cv, rfl, _, hl⟩ := Lst.of_owns (k := 1) (enc := cI) (fun _ => rfl) (by omega) ho (by simp)
      rw [hvl] at hl
      dsimp only
      rw [hvl]
      generalize (List.range n).map (eqVal pence n) = vs at *
      clear ho hvl
      have hmv : cv ≤ 9223372036854775807 := by have := hl.max; unfold maxLen at this; omega
      have hlv := hl.le
      have hne : ((n : Int) != (n : Int)) = false := by simp
      have hn0 : ((n : Int) == 0) = false := by simp; omega
      go_wp2_with (fail)
      have HV := Lib.hid hvg; clear hvg
      go_loopw [7, 8] (fun s i wr => ∃ k : Nat, k ≤ n ∧ i = .int .i64 k ∧ s = .int .i64 (eqSum pence n k) ∧ RowKit.Below w2.heap.size w2 wr) (fun _ i _ => n - (intOf i).toNat)
      case atStart => exact ⟨0, Nat.zero_le _, rfl, rfl, Below.refl _ _⟩
      case round =>
        obtain ⟨k, hk, rfl, rfl, hBr⟩ := hrel
        by_cases hlt : k < n
        · have hltz : (k : Int) < (n : Int) := by omega
          by_cases hk0 : k = 0
          · subst hk0
            have ob0 := eqVal_bounds (m := pence) (n := n) (i := 0) p0 (by omega)
            obtain ⟨b, off, rfl, hb, hr0⟩ := hl.at_ 0 _ (HV.out 0 (by omega))
            have l0 := rangeAt_below hBr hb hr0 0 _ rfl
            simp only [Nat.mul_one, Nat.add_zero, Nat.zero_mul] at l0
            have hsn : eqSum pence n (0 + 1) = eqVal pence n 0 := by simp [eqSum]
            have hs0 : eqSum pence n 0 = 0 := rfl
            rw [hs0]
            obtain ⟨v0, hv0⟩ : ∃ v, v = eqVal pence n 0 := ⟨_, rfl⟩
            rw [← hv0] at ob0 l0 hsn
            obtain ⟨ob3, ob4⟩ := ob0
            have t1 : decide (v0 < 0) = false := decide_eq_false (by omega)
            have t2 : decide (v0 < v0) = false := decide_eq_false (by omega)
            have hw2 : IntKind.i64.wrap v0 = v0 := by rw [IntKind.wrap_i64]; omega
            have hoff : (0 : Int) < (n : Int) := by omega
            have Hsn := Lib.hid hsn; clear hsn
            clear hv0 hr0 hl hs0 hlt
            go_wp2
            go_quiet (fail)
            go_wp2
            go_roundw
            case rel => exact ⟨0 + 1, by omega, by go_num, by rw [Hsn.out], below_drewN' hBr _⟩
            case measure => simp [intOf]; omega
          · obtain ⟨o1, o2, _⟩ := eqVal_order (m := pence) (n := n) (i := k) p0 (by omega)
            have ob := eqVal_bounds (m := pence) (n := n) (i := k) p0 (by omega)
            have ob0 := eqVal_bounds (m := pence) (n := n) (i := 0) p0 (by omega)
            have sb := eqSum_bound pence n k p0 (by omega) (by omega)
            obtain ⟨b, off, rfl, hb, hr0⟩ := hl.at_ 0 _ (HV.out 0 (by omega))
            have l0 := rangeAt_below hBr hb hr0 0 _ rfl
            obtain ⟨b', off', e', hb', hrk⟩ := hl.at_ k _ (HV.out k hlt)
            cases e'
            have lk := rangeAt_below hBr hb hrk 0 _ rfl
            simp only [Nat.mul_one, Nat.add_zero, Nat.zero_mul] at l0 lk
            have hsn : eqSum pence n (k + 1) = eqSum pence n k + eqVal pence n k := rfl
            have hnx : ∀ j, k = j + 1 → eqVal pence n k ≤ eqVal pence n j ∧ wr.cell? ⟨b, off + j, none⟩ = some (.int .i64 (eqVal pence n j)) := fun j hj => by
              obtain ⟨_, _, o3⟩ := eqVal_order (m := pence) (n := n) (i := j) p0 (by omega)
              obtain ⟨b2, off2, e2, hb2, hrj⟩ := hl.at_ j _ (HV.out j (by omega))
              cases e2
              have lj := rangeAt_below hBr hb hrj 0 _ rfl
              simp only [Nat.mul_one, Nat.add_zero] at lj
              rw [hj]
              exact ⟨o3, lj⟩
            obtain ⟨vk, hvk⟩ : ∃ v, v = eqVal pence n k := ⟨_, rfl⟩
            obtain ⟨v0, hv0⟩ : ∃ v, v = eqVal pence n 0 := ⟨_, rfl⟩
            obtain ⟨sk, hsk⟩ : ∃ v, v = eqSum pence n k := ⟨_, rfl⟩
            rw [← hvk] at o1 o2 ob lk hsn hnx
            rw [← hv0] at o1 o2 ob0 l0
            rw [← hsk] at sb hsn ⊢
            obtain ⟨ob1, ob2⟩ := ob
            obtain ⟨ob3, ob4⟩ := ob0
            obtain ⟨sb1, sb2⟩ := sb
            have t1 : decide (vk < 0) = false := decide_eq_false (by omega)
            have t2 : decide (v0 < vk) = false := decide_eq_false (by omega)
            have hw1 : IntKind.i64.wrap (v0 - vk) = v0 - vk := by rw [IntKind.wrap_i64]; omega
            have t3 : decide (1 < v0 - vk) = false := decide_eq_false (by omega)
            have t3' : decide (v0 - vk > 1) = false := decide_eq_false (by omega)
            have hw2 : IntKind.i64.wrap (sk + vk) = sk + vk := by rw [IntKind.wrap_i64]; omega
            have hoff : (0 : Int) < (n : Int) := by omega
            have Hsn := Lib.hid hsn; clear hsn
            clear hvk hv0 hsk hr0 hrk hb' hl
            obtain ⟨j, rfl⟩ : ∃ j, k = j + 1 := ⟨k - 1, by omega⟩
            obtain ⟨o3, lj⟩ := hnx j rfl
            clear hnx
            obtain ⟨vj, hvj⟩ : ∃ v, v = eqVal pence n j := ⟨_, rfl⟩
            rw [← hvj] at o3 lj
            clear hvj
            have t4 : decide (vj < vk) = false := decide_eq_false (by omega)
            have hkp : decide ((0 : Int) < (j : Int) + 1) = true := decide_eq_true (by omega)
            have hkp' : (0 : Int) < (j : Int) + 1 := by omega
            have hwj : IntKind.i64.wrap ((j : Int)) = (j : Int) := by rw [IntKind.wrap_i64]; omega
            have hjn : (j : Int) < (n : Int) := by omega
            have hjn1 : (j : Int) + 1 < (n : Int) := by omega
            have e0 : ((j : Int) + 1).toNat = j + 1 := by omega
            have p01 : (0 : Int) ≤ (j : Int) + 1 := by omega
            go_wp2
            go_quiet (fail)
            go_wp2
            go_roundw
            case rel => exact ⟨j + 1 + 1, by omega, by go_num, by rw [Hsn.out], below_drewN' hBr _⟩
            case measure => simp [intOf]; omega
        · obtain rfl : k = n := by omega
          have hs := eqSum_all pence k p0 (by omega)
          rw [hs]
          clear hs
          have hltz : ¬ (k : Int) < (k : Int) := by omega
          have hpe : (pence == pence) = true := by simp
          have hbw := hB.trans (hBr.mono hB.size)
          go_wp2_with (go_at_call 16; refine (hp _).mono ?_; rintro e w3 ⟨rfl, hB3⟩)
          go_ret
          exact ⟨rfl, hbw.trans (hB3.mono hbw.size)⟩

end Go.Proofs.YtollegoajlfdiaaGreat
