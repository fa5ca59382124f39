import Derived.Test.YtmeomhojbobpbaaGreatDoorPart02
import Derived.Shelf.Abstract
import Derived.Laws.StructEq
import Derived.Lib.ConvBytes
import Derived.Test.YtmeomhojbobpbaaGreatDoorPart01
import Derived.Deep.Quiet
import Derived.Shelf.SlGeneric
import Derived.Shelf.Small.Wraps
import Derived.Shelf.Sort.Plain
import Derived.Ground.Names2Prog
import Derived.Shelf.Slices.Clone
import Derived.Shelf.Slices.CompactI
import Derived.Shelf.Slices.In.SortNone
import Derived.Ground.SlgnProg
import Derived.Shelf.SlicesE.Clone
import Derived.Ground.SlsfProg
import Derived.Shelf.SlSortCmp.Insertion1
import Derived.Shelf.SlIterI.Nil
import Derived.Shelf.SortM.Plain
import Derived.Shelf.SortM.SortNone
import Derived.Ground.GgzProg
import Derived.Ground.SlgmProg
import Derived.Test.YtmeomhojbobpbaaGreatDoorProg
import Derived.Laws.AppendOwn
import Derived.BigQuiet
/-
  Walks: norm and Norm.
-/
namespace Go.Proofs.YtmeomhojbobpbaaGreatDoor
open Go.RowKit Lg Go.Sort

set_option maxRecDepth 100000 in
set_option maxHeartbeats 400000 in
theorem norm_ok (num den : Int) (w : World) (h0 : den ≠ 0) (hn : -4000000000000000000 ≤ num ∧ num ≤ 4000000000000000000) (hd : -4000000000000000000 ≤ den ∧ den ≤ 4000000000000000000) (hok : normOk num den = true) :
    Calls Tryz.prog 114 #[.int .i64 num, .int .i64 den] w (Gives w (aF (normN num den))) := by
  obtain ⟨g, hg⟩ : ∃ g : Int, g = (Int.gcd num den : Int) := ⟨_, rfl⟩
  obtain ⟨d, hD⟩ : ∃ d, d = normD num den := ⟨_, rfl⟩
  have hgp : 0 < g := by have := Int.gcd_pos_of_ne_zero_right num h0; omega
  have hgl : g ≤ 4000000000000000000 := by
    have h1 : Int.gcd num den ≤ den.natAbs := Nat.le_of_dvd (by omega) (Int.gcd_dvd_natAbs_right num den)
    omega
  have hdd : d = if den < 0 then -g else g := by rw [hD, hg]; rfl
  have hd0 : d ≠ 0 := by rw [hdd]; split <;> omega
  have hdiv : ∀ W, Calls Tryz.prog 130 #[.int .i64 num, .int .i64 den] W fun e w' => e = .returned (.int .i64 g) ∧ Below W.heap.size W w' := fun W => by rw [hg]; exact divisor_any num den W hn hd
  obtain ⟨q, hq⟩ : ∃ q, q = num.tdiv d := ⟨_, rfl⟩
  obtain ⟨r, hr⟩ : ∃ r, r = den.tdiv d := ⟨_, rfl⟩
  have hqb := tdiv_bd num d _ hn
  have hrb := tdiv_bd den d _ hd
  have hN : normN num den = ⟨q, r⟩ := by rw [hq, hr, hD]; rfl
  have hok' : inn q (-1000000000000) 1000000000000 = true ∧ r ≤ 1000000 := by
    unfold normOk at hok; rw [hN] at hok; simpa using hok
  rw [hN]
  clear hok hN hD hg
  have HQ := Lib.hid hq; clear hq
  have HR := Lib.hid hr; clear hr
  obtain ⟨hi, hr1⟩ := hok'
  by_cases hneg : den < 0
  · obtain rfl : d = -g := by rw [hdd, if_pos hneg]
    have hin : ∀ W, Calls Tryz.prog 71 #[.int .i64 q, .int .i64 (-1000000000000), .int .i64 1000000000000] W fun e w' => e = .returned (.bool true) ∧ W = w' := fun W => by rw [← hi]; exact within5_any _ _ _ W
    clear hdd hi
    go_enter Tryz.func114, Tryz.ntmps114
    go_wp2_with (go_at_call 130; refine (hdiv _).mono ?_; rintro e w1 ⟨rfl, hB1⟩)
    have hb1 : Blk w1 w.heap.size #[.int .i64 0, .int .i64 0] 83 := (Blk.new w _ _).below hB1 (by simp)
    have hB2 : Below w.heap.size w w1 := ((Below.refl _ w).alloc (Nat.le_refl _) _).trans (hB1.mono (by simp))
    clear hB1
    go_quiet (fail)
    have e1 : wrap64 (-num.tdiv g) = q := by rw [HQ.out, Int.tdiv_neg] at *; exact IntWalk.wrap64_in _ (by omega)
    have e2 : wrap64 (-den.tdiv g) = r := by rw [HR.out, Int.tdiv_neg] at *; exact IntWalk.wrap64_in _ (by omega)
    rw [e1, e2]; clear e1 e2
    obtain ⟨w2, hw2⟩ : ∃ w2, w2 = w1.drewN nq := ⟨_, rfl⟩
    have hb2 : Blk w2 w.heap.size #[.int .i64 0, .int .i64 0] 83 := hw2 ▸ hb1
    have hB3 : Below w.heap.size w w2 := hw2 ▸ ⟨hB2.os, hB2.tape, hB2.output, hB2.size, hB2.block⟩
    rw [← hw2]; clear hw2 hb1 hB2 HQ HR hqb hrb
    have c2 := hb2.cell
    have f2 := hb2.frozen
    go_wp2_with (go_at_call 71; refine (hin _).mono ?_; rintro e w3 ⟨rfl, rfl⟩)
    refine bodyPost_ret (results_cell_row rfl _ _ w.heap.size 83 _ _ _ rfl ((hb2.setCell 0 _).setCell 1 _) Tryz.underlying83 rfl (by kernel_rfl)) rfl ⟨?_, (hB3.setCell (p := ⟨w.heap.size, 0, none⟩) (Nat.le_refl _) _).setCell (p := ⟨w.heap.size, 1, none⟩) (Nat.le_refl _) _⟩
    rfl
  · obtain rfl : d = g := by rw [hdd, if_neg hneg]
    have hin : ∀ W, Calls Tryz.prog 71 #[.int .i64 q, .int .i64 (-1000000000000), .int .i64 1000000000000] W fun e w' => e = .returned (.bool true) ∧ W = w' := fun W => by rw [← hi]; exact within5_any _ _ _ W
    clear hdd hi
    go_enter Tryz.func114, Tryz.ntmps114
    go_wp2_with (go_at_call 130; refine (hdiv _).mono ?_; rintro e w1 ⟨rfl, hB1⟩)
    have hb1 : Blk w1 w.heap.size #[.int .i64 0, .int .i64 0] 83 := (Blk.new w _ _).below hB1 (by simp)
    have hB2 : Below w.heap.size w w1 := ((Below.refl _ w).alloc (Nat.le_refl _) _).trans (hB1.mono (by simp))
    clear hB1
    go_quiet (fail)
    rw [← HQ.out, ← HR.out]
    obtain ⟨w2, hw2⟩ : ∃ w2, w2 = w1.drewN nq := ⟨_, rfl⟩
    have hb2 : Blk w2 w.heap.size #[.int .i64 0, .int .i64 0] 83 := hw2 ▸ hb1
    have hB3 : Below w.heap.size w w2 := hw2 ▸ ⟨hB2.os, hB2.tape, hB2.output, hB2.size, hB2.block⟩
    rw [← hw2]; clear hw2 hb1 hB2 HQ HR hqb hrb
    have c2 := hb2.cell
    have f2 := hb2.frozen
    go_wp2_with (go_at_call 71; refine (hin _).mono ?_; rintro e w3 ⟨rfl, rfl⟩)
    refine bodyPost_ret (results_cell_row rfl _ _ w.heap.size 83 _ _ _ rfl ((hb2.setCell 0 _).setCell 1 _) Tryz.underlying83 rfl (by kernel_rfl)) rfl ⟨?_, (hB3.setCell (p := ⟨w.heap.size, 0, none⟩) (Nat.le_refl _) _).setCell (p := ⟨w.heap.size, 1, none⟩) (Nat.le_refl _) _⟩
    rfl

set_option maxRecDepth 100000 in
set_option maxHeartbeats 400000 in
theorem norm_up (num den : Int) (w : World) (h0 : den ≠ 0) (hn : -4000000000000000000 ≤ num ∧ num ≤ 4000000000000000000) (hd : -4000000000000000000 ≤ den ∧ den ≤ 4000000000000000000) (hok : normOk num den = false) :
    Calls Tryz.prog 114 #[.int .i64 num, .int .i64 den] w fun e w' => e = .panicked [{ v := upV, recovered := false }] ∧ Below w.heap.size w w' := by
  obtain ⟨g, hg⟩ : ∃ g : Int, g = (Int.gcd num den : Int) := ⟨_, rfl⟩
  obtain ⟨d, hD⟩ : ∃ d, d = normD num den := ⟨_, rfl⟩
  have hgp : 0 < g := by have := Int.gcd_pos_of_ne_zero_right num h0; omega
  have hgl : g ≤ 4000000000000000000 := by
    have h1 : Int.gcd num den ≤ den.natAbs := Nat.le_of_dvd (by omega) (Int.gcd_dvd_natAbs_right num den)
    omega
  have hdd : d = if den < 0 then -g else g := by rw [hD, hg]; rfl
  have hd0 : d ≠ 0 := by rw [hdd]; split <;> omega
  have hdiv : ∀ W, Calls Tryz.prog 130 #[.int .i64 num, .int .i64 den] W fun e w' => e = .returned (.int .i64 g) ∧ Below W.heap.size W w' := fun W => by rw [hg]; exact divisor_any num den W hn hd
  obtain ⟨q, hq⟩ : ∃ q, q = num.tdiv d := ⟨_, rfl⟩
  obtain ⟨r, hr⟩ : ∃ r, r = den.tdiv d := ⟨_, rfl⟩
  have hqb := tdiv_bd num d _ hn
  have hrb := tdiv_bd den d _ hd
  have hN : normN num den = ⟨q, r⟩ := by rw [hq, hr, hD]; rfl
  have hok' : inn q (-1000000000000) 1000000000000 = true → ¬ r ≤ 1000000 := by
    unfold normOk at hok; rw [hN] at hok; simpa using hok
  clear hok hN hD hg
  have HQ := Lib.hid hq; clear hq
  have HR := Lib.hid hr; clear hr
  by_cases hneg : den < 0
  · obtain rfl : d = -g := by rw [hdd, if_pos hneg]
    have hin : ∀ W, Calls Tryz.prog 71 #[.int .i64 q, .int .i64 (-1000000000000), .int .i64 1000000000000] W fun e w' => e = .returned (.bool (inn q (-1000000000000) 1000000000000)) ∧ W = w' := fun W => within5_any _ _ _ W
    clear hdd
    go_enter Tryz.func114, Tryz.ntmps114
    go_wp2_with (go_at_call 130; refine (hdiv _).mono ?_; rintro e w1 ⟨rfl, hB1⟩)
    have hb1 : Blk w1 w.heap.size #[.int .i64 0, .int .i64 0] 83 := (Blk.new w _ _).below hB1 (by simp)
    have hB2 : Below w.heap.size w w1 := ((Below.refl _ w).alloc (Nat.le_refl _) _).trans (hB1.mono (by simp))
    clear hB1
    go_quiet (fail)
    have e1 : wrap64 (-num.tdiv g) = q := by rw [HQ.out, Int.tdiv_neg] at *; exact IntWalk.wrap64_in _ (by omega)
    have e2 : wrap64 (-den.tdiv g) = r := by rw [HR.out, Int.tdiv_neg] at *; exact IntWalk.wrap64_in _ (by omega)
    rw [e1, e2]; clear e1 e2
    obtain ⟨w2, hw2⟩ : ∃ w2, w2 = w1.drewN nq := ⟨_, rfl⟩
    have hb2 : Blk w2 w.heap.size #[.int .i64 0, .int .i64 0] 83 := hw2 ▸ hb1
    have hB3 : Below w.heap.size w w2 := hw2 ▸ ⟨hB2.os, hB2.tape, hB2.output, hB2.size, hB2.block⟩
    rw [← hw2]; clear hw2 hb1 hB2 HQ HR hqb hrb
    have c2 := hb2.cell
    have f2 := hb2.frozen
    cases hi : inn q (-1000000000000) 1000000000000 with
    | true =>
      rw [hi] at hin
      have hr1 := hok' hi
      clear hok' hi
      have hr2 : 1000000 < r := by omega
      go_wp2_with (go_at_call 71; refine (hin _).mono ?_; rintro e w3 ⟨rfl, rfl⟩)
      exact ⟨rfl, rfl, hB3⟩
    | false =>
      rw [hi] at hin
      clear hok' hi
      go_wp2_with (go_at_call 71; refine (hin _).mono ?_; rintro e w3 ⟨rfl, rfl⟩)
      exact ⟨rfl, rfl, hB3⟩
  · obtain rfl : d = g := by rw [hdd, if_neg hneg]
    have hin : ∀ W, Calls Tryz.prog 71 #[.int .i64 q, .int .i64 (-1000000000000), .int .i64 1000000000000] W fun e w' => e = .returned (.bool (inn q (-1000000000000) 1000000000000)) ∧ W = w' := fun W => within5_any _ _ _ W
    clear hdd
    go_enter Tryz.func114, Tryz.ntmps114
    go_wp2_with (go_at_call 130; refine (hdiv _).mono ?_; rintro e w1 ⟨rfl, hB1⟩)
    have hb1 : Blk w1 w.heap.size #[.int .i64 0, .int .i64 0] 83 := (Blk.new w _ _).below hB1 (by simp)
    have hB2 : Below w.heap.size w w1 := ((Below.refl _ w).alloc (Nat.le_refl _) _).trans (hB1.mono (by simp))
    clear hB1
    go_quiet (fail)
    rw [← HQ.out, ← HR.out]
    obtain ⟨w2, hw2⟩ : ∃ w2, w2 = w1.drewN nq := ⟨_, rfl⟩
    have hb2 : Blk w2 w.heap.size #[.int .i64 0, .int .i64 0] 83 := hw2 ▸ hb1
    have hB3 : Below w.heap.size w w2 := hw2 ▸ ⟨hB2.os, hB2.tape, hB2.output, hB2.size, hB2.block⟩
    rw [← hw2]; clear hw2 hb1 hB2 HQ HR hqb hrb
    have c2 := hb2.cell
    have f2 := hb2.frozen
    cases hi : inn q (-1000000000000) 1000000000000 with
    | true =>
      rw [hi] at hin
      have hr1 := hok' hi
      clear hok' hi
      have hr2 : 1000000 < r := by omega
      go_wp2_with (go_at_call 71; refine (hin _).mono ?_; rintro e w3 ⟨rfl, rfl⟩)
      exact ⟨rfl, rfl, hB3⟩
    | false =>
      rw [hi] at hin
      clear hok' hi
      go_wp2_with (go_at_call 71; refine (hin _).mono ?_; rintro e w3 ⟨rfl, rfl⟩)
      exact ⟨rfl, rfl, hB3⟩

end Go.Proofs.YtmeomhojbobpbaaGreatDoor

/-
  Walks: claim.Norm.
-/
namespace Go.Proofs.YtmeomhojbobpbaaGreatDoor
open Go.RowKit Lg Go.Sort Go.Shelf

theorem grownBy_trans_below {w w1 w' : World} {row : Option Nat} (h : Below w.heap.size w w1) (g : w1.grownBy w' row) : w.grownBy w' row :=
  ⟨g.os.trans h.os, g.tape.trans h.tape, g.output.trans h.output, Nat.le_trans h.size g.size, fun k hk hne => (g.block k (Nat.lt_of_lt_of_le hk h.size) hne).trans (h.block k hk)⟩

theorem grownBy_setCells (w : World) (B o : Nat) (vs : List Value) : w.grownBy (w.setCells B o vs) (some B) :=
  have h := below_setCells (Below.refl B w) (Nat.le_refl B) o vs
  ⟨h.os, h.tape, h.output, h.size, fun k _ hne => setCells_heap w B o vs k (fun e => hne (by rw [e]))⟩

theorem setAll_two (a b c d : Value) : setAll #[a, b] 0 [c, d] = #[c, d] := rfl

set_option maxRecDepth 100000 in
set_option maxHeartbeats 400000 in
theorem Norm1_ok (num den : Int) (B1 B2 B3 : Nat) (x y : Value) (w : World) (h0 : den ≠ 0) (hn : -4000000000000000000 ≤ num ∧ num ≤ 4000000000000000000) (hd : -4000000000000000000 ≤ den ∧ den ≤ 4000000000000000000) (hok : normOk num den = true)
    (k1 : Blk w B1 #[.int .i64 num] 3) (k2 : Blk w B2 #[.int .i64 den] 3) (k3 : Blk w B3 #[x, y] 25) :
    Calls Tryz.prog 113 #[.pointer (some ⟨B1, 0, none⟩), .pointer (some ⟨B2, 0, none⟩), .pointer (some ⟨B3, 0, none⟩)] w fun e w' => e = .returned (.tuple #[]) ∧ Blk w' B3 #[.int .i64 (normN num den).num, .int .i64 (normN num den).den] 25 ∧ w.grownBy w' (some B3) := by
  have hN := fun W => norm_ok num den W h0 hn hd hok
  generalize normN num den = q at *
  have c1 : w.cell? ⟨B1, 0, none⟩ = some (.int .i64 num) := k1.cell 0
  have c2 : w.cell? ⟨B2, 0, none⟩ = some (.int .i64 den) := k2.cell 0
  go_enter Tryz.func113, Tryz.ntmps113
  go_wp2_with (go_at_call 114; refine (hN _).mono ?_; rintro e w1 ⟨rfl, hB⟩; have k4 := k3.below' hB; have c4 := k4.cell; have f4 := k4.frozen)
  go_end0
  refine ⟨rfl, ?_, grownBy_trans_below hB (grownBy_setCells w1 B3 0 [.int .i64 q.num, .int .i64 q.den])⟩
  rw [← setAll_two x y]
  exact k4.setCells 0 [.int .i64 q.num, .int .i64 q.den]

set_option maxRecDepth 100000 in
set_option maxHeartbeats 400000 in
theorem Norm1_up (num den : Int) (B1 B2 B3 : Nat) (w : World) (h0 : den ≠ 0) (hn : -4000000000000000000 ≤ num ∧ num ≤ 4000000000000000000) (hd : -4000000000000000000 ≤ den ∧ den ≤ 4000000000000000000) (hok : normOk num den = false)
    (k1 : Blk w B1 #[.int .i64 num] 3) (k2 : Blk w B2 #[.int .i64 den] 3) :
    Calls Tryz.prog 113 #[.pointer (some ⟨B1, 0, none⟩), .pointer (some ⟨B2, 0, none⟩), .pointer (some ⟨B3, 0, none⟩)] w fun e w' => e = .panicked [{ v := upV, recovered := false }] ∧ Below w.heap.size w w' := by
  have hN := fun W => norm_up num den W h0 hn hd hok
  have c1 : w.cell? ⟨B1, 0, none⟩ = some (.int .i64 num) := k1.cell 0
  have c2 : w.cell? ⟨B2, 0, none⟩ = some (.int .i64 den) := k2.cell 0
  go_enter Tryz.func113, Tryz.ntmps113
  go_wp2_with (go_at_call 114; refine (hN _).mono ?_; rintro e w1 ⟨rfl, hB⟩)
  exact ⟨rfl, rfl, hB⟩

set_option maxRecDepth 100000 in
set_option maxHeartbeats 400000 in
theorem Norm_any (num den : Int) (w : World) :
    Calls Tryz.prog 52 #[.int .i64 num, .int .i64 den] w (Gives w (.tuple #[aF (normF num den).1, .int .i64 (normF num den).2])) := by
  have hmf : ∀ (fn : Fn) (first cap : Array Value) (w : World), (Instr.makeFunc fn first cap).run Tryz.prog w = .ok (.func fn first cap) w := fun _ _ _ _ => rfl
  have hw := within5_any
  by_cases hbad : (decide (den = 0) || !inn num (-1000000000000000) 1000000000000000 || !inn den (-1000000000000000) 1000000000000000) = true
  · have hF : normF num den = (⟨0, 0⟩, 1) := by unfold normF; rw [if_pos hbad]
    rw [hF]
    clear hF
    have Hb := Lib.hid hbad; clear hbad
    go_enter Tryz.func52, Tryz.ntmps52
    go_wp2_with (go_at_call 71; refine (hw _ _ _ _).mono ?_; rintro e w3 ⟨rfl, rfl⟩)
    all_goals first
      | (refine bodyPost_ret (v := .tuple #[aF ⟨0, 0⟩, .int .i64 1]) (by simp [results, Tryz.results52, go_sem]) rfl ⟨rfl, ?_⟩
         repeat (first | exact Below.refl _ _ | refine Below.alloc ?_ (by simp <;> omega) _ | refine Below.setCell ?_ (by simp) _ | refine Below.drew ?_))
      | (exfalso; have := Hb.out; simp_all)
  · have hb := hbad
    simp only [Bool.or_eq_true, not_or, Bool.not_eq_true, decide_eq_false_iff_not, Bool.not_eq_false'] at hb
    obtain ⟨⟨h0, h1⟩, h2⟩ := hb
    have b1 : -1000000000000000 ≤ num ∧ num ≤ 1000000000000000 := by unfold inn at h1; simpa using h1
    have b2 : -1000000000000000 ≤ den ∧ den ≤ 1000000000000000 := by unfold inn at h2; simpa using h2
    have e0 : (den == 0) = false := by simpa using h0
    obtain ⟨A, hA⟩ : ∃ A, A = ((w.alloc (.cells #[.int .i64 num] 3)).alloc (.cells #[.int .i64 den] 3)).alloc (.cells #[.int .i64 0, .int .i64 0] 25) := ⟨_, rfl⟩
    have hsz : A.heap.size = w.heap.size + 1 + 1 + 1 := by rw [hA]; simp
    have hBA : Below w.heap.size w A := hA ▸ (((Below.refl _ w).alloc (Nat.le_refl _) _).alloc (by simp) _).alloc (by simp; omega) _
    have j1 := Blk.new w 3 #[.int .i64 num]
    have j2 := Blk.new (w.alloc (.cells #[.int .i64 num] 3)) 3 #[.int .i64 den]
    have j3 := Blk.new ((w.alloc (.cells #[.int .i64 num] 3)).alloc (.cells #[.int .i64 den] 3)) 25 #[.int .i64 0, .int .i64 0]
    simp only [World.size_alloc] at j2 j3
    have k1 : Blk A w.heap.size #[.int .i64 num] 3 := by rw [hA]; exact (j1.alloc _).alloc _
    have k2 : Blk A (w.heap.size + 1) #[.int .i64 den] 3 := by rw [hA]; exact j2.alloc _
    have k3 : Blk A (w.heap.size + 1 + 1) #[.int .i64 0, .int .i64 0] 25 := by rw [hA]; exact j3
    have eg : ∀ args w, (callFunc 113 args).run Tryz.prog w = .ok (.enter 113 args) w := enters_of Tryz.func113 (by kernel_rfl) rfl
    have kE := Blk.new A 26 #[.int .i64 0]
    by_cases hok : normOk num den = true
    · have hF : normF num den = (normN num den, 0) := by unfold normF; rw [if_neg hbad, if_pos hok]
      have hr := ranged_ok 113 #[.pointer (some ⟨w.heap.size, 0, none⟩), .pointer (some ⟨w.heap.size + 1, 0, none⟩), .pointer (some ⟨w.heap.size + 1 + 1, 0, none⟩)] eg A
        (fun w' => Blk w' (w.heap.size + 1 + 1) #[.int .i64 (normN num den).num, .int .i64 (normN num den).den] 25 ∧ Below w.heap.size w w')
        ((Norm1_ok num den _ _ _ _ _ _ h0 (by omega) (by omega) hok (k1.alloc _) (k2.alloc _) (k3.alloc _)).mono fun e w' ⟨he, hb, hg⟩ =>
          ⟨he, kE.kept hg (by simp [hsz]), hb, (hBA.alloc hBA.size _).grown hg (by simp [hsz]; omega) (fun k hk => by cases hk; omega)⟩)
      rw [hF]
      generalize normN num den = q at *
      clear k1 k2 k3 j1 j2 j3 hbad hF kE
      go_enter Tryz.func52, Tryz.ntmps52
      go_wp2_with (first | (go_at_call 71; refine (hw _ _ _ _).mono ?_; rintro e w3 ⟨rfl, rfl⟩))
      rw [← hA]; clear hA
      refine hr.mono ?_
      rintro e w5 ⟨rfl, w4, ⟨hb4, hB4⟩, rfl⟩
      have hb5 := hb4.setCell_other (C := A.heap.size) (by omega) 0 (.int .i64 0)
      have c5 := hb5.cell
      have f5 := hb5.frozen
      have hB5 := hB4.setCell (p := ⟨A.heap.size, 0, none⟩) (show w.heap.size ≤ A.heap.size by omega) (.int .i64 0)
      clear hb4 hB4 hr
      generalize w4.setCell ⟨A.heap.size, 0, none⟩ (.int .i64 0) = w6 at *
      go_wp2
      refine bodyPost_ret (results_cell_tmp rfl _ _ (w.heap.size + 1 + 1) 25 [.int .i64 q.num, .int .i64 q.den] _ rfl ((hb5.setCell 0 (.int .i64 q.num)).setCell 1 (.int .i64 q.den)) Tryz.underlying25 rfl (by kernel_rfl)) rfl ⟨rfl, ?_⟩
      exact (hB5.setCell (p := ⟨w.heap.size + 1 + 1, 0, none⟩) (show w.heap.size ≤ w.heap.size + 1 + 1 by omega) _).setCell (p := ⟨w.heap.size + 1 + 1, 1, none⟩) (show w.heap.size ≤ w.heap.size + 1 + 1 by omega) _
    · have hF : normF num den = (⟨0, 0⟩, 2) := by unfold normF; rw [if_neg hbad, if_neg hok]
      have hr := ranged_up 113 #[.pointer (some ⟨w.heap.size, 0, none⟩), .pointer (some ⟨w.heap.size + 1, 0, none⟩), .pointer (some ⟨w.heap.size + 1 + 1, 0, none⟩)] eg A
        (fun w' => Blk w' (w.heap.size + 1 + 1) #[.int .i64 0, .int .i64 0] 25 ∧ Below w.heap.size w w')
        ((Norm1_up num den _ _ _ _ h0 (by omega) (by omega) (by simpa using hok) (k1.alloc _) (k2.alloc _)).mono fun e w' ⟨he, hb⟩ =>
          ⟨he, kE.below' hb, (k3.alloc _).below' hb, (hBA.alloc hBA.size _).trans (hb.mono (by simp; omega))⟩)
      rw [hF]
      clear k1 k2 k3 j1 j2 j3 hbad hF kE
      go_enter Tryz.func52, Tryz.ntmps52
      go_wp2_with (first | (go_at_call 71; refine (hw _ _ _ _).mono ?_; rintro e w3 ⟨rfl, rfl⟩))
      rw [← hA]; clear hA
      refine hr.mono ?_
      rintro e w5 ⟨rfl, w4, ⟨hb4, hB4⟩, rfl⟩
      have hb5 := (hb4.alloc (.cells #[] 149)).setCell_other (C := A.heap.size) (by omega) 0 (.int .i64 2)
      have c5 := hb5.cell
      have f5 := hb5.frozen
      have hB5 := (hB4.alloc hB4.size (.cells #[] 149)).setCell (p := ⟨A.heap.size, 0, none⟩) (show w.heap.size ≤ A.heap.size by omega) (.int .i64 2)
      clear hb4 hB4 hr
      generalize (w4.alloc (.cells #[] 149)).setCell ⟨A.heap.size, 0, none⟩ (.int .i64 2) = w6 at *
      go_wp2
      refine bodyPost_ret (results_cell_tmp rfl _ _ (w.heap.size + 1 + 1) 25 [.int .i64 0, .int .i64 0] _ rfl ((hb5.setCell 0 (.int .i64 0)).setCell 1 (.int .i64 0)) Tryz.underlying25 rfl (by kernel_rfl)) rfl ⟨rfl, ?_⟩
      exact (hB5.setCell (p := ⟨w.heap.size + 1 + 1, 0, none⟩) (show w.heap.size ≤ w.heap.size + 1 + 1 by omega) _).setCell (p := ⟨w.heap.size + 1 + 1, 1, none⟩) (show w.heap.size ≤ w.heap.size + 1 + 1 by omega) _

end Go.Proofs.YtmeomhojbobpbaaGreatDoor

/-
  The model's '==' at the structs.
-/
namespace Go.Proofs.YtmeomhojbobpbaaGreatDoor
open Go.RowKit Lg

theorem guardF : Tryz.prog.eqGuardType Tryz.prog.depth 25 = false := by kernel_rfl
theorem eqFIn (d : Nat) (a b c e : Int) (w : World) : (Op.equalIn (d + 1 + 1) 25 (.agg #[.int .i64 a, .int .i64 b]) (.agg #[.int .i64 c, .int .i64 e])).run Tryz.prog w = .ok (decide (a = c ∧ b = e)) w := by
  have u3 := Tryz.underlying3
  have a3 := Tryz.isAgg3
  have z3 := Tryz.sizeOf3
  have hS : Tryz.prog.underlying 25 = some (.struct (Tryz.prog.fieldsOf 25)) := by kernel_rfl
  have hp : Tryz.prog.stoodInHeld 25 = false := by kernel_rfl
  rw [run_equalIn_agg w (d + 1) 25 _ _ hS hp]
  simp only [Program.fieldsOf, Tryz.underlying25]
  go_simp
  by_cases h1 : a = c
  · subst h1; by_cases h2 : b = e
    · subst h2; simp
    · simp [h2]
  · simp [h1]

theorem eqF (x y : Frac) (w : World) : (binOp .eql 25 (aF x) (aF y)).run Tryz.prog w = .ok (.bool (decide (x = y))) w := by
  rw [run_eql_struct, show (10000 : Nat) = 9998 + 1 + 1 from rfl, eqFIn]
  obtain ⟨a, b⟩ := x
  obtain ⟨c, d⟩ := y
  simp [Result.andThen]

end Go.Proofs.YtmeomhojbobpbaaGreatDoor

/-
  Walks: names, parts.
-/
namespace Go.Proofs.YtmeomhojbobpbaaGreatDoor
open Go.RowKit Lg Go.Sort Go.Shelf

theorem grownCap_bd (w : World) (n : Nat) (e : TypeId) (hn : n ≤ 1000000) : n ≤ grownCap w n 0 e ∧ grownCap w n 0 e ≤ maxLen := by
  have h : grownCap w n 0 e = n + (w.tape w.drawn (.appendCap n 0 e)) % (2 ^ 63 - n) := rfl
  have h2 := Nat.mod_lt (w.tape w.drawn (.appendCap n 0 e)) (show 2 ^ 63 - n > 0 by omega)
  rw [h]; unfold maxLen; omega

theorem Lst.bytes (w : World) (e : TypeId) (s : ByteArray) (hs : s.size ≤ 1000000) : Lst (Lib.bytesWorld w e s) 1 cB (some ⟨w.heap.size, 0, none⟩) s.size (grownCap w s.size 0 e) s.data.toList :=
  ⟨(Array.length_toList : s.data.toList.length = s.data.size), (grownCap_bd w s.size e hs).1, (grownCap_bd w s.size e hs).2, fun i x hx => by
    refine ⟨w.heap.size, 0, rfl, by rw [Lib.bytesWorld_size]; exact Nat.lt_succ_self _, fun j v hv => ?_⟩
    have hi : i < s.size := by have := (List.getElem?_eq_some_iff.1 hx).1; rw [Array.length_toList] at this; exact this
    obtain rfl : j = 0 := by
      rcases j with _ | j
      · rfl
      · simp at hv
    simp at hv; subst hv
    have := Lib.bytesWorld_cell w e s i hi
    simp only [Nat.zero_add, Nat.mul_one, Nat.add_zero]
    rw [this, List.getD_eq_getElem?_getD, hx]; rfl⟩

theorem below_bytes (w : World) (e : TypeId) (s : ByteArray) : RowKit.Below w.heap.size w (Lib.bytesWorld w e s) :=
  ⟨rfl, rfl, rfl, by rw [Lib.bytesWorld_size]; omega, fun k hk => Lib.bytesWorld_at_old w e s k hk⟩

end Go.Proofs.YtmeomhojbobpbaaGreatDoor

/-
  Walks: the records that are well-formed.
-/
namespace Go.Proofs.YtmeomhojbobpbaaGreatDoor
open Go.RowKit Lg Go.Sort

end Go.Proofs.YtmeomhojbobpbaaGreatDoor

/-
  Walks: goods and parts, as the reference has them.
-/
namespace Go.Proofs.YtmeomhojbobpbaaGreatDoor
open Go.RowKit Lg Go.Sort

end Go.Proofs.YtmeomhojbobpbaaGreatDoor

/-
  Walks: the records that the reference takes for well-formed.
-/
namespace Go.Proofs.YtmeomhojbobpbaaGreatDoor
open Go.RowKit Lg Go.Sort

end Go.Proofs.YtmeomhojbobpbaaGreatDoor

/-
  Walks: the predicate inside counting.
-/
namespace Go.Proofs.YtmeomhojbobpbaaGreatDoor
open Go.RowKit Lg Go.Sort

theorem regrown_call {w : World} {f : FuncId} {args : Array Value} {v : Value} (h : ∀ W, Below w.heap.size w W → Calls Tryz.prog f args W (Gives W v)) :
    ∀ d os, Calls Tryz.prog f args (grow (redrawn w d) os) fun e w'' => e = .returned v ∧ ∃ p : Regrown, w'' = grow (redrawn w p.d) p.os :=
  fun d os => Calls.regrown_of (h _ (below_regrown w d os))

theorem box_regrown {w W : World} {cs : Array Value} {t : TypeId} (hW : W = w.alloc (.cells cs t)) (j d : Nat) (os : Array Obj) : (grow (redrawn W d) os).cell? ⟨w.heap.size, j, none⟩ = cs[j]? := by
  subst hW
  rw [(below_regrown _ d os).cell (by simp)]
  exact cell_of_row _ _ _ _ _ _ (heap_alloc_new w _)

end Go.Proofs.YtmeomhojbobpbaaGreatDoor

/-
  A load of many cells inside a region that draws its order.
-/
namespace Go.Proofs.YtmeomhojbobpbaaGreatDoor
open Go.RowKit Lg Go.Sort

theorem Lst.take {α : Type} {w : World} {k : Nat} {enc : α → List Value} {a : Option Addr} {n cap : Nat} {xs : List α} (h : Lst w k enc a n cap xs) (m : Nat) (hm : m ≤ n) : Lst w k enc a m m (xs.take m) :=
  ⟨by rw [List.length_take, h.len]; omega, Nat.le_refl _, Nat.le_trans hm (Nat.le_trans h.le h.max), fun i x hx => by
    have hi : i < m := by have := (List.getElem?_eq_some_iff.1 hx).1; rw [List.length_take] at this; omega
    rw [List.getElem?_take_of_lt hi] at hx
    exact h.at_ i x hx⟩

end Go.Proofs.YtmeomhojbobpbaaGreatDoor

/-
  DERIVED: THE SHELF's CONTRACTS AT THIS DUMP, IN PLAIN WORDS (tools/lay-plain.mjs out of 'YtmeomhojbobpbaaGreatDoorShf.lean', which tools/lay-shelf.mjs wrote): THE SAME DECLARATIONS UNDER THE SAME NAMES: 'import', 'namespace', 'open', 'def', 'theorem' AND NOTHING ELSE: no command of the shelf's: FOR A HAND-IN. Each laying: the table of numbers ('.._ren') and one theorem, a field a fact of the dump's own or the kernel's comparison; each contract: ONE APPLICATION.
-/
namespace Go.Proofs
open Go.Shelf
def Tryz.lays122_ren : Go.Shelf.Ren := ⟨fun | 122 => 75 | 215 => 133 | n => n, fun | 3 => 3 | 4 => 4 | n => n, fun | n => n⟩
theorem Tryz.lays122 : Go.Proofs.Lays.n122 Tryz.prog Tryz.lays122_ren := {
  mixed := by kernel_rfl
  f122 := Tryz.func75.trans (congrArg some (by kernel_rfl))
  f215 := Tryz.func133.trans (congrArg some (by kernel_rfl))
  t3 := Tryz.underlying3
  a3 := Tryz.isAgg3
  z3 := Tryz.sizeOf3
  v3 := Tryz.zeroValue3
  t4 := Tryz.underlying4
  a4 := Tryz.isAgg4
  z4 := Tryz.sizeOf4
  v4 := Tryz.zeroValue4 }
open Go.RowKit in
/-- cmp.Compare at int: "Compare returns -1 if x is less than y, 0 if x equals y, +1 if x is greater than y.": IT RETURNS 'Lib.compareInt x y'; the world is as it was. (LAID: no walk: one application.) -/
theorem Tryz.cmp_Compare_int (x y : Int) (w : World) :
    Calls Tryz.prog 75 #[.int .i64 x, .int .i64 y] w fun e w' => e = .returned (.int .i64 (Lib.compareInt x y)) ∧ w' = w := Any.cmp_Compare_int Tryz.lays122 x y w
def Tryz.lays189_ren : Go.Shelf.Ren := ⟨fun | 189 => 124 | 125 => 168 | 257 => 167 | 128 => 196 | 129 => 197 | 294 => 187 | 295 => 188 | 296 => 189 | 297 => 190 | 298 => 191 | 299 => 192 | 216 => 193 | 300 => 194 | 301 => 195 | 328 => 214 | 329 => 215 | 330 => 216 | 331 => 217 | 332 => 218 | 215 => 133 | 343 => 235 | n => n, fun | 28 => 30 | 3 => 3 | 46 => 182 | 0 => 0 | 51 => 208 | 53 => 210 | 4 => 4 | 183 => 201 | 182 => 200 | 131 => 205 | 5 => 5 | 9 => 9 | 218 => 225 | 222 => 229 | 228 => 249 | 229 => 250 | n => n, fun | n => n⟩
theorem Tryz.lays189 : Go.Proofs.Lays.n189 Tryz.prog Tryz.lays189_ren := {
  mixed := by kernel_rfl
  f125 := Tryz.func168.trans (congrArg some (by kernel_rfl))
  f128 := Tryz.func196.trans (congrArg some (by kernel_rfl))
  f129 := Tryz.func197.trans (congrArg some (by kernel_rfl))
  f189 := Tryz.func124.trans (congrArg some (by kernel_rfl))
  f215 := Tryz.func133.trans (congrArg some (by kernel_rfl))
  f216 := Tryz.func193.trans (congrArg some (by kernel_rfl))
  f257 := Tryz.func167.trans (congrArg some (by kernel_rfl))
  f294 := Tryz.func187.trans (congrArg some (by kernel_rfl))
  f295 := Tryz.func188.trans (congrArg some (by kernel_rfl))
  f296 := Tryz.func189.trans (congrArg some (by kernel_rfl))
  f297 := Tryz.func190.trans (congrArg some (by kernel_rfl))
  f298 := Tryz.func191.trans (congrArg some (by kernel_rfl))
  f299 := Tryz.func192.trans (congrArg some (by kernel_rfl))
  f300 := Tryz.func194.trans (congrArg some (by kernel_rfl))
  f301 := Tryz.func195.trans (congrArg some (by kernel_rfl))
  f328 := Tryz.func214.trans (congrArg some (by kernel_rfl))
  f329 := Tryz.func215.trans (congrArg some (by kernel_rfl))
  f330 := Tryz.func216.trans (congrArg some (by kernel_rfl))
  f331 := Tryz.func217.trans (congrArg some (by kernel_rfl))
  f332 := Tryz.func218.trans (congrArg some (by kernel_rfl))
  f343 := Tryz.func235.trans (congrArg some (by kernel_rfl))
  t0 := Tryz.underlying0
  a0 := Tryz.isAgg0
  z0 := Tryz.sizeOf0
  v0 := Tryz.zeroValue0
  t3 := Tryz.underlying3
  a3 := Tryz.isAgg3
  z3 := Tryz.sizeOf3
  v3 := Tryz.zeroValue3
  t4 := Tryz.underlying4
  a4 := Tryz.isAgg4
  z4 := Tryz.sizeOf4
  v4 := Tryz.zeroValue4
  t5 := Tryz.underlying5
  a5 := Tryz.isAgg5
  z5 := Tryz.sizeOf5
  v5 := Tryz.zeroValue5
  t9 := Tryz.underlying9
  a9 := Tryz.isAgg9
  z9 := Tryz.sizeOf9
  v9 := Tryz.zeroValue9
  t28 := Tryz.underlying30
  a28 := Tryz.isAgg30
  z28 := Tryz.sizeOf30
  v28 := Tryz.zeroValue30
  t46 := Tryz.underlying182
  a46 := Tryz.isAgg182
  z46 := Tryz.sizeOf182
  v46 := Tryz.zeroValue182
  t51 := Tryz.underlying208
  a51 := Tryz.isAgg208
  z51 := Tryz.sizeOf208
  v51 := Tryz.zeroValue208
  t53 := Tryz.underlying210
  a53 := Tryz.isAgg210
  z53 := Tryz.sizeOf210
  v53 := Tryz.zeroValue210
  t131 := Tryz.underlying205
  a131 := Tryz.isAgg205
  z131 := Tryz.sizeOf205
  v131 := Tryz.zeroValue205
  t182 := Tryz.underlying200
  a182 := Tryz.isAgg200
  z182 := Tryz.sizeOf200
  v182 := Tryz.zeroValue200
  t183 := Tryz.underlying201
  a183 := Tryz.isAgg201
  z183 := Tryz.sizeOf201
  v183 := Tryz.zeroValue201
  t218 := Tryz.underlying225
  a218 := Tryz.isAgg225
  z218 := Tryz.sizeOf225
  v218 := Tryz.zeroValue225
  t222 := Tryz.underlying229
  a222 := Tryz.isAgg229
  z222 := Tryz.sizeOf229
  v222 := Tryz.zeroValue229
  t228 := Tryz.underlying249
  a228 := Tryz.isAgg249
  z228 := Tryz.sizeOf249
  v228 := Tryz.zeroValue249
  t229 := Tryz.underlying250
  a229 := Tryz.isAgg250
  z229 := Tryz.sizeOf250
  v229 := Tryz.zeroValue250 }
open Go.Sort Go.RowKit in
theorem Tryz.slices_Sort_int (blk off cap : Nat) (zs : List Int) (w : World) (hH : Holds (Value.int .i64) w blk off zs.toArray) (hblk : blk < w.heap.size) (hsz : zs.length < 4611686018427387904) :
    Calls Tryz.prog 124 #[.slice (some ⟨blk, off, none⟩) zs.length cap] w fun e w' =>
      e = .returned (.tuple #[]) ∧ ∃ n os, w' = grow (putRow (Value.int .i64) (Sort.ahead w n) blk off (zs.mergeSort fun x y => decide (x ≤ y)).toArray) os := Any.slices_Sort_int Tryz.lays189 blk off cap zs w hH hblk hsz
def Tryz.laysNm215_ren : Go.Shelf.Ren := ⟨fun | 15 => 120 | n => n, fun | 22 => 30 | 3 => 3 | 4 => 4 | n => n, fun | n => n⟩
theorem Tryz.laysNm215 : Go.Proofs.Lays2.n15 Tryz.prog Tryz.laysNm215_ren := {
  mixed := by kernel_rfl
  f15 := Tryz.func120.trans (congrArg some (by kernel_rfl))
  t3 := Tryz.underlying3
  a3 := Tryz.isAgg3
  z3 := Tryz.sizeOf3
  v3 := Tryz.zeroValue3
  t4 := Tryz.underlying4
  a4 := Tryz.isAgg4
  z4 := Tryz.sizeOf4
  v4 := Tryz.zeroValue4
  t22 := Tryz.underlying30
  a22 := Tryz.isAgg30
  z22 := Tryz.sizeOf30
  v22 := Tryz.zeroValue30
  i3 := by kernel_rfl }
open Go.RowKit Go.Lib in
/-- slices.Clone at []int: "Clone returns a copy of the slice. The elements are copied using assignment, so this is a shallow clone. The result may have additional unused capacity. The result preserves the nilness of s.": OF A SLICE THAT IS NOT nil IT RETURNS A SLICE THAT IS NOT nil, OF THE SAME ELEMENTS, IN MEMORY OF THE CALL's OWN: in the how-to's words (6f): 'w'.ownsRow B e 1 v' n cells': v' begins at the head of a row among the blocks from B on (B: the heap's size at the call), not frozen, whose first cells are the elements · 'Below B w w'': below B all is as it was. The capacity is whatever the run-time gives. 'zs': what the cells behind the slice's address hold; 'zs.take n': its elements. (LAID: no walk: one application.) -/
theorem Tryz.slices_Clone_int (b off n c : Nat) (zs : List Int) (w : World) (hz : n ≤ zs.length) (hbig : n * 8 ≤ 140737488355328) (hc : ∀ j, j < zs.length → w.cell? ⟨b, off + j, none⟩ = some (.int .i64 (zs.getD j 0))) :
    Calls Tryz.prog 120 #[.slice (some ⟨b, off, none⟩) n c] w fun e w' => ∃ v', e = .returned v' ∧ w'.ownsRow w.heap.size 3 1 v' n ((zs.take n).map (Value.int .i64)) ∧ v' ≠ .slice none 0 0 ∧ Below w.heap.size w w' := Any.slices_Clone_int Tryz.laysNm215 b off n c zs w hz hbig hc
open Go.RowKit Go.Lib in
/-- The same at nil: nil comes back; the world is as it was. (LAID: no walk: one application.) -/
theorem Tryz.slices_Clone_int_nil (n c : Nat) (w : World) :
    Calls Tryz.prog 120 #[.slice none n c] w fun e w' => e = .returned (.slice none 0 0) ∧ w' = w := Any.slices_Clone_int_nil Tryz.laysNm215 n c w
def Tryz.laysNm220_ren : Go.Shelf.Ren := ⟨fun | 20 => 170 | n => n, fun | 22 => 30 | 3 => 3 | 4 => 4 | 0 => 0 | n => n, fun | n => n⟩
theorem Tryz.laysNm220 : Go.Proofs.Lays2.n20 Tryz.prog Tryz.laysNm220_ren := {
  mixed := by kernel_rfl
  f20 := Tryz.func170.trans (congrArg some (by kernel_rfl))
  t0 := Tryz.underlying0
  a0 := Tryz.isAgg0
  z0 := Tryz.sizeOf0
  v0 := Tryz.zeroValue0
  t3 := Tryz.underlying3
  a3 := Tryz.isAgg3
  z3 := Tryz.sizeOf3
  v3 := Tryz.zeroValue3
  t4 := Tryz.underlying4
  a4 := Tryz.isAgg4
  z4 := Tryz.sizeOf4
  v4 := Tryz.zeroValue4
  t22 := Tryz.underlying30
  a22 := Tryz.isAgg30
  z22 := Tryz.sizeOf30
  v22 := Tryz.zeroValue30
  i3 := by kernel_rfl }
open Go.RowKit Go.Lib Go.Sort in
/-- slices.Compact at []int: "Compact replaces consecutive runs of equal elements with a single copy. This is like the uniq command found on Unix. Compact modifies the contents of the slice s and returns the modified slice, which may have a smaller length. Compact zeroes the elements between the new length and the original length. The result preserves the nilness of s.": IT RETURNS THE SLICE CUT TO 'Lib.compact zs'; ITS CELLS HOLD 'Lib.compact zs', THEN ZERO VALUES up to the old length; all else is as it was, but for the count of draws. IN THE WORDS OF slices.Sort's CONTRACT ('Holds', 'putRow'): so the everyday 'slices.Sort(xs); xs = slices.Compact(xs)' goes from the one contract to the other. It asks 'zs.length ≤ cap' (every slice's: the reslicing 's[:k]' looks at it). Length 0, nil: '.._empty'. (LAID: no walk: one application.) -/
theorem Tryz.slices_Compact_int (blk off cap : Nat) (zs : List Int) (w : World) (hH : Holds (Value.int .i64) w blk off zs.toArray) (hsz : zs.length ≤ 9223372036854775807) (hcap : zs.length ≤ cap) :
    Calls Tryz.prog 170 #[.slice (some ⟨blk, off, none⟩) zs.length cap] w fun e w' => e = .returned (.slice (some ⟨blk, off, none⟩) (Lib.compact zs).length cap) ∧ ∃ q, w' = putRow (Value.int .i64) (Sort.ahead w q) blk off (Lib.compact zs ++ List.replicate (zs.length - (Lib.compact zs).length) 0).toArray := Any.slices_Compact_int Tryz.laysNm220 blk off cap zs w hH hsz hcap
open Go.RowKit Go.Lib Go.Sort in
/-- The same at a slice of length 0, a nil one too: it comes back as it is. (LAID: no walk: one application.) -/
theorem Tryz.slices_Compact_int_empty (a : Option Addr) (cap : Nat) (w : World) :
    Calls Tryz.prog 170 #[.slice a 0 cap] w fun e w' => e = .returned (.slice a 0 cap) ∧ w' = w := Any.slices_Compact_int_empty Tryz.laysNm220 a cap w
open Go.RowKit Go.Sort in
/-- .. and plain. (LAID: no walk: one application.) -/
theorem Tryz.slices_Sort_int_none (p : Option Addr) (cap : Nat) (w : World) :
    Calls Tryz.prog 124 #[.slice p 0 cap] w fun e w' => e = .returned (.tuple #[]) ∧ w' = w := Any.slices_Sort_int_none Tryz.lays189 p cap w
end Go.Proofs

/-
  Lists in rows of the call's own; copies of lists.
-/
namespace Go.Proofs.YtmeomhojbobpbaaGreatDoor
open Go.RowKit Lg Go.Sort Go.Shelf

theorem flat_get {α : Type} (enc : α → List Value) (k : Nat) (hk : ∀ x, (enc x).length = k) (xs : List α) (j : Nat) (u : Value) (h : (xs.flatMap enc)[j]? = some u) : ∃ i x r, xs[i]? = some x ∧ (enc x)[r]? = some u ∧ j = i * k + r := by
  induction xs generalizing j with
  | nil => simp at h
  | cons x xs ih =>
    rw [List.flatMap_cons, List.getElem?_append] at h
    split at h
    · exact ⟨0, x, j, rfl, h, by omega⟩
    · rename_i hj
      obtain ⟨i, y, r, h1, h2, h3⟩ := ih _ h
      rw [hk] at hj h3
      exact ⟨i + 1, y, r, by simpa using h1, h2, by rw [Nat.add_mul]; omega⟩

theorem flat_len {α : Type} (enc : α → List Value) (k : Nat) (hk : ∀ x, (enc x).length = k) (xs : List α) : (xs.flatMap enc).length = xs.length * k := by
  induction xs with
  | nil => simp
  | cons x xs ih => rw [List.flatMap_cons, List.length_append, ih, hk, List.length_cons, Nat.add_mul]; omega

theorem flat_put {α : Type} (enc : α → List Value) (k : Nat) (hk : ∀ x, (enc x).length = k) (xs : List α) (i r : Nat) (x : α) (u : Value) (h1 : xs[i]? = some x) (h2 : (enc x)[r]? = some u) : (xs.flatMap enc)[i * k + r]? = some u := by
  induction xs generalizing i with
  | nil => simp at h1
  | cons y ys ih =>
    rw [List.flatMap_cons]
    have hr : r < k := by rw [← hk x]; exact (List.getElem?_eq_some_iff.1 h2).1
    cases i with
    | zero =>
      simp at h1; subst h1
      rw [List.getElem?_append_left (by rw [hk]; omega), Nat.zero_mul, Nat.zero_add]; exact h2
    | succ i =>
      rw [List.getElem?_append_right (by rw [hk, Nat.add_mul]; omega), hk]
      have := ih i (by simpa using h1)
      rw [show (i + 1) * k + r - k = i * k + r by rw [Nat.add_mul]; omega]
      exact this

/-- What a list's cells are, as one run. -/
theorem Lst.cells {α : Type} {w : World} {k : Nat} {enc : α → List Value} {b off : Nat} {n cap : Nat} {xs : List α} (hk : ∀ x, (enc x).length = k) (h : Lst w k enc (some ⟨b, off, none⟩) n cap xs) (j : Nat) (u : Value) (hj : (xs.flatMap enc)[j]? = some u) : w.cell? ⟨b, off + j, none⟩ = some u := by
  obtain ⟨i, x, r, h1, h2, rfl⟩ := flat_get enc k hk xs j u hj
  obtain ⟨b', off', ha, _, hr⟩ := h.at_ i x h1
  cases ha
  rw [← Nat.add_assoc]
  exact hr r u h2

/-- A row of one's own is a list in memory. -/
theorem Lst.of_owns {α : Type} {w : World} {base : Nat} {e : TypeId} {k : Nat} {enc : α → List Value} {v : Value} {n : Nat} {xs : List α} (hk : ∀ x, (enc x).length = k) (_hk0 : 0 < k) (h : w.ownsRow base e k v n (xs.flatMap enc)) (hl : xs.length = n) :
    ∃ a cap, v = .slice a n cap ∧ (∀ ad, a = some ad → ∃ b, base ≤ b ∧ ad = ⟨b, 0, none⟩) ∧ Lst w k enc a n cap xs := by
  obtain ⟨h0, h1 | ⟨g, cap, cur, hv, hb, hg, hnc, hcm, hcur, htk⟩⟩ := h
  · obtain ⟨rfl, rfl⟩ := h1
    refine ⟨none, 0, rfl, fun _ h => (by cases h), ?_⟩
    have : xs = [] := List.eq_nil_of_length_eq_zero hl
    subst this
    exact Lst.nil w k enc
  · refine ⟨_, cap, hv, fun ad h => ⟨g, hb, by cases h; rfl⟩, hl, hnc, hcm, fun i x hx => ⟨g, 0, rfl, (Array.getElem?_eq_some_iff.1 hg).1, fun j u hu => ?_⟩⟩
    have hp := flat_put enc k hk xs i j x u hx hu
    rw [← htk] at hp
    have hj : i * k + j < n * k := by
      have := (List.getElem?_eq_some_iff.1 hp).1
      rw [List.length_take] at this; omega
    rw [List.getElem?_take_of_lt hj] at hp
    simp only [World.cell?, hg, Nat.zero_add]
    simpa using hp

theorem ownsRow_flat {α : Type} {w : World} {base : Nat} {e : TypeId} {k : Nat} {enc : α → List Value} {v : Value} {n : Nat} {xs : List α} (hk : ∀ x, (enc x).length = k) (hk0 : 0 < k) (h : w.ownsRow base e k v n (xs.flatMap enc)) : xs.length = n := by
  have := h.1; rw [flat_len enc k hk] at this; exact Nat.eq_of_mul_eq_mul_right hk0 this

theorem flat_one {α : Type} (enc : α → List Value) (h : ∀ x, ∀ u ∈ enc x, u.oneCell' = true) (xs : List α) : ∀ u ∈ xs.flatMap enc, u.oneCell' = true := fun u hu => by
  obtain ⟨x, _, hx⟩ := List.mem_flatMap.1 hu
  exact h x u hx

theorem infoI : (Tryz.prog.info? 3).map (fun i => (i.zero, i.size, i.bytes)) = some (some (.int .i64 0), 1, 8) := by kernel_rfl
theorem infoF : (Tryz.prog.info? 25).map (fun i => (i.zero, i.size, i.bytes)) = some (some (.agg #[.int .i64 0, .int .i64 0]), 2, 16) := by kernel_rfl

end Go.Proofs.YtmeomhojbobpbaaGreatDoor

/-
  Walks: the closures of follows.
-/
namespace Go.Proofs.YtmeomhojbobpbaaGreatDoor
open Go.RowKit Lg Go.Sort

end Go.Proofs.YtmeomhojbobpbaaGreatDoor
