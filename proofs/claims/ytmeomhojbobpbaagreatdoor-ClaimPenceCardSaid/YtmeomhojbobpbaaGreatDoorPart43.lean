import Derived.Test.YtmeomhojbobpbaaGreatDoorPart20
import Derived.Deep.DeepCutAuto
import Derived.StillTailTactics
import Derived.Test.YtmeomhojbobpbaaGreatDoorPart19
import Derived.Test.YtmeomhojbobpbaaGreatDoorPart13
import Derived.Test.YtmeomhojbobpbaaGreatDoorPart02
import Derived.Test.YtmeomhojbobpbaaGreatDoorPart05
import Derived.Test.YtmeomhojbobpbaaGreatDoorPart03
import Derived.BigQuiet
/-
  Walks: sums of fractions, as the reference of claims has them.
-/
namespace Go.Proofs.YtmeomhojbobpbaaGreatDoor
open Go.RowKit Lg Go.Sort

theorem fracSet {W : World} {B : Nat} {t : TypeId} {x y : Value} (k : Blk W B #[x, y] t) (z : Frac) :
    Blk ((W.setCell ⟨B, 0, none⟩ (.int .i64 z.num)).setCell ⟨B, 1, none⟩ (.int .i64 z.den)) B (cF z).toArray t := by
  have e : ((#[x, y] : Array Value).setIfInBounds 0 (.int .i64 z.num)).setIfInBounds 1 (.int .i64 z.den) = (cF z).toArray := rfl
  rw [← e]
  exact (k.setCell 0 _).setCell 1 _

theorem belowSetF {W0 W : World} {B n : Nat} (h : RowKit.Below n W0 W) (hB : n ≤ B) (z : Frac) :
    RowKit.Below n W0 ((W.setCell ⟨B, 0, none⟩ (.int .i64 z.num)).setCell ⟨B, 1, none⟩ (.int .i64 z.den)) :=
  (h.setCell (p := ⟨B, 0, none⟩) hB _).setCell (p := ⟨B, 1, none⟩) hB _

set_option maxRecDepth 100000 in
set_option maxHeartbeats 6400000 in
theorem sum5_any (a : Option Addr) (n cap : Nat) (xs : List Frac) (w : World) (hL : Lst w 2 cF a n cap xs) :
    Calls Tryz.prog 16 #[.slice a n cap] w (Gives w (.tuple #[aF (sumOf xs).1, .int .i64 (sumOf xs).2])) := by
  have hm : cap ≤ 9223372036854775807 := by have := hL.max; unfold maxLen at this; omega
  have hle := hL.le
  have Hlen := Lib.hid hL.len
  obtain ⟨r, hr⟩ : ∃ r, r = sumOf xs := ⟨_, rfl⟩
  rw [← hr]
  unfold sumOf at hr
  rw [hL.len] at hr
  obtain ⟨w1, hw1⟩ : ∃ w1, w1 = w.alloc (.cells #[.int .i64 0, .int .i64 0] 25) := ⟨_, rfl⟩
  have kR : Blk w1 w.heap.size #[.int .i64 0, .int .i64 0] 25 := hw1 ▸ Blk.new w _ _
  have hb1 : RowKit.Below w.heap.size w w1 := hw1 ▸ (Below.refl _ w).alloc (Nat.le_refl _) _
  have HL := Lib.hid (hL.below hb1)
  by_cases h1 : 1000 < n
  · rw [if_pos h1] at hr
    subst hr
    have h1z : (1000 : Int) < (n : Int) := by omega
    have cR := kR.cell
    have fR := kR.frozen
    have lR := kR.lt
    clear hL HL
    go_enter Tryz.func16, Tryz.ntmps16
    go_wp2_with (fail)
    rw [← hw1]
    clear hw1
    have hbl : Blk (w1.setCells w.heap.size 0 (cF ⟨0, 0⟩)) w.heap.size (cF ⟨0, 0⟩).toArray 25 := by
      rw [← setAll_zeroF ⟨0, 0⟩]
      exact kR.setCells 0 (cF ⟨0, 0⟩)
    first
      | (rw [putF0 w1 w.heap.size]
         (try simp only [Exit.inBlock, Exit.then]); refine bodyPost_ret (results_cell_tmp rfl _ _ w.heap.size 25 (cF ⟨0, 0⟩) _ rfl hbl Tryz.underlying25 rfl (by kernel_rfl)) rfl ?_
         exact ⟨rfl, below_setCells hb1 (Nat.le_refl _) _ _⟩)
      | ((try simp only [Exit.inBlock, Exit.then]); refine bodyPost_ret (results_cell_tmp rfl _ _ w.heap.size 25 (cF ⟨0, 0⟩) _ rfl kR Tryz.underlying25 rfl (by kernel_rfl)) rfl ?_
         exact ⟨rfl, hb1⟩)
  rw [if_neg h1] at hr
  have h1z : ¬ (1000 : Int) < (n : Int) := by omega
  have Hr := Lib.hid hr
  have HkR := Lib.hid kR
  have hV := fun f W => valid5_any f W
  clear hr hL kR
  go_enter Tryz.func16, Tryz.ntmps16
  go_wp2_with (fail)
  rw [← hw1]
  clear hw1
  go_loopw [4] (fun i wr => ∃ k : Nat, k ≤ n ∧ i = .int .i64 k ∧ Hid (∀ f ∈ xs.take k, validF f = true) ∧ RowKit.Below w1.heap.size w1 wr) (fun i _ => n - (intOf i).toNat)
  case atStart => exact ⟨0, Nat.zero_le _, rfl, Lib.hid (by simp), Below.refl _ _⟩
  case round =>
    obtain ⟨k, hk, rfl, Hall, hB⟩ := hrel
    have hBw := hb1.trans (hB.mono hb1.size)
    by_cases hlt : k < n
    · have hltz : (k : Int) < (n : Int) := by omega
      obtain ⟨x, hx⟩ : ∃ x, xs[k]? = some x := ⟨xs[k]'(by rw [Hlen.out]; exact hlt), by simp⟩
      obtain ⟨b, off, rfl, hb, hrg⟩ := (HL.out.below hB).at_ k x hx
      have hall : validF x = true → ∀ y ∈ xs.take (k + 1), validF y = true := fun h y hy => by
        obtain ⟨h1, h2⟩ := List.getElem?_eq_some_iff.1 hx
        rw [List.take_succ_eq_append_getElem h1, h2, List.mem_append, List.mem_singleton] at hy
        rcases hy with hy | rfl
        · exact Hall.out y hy
        · exact h
      have hany : validF x = false → (xs.any fun f => !validF f) = true := fun h => List.any_eq_true.2 ⟨x, List.mem_of_getElem? hx, by rw [h]; rfl⟩
      have Hall2 := Lib.hid hall
      have Hany := Lib.hid hany
      have hVx := hV x wr
      have kw := HkR.out.below' hB
      clear hx hall hany Hall hV
      generalize validF x = z at *
      cases z with
      | false =>
        have hr := Hr.out
        rw [if_pos (Hany.out rfl)] at hr
        subst hr
        clear Hr Hany Hall2
        go_wp2_with (first
          | (refine wpList_load_mid rfl 25 _ rfl b (off + k * 2) rfl (cF x) _ hrg Tryz.underlying25 rfl (by kernel_rfl) ?_)
          | fail)
        refine hVx.mono ?_
        rintro e w3 ⟨rfl, hB3⟩
        have k3 := kw.below' hB3
        have hb3 := hBw.trans (hB3.mono hBw.size)
        have cR := k3.cell
        have fR := k3.frozen
        have lR := k3.lt
        clear hVx hrg
        go_wp2_with (fail)
        have hbl : Blk (w3.setCells w.heap.size 0 (cF ⟨0, 0⟩)) w.heap.size (cF ⟨0, 0⟩).toArray 25 := by
          rw [← setAll_zeroF ⟨0, 0⟩]
          exact k3.setCells 0 (cF ⟨0, 0⟩)
        rw [putF0 w3 w.heap.size]
        (try simp only [Exit.inBlock, Exit.then]); refine bodyPost_ret (results_cell_tmp rfl _ _ w.heap.size 25 (cF ⟨0, 0⟩) _ rfl hbl Tryz.underlying25 rfl (by kernel_rfl)) rfl ?_
        exact ⟨rfl, below_setCells hb3 (Nat.le_refl _) _ _⟩
      | true =>
        go_wp2_with (first
          | (refine wpList_load_mid rfl 25 _ rfl b (off + k * 2) rfl (cF x) _ hrg Tryz.underlying25 rfl (by kernel_rfl) ?_)
          | fail)
        refine hVx.mono ?_
        rintro e w3 ⟨rfl, hB3⟩
        have hB3' := hB.trans (hB3.mono hB.size)
        clear hVx hrg
        go_wp2_with (fail)
        go_roundw
        case rel => exact ⟨k + 1, by omega, by go_num, Lib.hid (Hall2.out (by first | rfl | trivial)), hB3'⟩
        case measure => simp [intOf]; omega
    · obtain rfl : k = n := by omega
      have hall := Hall.out
      rw [List.take_of_length_le (by rw [Hlen.out]; exact Nat.le_refl _)] at hall
      have hr := Hr.out
      rw [if_neg (by
        rw [Bool.not_eq_true, List.any_eq_false]
        intro f hf
        rw [hall f hf]; simp)] at hr
      have Hr2 := Lib.hid hr
      have Hv := Lib.hid hall
      clear hall hr Hr Hall hV
      have hB6 : RowKit.Below w1.heap.size w1 (wr.alloc (.cells #[.int .i64 0, .int .i64 1] 25)) := hB.alloc hB.size _
      have k6 : Blk (wr.alloc (.cells #[.int .i64 0, .int .i64 1] 25)) wr.heap.size (cF ⟨0, 1⟩).toArray 25 := Blk.new wr _ _
      have hAd := fun a b W => add5_any a b W
      obtain ⟨B6, hB6n⟩ : ∃ B6, B6 = wr.heap.size := ⟨_, rfl⟩
      have hge : w1.heap.size ≤ B6 := by rw [hB6n]; exact hB.size
      obtain ⟨W6, hW6⟩ : ∃ W6, W6 = wr.alloc (.cells #[.int .i64 0, .int .i64 1] 25) := ⟨_, rfl⟩
      rw [← hB6n, ← hW6] at k6
      rw [← hW6] at hB6
      go_wp2_with (fail)
      rw [← hW6, ← hB6n]
      clear hW6 hB6n hB hBw
      go_loopw [7] (fun i wr => ∃ j : Nat, j ≤ k ∧ i = .int .i64 j ∧ RowKit.Below w1.heap.size w1 wr ∧ ∃ acc : Frac, Blk wr B6 (cF acc).toArray 25 ∧ Hid (validF acc = true ∧ sumGo ⟨0, 1⟩ xs = sumGo acc (xs.drop j))) (fun i _ => k - (intOf i).toNat)
      case atStart => exact ⟨0, Nat.zero_le _, rfl, hB6, ⟨0, 1⟩, k6, Lib.hid ⟨by decide, rfl⟩⟩
      case round =>
        obtain ⟨j, hj, rfl, hB, acc, kA, Ha⟩ := hrel
        have hBw := hb1.trans (hB.mono hb1.size)
        clear k6 hB6
        by_cases hlt : j < k
        · have hltz : (j : Int) < (k : Int) := by omega
          have hjz : (0 : Int) ≤ (j : Int) := by omega
          obtain ⟨x, hx⟩ : ∃ x, xs[j]? = some x := ⟨xs[j]'(by rw [Hlen.out]; exact hlt), by simp⟩
          obtain ⟨b, off, rfl, hb, hrg⟩ := (HL.out.below hB).at_ j x hx
          have hdrop : xs.drop j = x :: xs.drop (j + 1) := by
            obtain ⟨h1, h2⟩ := List.getElem?_eq_some_iff.1 hx
            rw [← h2, List.drop_eq_getElem_cons h1]
          have hst := sumGo_step (xs.drop (j + 1)) Ha.out.1 (Hv.out x (List.mem_of_getElem? hx))
          rw [← hdrop, ← Ha.out.2] at hst
          have hadd : ∀ W, RowKit.Below wr.heap.size wr W → Calls Tryz.prog 59 #[aF acc, aF x] W fun e w' => e = .returned (.tuple #[aF (addF acc x).1, .int .i64 (addF acc x).2]) ∧ RowKit.Below W.heap.size W w' ∧ RowKit.Below wr.heap.size wr w' := fun W h => (hAd acc x W).mono fun e w' q => ⟨q.1, q.2, h.trans (q.2.mono h.size)⟩
          generalize addF acc x = q at *
          have r0 := hrg 0 _ rfl
          have r1 := hrg 1 _ rfl
          simp only [Nat.add_zero] at r0
          have hK : ∀ W, RowKit.Below wr.heap.size wr W → W.cell? ⟨b, off + j * 2, none⟩ = some (.int .i64 x.num) ∧ W.cell? ⟨b, off + j * 2 + 1, none⟩ = some (.int .i64 x.den) ∧ W.cell? ⟨B6, 0, none⟩ = some (.int .i64 acc.num) ∧ W.cell? ⟨B6, 1, none⟩ = some (.int .i64 acc.den) :=
            fun W h => ⟨(h.cell (p := ⟨b, off + j * 2, none⟩) hb).trans r0, (h.cell (p := ⟨b, off + j * 2 + 1, none⟩) hb).trans r1, (kA.below' h).cell 0, (kA.below' h).cell 1⟩
          have HK := Lib.hid hK
          have HA := Lib.hid hadd
          have Hst := Lib.hid hst
          have HkA := Lib.hid kA
          clear hrg hdrop hx hst hadd hK r0 r1 kA hAd
          go_upto_region 13 with fail
          go_cut [8, 9] (fun c8 c9 W => ∃ B, c8 = .pointer (some ⟨B, 0, none⟩) ∧ c9 = .int .i64 q.2 ∧ wr.heap.size ≤ B ∧ Blk W B (cF q.1).toArray 25 ∧ RowKit.Below wr.heap.size wr W)
          case first =>
            go_region_held3 (fun w' => w'.cell? ⟨b, off + j * 2, none⟩ = some (.int .i64 x.num) ∧ w'.cell? ⟨b, off + j * 2 + 1, none⟩ = some (.int .i64 x.den) ∧ w'.cell? ⟨B6, 0, none⟩ = some (.int .i64 acc.num) ∧ w'.cell? ⟨B6, 1, none⟩ = some (.int .i64 acc.den))
              (((with_reducible refine HK.out _ ?_); repeat (first | (with_reducible assumption) | (with_reducible exact Below.refl _ _) | (with_reducible refine Below.alloc ?_ ?_ _) | (with_reducible refine Below.setCell ?_ ?_ _) | (with_reducible refine Below.drew ?_) | omega | (simp <;> omega) | (dsimp only; omega))))
              (first
                | (go_at_call 59; (with_reducible refine (HA.out _ (by repeat (first | (with_reducible assumption) | (with_reducible exact Below.refl _ _) | (with_reducible refine Below.alloc ?_ ?_ _) | (with_reducible refine Below.setCell ?_ ?_ _) | (with_reducible refine Below.drew ?_) | omega | (simp <;> omega) | (dsimp only; omega)))).mono ?_); rintro e w7 ⟨rfl, hB7, hb7⟩; have hs7 := hb7.size; (first | (have kA := ((Blk.new wr 25 #[.int .i64 0, .int .i64 0]).drew).below' hB7; have kAc := kA.cell; have kAf := kA.frozen; have kAl := kA.lt) | skip))
                | fail)
            · rename_i hSx
              clear hSx
              go_wp2_with fail
              go_meet
              exact ⟨_, rfl, rfl, hs7, Blk.new _ _ _, hb7.alloc hs7 _⟩
            · rename_i hSx
              clear hSx
              go_wp2_with fail
              go_meet
              exact ⟨_, rfl, rfl, Nat.le_refl _, fracSet kA q.1, belowSetF hb7 (Nat.le_refl _) q.1⟩
          case rest =>
            obtain ⟨B8, rfl, rfl, hge8, k8, hC⟩ := hcut
            have kA := HkA.out.below' hC
            have kRc := (HkR.out.below' hB).below' hC
            have hBc := hB.trans (hC.mono hB.size)
            have hBwc := hb1.trans (hBc.mono hb1.size)
            have c8 := k8.cell
            have f6 := kA.frozen
            have l6 := kA.lt
            have c6 := kA.cell
            have hne : B8 ≠ B6 := by have := HkA.out.lt; omega
            clear HkA HK HA
            rcases Hst.out with ⟨e0, e1, e2⟩ | ⟨e0, e1⟩
            · obtain ⟨q1, q2⟩ := q
              dsimp only at e0 e1 e2 c8 k8 ⊢
              subst e0
              have He := Lib.hid (And.intro e2 e1)
              clear e1 e2 Hst
              go_wp2_with (fail)
              go_roundw
              case rel => exact ⟨j + 1, by omega, by go_num, belowSetF hBc hge q1, q1, fracSet kA q1, He⟩
              case measure => simp [intOf]; omega
            · subst e0
              have hr := Hr2.out
              rw [e1] at hr
              subst hr
              dsimp only
              have cR := kRc.cell
              have fR := kRc.frozen
              have lR := kRc.lt
              clear Hst Hr2 e1 c6 f6 l6
              go_wp2_with (fail)
              have hbl : Blk (wc.setCells w.heap.size 0 (cF ⟨0, 0⟩)) w.heap.size (cF ⟨0, 0⟩).toArray 25 := by
                rw [← setAll_zeroF ⟨0, 0⟩]
                exact kRc.setCells 0 (cF ⟨0, 0⟩)
              rw [putF0 wc w.heap.size]
              (try simp only [Exit.inBlock, Exit.then]); refine bodyPost_ret (results_cell_tmp rfl _ _ w.heap.size 25 (cF ⟨0, 0⟩) _ rfl hbl Tryz.underlying25 rfl (by kernel_rfl)) rfl ?_
              exact ⟨rfl, below_setCells hBwc (Nat.le_refl _) _ _⟩
        · obtain rfl : j = k := by omega
          have hs := Ha.out.2
          rw [List.drop_eq_nil_of_le (by rw [Hlen.out]; exact Nat.le_refl _), sumGo] at hs
          have hr := Hr2.out
          rw [hs] at hr
          subst hr
          have kRc := HkR.out.below' hB
          have cA := kA.cell
          have cR := kRc.cell
          have fR := kRc.frozen
          have lR := kRc.lt
          clear Hr2 hs
          go_wp2_with (fail)
          have hbl : Blk (wr.setCells w.heap.size 0 (cF acc)) w.heap.size (cF acc).toArray 25 := by
            rw [← setAll_zeroF acc]
            exact kRc.setCells 0 (cF acc)
          rw [putF wr w.heap.size acc]
          (try simp only [Exit.inBlock, Exit.then]); refine bodyPost_ret (results_cell_tmp rfl _ _ w.heap.size 25 (cF acc) _ rfl hbl Tryz.underlying25 rfl (by kernel_rfl)) rfl ?_
          exact ⟨rfl, below_setCells hBw (Nat.le_refl _) _ _⟩

end Go.Proofs.YtmeomhojbobpbaaGreatDoor

/-
  Plain laws: the reference's split is the program's.
-/
namespace Lg
open Go Go.Sort

theorem arr_get (d : Array Nat) (j : Nat) : d.toList.getD j 0 = d[j]! := by
  rw [getElem!_def]
  by_cases h : j < d.size
  · simp [List.getD, h]
  · simp [List.getD, h]

theorem normOk_small {k d : Int} (h0 : 0 ≤ k) (h1 : k ≤ 1000000) (h2 : 0 < d) (h3 : d ≤ 1000000) : normOk k d = true := by
  have hg := gcd_pos_of_den (num := k) (den := d) (by omega)
  have hD : normD k d = (Int.gcd k d : Int) := by unfold normD; rw [if_neg (by omega)]
  unfold normOk normN
  rw [hD, Int.tdiv_eq_ediv_of_nonneg h0, Int.tdiv_eq_ediv_of_nonneg (Int.le_of_lt h2)]
  have a1 := Int.ediv_le_self (Int.gcd k d : Int) h0
  have a2 := Int.ediv_le_self (Int.gcd k d : Int) (Int.le_of_lt h2)
  have a3 : 0 ≤ k / (Int.gcd k d : Int) := Int.ediv_nonneg h0 (by omega)
  simp only [Bool.and_eq_true, inn_iff, decide_eq_true_eq]
  omega

theorem range_getD (l : List Frac) : (List.range l.length).map (fun i => l.getD i ⟨0, 1⟩) = l := by
  apply List.ext_getElem
  · simp
  · intro i h1 h2
    simp [List.getD, h2]

theorem greedy_go {total : Int} {l : List Frac} (h : splitFine total l = true) : ∀ (t s : Nat) (o : List Int) (c : List Frac), s + t ≤ nzOf total l → s + t ≤ l.length → c.length = l.length →
    (∀ i, i < l.length → c.getD i ⟨0, 1⟩ = normN (if i ∈ (splitOrder total l).toList.take s then 0 else cutN total (l.getD i ⟨0, 1⟩)) (l.getD i ⟨0, 1⟩).den) →
    greedy t o c = incr o (((splitOrder total l).toList.drop s).take t) := by
  obtain ⟨f0, f1, fa⟩ := fine_all h
  have hget : ∀ i, i < l.length → l.getD i ⟨0, 1⟩ ∈ l := fun i hi => by rw [List.getD_eq_getElem?_getD, List.getElem?_eq_getElem hi]; exact List.getElem_mem _
  have hDp : ∀ i, 0 < (l.getD i ⟨0, 1⟩).den := fun i => by
    by_cases hi : i < l.length
    · have := (fa _ (hget i hi)).2.1.2.2.1; omega
    · rw [List.getD_eq_getElem?_getD, List.getElem?_eq_none (by omega)]; decide
  have hDm : ∀ i, (l.getD i ⟨0, 1⟩).den ≤ 1000000 := fun i => by
    by_cases hi : i < l.length
    · exact (fa _ (hget i hi)).2.1.2.2.2
    · rw [List.getD_eq_getElem?_getD, List.getElem?_eq_none (by omega)]; decide
  have hK : ∀ i, 0 ≤ cutN total (l.getD i ⟨0, 1⟩) ∧ cutN total (l.getD i ⟨0, 1⟩) < (l.getD i ⟨0, 1⟩).den := fun i => by
    unfold cutN
    exact ⟨Int.emod_nonneg _ (by have := hDp i; omega), Int.emod_lt_of_pos _ (hDp i)⟩
  have hSW := cmpP_swo (total := total) hDp
  obtain ⟨hperm, hsort⟩ := stableS_spec hSW l.length
  have hro : (stableS (ltC (cmpP total l)) (List.range l.length).toArray) = splitOrder total l := rfl
  rw [hro] at hperm hsort
  have hnz : nzOf total l = (splitOrder total l).toList.countP (fun i => decide (cutN total (l.getD i ⟨0, 1⟩) ≠ 0)) := by
    rw [hperm.countP_eq]
    unfold nzOf
    conv => lhs; rw [← range_getD l]
    rw [List.countP_map]; rfl
  have hltd := fun i j => cmpP_neg total l i j
  have hrl : (splitOrder total l).toList.length = l.length := by rw [hperm.length_eq, List.length_range]
  have hnd : (splitOrder total l).toList.Nodup := hperm.nodup_iff.2 List.nodup_range
  have hmem : ∀ i, i < l.length → i ∈ (splitOrder total l).toList := fun i hi => hperm.mem_iff.2 (List.mem_range.2 hi)
  have hmem2 : ∀ i, i ∈ (splitOrder total l).toList → i < l.length := fun i hi => List.mem_range.1 (hperm.mem_iff.1 hi)
  have hs2 : ∀ i j, i < j → j < l.length → tieLt (ltC (cmpP total l)) ((splitOrder total l).toList.getD j 0) ((splitOrder total l).toList.getD i 0) = false := fun i j h1 h2 => by
    rw [arr_get, arr_get]; exact hsort i j (Nat.zero_le _) h1 h2
  clear hsort hperm hro fa
  generalize (splitOrder total l).toList = r at *
  generalize ltC (cmpP total l) = lt at *
  intro t
  induction t with
  | zero => intro s o c _ _ _ _; rw [greedy, List.take_zero]; rfl
  | succ t ih =>
    intro s o c hz hn hcl hc
    have hsl : s < r.length := by omega
    have hrs : r[s]? = some (r.getD s 0) := by rw [List.getD_eq_getElem?_getD, List.getElem?_eq_getElem hsl]; rfl
    obtain ⟨p, hp⟩ : ∃ p, p = r.getD s 0 := ⟨_, rfl⟩
    rw [← hp] at hrs
    have hpm : p ∈ r := List.mem_of_getElem? hrs
    have hpl := hmem2 p hpm
    have hdrop : r.drop s = p :: r.drop (s + 1) := by
      obtain ⟨h1, h2⟩ := List.getElem?_eq_some_iff.1 hrs
      rw [← h2, List.drop_eq_getElem_cons h1]
    have htake : r.take (s + 1) = r.take s ++ [p] := by
      obtain ⟨h1, h2⟩ := List.getElem?_eq_some_iff.1 hrs
      rw [List.take_succ_eq_append_getElem h1, h2]
    have hpn : p ∉ r.take s := by
      intro hq
      have h2 : (r.take (s + 1)).Nodup := hnd.sublist (List.take_sublist _ _)
      rw [htake, List.nodup_append] at h2
      exact h2.2.2 p hq p (by simp) rfl
    -- what is not taken yet lies at s or behind it
    have hrest : ∀ i, i < l.length → i ∉ r.take s → i = p ∨ tieLt lt i p = false := by
      intro i hi hq
      have h1 := hmem i hi
      rw [← List.take_append_drop s r, List.mem_append] at h1
      rcases h1 with h1 | h1
      · exact absurd h1 hq
      · obtain ⟨j, hj⟩ := List.getElem?_of_mem h1
        rw [List.getElem?_drop] at hj
        by_cases hj0 : j = 0
        · subst hj0
          rw [Nat.add_zero, hrs] at hj
          left; injection hj with hj; exact hj.symm
        · right
          have hjl : s + j < l.length := by rw [← hrl]; exact (List.getElem?_eq_some_iff.1 hj).1
          have e : r.getD (s + j) 0 = i := by rw [List.getD_eq_getElem?_getD, hj]; rfl
          have := hs2 s (s + j) (by omega) hjl
          rw [e, ← hp] at this
          exact this
    have hle : ∀ i, i < l.length → i ∉ r.take s → cutN total (l.getD i ⟨0, 1⟩) * (l.getD p ⟨0, 1⟩).den ≤ cutN total (l.getD p ⟨0, 1⟩) * (l.getD i ⟨0, 1⟩).den := by
      intro i hi hq
      rcases hrest i hi hq with rfl | h1
      · exact Int.le_refl _
      · unfold tieLt at h1
        rw [Bool.or_eq_false_iff, hltd, decide_eq_false_iff_not] at h1
        exact Int.not_lt.1 h1.1
    have hpos : 0 < cutN total (l.getD p ⟨0, 1⟩) := by
      rcases Int.lt_or_le 0 (cutN total (l.getD p ⟨0, 1⟩)) with h1 | h1
      · exact h1
      · exfalso
        have h0 : cutN total (l.getD p ⟨0, 1⟩) = 0 := by have := (hK p).1; omega
        have hz2 : (r.drop s).countP (fun i => decide (cutN total (l.getD i ⟨0, 1⟩) ≠ 0)) = 0 := by
          rw [List.countP_eq_zero]
          intro i hi
          have hil : i < l.length := hmem2 i (List.mem_of_mem_drop hi)
          have hnot : i ∉ r.take s := by
            intro hq
            have h2 := hnd
            rw [← List.take_append_drop s r, List.nodup_append] at h2
            exact h2.2.2 i hq i hi rfl
          have h3 := hle i hil hnot
          rw [h0, Int.zero_mul] at h3
          have h4 := (hK i).1
          have : cutN total (l.getD i ⟨0, 1⟩) = 0 := by
            rcases Int.lt_or_le 0 (cutN total (l.getD i ⟨0, 1⟩)) with h5 | h5
            · have := Int.mul_pos h5 (hDp p); omega
            · omega
          rw [this]; simp
        have hcount : r.countP (fun i => decide (cutN total (l.getD i ⟨0, 1⟩) ≠ 0)) ≤ s := by
          conv => lhs; rw [← List.take_append_drop s r]
          rw [List.countP_append, hz2, Nat.add_zero]
          exact Nat.le_trans List.countP_le_length (List.length_take_le _ _)
        omega
    have hb := bestAt_spec (n := l.length) c (fun i => if i ∈ r.take s then 0 else cutN total (l.getD i ⟨0, 1⟩)) (fun i => (l.getD i ⟨0, 1⟩).den) (fun i _ => hDp i) (fun i hi => ⟨hc i hi, by
      rw [validF_normN (hDp i)]
      have := hK i
      have := hDm i
      by_cases hq : i ∈ r.take s
      · rw [if_pos hq]; exact normOk_small (Int.le_refl _) (by omega) (hDp i) (hDm i)
      · rw [if_neg hq]; exact normOk_small (by omega) (by omega) (hDp i) (hDm i)⟩) l.length (by omega) (Nat.le_refl _)
    have hbp : bestAt c c.length = p := by
      rw [hcl]
      refine first_greatest (n := l.length) (k := fun i => if i ∈ r.take s then 0 else cutN total (l.getD i ⟨0, 1⟩)) (d := fun i => (l.getD i ⟨0, 1⟩).den) hpl hb.1 (fun i hi => ?_) (fun i hi => ?_) hb.2.1 hb.2.2
      · rw [if_neg hpn]
        by_cases hq : i ∈ r.take s
        · rw [if_pos hq, Int.zero_mul]; exact Int.mul_nonneg (by omega) (Int.le_of_lt (hDp i))
        · rw [if_neg hq]; exact hle i hi hq
      · rw [if_neg hpn]
        by_cases hq : i ∈ r.take s
        · rw [if_pos hq, Int.zero_mul]; exact Int.mul_pos hpos (hDp i)
        · rw [if_neg hq]
          rcases hrest i (by omega) hq with rfl | h1
          · omega
          · unfold tieLt at h1
            rw [Bool.or_eq_false_iff, Bool.and_eq_false_iff] at h1
            rcases h1.2 with h2 | h2
            · rw [hltd, Bool.not_eq_false', decide_eq_true_eq] at h2; exact h2
            · rw [decide_eq_false_iff_not] at h2; omega
    rw [greedy, hbp, hdrop, List.take_succ_cons, incr]
    refine ih (s + 1) _ _ (by omega) (by omega) (by rw [List.length_set]; exact hcl) (fun i hi => ?_)
    rw [htake]
    by_cases e : i = p
    · subst e
      rw [if_pos (by simp), norm_zero (hDp i), List.getD_eq_getElem?_getD, List.getElem?_set_self (by rw [hcl]; exact hi)]; rfl
    · rw [List.getD_eq_getElem?_getD, List.getElem?_set_ne (fun h => e h.symm), ← List.getD_eq_getElem?_getD, hc i hi]
      congr 1
      by_cases hq : i ∈ r.take s
      · rw [if_pos hq, if_pos (by simp [hq])]
      · rw [if_neg hq, if_neg (by simp [hq, e])]

theorem greedy_eq {total : Int} {l : List Frac} (h : splitFine total l = true) (hs : sumsOk l) :
    greedy (splitLeft total l).toNat (l.map (baseF total)) (l.map (cutQ total)) = incr (l.map (baseF total)) ((splitOrder total l).toList.take (splitLeft total l).toNat) := by
  have h1 := splitLeft_nz h hs
  obtain ⟨h2, h3, _⟩ := splitLeft_bd h hs
  have := greedy_go h (splitLeft total l).toNat 0 (l.map (baseF total)) (l.map (cutQ total)) (by omega) (by omega) (by simp) (fun i hi => by
    rw [List.getD_eq_getElem?_getD, List.getElem?_map, List.getElem?_eq_getElem hi, List.getD_eq_getElem?_getD, List.getElem?_eq_getElem hi]
    simp [cutQ])
  rw [List.drop_zero] at this
  exact this

end Lg

/-
  Plain laws for the reference's split: lists that are filled one by one, and their cells.
-/
namespace Go.Proofs.YtmeomhojbobpbaaGreatDoor
open Go.RowKit Lg Go.Sort Go.Shelf

def fillL {α β : Type} (f : α → β) (z : β) (l : List α) (j : Nat) : List β := (l.take j).map f ++ List.replicate (l.length - j) z

theorem fillL_zero {α β : Type} (f : α → β) (z : β) (l : List α) : fillL f z l 0 = List.replicate l.length z := by simp [fillL]
theorem fillL_all {α β : Type} (f : α → β) (z : β) (l : List α) : fillL f z l l.length = l.map f := by simp [fillL]
theorem fillL_get {α β : Type} (f : α → β) (z : β) (l : List α) (j : Nat) (h : j < l.length) : (fillL f z l j)[j]? = some z := by
  unfold fillL
  rw [List.getElem?_append_right (by simp; omega), List.getElem?_replicate]
  simp; omega
theorem fillL_set {α β : Type} (f : α → β) (z : β) (l : List α) (j : Nat) (x : α) (h : l[j]? = some x) : (fillL f z l j).set j (f x) = fillL f z l (j + 1) := by
  obtain ⟨h1, h2⟩ := List.getElem?_eq_some_iff.1 h
  unfold fillL
  rw [List.take_succ_eq_append_getElem h1, h2, List.map_append, List.set_append_right _ _ (by simp; omega)]
  obtain ⟨q, hq⟩ : ∃ q, l.length - j = q + 1 := ⟨l.length - j - 1, by omega⟩
  rw [hq, show l.length - (j + 1) = q by omega, List.replicate_succ]
  have : j - (List.map f (List.take j l)).length = 0 := by simp; omega
  rw [this, List.set_cons_zero, List.append_assoc]
  rfl

theorem flat_get2 (c : List Frac) : ∀ (j : Nat) (z : Frac), c[j]? = some z → (c.flatMap cF)[j * 2]? = some (.int .i64 z.num) ∧ (c.flatMap cF)[j * 2 + 1]? = some (.int .i64 z.den) := by
  induction c with
  | nil => intro j z h; simp at h
  | cons x r ih =>
    intro j z h
    cases j with
    | zero => obtain rfl : x = z := by simpa using h
              exact ⟨rfl, rfl⟩
    | succ j =>
      obtain ⟨h1, h2⟩ := ih j z (by simpa using h)
      rw [List.flatMap_cons, show (j + 1) * 2 = j * 2 + 1 + 1 by omega]
      exact ⟨h1, h2⟩

theorem flat_set2 (c : List Frac) : ∀ (j : Nat) (z : Frac), ((c.flatMap cF).set (j * 2) (.int .i64 z.num)).set (j * 2 + 1) (.int .i64 z.den) = (c.set j z).flatMap cF := by
  induction c with
  | nil => intro j z; simp
  | cons x r ih =>
    intro j z
    cases j with
    | zero => rfl
    | succ j =>
      have := ih j z
      rw [List.set_cons_succ, List.flatMap_cons, List.flatMap_cons, ← this, show (j + 1) * 2 = j * 2 + 1 + 1 by omega]
      rfl

theorem made2 (n : Nat) : (madeCells (Value.agg #[.int .i64 0, .int .i64 0]).cells (n * 2)).toList = (List.replicate n (⟨0, 0⟩ : Frac)).flatMap cF := by
  have h1 : (madeCells (Value.agg #[.int .i64 0, .int .i64 0]).cells (n * 2)).toList = List.replicate (n * 2) (Value.int .i64 0) := by
    unfold madeCells
    rw [Array.toList_map, Array.toList_range, List.eq_replicate_iff]
    refine ⟨by simp, fun b hb => ?_⟩
    obtain ⟨i, _, rfl⟩ := List.mem_map.1 hb
    have : i % 2 = 0 ∨ i % 2 = 1 := by omega
    rcases this with h | h <;> simp [Value.cells, h]
  rw [h1]
  induction n with
  | zero => rfl
  | succ n ih =>
    rw [show (n + 1) * 2 = n * 2 + 1 + 1 by omega, List.replicate_succ, List.replicate_succ, ih (by
      unfold madeCells
      rw [Array.toList_map, Array.toList_range, List.eq_replicate_iff]
      refine ⟨by simp, fun b hb => ?_⟩
      obtain ⟨i, _, rfl⟩ := List.mem_map.1 hb
      have : i % 2 = 0 ∨ i % 2 = 1 := by omega
      rcases this with h | h <;> simp [Value.cells, h]), List.replicate_succ, List.flatMap_cons]
    rfl

theorem made1 (n : Nat) : (madeCells (Value.int .i64 0).cells (n * 1)).toList = (List.replicate n (0 : Int)).map (Value.int .i64) := by
  rw [fillC_zero (fun _ => 0)]
  unfold fillC
  rw [List.map_replicate, List.eq_replicate_iff]
  refine ⟨by simp, fun b hb => ?_⟩
  obtain ⟨i, _, rfl⟩ := List.mem_map.1 hb
  simp

theorem bestAt_lt (c : List Frac) : ∀ m, 0 < m → bestAt c m < m := by
  intro m
  induction m with
  | zero => intro h; omega
  | succ m ih =>
    intro _
    rw [bestAt]
    split
    · omega
    · by_cases h : m = 0
      · subst h; exact Nat.one_pos
      · have := ih (by omega); omega

theorem cut_low {total : Int} {f : Frac} (h : frOk f) : lowF (cutN total f) f.den = (cutQ total f, 0) := by
  have h1 : 0 < f.den := by have := h.2.2.1; omega
  have h2 : 0 ≤ cutN total f := Int.emod_nonneg _ (by omega)
  have h3 : cutN total f < f.den := Int.emod_lt_of_pos _ h1
  have h4 := h.2.2.2
  unfold lowF
  rw [if_pos (normOk_small h2 (by omega) h1 h4)]; rfl

end Go.Proofs.YtmeomhojbobpbaaGreatDoor

/-
  Walks: the comparisons of lists.
-/
namespace Go.Proofs.YtmeomhojbobpbaaGreatDoor
open Go.RowKit Lg Go.Sort Go.Shelf

theorem below_drewN' {n : Nat} {a w : World} (h : RowKit.Below n a w) (q : Nat) : RowKit.Below n a (w.drewN q) := ⟨h.os, h.tape, h.output, h.size, h.block⟩

end Go.Proofs.YtmeomhojbobpbaaGreatDoor
