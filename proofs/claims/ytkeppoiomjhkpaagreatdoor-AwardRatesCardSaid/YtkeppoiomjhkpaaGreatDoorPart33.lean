import Derived.Test.YtkeppoiomjhkpaaGreatDoorPart30
import Derived.Test.YtkeppoiomjhkpaaGreatDoorPart31
import Derived.Test.YtkeppoiomjhkpaaGreatDoorPart32
import Derived.Test.YtkeppoiomjhkpaaGreatDoorPart12
import Derived.Test.YtkeppoiomjhkpaaGreatDoorPart18
import Derived.StillTailTactics
import Derived.Deep.RegionHeld3
import Derived.BigRegion
import Derived.Deep.DeepCutAuto
/-
  Walks: the chapter's examples.
-/
namespace Go.Proofs.YtkeppoiomjhkpaaGreatDoor
open Go.RowKit Lg Go.Sort Go.Shelf Go.Maps

theorem Lst.of_blk {α : Type} {w : World} {B : Nat} {k : Nat} {enc : α → List Value} {t : TypeId} {xs : List α} (hk : ∀ x, (enc x).length = k) (h : Blk w B (xs.flatMap enc).toArray t) (hm : xs.length ≤ 1000) :
    Lst w k enc (some ⟨B, 0, none⟩) xs.length xs.length xs :=
  ⟨rfl, Nat.le_refl _, by unfold maxLen; omega, fun i x hx => ⟨B, 0, rfl, h.lt, fun j v hv => by
    rw [h.cell, Nat.zero_add]
    have := flat_put enc k hk xs i j x v hx hv
    simpa using this⟩⟩

set_option maxRecDepth 100000 in
theorem table_any (w : World) : Calls Tryz.prog 30 #[] w fun e w' => e = .returned (.slice (some ⟨w.heap.size, 0, none⟩) 4 4) ∧ w.alloc (.cells (tableR.flatMap cR).toArray 43) = w' := by
  go_enter Tryz.func30, Tryz.ntmps30
  go_wp2
  go_ret
  exact ⟨rfl, rfl⟩

set_option maxRecDepth 100000 in
theorem soldT_any (w : World) : Calls Tryz.prog 31 #[] w fun e w' => e = .returned (.slice (some ⟨w.heap.size, 0, none⟩) 2 2) ∧ w.alloc (.cells (tableS.flatMap cS).toArray 24) = w' := by
  go_enter Tryz.func31, Tryz.ntmps31
  go_wp2
  go_ret
  exact ⟨rfl, rfl⟩

/-- The third rate of the table, cell by cell. -/
def Row3 (W : World) (b : Nat) : Prop :=
  W.cell? ⟨b, 18, none⟩ = some (.int .i64 3) ∧ W.cell? ⟨b, 19, none⟩ = some (.int .i64 50) ∧ W.cell? ⟨b, 20, none⟩ = some (.int .i64 10) ∧ W.cell? ⟨b, 21, none⟩ = some (.string ⟨#[111, 105, 108]⟩) ∧ W.cell? ⟨b, 22, none⟩ = some (.int .i64 1) ∧
  W.cell? ⟨b, 23, none⟩ = some (.int .i64 2) ∧ W.cell? ⟨b, 24, none⟩ = some (.int .i64 10) ∧ W.cell? ⟨b, 25, none⟩ = some (.int .i64 3) ∧ W.cell? ⟨b, 26, none⟩ = some (.int .i64 0)
theorem row3 {W : World} {b : Nat} {t : TypeId} (h : Blk W b (tableR.flatMap cR).toArray t) : Row3 W b :=
  ⟨h.cell 18, h.cell 19, h.cell 20, h.cell 21, h.cell 22, h.cell 23, h.cell 24, h.cell 25, h.cell 26⟩
def Row1S (W : World) (b : Nat) : Prop :=
  W.cell? ⟨b, 0, none⟩ = some (.int .i64 1) ∧ W.cell? ⟨b, 1, none⟩ = some (.int .i64 60) ∧ W.cell? ⟨b, 2, none⟩ = some (.int .i64 55) ∧ W.cell? ⟨b, 3, none⟩ = some (.int .i64 10) ∧ W.cell? ⟨b, 4, none⟩ = some (.int .i64 100) ∧
  W.cell? ⟨b, 5, none⟩ = some (.int .i64 7) ∧ W.cell? ⟨b, 6, none⟩ = some (.int .i64 8) ∧ W.cell? ⟨b, 7, none⟩ = some (.int .i64 30) ∧ W.cell? ⟨b, 8, none⟩ = some (.int .i64 0)
theorem row1S {W : World} {b : Nat} {t : TypeId} (h : Blk W b (tableS.flatMap cS).toArray t) : Row1S W b :=
  ⟨h.cell 0, h.cell 1, h.cell 2, h.cell 3, h.cell 4, h.cell 5, h.cell 6, h.cell 7, h.cell 8⟩

abbrev ysA : List Share := [⟨4, 33⟩, ⟨5, 17⟩, ⟨7, 10⟩, ⟨8, 3⟩]
/-- An award in a box of its own. -/
def AwBox (W : World) (b n0 : Nat) (price cart store find rest : Int) (ys : List Share) : Prop :=
  ∃ v, Blk W b #[.int .i64 price, .int .i64 cart, .int .i64 store, .int .i64 find, .int .i64 rest, v] 61 ∧ W.ownsRow n0 76 2 v ys.length (ys.flatMap cSh)
theorem AwBox.below {W W' : World} {b n0 : Nat} {c0 c1 c2 c3 c4 : Int} {ys : List Share} (h : AwBox W b n0 c0 c1 c2 c3 c4 ys) (hb : RowKit.Below W.heap.size W W') : AwBox W' b n0 c0 c1 c2 c3 c4 ys := by
  obtain ⟨v, h1, h2⟩ := h
  exact ⟨v, h1.below' hb, own_below h2 hb⟩

theorem AwBox.set {W : World} {b base n0 : Nat} {c0 c1 c2 c3 c4 : Int} {a : Option Addr} {m cap : Nat} {ys : List Share} (k : Blk W b #[.int .i64 0, .int .i64 0, .int .i64 0, .int .i64 0, .int .i64 0, .slice none 0 0] 61) (ho : W.ownsRow base 76 2 (.slice a m cap) m (ys.flatMap cSh)) (hm : ys.length = m) (hb : b < base) (hn : n0 ≤ base) :
    AwBox ((((((W.setCell ⟨b, 0, none⟩ (.int .i64 c0)).setCell ⟨b, 1, none⟩ (.int .i64 c1)).setCell ⟨b, 2, none⟩ (.int .i64 c2)).setCell ⟨b, 3, none⟩ (.int .i64 c3)).setCell ⟨b, 4, none⟩ (.int .i64 c4)).setCell ⟨b, 5, none⟩ (.slice a m cap)) b n0 c0 c1 c2 c3 c4 ys := by
  subst hm
  refine ⟨.slice a ys.length cap, ?_, ownsRow_base_a (own_set (own_set (own_set (own_set (own_set (own_set ho hb 0 _) hb 1 _) hb 2 _) hb 3 _) hb 4 _) hb 5 _) hn⟩
  exact (((((k.setCell 0 (.int .i64 c0)).setCell 1 (.int .i64 c1)).setCell 2 (.int .i64 c2)).setCell 3 (.int .i64 c3)).setCell 4 (.int .i64 c4)).setCell 5 (.slice a ys.length cap)
theorem AwBox.new {W : World} {base n0 : Nat} {c0 c1 c2 c3 c4 : Int} {a : Option Addr} {m cap : Nat} {ys : List Share} (ho : W.ownsRow base 76 2 (.slice a m cap) m (ys.flatMap cSh)) (hm : ys.length = m) (hn : n0 ≤ base) :
    AwBox (W.alloc (.cells #[.int .i64 c0, .int .i64 c1, .int .i64 c2, .int .i64 c3, .int .i64 c4, .slice a m cap] 61)) W.heap.size n0 c0 c1 c2 c3 c4 ys := by
  subst hm
  exact ⟨_, Blk.new _ _ _, ownsRow_base_a (ho.alloc _) hn⟩

theorem rows_keep {w6 W : World} {bR bS : Nat} {t u : TypeId} (kR : Blk w6 bR (tableR.flatMap cR).toArray t) (kS : Blk w6 bS (tableS.flatMap cS).toArray u) (h : RowKit.Below w6.heap.size w6 W) : Row3 W bR ∧ Row1S W bS :=
  ⟨row3 (kR.below' h), row1S (kS.below' h)⟩

set_option maxRecDepth 100000 in
set_option maxHeartbeats 6400000 in
theorem paid_any (w : World) : Calls Tryz.prog 6 #[] w (Gives w (.bool true)) := by
  go_enter Tryz.func6, Tryz.ntmps6
  go_wp2_with (fail)
  refine (table_any _).mono ?_
  rintro e w1 ⟨rfl, hw1⟩
  have kR1 : Blk w1 w.heap.size (tableR.flatMap cR).toArray 43 := hw1 ▸ Blk.new _ _ _
  have hb1 : RowKit.Below w.heap.size w w1 := hw1 ▸ (Below.refl _ w).alloc (Nat.le_refl _) _
  clear hw1
  go_wp2_with (fail)
  refine (soldT_any _).mono ?_
  rintro e w2 ⟨rfl, hw2⟩
  have kS2 : Blk w2 w1.heap.size (tableS.flatMap cS).toArray 24 := hw2 ▸ Blk.new _ _ _
  have hb12 : RowKit.Below w1.heap.size w1 w2 := hw2 ▸ (Below.refl _ w1).alloc (Nat.le_refl _) _
  have kR2 := kR1.below' hb12
  have hb2 := hb1.trans (hb12.mono hb1.size)
  clear hw2 kR1 hb12 hb1
  obtain ⟨bR, hbR⟩ : ∃ bR, bR = w.heap.size := ⟨_, rfl⟩
  obtain ⟨bS, hbS⟩ : ∃ bS, bS = w1.heap.size := ⟨_, rfl⟩
  rw [← hbR] at kR2 ⊢
  rw [← hbS] at kS2 ⊢
  clear hbR hbS
  have hR : ∀ W, RowKit.Below w2.heap.size w2 W → Lst W 9 cR (some ⟨bR, 0, none⟩) 4 4 tableR := fun W h => Lst.of_blk (k := 9) (enc := cR) (xs := tableR) (fun _ => rfl) (kR2.below' h) (by decide)
  have hS : ∀ W, RowKit.Below w2.heap.size w2 W → Lst W 9 cS (some ⟨bS, 0, none⟩) 2 2 tableS := fun W h => Lst.of_blk (k := 9) (enc := cS) (xs := tableS) (fun _ => rfl) (kS2.below' h) (by decide)
  have h1 := rateOf_any (some ⟨bR, 0, none⟩) 4 4 tableR oil 12 50 w2 (hR _ (Below.refl _ _))
  rw [ex_rate1] at h1
  go_wp2_with (fail)
  refine h1.mono ?_
  clear h1
  rintro e w3 ⟨rfl, hB3⟩
  have hb3 := hB3
  have h2 : ∀ W, RowKit.Below w2.heap.size w2 W → Calls Tryz.prog 32 #[.slice (some ⟨bR, 0, none⟩) 4 4, .string oil, .int .i64 12, .int .i64 90] W (Gives W (.tuple #[aR rt2, .int .i64 0])) := fun W h => by
    have := rateOf_any (some ⟨bR, 0, none⟩) 4 4 tableR oil 12 90 W (hR _ h)
    rwa [ex_rate2] at this
  have kX3 : Blk (w3.alloc (.cells (cR rt3).toArray 43)) w3.heap.size (cR rt3).toArray 43 := Blk.new _ _ _
  have hb3' : RowKit.Below w2.heap.size w2 (w3.alloc (.cells (cR rt3).toArray 43)) := hB3.alloc hB3.size _
  go_wp2_with (fail)
  refine (h2 _ hb3').mono ?_
  clear h2
  rintro e w4 ⟨rfl, hB4⟩
  have kX4 := kX3.below' hB4
  have hb4 : RowKit.Below w2.heap.size w2 w4 := hb3'.trans (hB4.mono hb3'.size)
  clear kX3 hb3' hB4 hB3 hb3
  obtain ⟨bX, hbX⟩ : ∃ bX, bX = w3.heap.size := ⟨_, rfl⟩
  rw [← hbX] at kX4 ⊢
  clear hbX
  obtain ⟨w5, hw5⟩ : ∃ w5, w5 = w4.alloc (.cells (cR rt2).toArray 43) := ⟨_, rfl⟩
  have kY5 : Blk w5 w4.heap.size (cR rt2).toArray 43 := hw5 ▸ Blk.new _ _ _
  have kX5 : Blk w5 bX (cR rt3).toArray 43 := hw5 ▸ kX4.alloc _
  have hb5 : RowKit.Below w2.heap.size w2 w5 := hw5 ▸ hb4.alloc hb4.size _
  have kR5 := kR2.below' hb5
  have h3 : ∀ W, RowKit.Below w2.heap.size w2 W → Calls Tryz.prog 33 #[.slice (some ⟨bR, 0, none⟩) 2 2, aR rt3, .string oil] W (Gives W (.tuple #[.int .i64 10, .int .i64 1000000, .bool true, .int .i64 0])) := fun W h => by
    have hl : Lst W 9 cR (some ⟨bR, 0, none⟩) 2 2 [rt1, rt2] := (hR W h).take 2 (by omega)
    have := touched_any (some ⟨bR, 0, none⟩) 2 2 [rt1, rt2] rt3 oil W (fun ad e => by cases e; exact ⟨_, _, rfl⟩) hl
    rwa [ex_touched] at this
  have hr5 := row3 kR5
  go_wp2_with (fail)
  rw [← hw5]
  clear hw5
  go_region_held3 (fun w' => w'.cell? ⟨bR, 18, none⟩ = some (.int .i64 3) ∧ w'.cell? ⟨bR, 19, none⟩ = some (.int .i64 50) ∧ w'.cell? ⟨bR, 20, none⟩ = some (.int .i64 10) ∧ w'.cell? ⟨bR, 21, none⟩ = some (.string ⟨#[111, 105, 108]⟩) ∧ w'.cell? ⟨bR, 22, none⟩ = some (.int .i64 1) ∧ w'.cell? ⟨bR, 23, none⟩ = some (.int .i64 2) ∧ w'.cell? ⟨bR, 24, none⟩ = some (.int .i64 10) ∧ w'.cell? ⟨bR, 25, none⟩ = some (.int .i64 3) ∧ w'.cell? ⟨bR, 26, none⟩ = some (.int .i64 0))
    (first
      | exact row3 kR5.drew
      | exact row3 (kR5.drew.below' hB6)
      | fail)
    (first
      | (go_at_call 33; refine (h3 _ hb5.drew).mono ?_; rintro e w6 ⟨rfl, hB6⟩)
      | fail)
  rename_i hSx
  clear hSx hr5 h3
  have hb6 : RowKit.Below w2.heap.size w2 w6 := hb5.drew.trans (hB6.mono hb5.size)
  have kX6 := kX5.drew.below' hB6
  have kY6 := kY5.drew.below' hB6
  have kR6 := kR5.drew.below' hB6
  have kS6 := kS2.below' hb6
  obtain ⟨bY, hbY⟩ : ∃ bY, bY = w4.heap.size := ⟨_, rfl⟩
  rw [← hbY] at kY6 ⊢
  clear hbY kX5 kY5 kR5 hb5 hB6 kX4 hb4
  have h4 : ∀ P W, RowKit.Below w6.heap.size w6 W → Blk W P #[.int .i64 4, .int .i64 5, .int .i64 4] 3 → Calls Tryz.prog 34 #[aR rt3, aS sl1, .slice (some ⟨P, 0, none⟩) 3 3] W fun e w' =>
      ∃ av cv, e = .returned (.tuple #[.agg #[.int .i64 100, .int .i64 10, .int .i64 3, .int .i64 50, .int .i64 37, .slice av 4 cv], .int .i64 0]) ∧ w'.ownsRow W.heap.size 76 2 (.slice av 4 cv) 4 (ysA.flatMap cSh) ∧ RowKit.Below W.heap.size W w' ∧ RowKit.Below w6.heap.size w6 w' := fun P W hW hk => by
    have hl : Lst W 1 cI (some ⟨P, 0, none⟩) 3 3 [4, 5, 4] := Lst.of_blk (k := 1) (enc := cI) (xs := [4, 5, 4]) (fun _ => rfl) hk (by decide)
    refine (awarded_any rt3 sl1 (some ⟨P, 0, none⟩) 3 3 [4, 5, 4] W hl).mono ?_
    rintro e w' ⟨hb, h⟩
    rw [if_pos ex_aw_ok] at h
    obtain ⟨v, ys, rfl, hl, ho⟩ := h
    obtain rfl := listOf_unique hl ex_aw_list
    obtain ⟨e1, e2, e3, e4⟩ := ex_aw
    rw [e1, e2, e3, e4]
    obtain ⟨av, cv, rfl, _, _⟩ := Lst.of_owns (k := 2) (enc := cSh) (xs := ysA) (n := 4) (fun _ => rfl) (by omega) ho rfl
    exact ⟨av, cv, rfl, ho, hb, hW.trans (hb.mono hW.size)⟩
  go_upto_region 6 with fail
  go_cut [11, 12] (fun c11 c12 W => ∃ bA, c11 = .pointer (some ⟨bA, 0, none⟩) ∧ c12 = .int .i64 0 ∧ AwBox W bA w6.heap.size 100 10 3 50 37 ysA ∧ RowKit.Below w6.heap.size w6 W)
  case first =>
    have hk0 := rows_keep kR6 kS6 (Below.refl _ _)
    go_region_held3 (fun w' => (w'.cell? ⟨bR, 18, none⟩ = some (.int .i64 3) ∧ w'.cell? ⟨bR, 19, none⟩ = some (.int .i64 50) ∧ w'.cell? ⟨bR, 20, none⟩ = some (.int .i64 10) ∧ w'.cell? ⟨bR, 21, none⟩ = some (.string ⟨#[111, 105, 108]⟩) ∧ w'.cell? ⟨bR, 22, none⟩ = some (.int .i64 1) ∧ w'.cell? ⟨bR, 23, none⟩ = some (.int .i64 2) ∧ w'.cell? ⟨bR, 24, none⟩ = some (.int .i64 10) ∧ w'.cell? ⟨bR, 25, none⟩ = some (.int .i64 3) ∧ w'.cell? ⟨bR, 26, none⟩ = some (.int .i64 0)) ∧
        (w'.cell? ⟨bS, 0, none⟩ = some (.int .i64 1) ∧ w'.cell? ⟨bS, 1, none⟩ = some (.int .i64 60) ∧ w'.cell? ⟨bS, 2, none⟩ = some (.int .i64 55) ∧ w'.cell? ⟨bS, 3, none⟩ = some (.int .i64 10) ∧ w'.cell? ⟨bS, 4, none⟩ = some (.int .i64 100) ∧ w'.cell? ⟨bS, 5, none⟩ = some (.int .i64 7) ∧ w'.cell? ⟨bS, 6, none⟩ = some (.int .i64 8) ∧ w'.cell? ⟨bS, 7, none⟩ = some (.int .i64 30) ∧ w'.cell? ⟨bS, 8, none⟩ = some (.int .i64 0)))
      (exact rows_keep kR6 kS6 (by repeat (first | (with_reducible assumption) | (with_reducible exact Below.refl _ _) | (with_reducible refine Below.alloc ?_ ?_ _) | (with_reducible refine Below.setCell ?_ ?_ _) | (with_reducible refine Below.drew ?_) | omega | (simp <;> omega) | (dsimp only; omega))))
      (first
        | (go_at_call 34; refine (h4 _ _ (by repeat (first | (with_reducible assumption) | (with_reducible exact Below.refl _ _) | (with_reducible refine Below.alloc ?_ ?_ _) | (with_reducible refine Below.setCell ?_ ?_ _) | (with_reducible refine Below.drew ?_) | omega | (simp <;> omega) | (dsimp only; omega))) (by first | exact (Blk.new w6 3 #[.int .i64 4, .int .i64 5, .int .i64 4]).drew | (have hq := Blk.new (w6.alloc (.cells #[.int .i64 0, .int .i64 0, .int .i64 0, .int .i64 0, .int .i64 0, .slice none 0 0] 61)) 3 #[.int .i64 4, .int .i64 5, .int .i64 4]; simp only [World.size_alloc] at hq; exact hq.drew) | exact ((Blk.new w6 3 #[.int .i64 4, .int .i64 5, .int .i64 4]).alloc _).drew)).mono ?_; rintro e w7 ⟨av, cv, rfl, ho7, hB7, hb7⟩; have hs7 := hb7.size; (first | (have kA := (Blk.drew (Blk.new (w6.alloc _) 61 #[.int .i64 0, .int .i64 0, .int .i64 0, .int .i64 0, .int .i64 0, .slice none 0 0])).below' hB7; (try simp only [World.size_alloc] at kA); have kAc := kA.cell; have kAf := kA.frozen; have kAl := kA.lt) | (have kA := (Blk.drew ((Blk.new w6 61 #[.int .i64 0, .int .i64 0, .int .i64 0, .int .i64 0, .int .i64 0, .slice none 0 0]).alloc _)).below' hB7; have kAc := kA.cell; have kAf := kA.frozen; have kAl := kA.lt) | skip))
        | fail)
    · rename_i hSx
      clear hSx
      go_wp2_with fail
      go_meet
      exact ⟨_, rfl, rfl, AwBox.new ho7 rfl (by simp), hb7.alloc hs7 _⟩
    · rename_i hSx
      clear hSx
      go_wp2_with fail
      go_meet
      exact ⟨_, rfl, rfl, AwBox.set kA ho7 rfl (by simp <;> omega) (by simp <;> omega), by repeat (first | (with_reducible assumption) | (with_reducible exact Below.refl _ _) | (with_reducible refine Below.alloc ?_ ?_ _) | (with_reducible refine Below.setCell ?_ ?_ _) | (with_reducible refine Below.drew ?_) | omega | (simp <;> omega) | (dsimp only; omega))⟩
    · rename_i hSx
      clear hSx
      go_wp2_with fail
      go_meet
      exact ⟨_, rfl, rfl, AwBox.set kA ho7 rfl (by simp <;> omega) (by simp <;> omega), by repeat (first | (with_reducible assumption) | (with_reducible exact Below.refl _ _) | (with_reducible refine Below.alloc ?_ ?_ _) | (with_reducible refine Below.setCell ?_ ?_ _) | (with_reducible refine Below.drew ?_) | omega | (simp <;> omega) | (dsimp only; omega))⟩
  case rest =>
    obtain ⟨bA, rfl, rfl, kA, hbA⟩ := hcut
    have hbc : RowKit.Below w2.heap.size w2 wc := hb6.trans (hbA.mono hb6.size)
    have kXc := kX6.below' hbA
    have kYc := kY6.below' hbA
    clear kX6 kY6 kR6 kS6 h4
    have h7 : ∀ P W, RowKit.Below w2.heap.size w2 W → Blk W P #[.int .i64 4] 3 → Calls Tryz.prog 35 #[.slice (some ⟨bR, 0, none⟩) 4 4, .slice (some ⟨bS, 0, none⟩) 2 2, .int .i64 10, .string oil, .int .i64 5, .int .i64 60, .slice (some ⟨P, 0, none⟩) 1 1] W fun e w' =>
        ∃ (c0 c1 c2 : Int) (av : Option Addr) (m cv : Nat) (ys : List Share), e = .returned (.tuple #[.agg #[.int .i64 c0, .int .i64 c1, .int .i64 c2, .int .i64 33, .int .i64 54, .slice av m cv], .int .i64 0]) ∧ w'.ownsRow W.heap.size 76 2 (.slice av m cv) m (ys.flatMap cSh) ∧ ys.length = m ∧ RowKit.Below W.heap.size W w' := fun P W hW hk => by
      have hl : Lst W 1 cI (some ⟨P, 0, none⟩) 1 1 [4] := Lst.of_blk (k := 1) (enc := cI) (xs := [4]) (fun _ => rfl) hk (by decide)
      refine (awardOf_any (some ⟨bR, 0, none⟩) 4 4 tableR (some ⟨bS, 0, none⟩) 2 2 tableS 10 oil 5 60 (some ⟨P, 0, none⟩) 1 1 [4] W (hR W hW) (hS W hW) hl).mono ?_
      rintro e w' ⟨hb, h⟩
      rw [ex_pick] at h
      dsimp only at h
      rw [if_pos rfl, if_pos ex_pick_ok] at h
      obtain ⟨v, ys, rfl, hl, ho⟩ := h
      obtain ⟨e1, e2⟩ := ex_pick_aw
      rw [e1, e2]
      obtain ⟨av, cv, rfl, _, _⟩ := Lst.of_owns (k := 2) (enc := cSh) (xs := ys) (n := ys.length) (fun _ => rfl) (by omega) ho rfl
      exact ⟨_, _, _, av, _, cv, ys, rfl, ho, rfl, hb⟩
    go_wp2_with (fail)
    refine (h7 wc.heap.size _ (hbc.alloc hbc.size _) (Blk.new _ _ _)).mono ?_
    clear h7
    rintro e w8 ⟨c0, c1, c2, av8, m8, cv8, ys8, rfl, ho8, hm8, hB8⟩
    have hBc8 : RowKit.Below wc.heap.size wc w8 := ((Below.refl _ wc).alloc (Nat.le_refl _) _).trans (hB8.mono (by simp))
    have kX8 := kXc.below' hBc8
    have kY8 := kYc.below' hBc8
    have kA8 := kA.below hBc8
    have hb8 := hbc.trans (hBc8.mono hbc.size)
    have kB8 := AwBox.new (W := w8) (n0 := 0) (c0 := c0) (c1 := c1) (c2 := c2) (c3 := 33) (c4 := 54) ho8 hm8 (Nat.zero_le _)
    have Hm8 := Lib.hid hm8
    clear kXc kYc kA hBc8 hB8 ho8 hm8 hbA hb6
    obtain ⟨w9, hw9⟩ : ∃ w9, w9 = w8.alloc (.cells #[.int .i64 c0, .int .i64 c1, .int .i64 c2, .int .i64 33, .int .i64 54, .slice av8 m8 cv8] 61) := ⟨_, rfl⟩
    have hB89 : RowKit.Below w8.heap.size w8 w9 := hw9 ▸ (Below.refl _ w8).alloc (Nat.le_refl _) _
    have kX9 := kX8.below' hB89
    have kY9 := kY8.below' hB89
    have kA9 := kA8.below hB89
    have hb9 := hb8.trans (hB89.mono hb8.size)
    rw [← hw9] at kB8
    have h8 : ∀ P W, Blk W P (ttl.flatMap cT).toArray 69 → Calls Tryz.prog 36 #[.int .i64 37, .slice (some ⟨P, 0, none⟩) 2 2] W fun e w' =>
        ∃ av cv, e = .returned (.tuple #[.slice av 2 cv, .int .i64 7, .int .i64 0]) ∧ Lst w' 2 cSh av 2 cv [⟨0, 18⟩, ⟨3, 12⟩] ∧ RowKit.Below W.heap.size W w' := fun P W hk => by
      have hl : Lst W 3 cT (some ⟨P, 0, none⟩) 2 2 ttl := Lst.of_blk (k := 3) (enc := cT) (xs := ttl) (fun _ => rfl) hk (by decide)
      refine (divide_any 37 (some ⟨P, 0, none⟩) 2 2 ttl W (by omega) hl).mono ?_
      rintro e w' ⟨v, rfl, ho, hb⟩
      rw [ex_divide] at ho ⊢
      obtain ⟨av, cv, rfl, _, hl⟩ := Lst.of_owns (k := 2) (enc := cSh) (xs := [⟨0, 18⟩, ⟨3, 12⟩]) (n := 2) (fun _ => rfl) (by omega) ho rfl
      exact ⟨av, cv, rfl, hl, hb⟩
    have hz9 : w9.heap.size = w8.heap.size + 1 := by rw [hw9]; simp
    have kT : Blk (w9.alloc (.cells (ttl.flatMap cT).toArray 69)) (w8.heap.size + 1) (ttl.flatMap cT).toArray 69 := by rw [← hz9]; exact Blk.new _ _ _
    have hb9' : RowKit.Below w9.heap.size w9 (w9.alloc (.cells (ttl.flatMap cT).toArray 69)) := (Below.refl _ w9).alloc (Nat.le_refl _) _
    have h8' := h8 (w8.heap.size + 1) _ kT
    rw [hw9] at h8'
    have Hw9 := Lib.hid hw9
    have Hz9 := Lib.hid hz9
    clear hw9 hz9 h8 kT kX8 kY8 kA8 hB89 hb8
    go_wp2_with (fail)
    refine h8'.mono ?_
    clear h8'
    rintro e w10 ⟨av10, cv10, rfl, hl10, hB10⟩
    rw [← Hw9.out] at hB10
    have hB910 : RowKit.Below w9.heap.size w9 w10 := hb9'.trans (hB10.mono hb9'.size)
    have kX10 := kX9.below' hB910
    have kY10 := kY9.below' hB910
    have kA10 := kA9.below hB910
    have kB10 := kB8.below hB910
    have hb10 := hb9.trans (hB910.mono hb9.size)
    obtain ⟨bB, hbB⟩ : ∃ bB, bB = w8.heap.size := ⟨_, rfl⟩
    rw [← hbB] at kB10 ⊢
    clear hbB hB910 hB10 hb9' kX9 kY9 kA9 kB8 hb9 Hw9 Hz9
    have h9 : ∀ P W, Blk W P #[.int .i64 4, .int .i64 5, .int .i64 4] 3 → Calls Tryz.prog 37 #[.int .i64 8, .slice (some ⟨P, 0, none⟩) 3 3] W fun e w' =>
        ∃ av cv, e = .returned (.tuple #[.slice av 3 cv, .int .i64 0]) ∧ Lst w' 1 cI av 3 cv [3, 3, 2] ∧ RowKit.Below W.heap.size W w' := fun P W hk => by
      have hl : Lst W 1 cI (some ⟨P, 0, none⟩) 3 3 [4, 5, 4] := Lst.of_blk (k := 1) (enc := cI) (xs := [4, 5, 4]) (fun _ => rfl) hk (by decide)
      refine (equal_any 8 (some ⟨P, 0, none⟩) 3 3 [4, 5, 4] W hl).mono ?_
      rintro e w' ⟨v, rfl, ho, hb⟩
      rw [ex_equal] at ho ⊢
      obtain ⟨av, cv, rfl, _, hl⟩ := Lst.of_owns (k := 1) (enc := cI) (xs := [3, 3, 2]) (n := 3) (fun _ => rfl) (by omega) ho rfl
      exact ⟨av, cv, rfl, hl, hb⟩
    go_wp2_with (fail)
    refine (h9 w10.heap.size _ (Blk.new _ _ _)).mono ?_
    clear h9
    rintro e w11 ⟨av11, cv11, rfl, hl11, hB11⟩
    have hB1011 : RowKit.Below w10.heap.size w10 w11 := ((Below.refl _ w10).alloc (Nat.le_refl _) _).trans (hB11.mono (by simp))
    have kX11 := kX10.below' hB1011
    have kY11 := kY10.below' hB1011
    have kA11 := kA10.below hB1011
    have kB11 := kB10.below hB1011
    have hb11 := hb10.trans (hB1011.mono hb10.size)
    have hl1011 := hl10.below hB1011
    clear hB11 hB1011 kX10 kY10 kA10 kB10 hb10 hl10
    obtain ⟨wc2, hwc2⟩ : ∃ wc2, wc2 = (w11.alloc (.cells #[.int .i64 4, .int .i64 33, .int .i64 7, .int .i64 10] 76)).alloc (.cells #[.int .i64 4, .int .i64 50, .int .i64 8, .int .i64 3] 76) := ⟨_, rfl⟩
    have kP : Blk wc2 w11.heap.size #[.int .i64 4, .int .i64 33, .int .i64 7, .int .i64 10] 76 := hwc2 ▸ (Blk.new _ _ _).alloc _
    have kQ : Blk wc2 (w11.heap.size + 1) #[.int .i64 4, .int .i64 50, .int .i64 8, .int .i64 3] 76 := by
      have := Blk.new (w11.alloc (.cells #[.int .i64 4, .int .i64 33, .int .i64 7, .int .i64 10] 76)) 76 #[.int .i64 4, .int .i64 50, .int .i64 8, .int .i64 3]
      rw [hwc2]; simpa using this
    have hBw : RowKit.Below w11.heap.size w11 wc2 := hwc2 ▸ ((Below.refl _ w11).alloc (Nat.le_refl _) _).alloc (by simp) _
    have h10 : Calls Tryz.prog 38 #[.slice (some ⟨w11.heap.size, 0, none⟩) 2 2, .slice (some ⟨w11.heap.size + 1, 0, none⟩) 2 2] wc2 fun e w' =>
        ∃ av cv, e = .returned (.tuple #[.slice av 3 cv, .int .i64 0]) ∧ Lst w' 2 cSh av 3 cv [⟨4, 17⟩, ⟨7, -10⟩, ⟨8, 3⟩] ∧ RowKit.Below wc2.heap.size wc2 w' := by
      have hl : Lst wc2 2 cSh (some ⟨w11.heap.size, 0, none⟩) 2 2 [⟨4, 33⟩, ⟨7, 10⟩] := Lst.of_blk (k := 2) (enc := cSh) (xs := [⟨4, 33⟩, ⟨7, 10⟩]) (fun _ => rfl) kP (by decide)
      have hm : Lst wc2 2 cSh (some ⟨w11.heap.size + 1, 0, none⟩) 2 2 [⟨4, 50⟩, ⟨8, 3⟩] := Lst.of_blk (k := 2) (enc := cSh) (xs := [⟨4, 50⟩, ⟨8, 3⟩]) (fun _ => rfl) kQ (by decide)
      refine (change_any _ 2 2 _ _ 2 2 _ wc2 hl hm).mono ?_
      rintro e w' ⟨hb, h⟩
      rw [if_pos ex_change_ok] at h
      obtain ⟨v, ys, rfl, hl, ho⟩ := h
      obtain rfl := listOf_unique hl ex_change
      obtain ⟨av, cv, rfl, _, hl⟩ := Lst.of_owns (k := 2) (enc := cSh) (xs := [⟨4, 17⟩, ⟨7, -10⟩, ⟨8, 3⟩]) (n := 3) (fun _ => rfl) (by omega) ho rfl
      exact ⟨av, cv, rfl, hl, hb⟩
    rw [hwc2] at h10
    have Hwc2 := Lib.hid hwc2; clear hwc2
    go_wp2_with (fail)
    refine h10.mono ?_
    clear h10
    rintro e w12 ⟨av12, cv12, rfl, hl12, hB12⟩
    rw [← Hwc2.out] at hB12
    have hB1112 : RowKit.Below w11.heap.size w11 w12 := hBw.trans (hB12.mono hBw.size)
    have kX12 := kX11.below' hB1112
    have kY12 := kY11.below' hB1112
    have kA12 := kA11.below hB1112
    have kB12 := kB11.below hB1112
    have hb12 := hb11.trans (hB1112.mono hb11.size)
    have hl1012 := hl1011.below hB1112
    have hl1112 := hl11.below hB1112
    clear hB12 hB1112 kX11 kY11 kA11 kB11 hb11 hl1011 hl11 hBw kP kQ Hwc2
    have h11 : ∀ W, RowKit.Below w2.heap.size w2 W → Calls Tryz.prog 40 #[.slice (some ⟨bR, 0, none⟩) 4 4, .string oil, .int .i64 50] W fun e w' =>
        ∃ av cv, e = .returned (.slice av 2 cv) ∧ Lst w' 1 cI av 2 cv [0, 10] ∧ RowKit.Below W.heap.size W w' := fun W hW => by
      refine (turns_any (some ⟨bR, 0, none⟩) 4 4 tableR oil 50 W (hR W hW)).mono ?_
      rintro e w' ⟨v, rfl, ho, hb⟩
      rw [ex_turns] at ho
      obtain ⟨av, cv, rfl, _, hl⟩ := Lst.of_owns (k := 1) (enc := cI) (xs := [0, 10]) (n := 2) (fun _ => rfl) (by omega) ho rfl
      exact ⟨av, cv, rfl, hl, hb⟩
    have cX := kX12.cell 0
    have cY := kY12.cell 0
    have h11' := h11 w12 hb12
    clear h11
    go_wp2_with (fail)
    refine h11'.mono ?_
    clear h11' cX cY
    rintro e w13 ⟨av13, cv13, rfl, hl13, hB13⟩
    have kA13 := kA12.below hB13
    have kB13 := kB12.below hB13
    have hb13 := hb12.trans (hB13.mono hb12.size)
    have hl1013 := hl1012.below hB13
    have hl1113 := hl1112.below hB13
    have hl1213 := hl12.below hB13
    clear kX12 kY12 kA12 kB12 hl1012 hl1112 hl12 hb12 hB13
    have h12 : Calls Tryz.prog 39 #[.slice av13 2 cv13, .slice (some ⟨w13.heap.size, 0, none⟩) 2 2] (w13.alloc (.cells #[.int .i64 0, .int .i64 10] 3)) (Gives (w13.alloc (.cells #[.int .i64 0, .int .i64 10] 3)) (.bool true)) :=
      sameInts_any av13 2 cv13 [0, 10] (some ⟨w13.heap.size, 0, none⟩) 2 2 [0, 10] _ (hl13.below ((Below.refl _ w13).alloc (Nat.le_refl _) _)) (Lst.of_blk (k := 1) (enc := cI) (xs := [0, 10]) (fun _ => rfl) (Blk.new _ _ _) (by decide))
    go_wp2_with (fail)
    refine h12.mono ?_
    clear h12
    rintro e w14 ⟨rfl, hB14⟩
    have hB1314 : RowKit.Below w13.heap.size w13 w14 := ((Below.refl _ w13).alloc (Nat.le_refl _) _).trans (hB14.mono (by simp))
    obtain ⟨vA, kAb, oA⟩ := kA13.below hB1314
    have kB14 := kB13.below hB1314
    have hb14 := hb13.trans (hB1314.mono hb13.size)
    have hl1014 := hl1013.below hB1314
    have hl1114 := hl1113.below hB1314
    have hl1214 := hl1213.below hB1314
    obtain ⟨aA, cpA, rfl, _, hlA⟩ := Lst.of_owns (k := 2) (enc := cSh) (xs := ysA) (n := 4) (fun _ => rfl) (by omega) oA rfl
    clear kA13 kB13 hl1013 hl1113 hl1213 hb13 hB14 hB1314 oA hl13
    have cA := kAb.cell
    obtain ⟨P4, hP4⟩ : ∃ P4 : Array Value, P4 = #[.int .i64 4, .int .i64 33, .int .i64 5, .int .i64 17, .int .i64 7, .int .i64 10, .int .i64 8, .int .i64 3] := ⟨_, rfl⟩
    have h13 : Calls Tryz.prog 41 #[.slice aA 4 cpA, .slice (some ⟨w14.heap.size, 0, none⟩) 4 4] (w14.alloc (.cells #[.int .i64 4, .int .i64 33, .int .i64 5, .int .i64 17, .int .i64 7, .int .i64 10, .int .i64 8, .int .i64 3] 76)) (Gives (w14.alloc (.cells #[.int .i64 4, .int .i64 33, .int .i64 5, .int .i64 17, .int .i64 7, .int .i64 10, .int .i64 8, .int .i64 3] 76)) (.bool true)) :=
      sameShares_any aA 4 _ ysA (some ⟨w14.heap.size, 0, none⟩) 4 4 ysA _ (hlA.below ((Below.refl _ w14).alloc (Nat.le_refl _) _)) (Lst.of_blk (k := 2) (enc := cSh) (xs := ysA) (fun _ => rfl) (Blk.new _ _ _) (by decide))
    clear hP4 P4
    go_wp2_with (fail)
    refine h13.mono ?_
    clear h13 cA
    rintro e w15 ⟨rfl, hB15⟩
    have hB1415 : RowKit.Below w14.heap.size w14 w15 := ((Below.refl _ w14).alloc (Nat.le_refl _) _).trans (hB15.mono (by simp))
    obtain ⟨vB, kBb, _⟩ := kB14.below hB1415
    have hb15 := hb14.trans (hB1415.mono hb14.size)
    have hl1015 := hl1014.below hB1415
    have hl1115 := hl1114.below hB1415
    have hl1215 := hl1214.below hB1415
    clear kAb kB14 hl1014 hl1114 hl1214 hb14 hB15 hB1415 hlA
    have cB := kBb.cell
    have h14 : Calls Tryz.prog 41 #[.slice av10 2 cv10, .slice (some ⟨w15.heap.size, 0, none⟩) 2 2] (w15.alloc (.cells #[.int .i64 0, .int .i64 18, .int .i64 3, .int .i64 12] 76)) (Gives (w15.alloc (.cells #[.int .i64 0, .int .i64 18, .int .i64 3, .int .i64 12] 76)) (.bool true)) :=
      sameShares_any av10 2 cv10 [⟨0, 18⟩, ⟨3, 12⟩] (some ⟨w15.heap.size, 0, none⟩) 2 2 [⟨0, 18⟩, ⟨3, 12⟩] _ (hl1015.below ((Below.refl _ w15).alloc (Nat.le_refl _) _)) (Lst.of_blk (k := 2) (enc := cSh) (xs := [⟨0, 18⟩, ⟨3, 12⟩]) (fun _ => rfl) (Blk.new _ _ _) (by decide))
    go_wp2_with (fail)
    refine h14.mono ?_
    clear h14 cB kBb
    rintro e w16 ⟨rfl, hB16⟩
    have hB1516 : RowKit.Below w15.heap.size w15 w16 := ((Below.refl _ w15).alloc (Nat.le_refl _) _).trans (hB16.mono (by simp))
    have hb16 := hb15.trans (hB1516.mono hb15.size)
    have hl1116 := hl1115.below hB1516
    have hl1216 := hl1215.below hB1516
    clear hl1015 hl1115 hl1215 hb15 hB16 hB1516
    have h15 : Calls Tryz.prog 39 #[.slice av11 3 cv11, .slice (some ⟨w16.heap.size, 0, none⟩) 3 3] (w16.alloc (.cells #[.int .i64 3, .int .i64 3, .int .i64 2] 3)) (Gives (w16.alloc (.cells #[.int .i64 3, .int .i64 3, .int .i64 2] 3)) (.bool true)) :=
      sameInts_any av11 3 cv11 [3, 3, 2] (some ⟨w16.heap.size, 0, none⟩) 3 3 [3, 3, 2] _ (hl1116.below ((Below.refl _ w16).alloc (Nat.le_refl _) _)) (Lst.of_blk (k := 1) (enc := cI) (xs := [3, 3, 2]) (fun _ => rfl) (Blk.new _ _ _) (by decide))
    go_wp2_with (fail)
    refine h15.mono ?_
    clear h15
    rintro e w17 ⟨rfl, hB17⟩
    have hB1617 : RowKit.Below w16.heap.size w16 w17 := ((Below.refl _ w16).alloc (Nat.le_refl _) _).trans (hB17.mono (by simp))
    have hb17 := hb16.trans (hB1617.mono hb16.size)
    have hl1217 := hl1216.below hB1617
    clear hl1116 hl1216 hb16 hB17 hB1617
    have h16 : Calls Tryz.prog 41 #[.slice av12 3 cv12, .slice (some ⟨w17.heap.size, 0, none⟩) 3 3] (w17.alloc (.cells #[.int .i64 4, .int .i64 17, .int .i64 7, .int .i64 (-10), .int .i64 8, .int .i64 3] 76)) (Gives (w17.alloc (.cells #[.int .i64 4, .int .i64 17, .int .i64 7, .int .i64 (-10), .int .i64 8, .int .i64 3] 76)) (.bool true)) :=
      sameShares_any av12 3 cv12 [⟨4, 17⟩, ⟨7, -10⟩, ⟨8, 3⟩] (some ⟨w17.heap.size, 0, none⟩) 3 3 [⟨4, 17⟩, ⟨7, -10⟩, ⟨8, 3⟩] _ (hl1217.below ((Below.refl _ w17).alloc (Nat.le_refl _) _)) (Lst.of_blk (k := 2) (enc := cSh) (xs := [⟨4, 17⟩, ⟨7, -10⟩, ⟨8, 3⟩]) (fun _ => rfl) (Blk.new _ _ _) (by decide))
    go_wp2_with (fail)
    refine h16.mono ?_
    clear h16
    rintro e w18 ⟨rfl, hB18⟩
    have hb18 := hb17.trans ((((Below.refl _ w17).alloc (Nat.le_refl _) _).trans (hB18.mono (by simp))).mono hb17.size)
    go_wp2_with (fail)
    go_ret
    exact ⟨rfl, hb2.trans (hb18.mono hb2.size)⟩

end Go.Proofs.YtkeppoiomjhkpaaGreatDoor
