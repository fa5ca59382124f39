import Derived.Test.YtkeppoiomjhkpaaGreatDoorPart11
import Derived.Test.YtkeppoiomjhkpaaGreatDoorPart31
import Derived.BigRegion
import Derived.Test.YtkeppoiomjhkpaaGreatDoorPart09
import Derived.Test.YtkeppoiomjhkpaaGreatDoorPart30
import Derived.Test.YtkeppoiomjhkpaaGreatDoorPart06
import Derived.Test.YtkeppoiomjhkpaaGreatDoorPart23
/-
  Walk: an award.
-/
namespace Go.Proofs.YtkeppoiomjhkpaaGreatDoor
open Go.RowKit Lg Go.Sort Go.Shelf

/-- A call hands back an award, in memory of its own, or an error. -/
def GivesA (w : World) (r : Rate) (s : Sale) (fs : List Int) (e : Ending) (w' : World) : Prop :=
  RowKit.Below w.heap.size w w' ∧ if awOk r s fs = true then
    ∃ v ys, e = .returned (.tuple #[.agg #[.int .i64 s.price, .int .i64 (awCart r s), .int .i64 (awStore r s), .int .i64 (awFind r s), .int .i64 (awRest r s), v], .int .i64 0]) ∧
      ListOf (sumP (awRaw r s fs)) ys ∧ w'.ownsRow w.heap.size 76 2 v ys.length (ys.flatMap cSh)
  else e = .returned (.tuple #[.agg #[.int .i64 0, .int .i64 0, .int .i64 0, .int .i64 0, .int .i64 0, .slice none 0 0], .int .i64 1])

theorem indexF (a b c : Value) (w : World) : (Instr.index 113 (.agg #[a, b, c]) (.int .i64 0)).run Tryz.prog w = .ok a w ∧ (Instr.index 113 (.agg #[a, b, c]) (.int .i64 1)).run Tryz.prog w = .ok b w ∧ (Instr.index 113 (.agg #[a, b, c]) (.int .i64 2)).run Tryz.prog w = .ok c w :=
  ⟨by kernel_rfl, by kernel_rfl, by kernel_rfl⟩

abbrev cA0 : List Value := [.int .i64 0, .int .i64 0, .int .i64 0, .int .i64 0, .int .i64 0, .slice none 0 0]
theorem putA0 (w : World) (B : Nat) : ((((((w.setCell ⟨B, 0, none⟩ (.int .i64 0)).setCell ⟨B, 1, none⟩ (.int .i64 0)).setCell ⟨B, 2, none⟩ (.int .i64 0)).setCell ⟨B, 3, none⟩ (.int .i64 0)).setCell ⟨B, 4, none⟩ (.int .i64 0)).setCell ⟨B, 5, none⟩ (.slice none 0 0)) = w.setCells B 0 cA0 := rfl
theorem setAll_A0 : setAll cA0.toArray 0 cA0 = cA0.toArray := by kernel_rfl

theorem awarded_err {w w' : World} {r : Rate} {s : Sale} {fs : List Int} {tm : Array Value} (hA : Blk w' (w.heap.size + 1 + 1) cA0.toArray 61) (hb : RowKit.Below w.heap.size w w') (ho : awOk r s fs = false) (h6 : tm.getD 6 undef = .pointer (some ⟨w.heap.size + 1 + 1, 0, none⟩)) (h7 : tm.getD 7 undef = .int .i64 1) :
    bodyPost Tryz.prog Tryz.f34 (GivesA w r s fs) .ret { tmps := tm, defers := [] } (w'.setCells (w.heap.size + 1 + 1) 0 cA0) := by
  have hbl : Blk (w'.setCells (w.heap.size + 1 + 1) 0 cA0) (w.heap.size + 1 + 1) cA0.toArray 61 := by
    have := hA.setCells 0 cA0
    rw [setAll_A0] at this
    exact this
  refine bodyPost_ret (results_cell_tmp rfl tm _ (w.heap.size + 1 + 1) 61 cA0 _ h6 hbl Tryz.underlying61 rfl (by kernel_rfl)) rfl ?_
  refine ⟨below_setCells hb (by omega) _ _, ?_⟩
  rw [if_neg (by rw [ho]; simp), h7]

theorem putA (w : World) (B : Nat) (a b c d e : Int) (v : Value) : ((((((w.setCell ⟨B, 0, none⟩ (.int .i64 a)).setCell ⟨B, 1, none⟩ (.int .i64 b)).setCell ⟨B, 2, none⟩ (.int .i64 c)).setCell ⟨B, 3, none⟩ (.int .i64 d)).setCell ⟨B, 4, none⟩ (.int .i64 e)).setCell ⟨B, 5, none⟩ v) = w.setCells B 0 [.int .i64 a, .int .i64 b, .int .i64 c, .int .i64 d, .int .i64 e, v] := rfl
theorem setAll_A (a b c d e : Int) (v : Value) : setAll cA0.toArray 0 [.int .i64 a, .int .i64 b, .int .i64 c, .int .i64 d, .int .i64 e, v] = #[.int .i64 a, .int .i64 b, .int .i64 c, .int .i64 d, .int .i64 e, v] := by kernel_rfl

theorem own_setCells {W : World} {base B : Nat} {e : TypeId} {k : Nat} {v : Value} {n : Nat} {xs : List Value} (h : W.ownsRow base e k v n xs) (hB : B < base) (o : Nat) (vs : List Value) : (W.setCells B o vs).ownsRow base e k v n xs := by
  refine World.ownsRow.kept h (grownBy_setCells W B o vs) ?_
  cases hv : v.ownBlock with
  | none => exact .inl rfl
  | some g =>
    have := own_ge h g hv
    exact .inr (by simp; omega)

theorem awarded_fin {w w6 : World} {r : Rate} {s : Sale} {fs : List Int} {tm : Array Value} {B base : Nat} {v : Value} {ys : List Share} {c1 c2 c3 rest : Int} (hA : Blk w6 (w.heap.size + 1 + 1) cA0.toArray 61) (hb : RowKit.Below w.heap.size w w6) (ho : awOk r s fs = true)
    (hBA : w.heap.size + 1 + 1 < B) (hbase : B < base) (h1 : c1 = awCart r s) (h2 : c2 = awStore r s) (h3 : c3 = awFind r s) (h4 : rest = awRest r s) (hl : ListOf (sumP (awRaw r s fs)) ys) (hown : w6.ownsRow base 76 2 v ys.length (ys.flatMap cSh))
    (h6 : tm.getD 6 undef = .pointer (some ⟨w.heap.size + 1 + 1, 0, none⟩)) (h7 : tm.getD 7 undef = .int .i64 0) :
    bodyPost Tryz.prog Tryz.f34 (GivesA w r s fs) .ret { tmps := tm, defers := [] } ((w6.setCell ⟨B, 5, none⟩ v).setCells (w.heap.size + 1 + 1) 0 [.int .i64 s.price, .int .i64 c1, .int .i64 c2, .int .i64 c3, .int .i64 rest, v]) := by
  have hbl : Blk ((w6.setCell ⟨B, 5, none⟩ v).setCells (w.heap.size + 1 + 1) 0 [.int .i64 s.price, .int .i64 c1, .int .i64 c2, .int .i64 c3, .int .i64 rest, v]) (w.heap.size + 1 + 1) (#[.int .i64 s.price, .int .i64 c1, .int .i64 c2, .int .i64 c3, .int .i64 rest, v] : Array Value) 61 := by
    have := (hA.setCell_other (by omega : w.heap.size + 1 + 1 ≠ B) 5 v).setCells 0 [.int .i64 s.price, .int .i64 c1, .int .i64 c2, .int .i64 c3, .int .i64 rest, v]
    rw [setAll_A] at this
    exact this
  refine bodyPost_ret (results_cell_tmp rfl tm _ (w.heap.size + 1 + 1) 61 [.int .i64 s.price, .int .i64 c1, .int .i64 c2, .int .i64 c3, .int .i64 rest, v] _ h6 hbl Tryz.underlying61 rfl (by kernel_rfl)) rfl ?_
  refine ⟨below_setCells (hb.setCell (p := ⟨B, 5, none⟩) (by simp; omega) _) (by omega) _ _, ?_⟩
  rw [if_pos ho, h7, h1, h2, h3, h4]
  exact ⟨v, ys, rfl, hl, ownsRow_base_a (own_setCells (own_set hown hbase 5 v) (by omega) _ _) (by omega)⟩

set_option maxRecDepth 100000 in
set_option maxHeartbeats 1600000 in
theorem awarded_any (r : Rate) (s : Sale) (a : Option Addr) (n cap : Nat) (fs : List Int) (w : World) (hL : Lst w 1 cI a n cap fs) :
    Calls Tryz.prog 34 #[aR r, aS s, .slice a n cap] w (GivesA w r s fs) := by
  have hF := fun W => fees_any r s W
  have hP := fun W hW => parties_any a n cap fs W hW
  have hB1 : RowKit.Below w.heap.size w (((w.alloc (.cells #[.int .i64 r.id, .int .i64 r.known, .int .i64 r.from_, .string r.goods, .int .i64 r.finder.num, .int .i64 r.finder.den, .int .i64 r.cart, .int .i64 r.store, .int .i64 r.of_] 43)).alloc (.cells #[.int .i64 s.id, .int .i64 s.known, .int .i64 s.hour, .int .i64 s.parcel, .int .i64 s.price, .int .i64 s.carter, .int .i64 s.keeper, .int .i64 s.since, .int .i64 s.of_] 24)).alloc (.cells #[.int .i64 0, .int .i64 0, .int .i64 0, .int .i64 0, .int .i64 0, .slice none 0 0] 61)) := (((Below.refl _ w).alloc (Nat.le_refl _) _).alloc (by simp) _).alloc (by simp; omega) _
  have kR : Blk (((w.alloc (.cells #[.int .i64 r.id, .int .i64 r.known, .int .i64 r.from_, .string r.goods, .int .i64 r.finder.num, .int .i64 r.finder.den, .int .i64 r.cart, .int .i64 r.store, .int .i64 r.of_] 43)).alloc (.cells #[.int .i64 s.id, .int .i64 s.known, .int .i64 s.hour, .int .i64 s.parcel, .int .i64 s.price, .int .i64 s.carter, .int .i64 s.keeper, .int .i64 s.since, .int .i64 s.of_] 24)).alloc (.cells #[.int .i64 0, .int .i64 0, .int .i64 0, .int .i64 0, .int .i64 0, .slice none 0 0] 61)) w.heap.size #[.int .i64 r.id, .int .i64 r.known, .int .i64 r.from_, .string r.goods, .int .i64 r.finder.num, .int .i64 r.finder.den, .int .i64 r.cart, .int .i64 r.store, .int .i64 r.of_] 43 := ((Blk.new w _ _).alloc _).alloc _
  have kS : Blk (((w.alloc (.cells #[.int .i64 r.id, .int .i64 r.known, .int .i64 r.from_, .string r.goods, .int .i64 r.finder.num, .int .i64 r.finder.den, .int .i64 r.cart, .int .i64 r.store, .int .i64 r.of_] 43)).alloc (.cells #[.int .i64 s.id, .int .i64 s.known, .int .i64 s.hour, .int .i64 s.parcel, .int .i64 s.price, .int .i64 s.carter, .int .i64 s.keeper, .int .i64 s.since, .int .i64 s.of_] 24)).alloc (.cells #[.int .i64 0, .int .i64 0, .int .i64 0, .int .i64 0, .int .i64 0, .slice none 0 0] 61)) (w.heap.size + 1) #[.int .i64 s.id, .int .i64 s.known, .int .i64 s.hour, .int .i64 s.parcel, .int .i64 s.price, .int .i64 s.carter, .int .i64 s.keeper, .int .i64 s.since, .int .i64 s.of_] 24 := by
    have := (Blk.new (w.alloc (.cells #[.int .i64 r.id, .int .i64 r.known, .int .i64 r.from_, .string r.goods, .int .i64 r.finder.num, .int .i64 r.finder.den, .int .i64 r.cart, .int .i64 r.store, .int .i64 r.of_] 43)) 24 #[.int .i64 s.id, .int .i64 s.known, .int .i64 s.hour, .int .i64 s.parcel, .int .i64 s.price, .int .i64 s.carter, .int .i64 s.keeper, .int .i64 s.since, .int .i64 s.of_]).alloc (.cells #[.int .i64 0, .int .i64 0, .int .i64 0, .int .i64 0, .int .i64 0, .slice none 0 0] 61)
    simpa using this
  have kA : Blk (((w.alloc (.cells #[.int .i64 r.id, .int .i64 r.known, .int .i64 r.from_, .string r.goods, .int .i64 r.finder.num, .int .i64 r.finder.den, .int .i64 r.cart, .int .i64 r.store, .int .i64 r.of_] 43)).alloc (.cells #[.int .i64 s.id, .int .i64 s.known, .int .i64 s.hour, .int .i64 s.parcel, .int .i64 s.price, .int .i64 s.carter, .int .i64 s.keeper, .int .i64 s.since, .int .i64 s.of_] 24)).alloc (.cells #[.int .i64 0, .int .i64 0, .int .i64 0, .int .i64 0, .int .i64 0, .slice none 0 0] 61)) (w.heap.size + 1 + 1) #[.int .i64 0, .int .i64 0, .int .i64 0, .int .i64 0, .int .i64 0, .slice none 0 0] 61 := by
    have := Blk.new ((w.alloc (.cells #[.int .i64 r.id, .int .i64 r.known, .int .i64 r.from_, .string r.goods, .int .i64 r.finder.num, .int .i64 r.finder.den, .int .i64 r.cart, .int .i64 r.store, .int .i64 r.of_] 43)).alloc (.cells #[.int .i64 s.id, .int .i64 s.known, .int .i64 s.hour, .int .i64 s.parcel, .int .i64 s.price, .int .i64 s.carter, .int .i64 s.keeper, .int .i64 s.since, .int .i64 s.of_] 24)) 61 #[.int .i64 0, .int .i64 0, .int .i64 0, .int .i64 0, .int .i64 0, .slice none 0 0]
    simpa using this
  obtain ⟨q1, hq1⟩ : ∃ q, q = (feesOf r s).1.1 := ⟨_, rfl⟩
  obtain ⟨q2, hq2⟩ : ∃ q, q = (feesOf r s).1.2 := ⟨_, rfl⟩
  obtain ⟨q3, hq3⟩ : ∃ q, q = (feesOf r s).2 := ⟨_, rfl⟩
  rw [← hq1, ← hq2, ← hq3] at hF
  have hfr := hF (((w.alloc (.cells #[.int .i64 r.id, .int .i64 r.known, .int .i64 r.from_, .string r.goods, .int .i64 r.finder.num, .int .i64 r.finder.den, .int .i64 r.cart, .int .i64 r.store, .int .i64 r.of_] 43)).alloc (.cells #[.int .i64 s.id, .int .i64 s.known, .int .i64 s.hour, .int .i64 s.parcel, .int .i64 s.price, .int .i64 s.carter, .int .i64 s.keeper, .int .i64 s.since, .int .i64 s.of_] 24)).alloc (.cells #[.int .i64 0, .int .i64 0, .int .i64 0, .int .i64 0, .int .i64 0, .slice none 0 0] 61))
  clear hF
  go_enter Tryz.func34, Tryz.ntmps34
  go_wp2_with (fail)
  refine hfr.mono ?_
  clear hfr
  rintro e w2 ⟨rfl, hB2⟩
  have kR2 := kR.below' hB2
  have kS2 := kS.below' hB2
  have kA2 := kA.below' hB2
  have hb2 := hB1.trans (hB2.mono hB1.size)
  clear kR kS kA hB1
  by_cases h0 : q3 = 0
  · subst h0
    have Hq3 := Lib.hid hq3; clear hq3
    go_wp2_with (fail)
    refine (hP w2 (hL.below hb2)).mono ?_
    rintro e w3 ⟨rfl, hB3⟩
    have kR3 := kR2.below' hB3
    have kS3 := kS2.below' hB3
    have kA3 := kA2.below' hB3
    have hb3 := hb2.trans (hB3.mono hb2.size)
    clear kR2 kS2 kA2
    rcases Bool.eq_false_or_eq_true (partiesOk fs) with hp | hp
    · rw [hp]
      have Hp := Lib.hid hp; clear hp
      have cR := kR3.cell
      have cS := kS3.cell
      have cS4 : ∀ (o : Obj) (j : Nat), (w3.alloc o).cell? ⟨w.heap.size + 1, j, none⟩ = #[.int .i64 s.id, .int .i64 s.known, .int .i64 s.hour, .int .i64 s.parcel, .int .i64 s.price, .int .i64 s.carter, .int .i64 s.keeper, .int .i64 s.since, .int .i64 s.of_][j]? := fun o j => (kS3.alloc o).cell j
      have hls := kS3.lt
      go_wp2_with (fail)
      go_region
      have hq0 : (feesOf r s).2 = 0 := Hq3.out.symm
      obtain ⟨p1, p2, p3, p4, p5, p6, p7, p8, p9, p10, p11⟩ := fees_bounds hq0
      obtain ⟨a1, a2, a3, a4, a5, a6⟩ := aw_bounds hq0
      have hRB := awRaw_bounds hq0 Hp.out
      have hfb := partOk_bounds p11
      obtain ⟨w4, hw4⟩ : ∃ w4, w4 = (w3.alloc (.cells #[.int .i64 s.price, .int .i64 0, .int .i64 0, .int .i64 0, .int .i64 s.price, .slice none 0 0, .int .i64 r.id, .int .i64 r.known, .int .i64 r.from_, .string r.goods, .int .i64 r.finder.num, .int .i64 r.finder.den, .int .i64 r.cart, .int .i64 r.store, .int .i64 r.of_, .int .i64 s.id, .int .i64 s.known, .int .i64 s.hour, .int .i64 s.parcel, .int .i64 s.price, .int .i64 s.carter, .int .i64 s.keeper, .int .i64 s.since, .int .i64 s.of_, .slice a n cap, .slice none 0 0] 112)).drew := ⟨_, rfl⟩
      rw [← hw4]
      have kP : Blk w4 w3.heap.size #[.int .i64 s.price, .int .i64 0, .int .i64 0, .int .i64 0, .int .i64 s.price, .slice none 0 0, .int .i64 r.id, .int .i64 r.known, .int .i64 r.from_, .string r.goods, .int .i64 r.finder.num, .int .i64 r.finder.den, .int .i64 r.cart, .int .i64 r.store, .int .i64 r.of_, .int .i64 s.id, .int .i64 s.known, .int .i64 s.hour, .int .i64 s.parcel, .int .i64 s.price, .int .i64 s.carter, .int .i64 s.keeper, .int .i64 s.since, .int .i64 s.of_, .slice a n cap, .slice none 0 0] 112 := hw4 ▸ (Blk.new w3 _ _).drew
      have kA4 : Blk w4 (w.heap.size + 1 + 1) cA0.toArray 61 := hw4 ▸ (kA3.alloc _).drew
      have hb34 : RowKit.Below w3.heap.size w3 w4 := hw4 ▸ ((Below.refl _ w3).alloc (Nat.le_refl _) _).drew
      have hb4 : RowKit.Below w.heap.size w w4 := hb3.trans (hb34.mono hb3.size)
      have hltP := kP.lt
      have hltA := kA3.lt
      clear hw4 kR3 kS3 cR cS cS4 hls
      have hP0 : PotS w3.heap.size w4.heap.size w4 s.price 0 0 0 s.price r s (.slice a n cap) [] w4 := ⟨_, kP, ⟨rfl, .inl ⟨rfl, rfl⟩⟩, Nat.le_refl _, Below.refl _ _⟩
      generalize w3.heap.size = B at *
      have hmf : ∀ (fn : Fn) (first cap : Array Value) (w : World), (Instr.makeFunc fn first cap).run Tryz.prog w = .ok (.func fn first cap) w := fun _ _ _ _ => rfl
      have hix := indexF
      have eg1 : ∀ args w, (callFunc 70 args).run Tryz.prog w = .ok (.enter 70 args) w := enters_of Tryz.func70 (by kernel_rfl) rfl
      have eg2 : ∀ args w, (callFunc 71 args).run Tryz.prog w = .ok (.enter 71 args) w := enters_of Tryz.func71 (by kernel_rfl) rfl
      have eg3 : ∀ args w, (callFunc 72 args).run Tryz.prog w = .ok (.enter 72 args) w := enters_of Tryz.func72 (by kernel_rfl) rfl
      have hLf : ∀ W', RowKit.Below B w4 W' → Lst W' 1 cI a n cap fs := fun W' h => hL.below (hb4.trans (h.mono (by omega)))
      have hlen := hL.len
      obtain ⟨c1, hc1⟩ : ∃ c, c = awCart r s := ⟨_, rfl⟩
      obtain ⟨c2, hc2⟩ : ∃ c, c = awStore r s := ⟨_, rfl⟩
      obtain ⟨c3, hc3⟩ : ∃ c, c = awFind r s := ⟨_, rfl⟩
      have hraw : awRaw r s fs = [] ++ [Share.mk s.carter c1] ++ [Share.mk s.keeper c2] ++ List.zipWith Share.mk fs ((List.range n).map (eqVal c3 n)) := by rw [hc1, hc2, hc3, ← hlen]; rfl
      have hm1 : c1 = min (feesOf r s).1.1 s.price := hc1
      have hm2 : c2 = min (feesOf r s).1.2 (s.price - c1) := by rw [hc2, hc1]; rfl
      have hm3 : c3 = min ((s.price * r.finder.num).tdiv r.finder.den) (s.price - c1 - c2) := by rw [hc3, hc1, hc2]; rfl
      rw [← hc1, ← hc2, ← hc3] at a6
      rw [← hc1, ← hc2] at a4
      rw [← hc1] at a1 a2
      rw [← hc2] at a3
      rw [← hc3] at a5
      have Hm1 := Lib.hid hm1
      have Hm2 := Lib.hid hm2
      have Hm3 := Lib.hid hm3
      have Hc1 := Lib.hid hc1
      have Hc2 := Lib.hid hc2
      have Hc3 := Lib.hid hc3
      have Hraw := Lib.hid hraw
      have Hq0 := Lib.hid hq0
      clear hm1 hm2 hm3 hc1 hc2 hc3 hraw hq0
      go_wp2_with (fail)
      go_loopw [53] (fun i wr => ∃ k : Nat, k ≤ 3 ∧ i = .int .i64 k ∧ (k = 0 → PotS B w4.heap.size w4 s.price 0 0 0 s.price r s (.slice a n cap) [] wr) ∧
        (k = 1 → PotS B w4.heap.size w4 s.price c1 0 0 (s.price - c1) r s (.slice a n cap) ([] ++ [Share.mk s.carter c1]) wr) ∧
        (k = 2 → PotS B w4.heap.size w4 s.price c1 c2 0 (s.price - c1 - c2) r s (.slice a n cap) ([] ++ [Share.mk s.carter c1] ++ [Share.mk s.keeper c2]) wr) ∧
        (k = 3 → PotS B w4.heap.size w4 s.price c1 c2 c3 (s.price - c1 - c2 - c3) r s (.slice a n cap) (awRaw r s fs) wr)) (fun i _ => 3 - (intOf i).toNat)
      case atStart => exact ⟨0, Nat.zero_le _, rfl, fun _ => hP0, fun h => by omega, fun h => by omega, fun h => by omega⟩
      case round =>
        obtain ⟨k, hk, rfl, h0, h1, h2, h3⟩ := hrel
        have hkc : k = 0 ∨ k = 1 ∨ k = 2 ∨ k = 3 := by omega
        rcases hkc with rfl | rfl | rfl | rfl
        · have hS := h0 rfl
          clear h0 h1 h2 h3
          go_wp2_with (fail)
          refine (carting_any B w4.heap.size w4 s.price 0 0 0 s.price (feesOf r s).1.1 c1 r s (.slice a n cap) [] wr hS hltP (by simp) rfl ⟨p1, by omega⟩ ⟨by omega, by omega⟩ Hm1.out).mono ?_
          rintro e w5 ⟨rfl, hS5⟩
          go_wp2_with (fail)
          go_roundw
          case rel => exact ⟨1, by omega, by go_num, fun h => by omega, fun _ => hS5, fun h => by omega, fun h => by omega⟩
          case measure => simp [intOf]
        · have hS := h1 rfl
          clear h0 h1 h2 h3
          go_wp2_with (fail)
          refine (storing_any B w4.heap.size w4 s.price c1 0 0 (s.price - c1) (feesOf r s).1.2 c2 r s (.slice a n cap) _ wr hS hltP (by simp) rfl ⟨p3, by omega⟩ ⟨by omega, by omega⟩ Hm2.out).mono ?_
          rintro e w5 ⟨rfl, hS5⟩
          go_wp2_with (fail)
          go_roundw
          case rel => exact ⟨2, by omega, by go_num, fun h => by omega, fun h => by omega, fun _ => hS5, fun h => by omega⟩
          case measure => simp [intOf]
        · have hS := h2 rfl
          clear h0 h1 h2 h3
          go_wp2_with (fail)
          refine (finding_any B w4.heap.size w4 s.price c1 c2 0 (s.price - c1 - c2) c3 r s a n cap fs _ wr hS hltP (by simp) hLf Hp.out ⟨by omega, by omega⟩ hfb ⟨by omega, by omega⟩ Hm3.out).mono ?_
          rintro e w5 ⟨rfl, hS5⟩
          rw [← Hraw.out] at hS5
          go_wp2_with (fail)
          go_roundw
          case rel => exact ⟨3, by omega, by go_num, fun h => by omega, fun h => by omega, fun h => by omega, fun _ => hS5⟩
          case measure => simp [intOf]
        · have hS := h3 rfl
          clear h0 h1 h2 h3
          obtain ⟨lv, hBp, ho, hbs, hbel⟩ := hS
          obtain ⟨a5, cap5, rfl, hpl5, hL5⟩ := Lst.of_owns (k := 2) (enc := cSh) (fun _ => rfl) (by decide) ho rfl
          clear ho hpl5
          have hl5 : (awRaw r s fs).length ≤ 1100 := by
            unfold awRaw
            have hp := Hp.out
            unfold partiesOk at hp
            simp only [Bool.and_eq_true, inn_iff] at hp
            simp
            omega
          have hmg := merged_any a5 _ cap5 (awRaw r s fs) wr hl5 hL5 (fun x hx => by have := hRB x hx; omega)
          have cP := hBp.cell
          have hltB := hBp.lt
          go_wp2_with (fail)
          refine hmg.mono ?_
          clear hmg cP
          rintro e w6 ⟨v6, ys, rfl, hf6, ho6, hB6⟩
          have kP6 := hBp.below' hB6
          have kA6 := (kA4.below hbel hltA).below hB6 (by omega)
          have hb6 : RowKit.Below w.heap.size w w6 := (hb4.trans (hbel.mono (by omega))).trans (hB6.mono (by omega))
          have hs6 := hB6.size
          clear hBp hL5 hB6 kA4 kP kA3
          have cP := kP6.cell
          have fP := kP6.frozen
          have cA := kA6.cell
          have fA := kA6.frozen
          have hneA : w.heap.size + 1 + 1 ≠ B := by omega
          have ho6' := ho6
          obtain ⟨a6', cap6, rfl, _, _⟩ := Lst.of_owns (k := 2) (enc := cSh) (fun _ => rfl) (by decide) ho6' rfl
          clear ho6'
          obtain ⟨rest, hrest⟩ : ∃ rest, rest = s.price - c1 - c2 - c3 := ⟨_, rfl⟩
          have hrest2 : rest = awRest r s := by rw [hrest, Hc1.out, Hc2.out, Hc3.out]; rfl
          rw [← hrest] at cP kP6
          have Hrest := Lib.hid hrest2
          clear hrest hrest2
          go_wp2_with (fail)
          rw [putA]
          (try simp only [Exit.inBlock, Exit.then])
          exact awarded_fin kA6 hb6 (by unfold awOk; rw [← Hq3.out, Hp.out]; rfl) (by omega) hltB Hc1.out Hc2.out Hc3.out Hrest.out hf6 ho6 rfl rfl
    · rw [hp]
      have Hp := Lib.hid hp; clear hp
      have cA := kA3.cell
      have fA := kA3.frozen
      go_wp2_with (fail)
      rw [putA0]
      exact awarded_err kA3 hb3 (by unfold awOk; rw [Hp.out, Bool.and_false]) rfl rfl
  · have g0 : (q3 != 0) = true := by simpa using h0
    have Hq3 := Lib.hid hq3; clear hq3
    have H0 := Lib.hid h0; clear h0
    have cA := kA2.cell
    have fA := kA2.frozen
    go_wp2_with (fail)
    rw [putA0]
    exact awarded_err kA2 hb2 (by unfold awOk; rw [← Hq3.out, decide_eq_false H0.out, Bool.false_and]) rfl rfl

end Go.Proofs.YtkeppoiomjhkpaaGreatDoor

/-
  Walk: the record in force, or the error.
-/
namespace Go.Proofs.YtkeppoiomjhkpaaGreatDoor
open Go.RowKit Lg Go.Sort Go.Shelf

set_option maxRecDepth 100000 in
set_option maxHeartbeats 1600000 in
theorem rateOf_any (a : Option Addr) (n cap : Nat) (xs : List Rate) (goods : ByteArray) (hour known : Int) (w : World) (hL : Lst w 9 cR a n cap xs) :
    Calls Tryz.prog 32 #[.slice a n cap, .string goods, .int .i64 hour, .int .i64 known] w (Gives w (.tuple #[aR (rateOf xs goods hour known).1, .int .i64 (rateOf xs goods hour known).2])) := by
  obtain ⟨r, hr⟩ : ∃ r, r = rateOf xs goods hour known := ⟨_, rfl⟩
  rw [← hr]
  obtain ⟨c, hc⟩ : ∃ c, c = checkRates xs := ⟨_, rfl⟩
  obtain ⟨f, hf⟩ : ∃ f, f = inForce xs goods hour known := ⟨_, rfl⟩
  have hcr := fun W hW => checkRates_any a n cap xs W hW
  have hfr := fun W hW => inForce_any a n cap xs goods hour known W hW
  rw [← hc] at hcr
  rw [← hf] at hfr
  have Hr : Hid (r = if c.2 = 0 then (if f.2 = true then (f.1, 0) else (zeroRate, 60)) else (zeroRate, c.2)) := Lib.hid (by rw [hr, hc, hf]; rfl)
  clear hr hc hf
  obtain ⟨c1, c2⟩ := c
  obtain ⟨f1, f2⟩ := f
  have hB1 : RowKit.Below w.heap.size w (w.alloc (.cells #[.int .i64 0, .int .i64 0, .int .i64 0, .string ⟨#[]⟩, .int .i64 0, .int .i64 0, .int .i64 0, .int .i64 0, .int .i64 0] 43)) := (Below.refl _ w).alloc (Nat.le_refl _) _
  have hcr1 := hcr _ (hL.below hB1)
  clear hcr
  go_enter Tryz.func32, Tryz.ntmps32
  go_wp2_with (fail)
  refine hcr1.mono ?_
  clear hcr1
  rintro e w2 ⟨rfl, hB2⟩
  have k2 : Blk w2 w.heap.size #[.int .i64 0, .int .i64 0, .int .i64 0, .string ⟨#[]⟩, .int .i64 0, .int .i64 0, .int .i64 0, .int .i64 0, .int .i64 0] 43 := (Blk.new w _ _).below' hB2
  have hb2 : RowKit.Below w.heap.size w w2 := hB1.trans (hB2.mono hB1.size)
  have e2 := k2.cell
  have g2 := k2.frozen
  by_cases hv0 : c2 = 0
  · subst hv0
    go_wp2_with (fail)
    refine (hfr w2 (hL.below hb2)).mono ?_
    clear hfr
    rintro e w3 ⟨rfl, hB3⟩
    have k3 := k2.below' hB3
    have hb3 := hb2.trans (hB3.mono hb2.size)
    have hs3 := k3.lt
    have e3 := k3.cell
    have g3 := k3.frozen
    cases f2 with
    | true =>
      go_wp2_with (fail)
      have hbl : Blk ((w3.setCells w.heap.size 0 (cR f1)).alloc (.cells (cR f1).toArray 43)) w.heap.size (cR f1).toArray 43 := by
        refine Blk.alloc ?_ _
        rw [← setAll_zero f1]
        exact k3.setCells 0 (cR f1)
      rw [putR]
      (try simp only [Exit.inBlock, Exit.then]); refine bodyPost_ret (results_cell_tmp rfl _ _ w.heap.size 43 (cR f1) _ rfl hbl Tryz.underlying43 rfl (by kernel_rfl)) rfl ?_
      exact ⟨by rw [Hr.out]; rfl, (below_setCells hb3 (Nat.le_refl _) _ _).alloc (by rw [size_setCells]; omega) _⟩
    | false =>
      go_wp2_with (fail)
      have hbl : Blk ((w3.setCells w.heap.size 0 (cR zeroRate)).alloc (.cells (cR f1).toArray 43)) w.heap.size (cR zeroRate).toArray 43 := by
        refine Blk.alloc ?_ _
        rw [← setAll_zero zeroRate]
        exact k3.setCells 0 (cR zeroRate)
      rw [putR0]
      (try simp only [Exit.inBlock, Exit.then]); refine bodyPost_ret (results_cell_tmp rfl _ _ w.heap.size 43 (cR zeroRate) _ rfl hbl Tryz.underlying43 rfl (by kernel_rfl)) rfl ?_
      exact ⟨by rw [Hr.out]; rfl, (below_setCells hb3 (Nat.le_refl _) _ _).alloc (by rw [size_setCells]; omega) _⟩
  · have g0 : (c2 != 0) = true := by simpa using hv0
    have Hv0 := Lib.hid hv0; clear hv0
    go_wp2_with (fail)
    have hbl : Blk (w2.setCells w.heap.size 0 (cR zeroRate)) w.heap.size (cR zeroRate).toArray 43 := by
      rw [← setAll_zero zeroRate]
      exact k2.setCells 0 (cR zeroRate)
    rw [putR0]
    (try simp only [Exit.inBlock, Exit.then]); refine bodyPost_ret (results_cell_tmp rfl _ _ w.heap.size 43 (cR zeroRate) _ rfl hbl Tryz.underlying43 rfl (by kernel_rfl)) rfl ?_
    exact ⟨by rw [Hr.out, if_neg Hv0.out]; rfl, below_setCells hb2 (Nat.le_refl _) _ _⟩

end Go.Proofs.YtkeppoiomjhkpaaGreatDoor

/-
  Walk: the record in force, or the error.
-/
namespace Go.Proofs.YtkeppoiomjhkpaaGreatDoor
open Go.RowKit Lg Go.Sort Go.Shelf

set_option maxRecDepth 100000 in
set_option maxHeartbeats 1600000 in
theorem saleOf_any (a : Option Addr) (n cap : Nat) (xs : List Sale) (parcel known : Int) (w : World) (hL : Lst w 9 cS a n cap xs) :
    Calls Tryz.prog 74 #[.slice a n cap, .int .i64 parcel, .int .i64 known] w (Gives w (.tuple #[aS (saleOf xs parcel known).1, .int .i64 (saleOf xs parcel known).2])) := by
  obtain ⟨r, hr⟩ : ∃ r, r = saleOf xs parcel known := ⟨_, rfl⟩
  rw [← hr]
  obtain ⟨c, hc⟩ : ∃ c, c = checkSales xs := ⟨_, rfl⟩
  obtain ⟨f, hf⟩ : ∃ f, f = soldPair (soldIn xs parcel known) := ⟨_, rfl⟩
  have hcr := fun W hW => checkSales_any a n cap xs W hW
  have hfr := fun W hW => sold_any a n cap xs parcel known W hW
  rw [← hc] at hcr
  rw [← hf] at hfr
  have Hr : Hid (r = if c.2 = 0 then (if f.2 = true then (f.1, 0) else (zeroSale, 61)) else (zeroSale, c.2)) := Lib.hid (by rw [hr, hc, hf]; unfold saleOf; split <;> (try rfl); cases soldIn xs parcel known <;> rfl)
  clear hr hc hf
  obtain ⟨c1, c2⟩ := c
  obtain ⟨f1, f2⟩ := f
  have hB1 : RowKit.Below w.heap.size w (w.alloc (.cells #[.int .i64 0, .int .i64 0, .int .i64 0, .int .i64 0, .int .i64 0, .int .i64 0, .int .i64 0, .int .i64 0, .int .i64 0] 24)) := (Below.refl _ w).alloc (Nat.le_refl _) _
  have hcr1 := hcr _ (hL.below hB1)
  clear hcr
  go_enter Tryz.func74, Tryz.ntmps74
  go_wp2_with (fail)
  refine hcr1.mono ?_
  clear hcr1
  rintro e w2 ⟨rfl, hB2⟩
  have k2 : Blk w2 w.heap.size #[.int .i64 0, .int .i64 0, .int .i64 0, .int .i64 0, .int .i64 0, .int .i64 0, .int .i64 0, .int .i64 0, .int .i64 0] 24 := (Blk.new w _ _).below' hB2
  have hb2 : RowKit.Below w.heap.size w w2 := hB1.trans (hB2.mono hB1.size)
  have e2 := k2.cell
  have g2 := k2.frozen
  by_cases hv0 : c2 = 0
  · subst hv0
    go_wp2_with (fail)
    refine (hfr w2 (hL.below hb2)).mono ?_
    clear hfr
    rintro e w3 ⟨rfl, hB3⟩
    have k3 := k2.below' hB3
    have hb3 := hb2.trans (hB3.mono hb2.size)
    have hs3 := k3.lt
    have e3 := k3.cell
    have g3 := k3.frozen
    cases f2 with
    | true =>
      go_wp2_with (fail)
      have hbl : Blk ((w3.setCells w.heap.size 0 (cS f1)).alloc (.cells (cS f1).toArray 24)) w.heap.size (cS f1).toArray 24 := by
        refine Blk.alloc ?_ _
        rw [← setAll_zeroS f1]
        exact k3.setCells 0 (cS f1)
      rw [putS]
      (try simp only [Exit.inBlock, Exit.then]); refine bodyPost_ret (results_cell_tmp rfl _ _ w.heap.size 24 (cS f1) _ rfl hbl Tryz.underlying24 rfl (by kernel_rfl)) rfl ?_
      exact ⟨by rw [Hr.out]; rfl, (below_setCells hb3 (Nat.le_refl _) _ _).alloc (by rw [size_setCells]; omega) _⟩
    | false =>
      go_wp2_with (fail)
      have hbl : Blk ((w3.setCells w.heap.size 0 (cS zeroSale)).alloc (.cells (cS f1).toArray 24)) w.heap.size (cS zeroSale).toArray 24 := by
        refine Blk.alloc ?_ _
        rw [← setAll_zeroS zeroSale]
        exact k3.setCells 0 (cS zeroSale)
      rw [putS0]
      (try simp only [Exit.inBlock, Exit.then]); refine bodyPost_ret (results_cell_tmp rfl _ _ w.heap.size 24 (cS zeroSale) _ rfl hbl Tryz.underlying24 rfl (by kernel_rfl)) rfl ?_
      exact ⟨by rw [Hr.out]; rfl, (below_setCells hb3 (Nat.le_refl _) _ _).alloc (by rw [size_setCells]; omega) _⟩
  · have g0 : (c2 != 0) = true := by simpa using hv0
    have Hv0 := Lib.hid hv0; clear hv0
    go_wp2_with (fail)
    have hbl : Blk (w2.setCells w.heap.size 0 (cS zeroSale)) w.heap.size (cS zeroSale).toArray 24 := by
      rw [← setAll_zeroS zeroSale]
      exact k2.setCells 0 (cS zeroSale)
    rw [putS0]
    (try simp only [Exit.inBlock, Exit.then]); refine bodyPost_ret (results_cell_tmp rfl _ _ w.heap.size 24 (cS zeroSale) _ rfl hbl Tryz.underlying24 rfl (by kernel_rfl)) rfl ?_
    exact ⟨by rw [Hr.out, if_neg Hv0.out]; rfl, below_setCells hb2 (Nat.le_refl _) _ _⟩

end Go.Proofs.YtkeppoiomjhkpaaGreatDoor

/-
  Walk: the award of a parcel.
-/
namespace Go.Proofs.YtkeppoiomjhkpaaGreatDoor
open Go.RowKit Lg Go.Sort Go.Shelf

def GivesO (w : World) (pk : Int × Rate × Sale) (fs : List Int) (e : Ending) (w' : World) : Prop :=
  RowKit.Below w.heap.size w w' ∧ if pk.1 = 0 then
    if awOk pk.2.1 pk.2.2 fs = true then
      ∃ v ys, e = .returned (.tuple #[.agg #[.int .i64 pk.2.2.price, .int .i64 (awCart pk.2.1 pk.2.2), .int .i64 (awStore pk.2.1 pk.2.2), .int .i64 (awFind pk.2.1 pk.2.2), .int .i64 (awRest pk.2.1 pk.2.2), v], .int .i64 0]) ∧
        ListOf (sumP (awRaw pk.2.1 pk.2.2 fs)) ys ∧ w'.ownsRow w.heap.size 76 2 v ys.length (ys.flatMap cSh)
    else e = .returned (.tuple #[.agg #[.int .i64 0, .int .i64 0, .int .i64 0, .int .i64 0, .int .i64 0, .slice none 0 0], .int .i64 1])
  else e = .returned (.tuple #[.agg #[.int .i64 0, .int .i64 0, .int .i64 0, .int .i64 0, .int .i64 0, .slice none 0 0], .int .i64 pk.1])

theorem awardOf_err {w w' : World} {pk : Int × Rate × Sale} {fs : List Int} {tm : Array Value} (hA : Blk w' w.heap.size cA0.toArray 61) (hb : RowKit.Below w.heap.size w w') (ho : pk.1 ≠ 0) (h6 : tm.getD 14 undef = .pointer (some ⟨w.heap.size, 0, none⟩)) (h7 : tm.getD 15 undef = .int .i64 pk.1) :
    bodyPost Tryz.prog Tryz.f35 (GivesO w pk fs) .ret { tmps := tm, defers := [] } (w'.setCells w.heap.size 0 cA0) := by
  have hbl : Blk (w'.setCells w.heap.size 0 cA0) w.heap.size cA0.toArray 61 := by
    have := hA.setCells 0 cA0
    rw [setAll_A0] at this
    exact this
  refine bodyPost_ret (results_cell_tmp rfl tm _ w.heap.size 61 cA0 _ h6 hbl Tryz.underlying61 rfl (by kernel_rfl)) rfl ?_
  refine ⟨below_setCells hb (Nat.le_refl _) _ _, ?_⟩
  rw [if_neg ho, h7]

theorem awardOf_err_alloc {w w' : World} {pk : Int × Rate × Sale} {fs : List Int} {tm : Array Value} {o : Obj} (hA : Blk w' w.heap.size cA0.toArray 61) (hb : RowKit.Below w.heap.size w w') (ho : pk.1 ≠ 0) (h6 : tm.getD 14 undef = .pointer (some ⟨w.heap.size, 0, none⟩)) (h7 : tm.getD 15 undef = .int .i64 pk.1) :
    bodyPost Tryz.prog Tryz.f35 (GivesO w pk fs) .ret { tmps := tm, defers := [] } ((w'.setCells w.heap.size 0 cA0).alloc o) := by
  have hbl : Blk ((w'.setCells w.heap.size 0 cA0).alloc o) w.heap.size cA0.toArray 61 := by
    have := hA.setCells 0 cA0
    rw [setAll_A0] at this
    exact this.alloc _
  refine bodyPost_ret (results_cell_tmp rfl tm _ w.heap.size 61 cA0 _ h6 hbl Tryz.underlying61 rfl (by kernel_rfl)) rfl ?_
  refine ⟨(below_setCells hb (Nat.le_refl _) _ _).alloc (by rw [size_setCells]; exact hb.size) _, ?_⟩
  rw [if_neg ho, h7]

theorem awardOf_no {w w' : World} {pk : Int × Rate × Sale} {fs : List Int} {tm : Array Value} (hA : Blk w' w.heap.size cA0.toArray 61) (hb : RowKit.Below w.heap.size w w') (ho : pk.1 = 0) (hok : awOk pk.2.1 pk.2.2 fs = false) (h6 : tm.getD 14 undef = .pointer (some ⟨w.heap.size, 0, none⟩)) (h7 : tm.getD 15 undef = .int .i64 1) :
    bodyPost Tryz.prog Tryz.f35 (GivesO w pk fs) .ret { tmps := tm, defers := [] } (w'.setCells w.heap.size 0 cA0) := by
  have hbl : Blk (w'.setCells w.heap.size 0 cA0) w.heap.size cA0.toArray 61 := by
    have := hA.setCells 0 cA0
    rw [setAll_A0] at this
    exact this
  refine bodyPost_ret (results_cell_tmp rfl tm _ w.heap.size 61 cA0 _ h6 hbl Tryz.underlying61 rfl (by kernel_rfl)) rfl ?_
  refine ⟨below_setCells hb (Nat.le_refl _) _ _, ?_⟩
  rw [if_pos ho, if_neg (by rw [hok]; simp), h7]

theorem awardOf_fin {w w6 : World} {pk : Int × Rate × Sale} {fs : List Int} {tm : Array Value} {base : Nat} {v : Value} {ys : List Share} {c0 c1 c2 c3 rest : Int} (hA : Blk w6 w.heap.size cA0.toArray 61) (hb : RowKit.Below w.heap.size w w6) (hz : pk.1 = 0) (ho : awOk pk.2.1 pk.2.2 fs = true)
    (hbase : w.heap.size < base) (h0 : c0 = pk.2.2.price) (h1 : c1 = awCart pk.2.1 pk.2.2) (h2 : c2 = awStore pk.2.1 pk.2.2) (h3 : c3 = awFind pk.2.1 pk.2.2) (h4 : rest = awRest pk.2.1 pk.2.2) (hl : ListOf (sumP (awRaw pk.2.1 pk.2.2 fs)) ys) (hown : w6.ownsRow base 76 2 v ys.length (ys.flatMap cSh))
    (h6 : tm.getD 14 undef = .pointer (some ⟨w.heap.size, 0, none⟩)) (h7 : tm.getD 15 undef = .int .i64 0) :
    bodyPost Tryz.prog Tryz.f35 (GivesO w pk fs) .ret { tmps := tm, defers := [] } (w6.setCells w.heap.size 0 [.int .i64 c0, .int .i64 c1, .int .i64 c2, .int .i64 c3, .int .i64 rest, v]) := by
  have hbl : Blk (w6.setCells w.heap.size 0 [.int .i64 c0, .int .i64 c1, .int .i64 c2, .int .i64 c3, .int .i64 rest, v]) w.heap.size (#[.int .i64 c0, .int .i64 c1, .int .i64 c2, .int .i64 c3, .int .i64 rest, v] : Array Value) 61 := by
    have := hA.setCells 0 [.int .i64 c0, .int .i64 c1, .int .i64 c2, .int .i64 c3, .int .i64 rest, v]
    rw [setAll_A] at this
    exact this
  refine bodyPost_ret (results_cell_tmp rfl tm _ w.heap.size 61 [.int .i64 c0, .int .i64 c1, .int .i64 c2, .int .i64 c3, .int .i64 rest, v] _ h6 hbl Tryz.underlying61 rfl (by kernel_rfl)) rfl ?_
  refine ⟨below_setCells hb (Nat.le_refl _) _ _, ?_⟩
  rw [if_pos hz, if_pos ho, h7, h0, h1, h2, h3, h4]
  exact ⟨v, ys, rfl, hl, ownsRow_base_a (own_setCells hown hbase _ _) (by omega)⟩

set_option maxRecDepth 100000 in
set_option maxHeartbeats 1600000 in
theorem awardOf_any (a : Option Addr) (n cap : Nat) (rs : List Rate) (b : Option Addr) (m capS : Nat) (ss : List Sale) (parcel : Int) (goods : ByteArray) (hour known : Int) (c : Option Addr) (k capF : Nat) (fs : List Int) (w : World)
    (hL : Lst w 9 cR a n cap rs) (hS : Lst w 9 cS b m capS ss) (hFi : Lst w 1 cI c k capF fs) :
    Calls Tryz.prog 35 #[.slice a n cap, .slice b m capS, .int .i64 parcel, .string goods, .int .i64 hour, .int .i64 known, .slice c k capF] w (GivesO w (awPick rs ss parcel goods hour known) fs) := by
  obtain ⟨pk, hpk⟩ : ∃ pk, pk = awPick rs ss parcel goods hour known := ⟨_, rfl⟩
  rw [← hpk]
  obtain ⟨cr, hcr⟩ : ∃ c, c = checkRates rs := ⟨_, rfl⟩
  obtain ⟨so, hso⟩ : ∃ c, c = saleOf ss parcel known := ⟨_, rfl⟩
  obtain ⟨ro, hro⟩ : ∃ c, c = rateOf rs goods hour known := ⟨_, rfl⟩
  have h1 := fun W hW => checkRates_any a n cap rs W hW
  have h2 := fun W hW => saleOf_any b m capS ss parcel known W hW
  have h3 := fun W hW => rateOf_any a n cap rs goods hour known W hW
  rw [← hcr] at h1
  rw [← hso] at h2
  rw [← hro] at h3
  have Hpk : Hid (pk = if cr.2 = 0 then if so.2 = 0 then if ro.2 = 0 then (0, ro.1, so.1) else (ro.2, zeroRate, zeroSale) else (so.2, zeroRate, zeroSale) else (cr.2, zeroRate, zeroSale)) := Lib.hid (by rw [hpk, hcr, hso, hro]; rfl)
  clear hpk hcr hso hro
  obtain ⟨cr1, cr2⟩ := cr
  obtain ⟨so1, so2⟩ := so
  obtain ⟨ro1, ro2⟩ := ro
  have hB1 : RowKit.Below w.heap.size w (w.alloc (.cells #[.int .i64 0, .int .i64 0, .int .i64 0, .int .i64 0, .int .i64 0, .slice none 0 0] 61)) := (Below.refl _ w).alloc (Nat.le_refl _) _
  have h1' := h1 _ (hL.below hB1)
  clear h1
  go_enter Tryz.func35, Tryz.ntmps35
  go_wp2_with (fail)
  refine h1'.mono ?_
  clear h1'
  rintro e w2 ⟨rfl, hB2⟩
  have kA2 : Blk w2 w.heap.size cA0.toArray 61 := (Blk.new w _ _).below' hB2
  have hb2 : RowKit.Below w.heap.size w w2 := hB1.trans (hB2.mono hB1.size)
  by_cases g1 : cr2 = 0
  · subst g1
    go_wp2_with (fail)
    refine (h2 w2 (hS.below hb2)).mono ?_
    clear h2
    rintro e w3 ⟨rfl, hB3⟩
    have kA3 := kA2.below' hB3
    have hb3 := hb2.trans (hB3.mono hb2.size)
    clear kA2
    by_cases g2 : so2 = 0
    · subst g2
      have hb3' : RowKit.Below w.heap.size w (w3.alloc (.cells (cS so1).toArray 24)) := hb3.alloc hb3.size _
      have h3' := h3 _ (hL.below hb3')
      clear h3
      go_wp2_with (fail)
      refine h3'.mono ?_
      clear h3'
      rintro e w4 ⟨rfl, hB4⟩
      have kS4 : Blk w4 w3.heap.size (cS so1).toArray 24 := (Blk.new w3 _ _).below' hB4
      have kA4 := (kA3.alloc (.cells (cS so1).toArray 24)).below' hB4
      have hb4 := hb3'.trans (hB4.mono hb3'.size)
      have hltS := kS4.lt
      have hltA := kA4.lt
      by_cases g3 : ro2 = 0
      · subst g3
        have hpk2 := Hpk.out
        simp only [if_true] at hpk2
        have Hpk2 := Lib.hid hpk2
        clear hpk2 Hpk
        have cS4 := kS4.cell
        have hb4' : RowKit.Below w.heap.size w (w4.alloc (.cells (cR ro1).toArray 43)) := hb4.alloc hb4.size _
        have h5 := awarded_any ro1 so1 c k capF fs (w4.alloc (.cells (cR ro1).toArray 43)) (hFi.below hb4')
        go_wp2_with (fail)
        refine h5.mono ?_
        clear h5
        rintro e w5 ⟨hB5, hres⟩
        have kA5 := (kA4.alloc (.cells (cR ro1).toArray 43)).below' hB5
        have hb5 := hb4'.trans (hB5.mono hb4'.size)
        have hs5 : w.heap.size < (w4.alloc (.cells (cR ro1).toArray 43)).heap.size := by simp; omega
        clear cS4 kS4 kA4 kA3
        have cA := kA5.cell
        have fA := kA5.frozen
        rcases Bool.eq_false_or_eq_true (awOk ro1 so1 fs) with hok | hok
        · rw [if_pos hok] at hres
          obtain ⟨v, ys, rfl, hl, ho⟩ := hres
          have Hok := Lib.hid hok; clear hok
          have ho' := ho
          obtain ⟨a6, cap6, rfl, _, _⟩ := Lst.of_owns (k := 2) (enc := cSh) (fun _ => rfl) (by decide) ho' rfl
          clear ho'
          have Hl := Lib.hid hl; clear hl
          obtain ⟨c1, hc1⟩ : ∃ x, x = awCart ro1 so1 := ⟨_, rfl⟩
          obtain ⟨c2, hc2⟩ : ∃ x, x = awStore ro1 so1 := ⟨_, rfl⟩
          obtain ⟨c3, hc3⟩ : ∃ x, x = awFind ro1 so1 := ⟨_, rfl⟩
          obtain ⟨c4, hc4⟩ : ∃ x, x = awRest ro1 so1 := ⟨_, rfl⟩
          rw [← hc1, ← hc2, ← hc3, ← hc4]
          have Hc1 := Lib.hid hc1
          have Hc2 := Lib.hid hc2
          have Hc3 := Lib.hid hc3
          have Hc4 := Lib.hid hc4
          clear hc1 hc2 hc3 hc4
          go_wp2_with (fail)
          rw [putA]
          (try simp only [Exit.inBlock, Exit.then])
          exact awardOf_fin kA5 hb5 (by rw [Hpk2.out]) (by rw [Hpk2.out]; exact Hok.out) hs5 (by rw [Hpk2.out]) (by rw [Hpk2.out]; exact Hc1.out) (by rw [Hpk2.out]; exact Hc2.out) (by rw [Hpk2.out]; exact Hc3.out) (by rw [Hpk2.out]; exact Hc4.out) (by rw [Hpk2.out]; exact Hl.out) ho rfl rfl
        · rw [if_neg (by rw [hok]; simp)] at hres
          subst hres
          have Hok := Lib.hid hok; clear hok
          go_wp2_with (fail)
          rw [putA0]
          (try simp only [Exit.inBlock, Exit.then])
          exact awardOf_no kA5 hb5 (by rw [Hpk2.out]) (by rw [Hpk2.out]; exact Hok.out) rfl rfl
      · have g0 : (ro2 != 0) = true := by simpa using g3
        have G3 := Lib.hid g3; clear g3
        have hpk2 := Hpk.out
        simp only [if_true, if_neg G3.out] at hpk2
        have cA := kA4.cell
        have fA := kA4.frozen
        have Hpk2 := Lib.hid hpk2
        clear hpk2 Hpk
        go_wp2_with (fail)
        rw [putA0]
        (try simp only [Exit.inBlock, Exit.then])
        exact awardOf_err_alloc kA4 hb4 (by rw [Hpk2.out]; exact G3.out) rfl (by rw [Hpk2.out]; rfl)
    · have g0 : (so2 != 0) = true := by simpa using g2
      have G2 := Lib.hid g2; clear g2
      have hpk2 := Hpk.out
      simp only [if_true, if_neg G2.out] at hpk2
      have cA := kA3.cell
      have fA := kA3.frozen
      have hltA := kA3.lt
      have Hpk2 := Lib.hid hpk2
      clear hpk2 Hpk
      go_wp2_with (fail)
      rw [putA0]
      (try simp only [Exit.inBlock, Exit.then])
      exact awardOf_err_alloc kA3 hb3 (by rw [Hpk2.out]; exact G2.out) rfl (by rw [Hpk2.out]; rfl)
  · have g0 : (cr2 != 0) = true := by simpa using g1
    have G1 := Lib.hid g1; clear g1
    have hpk2 := Hpk.out
    simp only [if_neg G1.out] at hpk2
    have cA := kA2.cell
    have fA := kA2.frozen
    have Hpk2 := Lib.hid hpk2
    clear hpk2 Hpk
    go_wp2_with (fail)
    rw [putA0]
    (try simp only [Exit.inBlock, Exit.then])
    exact awardOf_err kA2 hb2 (by rw [Hpk2.out]; exact G1.out) rfl (by rw [Hpk2.out]; rfl)

end Go.Proofs.YtkeppoiomjhkpaaGreatDoor
