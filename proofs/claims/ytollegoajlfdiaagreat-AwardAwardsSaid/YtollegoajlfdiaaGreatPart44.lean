import Derived.Test.YtollegoajlfdiaaGreatPart39
import Derived.Test.YtollegoajlfdiaaGreatPart31
import Derived.Test.YtollegoajlfdiaaGreatPart27
import Derived.Test.YtollegoajlfdiaaGreatPart37
import Derived.Test.YtollegoajlfdiaaGreatPart34
import Derived.Test.YtollegoajlfdiaaGreatPart38
import Derived.Test.YtollegoajlfdiaaGreatPart36
/-
  Walks: an award, as the reference has it.
-/
namespace Go.Proofs.YtollegoajlfdiaaGreat
open Go.RowKit Lg Go.Sort Go.Shelf Go.Maps

/-- A call hands back an award, its shares in memory of its own, and an error. -/
def GivesU (w : World) (r : (Int × Int × Int × Int × Int) × List Share × Int) (e : Ending) (w' : World) : Prop :=
  ∃ v, e = .returned (.tuple #[.agg #[.int .i64 r.1.1, .int .i64 r.1.2.1, .int .i64 r.1.2.2.1, .int .i64 r.1.2.2.2.1, .int .i64 r.1.2.2.2.2, v], .int .i64 r.2.2]) ∧ w'.ownsRow w.heap.size 69 2 v r.2.1.length (r.2.1.flatMap cSh) ∧ RowKit.Below w.heap.size w w'

theorem GivesU.v {w w' : World} {r : (Int × Int × Int × Int × Int) × List Share × Int} {e : Ending} (h : GivesU w r e w') : GivesV w r e w' := by
  obtain ⟨v, rfl, ho, hb⟩ := h
  obtain ⟨av, cv, rfl, _, hl⟩ := Lst.of_owns (k := 2) (enc := cSh) (fun _ => rfl) (by omega) ho rfl
  exact ⟨av, _, cv, rfl, hl, hb⟩

theorem feesOf_err {r : Rate} {s : Sale} (h : (feesOf r s).2 ≠ 0) : (feesOf r s).2 = 1 := by
  unfold feesOf at h ⊢
  split
  · rename_i hc; rw [if_pos hc] at h; exact absurd rfl h
  · rfl

set_option maxRecDepth 100000 in
set_option maxHeartbeats 6400000 in
theorem awardedR_any (r : Rate) (s : Sale) (a : Option Addr) (n cap : Nat) (fs : List Int) (w : World) (hL : Lst w 1 cI a n cap fs) :
    Calls Tryz.prog 38 #[aR r, aS s, .slice a n cap] w (GivesU w (canA r s fs)) := by
  obtain ⟨v, hv⟩ : ∃ v, v = canA r s fs := ⟨_, rfl⟩
  rw [← hv]
  unfold canA at hv
  have hF := fun W => feesR_any r s W
  have hP := fun W hW => partiesR_any a n cap fs W hW
  obtain ⟨w0, hw0⟩ : ∃ w0, w0 = ((w.alloc (.cells (cR r).toArray 26)).alloc (.cells (cS s).toArray 39)).alloc (.cells cA0.toArray 59) := ⟨_, rfl⟩
  have kR : Blk w0 w.heap.size (cR r).toArray 26 := hw0 ▸ ((Blk.new w _ _).alloc _).alloc _
  have kS : Blk w0 (w.heap.size + 1) (cS s).toArray 39 := by
    have := (Blk.new (w.alloc (.cells (cR r).toArray 26)) 39 (cS s).toArray).alloc (.cells cA0.toArray 59)
    rw [hw0]; simpa using this
  have kA : Blk w0 (w.heap.size + 1 + 1) cA0.toArray 59 := by
    have := Blk.new ((w.alloc (.cells (cR r).toArray 26)).alloc (.cells (cS s).toArray 39)) 59 cA0.toArray
    rw [hw0]; simpa using this
  have hB0 : RowKit.Below w.heap.size w w0 := hw0 ▸ (((Below.refl _ w).alloc (Nat.le_refl _) _).alloc (by simp) _).alloc (by simp; omega) _
  have cR0 := kR.cell
  have cS0 := kS.cell
  by_cases h0 : (feesOf r s).2 = 0
  · cases hp : partiesOk fs with
    | false =>
      have ho : awOk r s fs = false := by unfold awOk; rw [hp, Bool.and_false]
      rw [if_neg (by rw [ho]; simp)] at hv
      subst hv
      rw [h0] at hF
      rw [hp] at hP
      generalize (feesOf r s).1.1 = q1 at *
      generalize (feesOf r s).1.2 = q2 at *
      clear h0 hp ho
      go_enter Tryz.func38, Tryz.ntmps38
      go_wp2_with (fail)
      rw [← hw0]
      clear hw0
      go_wp2_with (fail)
      refine (hF w0).mono ?_
      rintro e w1 ⟨rfl, hB1⟩
      have kA1 := kA.below' hB1
      have hb1 := hB0.trans (hB1.mono hB0.size)
      clear cR0 cS0
      go_wp2_with (fail)
      refine (hP w1 (hL.below hb1)).mono ?_
      rintro e w2 ⟨rfl, hB2⟩
      have kA2 := kA1.below' hB2
      have hb2 := hb1.trans (hB2.mono hb1.size)
      have cA := kA2.cell
      have fA := kA2.frozen
      have lA := kA2.lt
      go_wp2_with (fail)
      have hbl : Blk (w2.setCells (w.heap.size + 1 + 1) 0 cA0) (w.heap.size + 1 + 1) cA0.toArray 59 := by
        have := kA2.setCells 0 cA0
        rw [setAll_A0] at this
        exact this
      rw [putA0]
      (try simp only [Exit.inBlock, Exit.then]); refine bodyPost_ret (results_cell_tmp rfl _ _ (w.heap.size + 1 + 1) 59 cA0 _ rfl hbl Tryz.underlying59 rfl (by kernel_rfl)) rfl ?_
      exact ⟨_, rfl, ⟨by simp, .inl ⟨rfl, rfl⟩⟩, below_setCells hb2 (by omega) _ _⟩
    | true =>
      have ho : awOk r s fs = true := by unfold awOk; rw [hp, decide_eq_true h0]; rfl
      rw [if_pos ho] at hv
      obtain ⟨p1, p2, p3, p4, p5, p6, p7, p8, p9, p10, p11⟩ := fees_bounds h0
      obtain ⟨a1, a2, a3, a4, a5, a6⟩ := aw_bounds h0
      have hRB := awRaw_bounds h0 hp
      obtain ⟨g1, g2, g3, g4⟩ := Lg.partOk_bounds p11
      have hn40 : 1 ≤ n ∧ n ≤ 40 := by
        have h := hp
        unfold partiesOk at h
        simp only [Bool.and_eq_true, inn_iff, hL.len] at h
        omega
      obtain ⟨n1, n2⟩ := hn40
      have hm1 : min (feesOf r s).1.1 s.price = awCart r s := rfl
      have hm2 : min (feesOf r s).1.2 (s.price - awCart r s) = awStore r s := rfl
      have hm3 : min ((s.price * r.finder.num).tdiv r.finder.den) (s.price - awCart r s - awStore r s) = awFind r s := rfl
      have hm4 : s.price - awCart r s - awStore r s - awFind r s = awRest r s := rfl
      have hrw : awRaw r s fs = [Share.mk s.carter (awCart r s), Share.mk s.keeper (awStore r s)] ++ List.zipWith Share.mk fs ((List.range n).map (eqVal (awFind r s) n)) := by rw [← hL.len]; rfl
      have heq := fun W hW => equalR_any (awFind r s) a n cap fs W hW
      have hq1 := equalOf_ok (pence := awFind r s) (l := fs) a5 (by omega) hp
      rw [hL.len] at hq1
      rw [hq1] at heq
      have hpr : 0 ≤ s.price * r.finder.num ∧ s.price * r.finder.num ≤ 1000000000000000 := by
        refine ⟨Int.mul_nonneg (by omega) g1, ?_⟩
        calc s.price * r.finder.num ≤ 1000000000 * r.finder.num := Int.mul_le_mul_of_nonneg_right p6 g1
          _ ≤ 1000000000000000 := by omega
      obtain ⟨hpr1, hpr2⟩ := hpr
      have hz1 : 0 ≤ (s.price * r.finder.num).tdiv r.finder.den ∧ (s.price * r.finder.num).tdiv r.finder.den ≤ 1000000000000000 := by
        rw [Int.tdiv_eq_ediv_of_nonneg hpr1]
        exact ⟨Int.ediv_nonneg hpr1 (by omega), Int.le_trans (Int.ediv_le_self _ hpr1) hpr2⟩
      obtain ⟨hz1, hz2⟩ := hz1
      rw [h0] at hF
      rw [hp] at hP
      obtain ⟨z, hz⟩ : ∃ z, (s.price * r.finder.num).tdiv r.finder.den = z := ⟨_, rfl⟩
      have hz3 : s.price * r.finder.num / r.finder.den = z := by rw [← Int.tdiv_eq_ediv_of_nonneg hpr1]; exact hz
      rw [hz] at hm3 hz1 hz2
      have hY := fun ys (hl : ListOf (sumP (awRaw r s fs)) ys) => awRaw_list ho hl
      generalize (feesOf r s).1.1 = q1 at *
      generalize (feesOf r s).1.2 = q2 at *
      generalize awRaw r s fs = rw0 at *
      generalize awCart r s = c1 at *
      generalize awStore r s = c2 at *
      generalize awFind r s = c3 at *
      generalize awRest r s = c4 at *
      subst hv
      have HRB := Lib.hid hRB
      have HY := Lib.hid hY
      have Hrw := Lib.hid hrw
      have Heq := Lib.hid heq
      have HL := Lib.hid hL
      clear h0 hp ho hq1 hRB hY hrw heq hL p11
      go_enter Tryz.func38, Tryz.ntmps38
      go_wp2_with (fail)
      rw [← hw0]
      clear hw0
      go_wp2_with (fail)
      refine (hF w0).mono ?_
      rintro e w1 ⟨rfl, hB1⟩
      have kA1 := kA.below' hB1
      have kR1 := kR.below' hB1
      have kS1 := kS.below' hB1
      have hb1 := hB0.trans (hB1.mono hB0.size)
      clear cR0 cS0 hF kA kR kS
      go_wp2_with (fail)
      refine (hP w1 (HL.out.below hb1)).mono ?_
      rintro e w2 ⟨rfl, hB2⟩
      have kA2 := kA1.below' hB2
      have kR2 := kR1.below' hB2
      have kS2 := kS1.below' hB2
      have hb2 := hb1.trans (hB2.mono hb1.size)
      clear hB1 hB2 hb1 kA1 kR1 kS1 hP hB0
      have kB : Blk (w2.alloc (.cells #[.int .i64 s.price, .int .i64 0, .int .i64 0, .int .i64 0, .int .i64 0, .slice none 0 0] 59)) w2.heap.size #[.int .i64 s.price, .int .i64 0, .int .i64 0, .int .i64 0, .int .i64 0, .slice none 0 0] 59 := Blk.new _ _ _
      have cB := kB.cell
      have fB := kB.frozen
      have lB := kB.lt
      have cS := kS2.cell
      have cR := fun o => (kR2.alloc o).cell
      have cS' := fun o => (kS2.alloc o).cell
      have l0 := kA2.lt
      go_wp2_with (fail)
      obtain ⟨W3, hW3⟩ : ∃ W3, W3 = w2.alloc (.cells #[.int .i64 s.price, .int .i64 c1, .int .i64 c2, .int .i64 c3, .int .i64 c4, .slice none 0 0] 59) := ⟨_, rfl⟩
      obtain ⟨W4, hW4⟩ : ∃ W4, W4 = W3.alloc (.cells #[.int .i64 s.carter, .int .i64 c1, .int .i64 s.keeper, .int .i64 c2] 69) := ⟨_, rfl⟩
      rw [← hW3, ← hW4]
      clear cB fB lB kB cS cR cS'
      obtain ⟨B, hBn⟩ : ∃ B, B = w2.heap.size := ⟨_, rfl⟩
      have hz3 : W3.heap.size = B + 1 := by rw [hW3, hBn]; simp
      have hz4 : W4.heap.size = B + 2 := by rw [hW4, World.size_alloc, hz3]
      have kB3 : Blk W3 B #[.int .i64 s.price, .int .i64 c1, .int .i64 c2, .int .i64 c3, .int .i64 c4, .slice none 0 0] 59 := by rw [hBn, hW3]; exact Blk.new _ _ _
      have kB4 : Blk W4 B #[.int .i64 s.price, .int .i64 c1, .int .i64 c2, .int .i64 c3, .int .i64 c4, .slice none 0 0] 59 := hW4 ▸ kB3.alloc _
      have kA4 : Blk W4 (w.heap.size + 1 + 1) cA0.toArray 59 := by rw [hW4, hW3]; exact (kA2.alloc _).alloc _
      have hb3 : RowKit.Below w.heap.size w W3 := hW3 ▸ hb2.alloc hb2.size _
      have hb4 : RowKit.Below w.heap.size w W4 := hW4 ▸ hb3.alloc hb3.size _
      have hrow4 : W4.ownsRow (B + 1) 69 2 (.slice (some ⟨B + 1, 0, none⟩) 2 2) 2 ([Share.mk s.carter c1, Share.mk s.keeper c2].flatMap cSh) := by
        have := World.ownsRow_lit (base := B + 1) (size := 2) (e := 69) W3 #[.int .i64 s.carter, .int .i64 c1, .int .i64 s.keeper, .int .i64 c2] 2 (by rw [hz3]; exact Nat.le_refl _) (by unfold maxLen; omega) rfl
        rw [← hW4, hz3] at this
        exact this
      rw [← hBn]
      have hlA : w.heap.size + 1 + 1 < B := by rw [hBn]; exact kA2.lt
      clear hW3 hW4 hb3 kB3 hz3 kA2 kR2 kS2 hb2 l0 hBn
      refine (Heq.out W4 (HL.out.below hb4)).mono ?_
      clear Heq
      rintro e w5 ⟨v5, rfl, ho5, hB5⟩
      dsimp only at ho5 ⊢
      obtain ⟨es, hes⟩ : ∃ es, es = (List.range n).map (eqVal c3 n) := ⟨_, rfl⟩
      rw [← hes] at ho5 Hrw
      have hel : es.length = n := by rw [hes, List.length_map, List.length_range]
      have hee : ∀ k, k < n → es[k]? = some (eqVal c3 n k) := fun k hk => by rw [hes, List.getElem?_map, List.getElem?_range hk]; rfl
      rw [hel] at ho5
      obtain ⟨g5, cv5, rfl, hg5, hgl5⟩ := ho5.form (by omega)
      have Hel := Lib.hid hel
      have Hee := Lib.hid hee
      clear hes hel hee
      have kB5 := kB4.below' hB5
      have kA5 := kA4.below' hB5
      have hrow5 := own_below hrow4 hB5
      have hb5 := hb4.trans (hB5.mono hb4.size)
      have hs5 := hB5.size
      have hcv5 : cv5 ≤ 9223372036854775807 := by
        obtain ⟨_, _, e, _, hl⟩ := Lst.of_owns (k := 1) (enc := cI) (fun _ => rfl) (by omega) ho5 Hel.out
        injection e with _ _ e3
        have := hl.max; unfold maxLen at this; omega
      have hncv : n ≤ cv5 := by
        obtain ⟨_, _, e, _, hl⟩ := Lst.of_owns (k := 1) (enc := cI) (fun _ => rfl) (by omega) ho5 Hel.out
        injection e with _ _ e3
        have := hl.le; omega
      clear kB4 kA4 hrow4 hb4 hB5
      obtain ⟨i1, hj0, hj1, hj2, hj3⟩ := info_parts infoSh
      have hcapm : cap ≤ 9223372036854775807 := by have := HL.out.max; unfold maxLen at this; omega
      have hncap := HL.out.le
      have Hfl := Lib.hid HL.out.len
      obtain ⟨zs, hzs⟩ : ∃ zs, zs = List.zipWith Share.mk fs es := ⟨_, rfl⟩
      rw [← hzs] at Hrw
      have hzl : zs.length = n := by rw [hzs, List.length_zipWith, Hfl.out, Hel.out]; exact Nat.min_self n
      have Hzs := Lib.hid hzs
      have Hzl := Lib.hid hzl
      clear hzs hzl
      go_wp2_with (fail)
      go_loopw [13, 16] (fun o i wr => ∃ k : Nat, k ≤ n ∧ i = .int .i64 k ∧ (o.ownBlock = some (B + 1) ∨ ∃ g, o.ownBlock = some g ∧ w5.heap.size ≤ g) ∧ wr.ownsRow (B + 1) 69 2 o (k + 2) (([Share.mk s.carter c1, Share.mk s.keeper c2] ++ zs.take k).flatMap cSh) ∧
        wr.ownsRow W4.heap.size 3 1 (.slice (some ⟨g5, 0, none⟩) n cv5) n (es.flatMap cI) ∧ Blk wr B #[.int .i64 s.price, .int .i64 c1, .int .i64 c2, .int .i64 c3, .int .i64 c4, .slice none 0 0] 59 ∧ Blk wr (w.heap.size + 1 + 1) cA0.toArray 59 ∧ RowKit.Below w.heap.size w wr ∧ w5.heap.size ≤ wr.heap.size) (fun _ i _ => n - (intOf i).toNat)
      case atStart => exact ⟨0, Nat.zero_le _, rfl, .inl rfl, by simpa using hrow5, ho5, kB5, kA5, hb5, Nat.le_refl _⟩
      case round =>
        clear kB5 kA5 hrow5 hb5 ho5
        obtain ⟨k, hk, rfl, hat0, hrow, hes, kB, kA, hbr, hsr⟩ := hrel
        by_cases hlt : k < n
        · have hkz : (k : Int) < (n : Int) := by omega
          have hk0 : (0 : Int) ≤ (k : Int) := by omega
          obtain ⟨p, hp⟩ : ∃ p, fs[k]? = some p := ⟨fs[k]'(by rw [Hfl.out]; exact hlt), by simp⟩
          have hv := Hee.out k hlt
          obtain ⟨u, hu⟩ : ∃ u, u = eqVal c3 n k := ⟨_, rfl⟩
          rw [← hu] at hv
          obtain ⟨bb, off, rfl, hbb, hrg⟩ := HL.out.at_ k p hp
          have r0 := hrg 0 _ rfl
          simp only [Nat.mul_one, Nat.add_zero] at r0
          have hM : ∀ W, RowKit.Below w.heap.size w W → W.cell? ⟨bb, off + k, none⟩ = some (.int .i64 p) := fun W h => (h.cell (p := ⟨bb, off + k, none⟩) hbb).trans r0
          have hcE : ∀ W : World, W.ownsRow W4.heap.size 3 1 (.slice (some ⟨g5, 0, none⟩) n cv5) n (es.flatMap cI) → W.cell? ⟨g5, k, none⟩ = some (.int .i64 u) := fun W h => by
            have := h.cellAt k (by omega)
            rw [flat_int, List.getElem?_map, hv] at this
            exact this
          have hS : ∀ W, RowKit.Below wr.heap.size wr W → W.cell? ⟨bb, off + k, none⟩ = some (.int .i64 p) ∧ W.cell? ⟨g5, k, none⟩ = some (.int .i64 u) := fun W h => ⟨hM W (hbr.trans (h.mono hbr.size)), hcE W (own_below hes h)⟩
          have htz : zs.take (k + 1) = zs.take k ++ [Share.mk p u] := by
            have hz : zs[k]? = some (Share.mk p u) := by rw [Hzs.out, List.getElem?_zipWith, hp, hv]
            obtain ⟨h1, h2⟩ := List.getElem?_eq_some_iff.1 hz
            rw [List.take_succ_eq_append_getElem h1, h2]
          have HS := Lib.hid hS
          have HM := Lib.hid hM
          have HcE := Lib.hid hcE
          have Htz := Lib.hid htz
          have hne5 : ∀ q, u13.ownBlock = some q → q ≠ g5 := fun q e => by
            rcases hat0 with h | ⟨g, h, hg⟩
            · rw [h] at e; cases e; omega
            · rw [h] at e; cases e; omega
          clear hrg r0 hM hcE hS htz hp hv hu
          generalize zs.take k = zk at *
          have Htl := Lib.hid (show [Share.mk s.carter c1, Share.mk s.keeper c2] ++ zs.take (k + 1) = ([Share.mk s.carter c1, Share.mk s.keeper c2] ++ zk) ++ [Share.mk p u] by rw [Htz.out, List.append_assoc])
          generalize [Share.mk s.carter c1, Share.mk s.keeper c2] ++ zk = lk at *
          go_wp2_with (fail)
          go_region_held3 (fun w' => w'.cell? ⟨bb, off + k, none⟩ = some (.int .i64 p) ∧ w'.cell? ⟨g5, k, none⟩ = some (.int .i64 u))
            (first | (with_reducible exact hSn) | ((with_reducible refine HS.out _ ?_); repeat (first | (with_reducible assumption) | (with_reducible exact Below.refl _ _) | (with_reducible refine Below.alloc ?_ ?_ _) | (with_reducible refine Below.setCell ?_ ?_ _) | (with_reducible refine Below.drew ?_) | omega | (simp <;> omega) | (dsimp only; omega))))
            (first
              | (refine step_append_lies _ (by rfl) _ _ _ (by rfl) (B + 1) 69 i1 _ 2 16 Tryz.underlying45 hj0 hj1 hj2 hj3 rfl (by omega) _ (k + 2) (lk.flatMap cSh) (by rfl) (hrow.alloc _).drew ⟨wr.heap.size, 0, none⟩ 1 1 [.int .i64 p, .int .i64 u] (by rfl) (by rfl) (World.news_of_block (cs := #[.int .i64 p, .int .i64 u]) (t := 69) (fr := (0, 0)) (heap_alloc_new wr _)) (by simp [Value.oneCell']) (by omega) (by unfold maxLen; omega) (by omega) (by simp; omega) _ rfl ?_; intro g cap1 wn hownn hgrow hat hlt1; have hBn := below_of_grown ((hbr.alloc hbr.size _).drew) (Nat.le_refl _) hgrow (fun q e => by have := (hrow.lt q e).1; omega); have hesn := ((hes.alloc _).drew).kept hgrow (.inr (fun e => hne5 g5 e.symm rfl)); have hSn := And.intro (HM.out wn hBn) (HcE.out wn hesn))
              | fail)
          have kBn := ((kB.alloc (.cells #[.int .i64 p, .int .i64 u] 69)).drew).kept hgrow (fun e => by have := (hrow.lt B e.symm).1; omega)
          have kAn := ((kA.alloc (.cells #[.int .i64 p, .int .i64 u] 69)).drew).kept hgrow (fun e => by have := (hrow.lt _ e.symm).1; omega)
          have hatn : (Value.slice (some ⟨g, 0, none⟩) (k + 2 + 1) cap1).ownBlock = some (B + 1) ∨ ∃ g', (Value.slice (some ⟨g, 0, none⟩) (k + 2 + 1) cap1).ownBlock = some g' ∧ w5.heap.size ≤ g' := by
            rcases hat with h | h
            · rcases hat0 with h2 | ⟨g', h2, h3⟩
              · left; rw [h2] at h; simpa [Value.ownBlock] using h.symm
              · right; exact ⟨g, rfl, by rw [h2] at h; simp at h; omega⟩
            · right; exact ⟨g, rfl, by rw [h]; simp; omega⟩
          have hszn : w5.heap.size ≤ wn.heap.size := by have := hgrow.size; simp at this; omega
          go_wp2_with (fail)
          go_roundw
          case rel =>
            refine ⟨k + 1, by omega, by go_num, hatn, ?_, hesn, kBn, kAn, hBn, hszn⟩
            rw [Htl.out, List.flatMap_append]
            exact hownn
          case measure => simp [intOf]; omega
        · obtain rfl : k = n := by omega
          rw [List.take_of_length_le (by rw [Hzl.out]; exact Nat.le_refl _), ← Hrw.out] at hrow
          have hrl : rw0.length = k + 2 := by rw [Hrw.out, List.length_append, Hzl.out]; simp; omega
          obtain ⟨a6, cap6, rfl, _, hl6⟩ := Lst.of_owns (k := 2) (enc := cSh) (fun _ => rfl) (by omega) hrow hrl
          have hmg := mergedR_any a6 (k + 2) cap6 rw0 wr (by omega) hl6 (fun x hx => by have := HRB.out x hx; omega)
          clear hrow hl6 hes hat0
          go_wp2_with (fail)
          refine hmg.mono ?_
          clear hmg
          rintro e w7 ⟨v7, ys, rfl, hf7, ho7, hB7⟩
          have kB7 := kB.below' hB7
          have kA7 := kA.below' hB7
          have hb7 := hbr.trans (hB7.mono hbr.size)
          have Hy := Lib.hid (HY.out ys hf7)
          have hlB := kB.lt
          have hlr := hB7.size
          obtain ⟨a7, cap7, rfl, _, hl7⟩ := Lst.of_owns (k := 2) (enc := cSh) (fun _ => rfl) (by omega) ho7 rfl
          have cB := kB7.cell
          have fB := kB7.frozen
          have cA := kA7.cell
          have fA := kA7.frozen
          have hneA : w.heap.size + 1 + 1 ≠ B := by omega
          clear hf7 HY
          go_wp2_with (fail)
          have hbl : Blk ((w7.setCell ⟨B, 5, none⟩ (.slice a7 ys.length cap7)).setCells (w.heap.size + 1 + 1) 0 [.int .i64 s.price, .int .i64 c1, .int .i64 c2, .int .i64 c3, .int .i64 c4, .slice a7 ys.length cap7]) (w.heap.size + 1 + 1) (#[.int .i64 s.price, .int .i64 c1, .int .i64 c2, .int .i64 c3, .int .i64 c4, .slice a7 ys.length cap7] : Array Value) 59 := by
            have := (kA7.setCell_other hneA 5 (.slice a7 ys.length cap7)).setCells 0 [.int .i64 s.price, .int .i64 c1, .int .i64 c2, .int .i64 c3, .int .i64 c4, .slice a7 ys.length cap7]
            rw [setAll_A] at this
            exact this
          rw [putA]
          (try simp only [Exit.inBlock, Exit.then]); refine bodyPost_ret (results_cell_tmp rfl _ _ (w.heap.size + 1 + 1) 59 [.int .i64 s.price, .int .i64 c1, .int .i64 c2, .int .i64 c3, .int .i64 c4, .slice a7 ys.length cap7] _ rfl hbl Tryz.underlying59 rfl (by kernel_rfl)) rfl ?_
          have ho8 := own_setCells (own_set ho7 hlB 5 (.slice a7 ys.length cap7)) (B := w.heap.size + 1 + 1) (by omega) 0 [.int .i64 s.price, .int .i64 c1, .int .i64 c2, .int .i64 c3, .int .i64 c4, .slice a7 ys.length cap7]
          have hBle : w.heap.size ≤ B := by omega
          have hwle : w.heap.size ≤ w.heap.size + 1 + 1 := by omega
          have hb75 : RowKit.Below w.heap.size w (w7.setCell ⟨B, 5, none⟩ (.slice a7 ys.length cap7)) := hb7.setCell (p := ⟨B, 5, none⟩) hBle _
          have hfin : RowKit.Below w.heap.size w ((w7.setCell ⟨B, 5, none⟩ (.slice a7 ys.length cap7)).setCells (w.heap.size + 1 + 1) 0 [.int .i64 s.price, .int .i64 c1, .int .i64 c2, .int .i64 c3, .int .i64 c4, .slice a7 ys.length cap7]) := below_setCells hb75 hwle 0 _
          rw [← Hy.out]
          exact ⟨_, rfl, ownsRow_base_a ho8 hbr.size, hfin⟩
  · have h1 := feesOf_err h0
    have ho : awOk r s fs = false := by unfold awOk; rw [decide_eq_false h0, Bool.false_and]
    rw [if_neg (by rw [ho]; simp)] at hv
    subst hv
    rw [h1] at hF
    generalize (feesOf r s).1.1 = q1 at *
    generalize (feesOf r s).1.2 = q2 at *
    clear h0 h1 ho hP
    go_enter Tryz.func38, Tryz.ntmps38
    go_wp2_with (fail)
    rw [← hw0]
    clear hw0
    go_wp2_with (fail)
    refine (hF w0).mono ?_
    rintro e w1 ⟨rfl, hB1⟩
    have kA1 := kA.below' hB1
    have hb1 := hB0.trans (hB1.mono hB0.size)
    have cA := kA1.cell
    have fA := kA1.frozen
    have lA := kA1.lt
    clear cR0 cS0
    go_wp2_with (fail)
    have hbl : Blk (w1.setCells (w.heap.size + 1 + 1) 0 cA0) (w.heap.size + 1 + 1) cA0.toArray 59 := by
      have := kA1.setCells 0 cA0
      rw [setAll_A0] at this
      exact this
    rw [putA0]
    (try simp only [Exit.inBlock, Exit.then]); refine bodyPost_ret (results_cell_tmp rfl _ _ (w.heap.size + 1 + 1) 59 cA0 _ rfl hbl Tryz.underlying59 rfl (by kernel_rfl)) rfl ?_
    exact ⟨_, rfl, ⟨by simp, .inl ⟨rfl, rfl⟩⟩, below_setCells hb1 (by omega) _ _⟩

end Go.Proofs.YtollegoajlfdiaaGreat

/-
  Walks: the award of a parcel, as the reference has it.
-/
namespace Go.Proofs.YtollegoajlfdiaaGreat
open Go.RowKit Lg Go.Sort Go.Shelf Go.Maps

theorem canO_err {pk : Int × Rate × Sale} {fs : List Int} (h : pk.1 ≠ 0) : canO pk fs = ((0, 0, 0, 0, 0), [], pk.1) := by
  unfold canO; rw [if_neg h]

theorem givesV_end {w W : World} {e : Int} (h : RowKit.Below w.heap.size w W) : GivesV w (((0, 0, 0, 0, 0), [], e) : (Int × Int × Int × Int × Int) × List Share × Int) (.returned (.tuple #[.agg cA0.toArray, .int .i64 e])) W :=
  ⟨none, 0, 0, rfl, Lst.nil _ _ _, h⟩

theorem cA0_set {w' : World} {B : Nat} (hA : Blk w' B cA0.toArray 59) : Blk (w'.setCells B 0 cA0) B cA0.toArray 59 := by
  have := hA.setCells 0 cA0
  rw [setAll_A0] at this
  exact this

theorem awR_err {w w' : World} {e : Int} {tm : Array Value} (hA : Blk w' w.heap.size cA0.toArray 59) (hb : RowKit.Below w.heap.size w w') (h6 : tm.getD 14 undef = .pointer (some ⟨w.heap.size, 0, none⟩)) (h7 : tm.getD 15 undef = .int .i64 e) :
    bodyPost Tryz.prog Tryz.f39 (GivesV w (((0, 0, 0, 0, 0), [], e) : (Int × Int × Int × Int × Int) × List Share × Int)) .ret { tmps := tm, defers := [] } (w'.setCells w.heap.size 0 cA0) := by
  refine bodyPost_ret (results_cell_tmp rfl tm _ w.heap.size 59 cA0 _ h6 (cA0_set hA) Tryz.underlying59 rfl (by kernel_rfl)) rfl ?_
  rw [h7]
  exact givesV_end (below_setCells hb (Nat.le_refl _) _ _)

theorem awR_err_alloc {w w' : World} {e : Int} {tm : Array Value} {o : Obj} (hA : Blk w' w.heap.size cA0.toArray 59) (hb : RowKit.Below w.heap.size w w') (h6 : tm.getD 14 undef = .pointer (some ⟨w.heap.size, 0, none⟩)) (h7 : tm.getD 15 undef = .int .i64 e) :
    bodyPost Tryz.prog Tryz.f39 (GivesV w (((0, 0, 0, 0, 0), [], e) : (Int × Int × Int × Int × Int) × List Share × Int)) .ret { tmps := tm, defers := [] } ((w'.setCells w.heap.size 0 cA0).alloc o) := by
  refine bodyPost_ret (results_cell_tmp rfl tm _ w.heap.size 59 cA0 _ h6 ((cA0_set hA).alloc _) Tryz.underlying59 rfl (by kernel_rfl)) rfl ?_
  rw [h7]
  exact givesV_end ((below_setCells hb (Nat.le_refl _) _ _).alloc (by rw [size_setCells]; exact hb.size) _)

theorem awR_fin {w w' W5 : World} {tm : Array Value} {c0 c1 c2 c3 c4 er : Int} {v : Value} {ys : List Share} (hA : Blk w' w.heap.size cA0.toArray 59) (hb : RowKit.Below w.heap.size w w') (hs : w.heap.size < W5.heap.size) (ho : w'.ownsRow W5.heap.size 69 2 v ys.length (ys.flatMap cSh))
    (h6 : tm.getD 14 undef = .pointer (some ⟨w.heap.size, 0, none⟩)) (h7 : tm.getD 15 undef = .int .i64 er) :
    bodyPost Tryz.prog Tryz.f39 (GivesV w (((c0, c1, c2, c3, c4), ys, er) : (Int × Int × Int × Int × Int) × List Share × Int)) .ret { tmps := tm, defers := [] } (w'.setCells w.heap.size 0 [.int .i64 c0, .int .i64 c1, .int .i64 c2, .int .i64 c3, .int .i64 c4, v]) := by
  have hbl : Blk (w'.setCells w.heap.size 0 [.int .i64 c0, .int .i64 c1, .int .i64 c2, .int .i64 c3, .int .i64 c4, v]) w.heap.size (#[.int .i64 c0, .int .i64 c1, .int .i64 c2, .int .i64 c3, .int .i64 c4, v] : Array Value) 59 := by
    have := hA.setCells 0 [.int .i64 c0, .int .i64 c1, .int .i64 c2, .int .i64 c3, .int .i64 c4, v]
    rw [setAll_A] at this
    exact this
  refine bodyPost_ret (results_cell_tmp rfl tm _ w.heap.size 59 [.int .i64 c0, .int .i64 c1, .int .i64 c2, .int .i64 c3, .int .i64 c4, v] _ h6 hbl Tryz.underlying59 rfl (by kernel_rfl)) rfl ?_
  rw [h7]
  exact GivesU.v ⟨v, rfl, ownsRow_base_a (own_setCells ho hs 0 _) (Nat.le_of_lt hs), below_setCells hb (Nat.le_refl _) _ _⟩

set_option maxRecDepth 100000 in
set_option maxHeartbeats 6400000 in
theorem awardOfR_any (a : Option Addr) (n cap : Nat) (rs : List Rate) (b : Option Addr) (m capB : Nat) (ss : List Sale) (parcel : Int) (goods : ByteArray) (hour known : Int) (c : Option Addr) (l capC : Nat) (fs : List Int) (w : World) (hn : n ≤ 300) (hm : m ≤ 300) (hR : Lst w 9 cR a n cap rs) (hS : Lst w 9 cS b m capB ss) (hF : Lst w 1 cI c l capC fs) :
    Calls Tryz.prog 39 #[.slice a n cap, .slice b m capB, .int .i64 parcel, .string goods, .int .i64 hour, .int .i64 known, .slice c l capC] w (GivesV w (canO (awPick rs ss parcel goods hour known) fs)) := by
  obtain ⟨v, hv⟩ : ∃ v, v = canO (awPick rs ss parcel goods hour known) fs := ⟨_, rfl⟩
  rw [← hv]
  unfold awPick at hv
  obtain ⟨w0, hw0⟩ : ∃ w0, w0 = w.alloc (.cells cA0.toArray 59) := ⟨_, rfl⟩
  have kA : Blk w0 w.heap.size cA0.toArray 59 := hw0 ▸ Blk.new w _ _
  have hB0 : RowKit.Below w.heap.size w w0 := hw0 ▸ (Below.refl _ w).alloc (Nat.le_refl _) _
  have hcr := fun W (h : RowKit.Below w.heap.size w W) => checkRatesR_any a n cap rs W hn (hR.below h)
  have hcs := fun W (h : RowKit.Below w.heap.size w W) => checkSalesR_any b m capB ss W hm (hS.below h)
  have hso := fun W (h : RowKit.Below w.heap.size w W) => saleOfR_any b m capB ss parcel known W hm (hS.below h)
  have hro := fun W (h : RowKit.Below w.heap.size w W) => rateOfR_any a n cap rs goods hour known W hn (hR.below h)
  have haw := fun r s W (h : RowKit.Below w.heap.size w W) => awardedR_any r s c l capC fs W (hF.below h)
  have hsc : (checkSales ss).2 ≠ 0 → (saleOf ss parcel known).2 = (checkSales ss).2 := fun h => by unfold saleOf; rw [if_neg h]
  clear hR hS hF
  generalize (checkRates rs).1 = r1 at *
  generalize (checkRates rs).2 = r2 at *
  generalize (checkSales ss).1 = s1 at *
  generalize (checkSales ss).2 = s2 at *
  generalize saleOf ss parcel known = so at *
  generalize rateOf rs goods hour known = ro at *
  obtain ⟨so1, so2⟩ := so
  obtain ⟨ro1, ro2⟩ := ro
  dsimp only at hso hro hv hsc
  have Hv := Lib.hid hv
  clear hv
  have Hsc := Lib.hid hsc
  clear hsc
  have Hcs := Lib.hid hcs
  have Hso := Lib.hid hso
  have Hro := Lib.hid hro
  have Haw := Lib.hid haw
  clear hcs hso hro haw
  go_enter Tryz.func39, Tryz.ntmps39
  go_wp2_with (fail)
  rw [← hw0]
  refine (hcr w0 hB0).mono ?_
  clear hcr hw0
  rintro e w1 ⟨rfl, hB1⟩
  have kA1 := kA.below' hB1
  have hb1 := hB0.trans (hB1.mono hB0.size)
  clear kA hB0 hB1
  by_cases q1 : r2 = 0
  · subst q1
    go_wp2_with (fail)
    refine (Hcs.out w1 hb1).mono ?_
    clear Hcs
    rintro e w2 ⟨rfl, hB2⟩
    have kA2 := kA1.below' hB2
    have hb2 := hb1.trans (hB2.mono hb1.size)
    clear kA1 hb1 hB2
    by_cases q2 : s2 = 0
    · subst q2
      clear Hsc
      go_wp2_with (fail)
      refine (Hso.out w2 hb2).mono ?_
      clear Hso
      rintro e w3 ⟨rfl, hB3⟩
      have kA3 := kA2.below' hB3
      have hb3 := hb2.trans (hB3.mono hb2.size)
      clear kA2 hb2 hB3
      by_cases q3 : so2 = 0
      · subst q3
        have hb3' : RowKit.Below w.heap.size w (w3.alloc (.cells (cS so1).toArray 39)) := hb3.alloc hb3.size _
        go_wp2_with (fail)
        refine (Hro.out _ hb3').mono ?_
        clear Hro
        rintro e w4 ⟨rfl, hB4⟩
        have kS4 : Blk w4 w3.heap.size (cS so1).toArray 39 := (Blk.new w3 _ _).below' hB4
        have kA4 := (kA3.alloc (.cells (cS so1).toArray 39)).below' hB4
        have hb4 := hb3'.trans (hB4.mono hb3'.size)
        have hltS := kS4.lt
        have hltA := kA4.lt
        clear hb3' hB4 kA3
        by_cases q4 : ro2 = 0
        · subst q4
          have hv := Hv.out
          simp only [if_true] at hv
          have hv2 : v = canA ro1 so1 fs := by rw [hv]; unfold canO; rfl
          subst hv2
          have cS4 := kS4.cell
          have hb4' : RowKit.Below w.heap.size w (w4.alloc (.cells (cR ro1).toArray 26)) := hb4.alloc hb4.size _
          have h5 := Haw.out ro1 so1 _ hb4'
          generalize canA ro1 so1 fs = v at *
          obtain ⟨⟨c0, c1, c2, c3, c4⟩, ys, er⟩ := v
          clear Haw Hv hv
          go_wp2_with (fail)
          refine h5.mono ?_
          clear h5
          rintro e w5 ⟨v5, rfl, ho5, hB5⟩
          dsimp only at ho5 ⊢
          have kA5 := (kA4.alloc (.cells (cR ro1).toArray 26)).below' hB5
          have hb5 := hb4'.trans (hB5.mono hb4'.size)
          have hs5 : w.heap.size < (w4.alloc (.cells (cR ro1).toArray 26)).heap.size := by simp; omega
          have ho' := ho5
          obtain ⟨a6, cap6, rfl, _, _⟩ := Lst.of_owns (k := 2) (enc := cSh) (fun _ => rfl) (by decide) ho' rfl
          clear cS4 kS4 kA4 ho' hb4'
          have cA := kA5.cell
          have fA := kA5.frozen
          go_wp2_with (fail)
          rw [putA]
          (try simp only [Exit.inBlock, Exit.then])
          exact awR_fin kA5 hb5 hs5 ho5 rfl rfl
        · have g0 : (ro2 != 0) = true := by simpa using q4
          have hv := Hv.out
          simp only [if_true, if_neg q4] at hv
          rw [canO_err (pk := (ro2, zeroRate, zeroSale)) q4] at hv
          subst hv
          have cA := kA4.cell
          have fA := kA4.frozen
          clear Haw Hv q4
          go_wp2_with (fail)
          rw [putA0]
          (try simp only [Exit.inBlock, Exit.then])
          exact awR_err_alloc kA4 hb4 rfl rfl
      · have g0 : (so2 != 0) = true := by simpa using q3
        have hv := Hv.out
        simp only [if_true, if_neg q3] at hv
        rw [canO_err (pk := (so2, zeroRate, zeroSale)) q3] at hv
        subst hv
        have cA := kA3.cell
        have fA := kA3.frozen
        have hltA := kA3.lt
        clear Haw Hv Hro q3
        go_wp2_with (fail)
        rw [putA0]
        (try simp only [Exit.inBlock, Exit.then])
        exact awR_err_alloc kA3 hb3 rfl rfl
    · have g0 : (s2 != 0) = true := by simpa using q2
      have g1 : (s2 == 0) = false := by simpa using q2
      have hsc := Hsc.out q2
      have hv := Hv.out
      rw [hsc] at hv
      simp only [if_true, if_neg q2] at hv
      rw [canO_err (pk := (s2, zeroRate, zeroSale)) q2] at hv
      subst hv
      have cA := kA2.cell
      have fA := kA2.frozen
      clear Haw Hro Hso hsc q2 Hsc Hv
      go_wp2_with (fail)
      rw [putA0]
      (try simp only [Exit.inBlock, Exit.then])
      exact awR_err kA2 hb2 rfl rfl
  · have g0 : (r2 != 0) = true := by simpa using q1
    have g1 : (r2 == 0) = false := by simpa using q1
    have hv := Hv.out
    simp only [if_neg q1] at hv
    rw [canO_err (pk := (r2, zeroRate, zeroSale)) q1] at hv
    subst hv
    have cA := kA1.cell
    have fA := kA1.frozen
    clear Haw Hro Hso Hcs Hsc Hv q1
    go_wp2_with (fail)
    rw [putA0]
    (try simp only [Exit.inBlock, Exit.then])
    exact awR_err kA1 hb1 rfl rfl

end Go.Proofs.YtollegoajlfdiaaGreat

/-
  Walk: the law of awards.
-/
namespace Go.Proofs.YtollegoajlfdiaaGreat
open Go.RowKit Lg Go.Sort Go.Shelf Go.Maps

theorem canA_bd (r : Rate) (s : Sale) (fs : List Int) : (canA r s fs).2.1.length ≤ 1100 ∧ ∀ x ∈ (canA r s fs).2.1, -1000000000000 ≤ x.pence ∧ x.pence ≤ 1000000000000 := by
  unfold canA
  by_cases ho : awOk r s fs = true
  · rw [if_pos ho]
    obtain ⟨h1, h2⟩ := awOk_fees ho
    have hb := awRaw_bounds h1 h2
    have hl : ListOf (sumP (awRaw r s fs)) (mergedR (sumP (awRaw r s fs)) 41) := mergedR_list (sumP_in (fun x h => ⟨(hb x h).1, (hb x h).2.1⟩))
    have hs := aw_shares h1 h2 hl
    have hlen : (mergedR (sumP (awRaw r s fs)) 41).length ≤ 40 := by
      have h3 := asc_len ((mergedR (sumP (awRaw r s fs)) 41).map Share.party) 1 40 hl.1 (fun p hp => by
        obtain ⟨x, hx, rfl⟩ := List.mem_map.1 hp
        have := hs.1 x hx; omega)
      rw [List.length_map] at h3
      omega
    exact ⟨by dsimp only; omega, fun x hx => by have := hs.1 x hx; omega⟩
  · rw [if_neg ho]
    exact ⟨by simp, fun x hx => by cases hx⟩

set_option maxRecDepth 100000 in
set_option maxHeartbeats 25600000 in
theorem lawAwards_any (r : Rate) (s : Sale) (a : Option Addr) (n cap : Nat) (rs : List Rate) (b : Option Addr) (m capB : Nat) (ss : List Sale) (p : Int) (goods : ByteArray) (hour known : Int) (c : Option Addr) (l capC : Nat) (fs : List Int) (party : Int) (w : World) (hR : Lst w 9 cR a n cap rs) (hS : Lst w 9 cS b m capB ss) (hF : Lst w 1 cI c l capC fs) :
    Calls Tryz.prog 8 #[aR r, aS s, .slice a n cap, .slice b m capB, .int .i64 p, .string goods, .int .i64 hour, .int .i64 known, .slice c l capC, .int .i64 party] w (Gives w (.bool true)) := by
  have hp := paid_any
  obtain ⟨w0, hw0⟩ : ∃ w0, w0 = (w.alloc (.cells (cR r).toArray 26)).alloc (.cells (cS s).toArray 39) := ⟨_, rfl⟩
  have kR : Blk w0 w.heap.size (cR r).toArray 26 := hw0 ▸ (Blk.new w _ _).alloc _
  have kS : Blk w0 (w.heap.size + 1) (cS s).toArray 39 := by
    have := Blk.new (w.alloc (.cells (cR r).toArray 26)) 39 (cS s).toArray
    rw [hw0]; simpa using this
  have hB0 : RowKit.Below w.heap.size w w0 := hw0 ▸ ((Below.refl _ w).alloc (Nat.le_refl _) _).alloc (by simp) _
  have cR0 := kR.cell
  have cS0 := kS.cell
  have hf := few_any a n cap rs w0 (hR.below hB0)
  have hs := some_any b m capB w0 (by have := hS.max; have := hS.le; unfold maxLen at *; omega)
  cases h1 : fewOf rs
  · rw [h1] at hf
    clear hR hS hF h1
    go_enter Tryz.func8, Tryz.ntmps8; go_wp2_with (fail); rw [← hw0]; clear hw0; go_wp2_with (first | (go_at_call 15; (with_reducible refine hf.mono ?_); rintro e w5 ⟨rfl, rfl⟩) | (go_at_call 36; (with_reducible refine hs.mono ?_); rintro e w5 ⟨rfl, rfl⟩) | (go_at_call 16; refine (hp _).mono ?_; rintro e w5 ⟨rfl, hB5⟩)); go_ret; exact ⟨rfl, hB0.trans (hB5.mono hB0.size)⟩
  have hn := few_len h1
  rw [hR.len] at hn
  rw [h1] at hf
  clear h1
  cases h2 : someOf m
  · rw [h2] at hs
    clear hR hS hF h2
    go_enter Tryz.func8, Tryz.ntmps8; go_wp2_with (fail); rw [← hw0]; clear hw0; go_wp2_with (first | (go_at_call 15; (with_reducible refine hf.mono ?_); rintro e w5 ⟨rfl, rfl⟩) | (go_at_call 36; (with_reducible refine hs.mono ?_); rintro e w5 ⟨rfl, rfl⟩) | (go_at_call 16; refine (hp _).mono ?_; rintro e w5 ⟨rfl, hB5⟩)); go_ret; exact ⟨rfl, hB0.trans (hB5.mono hB0.size)⟩
  have hm := some_len h2
  rw [h2] at hs
  clear h2
  by_cases h3 : (100 : Int) < (r.goods.size : Int)
  · clear hR hS hF
    go_enter Tryz.func8, Tryz.ntmps8; go_wp2_with (fail); rw [← hw0]; clear hw0; go_wp2_with (first | (go_at_call 15; (with_reducible refine hf.mono ?_); rintro e w5 ⟨rfl, rfl⟩) | (go_at_call 36; (with_reducible refine hs.mono ?_); rintro e w5 ⟨rfl, rfl⟩) | (go_at_call 16; refine (hp _).mono ?_; rintro e w5 ⟨rfl, hB5⟩)); go_ret; exact ⟨rfl, hB0.trans (hB5.mono hB0.size)⟩
  by_cases h4 : (100 : Int) < (goods.size : Int)
  · clear hR hS hF
    go_enter Tryz.func8, Tryz.ntmps8; go_wp2_with (fail); rw [← hw0]; clear hw0; go_wp2_with (first | (go_at_call 15; (with_reducible refine hf.mono ?_); rintro e w5 ⟨rfl, rfl⟩) | (go_at_call 36; (with_reducible refine hs.mono ?_); rintro e w5 ⟨rfl, rfl⟩) | (go_at_call 16; refine (hp _).mono ?_; rintro e w5 ⟨rfl, hB5⟩)); go_ret; exact ⟨rfl, hB0.trans (hB5.mono hB0.size)⟩
  by_cases h5 : (60 : Int) < (l : Int)
  · clear hR hS hF
    go_enter Tryz.func8, Tryz.ntmps8; go_wp2_with (fail); rw [← hw0]; clear hw0; go_wp2_with (first | (go_at_call 15; (with_reducible refine hf.mono ?_); rintro e w5 ⟨rfl, rfl⟩) | (go_at_call 36; (with_reducible refine hs.mono ?_); rintro e w5 ⟨rfl, rfl⟩) | (go_at_call 16; refine (hp _).mono ?_; rintro e w5 ⟨rfl, hB5⟩)); go_ret; exact ⟨rfl, hB0.trans (hB5.mono hB0.size)⟩
  have q1 := fun W (h : RowKit.Below w0.heap.size w0 W) => awarded_v r s c l capC fs W (hF.below (hB0.trans (h.mono hB0.size)))
  have q2 := fun W (h : RowKit.Below w0.heap.size w0 W) => (awardedR_any r s c l capC fs W (hF.below (hB0.trans (h.mono hB0.size)))).mono fun e w' q => GivesU.v q
  have q3 := fun W (h : RowKit.Below w0.heap.size w0 W) => (awardOf_any a n cap rs b m capB ss p goods hour known c l capC fs W (hR.below (hB0.trans (h.mono hB0.size))) (hS.below (hB0.trans (h.mono hB0.size))) (hF.below (hB0.trans (h.mono hB0.size)))).mono fun e w' q => GivesO.v q
  have q4 := fun W (h : RowKit.Below w0.heap.size w0 W) => awardOfR_any a n cap rs b m capB ss p goods hour known c l capC fs W (by omega) (by omega) (hR.below (hB0.trans (h.mono hB0.size))) (hS.below (hB0.trans (h.mono hB0.size))) (hF.below (hB0.trans (h.mono hB0.size)))
  obtain ⟨hy1, hy2⟩ := canA_bd r s fs
  generalize canA r s fs = A at *
  generalize canO (awPick rs ss p goods hour known) fs = O at *
  obtain ⟨⟨a0, a1, a2, a3, a4⟩, ys, ea⟩ := A
  obtain ⟨⟨o0, o1, o2, o3, o4⟩, zs, eo⟩ := O
  dsimp only at hy1 hy2
  have Q1 := Lib.hid q1
  have Q2 := Lib.hid q2
  have Q3 := Lib.hid q3
  have Q4 := Lib.hid q4
  have Hy := Lib.hid hy2
  have HK : Hid (∀ W, RowKit.Below w0.heap.size w0 W → (∀ j, W.cell? ⟨w.heap.size, j, none⟩ = (cR r).toArray[j]?) ∧ (∀ j, W.cell? ⟨w.heap.size + 1, j, none⟩ = (cS s).toArray[j]?)) := Lib.hid fun W h => ⟨(kR.below' h).cell, (kS.below' h).cell⟩
  clear q1 q2 q3 q4 hy2 hR hS hF kR kS
  go_enter Tryz.func8, Tryz.ntmps8
  go_wp2_with (fail)
  rw [← hw0]
  clear hw0
  go_wp2_with (first | (go_at_call 15; (with_reducible refine hf.mono ?_); rintro e w5 ⟨rfl, rfl⟩) | (go_at_call 36; (with_reducible refine hs.mono ?_); rintro e w5 ⟨rfl, rfl⟩) | fail)
  clear hf hs
  refine (Q1.out w0 (Below.refl _ _)).mono ?_
  rintro e w1 ⟨v1, n1, p1, rfl, hL1, hB1⟩
  dsimp only at hL1 ⊢
  have k1 := Blk.new w1 59 #[.int .i64 a0, .int .i64 a1, .int .i64 a2, .int .i64 a3, .int .i64 a4, .slice v1 n1 p1]
  obtain ⟨W1, hW1⟩ : ∃ W1, W1 = w1.alloc (.cells #[.int .i64 a0, .int .i64 a1, .int .i64 a2, .int .i64 a3, .int .i64 a4, .slice v1 n1 p1] 59) := ⟨_, rfl⟩
  have hz1 : RowKit.Below w1.heap.size w1 W1 := hW1 ▸ (Below.refl _ w1).alloc (Nat.le_refl _) _
  rw [← hW1] at k1
  have hL1 := hL1.below hz1
  have hB1 := hB1.trans (hz1.mono hB1.size)
  clear cR0 cS0 hz1
  obtain ⟨cR0, cS0⟩ := HK.out W1 hB1
  have cR1 := fun j => (show (w1.alloc (.cells #[.int .i64 a0, .int .i64 a1, .int .i64 a2, .int .i64 a3, .int .i64 a4, .slice v1 n1 p1] 59)).cell? ⟨w.heap.size, j, none⟩ = (cR r).toArray[j]? by rw [← hW1]; exact cR0 j)
  have cS1 := fun j => (show (w1.alloc (.cells #[.int .i64 a0, .int .i64 a1, .int .i64 a2, .int .i64 a3, .int .i64 a4, .slice v1 n1 p1] 59)).cell? ⟨w.heap.size + 1, j, none⟩ = (cS s).toArray[j]? by rw [← hW1]; exact cS0 j)
  go_wp2_with (fail)
  rw [← hW1]
  clear hW1 cR0 cS0 cR1 cS1
  refine (Q2.out W1 hB1).mono ?_
  rintro e w2 ⟨v2, n2, p2, rfl, hL2, hB2⟩
  dsimp only at hL2 ⊢
  have k1 := k1.below' hB2
  have hL1 := hL1.below hB2
  have hB2 := hB1.trans (hB2.mono hB1.size)
  obtain ⟨B1, hB1n⟩ : ∃ B1, B1 = w1.heap.size := ⟨_, rfl⟩
  rw [← hB1n] at k1 ⊢
  clear hB1n hB1
  have k2 := Blk.new w2 59 #[.int .i64 a0, .int .i64 a1, .int .i64 a2, .int .i64 a3, .int .i64 a4, .slice v2 n2 p2]
  have k1 := k1.alloc (.cells #[.int .i64 a0, .int .i64 a1, .int .i64 a2, .int .i64 a3, .int .i64 a4, .slice v2 n2 p2] 59)
  obtain ⟨W2, hW2⟩ : ∃ W2, W2 = w2.alloc (.cells #[.int .i64 a0, .int .i64 a1, .int .i64 a2, .int .i64 a3, .int .i64 a4, .slice v2 n2 p2] 59) := ⟨_, rfl⟩
  have hz2 : RowKit.Below w2.heap.size w2 W2 := hW2 ▸ (Below.refl _ w2).alloc (Nat.le_refl _) _
  rw [← hW2] at k1 k2
  have hL1 := hL1.below hz2
  have hL2 := hL2.below hz2
  have hB2 := hB2.trans (hz2.mono hB2.size)
  clear hz2
  go_wp2_with (fail)
  rw [← hW2]
  clear hW2
  refine (Q3.out W2 hB2).mono ?_
  rintro e w3 ⟨v3, n3, p3, rfl, hL3, hB3⟩
  dsimp only at hL3 ⊢
  obtain ⟨B2, hB2n⟩ : ∃ B2, B2 = w2.heap.size := ⟨_, rfl⟩
  rw [← hB2n] at k2 ⊢
  have k1 := k1.below' hB3
  have k2 := k2.below' hB3
  have hL1 := hL1.below hB3
  have hL2 := hL2.below hB3
  have hB3 := hB2.trans (hB3.mono hB2.size)
  clear hB2n hB2
  have k3 := Blk.new w3 59 #[.int .i64 o0, .int .i64 o1, .int .i64 o2, .int .i64 o3, .int .i64 o4, .slice v3 n3 p3]
  have k1 := k1.alloc (.cells #[.int .i64 o0, .int .i64 o1, .int .i64 o2, .int .i64 o3, .int .i64 o4, .slice v3 n3 p3] 59)
  have k2 := k2.alloc (.cells #[.int .i64 o0, .int .i64 o1, .int .i64 o2, .int .i64 o3, .int .i64 o4, .slice v3 n3 p3] 59)
  obtain ⟨W3, hW3⟩ : ∃ W3, W3 = w3.alloc (.cells #[.int .i64 o0, .int .i64 o1, .int .i64 o2, .int .i64 o3, .int .i64 o4, .slice v3 n3 p3] 59) := ⟨_, rfl⟩
  have hz3 : RowKit.Below w3.heap.size w3 W3 := hW3 ▸ (Below.refl _ w3).alloc (Nat.le_refl _) _
  rw [← hW3] at k1 k2 k3
  have hL1 := hL1.below hz3
  have hL2 := hL2.below hz3
  have hL3 := hL3.below hz3
  have hB3 := hB3.trans (hz3.mono hB3.size)
  clear hz3
  go_wp2_with (fail)
  rw [← hW3]
  clear hW3
  refine (Q4.out W3 hB3).mono ?_
  rintro e w4 ⟨v4, n4, p4, rfl, hL4, hB4⟩
  dsimp only at hL4 ⊢
  obtain ⟨B3, hB3n⟩ : ∃ B3, B3 = w3.heap.size := ⟨_, rfl⟩
  rw [← hB3n] at k3 ⊢
  have k1 := k1.below' hB4
  have k2 := k2.below' hB4
  have k3 := k3.below' hB4
  have hL1 := hL1.below hB4
  have hL2 := hL2.below hB4
  have hL3 := hL3.below hB4
  have hB4 := hB3.trans (hB4.mono hB3.size)
  clear hB3n hB3
  go_wp2_with (fail)
  obtain ⟨W5, hW5⟩ : ∃ W5, W5 = w4.alloc (.cells #[.int .i64 o0, .int .i64 o1, .int .i64 o2, .int .i64 o3, .int .i64 o4, .slice v4 n4 p4] 59) := ⟨_, rfl⟩
  rw [← hW5]
  have k4 : Blk W5 w4.heap.size #[.int .i64 o0, .int .i64 o1, .int .i64 o2, .int .i64 o3, .int .i64 o4, .slice v4 n4 p4] 59 := by rw [hW5]; exact Blk.new w4 _ _
  have hz : RowKit.Below w4.heap.size w4 W5 := hW5 ▸ (Below.refl _ w4).alloc (Nat.le_refl _) _
  have k1 := k1.below' hz
  have k2 := k2.below' hz
  have k3 := k3.below' hz
  have hL1 := hL1.below hz
  have hL2 := hL2.below hz
  have hL3 := hL3.below hz
  have hL4 := hL4.below hz
  have hB5 := hB4.trans (hz.mono hB4.size)
  obtain ⟨B4, hB4n⟩ : ∃ B4, B4 = w4.heap.size := ⟨_, rfl⟩
  rw [← hB4n] at k4 ⊢
  clear hW5 hz hB4 hB4n
  have g1 := k1.regrown
  have g2 := k2.regrown
  have g3 := k3.regrown
  have g4 := k4.regrown
  have l1 := hL1.len
  have l2 := hL2.len
  have f0 := regrown_call (w := W5) (v := .bool true) (fun W' _ => hp W')
  have f1 := regrown_call (w := W5) (v := .bool true) (fun W' h => sameAward_eq a0 a1 a2 a3 a4 v1 n1 p1 v2 n2 p2 ys W' (hL1.below h) (hL2.below h))
  have f2 := regrown_call (w := W5) (v := .bool true) (fun W' h => sameAward_eq o0 o1 o2 o3 o4 v3 n3 p3 v4 n4 p4 zs W' (hL3.below h) (hL4.below h))
  have f3 := regrown_call (w := W5) (v := .int .i64 (sumP ys party)) (fun W' h => of_any a0 a1 a2 a3 a4 party v1 n1 p1 ys W' (hL1.below h) (by omega) Hy.out)
  have f4 := regrown_call (w := W5) (v := .int .i64 (sumP ys party)) (fun W' h => ofR_any a0 a1 a2 a3 a4 party v2 n2 p2 ys W' (hL2.below h) (by omega) Hy.out)
  generalize sumP ys party = sp at f3 f4
  have b1 : (ea == ea) = true := by simp
  have b2 : (eo == eo) = true := by simp
  have b3 : (sp == sp) = true := by simp
  clear hL1 hL2 hL3 hL4 hp k1 k2 k3 k4 l1 l2 Hy HK Q1 Q2 Q3 Q4
  refine wp_region_quiet_below (by kernel_rfl) (by kernel_rfl) ?_
  repeat (go_big_quiet_step (first | with_reducible exact f0 _ _ | with_reducible exact f1 _ _ | with_reducible exact f2 _ _ | with_reducible exact f3 _ _ | with_reducible exact f4 _ _))
  refine wpQuiet_nil ?_
  intro _ hw'
  obtain ⟨⟨dq, osq⟩, hw''⟩ := hw'
  subst hw''
  go_wp2_with (fail)
  go_ret
  have hB6 := hB5.trans ((below_regrown W5 dq osq).mono hB5.size)
  exact ⟨rfl, hB0.trans (hB6.mono hB0.size)⟩

end Go.Proofs.YtollegoajlfdiaaGreat
