import Derived.Test.YtkeppoiomjhkpaaGreatDoorPart17
import Derived.Test.YtkeppoiomjhkpaaGreatDoorPart38
import Derived.Test.YtkeppoiomjhkpaaGreatDoorPart30
import Derived.Test.YtkeppoiomjhkpaaGreatDoorPart12
import Derived.Test.YtkeppoiomjhkpaaGreatDoorPart05
/-
  Walks: award.ReadRate.
-/
namespace Go.Proofs.YtkeppoiomjhkpaaGreatDoor
open Go.RowKit Lg Go.Sort Go.Shelf

/-- The world in which ReadSale calls read. -/
def rrW (w : World) (line : ByteArray) : World := ((w.alloc (.cells #[.string line] 9)).alloc (.cells #[.int .i64 0, .int .i64 0, .int .i64 0, .string ⟨#[]⟩, .int .i64 0, .int .i64 0, .int .i64 0, .int .i64 0, .int .i64 0] 43)).alloc (.cells #[.int .i64 0, .int .i64 0, .int .i64 0, .string ⟨#[]⟩, .int .i64 0, .int .i64 0, .int .i64 0, .int .i64 0, .int .i64 0] 43)

theorem rrW_size (w : World) (line : ByteArray) : (rrW w line).heap.size = w.heap.size + 1 + 1 + 1 := by simp [rrW]

theorem rrW_below (w : World) (line : ByteArray) : RowKit.Below w.heap.size w (rrW w line) := by
  unfold rrW
  refine Below.alloc (Below.alloc (Below.alloc (Below.refl _ _) ?_ _) ?_ _) ?_ _
  all_goals (simp; try omega)

theorem rdy_ofR (w : World) (line : ByteArray) (hV : Vs w) (hs : line.size ≤ 1000) :
    Rdy (readW (rrW w line) line) (w.heap.size + 1 + 1) w.heap.size ((rrW w line).heap.size + 1) ((rrW w line).heap.size + 1 + 1) (Lib.countB line ⟨#[32]⟩ + 1) line (cutL line.data.toList) := by
  have hB := rrW_below w line
  have hB2 := readW_below (rrW w line) line
  have hB3 := hB.trans (hB2.mono hB.size)
  have kL : Blk (rrW w line) w.heap.size #[.string line] 9 := ((Blk.new w _ _).alloc _).alloc _
  have kW : Blk (readW (rrW w line) line) ((rrW w line).heap.size + 1 + 1) #[.slice (some ⟨(rrW w line).heap.size + 1, 0, none⟩) (Lib.countB line ⟨#[32]⟩ + 1) (Lib.countB line ⟨#[32]⟩ + 1)] 91 := Blk.new2 _ _ _ _ _
  have kS : Blk (readW (rrW w line) line) ((rrW w line).heap.size + 1) ((Lib.splitB ⟨#[32]⟩ 0 (Lib.countB line ⟨#[32]⟩) line).map Value.string).toArray 9 := (Blk.new1 _ _ _ _).alloc _
  have hsz := rrW_size w line
  refine ⟨hV.below hB3, fun g hg => ?_, (kL.below' hB2).cell 0, kW.cell 0, fun i s hi => ?_, ?_, fun s hs2 => ?_, by omega, by omega, by omega⟩
  · have := hV.vars g hg; omega
  · rw [kS.cell i, List.getElem?_toArray, List.getElem?_map, split_words line i s hi]; rfl
  · rw [cutL_len]
  · have := cutL_size line.data.toList s hs2
    have hl : line.data.toList.length = line.size := by rw [Array.length_toList]; rfl
    omega

theorem rr1_enters : ∀ args w, (callFunc 61 args).run Tryz.prog w = .ok (.enter 61 args) w := fun _ _ => by kernel_rfl

/-- What read does for ReadSale. -/
theorem readCallR (line : ByteArray) (y : Rate) (er : Int) (h : ReadsR line y er) (hs : line.size ≤ 1000) (w : World) (hV : Vs w) :
    Calls Tryz.prog 50 #[.string line, .func (.func 61) #[] #[.pointer (some ⟨w.heap.size + 1 + 1, 0, none⟩), .pointer (some ⟨w.heap.size, 0, none⟩)]] (rrW w line) fun e w' =>
      e = .returned (.int .i64 er) ∧ RowKit.Below w.heap.size w w' ∧ Blk w' (w.heap.size + 1) #[.int .i64 0, .int .i64 0, .int .i64 0, .string ⟨#[]⟩, .int .i64 0, .int .i64 0, .int .i64 0, .int .i64 0, .int .i64 0] 43 ∧ (er = 0 → Blk w' (w.heap.size + 1 + 1) (cR y).toArray 43) := by
  have hR := rdy_ofR w line hV hs
  have hB := rrW_below w line
  have hB2 := readW_below (rrW w line) line
  have hB3 := hB.trans (hB2.mono hB.size)
  have hsz := rrW_size w line
  have hV3 := hV.below hB
  have kR : Blk (rrW w line) (w.heap.size + 1) #[.int .i64 0, .int .i64 0, .int .i64 0, .string ⟨#[]⟩, .int .i64 0, .int .i64 0, .int .i64 0, .int .i64 0, .int .i64 0] 43 := (Blk.new1 w _ _ _).alloc _
  have kX : Blk (readW (rrW w line) line) (w.heap.size + 1 + 1) #[.int .i64 0, .int .i64 0, .int .i64 0, .string ⟨#[]⟩, .int .i64 0, .int .i64 0, .int .i64 0, .int .i64 0, .int .i64 0] 43 := (Blk.new2 w _ _ _ _).below' hB2
  have kE : Blk (readW (rrW w line) line) (rrW w line).heap.size #[.int .i64 0] 27 := ((Blk.new _ _ _).alloc _).alloc _
  have kR2 := kR.below' hB2
  have ha : readArgs (rrW w line) line ++ #[.pointer (some ⟨w.heap.size + 1 + 1, 0, none⟩), .pointer (some ⟨w.heap.size, 0, none⟩)] = #[.slice (some ⟨(rrW w line).heap.size + 1, 0, none⟩) (Lib.countB line ⟨#[32]⟩ + 1) (Lib.countB line ⟨#[32]⟩ + 1), .func (.func 85) #[] #[.pointer (some ⟨(rrW w line).heap.size + 1 + 1, 0, none⟩)], .pointer (some ⟨w.heap.size + 1 + 1, 0, none⟩), .pointer (some ⟨w.heap.size, 0, none⟩)] := rfl
  rcases h with ⟨rfl, h1, h2⟩ | ⟨rfl, rfl, h2⟩
  · have hw : cutL line.data.toList = wordsR y := by rw [← h2, cutR h1]
    have hlen : (wordsR y).length = Lib.countB line ⟨#[32]⟩ + 1 := by rw [← hw]; exact hR.len
    have h4 : 4 ≤ (wordsR y).length := by unfold wordsR; split <;> simp
    rw [hw] at hR
    have hR' : Rdy (readW (rrW w line) line) (w.heap.size + 1 + 1) w.heap.size ((rrW w line).heap.size + 1) ((rrW w line).heap.size + 1 + 1) (Lib.countB line ⟨#[32]⟩ + 1) (lineR y) (wordsR y) := by rw [h2]; exact hR
    have hc := readRate1_ok y h1 _ _ _ _ _ _ hR' kX
    rw [← ha] at hc
    refine (read_ok line 61 _ rr1_enters (rrW w line) hV3 (fun w' => Blk w' (w.heap.size + 1 + 1) (cR y).toArray 43 ∧ (readW (rrW w line) line).grownBy w' (some (w.heap.size + 1 + 1))) hs (by omega) (hc.mono fun e w' q => ⟨q.1, kE.kept q.2.2 (by simp; omega), q.2.1, q.2.2⟩)).mono ?_
    rintro e w' ⟨rfl, w1, ⟨k1, g1⟩, rfl⟩
    refine ⟨rfl, (Below.grown hB3 g1 hB3.size (fun k e => by injection e with e; omega)).setCell (p := ⟨_, 0, none⟩) (by show w.heap.size ≤ (rrW w line).heap.size; omega) _, ?_, fun _ => ?_⟩
    · exact (kR2.kept g1 (by simp)).setCell_other (by omega) _ _
    · exact k1.setCell_other (by omega) _ _
  · by_cases hN : 3 ≤ Lib.countB line ⟨#[32]⟩
    · have hc := readRate1_up line h2 _ _ _ _ _ _ _ hR (by omega) kX
      rw [← ha] at hc
      refine (read_up line 61 _ rr1_enters (rrW w line) hV3 (fun w' => (readW (rrW w line) line).grownBy w' (some (w.heap.size + 1 + 1))) hs hN (hc.mono fun e w' q => ⟨q.1, kE.kept q.2 (by simp; omega), q.2⟩)).mono ?_
      rintro e w' ⟨rfl, w1, g1, rfl⟩
      have hb := Below.grown hB3 g1 hB3.size (fun k e => by injection e with e; omega)
      refine ⟨rfl, (hb.alloc hb.size _).setCell (p := ⟨_, 0, none⟩) (by show w.heap.size ≤ (rrW w line).heap.size; omega) _, ?_, fun e => absurd e (by decide)⟩
      exact ((kR2.kept g1 (by simp)).alloc _).setCell_other (by omega) _ _
    · refine (read_short line 61 _ (rrW w line) hV3 hs hN).mono ?_
      rintro e w' ⟨rfl, rfl⟩
      refine ⟨rfl, (hB3.alloc hB3.size _).setCell (p := ⟨_, 0, none⟩) (by show w.heap.size ≤ (rrW w line).heap.size; omega) _, ?_, fun e => absurd e (by decide)⟩
      exact (kR2.alloc _).setCell_other (by omega) _ _

set_option maxRecDepth 100000 in
set_option maxHeartbeats 1600000 in
theorem readRate_any (line : ByteArray) (y : Rate) (er : Int) (h : ReadsR line y er) (hs : line.size ≤ 1000) (w : World) (hV : Vs w) : Calls Tryz.prog 25 #[.string line] w (Gives w (.tuple #[aR y, .int .i64 er])) := by
  have hmf : ∀ (fn : Fn) (first cap : Array Value) (w : World), (Instr.makeFunc fn first cap).run Tryz.prog w = .ok (.func fn first cap) w := fun _ _ _ _ => rfl
  have hc := readCallR line y er h hs w hV
  have her : (er = 0) ∨ (er = 4 ∧ y = zeroRate) := by
    rcases h with ⟨rfl, _, _⟩ | ⟨rfl, rfl, _⟩
    · exact .inl rfl
    · exact .inr ⟨rfl, rfl⟩
  unfold rrW at hc
  clear h hV
  go_enter Tryz.func25, Tryz.ntmps25
  go_wp2_with (fail)
  refine hc.mono ?_
  clear hc
  rintro e w1 ⟨rfl, hB, kR, hX⟩
  have eR := kR.cell
  have gR := kR.frozen
  have lR := kR.lt
  rcases her with rfl | ⟨rfl, rfl⟩
  · have kX := hX rfl
    clear hX
    go_wp2_with (first
      | (refine wpList_load_mid rfl 43 _ rfl (w.heap.size + 1 + 1) 0 rfl (cR y) _ (kX.range 0 _ (fun j v h => by simpa using h)) Tryz.underlying43 rfl (by kernel_rfl) ?_)
      | fail)
    have hbl : Blk (w1.setCells (w.heap.size + 1) 0 (cR y)) (w.heap.size + 1) (cR y).toArray 43 := by
      rw [← setAll_zero y]
      exact kR.setCells 0 (cR y)
    rw [putR]
    (try simp only [Exit.inBlock, Exit.then]); refine bodyPost_ret (results_cell_tmp rfl _ _ (w.heap.size + 1) 43 (cR y) _ rfl hbl Tryz.underlying43 rfl (by kernel_rfl)) rfl ?_
    exact ⟨rfl, below_setCells hB (by omega) _ _⟩
  · clear hX
    go_wp2_with (fail)
    have hbl : Blk (w1.setCells (w.heap.size + 1) 0 (cR zeroRate)) (w.heap.size + 1) (cR zeroRate).toArray 43 := by
      rw [← setAll_zero zeroRate]
      exact kR.setCells 0 (cR zeroRate)
    rw [putR0]
    (try simp only [Exit.inBlock, Exit.then]); refine bodyPost_ret (results_cell_tmp rfl _ _ (w.heap.size + 1) 43 (cR zeroRate) _ rfl hbl Tryz.underlying43 rfl (by kernel_rfl)) rfl ?_
    exact ⟨rfl, below_setCells hB (by omega) _ _⟩

end Go.Proofs.YtkeppoiomjhkpaaGreatDoor

/-
  Walks: the reference's WriteRate.
-/
namespace Go.Proofs.YtkeppoiomjhkpaaGreatDoor
open Go.RowKit Lg Go.Sort Go.Shelf

set_option maxRecDepth 100000 in
set_option maxHeartbeats 6400000 in
theorem writeRateR_any (x : Rate) (w : World) : Calls Tryz.prog 24 #[aR x] w (Gives w (.tuple #[.string (writeR x).1, .int .i64 (writeR x).2])) := by
  have hc := fun W => checkRateR_any x W
  have hB0 : RowKit.Below w.heap.size w (w.alloc (.cells #[.int .i64 x.id, .int .i64 x.known, .int .i64 x.from_, .string x.goods, .int .i64 x.finder.num, .int .i64 x.finder.den, .int .i64 x.cart, .int .i64 x.store, .int .i64 x.of_] 43)) := (Below.refl _ w).alloc (Nat.le_refl _) _
  have k0 := Blk.new w 43 #[.int .i64 x.id, .int .i64 x.known, .int .i64 x.from_, .string x.goods, .int .i64 x.finder.num, .int .i64 x.finder.den, .int .i64 x.cart, .int .i64 x.store, .int .i64 x.of_]
  cases ho : rateOk x with
  | false =>
    rw [ho] at hc
    have hw : writeR x = (⟨#[]⟩, 1) := by unfold writeR; rw [ho]; rfl
    rw [hw]
    clear hw ho k0
    go_enter Tryz.func24, Tryz.ntmps24
    go_wp2_with (fail)
    refine (hc _).mono ?_
    rintro e w1 ⟨rfl, hB1⟩
    go_wp2_with (fail)
    go_ret2
    exact ⟨rfl, hB0.trans (hB1.mono hB0.size)⟩
  | true =>
    rw [ho] at hc
    have hw : writeR x = (lineR x, 0) := by unfold writeR; rw [ho]; rfl
    rw [hw]
    clear hw
    obtain ⟨⟨a1, b1⟩, ⟨a2, b2⟩, ⟨a3, b3⟩, ⟨a4, b4⟩, ⟨a5, b5⟩, ⟨a6, b6⟩, ⟨a7, b7⟩, ⟨a8, b8⟩, hgo⟩ := rateOk_all ho
    obtain ⟨ln, hln⟩ : ∃ ln, ln = lineR x := ⟨_, rfl⟩
    rw [← hln]
    have l1 := nm_len a1 (by omega)
    have l2 := numsL_len [x.known] (by simp; omega)
    have l3 := numsL_len [x.of_] (by simp; omega)
    have l4 := numsL_len [x.from_] (by simp; omega)
    have l5 := numsL_len [x.finder.num, x.finder.den, x.cart, x.store] (by simp; omega)
    simp only [List.length_cons, List.length_nil] at l2 l3 l4 l5
    have A1 := add_ok (a := nm x.id) (b := numsL [x.known]) rfl (by omega) (by omega)
    have A2 := add_ok (a := nm x.id ++ numsL [x.known]) (b := [32, 118, 111, 105, 100]) rfl (by rw [List.length_append]; omega) (by decide)
    obtain ⟨gw, hgw⟩ : ∃ gw, gw = goodsL x.goods := ⟨_, rfl⟩
    have lg : gw.length ≤ 30 := by
      rw [hgw]
      unfold goodsL
      split
      · decide
      · rename_i hg
        by_cases h0 : x.of_ = 0
        · have := hgo h0
          simp only [goodsOk, hg, decide_false, Bool.false_or, Bool.and_eq_true, nameOk, inn_iff] at this
          have h2 := this.1.1.1.2
          have hl : x.goods.data.toList.length = x.goods.size := by rw [Array.length_toList]; rfl
          omega
        · have := congrArg Rate.goods (rateOk_void ho h0)
          exact absurd this hg
    have A4 := add_ok (a := nm x.id ++ numsL [x.known]) (b := [32, 114, 97, 116, 101]) rfl (by rw [List.length_append]; omega) (by decide)
    have A5 := add_ok (a := nm x.id ++ numsL [x.known] ++ [32, 114, 97, 116, 101]) (b := numsL [x.from_]) rfl (by rw [List.length_append, List.length_append]; simp; omega) (by omega)
    have A7 := add_ok (a := nm x.id ++ numsL [x.known] ++ [32, 114, 97, 116, 101] ++ numsL [x.from_]) (b := [32]) rfl (by rw [List.length_append, List.length_append, List.length_append]; simp; omega) (by decide)
    have A8 := add_ok (a := nm x.id ++ numsL [x.known] ++ [32, 114, 97, 116, 101] ++ numsL [x.from_] ++ [32]) (b := gw) rfl (by rw [List.length_append, List.length_append, List.length_append, List.length_append]; simp; omega) (by omega)
    have A3 : x.of_ ≠ 0 → ∀ W, (Op.stringOp .add (ofL (nm x.id ++ numsL [x.known] ++ [32, 118, 111, 105, 100])) (ofL (numsL [x.of_]))).run Tryz.prog W = .ok (.string ln) W := fun h0 => by
      have e : ln = ofL (nm x.id ++ numsL [x.known] ++ [32, 118, 111, 105, 100] ++ numsL [x.of_]) := by
        rw [hln, lineR, wordsR, if_pos h0, lineL_cons]
        simp [tailL, numsL, voidL]
      rw [e]
      exact add_ok rfl (by rw [List.length_append, List.length_append]; simp; omega) (by omega)
    have A6 : x.of_ = 0 → ∀ W, (Op.stringOp .add (ofL (nm x.id ++ numsL [x.known] ++ [32, 114, 97, 116, 101] ++ numsL [x.from_] ++ [32] ++ gw)) (ofL (numsL [x.finder.num, x.finder.den, x.cart, x.store]))).run Tryz.prog W = .ok (.string ln) W := fun h0 => by
      have e : ln = ofL (nm x.id ++ numsL [x.known] ++ [32, 114, 97, 116, 101] ++ numsL [x.from_] ++ [32] ++ gw ++ numsL [x.finder.num, x.finder.den, x.cart, x.store]) := by
        rw [hln, lineR, wordsR, if_neg (by simpa using h0), lineL_cons, ← hgw]
        simp [tailL, numsL, rateL]
      rw [e]
      exact add_ok rfl (by rw [List.length_append, List.length_append, List.length_append, List.length_append, List.length_append]; simp; omega) (by omega)
    have hgc : (x.goods = ⟨#[]⟩ ∧ ofL gw = allS) ∨ (x.goods ≠ ⟨#[]⟩ ∧ ofL gw = x.goods) := by
      rw [hgw]
      unfold goodsL
      by_cases g : x.goods = ⟨#[]⟩
      · rw [if_pos g]; exact .inl ⟨g, rfl⟩
      · rw [if_neg g]; exact .inr ⟨g, rfl⟩
    have Hgc := Lib.hid hgc
    clear hgc hgw lg hgo
    clear hln l1 l2 l3 l4 l5
    obtain ⟨d0, hd0⟩ : ∃ d0, d0 = ofL (nm x.id) := ⟨_, rfl⟩
    obtain ⟨n1, hn1⟩ : ∃ n1, n1 = ofL (numsL [x.known]) := ⟨_, rfl⟩
    obtain ⟨nv, hnv⟩ : ∃ nv, nv = ofL (numsL [x.of_]) := ⟨_, rfl⟩
    obtain ⟨nh, hnh⟩ : ∃ nh, nh = ofL (numsL [x.from_]) := ⟨_, rfl⟩
    obtain ⟨n5, hn5⟩ : ∃ n5, n5 = ofL (numsL [x.finder.num, x.finder.den, x.cart, x.store]) := ⟨_, rfl⟩
    have HD := fun W (q : World) (hq : RowKit.Below q.heap.size q W) => (digits_any 11 x.id W a1 (by omega) (by omega)).mono fun e w' (h : Gives W _ e w') => (⟨h.1, h.2, hq.trans (h.2.mono hq.size)⟩ : e = _ ∧ RowKit.Below W.heap.size W w' ∧ RowKit.Below q.heap.size q w')
    have HN := fun (xs : List Int) (hl : xs.length ≤ 10) (hx : ∀ y ∈ xs, 0 ≤ y ∧ y < 1000000000000) (q W : World) (B : Nat) (hq : RowKit.Below q.heap.size q W) (k : Blk W B (xs.map (Value.int .i64)).toArray 3) => (numbers_any (some ⟨B, 0, none⟩) xs.length xs.length xs W hl hx (Lst.ofI xs (by omega) k)).mono fun e w' (h : Gives W _ e w') => (⟨h.1, h.2, hq.trans (h.2.mono hq.size)⟩ : e = _ ∧ RowKit.Below W.heap.size W w' ∧ RowKit.Below q.heap.size q w')
    have HN1 := HN [x.known] (by simp) (by simp; omega)
    have HNv := HN [x.of_] (by simp) (by simp; omega)
    have HNh := HN [x.from_] (by simp) (by simp; omega)
    have HN5 := HN [x.finder.num, x.finder.den, x.cart, x.store] (by simp) (by simp; omega)
    rw [← hd0] at HD A1
    rw [← hn1] at HN1 A1
    rw [← hnv] at HNv A3
    rw [← hnh] at HNh A5
    rw [← hn5] at HN5 A6
    generalize ofL (nm x.id ++ numsL [x.known]) = s1 at *
    generalize ofL (nm x.id ++ numsL [x.known] ++ [32, 118, 111, 105, 100]) = s2 at *
    generalize ofL (nm x.id ++ numsL [x.known] ++ [32, 114, 97, 116, 101] ++ numsL [x.from_] ++ [32] ++ gw) = s7 at *
    generalize ofL (nm x.id ++ numsL [x.known] ++ [32, 114, 97, 116, 101] ++ numsL [x.from_] ++ [32]) = s6 at *
    generalize ofL (nm x.id ++ numsL [x.known] ++ [32, 114, 97, 116, 101] ++ numsL [x.from_]) = s5 at *
    generalize ofL (nm x.id ++ numsL [x.known] ++ [32, 114, 97, 116, 101]) = s3 at *
    generalize ofL gw = gb at *
    simp only [List.map_cons, List.map_nil, List.length_cons, List.length_nil] at HN1 HNv HNh HN5
    have HD := Lib.hid HD
    have HN1 := Lib.hid HN1
    have HNv := Lib.hid HNv
    have HNh := Lib.hid HNh
    have HN5 := Lib.hid HN5
    clear HN hd0 hn1 hnv hnh hn5 a1 b1 a2 b2 a3 b3 a4 b4 a5 b5 a6 b6 a7 b7 a8 b8
    have A3 := Lib.hid A3
    have A6 := Lib.hid A6
    have A2 := Lib.hid A2
    have A4 := Lib.hid A4
    have A5 := Lib.hid A5
    have A7 := Lib.hid A7
    have A8 := Lib.hid A8
    clear ho
    go_enter Tryz.func24, Tryz.ntmps24
    go_wp2_with (fail)
    refine (hc _).mono ?_
    clear hc
    rintro e w1 ⟨rfl, hB1⟩
    have k1 := k0.below' hB1
    clear k0
    have hB1 := hB0.trans (hB1.mono hB0.size)
    clear hB0
    obtain ⟨bx, hbx⟩ : ∃ bx, bx = w.heap.size := ⟨_, rfl⟩
    rw [← hbx] at k1 ⊢
    clear hbx
    have HC := Lib.hid (fun W (h : RowKit.Below w1.heap.size w1 W) => (k1.below' h).cell)
    have HS : ∀ W, RowKit.Below w1.heap.size w1 W → W.cell? ⟨bx, 0, none⟩ = some (.int .i64 x.id) ∧ W.cell? ⟨bx, 1, none⟩ = some (.int .i64 x.known) := fun W h => ⟨HC.out W h 0, HC.out W h 1⟩
    have HS := Lib.hid HS
    clear k1
    go_upto_region 4 with fail
    go_cut [5] (fun c5 W => c5 = .string s1 ∧ RowKit.Below w1.heap.size w1 W)
    case first =>
      go_region_held3 (fun w' => w'.cell? ⟨bx, 0, none⟩ = some (.int .i64 x.id) ∧ w'.cell? ⟨bx, 1, none⟩ = some (.int .i64 x.known))
        (((with_reducible refine HS.out _ ?_); repeat (first | (with_reducible assumption) | (with_reducible exact Below.refl _ _) | (with_reducible refine Below.alloc ?_ ?_ _) | (with_reducible refine Below.setCell ?_ ?_ _) | (with_reducible refine Below.drew ?_) | omega | (simp <;> omega) | (dsimp only; omega))))
        (first
          | (go_at_call 48; (with_reducible refine (HD.out _ w1 (by repeat (first | (with_reducible assumption) | (with_reducible exact Below.refl _ _) | (with_reducible refine Below.alloc ?_ ?_ _) | (with_reducible refine Below.setCell ?_ ?_ _) | (with_reducible refine Below.drew ?_) | omega | (simp <;> omega) | (dsimp only; omega)))).mono ?_); rintro e w3 ⟨rfl, hBd, hbd⟩; have hsd := hbd.size)
          | (go_at_call 49; (with_reducible refine (HN1.out w1 _ _ (by repeat (first | (with_reducible assumption) | (with_reducible exact Below.refl _ _) | (with_reducible refine Below.alloc ?_ ?_ _) | (with_reducible refine Below.setCell ?_ ?_ _) | (with_reducible refine Below.drew ?_) | omega | (simp <;> omega) | (dsimp only; omega))) (by repeat (first | (with_reducible assumption) | (with_reducible exact Blk.new _ _ _) | (with_reducible exact Blk.new1 _ _ _ _) | (with_reducible exact Blk.new2 _ _ _ _ _) | (with_reducible exact Blk.new3 _ _ _ _ _ _) | (with_reducible refine Blk.alloc ?_ _) | (with_reducible refine Blk.drew ?_) | (with_reducible refine Blk.below' ?_ hBd) | (with_reducible refine Blk.below' ?_ hBa) | (with_reducible refine Blk.below' ?_ hBb)))).mono ?_); rintro e w4 ⟨rfl, hBa, hba⟩; have hsa := hba.size)
          | fail)
      all_goals
        go_wp2_with fail
        go_meet
        exact ⟨rfl, by repeat (first | (with_reducible assumption) | (with_reducible exact Below.refl _ _) | (with_reducible refine Below.alloc ?_ ?_ _) | (with_reducible refine Below.setCell ?_ ?_ _) | (with_reducible refine Below.drew ?_) | omega | (simp <;> omega) | (dsimp only; omega))⟩
    case rest =>
      obtain ⟨rfl, hC⟩ := hcut
      obtain ⟨w8, hw8⟩ : ∃ w8, w8 = wc := ⟨_, rfl⟩
      rw [← hw8] at hC ⊢
      clear hw8 HS HN1 HD
      have hC0 := hB1.trans (hC.mono hB1.size)
      have HC8 := Lib.hid (fun W (h : RowKit.Below w8.heap.size w8 W) => HC.out W (hC.trans (h.mono hC.size)))
      clear HC
      have c8 : w8.cell? ⟨bx, 8, none⟩ = some (.int .i64 x.of_) := HC8.out _ (Below.refl _ _) 8
      by_cases h0 : x.of_ = 0
      · have hz : (x.of_ != 0) = false := by simpa using h0
        have A6 := A6.out h0
        have A4 := A4.out
        have A5 := A5.out
        have A7 := A7.out
        have A8 := A8.out
        have H0 := Lib.hid h0
        clear h0 A3 A2 HNv
        have c3 : w8.cell? ⟨bx, 3, none⟩ = some (.string x.goods) := HC8.out _ (Below.refl _ _) 3
        have HS : ∀ W, RowKit.Below w8.heap.size w8 W → W.cell? ⟨bx, 2, none⟩ = some (.int .i64 x.from_) ∧ W.cell? ⟨bx, 4, none⟩ = some (.int .i64 x.finder.num) ∧ W.cell? ⟨bx, 5, none⟩ = some (.int .i64 x.finder.den) ∧ W.cell? ⟨bx, 6, none⟩ = some (.int .i64 x.cart) ∧ W.cell? ⟨bx, 7, none⟩ = some (.int .i64 x.store) := fun W h => ⟨HC8.out W h 2, HC8.out W h 4, HC8.out W h 5, HC8.out W h 6, HC8.out W h 7⟩
        have HS := Lib.hid HS
        clear HC8
        rcases Hgc.out with ⟨g1, rfl⟩ | ⟨g1, rfl⟩
        · have hge := isEmpty_of_goods g1
          clear g1 Hgc
          unfold allS at A8
          go_upto_region 10 with fail
          clear c8 c3
          go_region_held3 (fun w' => w'.cell? ⟨bx, 2, none⟩ = some (.int .i64 x.from_) ∧ w'.cell? ⟨bx, 4, none⟩ = some (.int .i64 x.finder.num) ∧ w'.cell? ⟨bx, 5, none⟩ = some (.int .i64 x.finder.den) ∧ w'.cell? ⟨bx, 6, none⟩ = some (.int .i64 x.cart) ∧ w'.cell? ⟨bx, 7, none⟩ = some (.int .i64 x.store))
            (((with_reducible refine HS.out _ ?_); repeat (first | (with_reducible assumption) | (with_reducible exact Below.refl _ _) | (with_reducible refine Below.alloc ?_ ?_ _) | (with_reducible refine Below.setCell ?_ ?_ _) | (with_reducible refine Below.drew ?_) | omega | (simp <;> omega) | (dsimp only; omega))))
            (first
              | (go_at_call 49; (with_reducible refine (HNh.out w8 _ _ (by repeat (first | (with_reducible assumption) | (with_reducible exact Below.refl _ _) | (with_reducible refine Below.alloc ?_ ?_ _) | (with_reducible refine Below.setCell ?_ ?_ _) | (with_reducible refine Below.drew ?_) | omega | (simp <;> omega) | (dsimp only; omega))) (by repeat (first | (with_reducible assumption) | (with_reducible exact Blk.new _ _ _) | (with_reducible exact Blk.new1 _ _ _ _) | (with_reducible exact Blk.new2 _ _ _ _ _) | (with_reducible exact Blk.new3 _ _ _ _ _ _) | (with_reducible refine Blk.alloc ?_ _) | (with_reducible refine Blk.drew ?_) | (with_reducible refine Blk.below' ?_ hBd) | (with_reducible refine Blk.below' ?_ hBa) | (with_reducible refine Blk.below' ?_ hBb)))).mono ?_); rintro e w3 ⟨rfl, hBa, hba⟩; have hsa := hba.size)
              | (go_at_call 49; (with_reducible refine (HN5.out w8 _ _ (by repeat (first | (with_reducible assumption) | (with_reducible exact Below.refl _ _) | (with_reducible refine Below.alloc ?_ ?_ _) | (with_reducible refine Below.setCell ?_ ?_ _) | (with_reducible refine Below.drew ?_) | omega | (simp <;> omega) | (dsimp only; omega))) (by repeat (first | (with_reducible assumption) | (with_reducible exact Blk.new _ _ _) | (with_reducible exact Blk.new1 _ _ _ _) | (with_reducible exact Blk.new2 _ _ _ _ _) | (with_reducible exact Blk.new3 _ _ _ _ _ _) | (with_reducible refine Blk.alloc ?_ _) | (with_reducible refine Blk.drew ?_) | (with_reducible refine Blk.below' ?_ hBd) | (with_reducible refine Blk.below' ?_ hBa) | (with_reducible refine Blk.below' ?_ hBb)))).mono ?_); rintro e w4 ⟨rfl, hBb, hbb⟩; have hsb := hbb.size)
              | fail)
          all_goals
            go_wp2_with fail
            go_ret2
            exact ⟨rfl, hC0.trans (RowKit.Below.mono (by repeat (first | (with_reducible assumption) | (with_reducible exact Below.refl _ _) | (with_reducible refine Below.alloc ?_ ?_ _) | (with_reducible refine Below.setCell ?_ ?_ _) | (with_reducible refine Below.drew ?_) | omega | (simp <;> omega) | (dsimp only; omega))) hC0.size)⟩
        · have hge := isEmpty_of_goods_ne g1
          clear g1 Hgc
          go_upto_region 10 with fail
          clear c8 c3
          go_region_held3 (fun w' => w'.cell? ⟨bx, 2, none⟩ = some (.int .i64 x.from_) ∧ w'.cell? ⟨bx, 4, none⟩ = some (.int .i64 x.finder.num) ∧ w'.cell? ⟨bx, 5, none⟩ = some (.int .i64 x.finder.den) ∧ w'.cell? ⟨bx, 6, none⟩ = some (.int .i64 x.cart) ∧ w'.cell? ⟨bx, 7, none⟩ = some (.int .i64 x.store))
            (((with_reducible refine HS.out _ ?_); repeat (first | (with_reducible assumption) | (with_reducible exact Below.refl _ _) | (with_reducible refine Below.alloc ?_ ?_ _) | (with_reducible refine Below.setCell ?_ ?_ _) | (with_reducible refine Below.drew ?_) | omega | (simp <;> omega) | (dsimp only; omega))))
            (first
              | (go_at_call 49; (with_reducible refine (HNh.out w8 _ _ (by repeat (first | (with_reducible assumption) | (with_reducible exact Below.refl _ _) | (with_reducible refine Below.alloc ?_ ?_ _) | (with_reducible refine Below.setCell ?_ ?_ _) | (with_reducible refine Below.drew ?_) | omega | (simp <;> omega) | (dsimp only; omega))) (by repeat (first | (with_reducible assumption) | (with_reducible exact Blk.new _ _ _) | (with_reducible exact Blk.new1 _ _ _ _) | (with_reducible exact Blk.new2 _ _ _ _ _) | (with_reducible exact Blk.new3 _ _ _ _ _ _) | (with_reducible refine Blk.alloc ?_ _) | (with_reducible refine Blk.drew ?_) | (with_reducible refine Blk.below' ?_ hBd) | (with_reducible refine Blk.below' ?_ hBa) | (with_reducible refine Blk.below' ?_ hBb)))).mono ?_); rintro e w3 ⟨rfl, hBa, hba⟩; have hsa := hba.size)
              | (go_at_call 49; (with_reducible refine (HN5.out w8 _ _ (by repeat (first | (with_reducible assumption) | (with_reducible exact Below.refl _ _) | (with_reducible refine Below.alloc ?_ ?_ _) | (with_reducible refine Below.setCell ?_ ?_ _) | (with_reducible refine Below.drew ?_) | omega | (simp <;> omega) | (dsimp only; omega))) (by repeat (first | (with_reducible assumption) | (with_reducible exact Blk.new _ _ _) | (with_reducible exact Blk.new1 _ _ _ _) | (with_reducible exact Blk.new2 _ _ _ _ _) | (with_reducible exact Blk.new3 _ _ _ _ _ _) | (with_reducible refine Blk.alloc ?_ _) | (with_reducible refine Blk.drew ?_) | (with_reducible refine Blk.below' ?_ hBd) | (with_reducible refine Blk.below' ?_ hBa) | (with_reducible refine Blk.below' ?_ hBb)))).mono ?_); rintro e w4 ⟨rfl, hBb, hbb⟩; have hsb := hbb.size)
              | fail)
          all_goals
            go_wp2_with fail
            go_ret2
            exact ⟨rfl, hC0.trans (RowKit.Below.mono (by repeat (first | (with_reducible assumption) | (with_reducible exact Below.refl _ _) | (with_reducible refine Below.alloc ?_ ?_ _) | (with_reducible refine Below.setCell ?_ ?_ _) | (with_reducible refine Below.drew ?_) | omega | (simp <;> omega) | (dsimp only; omega))) hC0.size)⟩
      · have hz : (x.of_ != 0) = true := by simpa using h0
        have A3 := A3.out h0
        have A2 := A2.out
        have H0 := Lib.hid h0
        clear h0 A6 A4 A5 A7 A8 HNh HN5 HC8 Hgc
        go_wp2_with (first
          | (go_at_call 49; (with_reducible refine (HNv.out w8 _ _ (by repeat (first | (with_reducible assumption) | (with_reducible exact Below.refl _ _) | (with_reducible refine Below.alloc ?_ ?_ _) | (with_reducible refine Below.setCell ?_ ?_ _) | (with_reducible refine Below.drew ?_) | omega | (simp <;> omega) | (dsimp only; omega))) (by repeat (first | (with_reducible assumption) | (with_reducible exact Blk.new _ _ _) | (with_reducible exact Blk.new1 _ _ _ _) | (with_reducible exact Blk.new2 _ _ _ _ _) | (with_reducible exact Blk.new3 _ _ _ _ _ _) | (with_reducible refine Blk.alloc ?_ _) | (with_reducible refine Blk.drew ?_) | (with_reducible refine Blk.below' ?_ hBd) | (with_reducible refine Blk.below' ?_ hBa) | (with_reducible refine Blk.below' ?_ hBb)))).mono ?_); rintro e w3 ⟨rfl, hBa, hba⟩; have hsa := hba.size)
          | fail)
        go_ret2
        exact ⟨rfl, hC0.trans (hba.mono hC0.size)⟩

end Go.Proofs.YtkeppoiomjhkpaaGreatDoor
